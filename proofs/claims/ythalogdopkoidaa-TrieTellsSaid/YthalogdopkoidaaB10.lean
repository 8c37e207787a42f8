/- Stretches of pairs: their groups. No statement of the seat's in it. -/
import Derived.Test.YthalogdopkoidaaB9
set_option linter.unusedVariables false
namespace Go.Proofs.Ythalogdopkoidaa.Ab
open Go Go.RowKit

def Fu (s : Sx) (f : Nat) : Prop := ∀ x ∈ s, x.1.length < f

theorem sg_mem {ps : List Pr} {a b at_ : Nat} (hb : b ≤ ps.length) {z : List UInt8 × List UInt8} (hz : z ∈ sg ps a b at_) : ∃ i, ∃ (h1 : a ≤ i) (h2 : i < b), z = ((nib (ps[i]).key).drop at_, (ps[i]).value) := by
  obtain ⟨j, hj, rfl⟩ := List.getElem_of_mem hz
  rw [sg_length _ _ _ _ hb] at hj
  exact ⟨a + j, by omega, by omega, sg_get ps a b at_ hb j hj⟩
theorem sg_in {ps : List Pr} {a b at_ i : Nat} (hb : b ≤ ps.length) (h1 : a ≤ i) (h2 : i < b) : ((nib (ps[i]).key).drop at_, (ps[i]).value) ∈ sg ps a b at_ := by
  have := sg_get ps a b at_ hb (i - a) (by omega)
  simp only [show a + (i - a) = i by omega] at this
  rw [← this]
  exact List.getElem_mem _

theorem Seg.part {ps : List Pr} {a b at_ : Nat} (h : Seg ps a b at_) {m e : Nat} (h1 : a ≤ m) (h2 : m < e) (h3 : e ≤ b) : Seg ps m e at_ := by
  refine ⟨h2, by have := h.le; omega, fun i g1 g2 => h.len i (by omega) (by omega), ?_⟩
  have h0 := h.ris
  rw [sg_split ps a m b at_ h1 (by omega), sg_split ps m e b at_ (by omega) h3] at h0
  exact h0.right.left

theorem Seg.ris' {ps : List Pr} {a b at_ : Nat} (h : Seg ps a b at_) {m : Nat} (h1 : a ≤ m) (h2 : m ≤ b) : Ris (sg ps m b at_) := by
  have h0 := h.ris
  rw [sg_split ps a m b at_ h1 h2] at h0
  exact h0.right

/-- All of a stretch go on with the same nibble. -/
theorem Seg.down {ps : List Pr} {a b at_ : Nat} (h : Seg ps a b at_) {c : UInt8} (hc : ∀ i, a ≤ i → (h2 : i < b) → (nib (ps[i]'(by have := h.le; omega)).key)[at_]? = some c) : Seg ps a b (at_ + 1) := by
  refine ⟨h.lt, h.le, fun i g1 g2 => ?_, ?_⟩
  · have := hc i g1 g2
    have := (List.getElem?_eq_some_iff.1 this).1
    omega
  · rw [← sg_cut]
    refine h.ris.cut (p := [c]) fun z hz => ?_
    obtain ⟨i, g1, g2, rfl⟩ := sg_mem h.le hz
    have := hc i g1 g2
    obtain ⟨hl, he⟩ := List.getElem?_eq_some_iff.1 this
    dsimp only
    rw [List.drop_eq_getElem_cons hl, he]
    exact ⟨_, rfl⟩

/-- The first group. -/
theorem groups_sg {ps : List Pr} {a m b at_ : Nat} {c : UInt8} (hb : b ≤ ps.length) (h1 : a < m) (h2 : m ≤ b) (hc : ∀ i, a ≤ i → (h : i < m) → (nib (ps[i]).key)[at_]? = some c)
    (hn : (h : m < b) → (nib (ps[m]).key)[at_]? ≠ some c ∧ at_ < (nib (ps[m]).key).length) : groups (sg ps a b at_) = (c, sg ps a m (at_ + 1)) :: groups (sg ps m b at_) := by
  rw [sg_split ps a m b at_ (by omega) h2, groups_run c (sg ps a m at_) (sg ps m b at_) ?_ ?_ ?_, sg_cut]
  · rw [sg_cons ps a m at_ h1 (by omega)]; simp
  · intro z hz
    obtain ⟨i, g1, g2, rfl⟩ := sg_mem (by omega) hz
    dsimp only
    rw [List.head?_drop]
    exact hc i g1 g2
  · intro z hz
    by_cases hm : m < b
    · rw [sg_cons ps m b at_ hm hb] at hz
      simp only [List.head?_cons, Option.some.injEq] at hz
      subst hz
      obtain ⟨k1, k2⟩ := hn hm
      dsimp only
      rw [List.head?_drop]
      refine ⟨k1, fun e => ?_⟩
      have := congrArg List.length e
      simp at this
      omega
    · have : m = b := by omega
      subst this
      rw [sg_nil] at hz
      cases hz

theorem lst_sg {ps : List Pr} {a b at_ : Nat} (h1 : a + 1 < b) (hb : b ≤ ps.length) {y : List UInt8 × List UInt8} {r : Sx} (h : sg ps (a + 1) b at_ = y :: r) : lst y r = ((nib (ps[b - 1]).key).drop at_, (ps[b - 1]).value) := by
  have hl := sg_length ps (a + 1) b at_ hb
  rw [h] at hl
  have : lst y r = (y :: r)[r.length] := by
    unfold lst
    rw [← List.getLast_eq_getLastD (a := y) (l := r) (by simp), List.getLast_eq_getElem]
    rfl
  rw [this]
  simp at hl
  have hg := sg_get ps (a + 1) b at_ hb (b - (a + 1) - 1) (by omega)
  have e2 : a + 1 + (b - (a + 1) - 1) = b - 1 := by omega
  simp only [e2] at hg
  rw [← hg]
  simp only [h]
  congr 1
  omega

/-- A stretch of two or more. -/
theorem sg_two {ps : List Pr} {a b at_ : Nat} (h1 : a + 1 < b) (hb : b ≤ ps.length) : ∃ y r, sg ps (a + 1) b at_ = y :: r ∧ sg ps a b at_ = ((nib (ps[a]).key).drop at_, (ps[a]).value) :: y :: r ∧ lst y r = ((nib (ps[b - 1]).key).drop at_, (ps[b - 1]).value) := by
  have e := sg_cons ps (a + 1) b at_ h1 hb
  exact ⟨_, _, e, by rw [sg_cons ps a b at_ (by omega) hb, e], lst_sg h1 hb e⟩

theorem Seg.ext_ {ps : List Pr} {a b at_ : Nat} (h : Seg ps a b at_) (h2 : a + 1 < b) (hb : b ≤ ps.length) {c : Nat} (hc : c = com ((nib (ps[a]).key).drop at_) ((nib (ps[b - 1]).key).drop at_)) : Seg ps a b (at_ + c) := by
  obtain ⟨y, r, e1, e2, e3⟩ := sg_two (at_ := at_) h2 hb
  have hr := h.ris
  rw [e2] at hr
  have hcom := hr.common
  rw [e3] at hcom
  rw [← hc] at hcom
  have hlen : (((nib (ps[a]).key).drop at_).take c).length = c := by
    rw [List.length_take]
    have := com_left ((nib (ps[a]).key).drop at_) ((nib (ps[b - 1]).key).drop at_)
    omega
  refine ⟨h.lt, h.le, fun i g1 g2 => ?_, ?_⟩
  · have hm := hcom _ (e2 ▸ sg_in h.le g1 g2)
    have := hm.length_le
    rw [hlen] at this
    dsimp only at this
    rw [List.length_drop] at this
    have := h.len i g1 g2
    omega
  · rw [← sg_cut, e2]
    have := hr.cut hcom
    rwa [hlen] at this

theorem bld_one (f : Nat) (x : List UInt8 × List UInt8) (k : Nat) : bld (f + 1) [x] k = [⟨1, x.1, true, x.2, zk⟩] := rfl
theorem bld_ext (f : Nat) (x y : List UInt8 × List UInt8) (r : Sx) (k : Nat) (h : 0 < com x.1 (lst y r).1) :
    bld (f + 1) (x :: y :: r) k = ⟨2, x.1.take (com x.1 (lst y r).1), false, [], zk.set 0 ((k + 1 : Nat) : Int)⟩ :: bld f ((x :: y :: r).map (cut (com x.1 (lst y r).1))) (k + 1) := by
  rw [bld]; simp only [if_pos h]
theorem bld_brn (f : Nat) (x y : List UInt8 × List UInt8) (r : Sx) (k : Nat) (h : ¬ 0 < com x.1 (lst y r).1) :
    bld (f + 1) (x :: y :: r) k = ⟨3, [], decide (x.1 = []), if x.1 = [] then x.2 else [], (brn (bld f) (groups (if x.1 = [] then y :: r else x :: y :: r)) (k + 1) zk).2⟩
          :: (brn (bld f) (groups (if x.1 = [] then y :: r else x :: y :: r)) (k + 1) zk).1 := by
  rw [bld]; simp only [if_neg h]
end Go.Proofs.Ythalogdopkoidaa.Ab
