/- Contract: trie.Build. No statement of the seat's in it. -/
import Derived.Test.YthalogdopkoidaaC9
set_option linter.unusedVariables false
set_option linter.unusedSimpArgs false
namespace Go.Proofs.Ythalogdopkoidaa.Ab
open Go Go.RowKit

theorem all63 : ∀ f, P63 f
  | 0 => fun H bi vl vn vt ps t a b at_ hB hs hf _ _ _ => by
    have := hf _ (sg_in (a := a) (b := b) (at_ := at_) (i := a) hs.le (Nat.le_refl _) hs.lt)
    omega
  | f + 1 => c63 (all63 f) (c80 (all63 f))

/-- Nibbles are ordered as the texts are. -/
theorem nib_lt : ∀ {a b : List UInt8}, a < b → nib a < nib b
  | [], [], h => absurd h (List.lt_irrefl _)
  | [], b :: y, _ => nil_lt_cons _ _
  | a :: x, [], h => absurd h (List.not_lt_nil _)
  | a :: x, b :: y, h => by
    rw [nib_cons, nib_cons, cons_lt, cons_lt]
    rcases cons_lt.1 h with h | ⟨rfl, hxy⟩
    · have h1 := UInt8.lt_iff_toNat_lt.1 h
      have h2 : (a / 16).toNat = a.toNat / 16 := UInt8.toNat_div a 16
      have h3 : (b / 16).toNat = b.toNat / 16 := UInt8.toNat_div b 16
      have h4 : (a % 16).toNat = a.toNat % 16 := UInt8.toNat_mod a 16
      have h5 : (b % 16).toNat = b.toNat % 16 := UInt8.toNat_mod b 16
      by_cases hd : a.toNat / 16 < b.toNat / 16
      · exact .inl (UInt8.lt_iff_toNat_lt.2 (by omega))
      · refine .inr ⟨UInt8.toNat_inj.1 (by omega), .inl (UInt8.lt_iff_toNat_lt.2 (by omega))⟩
    · exact .inr ⟨rfl, .inr ⟨rfl, nib_lt hxy⟩⟩

/-- All pairs, from their keys' beginnings on. -/
def sx (ps : List Pr) : Sx := ps.map fun p => (nib p.key, p.value)
theorem sg_all (ps : List Pr) : sg ps 0 ps.length 0 = sx ps := by simp [sg, sx]
/-- The trie of pairs. -/
def build (ps : List Pr) : List Nd := if ps = [] then [] else bld 17 (sx ps) 0
/-- Its nodes' paths. -/
def paths (ps : List Pr) : List (List UInt8) := if ps = [] then [] else pth 17 (sx ps) []

theorem Seg.all {ps : List Pr} (h : May ps) (hn : ps ≠ []) : Seg ps 0 ps.length 0 := by
  refine ⟨List.length_pos_iff.2 hn, Nat.le_refl _, fun i _ _ => Nat.zero_le _, ?_⟩
  rw [sg_all, Ris, sx, List.pairwise_map]
  exact h.2.imp fun hlt => nib_lt hlt
theorem Fu.all {ps : List Pr} (h : May ps) : Fu (sx ps) 17 := by
  intro z hz
  obtain ⟨p, hp, rfl⟩ := List.mem_map.1 hz
  have := (h.1 p hp).2.1
  dsimp only
  rw [nib_length]; omega

def glen (gs : List (UInt8 × Sx)) : Nat := (gs.map fun g => g.2.length).sum
theorem glen_groups : ∀ s : Sx, glen (groups s) ≤ s.length
  | [] => by simp [groups, glen]
  | ([], v) :: s => by
    have := glen_groups s
    rw [groups]; simp; omega
  | (c :: n, v) :: s => by
    have ih := glen_groups s
    rw [groups]
    cases hg : groups s with
    | nil => simp [glen]
    | cons w gs =>
      obtain ⟨c', g⟩ := w
      rw [hg] at ih
      simp only [glen, List.map_cons, List.sum_cons] at ih
      dsimp only
      split
      · simp only [glen, List.map_cons, List.sum_cons, List.length_cons]; omega
      · simp only [glen, List.map_cons, List.sum_cons, List.length_cons, List.length_nil]; omega
theorem brn_len {b : Sx → Nat → List Nd} {q : Nat} (hb : ∀ s k, (b s k).length ≤ q * s.length) : ∀ (gs : List (UInt8 × Sx)) (k : Nat) (kids : Vector Int 16), (brn b gs k kids).1.length ≤ q * glen gs
  | [], k, kids => by simp [brn]
  | (c, g) :: gs, k, kids => by
    rw [brn_cons]
    have h1 := hb g k
    have h2 := brn_len hb gs (k + (b g k).length) (setk kids c k)
    simp only [glen, List.map_cons, List.sum_cons, List.length_append, Nat.mul_add] at h2 ⊢
    omega
theorem bld_len : ∀ (f : Nat) (s : Sx) (k : Nat), (bld f s k).length ≤ f * s.length
  | 0, s, k => by simp [bld]
  | f + 1, [], k => by simp [bld]
  | f + 1, [x], k => by simp [bld]
  | f + 1, x :: y :: r, k => by
    by_cases h : 0 < com x.1 (lst y r).1
    · rw [bld_ext _ _ _ _ _ h]
      have := bld_len f ((x :: y :: r).map (cut (com x.1 (lst y r).1))) (k + 1)
      simp only [List.length_cons, List.length_map, Nat.add_mul, Nat.mul_add] at this ⊢
      omega
    · rw [bld_brn _ _ _ _ _ h]
      have h1 := brn_len (bld_len f) (groups (if x.1 = [] then y :: r else x :: y :: r)) (k + 1) zk
      have h2 := glen_groups (if x.1 = [] then y :: r else x :: y :: r)
      have h3 : (if x.1 = [] then y :: r else x :: y :: r).length ≤ (x :: y :: r).length := by split <;> simp
      have h4 := Nat.mul_le_mul_left f (Nat.le_trans h2 h3)
      have h5 : 1 ≤ (x :: y :: r).length := by simp
      rw [List.length_cons, Nat.add_mul]
      omega
theorem build_len (ps : List Pr) : (build ps).length ≤ 17 * ps.length := by
  unfold build
  split
  · simp
  · have := bld_len 17 (sx ps) 0
    simpa [sx] using this

def StB (H : AHeap) (v : Value) (l : List (List UInt8)) : Prop := Buf H v 9 l.length (l.flatMap sCell)
theorem StB.sl {H : AHeap} {v : Value} {l : List (List UInt8)} (h : StB H v l) : StS H v l := Buf.sl h
end Go.Proofs.Ythalogdopkoidaa.Ab
