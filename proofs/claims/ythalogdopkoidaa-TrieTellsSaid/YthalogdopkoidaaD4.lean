/- Plain laws on the nodes of a trie of pairs: kinds, children's numbers, keys with one byte ahead. No statement of the seat's in it. -/
import Derived.Test.YthalogdopkoidaaD3
set_option linter.unusedVariables false
set_option linter.unusedSimpArgs false
namespace Go.Proofs.Ythalogdopkoidaa.Ab
open Go Go.RowKit

theorem bld_kinds : ∀ (f : Nat) (s : Sx) (k : Nat), ∀ n ∈ bld f s k, (n.kind = 1 ∧ n.has = true) ∨ (n.kind = 2 ∧ n.has = false) ∨ n.kind = 3
  | 0, s, k, n, hn => by cases hn
  | f + 1, [], k, n, hn => by cases hn
  | f + 1, [x], k, n, hn => by
    rw [bld_one, List.mem_singleton] at hn
    subst hn
    exact .inl ⟨rfl, rfl⟩
  | f + 1, x :: y :: r, k, n, hn => by
    by_cases hc : 0 < com x.1 (lst y r).1
    · rw [bld_ext _ _ _ _ _ hc] at hn
      rcases List.mem_cons.1 hn with rfl | hn
      · exact .inr (.inl ⟨rfl, rfl⟩)
      · exact bld_kinds f _ _ n hn
    · rw [bld_brn _ _ _ _ _ hc] at hn
      rcases List.mem_cons.1 hn with rfl | hn
      · exact .inr (.inr rfl)
      · obtain ⟨p, hp, k', hk⟩ := brn_mem _ _ _ n hn
        exact bld_kinds f _ _ n hk

/-- What a builder hangs on: pairs that rise, nibbles, not longer than the number. -/
structure Bok (s : Sx) (f : Nat) : Prop where
  ne : s ≠ []
  ris : Ris s
  fu : Fu s f
  sm : ∀ x ∈ s, ∀ b ∈ x.1, b ≤ 15

theorem Bok.pos {s : Sx} {f : Nat} (h : Bok s f) : 0 < f := by
  obtain ⟨x, hx⟩ := List.exists_mem_of_ne_nil _ h.ne
  have := h.fu x hx
  omega
theorem Bok.ext_ {x y : List UInt8 × List UInt8} {r : Sx} {f : Nat} (h : Bok (x :: y :: r) (f + 1)) (hc : 0 < com x.1 (lst y r).1) : Bok ((x :: y :: r).map (cut (com x.1 (lst y r).1))) f := by
  have hlen : (x.1.take (com x.1 (lst y r).1)).length = com x.1 (lst y r).1 := by
    rw [List.length_take]; have := com_left x.1 (lst y r).1; omega
  have hcom := h.ris.common
  refine ⟨by simp, ?_, fun z hz => ?_, fun z hz b hb => ?_⟩
  · have := h.ris.cut hcom; rwa [hlen] at this
  · obtain ⟨z', hz', rfl⟩ := List.mem_map.1 hz
    have h1 := h.fu z' hz'
    have h2 := (hcom z' hz').length_le
    rw [hlen] at h2
    simp only [cut, List.length_drop]; omega
  · obtain ⟨z', hz', rfl⟩ := List.mem_map.1 hz
    exact h.sm z' hz' b (List.mem_of_mem_drop hb)
theorem Bok.sub {x y : List UInt8 × List UInt8} {r : Sx} {f : Nat} (h : Bok (x :: y :: r) f) : Bok (if x.1 = [] then y :: r else x :: y :: r) f ∧ (∀ z ∈ (if x.1 = [] then y :: r else x :: y :: r), z.1 ≠ []) := by
  by_cases hx : x.1 = []
  · simp only [if_pos hx]
    exact ⟨⟨by simp, (List.pairwise_cons.1 h.ris).2, fun z hz => h.fu z (List.mem_cons_of_mem _ hz), fun z hz => h.sm z (List.mem_cons_of_mem _ hz)⟩, h.ris.full⟩
  · simp only [if_neg hx]
    refine ⟨h, fun z hz => ?_⟩
    rcases List.mem_cons.1 hz with rfl | hz
    · exact hx
    · exact h.ris.full z hz
theorem Bok.grp {s : Sx} {f : Nat} (h : Bok s (f + 1)) (hne : ∀ z ∈ s, z.1 ≠ []) : (∀ p ∈ groups s, Bok p.2 f) ∧ Hd 0 (groups s) ∧ groups s ≠ [] := by
  have hfl := groups_flat s hne
  refine ⟨fun p hp => ⟨groups_ne s p hp, flat_ris (by rw [hfl]; exact h.ris) hp, fun x hx => ?_, fun x hx b hb => ?_⟩, ⟨groups_sorted s hne h.ris, fun p hp => ⟨Nat.zero_le _, ?_⟩⟩, fun e => ?_⟩
  · have := h.fu _ (groups_pc s p hp x hx)
    simp [pc] at this; omega
  · exact h.sm _ (groups_pc s p hp x hx) b (by simp [pc, hb])
  · obtain ⟨x, hx⟩ := List.exists_mem_of_ne_nil _ (groups_ne s p hp)
    have := h.sm _ (groups_pc s p hp x hx) p.1 (by simp [pc])
    have := UInt8.le_iff_toNat_le.1 this
    simp at this
    omega
  · rw [e] at hfl
    exact h.ne hfl.symm

theorem bld_pos {s : Sx} {f : Nat} (h : Bok s f) (k : Nat) : 0 < (bld f s k).length := by
  obtain ⟨f, rfl⟩ : ∃ g, f = g + 1 := ⟨f - 1, by have := h.pos; omega⟩
  match s, h with
  | [], h => exact absurd rfl h.ne
  | [x], h => simp [bld_one]
  | x :: y :: r, h =>
    by_cases hc : 0 < com x.1 (lst y r).1
    · rw [bld_ext _ _ _ _ _ hc]; simp
    · rw [bld_brn _ _ _ _ _ hc]; simp

/-- A branch's children's numbers. -/
theorem brn_range {f : Nat} : ∀ (gs : List (UInt8 × Sx)) (k : Nat) (kids : Vector Int 16), (∀ p ∈ gs, Bok p.2 f) → ∀ c (hc : c < 16), ((brn (bld f) gs k kids).2)[c] = kids[c] ∨ ((k : Int) ≤ ((brn (bld f) gs k kids).2)[c] ∧ ((brn (bld f) gs k kids).2)[c] < ((k + (brn (bld f) gs k kids).1.length : Nat) : Int))
  | [], k, kids, h, c, hc => .inl rfl
  | (d, g) :: gs, k, kids, h, c, hc => by
    rw [brn_cons]
    dsimp only
    have hp := bld_pos (h (d, g) (by simp)) k
    dsimp only at hp
    rcases brn_range gs (k + (bld f g k).length) (setk kids d k) (fun p hp => h p (by simp [hp])) c hc with h1 | h1
    · rw [h1, List.length_append]
      unfold setk
      split
      · rw [Vector.getElem_set]
        split
        · right; omega
        · exact .inl rfl
      · exact .inl rfl
    · right
      rw [List.length_append]
      omega

theorem bld_kids : ∀ (f : Nat) (s : Sx) (k : Nat), Bok s f → ∀ n ∈ bld f s k, ∀ c (hc : c < 16), n.kids[c] = 0 ∨ ((k : Int) < n.kids[c] ∧ n.kids[c] < ((k + (bld f s k).length : Nat) : Int))
  | 0, s, k, h, n, hn, c, hc => by cases hn
  | f + 1, [], k, h, n, hn, c, hc => by cases hn
  | f + 1, [x], k, h, n, hn, c, hc => by
    rw [bld_one, List.mem_singleton] at hn
    subst hn
    left; simp [zk]
  | f + 1, x :: y :: r, k, h, n, hn, c, hc => by
    by_cases hcm : 0 < com x.1 (lst y r).1
    · rw [bld_ext _ _ _ _ _ hcm] at hn ⊢
      have hb := h.ext_ hcm
      have hp := bld_pos hb (k + 1)
      rcases List.mem_cons.1 hn with rfl | hn
      · dsimp only
        rw [Vector.getElem_set]
        split
        · right; rw [List.length_cons]; omega
        · left; simp [zk]
      · rcases bld_kids f _ _ hb n hn c hc with h1 | h1
        · exact .inl h1
        · right; rw [List.length_cons]; omega
    · rw [bld_brn _ _ _ _ _ hcm] at hn ⊢
      have hs := h.sub
      obtain ⟨hg, hH, hgn⟩ := hs.1.grp hs.2
      rcases List.mem_cons.1 hn with rfl | hn
      · dsimp only
        rcases brn_range _ (k + 1) zk hg c hc with h1 | h1
        · left; rw [h1]; simp [zk]
        · right; rw [List.length_cons]; omega
      · have key : ∀ (gs : List (UInt8 × Sx)) (k' : Nat) (kids : Vector Int 16), (∀ p ∈ gs, Bok p.2 f) → n ∈ (brn (bld f) gs k' kids).1 → n.kids[c] = 0 ∨ ((k' : Int) < n.kids[c] ∧ n.kids[c] < ((k' + (brn (bld f) gs k' kids).1.length : Nat) : Int)) := by
          intro gs
          induction gs with
          | nil => intro k' kids _ h; cases h
          | cons p gs ih =>
            obtain ⟨d, g⟩ := p
            intro k' kids hgs hm
            rw [brn_cons] at hm ⊢
            dsimp only at hm ⊢
            rcases List.mem_append.1 hm with hm | hm
            · rcases bld_kids f g k' (hgs (d, g) (by simp)) n hm c hc with h1 | h1
              · exact .inl h1
              · right; rw [List.length_append]; omega
            · rcases ih _ _ (fun p hp => hgs p (by simp [hp])) hm with h1 | h1
              · exact .inl h1
              · right; rw [List.length_append]; omega
        rcases key _ _ _ hg hn with h1 | h1
        · exact .inl h1
        · right; rw [List.length_cons]; omega

theorem take_app {α : Type} (a b : List α) (n : α) (hb : 0 < b.length) (h : n ∈ b.take (b.length - 1)) : n ∈ (a ++ b).take ((a ++ b).length - 1) := by
  rw [List.length_append, show a.length + b.length - 1 = a.length + (b.length - 1) by omega, List.take_length_add_append]
  exact List.mem_append_right _ h
theorem take_cons {α : Type} (x : α) (b : List α) (n : α) (hb : 0 < b.length) (h : n ∈ b.take (b.length - 1)) : n ∈ (x :: b).take ((x :: b).length - 1) := take_app [x] b n hb h
theorem take_head {α : Type} (x : α) (b : List α) (hb : 0 < b.length) : x ∈ (x :: b).take ((x :: b).length - 1) := by
  rw [List.length_cons, Nat.add_sub_cancel, show b.length = (b.length - 1) + 1 by omega, List.take_succ_cons]
  simp

/-- The last node is some node's child. -/
def Lst (L : List Nd) (k : Nat) : Prop := ∃ n ∈ L.take (L.length - 1), ∃ c, ∃ (hc : c < 16), n.kids[c] = ((k + L.length - 1 : Nat) : Int)
theorem brn_last {f : Nat} (ih : ∀ (s : Sx) (k : Nat), Bok s f → 2 ≤ (bld f s k).length → Lst (bld f s k) k) :
    ∀ (gs : List (UInt8 × Sx)) (k : Nat) (kids : Vector Int 16) (L : List Nd) (V : Vector Int 16), brn (bld f) gs k kids = (L, V) → gs ≠ [] → (∀ p ∈ gs, Bok p.2 f ∧ p.1.toNat < 16) →
      0 < L.length ∧ ((∃ c, ∃ (hc : c < 16), V[c] = ((k + L.length - 1 : Nat) : Int)) ∨ Lst L k)
  | [], k, kids, L, V, _, h, _ => absurd rfl h
  | [(d, g)], k, kids, L, V, he, _, hb => by
    obtain ⟨hB, hd⟩ := hb (d, g) (by simp)
    have hp := bld_pos hB k
    dsimp only at hd hp
    have e0 : brn (bld f) [(d, g)] k kids = (bld f g k, setk kids d k) := by rw [brn_cons]; simp [brn]
    rw [e0] at he
    obtain ⟨rfl, rfl⟩ := Prod.mk.inj he
    refine ⟨hp, ?_⟩
    by_cases h1 : (bld f g k).length = 1
    · left
      refine ⟨d.toNat, hd, ?_⟩
      have e1 : setk kids d (k : Int) = kids.set d.toNat k hd := by unfold setk; rw [dif_pos hd]
      rw [e1, Vector.getElem_set_self]
      omega
    · right
      exact ih g k hB (by omega)
  | (d, g) :: q :: gs, k, kids, L, V, he, _, hb => by
    obtain ⟨L', V', he'⟩ : ∃ L' V', brn (bld f) (q :: gs) (k + (bld f g k).length) (setk kids d k) = (L', V') := ⟨_, _, rfl⟩
    rw [brn_cons, he'] at he
    dsimp only at he
    obtain ⟨rfl, rfl⟩ := Prod.mk.inj he
    obtain ⟨hp, h⟩ := brn_last ih (q :: gs) _ _ L' V' he' (by simp) (fun p hp => hb p (List.mem_cons_of_mem _ hp))
    refine ⟨by rw [List.length_append]; omega, ?_⟩
    have e1 : k + (bld f g k).length + L'.length - 1 = k + (bld f g k ++ L').length - 1 := by rw [List.length_append]; omega
    rcases h with ⟨c, hc, h1⟩ | ⟨n, hn, c, hc, h1⟩
    · exact .inl ⟨c, hc, by rw [h1, e1]⟩
    · exact .inr ⟨n, take_app _ _ _ hp hn, c, hc, by rw [h1, e1]⟩

theorem bld_last : ∀ (f : Nat) (s : Sx) (k : Nat), Bok s f → 2 ≤ (bld f s k).length → Lst (bld f s k) k
  | 0, s, k, h, h2 => by have := h.pos; omega
  | f + 1, [], k, h, h2 => absurd rfl h.ne
  | f + 1, [x], k, h, h2 => by simp [bld_one] at h2
  | f + 1, x :: y :: r, k, h, h2 => by
    by_cases hcm : 0 < com x.1 (lst y r).1
    · have hb := h.ext_ hcm
      have hp := bld_pos hb (k + 1)
      have ih := bld_last f _ (k + 1) hb
      rw [bld_ext _ _ _ _ _ hcm]
      generalize bld f ((x :: y :: r).map (cut (com x.1 (lst y r).1))) (k + 1) = L at hp ih ⊢
      by_cases h1 : L.length = 1
      · refine ⟨_, take_head _ L hp, 0, by decide, ?_⟩
        rw [List.length_cons, h1]
        simp
      · obtain ⟨n, hn, c, hc, h3⟩ := ih (by omega)
        refine ⟨n, take_cons _ L n hp hn, c, hc, ?_⟩
        rw [h3, List.length_cons]
        omega
    · have hs := h.sub
      obtain ⟨hg, hH, hgn⟩ := hs.1.grp hs.2
      rw [bld_brn _ _ _ _ _ hcm]
      obtain ⟨L, V, he⟩ : ∃ L V, brn (bld f) (groups (if x.1 = [] then y :: r else x :: y :: r)) (k + 1) zk = (L, V) := ⟨_, _, rfl⟩
      rw [he]
      obtain ⟨hp, hl⟩ := brn_last (bld_last f) _ (k + 1) zk L V he hgn (fun p hp => ⟨hg p hp, (hH.2 p hp).2⟩)
      have e1 : k + 1 + L.length - 1 = k + (L.length + 1) - 1 := by omega
      rcases hl with ⟨c, hc, h3⟩ | ⟨n, hn, c, hc, h3⟩
      · refine ⟨_, take_head _ L hp, c, hc, ?_⟩
        rw [List.length_cons, ← e1, ← h3]
      · refine ⟨n, take_cons _ L n hp hn, c, hc, ?_⟩
        rw [h3, List.length_cons, e1]

theorem Bok.all {l : List Pr} (h : May l) (hn : l ≠ []) : Bok (sx l) 17 := by
  refine ⟨by simpa [sx] using hn, ?_, Fu.all h, fun x hx b hb => ?_⟩
  · have := (Seg.all h hn).ris
    rwa [sg_all] at this
  · obtain ⟨p, hp, rfl⟩ := List.mem_map.1 hx
    exact nib_small _ b hb

theorem bld_two {s : Sx} {f k : Nat} (h : Bok s f) (h2 : 2 ≤ s.length) : 2 ≤ (bld f s k).length := by
  obtain ⟨f, rfl⟩ : ∃ g, f = g + 1 := ⟨f - 1, by have := h.pos; omega⟩
  match s, h, h2 with
  | x :: y :: r, h, _ =>
    by_cases hc : 0 < com x.1 (lst y r).1
    · rw [bld_ext _ _ _ _ _ hc, List.length_cons]
      have := bld_pos (h.ext_ hc) (k + 1)
      omega
    · rw [bld_brn _ _ _ _ _ hc, List.length_cons]
      have hs := h.sub
      obtain ⟨hg, hH, hgn⟩ := hs.1.grp hs.2
      match hq : groups (if x.1 = [] then y :: r else x :: y :: r), hgn, hg with
      | (d, g) :: gs, _, hg =>
        rw [brn_cons, List.length_append]
        have := bld_pos (hg (d, g) (by simp)) (k + 1)
        dsimp only at this ⊢
        omega

/-- Without its last node a trie is none. -/
theorem isw_dropLast {l : List Pr} (h : May l) (h2 : 2 ≤ l.length) : ¬ Isw ((build l).take ((build l).length - 1)) := by
  intro hi
  obtain ⟨l', hm', e⟩ := isw_iff.1 hi
  have hn : l ≠ [] := fun e => by subst e; simp at h2
  have hb : build l = bld 17 (sx l) 0 := by rw [build, if_neg hn]
  have hB := Bok.all h hn
  have hlen := bld_two (k := 0) hB (by simpa [sx] using h2)
  obtain ⟨n, hj, c, hc, hk⟩ := bld_last 17 (sx l) 0 hB hlen
  rw [hb] at e
  have hn' : l' ≠ [] := fun e2 => by
    subst e2
    have := congrArg List.length e
    simp [build] at this
    omega
  have hb' : build l' = bld 17 (sx l') 0 := by rw [build, if_neg hn']
  rw [hb'] at e
  have hl' : (bld 17 (sx l') 0).length = (bld 17 (sx l) 0).length - 1 := by rw [← e, List.length_take]; omega
  have hmem : n ∈ bld 17 (sx l') 0 := by
    rw [← e]
    exact hj
  rcases bld_kids 17 (sx l') 0 (Bok.all hm' hn') _ hmem c hc with h1 | h1
  · rw [hk] at h1; omega
  · rw [hk, hl'] at h1; omega

theorem isw_kinds {t : List Nd} (h : Isw t) : ∀ n ∈ t, (n.kind = 1 ∧ n.has = true) ∨ (n.kind = 2 ∧ n.has = false) ∨ n.kind = 3 := by
  obtain ⟨l, hl, rfl⟩ := isw_iff.1 h
  unfold build
  split
  · simp
  · exact bld_kinds 17 _ 0
/-- With a node's 'has' turned it is none. -/
theorem isw_turn {t : List Nd} (h : Isw t) {k : Nat} (hk : k < t.length) (h3 : t[k].kind ≠ 3) : ¬ Isw (t.set k { t[k] with has := !t[k].has }) := by
  intro hi
  have h1 := isw_kinds h t[k] (List.getElem_mem hk)
  have h2 := isw_kinds hi { t[k] with has := !t[k].has } (List.mem_set hk _)
  dsimp only at h2
  rcases h1 with ⟨a, b⟩ | ⟨a, b⟩ | a
  · rw [a, b] at h2; simp at h2
  · rw [a, b] at h2; simp at h2
  · exact h3 a
end Go.Proofs.Ythalogdopkoidaa.Ab
