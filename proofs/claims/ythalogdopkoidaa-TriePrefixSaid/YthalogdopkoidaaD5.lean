/- Plain law: a trie of pairs whose keys all have one byte more ahead. No statement of the seat's in it. -/
import Derived.Test.YthalogdopkoidaaD4
set_option linter.unusedVariables false
set_option linter.unusedSimpArgs false
namespace Go.Proofs.Ythalogdopkoidaa.Ab
open Go Go.RowKit

def pre2 (n : List UInt8) (x : List UInt8 × List UInt8) : List UInt8 × List UInt8 := (n ++ x.1, x.2)

theorem com_app (n a b : List UInt8) : com (n ++ a) (n ++ b) = n.length + com a b := by
  induction n with
  | nil => simp
  | cons c n ih => simp only [List.cons_append, com, if_true, ih, List.length_cons]; omega
theorem lst_map (n : List UInt8) (y : List UInt8 × List UInt8) : ∀ r : Sx, lst (pre2 n y) (r.map (pre2 n)) = pre2 n (lst y r)
  | [] => rfl
  | z :: r => by
    have e1 : lst (pre2 n y) ((z :: r).map (pre2 n)) = lst (pre2 n z) (r.map (pre2 n)) := by unfold lst; rw [List.map_cons, List.getLastD_cons]
    have e2 : lst y (z :: r) = lst z r := by unfold lst; rw [List.getLastD_cons]
    rw [e1, e2, lst_map n z r]
theorem cut_pre (n : List UInt8) (c : Nat) (s : Sx) : (s.map (pre2 n)).map (cut (n.length + c)) = s.map (cut c) := by
  rw [List.map_map]
  refine List.map_congr_left fun x _ => ?_
  simp [pre2, cut, List.drop_append]

theorem brn_congr {b b' : Sx → Nat → List Nd} : ∀ (gs : List (UInt8 × Sx)) (k : Nat) (kids : Vector Int 16), (∀ p ∈ gs, ∀ k, b p.2 k = b' p.2 k) → brn b gs k kids = brn b' gs k kids
  | [], k, kids, h => rfl
  | (c, g) :: gs, k, kids, h => by
    have h1 := h (c, g) (by simp) k
    dsimp only at h1
    rw [brn_cons, brn_cons, h1, brn_congr gs _ _ (fun p hp => h p (by simp [hp]))]
theorem bld_fuel : ∀ (f g : Nat) (s : Sx) (k : Nat), Bok s f → f ≤ g → bld g s k = bld f s k
  | 0, g, s, k, h, _ => by have := h.pos; omega
  | f + 1, 0, s, k, h, hg => by omega
  | f + 1, g + 1, [], k, h, hg => rfl
  | f + 1, g + 1, [x], k, h, hg => rfl
  | f + 1, g + 1, x :: y :: r, k, h, hg => by
    by_cases hc : 0 < com x.1 (lst y r).1
    · rw [bld_ext _ _ _ _ _ hc, bld_ext _ _ _ _ _ hc, bld_fuel f g _ _ (h.ext_ hc) (by omega)]
    · rw [bld_brn _ _ _ _ _ hc, bld_brn _ _ _ _ _ hc]
      have hs := h.sub
      obtain ⟨hb, _, _⟩ := hs.1.grp hs.2
      rw [brn_congr _ _ _ (fun p hp k => bld_fuel f g p.2 k (hb p hp) (by omega))]
theorem brn_shift {b : Sx → Nat → List Nd} (h : ∀ s k k', (b s k).length = (b s k').length) : ∀ (gs : List (UInt8 × Sx)) (k k' : Nat) (kids kids' : Vector Int 16), (brn b gs k kids).1.length = (brn b gs k' kids').1.length
  | [], k, k', kids, kids' => rfl
  | (c, g) :: gs, k, k', kids, kids' => by
    rw [brn_cons, brn_cons, List.length_append, List.length_append, h g k k', brn_shift h gs _ (k' + (b g k').length) _ (setk kids' c k')]
theorem bld_shift : ∀ (f : Nat) (s : Sx) (k k' : Nat), (bld f s k).length = (bld f s k').length
  | 0, s, k, k' => rfl
  | f + 1, [], k, k' => rfl
  | f + 1, [x], k, k' => rfl
  | f + 1, x :: y :: r, k, k' => by
    by_cases hc : 0 < com x.1 (lst y r).1
    · rw [bld_ext _ _ _ _ _ hc, bld_ext _ _ _ _ _ hc, List.length_cons, List.length_cons, bld_shift f _ (k + 1) (k' + 1)]
    · rw [bld_brn _ _ _ _ _ hc, bld_brn _ _ _ _ _ hc, List.length_cons, List.length_cons, brn_shift (bld_shift f) _ (k + 1) (k' + 1) zk zk]

def ahead (c : UInt8) (l : List Pr) : List Pr := l.map fun p => ⟨c :: p.key, p.value⟩
theorem sx_ahead (c : UInt8) (l : List Pr) : sx (ahead c l) = (sx l).map (pre2 [c / 16, c % 16]) := by
  simp [sx, ahead, pre2, nib_cons]
theorem May.ahead {l : List Pr} (h : May l) (c : UInt8) (h8 : ∀ p ∈ l, p.key.length < 8) : May (ahead c l) := by
  refine ⟨fun p hp => ?_, ?_⟩
  · obtain ⟨q, hq, rfl⟩ := List.mem_map.1 hp
    have := h8 q hq
    have := (h.1 q hq).2.2
    exact ⟨by simp, by simp; omega, this⟩
  · unfold Ab.ahead
    rw [List.pairwise_map]
    refine h.2.imp fun {a b} hab => ?_
    exact cons_lt.2 (.inr ⟨rfl, hab⟩)

theorem prefix_law {l : List Pr} (h : May l) (hn : l ≠ []) (c : UInt8) (h8 : ∀ p ∈ l, p.key.length < 8) :
    ∃ x t y u, build l = x :: t ∧ build (ahead c l) = y :: u ∧
      ((x.kind = 3 ∧ (∃ z v, u = z :: v ∧ z.kind = 3) ∧ u.length = t.length + 1 ∧ y.kind = 2 ∧ y.path = [c / 16, c % 16]) ∨
       (x.kind ≠ 3 ∧ u.length = t.length ∧ y.kind = x.kind ∧ y.path = [c / 16, c % 16] ++ x.path)) := by
  have hB : Bok (sx l) 15 := by
    have h0 := Bok.all h hn
    refine ⟨h0.ne, h0.ris, fun x hx => ?_, h0.sm⟩
    obtain ⟨p, hp, rfl⟩ := List.mem_map.1 hx
    have := h8 p hp
    dsimp only
    rw [nib_length]; omega
  have hn' : ahead c l ≠ [] := by simpa [ahead] using hn
  have e1 : build l = bld 17 (sx l) 0 := by rw [build, if_neg hn]
  have e2 : build (ahead c l) = bld 17 ((sx l).map (pre2 [c / 16, c % 16])) 0 := by rw [build, if_neg hn', sx_ahead]
  rw [e1, e2]
  match hs : sx l, hB with
  | [], hB => exact absurd rfl hB.ne
  | [x], hB =>
    refine ⟨_, _, _, _, rfl, rfl, .inr ⟨by simp, rfl, rfl, rfl⟩⟩
  | x :: y :: r, hB =>
    have hcom : com (pre2 [c / 16, c % 16] x).1 (lst (pre2 [c / 16, c % 16] y) (r.map (pre2 [c / 16, c % 16]))).1 = 2 + com x.1 (lst y r).1 := by
      rw [lst_map]
      exact com_app [c / 16, c % 16] x.1 (lst y r).1
    have hpos : 0 < com (pre2 [c / 16, c % 16] x).1 (lst (pre2 [c / 16, c % 16] y) (r.map (pre2 [c / 16, c % 16]))).1 := by omega
    rw [List.map_cons, List.map_cons, bld_ext _ _ _ _ _ hpos, hcom]
    have hcut : List.map (cut (2 + com x.1 (lst y r).1)) (pre2 [c / 16, c % 16] x :: pre2 [c / 16, c % 16] y :: r.map (pre2 [c / 16, c % 16])) = (x :: y :: r).map (cut (com x.1 (lst y r).1)) := cut_pre [c / 16, c % 16] (com x.1 (lst y r).1) (x :: y :: r)
    rw [hcut]
    by_cases hc : 0 < com x.1 (lst y r).1
    · rw [bld_ext _ _ _ _ _ hc]
      refine ⟨_, _, _, _, rfl, rfl, .inr ⟨by simp, rfl, rfl, ?_⟩⟩
      have e3 : (2 + com x.1 (lst y r).1) = com x.1 (lst y r).1 + 1 + 1 := by omega
      simp only [pre2, e3, List.cons_append, List.nil_append, List.take_succ_cons]
    · have hc0 : com x.1 (lst y r).1 = 0 := by omega
      have hmap : (x :: y :: r).map (cut (com x.1 (lst y r).1)) = x :: y :: r := by
        rw [hc0]
        conv => rhs; rw [← List.map_id (x :: y :: r)]
        refine List.map_congr_left fun z _ => ?_
        simp [cut]
      rw [hmap, hc0]
      have e4 : bld 16 (x :: y :: r) (0 + 1) = bld 15 (x :: y :: r) (0 + 1) := bld_fuel 15 16 _ _ hB (by omega)
      have e5 : bld 17 (x :: y :: r) 0 = bld 15 (x :: y :: r) 0 := bld_fuel 15 17 _ _ hB (by omega)
      have e6 := bld_shift 15 (x :: y :: r) (0 + 1) 0
      rw [e4, e5]
      rw [bld_brn _ _ _ _ _ hc, bld_brn _ _ _ _ _ hc] at e6 ⊢
      refine ⟨_, _, _, _, rfl, rfl, .inl ⟨rfl, ⟨_, _, rfl, rfl⟩, ?_, rfl, ?_⟩⟩
      · rw [List.length_cons, List.length_cons] at e6
        rw [List.length_cons]
        omega
      · simp [pre2]
end Go.Proofs.Ythalogdopkoidaa.Ab
