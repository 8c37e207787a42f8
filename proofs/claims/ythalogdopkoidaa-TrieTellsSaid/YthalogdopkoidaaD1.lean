/- Plain law: the walk through the trie of pairs gives the pairs. No statement of the seat's in it. -/
import Derived.Test.YthalogdopkoidaaC15
import Derived.Test.YthalogdopkoidaaC16
set_option linter.unusedVariables false
set_option linter.unusedSimpArgs false
namespace Go.Proofs.Ythalogdopkoidaa.Ab
open Go Go.RowKit

def pc (c : UInt8) (x : List UInt8 × List UInt8) : List UInt8 × List UInt8 := (c :: x.1, x.2)
def gfl (gs : List (UInt8 × Sx)) : Sx := gs.flatMap fun p => p.2.map (pc p.1)

theorem flat_cons (c : UInt8) (g : Sx) (gs : List (UInt8 × Sx)) : gfl ((c, g) :: gs) = g.map (pc c) ++ gfl gs := rfl

theorem groups_ne : ∀ s : Sx, ∀ p ∈ groups s, p.2 ≠ []
  | [], p, h => by cases h
  | ([], v) :: s, p, h => groups_ne s p h
  | (c :: n, v) :: s, p, h => by
    have ih := groups_ne s
    rw [groups] at h
    cases hg : groups s with
    | nil => rw [hg] at h; simp at h; rw [h]; simp
    | cons w gs =>
      obtain ⟨c', g⟩ := w
      rw [hg] at h ih
      dsimp only at h
      split at h
      · rcases List.mem_cons.1 h with rfl | h
        · simp
        · exact ih p (by simp [h])
      · rcases List.mem_cons.1 h with rfl | h
        · simp
        · exact ih p h

theorem groups_flat : ∀ s : Sx, (∀ x ∈ s, x.1 ≠ []) → gfl (groups s) = s
  | [], _ => rfl
  | ([], v) :: s, h => absurd rfl (h ([], v) (by simp))
  | (c :: n, v) :: s, h => by
    have ih := groups_flat s (fun x hx => h x (by simp [hx]))
    rw [groups]
    cases hg : groups s with
    | nil => rw [hg] at ih; rw [← ih]; rfl
    | cons w gs =>
      obtain ⟨c', g⟩ := w
      rw [hg] at ih
      dsimp only
      split
      · rename_i e
        subst e
        rw [flat_cons, List.map_cons, List.cons_append, ← flat_cons, ih]; rfl
      · rw [flat_cons, ih]; rfl

theorem groups_first {s : Sx} (h : ∀ x ∈ s, x.1 ≠ []) {c : UInt8} {g : Sx} {gs : List (UInt8 × Sx)} (hg : groups s = (c, g) :: gs) : ∃ n v r, s = (c :: n, v) :: r := by
  have hf := groups_flat s h
  have hne := groups_ne s (c, g) (by rw [hg]; simp)
  rw [hg, flat_cons] at hf
  cases g with
  | nil => exact absurd rfl hne
  | cons x g => exact ⟨x.1, x.2, g.map (pc c) ++ gfl gs, hf.symm⟩

theorem groups_sorted : ∀ s : Sx, (∀ x ∈ s, x.1 ≠ []) → Ris s → (groups s).Pairwise fun a b => a.1 < b.1
  | [], _, _ => List.Pairwise.nil
  | ([], v) :: s, h, _ => absurd rfl (h ([], v) (by simp))
  | (c :: n, v) :: s, h, hr => by
    have h' : ∀ x ∈ s, x.1 ≠ [] := fun x hx => h x (by simp [hx])
    have hr2 := List.pairwise_cons.1 hr
    have ih := groups_sorted s h' hr2.2
    rw [groups]
    cases hg : groups s with
    | nil => simp
    | cons w gs =>
      obtain ⟨c', g⟩ := w
      obtain ⟨n', v', r, hs⟩ := groups_first h' hg
      rw [hg] at ih
      dsimp only
      split
      · rename_i e
        subst e
        rw [List.pairwise_cons] at ih ⊢
        exact ⟨fun a ha => ih.1 a ha, ih.2⟩
      · rename_i e
        have h1 : c < c' := by
          have := hr2.1 (c' :: n', v') (by rw [hs]; simp)
          rcases cons_lt.1 this with h | h
          · exact h
          · exact absurd h.1 e
        rw [List.pairwise_cons]
        refine ⟨fun a ha => ?_, ih⟩
        rcases List.mem_cons.1 ha with rfl | ha
        · exact h1
        · exact UInt8.lt_trans h1 ((List.pairwise_cons.1 ih).1 a ha)

theorem flat_mem {gs : List (UInt8 × Sx)} {p : UInt8 × Sx} (hp : p ∈ gs) {x : List UInt8 × List UInt8} (hx : x ∈ p.2) : pc p.1 x ∈ gfl gs :=
  List.mem_flatMap.2 ⟨p, hp, List.mem_map.2 ⟨x, hx, rfl⟩⟩
theorem flat_ris {gs : List (UInt8 × Sx)} (h : Ris (gfl gs)) {p : UInt8 × Sx} (hp : p ∈ gs) : Ris p.2 := by
  have h1 : Ris (p.2.map (pc p.1)) := by
    unfold Ris gfl at *
    obtain ⟨a, b, rfl⟩ := List.append_of_mem hp
    rw [List.flatMap_append, List.flatMap_cons] at h
    exact h.sublist ((List.sublist_append_left _ _).trans (List.sublist_append_right _ _))
  unfold Ris at h1 ⊢
  rw [List.pairwise_map] at h1
  refine h1.imp fun {a b} hab => ?_
  rcases cons_lt.1 hab with h | h
  · exact absurd h (UInt8.lt_irrefl _)
  · exact h.2

/-! ### The children's numbers -/
def kl (b : Sx → Nat → List Nd) : Nat → Nat → List (UInt8 × Sx) → Nat → List Int
  | _, 0, _, _ => []
  | i, n + 1, [], k => 0 :: kl b (i + 1) n [] k
  | i, n + 1, (c, g) :: gs, k => if c.toNat = i then (k : Int) :: kl b (i + 1) n gs (k + (b g k).length) else 0 :: kl b (i + 1) n ((c, g) :: gs) k

theorem kl_nil (b : Sx → Nat → List Nd) : ∀ (n i k : Nat), kl b i n [] k = List.replicate n 0
  | 0, i, k => rfl
  | n + 1, i, k => by rw [kl, kl_nil b n, List.replicate_succ]

/-- Heads that rise, from a number on. -/
def Hd (i : Nat) (gs : List (UInt8 × Sx)) : Prop := (gs.Pairwise fun a b => a.1 < b.1) ∧ ∀ p ∈ gs, i ≤ p.1.toNat ∧ p.1.toNat < 16
theorem Hd.tail {i : Nat} {c : UInt8} {g : Sx} {gs : List (UInt8 × Sx)} (h : Hd i ((c, g) :: gs)) : Hd (c.toNat + 1) gs := by
  have h1 := List.pairwise_cons.1 h.1
  refine ⟨h1.2, fun p hp => ?_⟩
  have := UInt8.lt_iff_toNat_lt.1 (h1.1 p hp)
  have := (h.2 p (by simp [hp])).2
  dsimp only at *
  omega
theorem Hd.skip {i : Nat} {c : UInt8} {g : Sx} {gs : List (UInt8 × Sx)} (h : Hd i ((c, g) :: gs)) (hc : c.toNat ≠ i) : Hd (i + 1) ((c, g) :: gs) := by
  have h1 := List.pairwise_cons.1 h.1
  refine ⟨h.1, fun p hp => ?_⟩
  have h0 := (h.2 (c, g) (by simp)).1
  dsimp only at h0
  rcases List.mem_cons.1 hp with rfl | hp
  · have := (h.2 (c, g) (by simp)).2
    dsimp only at *
    omega
  · have := UInt8.lt_iff_toNat_lt.1 (h1.1 p hp)
    have := (h.2 p (by simp [hp])).2
    dsimp only at *
    omega

theorem brn_kids (b : Sx → Nat → List Nd) : ∀ (n i : Nat) (gs : List (UInt8 × Sx)) (k : Nat) (kids : Vector Int 16) (P : List Int), i + n = 16 → P.length = i → kids.toList = P ++ List.replicate n 0 → Hd i gs →
    (brn b gs k kids).2.toList = P ++ kl b i n gs k
  | 0, i, gs, k, kids, P, h1, h2, h3, h4 => by
    cases gs with
    | nil => rw [brn]; simpa [kl] using h3
    | cons p gs => have := h4.2 p (by simp); omega
  | n + 1, i, [], k, kids, P, h1, h2, h3, h4 => by
    rw [kl_nil, brn]; exact h3
  | n + 1, i, (c, g) :: gs, k, kids, P, h1, h2, h3, h4 => by
    rw [kl]
    by_cases hc : c.toNat = i
    · rw [if_pos hc, brn_cons]
      have h5 := h4.tail
      rw [hc] at h5
      have := brn_kids b n (i + 1) gs (k + (b g k).length) (setk kids c k) (P ++ [(k : Int)]) (by omega) (by simp [h2]) (by
        unfold setk
        rw [dif_pos (by omega), Vector.toList_set, h3, hc, List.replicate_succ, List.set_append_right _ _ (by omega), h2]
        simp) h5
      rw [this]; simp
    · rw [if_neg hc]
      have := brn_kids b n (i + 1) ((c, g) :: gs) k kids (P ++ [0]) (by omega) (by simp [h2]) (by rw [h3, List.replicate_succ]; simp) (h4.skip hc)
      rw [this]; simp

theorem kl_brn (b : Sx → Nat → List Nd) {gs : List (UInt8 × Sx)} (k : Nat) (h : Hd 0 gs) : (brn b gs k zk).2.toList = kl b 0 16 gs k := by
  have := brn_kids b 16 0 gs k zk [] rfl rfl (by simp [zk]) h
  simpa using this

/-! ### The walk -/
def Okx (pre : List UInt8) (x : List UInt8 × List UInt8) : Prop := keyOf (pre ++ x.1) ≠ none ∧ pre.length + x.1.length ≤ 16
def kx (pre : List UInt8) (x : List UInt8 × List UInt8) : Pr := ⟨(keyOf (pre ++ x.1)).getD [], x.2⟩

theorem keyOf_le {a : List UInt8} (h : keyOf a ≠ none) : ∀ b ∈ a, b ≤ 15 := by
  unfold keyOf at h
  split at h
  · rename_i h2; exact h2.2
  · exact absurd rfl h

theorem Okx.pc {pre : List UInt8} {c : UInt8} {x : List UInt8 × List UInt8} (h : Okx pre (pc c x)) : Okx (pre ++ [c]) x := by
  obtain ⟨h1, h2⟩ := h
  simp only [Ab.pc] at h1 h2
  refine ⟨by rwa [List.append_assoc, List.singleton_append], ?_⟩
  simp at h2 ⊢; omega
theorem kx_pc (pre : List UInt8) (c : UInt8) (x : List UInt8 × List UInt8) : kx (pre ++ [c]) x = kx pre (pc c x) := by
  simp [kx, Ab.pc]
theorem kx_cut {pre p : List UInt8} {x : List UInt8 × List UInt8} (h : p <+: x.1) : kx (pre ++ p) (cut p.length x) = kx pre x := by
  obtain ⟨r, hr⟩ := h
  simp [kx, cut, ← hr]
theorem Okx.cut {pre p : List UInt8} {x : List UInt8 × List UInt8} (h : p <+: x.1) (hx : Okx pre x) : Okx (pre ++ p) (cut p.length x) := by
  obtain ⟨r, hr⟩ := h
  unfold Okx Ab.cut at *
  simp [← hr] at hx ⊢
  exact ⟨hx.1, by omega⟩

theorem wkids_zero (wk : Int → List UInt8 → W → Bool × W) (k : Int) (p : List UInt8) (w : W) : ∀ (n i : Nat), wkids wk k p i (List.replicate n 0) w = (true, w)
  | 0, i => rfl
  | n + 1, i => by rw [List.replicate_succ, wkids, if_pos rfl, wkids_zero wk k p w n]

theorem zk_list : zk.toList = List.replicate 16 0 := rfl
theorem zk_list0 (a : Int) : (zk.set 0 a).toList = a :: List.replicate 15 0 := by rw [Vector.toList_set, zk_list]; rfl

def WalkB (t : List Nd) (f : Nat) : Prop := ∀ (s : Sx) (k : Nat) (pre : List UInt8) (w : W) (g : Nat), w.next = k → s ≠ [] → Ris s → Fu s f → (∀ x ∈ s, Okx pre x) → bld f s k <+: t.drop k → (bld f s k).length ≤ g →
  walk t g (k : Int) pre w = (true, ⟨k + (bld f s k).length, w.l ++ s.map (kx pre), w.paths ++ pth f s pre⟩)

theorem wkids_brn {t : List Nd} {f : Nat} (ih : WalkB t f) : ∀ (n i : Nat) (gs : List (UInt8 × Sx)) (k : Nat) (kids : Vector Int 16) (pre : List UInt8) (w : W) (g : Nat), i + n = 16 → w.next = k → 0 < k → Hd i gs →
    (∀ p ∈ gs, p.2 ≠ [] ∧ Ris p.2 ∧ Fu p.2 f ∧ ∀ x ∈ p.2, Okx (pre ++ [p.1]) x) → (brn (bld f) gs k kids).1 <+: t.drop k → (brn (bld f) gs k kids).1.length ≤ g →
    wkids (walk t g) 3 pre i (kl (bld f) i n gs k) w = (true, ⟨k + (brn (bld f) gs k kids).1.length, w.l ++ (gfl gs).map (kx pre), w.paths ++ pbrn (pth f) pre gs⟩)
  | 0, i, gs, k, kids, pre, w, g, h1, h2, h3, h4, h5, h6, h7 => by
    cases gs with
    | nil => subst h2; simp [kl, wkids, brn, gfl, pbrn]
    | cons p gs => have := h4.2 p (by simp); omega
  | n + 1, i, [], k, kids, pre, w, g, h1, h2, h3, h4, h5, h6, h7 => by
    subst h2; rw [kl_nil, wkids_zero]; simp [brn, gfl, pbrn]
  | n + 1, i, (c, q) :: gs, k, kids, pre, w, g, h1, h2, h3, h4, h5, h6, h7 => by
    rw [kl]
    by_cases hc : c.toNat = i
    · obtain ⟨e1, e2, e3, e4⟩ := h5 (c, q) (by simp)
      rw [brn_cons] at h6 h7 ⊢
      dsimp only at e1 e2 e3 e4 h6 h7 ⊢
      have h6a : bld f q k <+: t.drop k := (List.prefix_append _ _).trans h6
      have h6b : (brn (bld f) gs (k + (bld f q k).length) (setk kids c k)).1 <+: t.drop (k + (bld f q k).length) := by
        obtain ⟨r, hr⟩ := h6
        refine ⟨r, ?_⟩
        rw [← List.drop_drop, ← hr]
        simp
      have hl : (bld f q k).length ≤ g := by rw [List.length_append] at h7; omega
      have hk := ih q k (pre ++ [c]) w g h2 e1 e2 e3 e4 h6a hl
      rw [if_pos hc, wkids, if_neg (by omega)]
      have hkp : kp 3 pre i = pre ++ [c] := by
        rw [kp, if_pos rfl, ← hc]; simp
      rw [hkp, hk]
      dsimp only
      rw [if_pos rfl]
      have h5t := h4.tail
      rw [hc] at h5t
      rw [wkids_brn ih n (i + 1) gs (k + (bld f q k).length) (setk kids c k) pre _ g (by omega) rfl (by omega) h5t (fun p hp => h5 p (by simp [hp])) h6b (by rw [List.length_append] at h7; omega)]
      have em : q.map (kx (pre ++ [c])) = (q.map (pc c)).map (kx pre) := by
        rw [List.map_map]; exact List.map_congr_left fun x _ => kx_pc pre c x
      rw [em, flat_cons, pbrn_cons]
      simp only [List.map_append, List.append_assoc, List.length_append, Nat.add_assoc]
    · rw [if_neg hc, wkids, if_pos rfl]
      exact wkids_brn ih n (i + 1) ((c, q) :: gs) k kids pre w g (by omega) h2 h3 (h4.skip hc) h5 h6 h7

theorem pre_head {x : Nd} {r t : List Nd} {k : Nat} (h : x :: r <+: t.drop k) : ∃ (hk : k < t.length), t[k] = x ∧ r <+: t.drop (k + 1) := by
  obtain ⟨u, hu⟩ := h
  have hk : k < t.length := by
    have := congrArg List.length hu
    simp at this
    omega
  refine ⟨hk, ?_, u, ?_⟩
  · rw [List.drop_eq_getElem_cons hk, List.cons_append] at hu
    exact (List.cons.inj hu).1.symm
  · rw [List.drop_eq_getElem_cons hk, List.cons_append] at hu
    exact (List.cons.inj hu).2

theorem Ris.rest {x : List UInt8 × List UInt8} {s : Sx} (h : Ris (x :: s)) : ∀ y ∈ s, y.1 ≠ [] := h.full

theorem heads_small {pre : List UInt8} {s : Sx} (hne : ∀ x ∈ s, x.1 ≠ []) (hr : Ris s) (ho : ∀ x ∈ s, Okx pre x) : Hd 0 (groups s) := by
  refine ⟨groups_sorted s hne hr, fun p hp => ⟨Nat.zero_le _, ?_⟩⟩
  have h1 := groups_ne s p hp
  obtain ⟨x, hx⟩ := List.exists_mem_of_ne_nil _ h1
  have h2 := flat_mem hp hx
  rw [groups_flat s hne] at h2
  have h3 := keyOf_le (ho _ h2).1 p.1 (by simp [pc])
  have := UInt8.le_iff_toNat_le.1 h3
  simp at this
  omega

theorem grp_all {pre : List UInt8} {s : Sx} {f : Nat} (hne : ∀ x ∈ s, x.1 ≠ []) (hr : Ris s) (hf : Fu s (f + 1)) (ho : ∀ x ∈ s, Okx pre x) : ∀ p ∈ groups s, p.2 ≠ [] ∧ Ris p.2 ∧ Fu p.2 f ∧ ∀ x ∈ p.2, Okx (pre ++ [p.1]) x := by
  intro p hp
  have hfl := groups_flat s hne
  refine ⟨groups_ne s p hp, flat_ris (by rw [hfl]; exact hr) hp, fun x hx => ?_, fun x hx => ?_⟩
  · have := hf _ (hfl ▸ flat_mem hp hx)
    simp [pc] at this; omega
  · exact (ho _ (hfl ▸ flat_mem hp hx)).pc

theorem walkB (t : List Nd) : ∀ f, WalkB t f
  | 0 => fun s k pre w g _ hne _ hf _ _ _ => by
    obtain ⟨x, hx⟩ := List.exists_mem_of_ne_nil _ hne
    exact absurd (hf x hx) (Nat.not_lt_zero _)
  | f + 1 => fun s k pre w g hw hne hr hf ho hp hl => by
    have ih := walkB t f
    subst hw
    match s, hne, hr, hf, ho, hp, hl with
    | [x], _, hr, hf, ho, hp, hl =>
      rw [bld_one] at hp hl ⊢
      obtain ⟨hk, e, hp2⟩ := pre_head hp
      obtain ⟨g, rfl⟩ : ∃ g', g = g' + 1 := ⟨g - 1, by simp at hl; omega⟩
      have h16 : pre.length ≤ 16 := by have := (ho x (by simp)).2; omega
      have hko := (ho x (by simp)).1
      rw [walk, dif_pos ⟨rfl, hk, h16⟩, e, if_neg (fun h => hko h.2), zk_list, wkids_zero, pth_one]
      simp [wmeet, kx]
    | x :: y :: r, _, hr, hf, ho, hp, hl =>
      have h16 : pre.length ≤ 16 := by have := (ho x (by simp)).2; omega
      by_cases hc : 0 < com x.1 (lst y r).1
      · rw [bld_ext _ _ _ _ _ hc] at hp hl ⊢
        rw [pth_ext _ _ _ _ _ hc]
        obtain ⟨hk, e, hp2⟩ := pre_head hp
        obtain ⟨g, rfl⟩ : ∃ g', g = g' + 1 := ⟨g - 1, by simp at hl; omega⟩
        have hcom := hr.common
        have hlen : (x.1.take (com x.1 (lst y r).1)).length = com x.1 (lst y r).1 := by
          rw [List.length_take]; have := com_left x.1 (lst y r).1; omega
        have hcut := ih ((x :: y :: r).map (cut (com x.1 (lst y r).1))) (w.next + 1) (pre ++ x.1.take (com x.1 (lst y r).1)) (wmeet ⟨2, x.1.take (com x.1 (lst y r).1), false, [], zk.set 0 ((w.next + 1 : Nat) : Int)⟩ pre w) g rfl (by simp) (by
            have := hr.cut hcom; rwa [hlen] at this) (fun z hz => by
            obtain ⟨z', hz', rfl⟩ := List.mem_map.1 hz
            have := hf z' hz'
            have h2 := (hcom z' hz').length_le
            rw [hlen] at h2
            simp only [cut, List.length_drop]; omega) (fun z hz => by
            obtain ⟨z', hz', rfl⟩ := List.mem_map.1 hz
            have := (ho z' hz').cut (hcom z' hz')
            rwa [hlen] at this) hp2 (by rw [List.length_cons] at hl; omega)
        rw [walk, dif_pos ⟨rfl, hk, h16⟩, e, if_neg (fun h => by cases h.1), zk_list0, wkids, if_neg (by omega)]
        have hkp : kp 2 (pre ++ x.1.take (com x.1 (lst y r).1)) 0 = pre ++ x.1.take (com x.1 (lst y r).1) := by
          rw [kp, if_neg (by decide)]; simp
        dsimp only at hcut ⊢
        rw [hkp, hcut]
        dsimp only
        rw [if_pos rfl, wkids_zero]
        have em : ((x :: y :: r).map (cut (com x.1 (lst y r).1))).map (kx (pre ++ x.1.take (com x.1 (lst y r).1))) = (x :: y :: r).map (kx pre) := by
          rw [List.map_map]
          refine List.map_congr_left fun z hz => ?_
          have := kx_cut (pre := pre) (hcom z hz)
          rwa [hlen] at this
        rw [em]
        simp [wmeet, Nat.add_assoc, Nat.add_comm, Nat.add_left_comm]
      · rw [bld_brn _ _ _ _ _ hc] at hp hl ⊢
        rw [pth_brn _ _ _ _ _ hc]
        obtain ⟨hk, e, hp2⟩ := pre_head hp
        obtain ⟨g, rfl⟩ : ∃ g', g = g' + 1 := ⟨g - 1, by simp at hl; omega⟩
        have hrr := hr.full
        by_cases hx : x.1 = []
        · simp only [if_pos hx] at hp2 hl e ⊢
          have hr2 : Ris (y :: r) := (List.pairwise_cons.1 hr).2
          have ho2 : ∀ z ∈ y :: r, Okx pre z := fun z hz => ho z (by simp at hz ⊢; exact .inr hz)
          have hf2 : Fu (y :: r) (f + 1) := fun z hz => hf z (by simp at hz ⊢; exact .inr hz)
          have hH := heads_small hrr hr2 ho2
          have hb := wkids_brn ih 16 0 (groups (y :: r)) (w.next + 1) zk pre (wmeet ⟨3, [], decide (x.1 = []), x.2, (brn (bld f) (groups (y :: r)) (w.next + 1) zk).2⟩ pre w) g rfl rfl (by omega) hH (grp_all hrr hr2 hf2 ho2) hp2 (by simp at hl; omega)
          rw [walk, dif_pos ⟨rfl, hk, h16⟩, e]
          dsimp only
          rw [if_neg (fun h => by
            have := (ho x (by simp)).1
            rw [hx] at this
            exact this h.2), kl_brn _ _ hH, List.append_nil, hb]
          rw [groups_flat _ hrr]
          simp [wmeet, kx, hx, Nat.add_assoc, Nat.add_comm, Nat.add_left_comm]
        · simp only [if_neg hx] at hp2 hl e ⊢
          have hne : ∀ z ∈ x :: y :: r, z.1 ≠ [] := fun z hz => by
            rcases List.mem_cons.1 hz with rfl | hz
            · exact hx
            · exact hrr z hz
          have hH := heads_small hne hr ho
          have hb := wkids_brn ih 16 0 (groups (x :: y :: r)) (w.next + 1) zk pre (wmeet ⟨3, [], decide (x.1 = []), [], (brn (bld f) (groups (x :: y :: r)) (w.next + 1) zk).2⟩ pre w) g rfl rfl (by omega) hH (grp_all hne hr hf ho) hp2 (by simp at hl; omega)
          rw [walk, dif_pos ⟨rfl, hk, h16⟩, e]
          dsimp only
          rw [if_neg (fun h => hx (by simpa using h.1)), kl_brn _ _ hH, List.append_nil, hb, groups_flat _ hne]
          simp [wmeet, hx, Nat.add_assoc, Nat.add_comm, Nat.add_left_comm]

theorem kx_nil {l : List Pr} : (sx l).map (kx []) = l := by
  simp only [sx, List.map_map]
  conv => rhs; rw [← List.map_id l]
  refine List.map_congr_left fun p _ => ?_
  simp [kx, keyOf_nib]

theorem walkAll_build {l : List Pr} (h : May l) : walkAll (build l) = (true, ⟨(build l).length, l, paths l⟩) := by
  unfold walkAll build paths
  by_cases hn : l = []
  · subst hn; rfl
  · simp only [if_neg hn]
    have hs : sx l ≠ [] := by simpa [sx] using hn
    have hne : bld 17 (sx l) 0 ≠ [] := by
      cases hb : sx l with
      | nil => exact absurd hb hs
      | cons x r =>
        cases r with
        | nil => rw [bld_one]; simp
        | cons y r =>
          by_cases hc : 0 < com x.1 (lst y r).1
          · rw [bld_ext _ _ _ _ _ hc]; simp
          · rw [bld_brn _ _ _ _ _ hc]; simp
    have hr : Ris (sx l) := by
      have := (Seg.all h hn).ris
      rwa [sg_all] at this
    rw [if_neg hne]
    have := walkB (bld 17 (sx l) 0) 17 (sx l) 0 [] ⟨0, [], []⟩ ((bld 17 (sx l) 0).length + 1) rfl hs hr (Fu.all h) (fun x hx => by
      obtain ⟨p, hp, rfl⟩ := List.mem_map.1 hx
      refine ⟨by simp [keyOf_nib], ?_⟩
      have := (h.1 p hp).2.1
      simp [nib_length]; omega) (by simp) (Nat.le_succ _)
    rw [show ((0 : Nat) : Int) = 0 from rfl] at this
    rw [this, kx_nil]
    simp

theorem isw_build {l : List Pr} (h : May l) : Isw (build l) := by
  unfold Isw
  rw [walkAll_build h]
  exact ⟨rfl, h, rfl⟩
theorem isw_iff {t : List Nd} : Isw t ↔ ∃ l, May l ∧ t = build l := by
  constructor
  · intro h; exact ⟨_, h.2.1, h.2.2⟩
  · rintro ⟨l, h, rfl⟩; exact isw_build h
end Go.Proofs.Ythalogdopkoidaa.Ab
