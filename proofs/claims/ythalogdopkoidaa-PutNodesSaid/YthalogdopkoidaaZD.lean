/- Contracts and plain laws for the statements on tries. No statement of the seat's in it. Condition: none. -/
import Derived.Test.YthalogdopkoidaaZC
import Derived.Test.YthalogdopkoidaaZB
set_option linter.unusedVariables false
set_option linter.unusedSimpArgs false
namespace Go.Proofs.Ythalogdopkoidaa.Ab
open Go Go.RowKit
def pc (c : UInt8) (x : List UInt8 × List UInt8) : List UInt8 × List UInt8 := (c :: x.1, x.2)
def gfl (gs : List (UInt8 × Sx)) : Sx := gs.flatMap fun p => p.2.map (pc p.1)
theorem flat_cons (c : UInt8) (g : Sx) (gs : List (UInt8 × Sx)) : gfl ((c, g) :: gs) = g.map (pc c) ++ gfl gs := rfl
theorem groups_ne : ∀ s : Sx, ∀ p ∈ groups s, p.2 ≠ []
  | [], p, h => by cases h
  | ([], v) :: s, p, h => groups_ne s p h
  | (c :: n, v) :: s, p, h => by
    have ih := groups_ne s
    rw [groups] at h
    cases hg : groups s with
    | nil => rw [hg] at h; simp at h; rw [h]; simp
    | cons w gs =>
      obtain ⟨c', g⟩ := w
      rw [hg] at h ih
      dsimp only at h
      split at h
      · rcases List.mem_cons.1 h with rfl | h
        · simp
        · exact ih p (by simp [h])
      · rcases List.mem_cons.1 h with rfl | h
        · simp
        · exact ih p h
theorem groups_flat : ∀ s : Sx, (∀ x ∈ s, x.1 ≠ []) → gfl (groups s) = s
  | [], _ => rfl
  | ([], v) :: s, h => absurd rfl (h ([], v) (by simp))
  | (c :: n, v) :: s, h => by
    have ih := groups_flat s (fun x hx => h x (by simp [hx]))
    rw [groups]
    cases hg : groups s with
    | nil => rw [hg] at ih; rw [← ih]; rfl
    | cons w gs =>
      obtain ⟨c', g⟩ := w
      rw [hg] at ih
      dsimp only
      split
      · rename_i e
        subst e
        rw [flat_cons, List.map_cons, List.cons_append, ← flat_cons, ih]; rfl
      · rw [flat_cons, ih]; rfl
theorem groups_first {s : Sx} (h : ∀ x ∈ s, x.1 ≠ []) {c : UInt8} {g : Sx} {gs : List (UInt8 × Sx)} (hg : groups s = (c, g) :: gs) : ∃ n v r, s = (c :: n, v) :: r := by
  have hf := groups_flat s h
  have hne := groups_ne s (c, g) (by rw [hg]; simp)
  rw [hg, flat_cons] at hf
  cases g with
  | nil => exact absurd rfl hne
  | cons x g => exact ⟨x.1, x.2, g.map (pc c) ++ gfl gs, hf.symm⟩
theorem groups_sorted : ∀ s : Sx, (∀ x ∈ s, x.1 ≠ []) → Ris s → (groups s).Pairwise fun a b => a.1 < b.1
  | [], _, _ => List.Pairwise.nil
  | ([], v) :: s, h, _ => absurd rfl (h ([], v) (by simp))
  | (c :: n, v) :: s, h, hr => by
    have h' : ∀ x ∈ s, x.1 ≠ [] := fun x hx => h x (by simp [hx])
    have hr2 := List.pairwise_cons.1 hr
    have ih := groups_sorted s h' hr2.2
    rw [groups]
    cases hg : groups s with
    | nil => simp
    | cons w gs =>
      obtain ⟨c', g⟩ := w
      obtain ⟨n', v', r, hs⟩ := groups_first h' hg
      rw [hg] at ih
      dsimp only
      split
      · rename_i e
        subst e
        rw [List.pairwise_cons] at ih ⊢
        exact ⟨fun a ha => ih.1 a ha, ih.2⟩
      · rename_i e
        have h1 : c < c' := by
          have := hr2.1 (c' :: n', v') (by rw [hs]; simp)
          rcases cons_lt.1 this with h | h
          · exact h
          · exact absurd h.1 e
        rw [List.pairwise_cons]
        refine ⟨fun a ha => ?_, ih⟩
        rcases List.mem_cons.1 ha with rfl | ha
        · exact h1
        · exact UInt8.lt_trans h1 ((List.pairwise_cons.1 ih).1 a ha)
theorem flat_mem {gs : List (UInt8 × Sx)} {p : UInt8 × Sx} (hp : p ∈ gs) {x : List UInt8 × List UInt8} (hx : x ∈ p.2) : pc p.1 x ∈ gfl gs :=
  List.mem_flatMap.2 ⟨p, hp, List.mem_map.2 ⟨x, hx, rfl⟩⟩
theorem flat_ris {gs : List (UInt8 × Sx)} (h : Ris (gfl gs)) {p : UInt8 × Sx} (hp : p ∈ gs) : Ris p.2 := by
  have h1 : Ris (p.2.map (pc p.1)) := by
    unfold Ris gfl at *
    obtain ⟨a, b, rfl⟩ := List.append_of_mem hp
    rw [List.flatMap_append, List.flatMap_cons] at h
    exact h.sublist ((List.sublist_append_left _ _).trans (List.sublist_append_right _ _))
  unfold Ris at h1 ⊢
  rw [List.pairwise_map] at h1
  refine h1.imp fun {a b} hab => ?_
  rcases cons_lt.1 hab with h | h
  · exact absurd h (UInt8.lt_irrefl _)
  · exact h.2
def kl (b : Sx → Nat → List Nd) : Nat → Nat → List (UInt8 × Sx) → Nat → List Int
  | _, 0, _, _ => []
  | i, n + 1, [], k => 0 :: kl b (i + 1) n [] k
  | i, n + 1, (c, g) :: gs, k => if c.toNat = i then (k : Int) :: kl b (i + 1) n gs (k + (b g k).length) else 0 :: kl b (i + 1) n ((c, g) :: gs) k
theorem kl_nil (b : Sx → Nat → List Nd) : ∀ (n i k : Nat), kl b i n [] k = List.replicate n 0
  | 0, i, k => rfl
  | n + 1, i, k => by rw [kl, kl_nil b n, List.replicate_succ]
/-- Heads that rise, from a number on. -/
def Hd (i : Nat) (gs : List (UInt8 × Sx)) : Prop := (gs.Pairwise fun a b => a.1 < b.1) ∧ ∀ p ∈ gs, i ≤ p.1.toNat ∧ p.1.toNat < 16
theorem Hd.tail {i : Nat} {c : UInt8} {g : Sx} {gs : List (UInt8 × Sx)} (h : Hd i ((c, g) :: gs)) : Hd (c.toNat + 1) gs := by
  have h1 := List.pairwise_cons.1 h.1
  refine ⟨h1.2, fun p hp => ?_⟩
  have := UInt8.lt_iff_toNat_lt.1 (h1.1 p hp)
  have := (h.2 p (by simp [hp])).2
  dsimp only at *
  omega
theorem Hd.skip {i : Nat} {c : UInt8} {g : Sx} {gs : List (UInt8 × Sx)} (h : Hd i ((c, g) :: gs)) (hc : c.toNat ≠ i) : Hd (i + 1) ((c, g) :: gs) := by
  have h1 := List.pairwise_cons.1 h.1
  refine ⟨h.1, fun p hp => ?_⟩
  have h0 := (h.2 (c, g) (by simp)).1
  dsimp only at h0
  rcases List.mem_cons.1 hp with rfl | hp
  · have := (h.2 (c, g) (by simp)).2
    dsimp only at *
    omega
  · have := UInt8.lt_iff_toNat_lt.1 (h1.1 p hp)
    have := (h.2 p (by simp [hp])).2
    dsimp only at *
    omega
theorem brn_kids (b : Sx → Nat → List Nd) : ∀ (n i : Nat) (gs : List (UInt8 × Sx)) (k : Nat) (kids : Vector Int 16) (P : List Int), i + n = 16 → P.length = i → kids.toList = P ++ List.replicate n 0 → Hd i gs →
    (brn b gs k kids).2.toList = P ++ kl b i n gs k
  | 0, i, gs, k, kids, P, h1, h2, h3, h4 => by
    cases gs with
    | nil => rw [brn]; simpa [kl] using h3
    | cons p gs => have := h4.2 p (by simp); omega
  | n + 1, i, [], k, kids, P, h1, h2, h3, h4 => by
    rw [kl_nil, brn]; exact h3
  | n + 1, i, (c, g) :: gs, k, kids, P, h1, h2, h3, h4 => by
    rw [kl]
    by_cases hc : c.toNat = i
    · rw [if_pos hc, brn_cons]
      have h5 := h4.tail
      rw [hc] at h5
      have := brn_kids b n (i + 1) gs (k + (b g k).length) (setk kids c k) (P ++ [(k : Int)]) (by omega) (by simp [h2]) (by
        unfold setk
        rw [dif_pos (by omega), Vector.toList_set, h3, hc, List.replicate_succ, List.set_append_right _ _ (by omega), h2]
        simp) h5
      rw [this]; simp
    · rw [if_neg hc]
      have := brn_kids b n (i + 1) ((c, g) :: gs) k kids (P ++ [0]) (by omega) (by simp [h2]) (by rw [h3, List.replicate_succ]; simp) (h4.skip hc)
      rw [this]; simp
theorem kl_brn (b : Sx → Nat → List Nd) {gs : List (UInt8 × Sx)} (k : Nat) (h : Hd 0 gs) : (brn b gs k zk).2.toList = kl b 0 16 gs k := by
  have := brn_kids b 16 0 gs k zk [] rfl rfl (by simp [zk]) h
  simpa using this
def Okx (pre : List UInt8) (x : List UInt8 × List UInt8) : Prop := keyOf (pre ++ x.1) ≠ none ∧ pre.length + x.1.length ≤ 16
def kx (pre : List UInt8) (x : List UInt8 × List UInt8) : Pr := ⟨(keyOf (pre ++ x.1)).getD [], x.2⟩
theorem keyOf_le {a : List UInt8} (h : keyOf a ≠ none) : ∀ b ∈ a, b ≤ 15 := by
  unfold keyOf at h
  split at h
  · rename_i h2; exact h2.2
  · exact absurd rfl h
theorem Okx.pc {pre : List UInt8} {c : UInt8} {x : List UInt8 × List UInt8} (h : Okx pre (pc c x)) : Okx (pre ++ [c]) x := by
  obtain ⟨h1, h2⟩ := h
  simp only [Ab.pc] at h1 h2
  refine ⟨by rwa [List.append_assoc, List.singleton_append], ?_⟩
  simp at h2 ⊢; omega
theorem kx_pc (pre : List UInt8) (c : UInt8) (x : List UInt8 × List UInt8) : kx (pre ++ [c]) x = kx pre (pc c x) := by
  simp [kx, Ab.pc]
theorem kx_cut {pre p : List UInt8} {x : List UInt8 × List UInt8} (h : p <+: x.1) : kx (pre ++ p) (cut p.length x) = kx pre x := by
  obtain ⟨r, hr⟩ := h
  simp [kx, cut, ← hr]
theorem Okx.cut {pre p : List UInt8} {x : List UInt8 × List UInt8} (h : p <+: x.1) (hx : Okx pre x) : Okx (pre ++ p) (cut p.length x) := by
  obtain ⟨r, hr⟩ := h
  unfold Okx Ab.cut at *
  simp [← hr] at hx ⊢
  exact ⟨hx.1, by omega⟩
theorem wkids_zero (wk : Int → List UInt8 → W → Bool × W) (k : Int) (p : List UInt8) (w : W) : ∀ (n i : Nat), wkids wk k p i (List.replicate n 0) w = (true, w)
  | 0, i => rfl
  | n + 1, i => by rw [List.replicate_succ, wkids, if_pos rfl, wkids_zero wk k p w n]
theorem zk_list : zk.toList = List.replicate 16 0 := rfl
theorem zk_list0 (a : Int) : (zk.set 0 a).toList = a :: List.replicate 15 0 := by rw [Vector.toList_set, zk_list]; rfl
def WalkB (t : List Nd) (f : Nat) : Prop := ∀ (s : Sx) (k : Nat) (pre : List UInt8) (w : W) (g : Nat), w.next = k → s ≠ [] → Ris s → Fu s f → (∀ x ∈ s, Okx pre x) → bld f s k <+: t.drop k → (bld f s k).length ≤ g →
  walk t g (k : Int) pre w = (true, ⟨k + (bld f s k).length, w.l ++ s.map (kx pre), w.paths ++ pth f s pre⟩)
theorem wkids_brn {t : List Nd} {f : Nat} (ih : WalkB t f) : ∀ (n i : Nat) (gs : List (UInt8 × Sx)) (k : Nat) (kids : Vector Int 16) (pre : List UInt8) (w : W) (g : Nat), i + n = 16 → w.next = k → 0 < k → Hd i gs →
    (∀ p ∈ gs, p.2 ≠ [] ∧ Ris p.2 ∧ Fu p.2 f ∧ ∀ x ∈ p.2, Okx (pre ++ [p.1]) x) → (brn (bld f) gs k kids).1 <+: t.drop k → (brn (bld f) gs k kids).1.length ≤ g →
    wkids (walk t g) 3 pre i (kl (bld f) i n gs k) w = (true, ⟨k + (brn (bld f) gs k kids).1.length, w.l ++ (gfl gs).map (kx pre), w.paths ++ pbrn (pth f) pre gs⟩)
  | 0, i, gs, k, kids, pre, w, g, h1, h2, h3, h4, h5, h6, h7 => by
    cases gs with
    | nil => subst h2; simp [kl, wkids, brn, gfl, pbrn]
    | cons p gs => have := h4.2 p (by simp); omega
  | n + 1, i, [], k, kids, pre, w, g, h1, h2, h3, h4, h5, h6, h7 => by
    subst h2; rw [kl_nil, wkids_zero]; simp [brn, gfl, pbrn]
  | n + 1, i, (c, q) :: gs, k, kids, pre, w, g, h1, h2, h3, h4, h5, h6, h7 => by
    rw [kl]
    by_cases hc : c.toNat = i
    · obtain ⟨e1, e2, e3, e4⟩ := h5 (c, q) (by simp)
      rw [brn_cons] at h6 h7 ⊢
      dsimp only at e1 e2 e3 e4 h6 h7 ⊢
      have h6a : bld f q k <+: t.drop k := (List.prefix_append _ _).trans h6
      have h6b : (brn (bld f) gs (k + (bld f q k).length) (setk kids c k)).1 <+: t.drop (k + (bld f q k).length) := by
        obtain ⟨r, hr⟩ := h6
        refine ⟨r, ?_⟩
        rw [← List.drop_drop, ← hr]
        simp
      have hl : (bld f q k).length ≤ g := by rw [List.length_append] at h7; omega
      have hk := ih q k (pre ++ [c]) w g h2 e1 e2 e3 e4 h6a hl
      rw [if_pos hc, wkids, if_neg (by omega)]
      have hkp : kp 3 pre i = pre ++ [c] := by
        rw [kp, if_pos rfl, ← hc]; simp
      rw [hkp, hk]
      dsimp only
      rw [if_pos rfl]
      have h5t := h4.tail
      rw [hc] at h5t
      rw [wkids_brn ih n (i + 1) gs (k + (bld f q k).length) (setk kids c k) pre _ g (by omega) rfl (by omega) h5t (fun p hp => h5 p (by simp [hp])) h6b (by rw [List.length_append] at h7; omega)]
      have em : q.map (kx (pre ++ [c])) = (q.map (pc c)).map (kx pre) := by
        rw [List.map_map]; exact List.map_congr_left fun x _ => kx_pc pre c x
      rw [em, flat_cons, pbrn_cons]
      simp only [List.map_append, List.append_assoc, List.length_append, Nat.add_assoc]
    · rw [if_neg hc, wkids, if_pos rfl]
      exact wkids_brn ih n (i + 1) ((c, q) :: gs) k kids pre w g (by omega) h2 h3 (h4.skip hc) h5 h6 h7
theorem pre_head {x : Nd} {r t : List Nd} {k : Nat} (h : x :: r <+: t.drop k) : ∃ (hk : k < t.length), t[k] = x ∧ r <+: t.drop (k + 1) := by
  obtain ⟨u, hu⟩ := h
  have hk : k < t.length := by
    have := congrArg List.length hu
    simp at this
    omega
  refine ⟨hk, ?_, u, ?_⟩
  · rw [List.drop_eq_getElem_cons hk, List.cons_append] at hu
    exact (List.cons.inj hu).1.symm
  · rw [List.drop_eq_getElem_cons hk, List.cons_append] at hu
    exact (List.cons.inj hu).2
theorem Ris.rest {x : List UInt8 × List UInt8} {s : Sx} (h : Ris (x :: s)) : ∀ y ∈ s, y.1 ≠ [] := h.full
theorem heads_small {pre : List UInt8} {s : Sx} (hne : ∀ x ∈ s, x.1 ≠ []) (hr : Ris s) (ho : ∀ x ∈ s, Okx pre x) : Hd 0 (groups s) := by
  refine ⟨groups_sorted s hne hr, fun p hp => ⟨Nat.zero_le _, ?_⟩⟩
  have h1 := groups_ne s p hp
  obtain ⟨x, hx⟩ := List.exists_mem_of_ne_nil _ h1
  have h2 := flat_mem hp hx
  rw [groups_flat s hne] at h2
  have h3 := keyOf_le (ho _ h2).1 p.1 (by simp [pc])
  have := UInt8.le_iff_toNat_le.1 h3
  simp at this
  omega
theorem grp_all {pre : List UInt8} {s : Sx} {f : Nat} (hne : ∀ x ∈ s, x.1 ≠ []) (hr : Ris s) (hf : Fu s (f + 1)) (ho : ∀ x ∈ s, Okx pre x) : ∀ p ∈ groups s, p.2 ≠ [] ∧ Ris p.2 ∧ Fu p.2 f ∧ ∀ x ∈ p.2, Okx (pre ++ [p.1]) x := by
  intro p hp
  have hfl := groups_flat s hne
  refine ⟨groups_ne s p hp, flat_ris (by rw [hfl]; exact hr) hp, fun x hx => ?_, fun x hx => ?_⟩
  · have := hf _ (hfl ▸ flat_mem hp hx)
    simp [pc] at this; omega
  · exact (ho _ (hfl ▸ flat_mem hp hx)).pc
theorem walkB (t : List Nd) : ∀ f, WalkB t f
  | 0 => fun s k pre w g _ hne _ hf _ _ _ => by
    obtain ⟨x, hx⟩ := List.exists_mem_of_ne_nil _ hne
    exact absurd (hf x hx) (Nat.not_lt_zero _)
  | f + 1 => fun s k pre w g hw hne hr hf ho hp hl => by
    have ih := walkB t f
    subst hw
    match s, hne, hr, hf, ho, hp, hl with
    | [x], _, hr, hf, ho, hp, hl =>
      rw [bld_one] at hp hl ⊢
      obtain ⟨hk, e, hp2⟩ := pre_head hp
      obtain ⟨g, rfl⟩ : ∃ g', g = g' + 1 := ⟨g - 1, by simp at hl; omega⟩
      have h16 : pre.length ≤ 16 := by have := (ho x (by simp)).2; omega
      have hko := (ho x (by simp)).1
      rw [walk, dif_pos ⟨rfl, hk, h16⟩, e, if_neg (fun h => hko h.2), zk_list, wkids_zero, pth_one]
      simp [wmeet, kx]
    | x :: y :: r, _, hr, hf, ho, hp, hl =>
      have h16 : pre.length ≤ 16 := by have := (ho x (by simp)).2; omega
      by_cases hc : 0 < com x.1 (lst y r).1
      · rw [bld_ext _ _ _ _ _ hc] at hp hl ⊢
        rw [pth_ext _ _ _ _ _ hc]
        obtain ⟨hk, e, hp2⟩ := pre_head hp
        obtain ⟨g, rfl⟩ : ∃ g', g = g' + 1 := ⟨g - 1, by simp at hl; omega⟩
        have hcom := hr.common
        have hlen : (x.1.take (com x.1 (lst y r).1)).length = com x.1 (lst y r).1 := by
          rw [List.length_take]; have := com_left x.1 (lst y r).1; omega
        have hcut := ih ((x :: y :: r).map (cut (com x.1 (lst y r).1))) (w.next + 1) (pre ++ x.1.take (com x.1 (lst y r).1)) (wmeet ⟨2, x.1.take (com x.1 (lst y r).1), false, [], zk.set 0 ((w.next + 1 : Nat) : Int)⟩ pre w) g rfl (by simp) (by
            have := hr.cut hcom; rwa [hlen] at this) (fun z hz => by
            obtain ⟨z', hz', rfl⟩ := List.mem_map.1 hz
            have := hf z' hz'
            have h2 := (hcom z' hz').length_le
            rw [hlen] at h2
            simp only [cut, List.length_drop]; omega) (fun z hz => by
            obtain ⟨z', hz', rfl⟩ := List.mem_map.1 hz
            have := (ho z' hz').cut (hcom z' hz')
            rwa [hlen] at this) hp2 (by rw [List.length_cons] at hl; omega)
        rw [walk, dif_pos ⟨rfl, hk, h16⟩, e, if_neg (fun h => by cases h.1), zk_list0, wkids, if_neg (by omega)]
        have hkp : kp 2 (pre ++ x.1.take (com x.1 (lst y r).1)) 0 = pre ++ x.1.take (com x.1 (lst y r).1) := by
          rw [kp, if_neg (by decide)]; simp
        dsimp only at hcut ⊢
        rw [hkp, hcut]
        dsimp only
        rw [if_pos rfl, wkids_zero]
        have em : ((x :: y :: r).map (cut (com x.1 (lst y r).1))).map (kx (pre ++ x.1.take (com x.1 (lst y r).1))) = (x :: y :: r).map (kx pre) := by
          rw [List.map_map]
          refine List.map_congr_left fun z hz => ?_
          have := kx_cut (pre := pre) (hcom z hz)
          rwa [hlen] at this
        rw [em]
        simp [wmeet, Nat.add_assoc, Nat.add_comm, Nat.add_left_comm]
      · rw [bld_brn _ _ _ _ _ hc] at hp hl ⊢
        rw [pth_brn _ _ _ _ _ hc]
        obtain ⟨hk, e, hp2⟩ := pre_head hp
        obtain ⟨g, rfl⟩ : ∃ g', g = g' + 1 := ⟨g - 1, by simp at hl; omega⟩
        have hrr := hr.full
        by_cases hx : x.1 = []
        · simp only [if_pos hx] at hp2 hl e ⊢
          have hr2 : Ris (y :: r) := (List.pairwise_cons.1 hr).2
          have ho2 : ∀ z ∈ y :: r, Okx pre z := fun z hz => ho z (by simp at hz ⊢; exact .inr hz)
          have hf2 : Fu (y :: r) (f + 1) := fun z hz => hf z (by simp at hz ⊢; exact .inr hz)
          have hH := heads_small hrr hr2 ho2
          have hb := wkids_brn ih 16 0 (groups (y :: r)) (w.next + 1) zk pre (wmeet ⟨3, [], decide (x.1 = []), x.2, (brn (bld f) (groups (y :: r)) (w.next + 1) zk).2⟩ pre w) g rfl rfl (by omega) hH (grp_all hrr hr2 hf2 ho2) hp2 (by simp at hl; omega)
          rw [walk, dif_pos ⟨rfl, hk, h16⟩, e]
          dsimp only
          rw [if_neg (fun h => by
            have := (ho x (by simp)).1
            rw [hx] at this
            exact this h.2), kl_brn _ _ hH, List.append_nil, hb]
          rw [groups_flat _ hrr]
          simp [wmeet, kx, hx, Nat.add_assoc, Nat.add_comm, Nat.add_left_comm]
        · simp only [if_neg hx] at hp2 hl e ⊢
          have hne : ∀ z ∈ x :: y :: r, z.1 ≠ [] := fun z hz => by
            rcases List.mem_cons.1 hz with rfl | hz
            · exact hx
            · exact hrr z hz
          have hH := heads_small hne hr ho
          have hb := wkids_brn ih 16 0 (groups (x :: y :: r)) (w.next + 1) zk pre (wmeet ⟨3, [], decide (x.1 = []), [], (brn (bld f) (groups (x :: y :: r)) (w.next + 1) zk).2⟩ pre w) g rfl rfl (by omega) hH (grp_all hne hr hf ho) hp2 (by simp at hl; omega)
          rw [walk, dif_pos ⟨rfl, hk, h16⟩, e]
          dsimp only
          rw [if_neg (fun h => hx (by simpa using h.1)), kl_brn _ _ hH, List.append_nil, hb, groups_flat _ hne]
          simp [wmeet, hx, Nat.add_assoc, Nat.add_comm, Nat.add_left_comm]
theorem kx_nil {l : List Pr} : (sx l).map (kx []) = l := by
  simp only [sx, List.map_map]
  conv => rhs; rw [← List.map_id l]
  refine List.map_congr_left fun p _ => ?_
  simp [kx, keyOf_nib]
theorem walkAll_build {l : List Pr} (h : May l) : walkAll (build l) = (true, ⟨(build l).length, l, paths l⟩) := by
  unfold walkAll build paths
  by_cases hn : l = []
  · subst hn; rfl
  · simp only [if_neg hn]
    have hs : sx l ≠ [] := by simpa [sx] using hn
    have hne : bld 17 (sx l) 0 ≠ [] := by
      cases hb : sx l with
      | nil => exact absurd hb hs
      | cons x r =>
        cases r with
        | nil => rw [bld_one]; simp
        | cons y r =>
          by_cases hc : 0 < com x.1 (lst y r).1
          · rw [bld_ext _ _ _ _ _ hc]; simp
          · rw [bld_brn _ _ _ _ _ hc]; simp
    have hr : Ris (sx l) := by
      have := (Seg.all h hn).ris
      rwa [sg_all] at this
    rw [if_neg hne]
    have := walkB (bld 17 (sx l) 0) 17 (sx l) 0 [] ⟨0, [], []⟩ ((bld 17 (sx l) 0).length + 1) rfl hs hr (Fu.all h) (fun x hx => by
      obtain ⟨p, hp, rfl⟩ := List.mem_map.1 hx
      refine ⟨by simp [keyOf_nib], ?_⟩
      have := (h.1 p hp).2.1
      simp [nib_length]; omega) (by simp) (Nat.le_succ _)
    rw [show ((0 : Nat) : Int) = 0 from rfl] at this
    rw [this, kx_nil]
    simp
theorem isw_build {l : List Pr} (h : May l) : Isw (build l) := by
  unfold Isw
  rw [walkAll_build h]
  exact ⟨rfl, h, rfl⟩
theorem isw_iff {t : List Nd} : Isw t ↔ ∃ l, May l ∧ t = build l := by
  constructor
  · intro h; exact ⟨_, h.2.1, h.2.2⟩
  · rintro ⟨l, h, rfl⟩; exact isw_build h
end Go.Proofs.Ythalogdopkoidaa.Ab
set_option linter.unusedVariables false
set_option linter.unusedSimpArgs false
namespace Go.Proofs.Ythalogdopkoidaa.Ab
open Go Go.RowKit
theorem bp52a (k : List UInt8) : abuild TT 52 [(0, S k)] = some (Pr.mk k []).val := rfl
theorem Own.pairs {H : AHeap} {v : Value} {i n : Nat} (l : List Pr) (hn : l.length = n) (h : Own H v 52 n ((l.map Pr.val).flatMap fun v => v.cells.toList) i) : PrB H v l := by
  subst hn
  have e : ((l.map Pr.val).flatMap fun v => v.cells.toList) = l.flatMap Pr.cells := by
    rw [List.flatMap_map]; rfl
  rw [e] at h
  exact .inr ⟨i, h⟩
theorem Lay.prs (l : List Pr) : ∀ v ∈ l.map Pr.val, ∃ xs, Lay v xs ∧ xs.length = 2 := fun v hv => by
  obtain ⟨p, _, rfl⟩ := List.mem_map.1 hv
  exact ⟨_, Lay.pr p, rfl⟩
def wps : List Pr := [⟨[97], [49]⟩, ⟨[97, 98], [50]⟩, ⟨[98], []⟩]
def wbad : List Pr := [⟨[98], []⟩, ⟨[97], []⟩]
def wt : List Nd := [⟨2, [6], false, [], zk.set 0 1⟩, ⟨3, [], false, [], (zk.set 1 2).set 2 4⟩, ⟨3, [], true, [49], zk.set 6 3⟩, ⟨1, [2], true, [50], zk⟩, ⟨1, [], true, [], zk⟩]
def wpa : List (List UInt8) := [[], [6], [6, 1], [6, 1, 6], [6, 2]]
theorem wps_may : May wps := by decide
theorem wbad_may : ¬ May wbad := by decide
theorem wps_build : build wps = wt := by decide +kernel
theorem wt_walk : (walkAll wt).2.paths = wpa ∧ (walkAll wt).2.l = wps := by decide +kernel
theorem wt_isw : Isw wt := by rw [← wps_build]; exact isw_build wps_may
theorem nil_isw : Isw [] := by decide +kernel
theorem wt_drop : ¬ Isw (wt.drop 1) := by decide +kernel
section
variable {P : Program} {T : Tab} {N : Nat} {ok : Nat → Prop} {d : Bool} {late : List Nat} {ops : List Oper} {k : Nat} {l : List Oper} {K : Env → AHeap → Prop} {e : Env} {H : AHeap}
theorem AQ_here {o : Oper} (h : AQ P N ok d late ops k (o :: l) K e H) : AQ P N ok d late ops k (o :: l) K e H := h
theorem AQ_fix (Q : Env → Prop) (hq : Q e) (h : ∀ e', Q e' → AQ P N ok d late ops k l K e' H) : AQ P N ok d late ops k l K e H := h e hq
theorem awant_t {o : Oper} {j dst : Nat} {want : Bool} (hd : (ops[j]?).bind (·.dst) = some dst) (h : get e dst = .bool want) (hg : o.guard = some (j, want)) : awant ops e o = some true := by
  simp [awant, hg, hd, h]
theorem AC_fixe {c : Code} {R : Exit → Env → AHeap → Prop} (Q : Env → Prop) (hq : Q e) (h : ∀ e', Q e' → AC P N ok c R e' H) : AC P N ok c R e H := h e hq
end
set_option maxRecDepth 100000 in
set_option maxHeartbeats 4000000 in
theorem c28 {H : AHeap} : ACalls Try.prog 28 [] H (fun _ => False) fun v H' => v = .bool true := by
  refine ACalls_by 172 TT_ok Try.func28 rfl rfl rfl (by simp) ?_
  refine AC_seqQ TT_ok (by simp only [go_sem] <;> rfl) ?_
  refine AC_seq ?_
  refine AC_regL ?_
  refine AQ_take TT_ok 3 rfl (by simp only [go_sem, List.map_cons, List.map_nil, bp52, bp52a] <;> rfl) ?_
  refine AQ_lit TT_ok (wps.map Pr.val) TT_22 rfl TT_52 rfl (by decide) rfl (by decide) rfl (by simp only [wps, List.map_cons, List.map_nil, go_sem, numbered]) (Lay.prs _) fun H1 hX1 hO1 hL1 => ?_
  have hP1 := Own.pairs wps rfl hO1
  refine AQ_c rfl (by simp only [go_sem] <;> rfl) fok29 (by simp only [List.map_cons, List.map_nil, List.append_nil, go_sem] <;> rfl) (c29 hP1.sl (by decide)) (fun _ _ h => h.elim) (.inl rfl) fun r H2 hX2 ⟨vt, hr, hT2, _⟩ => ?_
  subst hr
  rw [if_pos wps_may, wps_build] at hT2
  have dm : decide (May wps) = true := decide_eq_true wps_may
  refine AQ_all TT_ok rfl (by simp only [go_sem, dm] <;> rfl) ?_
  have hT2' := hT2.sl
  refine AC_seq ?_
  refine AC_regL ?_
  refine AQ_take TT_ok 2 rfl (by simp only [go_sem, List.map_cons, List.map_nil, bp52, bp52a] <;> rfl) ?_
  refine AQ_lit TT_ok (wbad.map Pr.val) TT_22 rfl TT_52 rfl (by decide) rfl (by decide) rfl (by simp only [wbad, List.map_cons, List.map_nil, go_sem, numbered]) (Lay.prs _) fun H3 hX3 hO3 hL3 => ?_
  have hP3 := Own.pairs wbad rfl hO3
  refine AQ_c rfl (by simp only [go_sem] <;> rfl) fok29 (by simp only [List.map_cons, List.map_nil, List.append_nil, go_sem] <;> rfl) (c29 hP3.sl (by decide)) (fun _ _ h => h.elim) (.inl rfl) fun r H4 hX4 ⟨vb, hr, _, _⟩ => ?_
  subst hr
  have db : decide (May wbad) = false := decide_eq_false wbad_may
  refine AQ_all TT_ok rfl (by simp only [go_sem, db] <;> rfl) ?_
  have hT4 : NdS H4 vt wt := (hT2'.keep hX3).keep hX4
  refine AC_cut (fun e' H' => NdS H' vt wt ∧ get e' 1 = vt ∧ get e' 4 = .bool false) ?_ (fun e5 H5 _ ⟨hT, g1, g4⟩ => ?_)
  · have l5 : decide ((wt.length : Int) = 5) = true := rfl
    refine AC_seqQ TT_ok (by simp only [go_sem, hT4.alen, l5] <;> rfl) ?_
    refine AC_f (by simp only [go_sem] <;> rfl) (by first | rfl | simp) ?_
    refine AC_skip ?_
    exact ⟨hT4, by simp only [go_sem], by simp only [go_sem]⟩
  have g2 := g4
  have di : decide (Isw wt) = true := decide_eq_true wt_isw
  have dn : decide (Isw []) = true := decide_eq_true nil_isw
  have dd : decide (Isw (wt.drop 1)) = false := decide_eq_false wt_drop
  have hnl : ∀ n ∈ wt, n.path.length < 2^30 := by decide
  refine AC_seq ?_
  refine AC_regL ?_
  refine AQ_take TT_ok 1 rfl (by simp only [go_sem, g1] <;> rfl) ?_
  refine AQ_c rfl (by simp only [go_sem] <;> rfl) fok33 (by simp only [List.map_cons, List.map_nil, List.append_nil, go_sem] <;> rfl) (c33 hT (by decide) hnl) (fun _ _ h => h.elim) (.inl rfl) fun r H6 hX6 ⟨vp, hr, hP6, _⟩ => ?_
  subst hr
  rw [if_pos wt_isw, wt_walk.1] at hP6
  refine AQ_all TT_ok rfl (by simp only [go_sem, di] <;> rfl) ?_
  have hT6 := hT.keep hX6
  have hP6' : StS H6 vp wpa := hP6.sl
  refine AC_seq ?_
  refine AC_regL ?_
  refine AQ_take TT_ok 1 rfl (by simp only [go_sem, g1] <;> rfl) ?_
  refine AQ_c rfl (by simp only [go_sem] <;> rfl) fok31 (by simp only [List.map_cons, List.map_nil, List.append_nil, go_sem] <;> rfl) (c31 hT6 (by decide) hnl) (fun _ _ h => h.elim) (.inl rfl) fun r H7 hX7 ⟨vl, hr, hL7, _⟩ => ?_
  subst hr
  rw [if_pos wt_isw, wt_walk.2] at hL7
  refine AQ_all TT_ok rfl (by simp only [go_sem, di] <;> rfl) ?_
  have g1' := g1
  have g4' := g4
  refine AC_fixe (fun e' => get e' 1 = vt ∧ get e' 4 = .bool false ∧ get e' 5 = vp ∧ get e' 6 = .bool true ∧ get e' 7 = vl ∧ get e' 8 = .bool true) ⟨by simp only [go_sem, g1], by simp only [go_sem, g4], by simp only [go_sem], by simp only [go_sem], by simp only [go_sem], by simp only [go_sem]⟩ (fun e7 ⟨g1, g4, g5, g6, g7, g8⟩ => ?_)
  have hT := hT6.keep hX7
  have hP := hP6'.keep hX7
  have hL : PrS H7 vl wps := hL7.sl
  have i0 : aindex TT 24 vt (.int .i64 0) = some (ep vt (0 * 20)) := hT.index (by decide) (by decide)
  have i0f4 : afield TT 49 (ep vt (0 * 20)) 4 = some (ep vt (0 * 20 + 4)) := hT.f4 (by decide)
  have i0kindf : afield TT 49 (ep vt (0 * 20)) 0 = some (ep vt (0 * 20 + 0)) := hT.f0 (by decide)
  have i0kindl : aload TT H7 3 (ep vt (0 * 20 + 0)) = some (.int .i64 2) := hT.kind (i := 0) (by decide)
  have i0pathf : afield TT 49 (ep vt (0 * 20)) 1 = some (ep vt (0 * 20 + 1)) := hT.f1 (by decide)
  have i0pathl : aload TT H7 9 (ep vt (0 * 20 + 1)) = some (S [6]) := hT.path (i := 0) (by decide)
  have i0k0 : aindex TT 47 (ep vt (0 * 20 + 4)) (.int .i64 0) = some (ep vt (0 * 20 + (4 + 0))) := hT.kidx (i := 0) (c := 0) (by decide) (by decide)
  have i0l0 : aload TT H7 3 (ep vt (0 * 20 + (4 + 0))) = some (.int .i64 1) := hT.kid (i := 0) (c := 0) (by decide) (by decide)
  have i1 : aindex TT 24 vt (.int .i64 1) = some (ep vt (1 * 20)) := hT.index (by decide) (by decide)
  have i1f4 : afield TT 49 (ep vt (1 * 20)) 4 = some (ep vt (1 * 20 + 4)) := hT.f4 (by decide)
  have i1kindf : afield TT 49 (ep vt (1 * 20)) 0 = some (ep vt (1 * 20 + 0)) := hT.f0 (by decide)
  have i1kindl : aload TT H7 3 (ep vt (1 * 20 + 0)) = some (.int .i64 3) := hT.kind (i := 1) (by decide)
  have i1k1 : aindex TT 47 (ep vt (1 * 20 + 4)) (.int .i64 1) = some (ep vt (1 * 20 + (4 + 1))) := hT.kidx (i := 1) (c := 1) (by decide) (by decide)
  have i1l1 : aload TT H7 3 (ep vt (1 * 20 + (4 + 1))) = some (.int .i64 2) := hT.kid (i := 1) (c := 1) (by decide) (by decide)
  have i1k2 : aindex TT 47 (ep vt (1 * 20 + 4)) (.int .i64 2) = some (ep vt (1 * 20 + (4 + 2))) := hT.kidx (i := 1) (c := 2) (by decide) (by decide)
  have i1l2 : aload TT H7 3 (ep vt (1 * 20 + (4 + 2))) = some (.int .i64 4) := hT.kid (i := 1) (c := 2) (by decide) (by decide)
  have i2 : aindex TT 24 vt (.int .i64 2) = some (ep vt (2 * 20)) := hT.index (by decide) (by decide)
  have i2f4 : afield TT 49 (ep vt (2 * 20)) 4 = some (ep vt (2 * 20 + 4)) := hT.f4 (by decide)
  have i2kindf : afield TT 49 (ep vt (2 * 20)) 0 = some (ep vt (2 * 20 + 0)) := hT.f0 (by decide)
  have i2kindl : aload TT H7 3 (ep vt (2 * 20 + 0)) = some (.int .i64 3) := hT.kind (i := 2) (by decide)
  have i2hasf : afield TT 49 (ep vt (2 * 20)) 2 = some (ep vt (2 * 20 + 2)) := hT.f2 (by decide)
  have i2hasl : aload TT H7 4 (ep vt (2 * 20 + 2)) = some (.bool true) := hT.has (i := 2) (by decide)
  have i2valuef : afield TT 49 (ep vt (2 * 20)) 3 = some (ep vt (2 * 20 + 3)) := hT.f3 (by decide)
  have i2valuel : aload TT H7 9 (ep vt (2 * 20 + 3)) = some (S [49]) := hT.value (i := 2) (by decide)
  have i2k6 : aindex TT 47 (ep vt (2 * 20 + 4)) (.int .i64 6) = some (ep vt (2 * 20 + (4 + 6))) := hT.kidx (i := 2) (c := 6) (by decide) (by decide)
  have i2l6 : aload TT H7 3 (ep vt (2 * 20 + (4 + 6))) = some (.int .i64 3) := hT.kid (i := 2) (c := 6) (by decide) (by decide)
  have i3 : aindex TT 24 vt (.int .i64 3) = some (ep vt (3 * 20)) := hT.index (by decide) (by decide)
  have i3pathf : afield TT 49 (ep vt (3 * 20)) 1 = some (ep vt (3 * 20 + 1)) := hT.f1 (by decide)
  have i3pathl : aload TT H7 9 (ep vt (3 * 20 + 1)) = some (S [2]) := hT.path (i := 3) (by decide)
  have i4 : aindex TT 24 vt (.int .i64 4) = some (ep vt (4 * 20)) := hT.index (by decide) (by decide)
  have i4kindf : afield TT 49 (ep vt (4 * 20)) 0 = some (ep vt (4 * 20 + 0)) := hT.f0 (by decide)
  have i4kindl : aload TT H7 3 (ep vt (4 * 20 + 0)) = some (.int .i64 1) := hT.kind (i := 4) (by decide)
  have i4pathf : afield TT 49 (ep vt (4 * 20)) 1 = some (ep vt (4 * 20 + 1)) := hT.f1 (by decide)
  have i4pathl : aload TT H7 9 (ep vt (4 * 20 + 1)) = some (S []) := hT.path (i := 4) (by decide)
  have p0 : alen TT 30 vp = some (.int .i64 5) := hP.alen
  have p1 : aindex TT 30 vp (.int .i64 3) = some (ep vp (3 * 1 + 0)) := hP.index (j := 3) (by decide)
  have p2 : aload TT H7 9 (ep vp (3 * 1 + 0)) = some (S [6, 1, 6]) := hP.load (i := 3) (by decide)
  have q0 : alen TT 22 vl = some (.int .i64 3) := hL.alen
  refine AC_seq ?_
  refine AC_regL ?_
  simp only [List.append_eq, List.cons_append, List.nil_append]
  refine AQ_take TT_ok 6 rfl (by simp only [go_sem, g1, g4, g5, g6, g7, g8, p0, p1, p2, q0, eq_self, decide_true, Bool.not_false, i0, i0f4, i0kindf, i0kindl, i0pathf, i0pathl, i0k0, i0l0, i1, i1f4, i1kindf, i1kindl, i1k1, i1l1, i1k2, i1l2, i2, i2f4, i2kindf, i2kindl, i2hasf, i2hasl, i2valuef, i2valuel, i2k6, i2l6, i3, i3pathf, i3pathl, i4, i4kindf, i4kindl, i4pathf, i4pathl] <;> rfl) ?_
  refine AQ_here ?_
  refine AQ_fix (fun e' => get e' 1 = vt ∧ get e' 4 = .bool false ∧ get e' 5 = vp ∧ get e' 6 = .bool true ∧ get e' 7 = vl ∧ get e' 8 = .bool true ∧ get e' 46 = .bool true) ⟨by simp only [go_sem, g1], by simp only [go_sem, g4], by simp only [go_sem, g5], by simp only [go_sem, g6], by simp only [go_sem, g7], by simp only [go_sem, g8], by simp only [go_sem]⟩ (fun e8 ⟨g1, g4, g5, g6, g7, g8, h46⟩ => ?_)
  refine AQ_take TT_ok 7 rfl (by simp only [go_sem, g1, g4, g5, g6, g7, g8, h46, p0, p1, p2, q0, eq_self, decide_true, Bool.not_false, i0, i0f4, i0kindf, i0kindl, i0pathf, i0pathl, i0k0, i0l0, i1, i1f4, i1kindf, i1kindl, i1k1, i1l1, i1k2, i1l2, i2, i2f4, i2kindf, i2kindl, i2hasf, i2hasl, i2valuef, i2valuel, i2k6, i2l6, i3, i3pathf, i3pathl, i4, i4kindf, i4kindl, i4pathf, i4pathl] <;> rfl) ?_
  refine AQ_here ?_
  refine AQ_fix (fun e' => get e' 1 = vt ∧ get e' 4 = .bool false ∧ get e' 5 = vp ∧ get e' 6 = .bool true ∧ get e' 7 = vl ∧ get e' 8 = .bool true ∧ get e' 53 = .bool true) ⟨by simp only [go_sem, g1], by simp only [go_sem, g4], by simp only [go_sem, g5], by simp only [go_sem, g6], by simp only [go_sem, g7], by simp only [go_sem, g8], by simp only [go_sem]⟩ (fun e9 ⟨g1, g4, g5, g6, g7, g8, h53⟩ => ?_)
  refine AQ_take TT_ok 8 rfl (by simp only [go_sem, g1, g4, g5, g6, g7, g8, h53, p0, p1, p2, q0, eq_self, decide_true, Bool.not_false, i0, i0f4, i0kindf, i0kindl, i0pathf, i0pathl, i0k0, i0l0, i1, i1f4, i1kindf, i1kindl, i1k1, i1l1, i1k2, i1l2, i2, i2f4, i2kindf, i2kindl, i2hasf, i2hasl, i2valuef, i2valuel, i2k6, i2l6, i3, i3pathf, i3pathl, i4, i4kindf, i4kindl, i4pathf, i4pathl] <;> rfl) ?_
  refine AQ_here ?_
  refine AQ_fix (fun e' => get e' 1 = vt ∧ get e' 4 = .bool false ∧ get e' 5 = vp ∧ get e' 6 = .bool true ∧ get e' 7 = vl ∧ get e' 8 = .bool true ∧ get e' 61 = .bool true) ⟨by simp only [go_sem, g1], by simp only [go_sem, g4], by simp only [go_sem, g5], by simp only [go_sem, g6], by simp only [go_sem, g7], by simp only [go_sem, g8], by simp only [go_sem]⟩ (fun e10 ⟨g1, g4, g5, g6, g7, g8, h61⟩ => ?_)
  refine AQ_take TT_ok 7 rfl (by simp only [go_sem, g1, g4, g5, g6, g7, g8, h61, p0, p1, p2, q0, eq_self, decide_true, Bool.not_false, i0, i0f4, i0kindf, i0kindl, i0pathf, i0pathl, i0k0, i0l0, i1, i1f4, i1kindf, i1kindl, i1k1, i1l1, i1k2, i1l2, i2, i2f4, i2kindf, i2kindl, i2hasf, i2hasl, i2valuef, i2valuel, i2k6, i2l6, i3, i3pathf, i3pathl, i4, i4kindf, i4kindl, i4pathf, i4pathl] <;> rfl) ?_
  refine AQ_here ?_
  refine AQ_fix (fun e' => get e' 1 = vt ∧ get e' 4 = .bool false ∧ get e' 5 = vp ∧ get e' 6 = .bool true ∧ get e' 7 = vl ∧ get e' 8 = .bool true ∧ get e' 68 = .bool true) ⟨by simp only [go_sem, g1], by simp only [go_sem, g4], by simp only [go_sem, g5], by simp only [go_sem, g6], by simp only [go_sem, g7], by simp only [go_sem, g8], by simp only [go_sem]⟩ (fun e11 ⟨g1, g4, g5, g6, g7, g8, h68⟩ => ?_)
  refine AQ_take TT_ok 8 rfl (by simp only [go_sem, g1, g4, g5, g6, g7, g8, h68, p0, p1, p2, q0, eq_self, decide_true, Bool.not_false, i0, i0f4, i0kindf, i0kindl, i0pathf, i0pathl, i0k0, i0l0, i1, i1f4, i1kindf, i1kindl, i1k1, i1l1, i1k2, i1l2, i2, i2f4, i2kindf, i2kindl, i2hasf, i2hasl, i2valuef, i2valuel, i2k6, i2l6, i3, i3pathf, i3pathl, i4, i4kindf, i4kindl, i4pathf, i4pathl] <;> rfl) ?_
  refine AQ_here ?_
  refine AQ_fix (fun e' => get e' 1 = vt ∧ get e' 4 = .bool false ∧ get e' 5 = vp ∧ get e' 6 = .bool true ∧ get e' 7 = vl ∧ get e' 8 = .bool true ∧ get e' 76 = .bool true) ⟨by simp only [go_sem, g1], by simp only [go_sem, g4], by simp only [go_sem, g5], by simp only [go_sem, g6], by simp only [go_sem, g7], by simp only [go_sem, g8], by simp only [go_sem]⟩ (fun e12 ⟨g1, g4, g5, g6, g7, g8, h76⟩ => ?_)
  refine AQ_take TT_ok 8 rfl (by simp only [go_sem, g1, g4, g5, g6, g7, g8, h76, p0, p1, p2, q0, eq_self, decide_true, Bool.not_false, i0, i0f4, i0kindf, i0kindl, i0pathf, i0pathl, i0k0, i0l0, i1, i1f4, i1kindf, i1kindl, i1k1, i1l1, i1k2, i1l2, i2, i2f4, i2kindf, i2kindl, i2hasf, i2hasl, i2valuef, i2valuel, i2k6, i2l6, i3, i3pathf, i3pathl, i4, i4kindf, i4kindl, i4pathf, i4pathl] <;> rfl) ?_
  refine AQ_here ?_
  refine AQ_fix (fun e' => get e' 1 = vt ∧ get e' 4 = .bool false ∧ get e' 5 = vp ∧ get e' 6 = .bool true ∧ get e' 7 = vl ∧ get e' 8 = .bool true ∧ get e' 84 = .bool true) ⟨by simp only [go_sem, g1], by simp only [go_sem, g4], by simp only [go_sem, g5], by simp only [go_sem, g6], by simp only [go_sem, g7], by simp only [go_sem, g8], by simp only [go_sem]⟩ (fun e13 ⟨g1, g4, g5, g6, g7, g8, h84⟩ => ?_)
  refine AQ_take TT_ok 7 rfl (by simp only [go_sem, g1, g4, g5, g6, g7, g8, h84, p0, p1, p2, q0, eq_self, decide_true, Bool.not_false, i0, i0f4, i0kindf, i0kindl, i0pathf, i0pathl, i0k0, i0l0, i1, i1f4, i1kindf, i1kindl, i1k1, i1l1, i1k2, i1l2, i2, i2f4, i2kindf, i2kindl, i2hasf, i2hasl, i2valuef, i2valuel, i2k6, i2l6, i3, i3pathf, i3pathl, i4, i4kindf, i4kindl, i4pathf, i4pathl] <;> rfl) ?_
  refine AQ_here ?_
  refine AQ_fix (fun e' => get e' 1 = vt ∧ get e' 4 = .bool false ∧ get e' 5 = vp ∧ get e' 6 = .bool true ∧ get e' 7 = vl ∧ get e' 8 = .bool true ∧ get e' 91 = .bool true) ⟨by simp only [go_sem, g1], by simp only [go_sem, g4], by simp only [go_sem, g5], by simp only [go_sem, g6], by simp only [go_sem, g7], by simp only [go_sem, g8], by simp only [go_sem]⟩ (fun e14 ⟨g1, g4, g5, g6, g7, g8, h91⟩ => ?_)
  refine AQ_take TT_ok 6 rfl (by simp only [go_sem, g1, g4, g5, g6, g7, g8, h91, p0, p1, p2, q0, eq_self, decide_true, Bool.not_false, i0, i0f4, i0kindf, i0kindl, i0pathf, i0pathl, i0k0, i0l0, i1, i1f4, i1kindf, i1kindl, i1k1, i1l1, i1k2, i1l2, i2, i2f4, i2kindf, i2kindl, i2hasf, i2hasl, i2valuef, i2valuel, i2k6, i2l6, i3, i3pathf, i3pathl, i4, i4kindf, i4kindl, i4pathf, i4pathl] <;> rfl) ?_
  refine AQ_here ?_
  refine AQ_fix (fun e' => get e' 1 = vt ∧ get e' 4 = .bool false ∧ get e' 5 = vp ∧ get e' 6 = .bool true ∧ get e' 7 = vl ∧ get e' 8 = .bool true ∧ get e' 97 = .bool true) ⟨by simp only [go_sem, g1], by simp only [go_sem, g4], by simp only [go_sem, g5], by simp only [go_sem, g6], by simp only [go_sem, g7], by simp only [go_sem, g8], by simp only [go_sem]⟩ (fun e15 ⟨g1, g4, g5, g6, g7, g8, h97⟩ => ?_)
  refine AQ_take TT_ok 7 rfl (by simp only [go_sem, g1, g4, g5, g6, g7, g8, h97, p0, p1, p2, q0, eq_self, decide_true, Bool.not_false, i0, i0f4, i0kindf, i0kindl, i0pathf, i0pathl, i0k0, i0l0, i1, i1f4, i1kindf, i1kindl, i1k1, i1l1, i1k2, i1l2, i2, i2f4, i2kindf, i2kindl, i2hasf, i2hasl, i2valuef, i2valuel, i2k6, i2l6, i3, i3pathf, i3pathl, i4, i4kindf, i4kindl, i4pathf, i4pathl] <;> rfl) ?_
  refine AQ_here ?_
  refine AQ_fix (fun e' => get e' 1 = vt ∧ get e' 4 = .bool false ∧ get e' 5 = vp ∧ get e' 6 = .bool true ∧ get e' 7 = vl ∧ get e' 8 = .bool true ∧ get e' 104 = .bool true) ⟨by simp only [go_sem, g1], by simp only [go_sem, g4], by simp only [go_sem, g5], by simp only [go_sem, g6], by simp only [go_sem, g7], by simp only [go_sem, g8], by simp only [go_sem]⟩ (fun e16 ⟨g1, g4, g5, g6, g7, g8, h104⟩ => ?_)
  refine AQ_take TT_ok 8 rfl (by simp only [go_sem, g1, g4, g5, g6, g7, g8, h104, p0, p1, p2, q0, eq_self, decide_true, Bool.not_false, i0, i0f4, i0kindf, i0kindl, i0pathf, i0pathl, i0k0, i0l0, i1, i1f4, i1kindf, i1kindl, i1k1, i1l1, i1k2, i1l2, i2, i2f4, i2kindf, i2kindl, i2hasf, i2hasl, i2valuef, i2valuel, i2k6, i2l6, i3, i3pathf, i3pathl, i4, i4kindf, i4kindl, i4pathf, i4pathl] <;> rfl) ?_
  refine AQ_here ?_
  refine AQ_fix (fun e' => get e' 1 = vt ∧ get e' 4 = .bool false ∧ get e' 5 = vp ∧ get e' 6 = .bool true ∧ get e' 7 = vl ∧ get e' 8 = .bool true ∧ get e' 112 = .bool true) ⟨by simp only [go_sem, g1], by simp only [go_sem, g4], by simp only [go_sem, g5], by simp only [go_sem, g6], by simp only [go_sem, g7], by simp only [go_sem, g8], by simp only [go_sem]⟩ (fun e17 ⟨g1, g4, g5, g6, g7, g8, h112⟩ => ?_)
  refine AQ_take TT_ok 7 rfl (by simp only [go_sem, g1, g4, g5, g6, g7, g8, h112, p0, p1, p2, q0, eq_self, decide_true, Bool.not_false, i0, i0f4, i0kindf, i0kindl, i0pathf, i0pathl, i0k0, i0l0, i1, i1f4, i1kindf, i1kindl, i1k1, i1l1, i1k2, i1l2, i2, i2f4, i2kindf, i2kindl, i2hasf, i2hasl, i2valuef, i2valuel, i2k6, i2l6, i3, i3pathf, i3pathl, i4, i4kindf, i4kindl, i4pathf, i4pathl] <;> rfl) ?_
  refine AQ_here ?_
  refine AQ_fix (fun e' => get e' 1 = vt ∧ get e' 4 = .bool false ∧ get e' 5 = vp ∧ get e' 6 = .bool true ∧ get e' 7 = vl ∧ get e' 8 = .bool true ∧ get e' 119 = .bool true) ⟨by simp only [go_sem, g1], by simp only [go_sem, g4], by simp only [go_sem, g5], by simp only [go_sem, g6], by simp only [go_sem, g7], by simp only [go_sem, g8], by simp only [go_sem]⟩ (fun e18 ⟨g1, g4, g5, g6, g7, g8, h119⟩ => ?_)
  refine AQ_take TT_ok 7 rfl (by simp only [go_sem, g1, g4, g5, g6, g7, g8, h119, p0, p1, p2, q0, eq_self, decide_true, Bool.not_false, i0, i0f4, i0kindf, i0kindl, i0pathf, i0pathl, i0k0, i0l0, i1, i1f4, i1kindf, i1kindl, i1k1, i1l1, i1k2, i1l2, i2, i2f4, i2kindf, i2kindl, i2hasf, i2hasl, i2valuef, i2valuel, i2k6, i2l6, i3, i3pathf, i3pathl, i4, i4kindf, i4kindl, i4pathf, i4pathl] <;> rfl) ?_
  refine AQ_here ?_
  refine AQ_fix (fun e' => get e' 1 = vt ∧ get e' 4 = .bool false ∧ get e' 5 = vp ∧ get e' 6 = .bool true ∧ get e' 7 = vl ∧ get e' 8 = .bool true ∧ get e' 126 = .bool true) ⟨by simp only [go_sem, g1], by simp only [go_sem, g4], by simp only [go_sem, g5], by simp only [go_sem, g6], by simp only [go_sem, g7], by simp only [go_sem, g8], by simp only [go_sem]⟩ (fun e19 ⟨g1, g4, g5, g6, g7, g8, h126⟩ => ?_)
  refine AQ_take TT_ok 7 rfl (by simp only [go_sem, g1, g4, g5, g6, g7, g8, h126, p0, p1, p2, q0, eq_self, decide_true, Bool.not_false, i0, i0f4, i0kindf, i0kindl, i0pathf, i0pathl, i0k0, i0l0, i1, i1f4, i1kindf, i1kindl, i1k1, i1l1, i1k2, i1l2, i2, i2f4, i2kindf, i2kindl, i2hasf, i2hasl, i2valuef, i2valuel, i2k6, i2l6, i3, i3pathf, i3pathl, i4, i4kindf, i4kindl, i4pathf, i4pathl] <;> rfl) ?_
  refine AQ_here ?_
  refine AQ_fix (fun e' => get e' 1 = vt ∧ get e' 4 = .bool false ∧ get e' 5 = vp ∧ get e' 6 = .bool true ∧ get e' 7 = vl ∧ get e' 8 = .bool true ∧ get e' 133 = .bool true) ⟨by simp only [go_sem, g1], by simp only [go_sem, g4], by simp only [go_sem, g5], by simp only [go_sem, g6], by simp only [go_sem, g7], by simp only [go_sem, g8], by simp only [go_sem]⟩ (fun e20 ⟨g1, g4, g5, g6, g7, g8, h133⟩ => ?_)
  refine AQ_take TT_ok 4 rfl (by simp only [go_sem, g1, g4, g5, g6, g7, g8, h133, p0, p1, p2, q0, eq_self, decide_true, Bool.not_false, i0, i0f4, i0kindf, i0kindl, i0pathf, i0pathl, i0k0, i0l0, i1, i1f4, i1kindf, i1kindl, i1k1, i1l1, i1k2, i1l2, i2, i2f4, i2kindf, i2kindl, i2hasf, i2hasl, i2valuef, i2valuel, i2k6, i2l6, i3, i3pathf, i3pathl, i4, i4kindf, i4kindl, i4pathf, i4pathl] <;> rfl) ?_
  refine AQ_here ?_
  refine AQ_fix (fun e' => get e' 1 = vt ∧ get e' 4 = .bool false ∧ get e' 5 = vp ∧ get e' 6 = .bool true ∧ get e' 7 = vl ∧ get e' 8 = .bool true ∧ get e' 137 = .bool true) ⟨by simp only [go_sem, g1], by simp only [go_sem, g4], by simp only [go_sem, g5], by simp only [go_sem, g6], by simp only [go_sem, g7], by simp only [go_sem, g8], by simp only [go_sem]⟩ (fun e21 ⟨g1, g4, g5, g6, g7, g8, h137⟩ => ?_)
  refine AQ_take TT_ok 3 rfl (by simp only [go_sem, g1, g4, g5, g6, g7, g8, h137, p0, p1, p2, q0, eq_self, decide_true, Bool.not_false, i0, i0f4, i0kindf, i0kindl, i0pathf, i0pathl, i0k0, i0l0, i1, i1f4, i1kindf, i1kindl, i1k1, i1l1, i1k2, i1l2, i2, i2f4, i2kindf, i2kindl, i2hasf, i2hasl, i2valuef, i2valuel, i2k6, i2l6, i3, i3pathf, i3pathl, i4, i4kindf, i4kindl, i4pathf, i4pathl] <;> rfl) ?_
  refine AQ_here ?_
  refine AQ_fix (fun e' => get e' 1 = vt ∧ get e' 4 = .bool false ∧ get e' 5 = vp ∧ get e' 6 = .bool true ∧ get e' 7 = vl ∧ get e' 8 = .bool true ∧ get e' 140 = .bool true) ⟨by simp only [go_sem, g1], by simp only [go_sem, g4], by simp only [go_sem, g5], by simp only [go_sem, g6], by simp only [go_sem, g7], by simp only [go_sem, g8], by simp only [go_sem]⟩ (fun e22 ⟨g1, g4, g5, g6, g7, g8, h140⟩ => ?_)
  refine AQ_take TT_ok 5 rfl (by simp only [go_sem, g1, g4, g5, g6, g7, g8, h140, p0, p1, p2, q0, eq_self, decide_true, Bool.not_false, i0, i0f4, i0kindf, i0kindl, i0pathf, i0pathl, i0k0, i0l0, i1, i1f4, i1kindf, i1kindl, i1k1, i1l1, i1k2, i1l2, i2, i2f4, i2kindf, i2kindl, i2hasf, i2hasl, i2valuef, i2valuel, i2k6, i2l6, i3, i3pathf, i3pathl, i4, i4kindf, i4kindl, i4pathf, i4pathl] <;> rfl) ?_
  refine AQ_here ?_
  refine AQ_fix (fun e' => get e' 1 = vt ∧ get e' 4 = .bool false ∧ get e' 5 = vp ∧ get e' 6 = .bool true ∧ get e' 7 = vl ∧ get e' 8 = .bool true ∧ get e' 145 = .bool true) ⟨by simp only [go_sem, g1], by simp only [go_sem, g4], by simp only [go_sem, g5], by simp only [go_sem, g6], by simp only [go_sem, g7], by simp only [go_sem, g8], by simp only [go_sem]⟩ (fun e23 ⟨g1, g4, g5, g6, g7, g8, h145⟩ => ?_)
  refine AQ_take TT_ok 6 rfl (by simp only [go_sem, g1, g4, g5, g6, g7, g8, h145, p0, p1, p2, q0, eq_self, decide_true, Bool.not_false, i0, i0f4, i0kindf, i0kindl, i0pathf, i0pathl, i0k0, i0l0, i1, i1f4, i1kindf, i1kindl, i1k1, i1l1, i1k2, i1l2, i2, i2f4, i2kindf, i2kindl, i2hasf, i2hasl, i2valuef, i2valuel, i2k6, i2l6, i3, i3pathf, i3pathl, i4, i4kindf, i4kindl, i4pathf, i4pathl] <;> rfl) ?_
  refine AQ_here ?_
  refine AQ_fix (fun e' => get e' 1 = vt ∧ get e' 4 = .bool false ∧ get e' 5 = vp ∧ get e' 6 = .bool true ∧ get e' 7 = vl ∧ get e' 8 = .bool true ∧ get e' 151 = .bool true) ⟨by simp only [go_sem, g1], by simp only [go_sem, g4], by simp only [go_sem, g5], by simp only [go_sem, g6], by simp only [go_sem, g7], by simp only [go_sem, g8], by simp only [go_sem]⟩ (fun e24 ⟨g1, g4, g5, g6, g7, g8, h151⟩ => ?_)
  refine AQ_take TT_ok 3 rfl (by simp only [go_sem, g1, g4, g5, g6, g7, g8, h151, p0, p1, p2, q0, eq_self, decide_true, Bool.not_false, i0, i0f4, i0kindf, i0kindl, i0pathf, i0pathl, i0k0, i0l0, i1, i1f4, i1kindf, i1kindl, i1k1, i1l1, i1k2, i1l2, i2, i2f4, i2kindf, i2kindl, i2hasf, i2hasl, i2valuef, i2valuel, i2k6, i2l6, i3, i3pathf, i3pathl, i4, i4kindf, i4kindl, i4pathf, i4pathl] <;> rfl) ?_
  refine AQ_here ?_
  refine AQ_fix (fun e' => get e' 1 = vt ∧ get e' 4 = .bool false ∧ get e' 5 = vp ∧ get e' 6 = .bool true ∧ get e' 7 = vl ∧ get e' 8 = .bool true ∧ get e' 154 = .bool true) ⟨by simp only [go_sem, g1], by simp only [go_sem, g4], by simp only [go_sem, g5], by simp only [go_sem, g6], by simp only [go_sem, g7], by simp only [go_sem, g8], by simp only [go_sem]⟩ (fun e25 ⟨g1, g4, g5, g6, g7, g8, h154⟩ => ?_)
  refine AQ_take TT_ok 5 rfl (by simp only [go_sem, g1, g4, g5, g6, g7, g8, h154, p0, p1, p2, q0, eq_self, decide_true, Bool.not_false, i0, i0f4, i0kindf, i0kindl, i0pathf, i0pathl, i0k0, i0l0, i1, i1f4, i1kindf, i1kindl, i1k1, i1l1, i1k2, i1l2, i2, i2f4, i2kindf, i2kindl, i2hasf, i2hasl, i2valuef, i2valuel, i2k6, i2l6, i3, i3pathf, i3pathl, i4, i4kindf, i4kindl, i4pathf, i4pathl] <;> rfl) ?_
  refine AQ_here ?_
  refine AQ_fix (fun e' => get e' 1 = vt ∧ get e' 4 = .bool false ∧ get e' 5 = vp ∧ get e' 6 = .bool true ∧ get e' 7 = vl ∧ get e' 8 = .bool true ∧ get e' 159 = .bool true) ⟨by simp only [go_sem, g1], by simp only [go_sem, g4], by simp only [go_sem, g5], by simp only [go_sem, g6], by simp only [go_sem, g7], by simp only [go_sem, g8], by simp only [go_sem]⟩ (fun e26 ⟨g1, g4, g5, g6, g7, g8, h159⟩ => ?_)
  refine AQ_take TT_ok 1 rfl (by simp only [go_sem, g1, h159] <;> rfl) ?_
  refine AQ_c (awant_t (dst := 159) rfl (by simp only [go_sem, h159]) rfl) (by simp only [go_sem] <;> rfl) fok37 (by simp only [List.map_cons, List.map_nil, List.append_nil, go_sem] <;> rfl) (c37 hT (by decide) hnl) (fun _ _ h => h.elim) (.inl rfl) fun r H8 hX8 hr => ?_
  subst hr
  have hT8 := hT.keep hX8
  refine AQ_take TT_ok 2 rfl (by simp only [go_sem, di, h159] <;> rfl) ?_
  refine AQ_c (awant_t (dst := 163) rfl (by simp only [go_sem, di, h159]) rfl) (by simp only [go_sem] <;> rfl) fok37 (by simp only [List.map_cons, List.map_nil, List.append_nil, go_sem] <;> rfl) (c37 (t := []) (vt := .slice none 0 0) (.inl ⟨rfl, rfl, rfl⟩) (by decide) (by simp)) (fun _ _ h => h.elim) (.inl rfl) fun r H9 hX9 hr => ?_
  subst hr
  have hT9 := hT8.keep hX9
  obtain ⟨vd, _, hd1, _, hdS, _⟩ := Sl.part Nd.len hT9 (t := 24) TT_24 rfl TT_49 rfl (by decide) (lo := 1) (hi := wt.length) (by decide) (Nat.le_refl _)
  have hd : aslice TT 24 vt (some (.int .i64 1)) none = some vd := hd1 rfl .i64
  have hdS' : NdS H9 vd (wt.drop 1) := hdS
  refine AQ_take TT_ok 4 rfl (by simp only [go_sem, g1, dn, hd, h159] <;> rfl) ?_
  refine AQ_c (awant_t (dst := 166) rfl (by simp only [go_sem, dn]) rfl) (by simp only [go_sem] <;> rfl) fok37 (by simp only [List.map_cons, List.map_nil, List.append_nil, go_sem] <;> rfl) (c37 hdS' (by decide) (by decide)) (fun _ _ h => h.elim) (.inl rfl) fun r H10 hX10 hr => ?_
  subst hr
  refine AQ_all TT_ok rfl (by simp only [go_sem, dd, Bool.not_false] <;> rfl) ?_
  exact AC_ret ⟨.inl rfl, _, rfl, by simp only [go_sem]⟩
end Go.Proofs.Ythalogdopkoidaa.Ab
set_option linter.unusedVariables false
set_option linter.unusedSimpArgs false
namespace Go.Proofs.Ythalogdopkoidaa.Ab
open Go Go.RowKit
theorem szN_path : ∀ (l : List Nd), ∀ p ∈ l, p.path.length ≤ szN l ∧ p.value.length ≤ szN l
  | [], p, h => by cases h
  | q :: l, p, h => by
    rcases List.mem_cons.1 h with rfl | h
    · simp [szN]; omega
    · have := szN_path l p h; simp [szN] at this ⊢; omega
theorem groups_pc : ∀ s : Sx, ∀ p ∈ groups s, ∀ x ∈ p.2, pc p.1 x ∈ s
  | [], p, h, x, hx => by cases h
  | ([], v) :: s, p, h, x, hx => List.mem_cons_of_mem _ (groups_pc s p h x hx)
  | (c :: n, v) :: s, p, h, x, hx => by
    have ih := groups_pc s
    rw [groups] at h
    cases hg : groups s with
    | nil =>
      rw [hg] at h
      simp at h
      subst h
      simp at hx
      subst hx
      simp [pc]
    | cons w gs =>
      obtain ⟨c', g⟩ := w
      rw [hg] at h ih
      dsimp only at h
      split at h
      · rename_i e
        subst e
        rcases List.mem_cons.1 h with rfl | h
        · rcases List.mem_cons.1 hx with rfl | hx
          · simp [pc]
          · exact List.mem_cons_of_mem _ (ih (c, g) (by simp) x hx)
        · exact List.mem_cons_of_mem _ (ih p (by simp [h]) x hx)
      · rcases List.mem_cons.1 h with rfl | h
        · simp at hx; subst hx; simp [pc]
        · exact List.mem_cons_of_mem _ (ih p h x hx)
theorem brn_mem {b : Sx → Nat → List Nd} : ∀ (gs : List (UInt8 × Sx)) (k : Nat) (kids : Vector Int 16) (n : Nd), n ∈ (brn b gs k kids).1 → ∃ p ∈ gs, ∃ k', n ∈ b p.2 k'
  | [], k, kids, n, h => by cases h
  | (c, g) :: gs, k, kids, n, h => by
    rw [brn_cons] at h
    rcases List.mem_append.1 h with h | h
    · exact ⟨(c, g), by simp, k, h⟩
    · obtain ⟨p, hp, k', hk⟩ := brn_mem gs _ _ n h
      exact ⟨p, by simp [hp], k', hk⟩
theorem bld_path : ∀ (f : Nat) (s : Sx) (k m : Nat), (∀ x ∈ s, x.1.length ≤ m) → ∀ n ∈ bld f s k, n.path.length ≤ m
  | 0, s, k, m, h, n, hn => by cases hn
  | f + 1, [], k, m, h, n, hn => by cases hn
  | f + 1, [x], k, m, h, n, hn => by
    rw [bld_one, List.mem_singleton] at hn
    subst hn
    exact h x (by simp)
  | f + 1, x :: y :: r, k, m, h, n, hn => by
    by_cases hc : 0 < com x.1 (lst y r).1
    · rw [bld_ext _ _ _ _ _ hc] at hn
      rcases List.mem_cons.1 hn with rfl | hn
      · have := h x (by simp)
        simp only [List.length_take]; omega
      · refine bld_path f _ _ m (fun z hz => ?_) n hn
        obtain ⟨z', hz', rfl⟩ := List.mem_map.1 hz
        have := h z' hz'
        simp only [cut, List.length_drop]; omega
    · rw [bld_brn _ _ _ _ _ hc] at hn
      rcases List.mem_cons.1 hn with rfl | hn
      · exact Nat.zero_le _
      · obtain ⟨p, hp, k', hk⟩ := brn_mem _ _ _ n hn
        refine bld_path f _ _ m (fun z hz => ?_) n hk
        have h1 := groups_pc _ p hp z hz
        have h2 : pc p.1 z ∈ x :: y :: r := by
          split at h1
          · exact List.mem_cons_of_mem _ h1
          · exact h1
        have := h _ h2
        simp [pc] at this; omega
theorem build_path {l : List Pr} (h : May l) : ∀ n ∈ build l, n.path.length ≤ 16 := by
  unfold build
  split
  · simp
  · refine bld_path 17 _ 0 16 fun x hx => ?_
    obtain ⟨p, hp, rfl⟩ := List.mem_map.1 hx
    have := (h.1 p hp).2.1
    rw [nib_length]; omega
end Go.Proofs.Ythalogdopkoidaa.Ab
set_option linter.unusedVariables false
set_option linter.unusedSimpArgs false
namespace Go.Proofs.Ythalogdopkoidaa.Ab
open Go Go.RowKit
/-- What a builder hangs on: pairs that rise, nibbles, not longer than the number. -/
structure Bok (s : Sx) (f : Nat) : Prop where
  ne : s ≠ []
  ris : Ris s
  fu : Fu s f
  sm : ∀ x ∈ s, ∀ b ∈ x.1, b ≤ 15
theorem Bok.pos {s : Sx} {f : Nat} (h : Bok s f) : 0 < f := by
  obtain ⟨x, hx⟩ := List.exists_mem_of_ne_nil _ h.ne
  have := h.fu x hx
  omega
theorem Bok.ext_ {x y : List UInt8 × List UInt8} {r : Sx} {f : Nat} (h : Bok (x :: y :: r) (f + 1)) (hc : 0 < com x.1 (lst y r).1) : Bok ((x :: y :: r).map (cut (com x.1 (lst y r).1))) f := by
  have hlen : (x.1.take (com x.1 (lst y r).1)).length = com x.1 (lst y r).1 := by
    rw [List.length_take]; have := com_left x.1 (lst y r).1; omega
  have hcom := h.ris.common
  refine ⟨by simp, ?_, fun z hz => ?_, fun z hz b hb => ?_⟩
  · have := h.ris.cut hcom; rwa [hlen] at this
  · obtain ⟨z', hz', rfl⟩ := List.mem_map.1 hz
    have h1 := h.fu z' hz'
    have h2 := (hcom z' hz').length_le
    rw [hlen] at h2
    simp only [cut, List.length_drop]; omega
  · obtain ⟨z', hz', rfl⟩ := List.mem_map.1 hz
    exact h.sm z' hz' b (List.mem_of_mem_drop hb)
theorem Bok.sub {x y : List UInt8 × List UInt8} {r : Sx} {f : Nat} (h : Bok (x :: y :: r) f) : Bok (if x.1 = [] then y :: r else x :: y :: r) f ∧ (∀ z ∈ (if x.1 = [] then y :: r else x :: y :: r), z.1 ≠ []) := by
  by_cases hx : x.1 = []
  · simp only [if_pos hx]
    exact ⟨⟨by simp, (List.pairwise_cons.1 h.ris).2, fun z hz => h.fu z (List.mem_cons_of_mem _ hz), fun z hz => h.sm z (List.mem_cons_of_mem _ hz)⟩, h.ris.full⟩
  · simp only [if_neg hx]
    refine ⟨h, fun z hz => ?_⟩
    rcases List.mem_cons.1 hz with rfl | hz
    · exact hx
    · exact h.ris.full z hz
theorem Bok.grp {s : Sx} {f : Nat} (h : Bok s (f + 1)) (hne : ∀ z ∈ s, z.1 ≠ []) : (∀ p ∈ groups s, Bok p.2 f) ∧ Hd 0 (groups s) ∧ groups s ≠ [] := by
  have hfl := groups_flat s hne
  refine ⟨fun p hp => ⟨groups_ne s p hp, flat_ris (by rw [hfl]; exact h.ris) hp, fun x hx => ?_, fun x hx b hb => ?_⟩, ⟨groups_sorted s hne h.ris, fun p hp => ⟨Nat.zero_le _, ?_⟩⟩, fun e => ?_⟩
  · have := h.fu _ (groups_pc s p hp x hx)
    simp [pc] at this; omega
  · exact h.sm _ (groups_pc s p hp x hx) b (by simp [pc, hb])
  · obtain ⟨x, hx⟩ := List.exists_mem_of_ne_nil _ (groups_ne s p hp)
    have := h.sm _ (groups_pc s p hp x hx) p.1 (by simp [pc])
    have := UInt8.le_iff_toNat_le.1 this
    simp at this
    omega
  · rw [e] at hfl
    exact h.ne hfl.symm
theorem bld_pos {s : Sx} {f : Nat} (h : Bok s f) (k : Nat) : 0 < (bld f s k).length := by
  obtain ⟨f, rfl⟩ : ∃ g, f = g + 1 := ⟨f - 1, by have := h.pos; omega⟩
  match s, h with
  | [], h => exact absurd rfl h.ne
  | [x], h => simp [bld_one]
  | x :: y :: r, h =>
    by_cases hc : 0 < com x.1 (lst y r).1
    · rw [bld_ext _ _ _ _ _ hc]; simp
    · rw [bld_brn _ _ _ _ _ hc]; simp
/-- The last node is some node's child. -/
def Lst (L : List Nd) (k : Nat) : Prop := ∃ n ∈ L.take (L.length - 1), ∃ c, ∃ (hc : c < 16), n.kids[c] = ((k + L.length - 1 : Nat) : Int)
theorem Bok.all {l : List Pr} (h : May l) (hn : l ≠ []) : Bok (sx l) 17 := by
  refine ⟨by simpa [sx] using hn, ?_, Fu.all h, fun x hx b hb => ?_⟩
  · have := (Seg.all h hn).ris
    rwa [sg_all] at this
  · obtain ⟨p, hp, rfl⟩ := List.mem_map.1 hx
    exact nib_small _ b hb
theorem bld_two {s : Sx} {f k : Nat} (h : Bok s f) (h2 : 2 ≤ s.length) : 2 ≤ (bld f s k).length := by
  obtain ⟨f, rfl⟩ : ∃ g, f = g + 1 := ⟨f - 1, by have := h.pos; omega⟩
  match s, h, h2 with
  | x :: y :: r, h, _ =>
    by_cases hc : 0 < com x.1 (lst y r).1
    · rw [bld_ext _ _ _ _ _ hc, List.length_cons]
      have := bld_pos (h.ext_ hc) (k + 1)
      omega
    · rw [bld_brn _ _ _ _ _ hc, List.length_cons]
      have hs := h.sub
      obtain ⟨hg, hH, hgn⟩ := hs.1.grp hs.2
      match hq : groups (if x.1 = [] then y :: r else x :: y :: r), hgn, hg with
      | (d, g) :: gs, _, hg =>
        rw [brn_cons, List.length_append]
        have := bld_pos (hg (d, g) (by simp)) (k + 1)
        dsimp only at this ⊢
        omega
end Go.Proofs.Ythalogdopkoidaa.Ab
set_option linter.unusedVariables false
set_option linter.unusedSimpArgs false
namespace Go.Proofs.Ythalogdopkoidaa.Ab
open Go Go.RowKit
def pre2 (n : List UInt8) (x : List UInt8 × List UInt8) : List UInt8 × List UInt8 := (n ++ x.1, x.2)
theorem com_app (n a b : List UInt8) : com (n ++ a) (n ++ b) = n.length + com a b := by
  induction n with
  | nil => simp
  | cons c n ih => simp only [List.cons_append, com, if_true, ih, List.length_cons]; omega
theorem brn_congr {b b' : Sx → Nat → List Nd} : ∀ (gs : List (UInt8 × Sx)) (k : Nat) (kids : Vector Int 16), (∀ p ∈ gs, ∀ k, b p.2 k = b' p.2 k) → brn b gs k kids = brn b' gs k kids
  | [], k, kids, h => rfl
  | (c, g) :: gs, k, kids, h => by
    have h1 := h (c, g) (by simp) k
    dsimp only at h1
    rw [brn_cons, brn_cons, h1, brn_congr gs _ _ (fun p hp => h p (by simp [hp]))]
theorem bld_fuel : ∀ (f g : Nat) (s : Sx) (k : Nat), Bok s f → f ≤ g → bld g s k = bld f s k
  | 0, g, s, k, h, _ => by have := h.pos; omega
  | f + 1, 0, s, k, h, hg => by omega
  | f + 1, g + 1, [], k, h, hg => rfl
  | f + 1, g + 1, [x], k, h, hg => rfl
  | f + 1, g + 1, x :: y :: r, k, h, hg => by
    by_cases hc : 0 < com x.1 (lst y r).1
    · rw [bld_ext _ _ _ _ _ hc, bld_ext _ _ _ _ _ hc, bld_fuel f g _ _ (h.ext_ hc) (by omega)]
    · rw [bld_brn _ _ _ _ _ hc, bld_brn _ _ _ _ _ hc]
      have hs := h.sub
      obtain ⟨hb, _, _⟩ := hs.1.grp hs.2
      rw [brn_congr _ _ _ (fun p hp k => bld_fuel f g p.2 k (hb p hp) (by omega))]
theorem brn_shift {b : Sx → Nat → List Nd} (h : ∀ s k k', (b s k).length = (b s k').length) : ∀ (gs : List (UInt8 × Sx)) (k k' : Nat) (kids kids' : Vector Int 16), (brn b gs k kids).1.length = (brn b gs k' kids').1.length
  | [], k, k', kids, kids' => rfl
  | (c, g) :: gs, k, k', kids, kids' => by
    rw [brn_cons, brn_cons, List.length_append, List.length_append, h g k k', brn_shift h gs _ (k' + (b g k').length) _ (setk kids' c k')]
theorem bld_shift : ∀ (f : Nat) (s : Sx) (k k' : Nat), (bld f s k).length = (bld f s k').length
  | 0, s, k, k' => rfl
  | f + 1, [], k, k' => rfl
  | f + 1, [x], k, k' => rfl
  | f + 1, x :: y :: r, k, k' => by
    by_cases hc : 0 < com x.1 (lst y r).1
    · rw [bld_ext _ _ _ _ _ hc, bld_ext _ _ _ _ _ hc, List.length_cons, List.length_cons, bld_shift f _ (k + 1) (k' + 1)]
    · rw [bld_brn _ _ _ _ _ hc, bld_brn _ _ _ _ _ hc, List.length_cons, List.length_cons, brn_shift (bld_shift f) _ (k + 1) (k' + 1) zk zk]
def ahead (c : UInt8) (l : List Pr) : List Pr := l.map fun p => ⟨c :: p.key, p.value⟩
theorem May.ahead {l : List Pr} (h : May l) (c : UInt8) (h8 : ∀ p ∈ l, p.key.length < 8) : May (ahead c l) := by
  refine ⟨fun p hp => ?_, ?_⟩
  · obtain ⟨q, hq, rfl⟩ := List.mem_map.1 hp
    have := h8 q hq
    have := (h.1 q hq).2.2
    exact ⟨by simp, by simp; omega, this⟩
  · unfold Ab.ahead
    rw [List.pairwise_map]
    refine h.2.imp fun {a b} hab => ?_
    exact cons_lt.2 (.inr ⟨rfl, hab⟩)
end Go.Proofs.Ythalogdopkoidaa.Ab
set_option linter.unusedVariables false
set_option linter.unusedSimpArgs false
namespace Go.Proofs.Ythalogdopkoidaa.Ab
open Go Go.RowKit
def Fk (T : List Nd) : List Int := T.flatMap fun n => n.kids.toList
theorem Fk_app (a b : List Nd) : Fk (a ++ b) = Fk a ++ Fk b := by simp [Fk]
theorem Fk_cons (n : Nd) (b : List Nd) : Fk (n :: b) = n.kids.toList ++ Fk b := rfl
theorem Fk_length : ∀ T : List Nd, (Fk T).length = T.length * 16
  | [] => rfl
  | n :: T => by rw [Fk_cons, List.length_append, Fk_length T]; simp; omega
theorem Fk_get (T : List Nd) (i c : Nat) (hi : i < T.length) (hc : c < 16) : (Fk T)[i * 16 + c]? = some T[i].kids[c] := by
  have := rows_get (f := fun n : Nd => n.kids.toList.map (Value.int .i64)) (s := 16) (fun n => by simp) T i c hi hc
  have e : (T.flatMap fun n : Nd => n.kids.toList.map (Value.int .i64)) = (Fk T).map (Value.int .i64) := by
    simp [Fk, List.map_flatMap]
  rw [e, List.getElem?_map] at this
  have h2 : (T[i].kids.toList.map (Value.int .i64))[c]? = some (.int .i64 T[i].kids[c]) := by simp [hc]
  rw [h2] at this
  cases hf : (Fk T)[i * 16 + c]? with
  | none => rw [hf] at this; cases this
  | some z =>
    rw [hf] at this
    have h3 : Value.int .i64 z = Value.int .i64 T[i].kids[c] := Option.some.inj this
    cases h3; rfl
theorem count_rep0 (v : Int) (hv : v ≠ 0) (n : Nat) : (List.replicate n (0 : Int)).count v = 0 := by
  rw [List.count_replicate]
  simp [Ne.symm hv]
theorem kl_count {f : Nat} {v : Nat} (hv : 0 < v) (ih : ∀ (s : Sx) (k : Nat), Bok s f → (Fk (bld f s k)).count (v : Int) = if k < v ∧ v < k + (bld f s k).length then 1 else 0) :
    ∀ (n i : Nat) (gs : List (UInt8 × Sx)) (k : Nat) (kids : Vector Int 16), i + n = 16 → Hd i gs → (∀ p ∈ gs, Bok p.2 f) →
      (kl (bld f) i n gs k).count (v : Int) + (Fk (brn (bld f) gs k kids).1).count (v : Int) = if k ≤ v ∧ v < k + (brn (bld f) gs k kids).1.length then 1 else 0
  | 0, i, gs, k, kids, h1, h2, h3 => by
    cases gs with
    | nil => rw [if_neg (by simp [brn])]; simp [kl, brn, Fk]
    | cons p gs => have := h2.2 p (by simp); omega
  | n + 1, i, [], k, kids, h1, h2, h3 => by
    rw [kl_nil, count_rep0 _ (by omega), if_neg (by simp [brn])]
    simp [brn, Fk]
  | n + 1, i, (c, g) :: gs, k, kids, h1, h2, h3 => by
    rw [kl]
    by_cases hc : c.toNat = i
    · have ht := h2.tail
      rw [hc] at ht
      have h4 := kl_count hv ih n (i + 1) gs (k + (bld f g k).length) (setk kids c k) (by omega) ht (fun p hp => h3 p (by simp [hp]))
      have h5 := ih g k (h3 (c, g) (by simp))
      have hp := bld_pos (h3 (c, g) (by simp)) k
      dsimp only at hp
      rw [if_pos hc, brn_cons]
      dsimp only
      rw [Fk_app, List.count_append, List.length_append, List.count_cons, h5]
      rw [show ((k : Int) == (v : Int)) = decide (k = v) by rw [Bool.eq_iff_iff]; simp; omega]
      simp only [decide_eq_true_eq]
      revert h4
      split <;> split <;> split <;> split <;> intros <;> omega
    · rw [if_neg hc, List.count_cons, if_neg (by simp; omega), Nat.add_zero]
      exact kl_count hv ih n (i + 1) ((c, g) :: gs) k kids (by omega) (h2.skip hc) h3
/-- Each number but the first one is some node's child, once. -/
theorem Fk_count {v : Nat} (hv : 0 < v) : ∀ (f : Nat) (s : Sx) (k : Nat), Bok s f → (Fk (bld f s k)).count (v : Int) = if k < v ∧ v < k + (bld f s k).length then 1 else 0
  | 0, s, k, h => by have := h.pos; omega
  | f + 1, [], k, h => absurd rfl h.ne
  | f + 1, [x], k, h => by
    rw [bld_one, Fk_cons, List.count_append, zk_list, count_rep0 _ (by omega)]
    simp [Fk]; omega
  | f + 1, x :: y :: r, k, h => by
    by_cases hc : 0 < com x.1 (lst y r).1
    · have hb := h.ext_ hc
      have ih := Fk_count hv f _ (k + 1) hb
      have hp := bld_pos hb (k + 1)
      rw [bld_ext _ _ _ _ _ hc, Fk_cons, List.count_append, ih, List.length_cons]
      dsimp only
      rw [zk_list0, List.count_cons, count_rep0 _ (by omega)]
      rw [show (((k + 1 : Nat) : Int) == (v : Int)) = decide (k + 1 = v) by rw [Bool.eq_iff_iff]; simp; omega]
      simp only [decide_eq_true_eq]
      split <;> split <;> split <;> omega
    · have hs := h.sub
      obtain ⟨hg, hH, _⟩ := hs.1.grp hs.2
      have hk := kl_count hv (Fk_count hv f) 16 0 _ (k + 1) zk rfl hH hg
      rw [bld_brn _ _ _ _ _ hc, Fk_cons, List.count_append, List.length_cons]
      dsimp only
      rw [kl_brn _ _ hH, hk]
      generalize (brn (bld f) (groups (if x.1 = [] then y :: r else x :: y :: r)) (k + 1) zk).1 = L
      split <;> split <;> omega
theorem count_one : ∀ (l : List Int) (v : Int), l.count v ≤ 1 → ∀ a b : Nat, l[a]? = some v → l[b]? = some v → a = b
  | [], v, h, a, b, ha, hb => by simp at ha
  | x :: l, v, h, a, b, ha, hb => by
    rw [List.count_cons] at h
    have key : ∀ a : Nat, l[a]? = some v → 1 ≤ l.count v := fun a ha => List.count_pos_iff.2 (List.mem_of_getElem? ha)
    cases a with
    | zero =>
      cases b with
      | zero => rfl
      | succ b =>
        simp at ha hb
        subst ha
        have := key b hb
        simp at h; omega
    | succ a =>
      cases b with
      | zero =>
        simp at ha hb
        subst hb
        have := key a ha
        simp at h; omega
      | succ b =>
        simp at ha hb
        have := count_one l v (by omega) a b ha hb
        omega
theorem pth_head {s : Sx} {f : Nat} (h : Bok s f) (pre : List UInt8) : ∃ r, pth f s pre = pre :: r := by
  obtain ⟨f, rfl⟩ : ∃ g, f = g + 1 := ⟨f - 1, by have := h.pos; omega⟩
  match s, h with
  | [], h => exact absurd rfl h.ne
  | [x], h => exact ⟨_, pth_one _ _ _⟩
  | x :: y :: r, h =>
    by_cases hc : 0 < com x.1 (lst y r).1
    · exact ⟨_, pth_ext _ _ _ _ _ hc⟩
    · exact ⟨_, pth_brn _ _ _ _ _ hc⟩
def Blk (T : List Nd) (Q : List (List UInt8)) (k : Nat) : Prop := ∀ (i : Nat) (n : Nd) (p : List UInt8), T[i]? = some n → Q[i]? = some p → ∀ (c : Nat) (hc : c < 16), n.kids[c] = 0 ∨
  ∃ (j : Nat) (m : Nd), i < j ∧ T[j]? = some m ∧ n.kids[c] = ((k + j : Nat) : Int) ∧ Q[j]? = some (p ++ n.path ++ if n.kind = 3 then [UInt8.ofNat c] else []) ∧ (n.kind = 2 → c = 0 ∧ m.kind = 3)
theorem Blk.nil (k : Nat) : Blk [] [] k := fun i n p h => by simp at h
theorem Blk.app {T1 T2 : List Nd} {Q1 Q2 : List (List UInt8)} {k : Nat} (h1 : Blk T1 Q1 k) (hl : T1.length = Q1.length) (h2 : Blk T2 Q2 (k + T1.length)) : Blk (T1 ++ T2) (Q1 ++ Q2) k := fun i n p hT hQ c hc => by
  by_cases hi : i < T1.length
  · rw [List.getElem?_append_left hi] at hT
    rw [List.getElem?_append_left (by omega)] at hQ
    rcases h1 i n p hT hQ c hc with h | ⟨j, m, a1, a2, a3, a4, a5⟩
    · exact .inl h
    · have hj := (List.getElem?_eq_some_iff.1 a2).1
      exact .inr ⟨j, m, a1, by rw [List.getElem?_append_left hj]; exact a2, a3, by rw [List.getElem?_append_left (by omega)]; exact a4, a5⟩
  · rw [List.getElem?_append_right (by omega)] at hT
    rw [List.getElem?_append_right (by omega), ← hl] at hQ
    rcases h2 (i - T1.length) n p hT hQ c hc with h | ⟨j, m, a1, a2, a3, a4, a5⟩
    · exact .inl h
    · refine .inr ⟨T1.length + j, m, by omega, ?_, by rw [a3]; omega, ?_, a5⟩
      · rw [List.getElem?_append_right (by omega), Nat.add_sub_cancel_left]; exact a2
      · rw [List.getElem?_append_right (by omega), ← hl, Nat.add_sub_cancel_left]; exact a4
theorem Blk.cons {T : List Nd} {Q : List (List UInt8)} {k : Nat} {n : Nd} {p : List UInt8} (hn : ∀ (c : Nat) (hc : c < 16), n.kids[c] = 0 ∨ ∃ (j : Nat) (m : Nd), T[j]? = some m ∧ n.kids[c] = ((k + 1 + j : Nat) : Int) ∧ Q[j]? = some (p ++ n.path ++ if n.kind = 3 then [UInt8.ofNat c] else []) ∧ (n.kind = 2 → c = 0 ∧ m.kind = 3))
    (h : Blk T Q (k + 1)) : Blk (n :: T) (p :: Q) k := fun i n' p' hT hQ c hc => by
  cases i with
  | zero =>
    simp at hT hQ
    subst hT hQ
    rcases hn c hc with h | ⟨j, m, a2, a3, a4, a5⟩
    · exact .inl h
    · exact .inr ⟨j + 1, m, by omega, by simpa using a2, by rw [a3]; omega, by simpa using a4, a5⟩
  | succ i =>
    simp at hT hQ
    rcases h i n' p' hT hQ c hc with h | ⟨j, m, a1, a2, a3, a4, a5⟩
    · exact .inl h
    · exact .inr ⟨j + 1, m, by omega, by simpa using a2, by rw [a3]; omega, by simpa using a4, a5⟩
theorem brn_blk {f : Nat} (ih : ∀ (s : Sx) (k : Nat) (pre : List UInt8), Bok s f → Blk (bld f s k) (pth f s pre) k) (pre : List UInt8) : ∀ (gs : List (UInt8 × Sx)) (k : Nat) (kids : Vector Int 16), (∀ p ∈ gs, Bok p.2 f) → Blk (brn (bld f) gs k kids).1 (pbrn (pth f) pre gs) k
  | [], k, kids, h => Blk.nil k
  | (c, g) :: gs, k, kids, h => by
    rw [brn_cons, pbrn_cons]
    exact (ih g k (pre ++ [c]) (h (c, g) (by simp))).app (pth_len _ _ _ _).symm (brn_blk ih pre gs _ _ (fun p hp => h p (by simp [hp])))
theorem brn_heads {f : Nat} (pre : List UInt8) : ∀ (gs : List (UInt8 × Sx)) (k : Nat) (kids : Vector Int 16), (∀ p ∈ gs, Bok p.2 f ∧ p.1.toNat < 16) → ∀ (c : Nat) (hc : c < 16),
    ((brn (bld f) gs k kids).2)[c] = kids[c] ∨ ∃ (j : Nat) (m : Nd), (brn (bld f) gs k kids).1[j]? = some m ∧ ((brn (bld f) gs k kids).2)[c] = ((k + j : Nat) : Int) ∧ (pbrn (pth f) pre gs)[j]? = some (pre ++ [UInt8.ofNat c])
  | [], k, kids, h, c, hc => .inl rfl
  | (d, g) :: gs, k, kids, h, c, hc => by
    obtain ⟨hB, hd⟩ := h (d, g) (by simp)
    dsimp only at hB hd
    have hp := bld_pos hB k
    rw [brn_cons, pbrn_cons]
    dsimp only
    rcases brn_heads pre gs (k + (bld f g k).length) (setk kids d k) (fun p hp => h p (by simp [hp])) c hc with h1 | ⟨j, m, h1, h2, h3⟩
    · have e1 : setk kids d (k : Int) = kids.set d.toNat k hd := by unfold setk; rw [dif_pos hd]
      rw [h1, e1, Vector.getElem_set]
      split
      · rename_i he
        obtain ⟨r, hr⟩ := pth_head hB (pre ++ [d])
        refine .inr ⟨0, (bld f g k)[0], ?_, by simp, ?_⟩
        · rw [List.getElem?_append_left hp]; simp [hp]
        · rw [hr, ← he]; simp
      · exact .inl rfl
    · refine .inr ⟨(bld f g k).length + j, m, ?_, by rw [h2]; omega, ?_⟩
      · rw [List.getElem?_append_right (by omega), Nat.add_sub_cancel_left]; exact h1
      · have hl := pth_len f g k (pre ++ [d])
        rw [List.getElem?_append_right (by omega), hl, Nat.add_sub_cancel_left]; exact h3
theorem com_drop : ∀ a b : List UInt8, com (a.drop (com a b)) (b.drop (com a b)) = 0
  | [], b => by simp [com]
  | _ :: _, [] => by simp [com]
  | a :: x, b :: y => by
    by_cases h : a = b
    · simp only [com, if_pos h, List.drop_succ_cons]; exact com_drop x y
    · simp [com, h]
theorem lst_cut (c : Nat) (y : List UInt8 × List UInt8) : ∀ r : Sx, lst (cut c y) (r.map (cut c)) = cut c (lst y r)
  | [] => rfl
  | z :: r => by
    have e1 : lst (cut c y) ((z :: r).map (cut c)) = lst (cut c z) (r.map (cut c)) := by unfold lst; rw [List.map_cons, List.getLastD_cons]
    have e2 : lst y (z :: r) = lst z r := by unfold lst; rw [List.getLastD_cons]
    rw [e1, e2, lst_cut c z r]
/-- Beneath an Ext stands a Branch. -/
theorem ext_child {x y : List UInt8 × List UInt8} {r : Sx} {f : Nat} (h : Bok (x :: y :: r) (f + 1)) (hc : 0 < com x.1 (lst y r).1) (k : Nat) : ∃ n t, bld f ((x :: y :: r).map (cut (com x.1 (lst y r).1))) k = n :: t ∧ n.kind = 3 := by
  have hb := h.ext_ hc
  obtain ⟨f, rfl⟩ : ∃ g, f = g + 1 := ⟨f - 1, by have := hb.pos; omega⟩
  rw [List.map_cons, List.map_cons, bld_brn]
  · exact ⟨_, _, rfl, rfl⟩
  · rw [lst_cut]
    have := com_drop x.1 (lst y r).1
    simp only [cut]
    omega
theorem bld_blk : ∀ (f : Nat) (s : Sx) (k : Nat) (pre : List UInt8), Bok s f → Blk (bld f s k) (pth f s pre) k
  | 0, s, k, pre, h => by have := h.pos; omega
  | f + 1, [], k, pre, h => absurd rfl h.ne
  | f + 1, [x], k, pre, h => by
    rw [bld_one, pth_one]
    exact Blk.cons (fun c hc => .inl (by simp [zk])) (Blk.nil _)
  | f + 1, x :: y :: r, k, pre, h => by
    by_cases hc : 0 < com x.1 (lst y r).1
    · have hb := h.ext_ hc
      obtain ⟨n, t, hn, hk⟩ := ext_child h hc (k + 1)
      obtain ⟨q, hq⟩ := pth_head hb (pre ++ x.1.take (com x.1 (lst y r).1))
      rw [bld_ext _ _ _ _ _ hc, pth_ext _ _ _ _ _ hc]
      refine Blk.cons (fun c hc' => ?_) (bld_blk f _ _ _ hb)
      dsimp only
      rw [Vector.getElem_set]
      split
      · rename_i he
        refine .inr ⟨0, n, by rw [hn]; rfl, by simp, ?_, fun _ => ⟨he.symm, hk⟩⟩
        rw [hq]; simp
      · left; simp [zk]
    · have hs := h.sub
      obtain ⟨hg, hH, _⟩ := hs.1.grp hs.2
      rw [bld_brn _ _ _ _ _ hc, pth_brn _ _ _ _ _ hc]
      refine Blk.cons (fun c hc' => ?_) (brn_blk (bld_blk f) pre _ _ _ hg)
      dsimp only
      rcases brn_heads pre _ (k + 1) zk (fun p hp => ⟨hg p hp, (hH.2 p hp).2⟩) c hc' with h1 | ⟨j, m, h1, h2, h3⟩
      · left; rw [h1]; simp [zk]
      · refine .inr ⟨j, m, h1, h2, ?_, fun h => by cases h⟩
        rw [h3]; simp
def zp (T : List Nd) (Q : List (List UInt8)) : List Pr := (T.zip Q).filterMap fun z => if z.1.has = true then some ⟨(keyOf (z.2 ++ z.1.path)).getD [], z.1.value⟩ else none
theorem zp_app {T1 T2 : List Nd} {Q1 Q2 : List (List UInt8)} (hl : T1.length = Q1.length) : zp (T1 ++ T2) (Q1 ++ Q2) = zp T1 Q1 ++ zp T2 Q2 := by
  unfold zp; rw [List.zip_append hl, List.filterMap_append]
theorem zp_cons (n : Nd) (T : List Nd) (p : List UInt8) (Q : List (List UInt8)) : zp (n :: T) (p :: Q) = (if n.has = true then [⟨(keyOf (p ++ n.path)).getD [], n.value⟩] else []) ++ zp T Q := by
  unfold zp
  rw [List.zip_cons_cons, List.filterMap_cons]
  by_cases h : n.has = true <;> simp [h]
theorem brn_zp {f : Nat} (ih : ∀ (s : Sx) (k : Nat) (pre : List UInt8), Bok s f → zp (bld f s k) (pth f s pre) = s.map (kx pre)) (pre : List UInt8) : ∀ (gs : List (UInt8 × Sx)) (k : Nat) (kids : Vector Int 16), (∀ p ∈ gs, Bok p.2 f) → zp (brn (bld f) gs k kids).1 (pbrn (pth f) pre gs) = (gfl gs).map (kx pre)
  | [], k, kids, h => rfl
  | (c, g) :: gs, k, kids, h => by
    rw [brn_cons, pbrn_cons]
    dsimp only
    rw [zp_app (pth_len _ _ _ _).symm, ih g k (pre ++ [c]) (h (c, g) (by simp)), brn_zp ih pre gs _ _ (fun p hp => h p (by simp [hp])), flat_cons, List.map_append, List.map_map]
    congr 1
    exact List.map_congr_left fun x _ => kx_pc pre c x
theorem bld_zp : ∀ (f : Nat) (s : Sx) (k : Nat) (pre : List UInt8), Bok s f → zp (bld f s k) (pth f s pre) = s.map (kx pre)
  | 0, s, k, pre, h => by have := h.pos; omega
  | f + 1, [], k, pre, h => absurd rfl h.ne
  | f + 1, [x], k, pre, h => by rw [bld_one, pth_one, zp_cons]; simp [zp, kx]
  | f + 1, x :: y :: r, k, pre, h => by
    by_cases hc : 0 < com x.1 (lst y r).1
    · have hb := h.ext_ hc
      have hlen : (x.1.take (com x.1 (lst y r).1)).length = com x.1 (lst y r).1 := by
        rw [List.length_take]; have := com_left x.1 (lst y r).1; omega
      rw [bld_ext _ _ _ _ _ hc, pth_ext _ _ _ _ _ hc, zp_cons, bld_zp f _ _ _ hb, List.map_map]
      simp only [Bool.false_eq_true, if_false, List.nil_append]
      refine List.map_congr_left fun z hz => ?_
      have := kx_cut (pre := pre) (h.ris.common z hz)
      rwa [hlen] at this
    · have hs := h.sub
      obtain ⟨hg, hH, _⟩ := hs.1.grp hs.2
      rw [bld_brn _ _ _ _ _ hc, pth_brn _ _ _ _ _ hc, zp_cons, brn_zp (bld_zp f) pre _ _ _ hg, groups_flat _ hs.2]
      by_cases hx : x.1 = []
      · simp [hx, kx]
      · simp [hx]
def Zok (M : Nat) (z : Nd × List UInt8) : Prop := z.2.length + z.1.path.length ≤ M ∧ (z.1.has = true → keyOf (z.2 ++ z.1.path) ≠ none)
def Sok (M : Nat) (pre : List UInt8) (s : Sx) : Prop := ∀ x ∈ s, pre.length + x.1.length ≤ M ∧ keyOf (pre ++ x.1) ≠ none
theorem bld_zok {M : Nat} : ∀ (f : Nat) (s : Sx) (k : Nat) (pre : List UInt8), Bok s f → Sok M pre s → ∀ z ∈ (bld f s k).zip (pth f s pre), Zok M z
  | 0, s, k, pre, h, _ => by have := h.pos; omega
  | f + 1, [], k, pre, h, _ => absurd rfl h.ne
  | f + 1, [x], k, pre, h, ho => fun z hz => by
    rw [bld_one, pth_one] at hz
    simp at hz
    subst hz
    exact ⟨(ho x (by simp)).1, fun _ => (ho x (by simp)).2⟩
  | f + 1, x :: y :: r, k, pre, h, ho => fun z hz => by
    by_cases hc : 0 < com x.1 (lst y r).1
    · have hb := h.ext_ hc
      have hlen : (x.1.take (com x.1 (lst y r).1)).length = com x.1 (lst y r).1 := by
        rw [List.length_take]; have := com_left x.1 (lst y r).1; omega
      rw [bld_ext _ _ _ _ _ hc, pth_ext _ _ _ _ _ hc, List.zip_cons_cons] at hz
      rcases List.mem_cons.1 hz with rfl | hz
      · refine ⟨?_, fun h => by cases h⟩
        have := (ho x (by simp)).1
        have := com_left x.1 (lst y r).1
        dsimp only
        omega
      · refine bld_zok f _ _ _ hb (fun w hw => ?_) z hz
        obtain ⟨w', hw', rfl⟩ := List.mem_map.1 hw
        obtain ⟨t, ht⟩ := h.ris.common w' hw'
        have h1 := ho w' hw'
        rw [← ht] at h1
        have e : (cut (com x.1 (lst y r).1) w').1 = t := by
          simp only [cut]
          rw [← ht]
          exact List.drop_left' hlen
        rw [e, List.append_assoc]
        refine ⟨?_, h1.2⟩
        have := h1.1
        simp only [List.length_append] at this ⊢
        omega
    · have hs := h.sub
      obtain ⟨hg, hH, _⟩ := hs.1.grp hs.2
      rw [bld_brn _ _ _ _ _ hc, pth_brn _ _ _ _ _ hc, List.zip_cons_cons] at hz
      have ho' : Sok M pre (if x.1 = [] then y :: r else x :: y :: r) := fun w hw => ho w (by
        split at hw
        · exact List.mem_cons_of_mem _ hw
        · exact hw)
      rcases List.mem_cons.1 hz with rfl | hz
      · refine ⟨?_, fun h => ?_⟩
        · have := (ho x (by simp)).1
          simp; omega
        · have hx : x.1 = [] := by simpa using h
          have := (ho x (by simp)).2
          rw [hx] at this
          exact this
      · have key : ∀ (gs : List (UInt8 × Sx)) (k' : Nat) (kids : Vector Int 16), (∀ p ∈ gs, Bok p.2 f ∧ Sok M (pre ++ [p.1]) p.2) → z ∈ (brn (bld f) gs k' kids).1.zip (pbrn (pth f) pre gs) → Zok M z := by
          intro gs
          induction gs with
          | nil => intro k' kids _ h; simp [brn] at h
          | cons p gs ih =>
            obtain ⟨d, g⟩ := p
            intro k' kids hgs hm
            rw [brn_cons, pbrn_cons] at hm
            dsimp only at hm
            rw [List.zip_append (pth_len _ _ _ _).symm] at hm
            rcases List.mem_append.1 hm with hm | hm
            · exact bld_zok f g k' _ (hgs (d, g) (by simp)).1 (hgs (d, g) (by simp)).2 z hm
            · exact ih _ _ (fun p hp => hgs p (by simp [hp])) hm
        refine key _ _ _ (fun p hp => ⟨hg p hp, fun w hw => ?_⟩) hz
        have h1 := ho' _ (groups_pc _ p hp w hw)
        simp only [pc] at h1
        rw [List.append_assoc, List.singleton_append]
        refine ⟨?_, h1.2⟩
        have := h1.1
        simp only [List.length_cons, List.length_append, List.length_nil] at this ⊢
        omega
/-- All of that, of the trie of pairs. -/
structure Trie (l : List Pr) (t : List Nd) (q : List (List UInt8)) : Prop where
  len : q.length = t.length
  cnt : ∀ v : Nat, 0 < v → (Fk t).count (v : Int) = if v < t.length then 1 else 0
  blk : Blk t q 0
  zp : zp t q = l
  zok : ∀ z ∈ t.zip q, Zok 16 z
  head : ∀ p, q[0]? = some p → p = []
theorem Trie.of {l : List Pr} (h : May l) : Trie l (build l) (paths l) := by
  unfold build paths
  by_cases hn : l = []
  · subst hn
    simp only [if_pos]
    exact ⟨rfl, fun v _ => by simp [Fk], Blk.nil _, rfl, fun z hz => by simp at hz, fun p hp => by simp at hp⟩
  · simp only [if_neg hn]
    have hB := Bok.all h hn
    refine ⟨pth_len _ _ _ _, fun v hv => ?_, bld_blk _ _ _ _ hB, ?_, bld_zok _ _ _ _ hB (fun x hx => ?_), fun p hp => ?_⟩
    · rw [Fk_count hv _ _ _ hB]
      simp [hv]
    · rw [bld_zp _ _ _ _ hB, kx_nil]
    · obtain ⟨p, hp, rfl⟩ := List.mem_map.1 hx
      refine ⟨?_, by simp [keyOf_nib]⟩
      have := (h.1 p hp).2.1
      simp [nib_length]; omega
    · obtain ⟨r, hr⟩ := pth_head hB []
      rw [hr] at hp
      simpa using hp.symm
end Go.Proofs.Ythalogdopkoidaa.Ab
set_option linter.unusedVariables false
set_option linter.unusedSimpArgs false
namespace Go.Proofs.Ythalogdopkoidaa.Ab
open Go Go.RowKit
theorem bz37 : abuild TT 37 [] = some (.agg #[.slice none 0 0, .bool false]) := rfl
theorem b37 {a : Value} (ha : One a) : abuild TT 37 [(0, a), (1, .bool true)] = some (.agg #[a, .bool true]) := by
  have h1 : a.cells.size = 1 := by rw [ha.cells]; rfl
  simp only [abuild, TT_37]
  rw [if_pos (by decide)]
  simp only [afill, placeOf]
  simp only [List.getElem?_cons_zero, List.getElem?_cons_succ, TT_22, TT_4, Option.map_some]
  rw [if_pos ⟨ha.known, h1, by decide⟩, ha.cells]
  rfl
theorem ap37 (a b : Value) : apart TT 37 [a, b] 0 = some (.agg #[a, b]) := by
  unfold apart; rw [TT_37]; rfl
theorem Lay.two {a b : Value} (ha : One a) (hb : One b) : Lay (.agg #[a, b]) [a, b] := Lay.agg (l := [a, b]) (fun v hv => by
  simp only [List.mem_cons, List.not_mem_nil, or_false] at hv
  rcases hv with rfl | rfl <;> assumption)
theorem zeros_str (n : Nat) : zeros n [.string ⟨#[]⟩] = (List.replicate n ([] : List UInt8)).flatMap sCell := by
  induction n with
  | zero => rfl
  | succ n ih =>
    rw [List.replicate_succ, List.flatMap_cons, ← ih]
    simp only [zeros, List.length_singleton, Nat.mul_one, List.range_succ_eq_map, List.map_cons, List.map_map]
    simp [sCell, S, Nat.mod_one]
theorem zeros_bool (n : Nat) : zeros n [.bool false] = (List.replicate n false).flatMap oCell := by
  induction n with
  | zero => rfl
  | succ n ih =>
    rw [List.replicate_succ, List.flatMap_cons, ← ih]
    simp only [zeros, List.length_singleton, Nat.mul_one, List.range_succ_eq_map, List.map_cons, List.map_map]
    simp [oCell, Nat.mod_one]
theorem kidI (i : Nat) (c : Nat) (h : c < 16) : aindex TT 47 (.pointer (some ⟨i, 4, none⟩)) (.int .i64 (c : Int)) = some (.pointer (some ⟨i, 4 + c, none⟩)) := by
  simp only [aindex, TT_47, TT_3]
  rw [if_pos (by omega)]
  simp
theorem apnk (n : Nd) (c : Nat) (h : c < 16) : apart TT 3 n.cells (4 + c) = some (.int .i64 n.kids[c]) := by
  have := kids_get n c h
  unfold apart; rw [TT_3]; dsimp only
  exact this
theorem apn0 (n : Nd) : apart TT 3 n.cells 0 = some (.int .i64 n.kind) := rfl
theorem apn1 (n : Nd) : apart TT 9 n.cells 1 = some (S n.path) := rfl
theorem apn2 (n : Nd) : apart TT 4 n.cells 2 = some (.bool n.has) := rfl
theorem apn3 (n : Nd) : apart TT 9 n.cells 3 = some (S n.value) := rfl
/-- The reference's state, in memory. -/
structure PS (H0 H : AHeap) (vto vme vl : Value) (t : List Nd) (TO : List (List UInt8)) (ME : List Bool) (l : List Pr) : Prop where
  x : AExt (fun _ => False) H0 H
  r : Ob H H0.length 37 [.slice none 0 0, .bool false]
  to : StB H vto TO
  me : Buf H vme 4 ME.length (ME.flatMap oCell)
  pl : PrB H vl l
  tol : TO.length = t.length
  mel : ME.length = t.length
  short : ∀ p ∈ TO, p.length ≤ 17
  d1 : ∀ j, vid vto = some j → H0.length < j
  d2 : ∀ j, vid vme = some j → H0.length < j
  d3 : ∀ j, vid vl = some j → H0.length < j
  n1 : ∀ j, vid vto = some j → vid vme ≠ some j ∧ vid vl ≠ some j
  n2 : ∀ j, vid vme = some j → vid vl ≠ some j
  ll : l.length ≤ t.length
theorem PS.keep {H0 H H' : AHeap} {vto vme vl : Value} {t : List Nd} {TO : List (List UInt8)} {ME : List Bool} {l : List Pr} (h : PS H0 H vto vme vl t TO ME l) (hX : AExt (fun _ => False) H H') : PS H0 H' vto vme vl t TO ME l :=
  ⟨h.x.trans hX, h.r.keep hX, Buf.keep h.to hX, Buf.keep h.me hX, Buf.keep h.pl hX, h.tol, h.mel, h.short, h.d1, h.d2, h.d3, h.n1, h.n2, h.ll⟩
/-- What is known if it is a trie: which nodes are met, the paths to them, the pairs. -/
structure Sem (t : List Nd) (q : List (List UInt8)) (pos i : Nat) (TO : List (List UInt8)) (ME : List Bool) (l : List Pr) : Prop where
  me : ∀ (j : Nat) (b : Bool), 0 < j → ME[j]? = some b → b = decide ((j : Int) ∈ (Fk t).take pos)
  to : ∀ (j : Nat) (p : List UInt8), TO[j]? = some p → (j = 0 ∨ ME[j]? = some true) → q[j]? = some p
  l : l = zp (t.take i) (q.take i)
theorem Fk_step {t : List Nd} {i c : Nat} (hi : i < t.length) (hc : c < 16) : (Fk t).take (i * 16 + (c + 1)) = (Fk t).take (i * 16 + c) ++ [t[i].kids[c]] := by
  rw [← Nat.add_assoc, List.take_add_one, Fk_get t i c hi hc]; rfl
/-- A node that is come to is some earlier node's child. -/
theorem Trie.met {l : List Pr} {t : List Nd} {q : List (List UInt8)} (h : Trie l t q) {i : Nat} (h0 : 0 < i) (hi : i < t.length) : (i : Int) ∈ (Fk t).take (i * 16) := by
  have hc := h.cnt i h0
  rw [if_pos hi] at hc
  have hm : (i : Int) ∈ Fk t := List.count_pos_iff.1 (by omega)
  obtain ⟨a, ha, hae⟩ := List.getElem_of_mem hm
  rw [Fk_length] at ha
  have h1 : a / 16 < t.length := by omega
  have h2 : a % 16 < 16 := Nat.mod_lt _ (by decide)
  have h3 := Fk_get t (a / 16) (a % 16) h1 h2
  rw [show a / 16 * 16 + a % 16 = a by omega, List.getElem?_eq_getElem (by rw [Fk_length]; omega), hae] at h3
  have h4 : t[a / 16].kids[a % 16] = (i : Int) := (Option.some.inj h3).symm
  have hq : a / 16 < q.length := by rw [h.len]; exact h1
  rcases h.blk (a / 16) _ _ (List.getElem?_eq_getElem h1) (List.getElem?_eq_getElem hq) (a % 16) h2 with h5 | ⟨j, m, g1, g2, g3, g4, g5⟩
  · rw [h4] at h5; omega
  · rw [h4] at g3
    have : i = j := by omega
    subst this
    rw [List.mem_take_iff_getElem]
    exact ⟨a, by rw [Fk_length]; omega, hae⟩
theorem Trie.once {l : List Pr} {t : List Nd} {q : List (List UInt8)} (h : Trie l t q) {i c K : Nat} (hi : i < t.length) (hc : c < 16) (hK : 0 < K) (he : t[i].kids[c] = (K : Int)) : (K : Int) ∉ (Fk t).take (i * 16 + c) := by
  intro hm
  have hcn := h.cnt K hK
  have hle : (Fk t).count (K : Int) ≤ 1 := by rw [hcn]; split <;> omega
  obtain ⟨a, ha, hae⟩ := List.mem_take_iff_getElem.1 hm
  have h1 := Fk_get t i c hi hc
  rw [he] at h1
  have := count_one (Fk t) K hle a (i * 16 + c) (by rw [List.getElem?_eq_getElem (by omega), hae]) h1
  omega
theorem zp_step {t : List Nd} {q : List (List UInt8)} {i : Nat} (hi : i < t.length) (hq : i < q.length) : zp (t.take (i + 1)) (q.take (i + 1)) = zp (t.take i) (q.take i) ++ (if t[i].has = true then [⟨(keyOf (q[i] ++ t[i].path)).getD [], t[i].value⟩] else []) := by
  rw [tk hi, tk hq, zp_app (by simp; omega), zp_cons]
  simp [zp]
theorem Sem.zero {t : List Nd} {q : List (List UInt8)} {pos pos' i : Nat} {TO : List (List UInt8)} {ME : List Bool} {l : List Pr} (h : Sem t q pos i TO ME l) (hp : (Fk t).take pos' = (Fk t).take pos ++ [0]) : Sem t q pos' i TO ME l := by
  refine ⟨fun j b hj hb => ?_, h.to, h.l⟩
  rw [h.me j b hj hb, hp]
  congr 1
  rw [eq_iff_iff, List.mem_append, List.mem_singleton]
  constructor
  · exact .inl
  · rintro (h | h)
    · exact h
    · omega
theorem Sem.next {t : List Nd} {q : List (List UInt8)} {pos pos' i K : Nat} {TO : List (List UInt8)} {ME : List Bool} {l : List Pr} (h : Sem t q pos i TO ME l) (hK : 0 < K) (hp : (Fk t).take pos' = (Fk t).take pos ++ [(K : Int)]) {p : List UInt8} (hq : q[K]? = some p) : Sem t q pos' i (TO.set K p) (ME.set K true) l := by
  refine ⟨fun j b hj hb => ?_, fun j p' hj hm => ?_, h.l⟩
  · rw [hp]
    by_cases e : K = j
    · subst e
      rw [List.getElem?_set] at hb
      simp only [if_true] at hb
      split at hb
      · obtain rfl := Option.some.inj hb
        simp
      · cases hb
    · rw [List.getElem?_set_ne e] at hb
      rw [h.me j b hj hb]
      congr 1
      rw [eq_iff_iff, List.mem_append, List.mem_singleton]
      constructor
      · exact .inl
      · rintro (h | h)
        · exact h
        · omega
  · by_cases e : K = j
    · subst e
      rw [List.getElem?_set] at hj
      simp only [if_true] at hj
      split at hj
      · obtain rfl := Option.some.inj hj
        exact hq
      · cases hj
    · rw [List.getElem?_set_ne e] at hj hm
      exact h.to j p' hj hm
theorem PS.setM {H0 H H' : AHeap} {vto vme vl : Value} {t : List Nd} {TO : List (List UInt8)} {ME ME' : List Bool} {l : List Pr} {mi : Nat} (h : PS H0 H vto vme vl t TO ME l) (hv : vid vme = some mi) (hX : AExt (fun j => j = mi) H H') (hO : Buf H' vme 4 ME'.length (ME'.flatMap oCell)) (hl : ME'.length = t.length) : PS H0 H' vto vme vl t TO ME' l := by
  have h1 := h.d2 _ hv
  exact ⟨h.x.weakF hX (fun i _ hi => by omega), h.r.ext hX (by omega), Buf.ext h.to hX (fun j hj e => (h.n1 j hj).1 (by rw [hv, e])), hO, Buf.ext h.pl hX (fun j hj e => h.n2 mi hv (by rw [hj, e])), h.tol, hl, h.short, h.d1, h.d2, h.d3, h.n1, h.n2, h.ll⟩
theorem PS.setT {H0 H H' : AHeap} {vto vme vl : Value} {t : List Nd} {TO TO' : List (List UInt8)} {ME : List Bool} {l : List Pr} {ti : Nat} (h : PS H0 H vto vme vl t TO ME l) (hv : vid vto = some ti) (hX : AExt (fun j => j = ti) H H') (hO : StB H' vto TO') (hl : TO'.length = t.length) (hs : ∀ p ∈ TO', p.length ≤ 17) : PS H0 H' vto vme vl t TO' ME l := by
  have h1 := h.d1 _ hv
  have h2 := h.n1 _ hv
  exact ⟨h.x.weakF hX (fun i _ hi => by omega), h.r.ext hX (by omega), hO, Buf.ext h.me hX (fun j hj e => h2.1 (by rw [hj, e])), Buf.ext h.pl hX (fun j hj e => h2.2 (by rw [hj, e])), hl, h.mel, hs, h.d1, h.d2, h.d3, h.n1, h.n2, h.ll⟩
section
variable {N : Nat} {ok : Nat → Prop} {ops : List Oper} {late : List Nat} {σ : List (Nat × Bool)} {K : Env → AHeap → Prop} {e : Env} {H Hs : AHeap} {Msk : Nat → Prop} {i0 : Nat} {dst : Option Nat} {ty : TypeId} {pos : String} {af : Array Edge} {gd : Option (Nat × Bool)}
theorem AG_storeE {P : Program} (hT : TOK P TT) {t : Nat} {ti : TI} {p x : Operand} {i off : Nat} {v u : Value} {xs cs : List Value} {ety n : Nat} (ho : ops[i0]? = some ⟨dst, .store t p x, ty, pos, af, gd⟩) (ht : TT t = some ti) (hw : awant ops e ⟨dst, .store t p x, ty, pos, af, gd⟩ = some true)
    (hp : aev e p = ep u off) (hx : aev e x = v) (hv : Lay v xs) (hs : xs.length = ti.size) (hob : Own H u ety n cs i) (hfit : off + xs.length ≤ cs.length) (hok : ok i) (hl : late.contains i0 = true)
    (hk : ∀ H', AExt (fun j => j = i) H H' → Own H' u ety n (over cs off xs) i → H'.length = H.length → AG P N ok Msk ops late σ K [] (eput N e dst undef) H') : AG P N ok Msk ops late ((i0, false) :: σ) K Hs e H := by
  obtain ⟨h1, cells, h2, h3, h4⟩ := hob
  subst h1
  refine AG_store hT ho ht hw (i := i) (off := off) (by rw [hp]; simp [ep]) hx hv hs h2 (by omega) hok hl fun H' g1 g2 g3 => hk H' g1 ⟨rfl, _, g2, by simp [over_length, h3], ?_⟩ g3
  rw [over_length, over_eq _ _ _ (by omega), over_eq _ _ _ (by omega)]
  have e1 : cs.take off = cells.take off := by rw [← h4, List.take_take]; congr 1; omega
  have e2 : cs.drop (off + xs.length) = (cells.drop (off + xs.length)).take (cs.length - (off + xs.length)) := by
    conv => lhs; rw [← h4]
    rw [List.drop_take]
  rw [e1, e2, List.append_assoc, List.append_assoc, List.take_append, List.take_append]
  rw [List.take_of_length_le (i := cs.length) (by simp; omega)]
  congr 1
  rw [List.take_of_length_le (by simp; omega)]
  congr 2
  simp
  omega
end
def q0 (t : List Nd) : List (List UInt8) := (walkAll t).2.paths
theorem Isw.trie {t : List Nd} (h : Isw t) : Trie (walkAll t).2.l t (q0 t) := by
  have h1 := Trie.of h.2.1
  have h2 := walkAll_build h.2.1
  rw [← h.2.2] at h1 h2
  have h3 : q0 t = paths (walkAll t).2.l := by
    unfold q0
    conv => lhs; rw [h2]
  rw [h3]
  exact h1
set_option maxHeartbeats 8000000 in
theorem c32 {H : AHeap} {vt : Value} {t : List Nd} (hS : NdS H vt t) (ht : t.length < 2^19) (hn : ∀ n ∈ t, n.path.length < 2^30) : ACalls Try.prog 32 [vt] H (fun _ => False) fun v H' =>
    ∃ u, v = .agg #[u, .bool (decide (Isw t))] ∧ PrB H' u (if Isw t then (walkAll t).2.l else []) ∧ ∀ j, vid u = some j → H.length ≤ j := by
  refine ACalls_by 133 TT_ok Try.func32 rfl rfl rfl (by simp) ?_
  refine AC_seq ?_
  refine AC_regL ?_
  refine AQ_alloc TT_ok TT_37 rfl fun H1 hX1 hO1 hL1 => ?_
  refine AQ_nil ?_
  have hS1 := hS.keep hX1
  have hvt : ∀ j, vid vt = some j → j < H.length := fun j hj => hS.vid_lt hj
  refine AC_seq ?_
  refine AC_regL ?_
  refine AQ_take TT_ok 2 rfl (by simp only [go_sem, hS1.alen] <;> rfl) ?_
  refine AQ_make TT_ok (m := (t.length : Int)) (c := (t.length : Int)) TT_30 rfl TT_9 rfl (by decide) (by decide) rfl (by simp only [go_sem]) (by simp only [go_sem]) (by omega) (by omega) (by simp; omega) fun H2 hX2 hO2 hL2 => ?_
  rw [Int.toNat_natCast, zeros_str] at hO2
  rw [Int.toNat_natCast]
  refine AQ_all TT_ok rfl (by simp only [go_sem] <;> rfl) ?_
  have hS2 := hS1.keep hX2
  refine AC_seq ?_
  refine AC_regL ?_
  refine AQ_take TT_ok 2 rfl (by simp only [go_sem, hS2.alen] <;> rfl) ?_
  refine AQ_make TT_ok (m := (t.length : Int)) (c := (t.length : Int)) TT_107 rfl TT_4 rfl (by decide) (by decide) rfl (by simp only [go_sem]) (by simp only [go_sem]) (by omega) (by omega) (by simp; omega) fun H3 hX3 hO3 hL3 => ?_
  rw [Int.toNat_natCast, zeros_bool] at hO3
  rw [Int.toNat_natCast]
  refine AQ_all TT_ok rfl (by simp only [go_sem] <;> rfl) ?_
  refine AC_seqQ TT_ok (by simp only [go_sem] <;> rfl) ?_
  have hlr : (List.replicate t.length ([] : List UInt8)).length = t.length := by simp
  have hlb : (List.replicate t.length false).length = t.length := by simp
  have hP3 : PS H H3 (.slice (some ⟨H1.length, 0, none⟩) t.length t.length) (.slice (some ⟨H2.length, 0, none⟩) t.length t.length) (.slice none 0 0) t (List.replicate t.length []) (List.replicate t.length false) [] :=
    ⟨(hX1.trans hX2).trans hX3, (hO1.keep hX2).keep hX3, Buf.keep (.inr ⟨_, by rw [hlr]; exact hO2⟩) hX3, .inr ⟨_, by rw [hlb]; exact hO3⟩, Buf.nil _ _, hlr, hlb, fun p hp => by rw [(List.mem_replicate.1 hp).2]; simp, fun j hj => (by have e : H1.length = j := Option.some.inj hj; omega), fun j hj => (by have e : H2.length = j := Option.some.inj hj; omega), fun j hj => (by cases hj), fun j hj => ⟨fun h => (by have e : H1.length = j := Option.some.inj hj; have e2 : H2.length = j := Option.some.inj h; omega), fun h => (by cases h)⟩, fun j hj h => (by cases h), by simp⟩
  have hM3 : Isw t → Sem t (q0 t) 0 0 (List.replicate t.length []) (List.replicate t.length false) [] := fun hi => by
    refine ⟨fun j b _ hb => ?_, fun j p hp hm => ?_, by simp [zp]⟩
    · rw [List.getElem?_replicate] at hb
      split at hb
      · obtain rfl := Option.some.inj hb
        simp
      · cases hb
    · rw [List.getElem?_replicate] at hp hm
      split at hp
      · rename_i hj
        obtain rfl := Option.some.inj hp
        rw [if_pos hj] at hm
        rcases hm with rfl | hm
        · have hT := hi.trie
          have hq : 0 < (q0 t).length := by rw [hT.len]; exact hj
          have := hT.head _ (List.getElem?_eq_getElem hq)
          rw [List.getElem?_eq_getElem hq, this]
        · cases hm
      · cases hp
  generalize (.slice (some ⟨H1.length, 0, none⟩) t.length t.length : Value) = vto at hP3 ⊢
  generalize (.slice (some ⟨H2.length, 0, none⟩) t.length t.length : Value) = vme at hP3 ⊢
  refine AC_cut (fun e' H' => ∃ vl TO ME l, PS H H' vto vme vl t TO ME l ∧ (Isw t → Sem t (q0 t) (t.length * 16) t.length TO ME l) ∧ get e' 0 = vt ∧ get e' 2 = .pointer (some ⟨H.length, 0, none⟩) ∧ get e' 5 = vl) ?_ (fun e4 H4 _ ⟨vl, TO, ME, l, hP4, hM4, g0, g2, g5⟩ => ?_)
  · refine AC_seqQ TT_ok (by simp only [go_sem] <;> rfl) ?_
    refine AC_block (AC_loop (fun n e' H' => ∃ (i : Nat) (vl : Value) (TO : List (List UInt8)) (ME : List Bool) (l : List Pr), n = t.length - i ∧ i ≤ t.length ∧ l.length ≤ i ∧ PS H H' vto vme vl t TO ME l ∧ (Isw t → Sem t (q0 t) (i * 16) i TO ME l) ∧ get e' 0 = vt ∧ get e' 2 = .pointer (some ⟨H.length, 0, none⟩) ∧ get e' 3 = vto ∧ get e' 4 = vme ∧ get e' 5 = vl ∧ get e' 6 = .int .i64 (i : Nat)) t.length
      ⟨0, .slice none 0 0, _, _, [], by simp, by simp, by simp, hP3, by simpa using hM3, by simp only [go_sem], by simp only [go_sem], by simp only [go_sem], by simp only [go_sem], by simp only [go_sem], by simp only [go_sem] <;> simp⟩ ?_)
    rintro n E H4 _ ⟨i, vl, TO, ME, l, hn', hi, hli, hP, hM, g0, g2, g3, g4, g5, g6⟩
    have hS4 := hS.keep hP.x
    refine AC_seq ?_
    refine AC_seqQ TT_ok (by simp only [go_sem, g0, g6, hS4.alen] <;> rfl) ?_
    by_cases hi' : i < t.length
    · refine AC_t (by simp only [go_sem] <;> rfl) (lt_dec hi') ?_
      refine AC_skip ?_
      refine AC_seq (AC_block ?_)
      have hmi : i < ME.length := by rw [hP.mel]; exact hi'
      have hti : i < TO.length := by rw [hP.tol]; exact hi'
      have meI : BoS H4 vme ME := Buf.sl hP.me
      have toI : StS H4 vto TO := hP.to.sl
      have m1 := meI.index (k := .i64) hmi
      have m2 := meI.load hmi
      have u1 := toI.index (k := .i64) hti
      have u2 := toI.load hti
      -- was it met?
      refine AC_cut (fun e' H' => H' = H4 ∧ (i = 0 ∨ ME[i]? = some true) ∧ get e' 0 = vt ∧ get e' 2 = .pointer (some ⟨H.length, 0, none⟩) ∧ get e' 3 = vto ∧ get e' 4 = vme ∧ get e' 5 = vl ∧ get e' 6 = .int .i64 (i : Nat)) ?_ (fun e5 H5 _ ⟨hH, hmet, g0, g2, g3, g4, g5, g6⟩ => ?_)
      · by_cases hz : i = 0
        · have d0 : decide ((0 : Int) < (i : Int)) = false := decide_eq_false (by omega)
          refine AC_seqQ TT_ok (by simp only [go_sem, g6, d0] <;> rfl) ?_
          refine AC_f (by simp only [go_sem] <;> rfl) (rfl) ?_
          exact AC_skip ⟨rfl, .inl hz, by simp only [go_sem, g0], by simp only [go_sem, g2], by simp only [go_sem, g3], by simp only [go_sem, g4], by simp only [go_sem, g5], by simp only [go_sem, g6]⟩
        · have d0 : decide ((0 : Int) < (i : Int)) = true := decide_eq_true (by omega)
          refine AC_seqQ TT_ok (by simp only [go_sem, g6, g4, d0, m1, m2] <;> rfl) ?_
          by_cases hb : ME[i] = true
          · refine AC_f (by simp only [go_sem] <;> rfl) (by rw [hb]; rfl) ?_
            exact AC_skip ⟨rfl, .inr (by rw [List.getElem?_eq_getElem hmi, hb]), by simp only [go_sem, g0], by simp only [go_sem, g2], by simp only [go_sem, g3], by simp only [go_sem, g4], by simp only [go_sem, g5], by simp only [go_sem, g6]⟩
          · have hb' : ME[i] = false := by simpa using hb
            refine AC_t (by simp only [go_sem] <;> rfl) (by rw [hb']; rfl) ?_
            have hni : ¬ Isw t := fun hs => by
              have h1 := (hM hs).me i _ (by omega) (List.getElem?_eq_getElem hmi)
              rw [hb'] at h1
              exact of_decide_eq_false h1.symm (hs.trie.met (by omega) hi')
            refine AC_seq ?_
            refine AC_regL ?_
            refine AQ_take TT_ok 1 rfl (by simp only [go_sem, List.map_nil, bz37] <;> rfl) ?_
            refine AQ_store TT_ok TT_37 rfl (by simp only [go_sem, g2] <;> rfl) (by simp only [go_sem] <;> rfl) (Lay.two (One.slice _ _ _) (One.bool _)) rfl hP.r (by show 0 + 2 ≤ 2; decide) (.inl (Nat.le_refl _)) (.inl rfl) fun Hz hXz hOz hLz => ?_
            refine AQ_nil ?_
            refine AC_ret ⟨.inl rfl, .agg #[.slice none 0 0, .bool false], ?_, .slice none 0 0, by rw [decide_eq_false hni], by rw [if_neg hni]; exact Buf.nil _ _, fun j hj => (by cases hj)⟩
            show ares TT Hz _ [.cell 2 37] = _
            have hOz' : Ob Hz H.length 37 [.slice none 0 0, .bool false] := hOz
            simp only [ares, List.mapM_cons, List.mapM_nil, ares1, go_sem, g2, hOz'.load, ap37]
            rfl
      subst hH
      -- the node
      have hS5 := hS.keep hP.x
      have a1 := hS5.index (k := .i64) (j := (i : Int)) (by omega) (by omega)
      rw [Int.toNat_natCast] at a1
      have a2 := hS5.load hi'
      refine AC_seq ?_
      refine AC_regL ?_
      refine AQ_take TT_ok 4 rfl (by simp only [go_sem, g0, g6, a1, a2] <;> rfl) ?_
      refine AQ_var TT_ok TT_49 rfl (by decide) (by simp only [go_sem] <;> rfl) (Lay.nd _) (Nd.len _) (.inl hP.x.size) (.inl rfl) fun H6 hX6 hO6 hL6 => ?_
      refine AQ_nil ?_
      have hP6 := hP.keep hX6
      have hpl := hn _ (List.getElem_mem hi')
      have hto := hP.short _ (List.getElem_mem hti)
      have u2 := StS.load hP6.to.sl hti
      have ad := as_add 9 TO[i] t[i].path (by omega)
      refine AC_seq ?_
      refine AC_quiet_draw TT_ok mixed (by kernel_rfl) (by simp only [go_sem, g3, g6, u1, u2, f49p _ 1 1 rfl, hO6.load, apn1, ad] <;> rfl) ?_
      have hsem : Isw t → (q0 t)[i]? = some TO[i] := fun hs => (hM hs).to i _ (List.getElem?_eq_getElem hti) hmet
      have hzok : Isw t → Zok 16 (t[i], TO[i]) := fun hs => by
        have hT := hs.trie
        have hq : i < (q0 t).length := by rw [hT.len]; exact hi'
        have h1 := hsem hs
        rw [List.getElem?_eq_getElem hq] at h1
        have h2 := hT.zok ((t.zip (q0 t))[i]'(by rw [List.length_zip, hT.len]; omega)) (List.getElem_mem _)
        rw [List.getElem_zip] at h2
        rw [← Option.some.inj h1]
        exact h2
      -- not too long
      refine AC_cut (fun e' H' => H' = H6 ∧ (TO[i] ++ t[i].path).length ≤ 16 ∧ get e' 0 = vt ∧ get e' 2 = .pointer (some ⟨H.length, 0, none⟩) ∧ get e' 3 = vto ∧ get e' 4 = vme ∧ get e' 5 = vl ∧ get e' 6 = .int .i64 (i : Nat) ∧ get e' 7 = .pointer (some ⟨H5.length, 0, none⟩) ∧ get e' 8 = S (TO[i] ++ t[i].path)) ?_ (fun e7 H7 _ ⟨hH, h16, g0, g2, g3, g4, g5, g6, g7, g8⟩ => ?_)
      · by_cases c1 : 16 < t[i].path.length
        · have d1 : decide ((16 : Int) < (t[i].path.length : Int)) = true := decide_eq_true (by omega)
          refine AC_seqQ TT_ok (by simp only [go_sem, f49p _ 1 1 rfl, hO6.load, apn1, d1] <;> rfl) ?_
          refine AC_t (by simp only [go_sem] <;> rfl) (rfl) ?_
          have hni : ¬ Isw t := fun hs => by have := (hzok hs).1; dsimp only at this; omega
          refine AC_seq ?_
          refine AC_regL ?_
          refine AQ_take TT_ok 1 rfl (by simp only [go_sem, List.map_nil, bz37] <;> rfl) ?_
          refine AQ_store TT_ok TT_37 rfl (by simp only [go_sem, g2] <;> rfl) (by simp only [go_sem] <;> rfl) (Lay.two (One.slice _ _ _) (One.bool _)) rfl hP6.r (by show 0 + 2 ≤ 2; decide) (.inl (Nat.le_refl _)) (.inl rfl) fun Hz hXz hOz hLz => ?_
          refine AQ_nil ?_
          refine AC_ret ⟨.inl rfl, .agg #[.slice none 0 0, .bool false], ?_, .slice none 0 0, by rw [decide_eq_false hni], by rw [if_neg hni]; exact Buf.nil _ _, fun j hj => (by cases hj)⟩
          show ares TT Hz _ [.cell 2 37] = _
          have hOz' : Ob Hz H.length 37 [.slice none 0 0, .bool false] := hOz
          simp only [ares, List.mapM_cons, List.mapM_nil, ares1, go_sem, g2, hOz'.load, ap37]
          rfl
        · have d1 : decide ((16 : Int) < (t[i].path.length : Int)) = false := decide_eq_false (by omega)
          by_cases c2 : 16 < (TO[i] ++ t[i].path).length
          · have d2 : decide ((16 : Int) < ((TO[i] ++ t[i].path).length : Int)) = true := decide_eq_true (by omega)
            refine AC_seqQ TT_ok (by simp only [go_sem, f49p _ 1 1 rfl, hO6.load, apn1, d1, d2] <;> rfl) ?_
            refine AC_t (by simp only [go_sem] <;> rfl) (rfl) ?_
            have hni : ¬ Isw t := fun hs => by have := (hzok hs).1; dsimp only at this; rw [List.length_append] at c2; omega
            refine AC_seq ?_
            refine AC_regL ?_
            refine AQ_take TT_ok 1 rfl (by simp only [go_sem, List.map_nil, bz37] <;> rfl) ?_
            refine AQ_store TT_ok TT_37 rfl (by simp only [go_sem, g2] <;> rfl) (by simp only [go_sem] <;> rfl) (Lay.two (One.slice _ _ _) (One.bool _)) rfl hP6.r (by show 0 + 2 ≤ 2; decide) (.inl (Nat.le_refl _)) (.inl rfl) fun Hz hXz hOz hLz => ?_
            refine AQ_nil ?_
            refine AC_ret ⟨.inl rfl, .agg #[.slice none 0 0, .bool false], ?_, .slice none 0 0, by rw [decide_eq_false hni], by rw [if_neg hni]; exact Buf.nil _ _, fun j hj => (by cases hj)⟩
            show ares TT Hz _ [.cell 2 37] = _
            have hOz' : Ob Hz H.length 37 [.slice none 0 0, .bool false] := hOz
            simp only [ares, List.mapM_cons, List.mapM_nil, ares1, go_sem, g2, hOz'.load, ap37]
            rfl
          · have d2 : decide ((16 : Int) < ((TO[i] ++ t[i].path).length : Int)) = false := decide_eq_false (by omega)
            refine AC_seqQ TT_ok (by simp only [go_sem, f49p _ 1 1 rfl, hO6.load, apn1, d1, d2] <;> rfl) ?_
            refine AC_f (by simp only [go_sem] <;> rfl) (rfl) ?_
            exact AC_skip ⟨rfl, by omega, by simp only [go_sem, g0], by simp only [go_sem, g2], by simp only [go_sem, g3], by simp only [go_sem, g4], by simp only [go_sem, g5], by simp only [go_sem, g6], by simp only [go_sem], by simp only [go_sem]⟩
      subst hH
      have hzs : Isw t → zp (t.take (i + 1)) ((q0 t).take (i + 1)) = l ++ (if t[i].has = true then [⟨(keyOf (TO[i] ++ t[i].path)).getD [], t[i].value⟩] else []) := fun hs => by
        have hT := hs.trie
        have hq : i < (q0 t).length := by rw [hT.len]; exact hi'
        have h1 := hsem hs
        rw [List.getElem?_eq_getElem hq] at h1
        rw [zp_step hi' hq, ← (hM hs).l, Option.some.inj h1]
      -- its pair
      refine AC_cut (fun e' H' => ∃ vl' l', PS H H' vto vme vl' t TO ME l' ∧ l'.length ≤ i + 1 ∧ (Isw t → l' = zp (t.take (i + 1)) ((q0 t).take (i + 1))) ∧ Ob H' H5.length 49 t[i].cells ∧ H5.length < H'.length ∧ get e' 0 = vt ∧ get e' 2 = .pointer (some ⟨H.length, 0, none⟩) ∧ get e' 3 = vto ∧ get e' 4 = vme ∧ get e' 5 = vl' ∧ get e' 6 = .int .i64 (i : Nat) ∧ get e' 7 = .pointer (some ⟨H5.length, 0, none⟩) ∧ get e' 8 = S (TO[i] ++ t[i].path)) ?_ (fun e8 H8 _ ⟨vl1, l1, hP8, hl1, hz1, hO8, hlt8, g0, g2, g3, g4, g5, g6, g7, g8⟩ => ?_)
      · refine AC_seqQ TT_ok (by simp only [go_sem, g7, f49p _ 2 2 rfl, hO6.load, apn2] <;> rfl) ?_
        by_cases hh : t[i].has = true
        · refine AC_t (by simp only [go_sem] <;> rfl) (hh) ?_
          refine AC_seq ?_
          refine AC_regL ?_
          refine AQ_take TT_ok 1 rfl (by simp only [go_sem, g8] <;> rfl) ?_
          refine AQ_c rfl (by simp only [go_sem] <;> rfl) fok66 (by simp only [List.map_cons, List.map_nil, List.append_nil, go_sem] <;> rfl) (c66 (a := TO[i] ++ t[i].path) (by omega)) (fun _ _ h => h.elim) (.inl rfl) fun v H8 hX8 hv => ?_
          subst hv
          refine AQ_var TT_ok TT_109 rfl (by decide) (by simp only [go_sem] <;> rfl) (Lay.two (One.str _) (One.bool _)) rfl (.inl (by have := hP6.x.size; have := hX8.size; omega)) (.inl rfl) fun H9 hX9 hO9 hL9 => ?_
          refine AQ_nil ?_
          have hX89 := hX8.trans hX9
          have hP9 := hP6.keep hX89
          have hN9 := hO6.keep hX89
          have k1 : ∀ k, afield TT 109 (.pointer (some ⟨k, 0, none⟩)) 1 = some (.pointer (some ⟨k, 1, none⟩)) := fun k => rfl
          have k0 : ∀ k, afield TT 109 (.pointer (some ⟨k, 0, none⟩)) 0 = some (.pointer (some ⟨k, 0, none⟩)) := fun k => rfl
          have a1' : ∀ (x : List UInt8) (b : Bool), apart TT 4 [S x, .bool b] 1 = some (.bool b) := fun x b => rfl
          have a0' : ∀ (x : List UInt8) (b : Bool), apart TT 9 [S x, .bool b] 0 = some (S x) := fun x b => rfl
          by_cases hk : (keyOf (TO[i] ++ t[i].path)).isSome = true
          · refine AC_seq ?_
            refine AC_seqQ TT_ok (by simp only [go_sem, k1, hO9.load, a1'] <;> rfl) ?_
            refine AC_f (by simp only [go_sem] <;> rfl) (by rw [hk]; rfl) ?_
            refine AC_skip ?_
            refine AC_regL ?_
            refine AQ_take TT_ok 6 rfl (by simp only [go_sem, g5, g7, k0, hO9.load, a0', f49p _ 3 3 rfl, hN9.load, apn3, List.map_cons, List.map_nil, bp52] <;> rfl) ?_
            refine AQ_lit TT_ok [(Pr.mk ((keyOf (TO[i] ++ t[i].path)).getD []) t[i].value).val] TT_22 rfl TT_52 rfl (by decide) rfl (by decide) rfl (by simp only [List.map_cons, List.map_nil, go_sem, numbered]) (fun u hu => ?_) fun H10 hX10 hO10 hL10 => ?_
            · rw [List.mem_singleton] at hu; subst hu; exact ⟨_, Lay.pr _, rfl⟩
            have hP10 := hP9.keep hX10
            have hsz := hP6.x.size
            have hs89 := hX89.size
            refine AQ_append TT_ok (v := vl) (n := l.length) (m := 1) TT_22 rfl TT_52 (by decide) (by decide) rfl (by simp only [go_sem, g5]) (by simp only [go_sem]) hP10.pl hO10.sl (rows_length Pr.len _) rfl (by simp; omega) (fun j hj => .inl (Nat.le_of_lt (hP10.d3 j hj))) (.inl rfl) fun vl' H11 hX11 hB11 hv11 => ?_
            have hB11' : PrB H11 vl' (l ++ [⟨(keyOf (TO[i] ++ t[i].path)).getD [], t[i].value⟩]) := by
              have e : l.flatMap Pr.cells ++ ([(Pr.mk ((keyOf (TO[i] ++ t[i].path)).getD []) t[i].value).val] : List Value).flatMap (fun v => v.cells.toList) = (l ++ [Pr.mk ((keyOf (TO[i] ++ t[i].path)).getD []) t[i].value]).flatMap Pr.cells := by
                rw [List.flatMap_append]; rfl
              rw [e] at hB11
              rw [PrB, List.length_append]; exact hB11
            have hv11' : ∀ j, vid vl' = some j → H10.length ≤ j := fun j hj => by
              rcases hv11 j hj with h | h
              · exact h
              · cases h.1
            refine AQ_all TT_ok rfl (by simp only [go_sem] <;> rfl) ?_
            have hl5 := hO6.lt
            have hs11 := hX11.size
            refine ⟨vl', l ++ [⟨(keyOf (TO[i] ++ t[i].path)).getD [], t[i].value⟩], ⟨hP10.x.weakF hX11 (fun j _ hj => Nat.le_of_lt (hP10.d3 j hj)), hP10.r.ext hX11 (fun h => Nat.lt_irrefl _ (hP10.d3 _ h)), Buf.ext hP10.to hX11 (fun j hj h => (hP10.n1 j hj).2 h), Buf.ext hP10.me hX11 (fun j hj h => hP10.n2 j hj h), hB11', hP10.tol, hP10.mel, hP10.short, hP10.d1, hP10.d2, fun j hj => by have := hv11' j hj; omega, fun j hj => ⟨(hP10.n1 j hj).1, fun h => by have := hv11' j h; have := Sl.vid_lt hP10.to.sl hj; omega⟩, fun j hj h => by have := hv11' j h; have := Sl.vid_lt (Buf.sl hP10.me) hj; omega, by simp; omega⟩, by simp; omega, fun hs => ?_, (hN9.keep hX10).ext hX11 (fun h => ?_), by omega, by simp only [go_sem, g0], by simp only [go_sem, g2], by simp only [go_sem, g3], by simp only [go_sem, g4], by simp only [go_sem], by simp only [go_sem, g6], by simp only [go_sem, g7], by simp only [go_sem, g8]⟩
            · rw [hzs hs, if_pos hh]
            · have := Sl.vid_lt hP.pl.sl h; omega
          · refine AC_seq ?_
            refine AC_seqQ TT_ok (by simp only [go_sem, k1, hO9.load, a1'] <;> rfl) ?_
            refine AC_t (by simp only [go_sem] <;> rfl) (by simpa using hk) ?_
            have hni : ¬ Isw t := fun hs => by
              have h1 := (hzok hs).2 hh
              dsimp only at h1
              apply hk
              cases hkk : keyOf (TO[i] ++ t[i].path) with
              | none => exact absurd hkk h1
              | some x => rfl
            refine AC_seq ?_
            refine AC_regL ?_
            refine AQ_take TT_ok 1 rfl (by simp only [go_sem, List.map_nil, bz37] <;> rfl) ?_
            refine AQ_store TT_ok TT_37 rfl (by simp only [go_sem, g2] <;> rfl) (by simp only [go_sem] <;> rfl) (Lay.two (One.slice _ _ _) (One.bool _)) rfl hP9.r (by show 0 + 2 ≤ 2; decide) (.inl (Nat.le_refl _)) (.inl rfl) fun Hz hXz hOz hLz => ?_
            refine AQ_nil ?_
            refine AC_ret ⟨.inl rfl, .agg #[.slice none 0 0, .bool false], ?_, .slice none 0 0, by rw [decide_eq_false hni], by rw [if_neg hni]; exact Buf.nil _ _, fun j hj => (by cases hj)⟩
            show ares TT Hz _ [.cell 2 37] = _
            have hOz' : Ob Hz H.length 37 [.slice none 0 0, .bool false] := hOz
            simp only [ares, List.mapM_cons, List.mapM_nil, ares1, go_sem, g2, hOz'.load, ap37]
            rfl
        · have hh' : t[i].has = false := by simpa using hh
          refine AC_f (by simp only [go_sem] <;> rfl) (hh') ?_
          refine AC_skip ⟨vl, l, hP6, by omega, fun hs => ?_, hO6, hO6.lt, by simp only [go_sem, g0], by simp only [go_sem, g2], by simp only [go_sem, g3], by simp only [go_sem, g4], by simp only [go_sem, g5], by simp only [go_sem, g6], by simp only [go_sem, g7], by simp only [go_sem, g8]⟩
          rw [hzs hs, if_neg hh, List.append_nil]
      -- its children
      have k5 := wrapN i (by omega)
      have hfix : Isw t → Sem t (q0 t) (i * 16 + 0) (i + 1) TO ME l1 := fun hs => ⟨(hM hs).me, (hM hs).to, hz1 hs⟩
      generalize hall : TO[i] ++ t[i].path = all at h16 g8
      refine AC_seqQ TT_ok (by simp only [go_sem] <;> rfl) ?_
      refine AC_block (AC_loop (fun n e' H' => ∃ (c : Nat) (TO2 : List (List UInt8)) (ME2 : List Bool), n = 16 - c ∧ c ≤ 16 ∧ PS H H' vto vme vl1 t TO2 ME2 l1 ∧ (Isw t → Sem t (q0 t) (i * 16 + c) (i + 1) TO2 ME2 l1) ∧ Ob H' H5.length 49 t[i].cells ∧ H5.length < H'.length ∧ get e' 0 = vt ∧ get e' 2 = .pointer (some ⟨H.length, 0, none⟩) ∧ get e' 3 = vto ∧ get e' 4 = vme ∧ get e' 5 = vl1 ∧ get e' 6 = .int .i64 (i : Nat) ∧ get e' 7 = .pointer (some ⟨H5.length, 0, none⟩) ∧ get e' 8 = S all ∧ get e' 10 = .int .i64 (c : Nat)) 16
        ⟨0, TO, ME, rfl, by decide, hP8, hfix, hO8, hlt8, by simp only [go_sem, g0], by simp only [go_sem, g2], by simp only [go_sem, g3], by simp only [go_sem, g4], by simp only [go_sem, g5], by simp only [go_sem, g6], by simp only [go_sem, g7], by simp only [go_sem, g8], by simp only [go_sem] <;> simp⟩ ?_)
      rintro n2 E2 H9 _ ⟨c, TO2, ME2, hn2, hc16, hP9, hM9, hO9, hlt9, g0, g2, g3, g4, g5, g6, g7, g8, g10⟩
      refine AC_seq ?_
      refine AC_seqQ TT_ok (by simp only [go_sem, g10] <;> rfl) ?_
      by_cases hc : c < 16
      · refine AC_t (by simp only [go_sem] <;> rfl) (decide_eq_true (by omega)) ?_
        refine AC_skip ?_
        refine AC_seq (AC_block ?_)
        have kc := wrapN c (by omega)
        refine AC_seqQ TT_ok (by simp only [go_sem, g10, g7, f49p _ 4 4 rfl, kidI _ c hc, hO9.load, apnk _ c hc] <;> rfl) ?_
        by_cases hk0 : t[i].kids[c] = 0
        · refine AC_seq ?_
          refine AC_seqQ TT_ok (by simp only [go_sem] <;> rfl) ?_
          refine AC_t (by simp only [go_sem] <;> rfl) (decide_eq_true hk0) ?_
          refine AC_exit ?_
          refine AC_quiet TT_ok (by simp only [go_sem, g10, kc] <;> rfl) ?_
          exact ⟨16 - (c + 1), by omega, c + 1, TO2, ME2, rfl, by omega, hP9, fun hs => (hM9 hs).zero (by rw [Fk_step hi' hc, hk0]), hO9, hlt9, by simp only [go_sem, g0], by simp only [go_sem, g2], by simp only [go_sem, g3], by simp only [go_sem, g4], by simp only [go_sem, g5], by simp only [go_sem, g6], by simp only [go_sem, g7], by simp only [go_sem, g8], by simp only [go_sem]⟩
        · refine AC_seq ?_
          refine AC_seqQ TT_ok (by simp only [go_sem] <;> rfl) ?_
          refine AC_f (by simp only [go_sem] <;> rfl) (decide_eq_false hk0) ?_
          refine AC_skip ?_
          have hblk : Isw t → ∃ j, i < j ∧ j < t.length ∧ t[i].kids[c] = ((j : Nat) : Int) ∧ (q0 t)[j]? = some (all ++ if t[i].kind = 3 then [UInt8.ofNat c] else []) := fun hs => by
            rcases hs.trie.blk i t[i] TO[i] (List.getElem?_eq_getElem hi') (hsem hs) c hc with h | ⟨j, m, z1, z2, z3, z4, _⟩
            · exact absurd h hk0
            · exact ⟨j, z1, (List.getElem?_eq_some_iff.1 z2).1, by rw [z3]; omega, by rw [z4, hall]⟩
          have hS9 := hS.keep hP9.x
          by_cases b1 : t[i].kids[c] ≤ (i : Int)
          · have d1 : decide (t[i].kids[c] ≤ (i : Int)) = true := decide_eq_true b1
            refine AC_seq ?_
            refine AC_seqQ TT_ok (by simp only [go_sem, g6, d1] <;> rfl) ?_
            refine AC_t (by simp only [go_sem] <;> rfl) (rfl) ?_
            have hni : ¬ Isw t := fun hs => by obtain ⟨j, z1, z2, z3, _⟩ := hblk hs; omega
            refine AC_seq ?_
            refine AC_regL ?_
            refine AQ_take TT_ok 1 rfl (by simp only [go_sem, List.map_nil, bz37] <;> rfl) ?_
            refine AQ_store TT_ok TT_37 rfl (by simp only [go_sem, g2] <;> rfl) (by simp only [go_sem] <;> rfl) (Lay.two (One.slice _ _ _) (One.bool _)) rfl hP9.r (by show 0 + 2 ≤ 2; decide) (.inl (Nat.le_refl _)) (.inl rfl) fun Hz hXz hOz hLz => ?_
            refine AQ_nil ?_
            refine AC_ret ⟨.inl rfl, .agg #[.slice none 0 0, .bool false], ?_, .slice none 0 0, by rw [decide_eq_false hni], by rw [if_neg hni]; exact Buf.nil _ _, fun j hj => (by cases hj)⟩
            show ares TT Hz _ [.cell 2 37] = _
            have hOz' : Ob Hz H.length 37 [.slice none 0 0, .bool false] := hOz
            simp only [ares, List.mapM_cons, List.mapM_nil, ares1, go_sem, g2, hOz'.load, ap37]
            rfl
          have d1 : decide (t[i].kids[c] ≤ (i : Int)) = false := decide_eq_false b1
          by_cases b2 : (t.length : Int) ≤ t[i].kids[c]
          · have d2 : decide ((t.length : Int) ≤ t[i].kids[c]) = true := decide_eq_true b2
            refine AC_seq ?_
            refine AC_seqQ TT_ok (by simp only [go_sem, g6, g0, hS9.alen, d1, d2] <;> rfl) ?_
            refine AC_t (by simp only [go_sem] <;> rfl) (rfl) ?_
            have hni : ¬ Isw t := fun hs => by obtain ⟨j, z1, z2, z3, _⟩ := hblk hs; omega
            refine AC_seq ?_
            refine AC_regL ?_
            refine AQ_take TT_ok 1 rfl (by simp only [go_sem, List.map_nil, bz37] <;> rfl) ?_
            refine AQ_store TT_ok TT_37 rfl (by simp only [go_sem, g2] <;> rfl) (by simp only [go_sem] <;> rfl) (Lay.two (One.slice _ _ _) (One.bool _)) rfl hP9.r (by show 0 + 2 ≤ 2; decide) (.inl (Nat.le_refl _)) (.inl rfl) fun Hz hXz hOz hLz => ?_
            refine AQ_nil ?_
            refine AC_ret ⟨.inl rfl, .agg #[.slice none 0 0, .bool false], ?_, .slice none 0 0, by rw [decide_eq_false hni], by rw [if_neg hni]; exact Buf.nil _ _, fun j hj => (by cases hj)⟩
            show ares TT Hz _ [.cell 2 37] = _
            have hOz' : Ob Hz H.length 37 [.slice none 0 0, .bool false] := hOz
            simp only [ares, List.mapM_cons, List.mapM_nil, ares1, go_sem, g2, hOz'.load, ap37]
            rfl
          have d2 : decide ((t.length : Int) ≤ t[i].kids[c]) = false := decide_eq_false b2
          obtain ⟨K, hK⟩ : ∃ K : Nat, t[i].kids[c] = (K : Int) := ⟨t[i].kids[c].toNat, by omega⟩
          have hKi : i < K := by omega
          have hKt : K < t.length := by omega
          have hKm : K < ME2.length := by rw [hP9.mel]; exact hKt
          have hKT : K < TO2.length := by rw [hP9.tol]; exact hKt
          have meI : BoS H9 vme ME2 := Buf.sl hP9.me
          have m1 := meI.index (k := .i64) hKm
          have m2 := meI.load hKm
          rw [hK] at d1 d2
          by_cases b3 : ME2[K] = true
          · refine AC_seq ?_
            refine AC_seqQ TT_ok (by simp only [go_sem, g6, g0, g4, hS9.alen, hK, d1, d2, m1, m2] <;> rfl) ?_
            refine AC_t (by simp only [go_sem] <;> rfl) (b3) ?_
            have hni : ¬ Isw t := fun hs => by
              have h1 := (hM9 hs).me K _ (by omega) (List.getElem?_eq_getElem hKm)
              rw [b3] at h1
              exact hs.trie.once hi' hc (by omega) hK (of_decide_eq_true h1.symm)
            refine AC_seq ?_
            refine AC_regL ?_
            refine AQ_take TT_ok 1 rfl (by simp only [go_sem, List.map_nil, bz37] <;> rfl) ?_
            refine AQ_store TT_ok TT_37 rfl (by simp only [go_sem, g2] <;> rfl) (by simp only [go_sem] <;> rfl) (Lay.two (One.slice _ _ _) (One.bool _)) rfl hP9.r (by show 0 + 2 ≤ 2; decide) (.inl (Nat.le_refl _)) (.inl rfl) fun Hz hXz hOz hLz => ?_
            refine AQ_nil ?_
            refine AC_ret ⟨.inl rfl, .agg #[.slice none 0 0, .bool false], ?_, .slice none 0 0, by rw [decide_eq_false hni], by rw [if_neg hni]; exact Buf.nil _ _, fun j hj => (by cases hj)⟩
            show ares TT Hz _ [.cell 2 37] = _
            have hOz' : Ob Hz H.length 37 [.slice none 0 0, .bool false] := hOz
            simp only [ares, List.mapM_cons, List.mapM_nil, ares1, go_sem, g2, hOz'.load, ap37]
            rfl
          · have b3' : ME2[K] = false := by simpa using b3
            refine AC_seq ?_
            refine AC_seqQ TT_ok (by simp only [go_sem, g6, g0, g4, hS9.alen, hK, d1, d2, m1, m2] <;> rfl) ?_
            refine AC_f (by simp only [go_sem] <;> rfl) (b3') ?_
            refine AC_skip ?_
            obtain ⟨mi, hOm⟩ := Buf.own hP9.me (by omega)
            refine AC_seq ?_
            refine AC_regL ?_
            refine AQ_take TT_ok 3 rfl (by simp only [go_sem, g4, hK, m1] <;> rfl) ?_
            refine AQ_storeE TT_ok TT_4 rfl (by simp only [go_sem] <;> rfl) (by simp only [go_sem] <;> rfl) (One.bool _).lay rfl hOm (by rw [rows_length oCell_len]; simp; omega) (.inl (Nat.le_of_lt (hP9.d2 _ hOm.vid))) (.inl rfl) fun H10 hX10 hO10 hL10 => ?_
            refine AQ_nil ?_
            have e10 : over (ME2.flatMap oCell) (K * 1 + 0) [.bool true] = (ME2.set K true).flatMap oCell := row1 oCell_len ME2 K true hKm
            rw [e10] at hO10
            have hP10 := hP9.setM (ME' := ME2.set K true) hOm.vid hX10 (.inr ⟨mi, by rw [List.length_set]; exact hO10⟩) (by rw [List.length_set]; exact hP9.mel)
            have hlm : mi < H5.length := Sl.vid_lt (Buf.sl hP.me) hOm.vid
            have hN10 := hO9.ext hX10 (by omega)
            obtain ⟨ti, hOt⟩ := Buf.own hP10.to (by omega)
            have hlt' : ti < H5.length := Sl.vid_lt hP.to.sl hOt.vid
            have u1' := StS.index (k := .i64) hP10.to.sl hKT
            refine AC_seq ?_
            refine AC_regL ?_
            refine AQ_take TT_ok 4 rfl (by simp only [go_sem, g3, g8, hK, u1'] <;> rfl) ?_
            refine AQ_storeE TT_ok TT_9 rfl (by simp only [go_sem] <;> rfl) (by simp only [go_sem] <;> rfl) (One.str _).lay rfl hOt (by rw [rows_length sCell_len]; simp; omega) (.inl (Nat.le_of_lt (hP10.d1 _ hOt.vid))) (.inl rfl) fun H11 hX11 hO11 hL11 => ?_
            refine AQ_nil ?_
            have e11 : over (TO2.flatMap sCell) (K * 1 + 0) [S all] = (TO2.set K all).flatMap sCell := row1 sCell_len TO2 K all hKT
            rw [e11] at hO11
            have hsh : ∀ (x : List UInt8), x.length ≤ 17 → ∀ p ∈ TO2.set K x, p.length ≤ 17 := fun x hx p hp => by
              rcases List.mem_or_eq_of_mem_set hp with h | h
              · exact hP9.short p h
              · rw [h]; exact hx
            have hP11 := hP10.setT (TO' := TO2.set K all) hOt.vid hX11 (.inr ⟨ti, by rw [List.length_set]; exact hO11⟩) (by rw [List.length_set]; exact hP9.tol) (hsh all (by omega))
            have hN11 := hN10.ext hX11 (by omega)
            refine AC_seqQ TT_ok (by simp only [go_sem, g7, f49p _ 0 0 rfl, hN11.load, apn0] <;> rfl) ?_
            have hstep : (Fk t).take (i * 16 + (c + 1)) = (Fk t).take (i * 16 + c) ++ [(K : Int)] := by rw [Fk_step hi' hc, hK]
            by_cases h3 : t[i].kind = 3
            · refine AC_t (by simp only [go_sem] <;> rfl) (decide_eq_true h3) ?_
              have hKT' : K < (TO2.set K all).length := by rw [List.length_set]; exact hKT
              have u3 := StS.index (k := .i64) hP11.to.sl hKT'
              have u4 := StS.load hP11.to.sl hKT'
              rw [List.getElem_set_self] at u4
              refine AC_drawG (fun _ => False) H11 [10] [(0, true), (1, true), (2, true), (3, true), (4, true), (5, true), (6, false), (7, false), (8, true), (9, true), (10, false)] mixed (by kernel_rfl) (fun _ h => h.elim) (fun j o h => ⟨h, id⟩) (Nat.le_refl _) ?_
              refine AG_sel (σ := [(6, false), (7, false), (8, true), (9, true), (10, false)]) TT_ok [0, 1, 2, 3, 4, 5] _ (by simp only [go_sem, g3, g10, hK, u3, u4, byte_at c hc] <;> rfl) ?_
              refine AG_lit TT_ok [U (UInt8.ofNat c)] rfl TT_50 rfl TT_5 rfl (by decide) rfl (by decide) rfl (by simp only [List.map_cons, List.map_nil, go_sem, numbered]) (fun v hv => ?_) fun H12 hX12 hO12 hL12 => ?_
              · rw [List.mem_singleton] at hv; subst hv; exact ⟨_, (One.byte _).lay, rfl⟩
              have hby : ByS H12 (.slice (some ⟨H11.length, 0, none⟩) 1 1) [UInt8.ofNat c] := hO12.sl
              refine AG_one TT_ok 7 (by simp only [go_sem, hby.conv] <;> rfl) ?_
              have ad2 := as_add 9 all [UInt8.ofNat c] (by simp; omega)
              refine AG_sel (σ := [(10, false)]) TT_ok [8, 9] _ (by simp only [go_sem, ad2, hK, u3] <;> rfl) ?_
              have hP12 := hP11.keep hX12
              have hN12 := hN11.keep hX12
              obtain ⟨tj, hOu⟩ := Buf.own hP12.to (by omega)
              have htj : tj = ti := by
                have h1 := hOu.vid
                have h2 := hOt.vid
                rw [h1] at h2
                exact Option.some.inj h2
              refine AG_storeE TT_ok rfl TT_9 rfl (by simp only [go_sem] <;> rfl) (by simp only [go_sem] <;> rfl) (One.str _).lay rfl hOu (by rw [rows_length sCell_len]; simp; omega) (.inl (Nat.le_of_lt (hP12.d1 _ hOu.vid))) rfl fun H13 hX13 hO13 hL13 => ?_
              refine AG_nil ?_
              have e13 : over ((TO2.set K all).flatMap sCell) (K * 1 + 0) [S (all ++ [UInt8.ofNat c])] = (TO2.set K (all ++ [UInt8.ofNat c])).flatMap sCell := by
                have := row1 sCell_len (TO2.set K all) K (all ++ [UInt8.ofNat c]) hKT'
                rw [List.set_set] at this
                exact this
              rw [e13] at hO13
              have hP13 := hP12.setT (TO' := TO2.set K (all ++ [UInt8.ofNat c])) hOu.vid hX13 (.inr ⟨tj, by rw [List.length_set] at hO13 ⊢; exact hO13⟩) (by rw [List.length_set]; exact hP9.tol) (hsh _ (by simp; omega))
              have hN13 := hN12.ext hX13 (by omega)
              refine AC_quiet TT_ok (by simp only [go_sem, g10, kc] <;> rfl) ?_
              refine ⟨16 - (c + 1), by omega, c + 1, _, _, rfl, by omega, hP13, fun hs => (hM9 hs).next (by omega) hstep ?_, hN13, hN13.lt, by simp only [go_sem, g0], by simp only [go_sem, g2], by simp only [go_sem, g3], by simp only [go_sem, g4], by simp only [go_sem, g5], by simp only [go_sem, g6], by simp only [go_sem, g7], by simp only [go_sem, g8], by simp only [go_sem]⟩
              obtain ⟨j, z1, z2, z3, z4⟩ := hblk hs
              have : j = K := by omega
              subst this
              rw [if_pos h3] at z4
              exact z4
            · refine AC_f (by simp only [go_sem] <;> rfl) (decide_eq_false h3) ?_
              refine AC_skip ?_
              refine AC_quiet TT_ok (by simp only [go_sem, g10, kc] <;> rfl) ?_
              refine ⟨16 - (c + 1), by omega, c + 1, _, _, rfl, by omega, hP11, fun hs => (hM9 hs).next (by omega) hstep ?_, hN11, hN11.lt, by simp only [go_sem, g0], by simp only [go_sem, g2], by simp only [go_sem, g3], by simp only [go_sem, g4], by simp only [go_sem, g5], by simp only [go_sem, g6], by simp only [go_sem, g7], by simp only [go_sem, g8], by simp only [go_sem]⟩
              obtain ⟨j, z1, z2, z3, z4⟩ := hblk hs
              have : j = K := by omega
              subst this
              rw [if_neg h3, List.append_nil] at z4
              exact z4
      · refine AC_f (by simp only [go_sem] <;> rfl) (decide_eq_false (by omega)) ?_
        refine AC_exit ?_
        have : c = 16 := by omega
        subst this
        refine AC_quiet TT_ok (by simp only [go_sem, g6, k5] <;> rfl) ?_
        exact ⟨t.length - (i + 1), by omega, i + 1, vl1, TO2, ME2, l1, rfl, by omega, hl1, hP9, fun hs => by have := hM9 hs; rwa [show i * 16 + 16 = (i + 1) * 16 by omega] at this, by simp only [go_sem, g0], by simp only [go_sem, g2], by simp only [go_sem, g3], by simp only [go_sem, g4], by simp only [go_sem, g5], by simp only [go_sem]⟩
    · refine AC_f (by simp only [go_sem] <;> rfl) (ge_dec (by omega)) ?_
      have : i = t.length := by omega
      subst this
      exact AC_exit ⟨vl, TO, ME, l, hP, hM, by simp only [go_sem, g0], by simp only [go_sem, g2], by simp only [go_sem, g5]⟩
  have hS4 := hS.keep hP4.x
  have hll := hP4.ll
  have hl0 : Isw t → l = (walkAll t).2.l := fun hs => by
    have h1 := (hM4 hs).l
    have hT := hs.trie
    rw [List.take_of_length_le (Nat.le_refl _), List.take_of_length_le (by rw [hT.len]; exact Nat.le_refl _), hT.zp] at h1
    exact h1
  refine AC_seq ?_
  refine AC_regL ?_
  refine AQ_take TT_ok 1 rfl (by simp only [go_sem, g5] <;> rfl) ?_
  refine AQ_c rfl (by simp only [go_sem] <;> rfl) fok30 (by simp only [List.map_cons, List.map_nil, List.append_nil, go_sem] <;> rfl) (c30 hP4.pl.sl (by omega)) (fun _ _ h => h.elim) (.inl rfl) fun r H5 hX5 ⟨vbt, vbp, hr, hB, hBp, _, _⟩ => ?_
  subst hr
  refine AQ_var TT_ok TT_32 rfl (by decide) (by simp only [go_sem] <;> rfl) (Lay.three hB.sl.one hBp.sl.one (One.bool _)) rfl (.inl (by have := hP4.x.size; have := hX5.size; omega)) (.inl rfl) fun H6 hX6 hO6 hL6 => ?_
  refine AQ_nil ?_
  have hX56 := hX5.trans hX6
  have hP6 := hP4.keep hX56
  have hS6 := hS4.keep hX56
  have hB6 := Buf.keep hB hX6
  have f0 : ∀ k, afield TT 32 (.pointer (some ⟨k, 0, none⟩)) 0 = some (.pointer (some ⟨k, 0, none⟩)) := fun k => rfl
  have f2 : ∀ k, afield TT 32 (.pointer (some ⟨k, 0, none⟩)) 2 = some (.pointer (some ⟨k, 2, none⟩)) := fun k => rfl
  have p2 : apart TT 4 [vbt, vbp, .bool (decide (May l))] 2 = some (.bool (decide (May l))) := rfl
  by_cases hm : May l
  · have dm : decide (May l) = true := decide_eq_true hm
    rw [if_pos hm] at hB6
    rw [dm] at hO6 p2
    have hbl : (build l).length < 2^62 := by have := build_len l; omega
    refine AC_seq ?_
    refine AC_seq ?_
    refine AC_regL ?_
    refine AQ_take TT_ok 7 rfl (by simp only [go_sem, g0, f0, f2, hO6.load, p2, ap3_0 _ _ _ 24 rfl, Bool.not_true] <;> rfl) ?_
    refine AQ_c rfl (by simp only [go_sem] <;> rfl) fok67 (by simp only [List.map_cons, List.map_nil, List.append_nil, go_sem] <;> rfl) (c67 hB6.sl hS6 hbl) (fun _ _ h => h.elim) (.inl rfl) fun r H7 hX7 ⟨hr, hH⟩ => ?_
    subst hr hH
    refine AQ_all TT_ok rfl (by simp only [go_sem] <;> rfl) ?_
    by_cases he : build l = t
    · refine AC_f (by simp only [go_sem] <;> rfl) (by rw [decide_eq_true he]; rfl) ?_
      refine AC_skip ?_
      have hs : Isw t := isw_iff.2 ⟨l, hm, he.symm⟩
      refine AC_seq ?_
      refine AC_regL ?_
      refine AQ_take TT_ok 2 rfl (by simp only [go_sem, g5, List.map_cons, List.map_nil, b37 hP6.pl.sl.one] <;> rfl) ?_
      refine AQ_store TT_ok TT_37 rfl (by simp only [go_sem, g2] <;> rfl) (by simp only [go_sem] <;> rfl) (Lay.two hP6.pl.sl.one (One.bool _)) rfl hP6.r (by show 0 + 2 ≤ 2; decide) (.inl (Nat.le_refl _)) (.inl rfl) fun H8 hX8 hO8 hL8 => ?_
      refine AQ_nil ?_
      refine AC_ret ⟨.inl rfl, .agg #[vl, .bool true], ?_, vl, by rw [decide_eq_true hs], ?_, fun j hj => Nat.le_of_lt (hP6.d3 j hj)⟩
      · show ares TT H8 _ [.cell 2 37] = _
        have hO8' : Ob H8 H.length 37 [vl, .bool true] := hO8
        simp only [ares, List.mapM_cons, List.mapM_nil, ares1, go_sem, g2, hO8'.load, ap37]
        rfl
      · rw [if_pos hs, ← hl0 hs]
        exact Buf.ext hP6.pl hX8 (fun j hj h => by have := hP6.d3 j hj; omega)
    · refine AC_t (by simp only [go_sem] <;> rfl) (by rw [decide_eq_false he]; rfl) ?_
      have hni : ¬ Isw t := fun hs => he (by rw [hl0 hs]; exact hs.2.2.symm)
      refine AC_seq ?_
      refine AC_regL ?_
      refine AQ_take TT_ok 1 rfl (by simp only [go_sem, List.map_nil, bz37] <;> rfl) ?_
      refine AQ_store TT_ok TT_37 rfl (by simp only [go_sem, g2] <;> rfl) (by simp only [go_sem] <;> rfl) (Lay.two (One.slice _ _ _) (One.bool _)) rfl hP6.r (by show 0 + 2 ≤ 2; decide) (.inl (Nat.le_refl _)) (.inl rfl) fun Hz hXz hOz hLz => ?_
      refine AQ_nil ?_
      refine AC_ret ⟨.inl rfl, .agg #[.slice none 0 0, .bool false], ?_, .slice none 0 0, by rw [decide_eq_false hni], by rw [if_neg hni]; exact Buf.nil _ _, fun j hj => (by cases hj)⟩
      show ares TT Hz _ [.cell 2 37] = _
      have hOz' : Ob Hz H.length 37 [.slice none 0 0, .bool false] := hOz
      simp only [ares, List.mapM_cons, List.mapM_nil, ares1, go_sem, g2, hOz'.load, ap37]
      rfl
  · have dm : decide (May l) = false := decide_eq_false hm
    rw [dm] at hO6 p2
    refine AC_seq ?_
    refine AC_seq ?_
    refine AC_regL ?_
    refine AQ_take TT_ok 7 rfl (by simp only [go_sem, g0, f0, f2, hO6.load, p2, Bool.not_false] <;> rfl) ?_
    refine AQ_pass rfl ?_
    refine AQ_all TT_ok rfl (by simp only [go_sem] <;> rfl) ?_
    refine AC_t (by simp only [go_sem] <;> rfl) (rfl) ?_
    have hni : ¬ Isw t := fun hs => hm (by rw [hl0 hs]; exact hs.2.1)
    refine AC_seq ?_
    refine AC_regL ?_
    refine AQ_take TT_ok 1 rfl (by simp only [go_sem, List.map_nil, bz37] <;> rfl) ?_
    refine AQ_store TT_ok TT_37 rfl (by simp only [go_sem, g2] <;> rfl) (by simp only [go_sem] <;> rfl) (Lay.two (One.slice _ _ _) (One.bool _)) rfl hP6.r (by show 0 + 2 ≤ 2; decide) (.inl (Nat.le_refl _)) (.inl rfl) fun Hz hXz hOz hLz => ?_
    refine AQ_nil ?_
    refine AC_ret ⟨.inl rfl, .agg #[.slice none 0 0, .bool false], ?_, .slice none 0 0, by rw [decide_eq_false hni], by rw [if_neg hni]; exact Buf.nil _ _, fun j hj => (by cases hj)⟩
    show ares TT Hz _ [.cell 2 37] = _
    have hOz' : Ob Hz H.length 37 [.slice none 0 0, .bool false] := hOz
    simp only [ares, List.mapM_cons, List.mapM_nil, ares1, go_sem, g2, hOz'.load, ap37]
    rfl
end Go.Proofs.Ythalogdopkoidaa.Ab
set_option linter.unusedVariables false
set_option linter.unusedSimpArgs false
namespace Go.Proofs.Ythalogdopkoidaa.Ab
open Go Go.RowKit
section
variable {T : Tab} {N : Nat} {ops : List Oper} {H : AHeap}
theorem qat_guard {e : Env} {d : Option Nat} {op : Op} {ty : TypeId} {pos : String} {af : Array Edge} {l : List Oper} {k : Env → Option Env} {j : Nat} {want : Bool} :
    qat T N ops H (⟨d, op, ty, pos, af, some (j, want)⟩ :: l) 0 e k = qguard (gget ops e j) want (qbind (qop T H (aev e) op) fun v => k (eput N e d v)) (k (eput N e d void)) := by
  simp only [qat, List.getElem?_cons_zero, q1, awant, gget]
  cases (ops[j]?).bind (·.dst) with
  | none => rfl
  | some t =>
    dsimp only
    cases get e t <;> try rfl
    · rename_i b
      cases b <;> cases want <;> first | rfl | (cases qop T H (aev e) op <;> rfl)
    · rename_i b
      cases b <;> rfl
attribute [go_sem] qat_guard
variable {P : Program} {ok : Nat → Prop} {late : List Nat} {σ : List (Nat × Bool)} {K : Env → AHeap → Prop} {e : Env} {Hs : AHeap} {Msk : Nat → Prop}
end
/-- 'append(empty, l...)': a copy. -/
theorem PrB.copy {H : AHeap} {v : Value} {l : List Pr} (h : Buf H v 52 (0 + l.length) ([] ++ l.flatMap Pr.cells)) : PrB H v l := by simpa [PrB] using h
theorem NdB.copy {H : AHeap} {v : Value} {l : List Nd} (h : Buf H v 49 (0 + l.length) ([] ++ l.flatMap Nd.cells)) : NdB H v l := by simpa [NdB] using h
set_option maxRecDepth 100000 in
set_option maxHeartbeats 8000000 in
theorem c3 {H : AHeap} {vl vt vu : Value} {l : List Pr} {t u : List Nd} (hl : PrS H vl l) (ht : NdS H vt t) (hu : NdS H vu u) : ACalls Try.prog 3 [vl, vt, vu] H (fun _ => False) fun v H' => v = .bool true := by
  refine ACalls_by 122 TT_ok Try.func3 rfl rfl rfl (by simp) ?_
  refine AC_seqQ TT_ok (by simp only [go_sem] <;> rfl) ?_
  refine AC_cut (fun e' H' => H' = H ∧ szP l ≤ 3000 ∧ szN t ≤ 4000 ∧ szN u ≤ 4000 ∧ get e' 0 = vl ∧ get e' 1 = vt ∧ get e' 2 = vu) ?_ (fun e1 H1 _ ⟨hH, hsP, hsT, hsU, g0, g1, g2⟩ => ?_)
  · refine AC_cut (fun e' H' => H' = H ∧ ∃ b, get e' 27 = .bool b ∧ (b = false → szP l ≤ 3000 ∧ szN t ≤ 4000 ∧ szN u ≤ 4000) ∧ get e' 0 = vl ∧ get e' 1 = vt ∧ get e' 2 = vu) ?_ (fun e1 H1 _ ⟨hH, b, h27, hb, g0, g1, g2⟩ => ?_)
    · refine AC_regL ?_
      refine AQ_take TT_ok 1 rfl (by simp only [go_sem] <;> rfl) ?_
      refine AQ_c rfl (by simp only [go_sem] <;> rfl) fok26 (by simp only [List.map_cons, List.map_nil, List.append_nil, go_sem] <;> rfl) (c26 hl) (fun _ _ h => h.elim) (.inl rfl) fun r H1 hX1 ⟨hH, b, hr, hb⟩ => ?_
      subst hr hH
      cases b
      · refine AQ_take TT_ok 2 rfl (by simp only [go_sem] <;> rfl) ?_
        refine AQ_c rfl (by simp only [go_sem] <;> rfl) fok27 (by simp only [List.map_cons, List.map_nil, List.append_nil, go_sem] <;> rfl) (c27 ht) (fun _ _ h => h.elim) (.inl rfl) fun r H1 hX1 ⟨hH, b, hr, hb2⟩ => ?_
        subst hr hH
        cases b
        · refine AQ_take TT_ok 3 rfl (by simp only [go_sem] <;> rfl) ?_
          refine AQ_c rfl (by simp only [go_sem] <;> rfl) fok27 (by simp only [List.map_cons, List.map_nil, List.append_nil, go_sem] <;> rfl) (c27 hu) (fun _ _ h => h.elim) (.inl rfl) fun r H1 hX1 ⟨hH, b, hr, hb3⟩ => ?_
          subst hr hH
          refine AQ_all TT_ok rfl (by simp only [go_sem] <;> rfl) ?_
          exact ⟨rfl, b, by simp only [go_sem], fun h => ⟨hb rfl, hb2 rfl, hb3 h⟩, by simp only [go_sem], by simp only [go_sem], by simp only [go_sem]⟩
        · refine AQ_take TT_ok 3 rfl (by simp only [go_sem] <;> rfl) ?_
          refine AQ_pass rfl ?_
          refine AQ_all TT_ok rfl (by simp only [go_sem] <;> rfl) ?_
          exact ⟨rfl, true, by simp only [go_sem], fun h => (by cases h), by simp only [go_sem], by simp only [go_sem], by simp only [go_sem]⟩
      · refine AQ_take TT_ok 2 rfl (by simp only [go_sem] <;> rfl) ?_
        refine AQ_pass rfl ?_
        refine AQ_take TT_ok 3 rfl (by simp only [go_sem] <;> rfl) ?_
        refine AQ_pass rfl ?_
        refine AQ_all TT_ok rfl (by simp only [go_sem] <;> rfl) ?_
        exact ⟨rfl, true, by simp only [go_sem], fun h => (by cases h), by simp only [go_sem], by simp only [go_sem], by simp only [go_sem]⟩
    subst hH
    cases b
    · exact AC_f h27 rfl (AC_skip ⟨rfl, (hb rfl).1, (hb rfl).2.1, (hb rfl).2.2, g0, g1, g2⟩)
    · refine AC_t h27 rfl ?_
      refine AC_seq ?_
      refine AC_regL ?_
      refine AQ_c rfl (by simp only [go_sem] <;> rfl) fok28 (by simp only [List.map_cons, List.map_nil, List.append_nil, go_sem] <;> rfl) (c28) (fun _ _ h => h.elim) (.inl rfl) fun r H1 hX1 hr => ?_
      subst hr
      refine AQ_all TT_ok rfl (by simp only [go_sem] <;> rfl) ?_
      exact AC_ret ⟨.inl rfl, _, rfl, by simp only [go_sem]⟩
  subst hH
  have hll := szP_len l
  have htl := szN_len t
  have hul := szN_len u
  have htn : ∀ n ∈ t, n.path.length < 2^30 := fun n hn => by have := szN_path t n hn; omega
  -- the copies
  refine AC_seq ?_
  refine AC_regL ?_
  refine AQ_lit TT_ok [] TT_22 rfl TT_52 rfl (by decide) rfl (by decide) rfl rfl (fun v hv => by cases hv) fun H2 hX2 hO2 hL2 => ?_
  have hl2 := hl.keep hX2
  refine AQ_take TT_ok 1 rfl (by simp only [go_sem, g0] <;> rfl) ?_
  refine AQ_append TT_ok (v := .slice (some ⟨H1.length, 0, none⟩) 0 0) (n := 0) (m := l.length) TT_22 rfl TT_52 (by decide) (by decide) rfl (by simp only [go_sem]) (by simp only [go_sem]) (.inr ⟨_, hO2⟩) hl2 rfl (rows_length Pr.len l) (by simp; omega) (fun j hj => .inl (by have e : H1.length = j := Option.some.inj hj; omega)) (.inl rfl) fun vin H3 hX3 hB3 hv3 => ?_
  have hIn := PrB.copy hB3
  have hX13 : AExt (fun _ => False) H1 H3 := hX2.weakF hX3 (fun j hj h => by have e : H1.length = j := Option.some.inj h; omega)
  refine AQ_lit TT_ok [] TT_24 rfl TT_49 rfl (by decide) rfl (by decide) rfl rfl (fun v hv => by cases hv) fun H4 hX4 hO4 hL4 => ?_
  have ht4 := ht.keep (hX13.trans hX4)
  refine AQ_take TT_ok 1 rfl (by simp only [go_sem, g1] <;> rfl) ?_
  refine AQ_append TT_ok (v := .slice (some ⟨H3.length, 0, none⟩) 0 0) (n := 0) (m := t.length) TT_24 rfl TT_49 (by decide) (by decide) rfl (by simp only [go_sem]) (by simp only [go_sem]) (.inr ⟨_, hO4⟩) ht4 rfl (rows_length Nd.len t) (by simp; omega) (fun j hj => .inl (by have e : H3.length = j := Option.some.inj hj; have := hX13.size; omega)) (.inl rfl) fun vat H5 hX5 hB5 hv5 => ?_
  have hAt := NdB.copy hB5
  have hX35 : AExt (fun _ => False) H3 H5 := hX4.weakF hX5 (fun j hj h => by have e : H3.length = j := Option.some.inj h; omega)
  have hX15 := hX13.trans hX35
  refine AQ_all TT_ok rfl (by simp only [go_sem] <;> rfl) ?_
  refine AC_fixe (fun e' => get e' 0 = vl ∧ get e' 1 = vt ∧ get e' 2 = vu ∧ get e' 7 = vin ∧ get e' 8 = vat) ⟨by simp only [go_sem, g0], by simp only [go_sem, g1], by simp only [go_sem, g2], by simp only [go_sem], by simp only [go_sem]⟩ (fun e2 ⟨g0, g1, g2, g7, g8⟩ => ?_)
  have hL5 := hl.keep hX15
  have hT5 := ht.keep hX15
  have hU5 := hu.keep hX15
  have hIn5 := PrS.keep hIn.sl hX35
  have hAt5 : NdS H5 vat t := hAt.sl
  -- build
  refine AC_seq ?_
  refine AC_regL ?_
  refine AQ_take TT_ok 1 rfl (by simp only [go_sem, g7] <;> rfl) ?_
  refine AQ_c rfl (by simp only [go_sem] <;> rfl) fok29 (by simp only [List.map_cons, List.map_nil, List.append_nil, go_sem] <;> rfl) (c29 hIn5 (by omega)) (fun _ _ h => h.elim) (.inl rfl) fun r H6 hX6 ⟨va, hr, hA6, _⟩ => ?_
  subst hr
  refine AQ_all TT_ok rfl (by simp only [go_sem] <;> rfl) ?_
  refine AC_seq ?_
  refine AC_regL ?_
  refine AQ_take TT_ok 1 rfl (by simp only [go_sem, g0] <;> rfl) ?_
  refine AQ_c rfl (by simp only [go_sem] <;> rfl) fok30 (by simp only [List.map_cons, List.map_nil, List.append_nil, go_sem] <;> rfl) (c30 (hL5.keep hX6) (by omega)) (fun _ _ h => h.elim) (.inl rfl) fun r H7 hX7 ⟨vb, vbp, hr, hB7, hBp7, _, _⟩ => ?_
  subst hr
  refine AQ_var TT_ok TT_32 rfl (by decide) (by simp only [go_sem] <;> rfl) (Lay.three hB7.sl.one hBp7.sl.one (One.bool _)) rfl (.inl (by have := hX15.size; have := hX6.size; have := hX7.size; omega)) (.inl rfl) fun H8 hX8 hO8 hL8 => ?_
  refine AQ_nil ?_
  have hX58 := (hX6.trans hX7).trans hX8
  have hAt8 := hAt5.keep hX58
  refine AC_seq ?_
  refine AC_regL ?_
  refine AQ_take TT_ok 1 rfl (by simp only [go_sem, g8] <;> rfl) ?_
  refine AQ_c rfl (by simp only [go_sem] <;> rfl) fok31 (by simp only [List.map_cons, List.map_nil, List.append_nil, go_sem] <;> rfl) (c31 hAt8 (by omega) htn) (fun _ _ h => h.elim) (.inl rfl) fun r H9 hX9 ⟨vp, hr, hP9, _⟩ => ?_
  subst hr
  refine AQ_all TT_ok rfl (by simp only [go_sem] <;> rfl) ?_
  have hX59 := hX58.trans hX9
  refine AC_seq ?_
  refine AC_regL ?_
  refine AQ_take TT_ok 1 rfl (by simp only [go_sem, g1] <;> rfl) ?_
  refine AQ_c rfl (by simp only [go_sem] <;> rfl) fok32 (by simp only [List.map_cons, List.map_nil, List.append_nil, go_sem] <;> rfl) (c32 (hT5.keep hX59) (by omega) htn) (fun _ _ h => h.elim) (.inl rfl) fun r H10 hX10 ⟨vq, hr, hQ10, _⟩ => ?_
  subst hr
  refine AQ_var TT_ok TT_37 rfl (by decide) (by simp only [go_sem] <;> rfl) (Lay.two hQ10.sl.one (One.bool _)) rfl (.inl (by have := hX15.size; have := hX59.size; have := hX10.size; omega)) (.inl rfl) fun H11 hX11 hO11 hL11 => ?_
  refine AQ_nil ?_
  have hX511 := (hX59.trans hX10).trans hX11
  refine AC_seq ?_
  refine AC_regL ?_
  refine AQ_take TT_ok 1 rfl (by simp only [go_sem, g8] <;> rfl) ?_
  refine AQ_c rfl (by simp only [go_sem] <;> rfl) fok33 (by simp only [List.map_cons, List.map_nil, List.append_nil, go_sem] <;> rfl) (c33 (hAt5.keep hX511) (by omega) htn) (fun _ _ h => h.elim) (.inl rfl) fun r H12 hX12 ⟨vs, hr, hS12, _⟩ => ?_
  subst hr
  refine AQ_all TT_ok rfl (by simp only [go_sem] <;> rfl) ?_
  refine AC_seqQ TT_ok (by simp only [go_sem] <;> rfl) ?_
  refine AC_fixe (fun e' => get e' 0 = vl ∧ get e' 1 = vt ∧ get e' 2 = vu ∧ get e' 7 = vin ∧ get e' 8 = vat ∧ get e' 9 = va ∧ get e' 10 = .bool (decide (May l)) ∧ get e' 11 = .pointer (some ⟨H7.length, 0, none⟩) ∧ get e' 12 = vp ∧ get e' 13 = .bool (decide (Isw t)) ∧ get e' 14 = .pointer (some ⟨H10.length, 0, none⟩) ∧ get e' 15 = vs ∧ get e' 16 = .bool (decide (Isw t)) ∧ get e' 17 = .slice none 0 0) ⟨by simp only [go_sem, g0], by simp only [go_sem, g1], by simp only [go_sem, g2], by simp only [go_sem, g7], by simp only [go_sem, g8], by simp only [go_sem], by simp only [go_sem], by simp only [go_sem], by simp only [go_sem], by simp only [go_sem], by simp only [go_sem], by simp only [go_sem], by simp only [go_sem], by simp only [go_sem]⟩ (fun e3 ⟨g0, g1, g2, g7, g8, g9, g10, g11, g12, g13, g14, g15, g16, g17⟩ => ?_)
  have hX1112 := hX12
  have hO12 := hO11.keep hX12
  have f0 : ∀ k, afield TT 37 (.pointer (some ⟨k, 0, none⟩)) 0 = some (.pointer (some ⟨k, 0, none⟩)) := fun k => rfl
  have f1 : ∀ k, afield TT 37 (.pointer (some ⟨k, 0, none⟩)) 1 = some (.pointer (some ⟨k, 1, none⟩)) := fun k => rfl
  have p1 : apart TT 4 [vq, .bool (decide (Isw t))] 1 = some (.bool (decide (Isw t))) := rfl
  have p0 : apart TT 22 [vq, .bool (decide (Isw t))] 0 = some vq := rfl
  have hQ12 : PrS H12 vq (if Isw t then (walkAll t).2.l else []) := hQ10.sl.keep (hX11.trans hX12)
  -- the reference's paths
  refine AC_cut (fun e' H' => ∃ vw, AExt (fun _ => False) H12 H' ∧ StS H' vw (if Isw t then (walkAll t).2.paths else []) ∧ get e' 17 = vw ∧ get e' 0 = vl ∧ get e' 1 = vt ∧ get e' 2 = vu ∧ get e' 7 = vin ∧ get e' 8 = vat ∧ get e' 9 = va ∧ get e' 10 = .bool (decide (May l)) ∧ get e' 11 = .pointer (some ⟨H7.length, 0, none⟩) ∧ get e' 12 = vp ∧ get e' 13 = .bool (decide (Isw t)) ∧ get e' 14 = .pointer (some ⟨H10.length, 0, none⟩) ∧ get e' 15 = vs ∧ get e' 16 = .bool (decide (Isw t))) ?_ (fun e4 H13 _ ⟨vw, hX13', hW13, g17, g0, g1, g2, g7, g8, g9, g10, g11, g12, g13, g14, g15, g16⟩ => ?_)
  · refine AC_seqQ TT_ok (by simp only [go_sem, g14, f1, hO12.load, p1] <;> rfl) ?_
    by_cases hs : Isw t
    · have hm : May (walkAll t).2.l := hs.2.1
      have hwl : (walkAll t).2.l.length < 2^20 := by have := walkAll_ok t; have h1 := this.l; have h2 := this.n; omega
      rw [if_pos hs] at hQ12
      refine AC_t (by simp only [go_sem] <;> rfl) (decide_eq_true hs) ?_
      refine AC_regL ?_
      refine AQ_take TT_ok 2 rfl (by simp only [go_sem, g14, f0, hO12.load, p0] <;> rfl) ?_
      refine AQ_c rfl (by simp only [go_sem] <;> rfl) fok30 (by simp only [List.map_cons, List.map_nil, List.append_nil, go_sem] <;> rfl) (c30 hQ12 hwl) (fun _ _ h => h.elim) (.inl rfl) fun r H13 hX13 ⟨vx, vxp, hr, _, hXp, _, _⟩ => ?_
      subst hr
      have hp : apick TT 32 (.agg #[vx, vxp, .bool (decide (May (walkAll t).2.l))]) 1 = some vxp := rfl
      refine AQ_all TT_ok rfl (by simp only [go_sem, hp] <;> rfl) ?_
      refine ⟨vxp, hX13, ?_, by simp only [go_sem], by simp only [go_sem, g0], by simp only [go_sem, g1], by simp only [go_sem, g2], by simp only [go_sem, g7], by simp only [go_sem, g8], by simp only [go_sem, g9], by simp only [go_sem, g10], by simp only [go_sem, g11], by simp only [go_sem, g12], by simp only [go_sem, g13], by simp only [go_sem, g14], by simp only [go_sem, g15], by simp only [go_sem, g16]⟩
      rw [if_pos hm] at hXp
      rw [if_pos hs]
      have h2 := walkAll_build hm
      rw [← hs.2.2] at h2
      have h3 : (walkAll t).2.paths = paths (walkAll t).2.l := by
        conv => lhs; rw [h2]
      rw [h3]
      exact hXp.sl
    · refine AC_f (by simp only [go_sem] <;> rfl) (decide_eq_false hs) ?_
      refine AC_skip ⟨.slice none 0 0, AExt.refl _ _, ?_, by simp only [go_sem, g17], by simp only [go_sem, g0], by simp only [go_sem, g1], by simp only [go_sem, g2], by simp only [go_sem, g7], by simp only [go_sem, g8], by simp only [go_sem, g9], by simp only [go_sem, g10], by simp only [go_sem, g11], by simp only [go_sem, g12], by simp only [go_sem, g13], by simp only [go_sem, g14], by simp only [go_sem, g15], by simp only [go_sem, g16]⟩
      rw [if_neg hs]
      exact .inl ⟨rfl, rfl, rfl⟩
  have hY8 : AExt (fun _ => False) H8 H13 := (((hX9.trans hX10).trans hX11).trans hX12).trans hX13'
  have hZ : AExt (fun _ => False) H5 H13 := (hX511.trans hX12).trans hX13'
  have hA13 : NdS H13 va (if May l then build l else []) := hA6.sl.keep ((hX7.trans hX8).trans hY8)
  have hB13 : NdS H13 vb (if May l then build l else []) := hB7.sl.keep (hX8.trans hY8)
  have hO32 := hO8.keep hY8
  have hO37 := hO12.keep hX13'
  have hP13 : PrS H13 vp (if Isw t then (walkAll t).2.l else []) := hP9.sl.keep (((hX10.trans hX11).trans hX12).trans hX13')
  have hQ13 := hQ12.keep hX13'
  have hS13 : StS H13 vs (if Isw t then (walkAll t).2.paths else []) := hS12.sl.keep hX13'
  have hT13 := hT5.keep hZ
  have hU13 := hU5.keep hZ
  have hL13 := hL5.keep hZ
  have hIn13 := hIn5.keep hZ
  have hAt13 := hAt5.keep hZ
  have f32 : ∀ k, afield TT 32 (.pointer (some ⟨k, 0, none⟩)) 0 = some (.pointer (some ⟨k, 0, none⟩)) := fun k => rfl
  have f322 : ∀ k, afield TT 32 (.pointer (some ⟨k, 0, none⟩)) 2 = some (.pointer (some ⟨k, 2, none⟩)) := fun k => rfl
  have p2 : apart TT 4 [vb, vbp, .bool (decide (May l))] 2 = some (.bool (decide (May l))) := rfl
  have hlA : (if May l then build l else []).length < 2^62 := by
    split
    · have := build_len l; omega
    · simp
  have hok := walkAll_ok t
  have hlW : (if Isw t then (walkAll t).2.l else []).length < 2^62 := by
    split
    · have h1 := hok.l; have h2 := hok.n; omega
    · simp
  have hlP : (if Isw t then (walkAll t).2.paths else []).length < 2^62 := by
    split
    · rename_i hs
      have h1 := hs.trie.len
      unfold q0 at h1
      omega
    · simp
  refine AC_seq ?_
  refine AC_drawG (fun _ => False) H13 [] [(0, true), (1, true), (2, true), (3, false), (4, true), (5, true), (6, true), (7, true), (8, true), (9, true), (10, true), (11, true), (12, true), (13, true), (14, false), (15, true), (16, true), (17, true), (18, true), (19, true), (20, true), (21, true), (22, true), (23, true), (24, true), (25, false), (26, true), (27, true), (28, true), (29, true), (30, true), (31, true), (32, true), (33, true), (34, true), (36, true), (37, true), (35, false), (38, true), (39, true), (40, true), (41, true), (42, true), (44, true), (45, true), (43, false), (46, false), (47, true), (48, true), (49, true), (50, true), (51, true), (52, false), (53, true), (54, true), (55, true), (56, true), (57, false), (58, true), (59, true), (60, false), (61, true), (62, true)] mixed (by kernel_rfl) (fun _ h => h.elim) (fun j o h => ⟨h, id⟩) (Nat.le_refl _) ?_
  refine AG_sel (σ := [(3, false), (4, true), (5, true), (6, true), (7, true), (8, true), (9, true), (10, true), (11, true), (12, true), (13, true), (14, false), (15, true), (16, true), (17, true), (18, true), (19, true), (20, true), (21, true), (22, true), (23, true), (24, true), (25, false), (26, true), (27, true), (28, true), (29, true), (30, true), (31, true), (32, true), (33, true), (34, true), (36, true), (37, true), (35, false), (38, true), (39, true), (40, true), (41, true), (42, true), (44, true), (45, true), (43, false), (46, false), (47, true), (48, true), (49, true), (50, true), (51, true), (52, false), (53, true), (54, true), (55, true), (56, true), (57, false), (58, true), (59, true), (60, false), (61, true), (62, true)]) TT_ok [0, 1, 2] _ (by simp only [go_sem, g0, g1, g2, g7, g8, g9, g10, g11, g12, g13, g14, g15, g16, g17, f0, f1, f32, f322, hO32.load, hO37.load, p0, p1, p2, ap3_0 _ _ _ 24 rfl, eq_self, decide_true, beq_self_eq_true] <;> rfl) ?_
  refine AG_c rfl rfl (by simp only [go_sem] <;> rfl) fok34 (by simp only [List.map_cons, List.map_nil, List.append_nil, go_sem] <;> rfl) (c34 hA13 hB13 hlA) fun r H14 hX14 ⟨hr, hH⟩ => ?_
  subst hr hH
  refine AG_sel (σ := [(14, false), (15, true), (16, true), (17, true), (18, true), (19, true), (20, true), (21, true), (22, true), (23, true), (24, true), (25, false), (26, true), (27, true), (28, true), (29, true), (30, true), (31, true), (32, true), (33, true), (34, true), (36, true), (37, true), (35, false), (38, true), (39, true), (40, true), (41, true), (42, true), (44, true), (45, true), (43, false), (46, false), (47, true), (48, true), (49, true), (50, true), (51, true), (52, false), (53, true), (54, true), (55, true), (56, true), (57, false), (58, true), (59, true), (60, false), (61, true), (62, true)]) TT_ok [4, 5, 6, 7, 8, 9, 10, 11, 12, 13] _ (by simp only [go_sem, g0, g1, g2, g7, g8, g9, g10, g11, g12, g13, g14, g15, g16, g17, f0, f1, f32, f322, hO32.load, hO37.load, p0, p1, p2, ap3_0 _ _ _ 24 rfl, eq_self, decide_true, beq_self_eq_true] <;> rfl) ?_
  refine AG_c rfl rfl (by simp only [go_sem] <;> rfl) fok35 (by simp only [List.map_cons, List.map_nil, List.append_nil, go_sem] <;> rfl) (c35 hP13 hQ13 hlW) fun r H14 hX14 ⟨hr, hH⟩ => ?_
  subst hr hH
  refine AG_sel (σ := [(25, false), (26, true), (27, true), (28, true), (29, true), (30, true), (31, true), (32, true), (33, true), (34, true), (36, true), (37, true), (35, false), (38, true), (39, true), (40, true), (41, true), (42, true), (44, true), (45, true), (43, false), (46, false), (47, true), (48, true), (49, true), (50, true), (51, true), (52, false), (53, true), (54, true), (55, true), (56, true), (57, false), (58, true), (59, true), (60, false), (61, true), (62, true)]) TT_ok [15, 16, 17, 18, 19, 20, 21, 22, 23, 24] _ (by simp only [go_sem, g0, g1, g2, g7, g8, g9, g10, g11, g12, g13, g14, g15, g16, g17, f0, f1, f32, f322, hO32.load, hO37.load, p0, p1, p2, ap3_0 _ _ _ 24 rfl, eq_self, decide_true, beq_self_eq_true] <;> rfl) ?_
  refine AG_c rfl rfl (by simp only [go_sem] <;> rfl) fok36 (by simp only [List.map_cons, List.map_nil, List.append_nil, go_sem] <;> rfl) (c36 hS13 hW13 hlP) fun r H14 hX14 ⟨hr, hH⟩ => ?_
  subst hr hH
  refine AG_sel (σ := [(35, false), (38, true), (39, true), (40, true), (41, true), (42, true), (44, true), (45, true), (43, false), (46, false), (47, true), (48, true), (49, true), (50, true), (51, true), (52, false), (53, true), (54, true), (55, true), (56, true), (57, false), (58, true), (59, true), (60, false), (61, true), (62, true)]) TT_ok [26, 27, 28, 29, 30, 31, 32, 33, 34, 36, 37] _ (by simp only [go_sem, g0, g1, g2, g7, g8, g9, g10, g11, g12, g13, g14, g15, g16, g17, f0, f1, f32, f322, hO32.load, hO37.load, p0, p1, p2, ap3_0 _ _ _ 24 rfl, eq_self, decide_true, beq_self_eq_true] <;> rfl) ?_
  refine AG_c rfl rfl (by simp only [go_sem] <;> rfl) fok37 (by simp only [List.map_cons, List.map_nil, List.append_nil, go_sem] <;> rfl) (c37 hAt13 (by omega) htn) fun r H14 hX14 hr => ?_
  subst hr
  refine AG_sel (σ := [(43, false), (46, false), (47, true), (48, true), (49, true), (50, true), (51, true), (52, false), (53, true), (54, true), (55, true), (56, true), (57, false), (58, true), (59, true), (60, false), (61, true), (62, true)]) TT_ok [38, 39, 40, 41, 42, 44, 45] _ (by simp only [go_sem, g0, g1, g2, g7, g8, g9, g10, g11, g12, g13, g14, g15, g16, g17, f0, f1, f32, f322, hO32.load, hO37.load, p0, p1, p2, ap3_0 _ _ _ 24 rfl, eq_self, decide_true, beq_self_eq_true] <;> rfl) ?_
  refine AG_c rfl rfl (by simp only [go_sem] <;> rfl) fok38 (by simp only [List.map_cons, List.map_nil, List.append_nil, go_sem] <;> rfl) (c38 (hAt13.keep hX14) (hU13.keep hX14) (by omega)) fun r H15 hX15 ⟨hr, hH⟩ => ?_
  subst hr hH
  refine AG_c rfl rfl (by simp only [go_sem] <;> rfl) fok34 (by simp only [List.map_cons, List.map_nil, List.append_nil, go_sem] <;> rfl) (c34 (hT13.keep hX14) (hU13.keep hX14) (by omega)) fun r H15 hX15 ⟨hr, hH⟩ => ?_
  subst hr hH
  refine AG_sel (σ := [(52, false), (53, true), (54, true), (55, true), (56, true), (57, false), (58, true), (59, true), (60, false), (61, true), (62, true)]) TT_ok [47, 48, 49, 50, 51] _ (by simp only [go_sem, g0, g1, g2, g7, g8, g9, g10, g11, g12, g13, g14, g15, g16, g17, f0, f1, f32, f322, hO32.load, hO37.load, p0, p1, p2, ap3_0 _ _ _ 24 rfl, eq_self, decide_true, beq_self_eq_true] <;> rfl) ?_
  refine AG_c rfl rfl (by simp only [go_sem] <;> rfl) fok35 (by simp only [List.map_cons, List.map_nil, List.append_nil, go_sem] <;> rfl) (c35 (hIn13.keep hX14) (hL13.keep hX14) (by omega)) fun r H15 hX15 ⟨hr, hH⟩ => ?_
  subst hr hH
  refine AG_sel (σ := [(57, false), (58, true), (59, true), (60, false), (61, true), (62, true)]) TT_ok [53, 54, 55, 56] _ (by simp only [go_sem, g0, g1, g2, g7, g8, g9, g10, g11, g12, g13, g14, g15, g16, g17, f0, f1, f32, f322, hO32.load, hO37.load, p0, p1, p2, ap3_0 _ _ _ 24 rfl, eq_self, decide_true, beq_self_eq_true] <;> rfl) ?_
  refine AG_c rfl rfl (by simp only [go_sem] <;> rfl) fok34 (by simp only [List.map_cons, List.map_nil, List.append_nil, go_sem] <;> rfl) (c34 (hAt13.keep hX14) (hT13.keep hX14) (by omega)) fun r H15 hX15 ⟨hr, hH⟩ => ?_
  subst hr hH
  refine AG_sel (σ := [(60, false), (61, true), (62, true)]) TT_ok [58, 59] _ (by simp only [go_sem, g0, g1, g2, g7, g8, g9, g10, g11, g12, g13, g14, g15, g16, g17, f0, f1, f32, f322, hO32.load, hO37.load, p0, p1, p2, ap3_0 _ _ _ 24 rfl, eq_self, decide_true, beq_self_eq_true] <;> rfl) ?_
  refine AG_c rfl rfl (by simp only [go_sem] <;> rfl) fok28 (by simp only [List.map_cons, List.map_nil, List.append_nil, go_sem] <;> rfl) (c28) fun r H15 hX15 hr => ?_
  subst hr
  refine AG_sel (σ := []) TT_ok [61, 62] _ (by simp only [go_sem, g0, g1, g2, g7, g8, g9, g10, g11, g12, g13, g14, g15, g16, g17, f0, f1, f32, f322, hO32.load, hO37.load, p0, p1, p2, ap3_0 _ _ _ 24 rfl, eq_self, decide_true, beq_self_eq_true] <;> rfl) ?_
  refine AG_nil ?_
  exact AC_ret ⟨.inl rfl, _, rfl, by simp only [go_sem]⟩
end Go.Proofs.Ythalogdopkoidaa.Ab
set_option linter.unusedVariables false
set_option linter.unusedSimpArgs false
namespace Go.Proofs.Ythalogdopkoidaa.Ab
open Go Go.RowKit
def nzc (l : List Int) : Nat := l.countP fun k => decide (k ≠ 0)
theorem nzc_rep (n : Nat) : nzc (List.replicate n 0) = 0 := by
  unfold nzc
  rw [List.countP_eq_zero]
  intro a ha
  rw [(List.mem_replicate.1 ha).2]; simp
theorem nzc_cons (a : Int) (l : List Int) : nzc (a :: l) = nzc l + if a = 0 then 0 else 1 := by
  unfold nzc
  rw [List.countP_cons]
  by_cases h : a = 0 <;> simp [h]
def Nok (n : Nd) : Prop := (n.kind = 1 ∧ n.has = true ∧ nzc n.kids.toList = 0) ∨ (n.kind = 2 ∧ n.has = false ∧ n.path ≠ [] ∧ nzc n.kids.toList = 1) ∨ (n.kind = 3 ∧ n.path = [] ∧ 2 ≤ nzc n.kids.toList + if n.has = true then 1 else 0)
theorem kl_nz (b : Sx → Nat → List Nd) : ∀ (n i : Nat) (gs : List (UInt8 × Sx)) (k : Nat), i + n = 16 → Hd i gs → 0 < k → nzc (kl b i n gs k) = gs.length
  | 0, i, gs, k, h1, h2, h3 => by
    cases gs with
    | nil => rfl
    | cons p gs => have := h2.2 p (by simp); omega
  | n + 1, i, [], k, h1, h2, h3 => by rw [kl_nil, nzc_rep]; rfl
  | n + 1, i, (c, g) :: gs, k, h1, h2, h3 => by
    rw [kl]
    by_cases hc : c.toNat = i
    · have ht := h2.tail
      rw [hc] at ht
      rw [if_pos hc, nzc_cons, kl_nz b n (i + 1) gs _ (by omega) ht (by omega), if_neg (by omega)]
      rfl
    · rw [if_neg hc, nzc_cons, kl_nz b n (i + 1) ((c, g) :: gs) k (by omega) (h2.skip hc) h3]
      rfl
theorem groups_two {x y : List UInt8 × List UInt8} {r : Sx} (hne : ∀ z ∈ x :: y :: r, z.1 ≠ []) (hc : com x.1 (lst y r).1 = 0) : 2 ≤ (groups (x :: y :: r)).length := by
  have hf := groups_flat _ hne
  match hg : groups (x :: y :: r) with
  | [] => rw [hg] at hf; cases hf
  | [(c, g)] =>
    rw [hg, flat_cons] at hf
    have e : gfl [] = [] := rfl
    rw [e, List.append_nil] at hf
    have h1 : x ∈ g.map (pc c) := by rw [hf]; simp
    have h2 : lst y r ∈ g.map (pc c) := by rw [hf]; exact List.mem_cons_of_mem _ (lst_mem y r)
    obtain ⟨x', _, rfl⟩ := List.mem_map.1 h1
    obtain ⟨z', _, hz⟩ := List.mem_map.1 h2
    rw [← hz] at hc
    simp [pc, com] at hc
  | p :: q :: gs => simp
theorem bld_nok : ∀ (f : Nat) (s : Sx) (k : Nat), Bok s f → ∀ n ∈ bld f s k, Nok n
  | 0, s, k, h, n, hn => by cases hn
  | f + 1, [], k, h, n, hn => by cases hn
  | f + 1, [x], k, h, n, hn => by
    rw [bld_one, List.mem_singleton] at hn
    subst hn
    exact .inl ⟨rfl, rfl, by rw [zk_list, nzc_rep]⟩
  | f + 1, x :: y :: r, k, h, n, hn => by
    by_cases hc : 0 < com x.1 (lst y r).1
    · rw [bld_ext _ _ _ _ _ hc] at hn
      rcases List.mem_cons.1 hn with rfl | hn
      · refine .inr (.inl ⟨rfl, rfl, fun e => ?_, ?_⟩)
        · have := congrArg List.length e
          have h2 := com_left x.1 (lst y r).1
          simp at this
          rcases this with h3 | h3
          · omega
          · rw [h3] at hc; simp [com] at hc
        · dsimp only
          rw [zk_list0, nzc_cons, nzc_rep, if_neg (by omega)]
      · exact bld_nok f _ _ (h.ext_ hc) n hn
    · have hs := h.sub
      obtain ⟨hg, hH, hgn⟩ := hs.1.grp hs.2
      rw [bld_brn _ _ _ _ _ hc] at hn
      rcases List.mem_cons.1 hn with rfl | hn
      · refine .inr (.inr ⟨rfl, rfl, ?_⟩)
        dsimp only
        rw [kl_brn _ _ hH, kl_nz _ 16 0 _ _ rfl hH (by omega)]
        by_cases hx : x.1 = []
        · simp only [if_pos hx] at hgn ⊢
          have := List.length_pos_iff.2 hgn
          rw [if_pos (by simp [hx])]
          omega
        · simp only [if_neg hx] at hs ⊢
          have := groups_two hs.2 (by omega)
          rw [if_neg (by simp [hx])]
          omega
      · obtain ⟨p, hp, k', hk⟩ := brn_mem _ _ _ n hn
        exact bld_nok f _ _ (hg p hp) n hk
theorem lt_app (p : List UInt8) {w : List UInt8} (h : w ≠ []) : p < p ++ w := by
  conv => lhs; rw [← List.append_nil p]
  rw [lt_pre]
  cases w with
  | nil => exact absurd rfl h
  | cons a w => exact nil_lt_cons a w
theorem lt_prefix {p w q : List UInt8} (hw : w ≠ []) (h : p ++ w <+: q) : p < q := by
  obtain ⟨r, rfl⟩ := h
  rw [List.append_assoc]
  exact lt_app p (by simp [hw])
theorem pbrn_mem {b : Sx → List UInt8 → List (List UInt8)} {pre : List UInt8} : ∀ (gs : List (UInt8 × Sx)) (p : List UInt8), p ∈ pbrn b pre gs → ∃ g ∈ gs, p ∈ b g.2 (pre ++ [g.1])
  | [], p, h => by cases h
  | (c, g) :: gs, p, h => by
    rw [pbrn_cons] at h
    rcases List.mem_append.1 h with h | h
    · exact ⟨(c, g), by simp, h⟩
    · obtain ⟨x, hx, hp⟩ := pbrn_mem gs p h
      exact ⟨x, by simp [hx], hp⟩
theorem pth_pre : ∀ (f : Nat) (s : Sx) (pre p : List UInt8), p ∈ pth f s pre → pre <+: p
  | 0, s, pre, p, h => by cases h
  | f + 1, [], pre, p, h => by cases h
  | f + 1, [x], pre, p, h => by
    rw [pth_one, List.mem_singleton] at h
    subst h; exact List.prefix_rfl
  | f + 1, x :: y :: r, pre, p, h => by
    by_cases hc : 0 < com x.1 (lst y r).1
    · rw [pth_ext _ _ _ _ _ hc] at h
      rcases List.mem_cons.1 h with rfl | h
      · exact List.prefix_rfl
      · exact (List.prefix_append _ _).trans (pth_pre f _ _ p h)
    · rw [pth_brn _ _ _ _ _ hc] at h
      rcases List.mem_cons.1 h with rfl | h
      · exact List.prefix_rfl
      · obtain ⟨g, _, hp⟩ := pbrn_mem _ p h
        exact (List.prefix_append _ _).trans (pth_pre f _ _ p hp)
theorem lt_heads {pre p q : List UInt8} {c d : UInt8} (h : c < d) (hp : pre ++ [c] <+: p) (hq : pre ++ [d] <+: q) : p < q := by
  obtain ⟨a, rfl⟩ := hp
  obtain ⟨b, rfl⟩ := hq
  rw [List.append_assoc, List.append_assoc, lt_pre]
  exact cons_lt.2 (.inl h)
theorem pbrn_ris {f : Nat} (ih : ∀ (s : Sx) (pre : List UInt8), Bok s f → (pth f s pre).Pairwise (· < ·)) (pre : List UInt8) : ∀ (gs : List (UInt8 × Sx)), (gs.Pairwise fun a b => a.1 < b.1) → (∀ p ∈ gs, Bok p.2 f) → (pbrn (pth f) pre gs).Pairwise (· < ·)
  | [], _, _ => List.Pairwise.nil
  | (c, g) :: gs, h, hb => by
    have h1 := List.pairwise_cons.1 h
    rw [pbrn_cons, List.pairwise_append]
    refine ⟨ih g _ (hb (c, g) (by simp)), pbrn_ris ih pre gs h1.2 (fun p hp => hb p (by simp [hp])), fun a ha b hb' => ?_⟩
    obtain ⟨q, hq, hbq⟩ := pbrn_mem gs b hb'
    exact lt_heads (h1.1 q hq) (pth_pre f _ _ a ha) (pth_pre f _ _ b hbq)
theorem pth_ris : ∀ (f : Nat) (s : Sx) (pre : List UInt8), Bok s f → (pth f s pre).Pairwise (· < ·)
  | 0, s, pre, h => List.Pairwise.nil
  | f + 1, [], pre, h => absurd rfl h.ne
  | f + 1, [x], pre, h => by rw [pth_one]; simp
  | f + 1, x :: y :: r, pre, h => by
    by_cases hc : 0 < com x.1 (lst y r).1
    · rw [pth_ext _ _ _ _ _ hc, List.pairwise_cons]
      refine ⟨fun a ha => lt_prefix (w := x.1.take (com x.1 (lst y r).1)) (fun e => ?_) (pth_pre f _ _ a ha), pth_ris f _ _ (h.ext_ hc)⟩
      have := congrArg List.length e
      have h2 := com_left x.1 (lst y r).1
      simp at this
      rcases this with h3 | h3
      · omega
      · rw [h3] at hc; simp [com] at hc
    · have hs := h.sub
      obtain ⟨hg, hH, _⟩ := hs.1.grp hs.2
      rw [pth_brn _ _ _ _ _ hc, List.pairwise_cons]
      refine ⟨fun a ha => ?_, pbrn_ris (pth_ris f) pre _ hH.1 hg⟩
      obtain ⟨q, _, hq⟩ := pbrn_mem _ a ha
      exact lt_prefix (by simp) (pth_pre f _ _ a hq)
theorem glen_flat : ∀ gs : List (UInt8 × Sx), (gfl gs).length = glen gs
  | [] => rfl
  | (c, g) :: gs => by
    rw [flat_cons, List.length_append, List.length_map, glen_flat gs]
    simp [glen]
theorem brn_bound {f : Nat} (ih : ∀ (s : Sx) (k : Nat), Bok s f → (bld f s k).length + 2 ≤ 3 * s.length) : ∀ (gs : List (UInt8 × Sx)) (k : Nat) (kids : Vector Int 16), (∀ p ∈ gs, Bok p.2 f) → (brn (bld f) gs k kids).1.length + 2 * gs.length ≤ 3 * glen gs
  | [], k, kids, h => by simp [brn]
  | (c, g) :: gs, k, kids, h => by
    rw [brn_cons]
    have h1 := ih g k (h (c, g) (by simp))
    have h2 := brn_bound ih gs (k + (bld f g k).length) (setk kids c k) (fun p hp => h p (by simp [hp]))
    simp only [glen, List.map_cons, List.sum_cons, List.length_append, List.length_cons] at h1 h2 ⊢
    omega
theorem bld_bound : ∀ (f : Nat) (s : Sx) (k : Nat), Bok s f → (bld f s k).length + 2 ≤ 3 * s.length
  | 0, s, k, h => by have := h.pos; omega
  | f + 1, [], k, h => absurd rfl h.ne
  | f + 1, [x], k, h => by simp [bld_one]
  | f + 1, x :: y :: r, k, h => by
    have key : ∀ (x y : List UInt8 × List UInt8) (r : Sx) (f k : Nat), (∀ (s : Sx) (k : Nat), Bok s f → (bld f s k).length + 2 ≤ 3 * s.length) → Bok (x :: y :: r) (f + 1) → com x.1 (lst y r).1 = 0 → (bld (f + 1) (x :: y :: r) k).length + 3 ≤ 3 * (x :: y :: r).length := by
      intro x y r f k ih h hc
      have hs := h.sub
      obtain ⟨hg, hH, hgn⟩ := hs.1.grp hs.2
      rw [bld_brn _ _ _ _ _ (by omega), List.length_cons]
      have h1 := brn_bound ih _ (k + 1) zk hg
      rw [← glen_flat, groups_flat _ hs.2] at h1
      by_cases hx : x.1 = []
      · simp only [if_pos hx] at h1 hgn ⊢
        have := List.length_pos_iff.2 hgn
        simp only [List.length_cons] at h1 ⊢
        omega
      · simp only [if_neg hx] at h1 hs ⊢
        have := groups_two hs.2 hc
        simp only [List.length_cons] at h1 ⊢
        omega
    by_cases hc : 0 < com x.1 (lst y r).1
    · have hb := h.ext_ hc
      rw [bld_ext _ _ _ _ _ hc, List.length_cons]
      obtain ⟨f, rfl⟩ : ∃ g, f = g + 1 := ⟨f - 1, by have := hb.pos; omega⟩
      have hcd := com_drop x.1 (lst y r).1
      have h2 := key (cut (com x.1 (lst y r).1) x) (cut (com x.1 (lst y r).1) y) (r.map (cut (com x.1 (lst y r).1))) f (k + 1) (fun s k hb' => by
        have hb2 : Bok s (f + 1) := ⟨hb'.ne, hb'.ris, fun x hx => Nat.lt_succ_of_lt (hb'.fu x hx), hb'.sm⟩
        have := bld_bound (f + 1) s k hb2
        rwa [bld_fuel f (f + 1) s k hb' (by omega)] at this) (by rw [List.map_cons, List.map_cons] at hb; exact hb) (by rw [lst_cut]; exact hcd)
      rw [List.map_cons, List.map_cons]
      simp only [List.length_cons, List.length_map] at h2 ⊢
      omega
    · have := key x y r f k (bld_bound f) h (by omega)
      omega
structure Shp (l : List Pr) (t : List Nd) (q : List (List UInt8)) : Prop where
  nok : ∀ n ∈ t, Nok n
  ris : q.Pairwise (· < ·)
  has : t.countP (fun n => n.has) = l.length
  bound : (t.length : Int) ≤ max 0 (3 * (l.length : Int) - 1)
theorem zp_count : ∀ (T : List Nd) (Q : List (List UInt8)), Q.length = T.length → (zp T Q).length = T.countP (fun n => n.has)
  | [], Q, h => by simp [zp]
  | n :: T, [], h => by cases h
  | n :: T, p :: Q, h => by
    rw [zp_cons, List.length_append, zp_count T Q (by simpa using h), List.countP_cons]
    by_cases hh : n.has = true
    · simp [hh]; omega
    · simp [hh]
theorem Shp.of {l : List Pr} (h : May l) : Shp l (build l) (paths l) := by
  have hT := Trie.of h
  have hc := zp_count (build l) (paths l) hT.len
  rw [hT.zp] at hc
  by_cases hn : l = []
  · subst hn
    exact ⟨fun n hn => (by simp [build] at hn), by simp [paths], hc.symm, by simp [build]; omega⟩
  · have hB := Bok.all h hn
    have hb := bld_bound 17 (sx l) 0 hB
    have hsl : (sx l).length = l.length := by simp [sx]
    refine ⟨?_, ?_, hc.symm, ?_⟩
    · rw [build, if_neg hn]; exact bld_nok _ _ _ hB
    · rw [paths, if_neg hn]; exact pth_ris _ _ _ hB
    · rw [build, if_neg hn]
      rw [hsl] at hb
      omega
end Go.Proofs.Ythalogdopkoidaa.Ab
set_option linter.unusedVariables false
set_option linter.unusedSimpArgs false
namespace Go.Proofs.Ythalogdopkoidaa.Ab
open Go Go.RowKit Go.Proofs.Ythalogdopkoidaa.Dr
def rlit : List UInt8 := [48, 49, 50, 51, 52, 53, 54, 55, 56, 57, 97, 98, 99, 100, 101, 102, 103]
end Go.Proofs.Ythalogdopkoidaa.Ab
