/- Plain laws on the nodes of a trie of pairs: children, paths, what is met. No statement of the seat's in it. -/
import Derived.Test.YthalogdopkoidaaD4
set_option linter.unusedVariables false
set_option linter.unusedSimpArgs false
namespace Go.Proofs.Ythalogdopkoidaa.Ab
open Go Go.RowKit

/-! ### Children's numbers, all of them -/
def Fk (T : List Nd) : List Int := T.flatMap fun n => n.kids.toList
theorem Fk_app (a b : List Nd) : Fk (a ++ b) = Fk a ++ Fk b := by simp [Fk]
theorem Fk_cons (n : Nd) (b : List Nd) : Fk (n :: b) = n.kids.toList ++ Fk b := rfl
theorem Fk_length : ∀ T : List Nd, (Fk T).length = T.length * 16
  | [] => rfl
  | n :: T => by rw [Fk_cons, List.length_append, Fk_length T]; simp; omega
theorem Fk_get (T : List Nd) (i c : Nat) (hi : i < T.length) (hc : c < 16) : (Fk T)[i * 16 + c]? = some T[i].kids[c] := by
  have := rows_get (f := fun n : Nd => n.kids.toList.map (Value.int .i64)) (s := 16) (fun n => by simp) T i c hi hc
  have e : (T.flatMap fun n : Nd => n.kids.toList.map (Value.int .i64)) = (Fk T).map (Value.int .i64) := by
    simp [Fk, List.map_flatMap]
  rw [e, List.getElem?_map] at this
  have h2 : (T[i].kids.toList.map (Value.int .i64))[c]? = some (.int .i64 T[i].kids[c]) := by simp [hc]
  rw [h2] at this
  cases hf : (Fk T)[i * 16 + c]? with
  | none => rw [hf] at this; cases this
  | some z =>
    rw [hf] at this
    have h3 : Value.int .i64 z = Value.int .i64 T[i].kids[c] := Option.some.inj this
    cases h3; rfl

theorem count_rep0 (v : Int) (hv : v ≠ 0) (n : Nat) : (List.replicate n (0 : Int)).count v = 0 := by
  rw [List.count_replicate]
  simp [Ne.symm hv]
theorem kl_count {f : Nat} {v : Nat} (hv : 0 < v) (ih : ∀ (s : Sx) (k : Nat), Bok s f → (Fk (bld f s k)).count (v : Int) = if k < v ∧ v < k + (bld f s k).length then 1 else 0) :
    ∀ (n i : Nat) (gs : List (UInt8 × Sx)) (k : Nat) (kids : Vector Int 16), i + n = 16 → Hd i gs → (∀ p ∈ gs, Bok p.2 f) →
      (kl (bld f) i n gs k).count (v : Int) + (Fk (brn (bld f) gs k kids).1).count (v : Int) = if k ≤ v ∧ v < k + (brn (bld f) gs k kids).1.length then 1 else 0
  | 0, i, gs, k, kids, h1, h2, h3 => by
    cases gs with
    | nil => rw [if_neg (by simp [brn])]; simp [kl, brn, Fk]
    | cons p gs => have := h2.2 p (by simp); omega
  | n + 1, i, [], k, kids, h1, h2, h3 => by
    rw [kl_nil, count_rep0 _ (by omega), if_neg (by simp [brn])]
    simp [brn, Fk]
  | n + 1, i, (c, g) :: gs, k, kids, h1, h2, h3 => by
    rw [kl]
    by_cases hc : c.toNat = i
    · have ht := h2.tail
      rw [hc] at ht
      have h4 := kl_count hv ih n (i + 1) gs (k + (bld f g k).length) (setk kids c k) (by omega) ht (fun p hp => h3 p (by simp [hp]))
      have h5 := ih g k (h3 (c, g) (by simp))
      have hp := bld_pos (h3 (c, g) (by simp)) k
      dsimp only at hp
      rw [if_pos hc, brn_cons]
      dsimp only
      rw [Fk_app, List.count_append, List.length_append, List.count_cons, h5]
      rw [show ((k : Int) == (v : Int)) = decide (k = v) by rw [Bool.eq_iff_iff]; simp; omega]
      simp only [decide_eq_true_eq]
      revert h4
      split <;> split <;> split <;> split <;> intros <;> omega
    · rw [if_neg hc, List.count_cons, if_neg (by simp; omega), Nat.add_zero]
      exact kl_count hv ih n (i + 1) ((c, g) :: gs) k kids (by omega) (h2.skip hc) h3

/-- Each number but the first one is some node's child, once. -/
theorem Fk_count {v : Nat} (hv : 0 < v) : ∀ (f : Nat) (s : Sx) (k : Nat), Bok s f → (Fk (bld f s k)).count (v : Int) = if k < v ∧ v < k + (bld f s k).length then 1 else 0
  | 0, s, k, h => by have := h.pos; omega
  | f + 1, [], k, h => absurd rfl h.ne
  | f + 1, [x], k, h => by
    rw [bld_one, Fk_cons, List.count_append, zk_list, count_rep0 _ (by omega)]
    simp [Fk]; omega
  | f + 1, x :: y :: r, k, h => by
    by_cases hc : 0 < com x.1 (lst y r).1
    · have hb := h.ext_ hc
      have ih := Fk_count hv f _ (k + 1) hb
      have hp := bld_pos hb (k + 1)
      rw [bld_ext _ _ _ _ _ hc, Fk_cons, List.count_append, ih, List.length_cons]
      dsimp only
      rw [zk_list0, List.count_cons, count_rep0 _ (by omega)]
      rw [show (((k + 1 : Nat) : Int) == (v : Int)) = decide (k + 1 = v) by rw [Bool.eq_iff_iff]; simp; omega]
      simp only [decide_eq_true_eq]
      split <;> split <;> split <;> omega
    · have hs := h.sub
      obtain ⟨hg, hH, _⟩ := hs.1.grp hs.2
      have hk := kl_count hv (Fk_count hv f) 16 0 _ (k + 1) zk rfl hH hg
      rw [bld_brn _ _ _ _ _ hc, Fk_cons, List.count_append, List.length_cons]
      dsimp only
      rw [kl_brn _ _ hH, hk]
      generalize (brn (bld f) (groups (if x.1 = [] then y :: r else x :: y :: r)) (k + 1) zk).1 = L
      split <;> split <;> omega

theorem count_one : ∀ (l : List Int) (v : Int), l.count v ≤ 1 → ∀ a b : Nat, l[a]? = some v → l[b]? = some v → a = b
  | [], v, h, a, b, ha, hb => by simp at ha
  | x :: l, v, h, a, b, ha, hb => by
    rw [List.count_cons] at h
    have key : ∀ a : Nat, l[a]? = some v → 1 ≤ l.count v := fun a ha => List.count_pos_iff.2 (List.mem_of_getElem? ha)
    cases a with
    | zero =>
      cases b with
      | zero => rfl
      | succ b =>
        simp at ha hb
        subst ha
        have := key b hb
        simp at h; omega
    | succ a =>
      cases b with
      | zero =>
        simp at ha hb
        subst hb
        have := key a ha
        simp at h; omega
      | succ b =>
        simp at ha hb
        have := count_one l v (by omega) a b ha hb
        omega

/-! ### Children and paths -/
theorem pth_head {s : Sx} {f : Nat} (h : Bok s f) (pre : List UInt8) : ∃ r, pth f s pre = pre :: r := by
  obtain ⟨f, rfl⟩ : ∃ g, f = g + 1 := ⟨f - 1, by have := h.pos; omega⟩
  match s, h with
  | [], h => exact absurd rfl h.ne
  | [x], h => exact ⟨_, pth_one _ _ _⟩
  | x :: y :: r, h =>
    by_cases hc : 0 < com x.1 (lst y r).1
    · exact ⟨_, pth_ext _ _ _ _ _ hc⟩
    · exact ⟨_, pth_brn _ _ _ _ _ hc⟩

def Blk (T : List Nd) (Q : List (List UInt8)) (k : Nat) : Prop := ∀ (i : Nat) (n : Nd) (p : List UInt8), T[i]? = some n → Q[i]? = some p → ∀ (c : Nat) (hc : c < 16), n.kids[c] = 0 ∨
  ∃ (j : Nat) (m : Nd), i < j ∧ T[j]? = some m ∧ n.kids[c] = ((k + j : Nat) : Int) ∧ Q[j]? = some (p ++ n.path ++ if n.kind = 3 then [UInt8.ofNat c] else []) ∧ (n.kind = 2 → c = 0 ∧ m.kind = 3)

theorem Blk.nil (k : Nat) : Blk [] [] k := fun i n p h => by simp at h
theorem Blk.app {T1 T2 : List Nd} {Q1 Q2 : List (List UInt8)} {k : Nat} (h1 : Blk T1 Q1 k) (hl : T1.length = Q1.length) (h2 : Blk T2 Q2 (k + T1.length)) : Blk (T1 ++ T2) (Q1 ++ Q2) k := fun i n p hT hQ c hc => by
  by_cases hi : i < T1.length
  · rw [List.getElem?_append_left hi] at hT
    rw [List.getElem?_append_left (by omega)] at hQ
    rcases h1 i n p hT hQ c hc with h | ⟨j, m, a1, a2, a3, a4, a5⟩
    · exact .inl h
    · have hj := (List.getElem?_eq_some_iff.1 a2).1
      exact .inr ⟨j, m, a1, by rw [List.getElem?_append_left hj]; exact a2, a3, by rw [List.getElem?_append_left (by omega)]; exact a4, a5⟩
  · rw [List.getElem?_append_right (by omega)] at hT
    rw [List.getElem?_append_right (by omega), ← hl] at hQ
    rcases h2 (i - T1.length) n p hT hQ c hc with h | ⟨j, m, a1, a2, a3, a4, a5⟩
    · exact .inl h
    · refine .inr ⟨T1.length + j, m, by omega, ?_, by rw [a3]; omega, ?_, a5⟩
      · rw [List.getElem?_append_right (by omega), Nat.add_sub_cancel_left]; exact a2
      · rw [List.getElem?_append_right (by omega), ← hl, Nat.add_sub_cancel_left]; exact a4
theorem Blk.cons {T : List Nd} {Q : List (List UInt8)} {k : Nat} {n : Nd} {p : List UInt8} (hn : ∀ (c : Nat) (hc : c < 16), n.kids[c] = 0 ∨ ∃ (j : Nat) (m : Nd), T[j]? = some m ∧ n.kids[c] = ((k + 1 + j : Nat) : Int) ∧ Q[j]? = some (p ++ n.path ++ if n.kind = 3 then [UInt8.ofNat c] else []) ∧ (n.kind = 2 → c = 0 ∧ m.kind = 3))
    (h : Blk T Q (k + 1)) : Blk (n :: T) (p :: Q) k := fun i n' p' hT hQ c hc => by
  cases i with
  | zero =>
    simp at hT hQ
    subst hT hQ
    rcases hn c hc with h | ⟨j, m, a2, a3, a4, a5⟩
    · exact .inl h
    · exact .inr ⟨j + 1, m, by omega, by simpa using a2, by rw [a3]; omega, by simpa using a4, a5⟩
  | succ i =>
    simp at hT hQ
    rcases h i n' p' hT hQ c hc with h | ⟨j, m, a1, a2, a3, a4, a5⟩
    · exact .inl h
    · exact .inr ⟨j + 1, m, by omega, by simpa using a2, by rw [a3]; omega, by simpa using a4, a5⟩

theorem brn_blk {f : Nat} (ih : ∀ (s : Sx) (k : Nat) (pre : List UInt8), Bok s f → Blk (bld f s k) (pth f s pre) k) (pre : List UInt8) : ∀ (gs : List (UInt8 × Sx)) (k : Nat) (kids : Vector Int 16), (∀ p ∈ gs, Bok p.2 f) → Blk (brn (bld f) gs k kids).1 (pbrn (pth f) pre gs) k
  | [], k, kids, h => Blk.nil k
  | (c, g) :: gs, k, kids, h => by
    rw [brn_cons, pbrn_cons]
    exact (ih g k (pre ++ [c]) (h (c, g) (by simp))).app (pth_len _ _ _ _).symm (brn_blk ih pre gs _ _ (fun p hp => h p (by simp [hp])))
theorem brn_heads {f : Nat} (pre : List UInt8) : ∀ (gs : List (UInt8 × Sx)) (k : Nat) (kids : Vector Int 16), (∀ p ∈ gs, Bok p.2 f ∧ p.1.toNat < 16) → ∀ (c : Nat) (hc : c < 16),
    ((brn (bld f) gs k kids).2)[c] = kids[c] ∨ ∃ (j : Nat) (m : Nd), (brn (bld f) gs k kids).1[j]? = some m ∧ ((brn (bld f) gs k kids).2)[c] = ((k + j : Nat) : Int) ∧ (pbrn (pth f) pre gs)[j]? = some (pre ++ [UInt8.ofNat c])
  | [], k, kids, h, c, hc => .inl rfl
  | (d, g) :: gs, k, kids, h, c, hc => by
    obtain ⟨hB, hd⟩ := h (d, g) (by simp)
    dsimp only at hB hd
    have hp := bld_pos hB k
    rw [brn_cons, pbrn_cons]
    dsimp only
    rcases brn_heads pre gs (k + (bld f g k).length) (setk kids d k) (fun p hp => h p (by simp [hp])) c hc with h1 | ⟨j, m, h1, h2, h3⟩
    · have e1 : setk kids d (k : Int) = kids.set d.toNat k hd := by unfold setk; rw [dif_pos hd]
      rw [h1, e1, Vector.getElem_set]
      split
      · rename_i he
        obtain ⟨r, hr⟩ := pth_head hB (pre ++ [d])
        refine .inr ⟨0, (bld f g k)[0], ?_, by simp, ?_⟩
        · rw [List.getElem?_append_left hp]; simp [hp]
        · rw [hr, ← he]; simp
      · exact .inl rfl
    · refine .inr ⟨(bld f g k).length + j, m, ?_, by rw [h2]; omega, ?_⟩
      · rw [List.getElem?_append_right (by omega), Nat.add_sub_cancel_left]; exact h1
      · have hl := pth_len f g k (pre ++ [d])
        rw [List.getElem?_append_right (by omega), hl, Nat.add_sub_cancel_left]; exact h3

theorem com_drop : ∀ a b : List UInt8, com (a.drop (com a b)) (b.drop (com a b)) = 0
  | [], b => by simp [com]
  | _ :: _, [] => by simp [com]
  | a :: x, b :: y => by
    by_cases h : a = b
    · simp only [com, if_pos h, List.drop_succ_cons]; exact com_drop x y
    · simp [com, h]
theorem lst_cut (c : Nat) (y : List UInt8 × List UInt8) : ∀ r : Sx, lst (cut c y) (r.map (cut c)) = cut c (lst y r)
  | [] => rfl
  | z :: r => by
    have e1 : lst (cut c y) ((z :: r).map (cut c)) = lst (cut c z) (r.map (cut c)) := by unfold lst; rw [List.map_cons, List.getLastD_cons]
    have e2 : lst y (z :: r) = lst z r := by unfold lst; rw [List.getLastD_cons]
    rw [e1, e2, lst_cut c z r]
/-- Beneath an Ext stands a Branch. -/
theorem ext_child {x y : List UInt8 × List UInt8} {r : Sx} {f : Nat} (h : Bok (x :: y :: r) (f + 1)) (hc : 0 < com x.1 (lst y r).1) (k : Nat) : ∃ n t, bld f ((x :: y :: r).map (cut (com x.1 (lst y r).1))) k = n :: t ∧ n.kind = 3 := by
  have hb := h.ext_ hc
  obtain ⟨f, rfl⟩ : ∃ g, f = g + 1 := ⟨f - 1, by have := hb.pos; omega⟩
  rw [List.map_cons, List.map_cons, bld_brn]
  · exact ⟨_, _, rfl, rfl⟩
  · rw [lst_cut]
    have := com_drop x.1 (lst y r).1
    simp only [cut]
    omega

theorem bld_blk : ∀ (f : Nat) (s : Sx) (k : Nat) (pre : List UInt8), Bok s f → Blk (bld f s k) (pth f s pre) k
  | 0, s, k, pre, h => by have := h.pos; omega
  | f + 1, [], k, pre, h => absurd rfl h.ne
  | f + 1, [x], k, pre, h => by
    rw [bld_one, pth_one]
    exact Blk.cons (fun c hc => .inl (by simp [zk])) (Blk.nil _)
  | f + 1, x :: y :: r, k, pre, h => by
    by_cases hc : 0 < com x.1 (lst y r).1
    · have hb := h.ext_ hc
      obtain ⟨n, t, hn, hk⟩ := ext_child h hc (k + 1)
      obtain ⟨q, hq⟩ := pth_head hb (pre ++ x.1.take (com x.1 (lst y r).1))
      rw [bld_ext _ _ _ _ _ hc, pth_ext _ _ _ _ _ hc]
      refine Blk.cons (fun c hc' => ?_) (bld_blk f _ _ _ hb)
      dsimp only
      rw [Vector.getElem_set]
      split
      · rename_i he
        refine .inr ⟨0, n, by rw [hn]; rfl, by simp, ?_, fun _ => ⟨he.symm, hk⟩⟩
        rw [hq]; simp
      · left; simp [zk]
    · have hs := h.sub
      obtain ⟨hg, hH, _⟩ := hs.1.grp hs.2
      rw [bld_brn _ _ _ _ _ hc, pth_brn _ _ _ _ _ hc]
      refine Blk.cons (fun c hc' => ?_) (brn_blk (bld_blk f) pre _ _ _ hg)
      dsimp only
      rcases brn_heads pre _ (k + 1) zk (fun p hp => ⟨hg p hp, (hH.2 p hp).2⟩) c hc' with h1 | ⟨j, m, h1, h2, h3⟩
      · left; rw [h1]; simp [zk]
      · refine .inr ⟨j, m, h1, h2, ?_, fun h => by cases h⟩
        rw [h3]; simp

/-! ### Pairs -/
def zp (T : List Nd) (Q : List (List UInt8)) : List Pr := (T.zip Q).filterMap fun z => if z.1.has = true then some ⟨(keyOf (z.2 ++ z.1.path)).getD [], z.1.value⟩ else none
theorem zp_app {T1 T2 : List Nd} {Q1 Q2 : List (List UInt8)} (hl : T1.length = Q1.length) : zp (T1 ++ T2) (Q1 ++ Q2) = zp T1 Q1 ++ zp T2 Q2 := by
  unfold zp; rw [List.zip_append hl, List.filterMap_append]
theorem zp_cons (n : Nd) (T : List Nd) (p : List UInt8) (Q : List (List UInt8)) : zp (n :: T) (p :: Q) = (if n.has = true then [⟨(keyOf (p ++ n.path)).getD [], n.value⟩] else []) ++ zp T Q := by
  unfold zp
  rw [List.zip_cons_cons, List.filterMap_cons]
  by_cases h : n.has = true <;> simp [h]
theorem brn_zp {f : Nat} (ih : ∀ (s : Sx) (k : Nat) (pre : List UInt8), Bok s f → zp (bld f s k) (pth f s pre) = s.map (kx pre)) (pre : List UInt8) : ∀ (gs : List (UInt8 × Sx)) (k : Nat) (kids : Vector Int 16), (∀ p ∈ gs, Bok p.2 f) → zp (brn (bld f) gs k kids).1 (pbrn (pth f) pre gs) = (gfl gs).map (kx pre)
  | [], k, kids, h => rfl
  | (c, g) :: gs, k, kids, h => by
    rw [brn_cons, pbrn_cons]
    dsimp only
    rw [zp_app (pth_len _ _ _ _).symm, ih g k (pre ++ [c]) (h (c, g) (by simp)), brn_zp ih pre gs _ _ (fun p hp => h p (by simp [hp])), flat_cons, List.map_append, List.map_map]
    congr 1
    exact List.map_congr_left fun x _ => kx_pc pre c x
theorem bld_zp : ∀ (f : Nat) (s : Sx) (k : Nat) (pre : List UInt8), Bok s f → zp (bld f s k) (pth f s pre) = s.map (kx pre)
  | 0, s, k, pre, h => by have := h.pos; omega
  | f + 1, [], k, pre, h => absurd rfl h.ne
  | f + 1, [x], k, pre, h => by rw [bld_one, pth_one, zp_cons]; simp [zp, kx]
  | f + 1, x :: y :: r, k, pre, h => by
    by_cases hc : 0 < com x.1 (lst y r).1
    · have hb := h.ext_ hc
      have hlen : (x.1.take (com x.1 (lst y r).1)).length = com x.1 (lst y r).1 := by
        rw [List.length_take]; have := com_left x.1 (lst y r).1; omega
      rw [bld_ext _ _ _ _ _ hc, pth_ext _ _ _ _ _ hc, zp_cons, bld_zp f _ _ _ hb, List.map_map]
      simp only [Bool.false_eq_true, if_false, List.nil_append]
      refine List.map_congr_left fun z hz => ?_
      have := kx_cut (pre := pre) (h.ris.common z hz)
      rwa [hlen] at this
    · have hs := h.sub
      obtain ⟨hg, hH, _⟩ := hs.1.grp hs.2
      rw [bld_brn _ _ _ _ _ hc, pth_brn _ _ _ _ _ hc, zp_cons, brn_zp (bld_zp f) pre _ _ _ hg, groups_flat _ hs.2]
      by_cases hx : x.1 = []
      · simp [hx, kx]
      · simp [hx]

/-! ### Each node and its path -/
def Zok (M : Nat) (z : Nd × List UInt8) : Prop := z.2.length + z.1.path.length ≤ M ∧ (z.1.has = true → keyOf (z.2 ++ z.1.path) ≠ none)
def Sok (M : Nat) (pre : List UInt8) (s : Sx) : Prop := ∀ x ∈ s, pre.length + x.1.length ≤ M ∧ keyOf (pre ++ x.1) ≠ none
theorem bld_zok {M : Nat} : ∀ (f : Nat) (s : Sx) (k : Nat) (pre : List UInt8), Bok s f → Sok M pre s → ∀ z ∈ (bld f s k).zip (pth f s pre), Zok M z
  | 0, s, k, pre, h, _ => by have := h.pos; omega
  | f + 1, [], k, pre, h, _ => absurd rfl h.ne
  | f + 1, [x], k, pre, h, ho => fun z hz => by
    rw [bld_one, pth_one] at hz
    simp at hz
    subst hz
    exact ⟨(ho x (by simp)).1, fun _ => (ho x (by simp)).2⟩
  | f + 1, x :: y :: r, k, pre, h, ho => fun z hz => by
    by_cases hc : 0 < com x.1 (lst y r).1
    · have hb := h.ext_ hc
      have hlen : (x.1.take (com x.1 (lst y r).1)).length = com x.1 (lst y r).1 := by
        rw [List.length_take]; have := com_left x.1 (lst y r).1; omega
      rw [bld_ext _ _ _ _ _ hc, pth_ext _ _ _ _ _ hc, List.zip_cons_cons] at hz
      rcases List.mem_cons.1 hz with rfl | hz
      · refine ⟨?_, fun h => by cases h⟩
        have := (ho x (by simp)).1
        have := com_left x.1 (lst y r).1
        dsimp only
        omega
      · refine bld_zok f _ _ _ hb (fun w hw => ?_) z hz
        obtain ⟨w', hw', rfl⟩ := List.mem_map.1 hw
        obtain ⟨t, ht⟩ := h.ris.common w' hw'
        have h1 := ho w' hw'
        rw [← ht] at h1
        have e : (cut (com x.1 (lst y r).1) w').1 = t := by
          simp only [cut]
          rw [← ht]
          exact List.drop_left' hlen
        rw [e, List.append_assoc]
        refine ⟨?_, h1.2⟩
        have := h1.1
        simp only [List.length_append] at this ⊢
        omega
    · have hs := h.sub
      obtain ⟨hg, hH, _⟩ := hs.1.grp hs.2
      rw [bld_brn _ _ _ _ _ hc, pth_brn _ _ _ _ _ hc, List.zip_cons_cons] at hz
      have ho' : Sok M pre (if x.1 = [] then y :: r else x :: y :: r) := fun w hw => ho w (by
        split at hw
        · exact List.mem_cons_of_mem _ hw
        · exact hw)
      rcases List.mem_cons.1 hz with rfl | hz
      · refine ⟨?_, fun h => ?_⟩
        · have := (ho x (by simp)).1
          simp; omega
        · have hx : x.1 = [] := by simpa using h
          have := (ho x (by simp)).2
          rw [hx] at this
          exact this
      · have key : ∀ (gs : List (UInt8 × Sx)) (k' : Nat) (kids : Vector Int 16), (∀ p ∈ gs, Bok p.2 f ∧ Sok M (pre ++ [p.1]) p.2) → z ∈ (brn (bld f) gs k' kids).1.zip (pbrn (pth f) pre gs) → Zok M z := by
          intro gs
          induction gs with
          | nil => intro k' kids _ h; simp [brn] at h
          | cons p gs ih =>
            obtain ⟨d, g⟩ := p
            intro k' kids hgs hm
            rw [brn_cons, pbrn_cons] at hm
            dsimp only at hm
            rw [List.zip_append (pth_len _ _ _ _).symm] at hm
            rcases List.mem_append.1 hm with hm | hm
            · exact bld_zok f g k' _ (hgs (d, g) (by simp)).1 (hgs (d, g) (by simp)).2 z hm
            · exact ih _ _ (fun p hp => hgs p (by simp [hp])) hm
        refine key _ _ _ (fun p hp => ⟨hg p hp, fun w hw => ?_⟩) hz
        have h1 := ho' _ (groups_pc _ p hp w hw)
        simp only [pc] at h1
        rw [List.append_assoc, List.singleton_append]
        refine ⟨?_, h1.2⟩
        have := h1.1
        simp only [List.length_cons, List.length_append, List.length_nil] at this ⊢
        omega

/-- All of that, of the trie of pairs. -/
structure Trie (l : List Pr) (t : List Nd) (q : List (List UInt8)) : Prop where
  len : q.length = t.length
  cnt : ∀ v : Nat, 0 < v → (Fk t).count (v : Int) = if v < t.length then 1 else 0
  blk : Blk t q 0
  zp : zp t q = l
  zok : ∀ z ∈ t.zip q, Zok 16 z
  head : ∀ p, q[0]? = some p → p = []

theorem Trie.of {l : List Pr} (h : May l) : Trie l (build l) (paths l) := by
  unfold build paths
  by_cases hn : l = []
  · subst hn
    simp only [if_pos]
    exact ⟨rfl, fun v _ => by simp [Fk], Blk.nil _, rfl, fun z hz => by simp at hz, fun p hp => by simp at hp⟩
  · simp only [if_neg hn]
    have hB := Bok.all h hn
    refine ⟨pth_len _ _ _ _, fun v hv => ?_, bld_blk _ _ _ _ hB, ?_, bld_zok _ _ _ _ hB (fun x hx => ?_), fun p hp => ?_⟩
    · rw [Fk_count hv _ _ _ hB]
      simp [hv]
    · rw [bld_zp _ _ _ _ hB, kx_nil]
    · obtain ⟨p, hp, rfl⟩ := List.mem_map.1 hx
      refine ⟨?_, by simp [keyOf_nib]⟩
      have := (h.1 p hp).2.1
      simp [nib_length]; omega
    · obtain ⟨r, hr⟩ := pth_head hB []
      rw [hr] at hp
      simpa using hp.symm
end Go.Proofs.Ythalogdopkoidaa.Ab
