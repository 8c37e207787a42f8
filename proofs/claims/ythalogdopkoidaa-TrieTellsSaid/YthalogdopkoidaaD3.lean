/- Contract: the statement TrieBack's function. Bounds. No statement of the seat's in it. -/
import Derived.Test.YthalogdopkoidaaD2
set_option linter.unusedVariables false
set_option linter.unusedSimpArgs false
namespace Go.Proofs.Ythalogdopkoidaa.Ab
open Go Go.RowKit

/-! ### Bounds -/
theorem szP_key : ∀ (l : List Pr), ∀ p ∈ l, p.key.length ≤ szP l ∧ p.value.length ≤ szP l
  | [], p, h => by cases h
  | q :: l, p, h => by
    rcases List.mem_cons.1 h with rfl | h
    · simp [szP]; omega
    · have := szP_key l p h; simp [szP] at this ⊢; omega
theorem szN_path : ∀ (l : List Nd), ∀ p ∈ l, p.path.length ≤ szN l ∧ p.value.length ≤ szN l
  | [], p, h => by cases h
  | q :: l, p, h => by
    rcases List.mem_cons.1 h with rfl | h
    · simp [szN]; omega
    · have := szN_path l p h; simp [szN] at this ⊢; omega

theorem groups_pc : ∀ s : Sx, ∀ p ∈ groups s, ∀ x ∈ p.2, pc p.1 x ∈ s
  | [], p, h, x, hx => by cases h
  | ([], v) :: s, p, h, x, hx => List.mem_cons_of_mem _ (groups_pc s p h x hx)
  | (c :: n, v) :: s, p, h, x, hx => by
    have ih := groups_pc s
    rw [groups] at h
    cases hg : groups s with
    | nil =>
      rw [hg] at h
      simp at h
      subst h
      simp at hx
      subst hx
      simp [pc]
    | cons w gs =>
      obtain ⟨c', g⟩ := w
      rw [hg] at h ih
      dsimp only at h
      split at h
      · rename_i e
        subst e
        rcases List.mem_cons.1 h with rfl | h
        · rcases List.mem_cons.1 hx with rfl | hx
          · simp [pc]
          · exact List.mem_cons_of_mem _ (ih (c, g) (by simp) x hx)
        · exact List.mem_cons_of_mem _ (ih p (by simp [h]) x hx)
      · rcases List.mem_cons.1 h with rfl | h
        · simp at hx; subst hx; simp [pc]
        · exact List.mem_cons_of_mem _ (ih p h x hx)

theorem brn_mem {b : Sx → Nat → List Nd} : ∀ (gs : List (UInt8 × Sx)) (k : Nat) (kids : Vector Int 16) (n : Nd), n ∈ (brn b gs k kids).1 → ∃ p ∈ gs, ∃ k', n ∈ b p.2 k'
  | [], k, kids, n, h => by cases h
  | (c, g) :: gs, k, kids, n, h => by
    rw [brn_cons] at h
    rcases List.mem_append.1 h with h | h
    · exact ⟨(c, g), by simp, k, h⟩
    · obtain ⟨p, hp, k', hk⟩ := brn_mem gs _ _ n h
      exact ⟨p, by simp [hp], k', hk⟩

theorem bld_path : ∀ (f : Nat) (s : Sx) (k m : Nat), (∀ x ∈ s, x.1.length ≤ m) → ∀ n ∈ bld f s k, n.path.length ≤ m
  | 0, s, k, m, h, n, hn => by cases hn
  | f + 1, [], k, m, h, n, hn => by cases hn
  | f + 1, [x], k, m, h, n, hn => by
    rw [bld_one, List.mem_singleton] at hn
    subst hn
    exact h x (by simp)
  | f + 1, x :: y :: r, k, m, h, n, hn => by
    by_cases hc : 0 < com x.1 (lst y r).1
    · rw [bld_ext _ _ _ _ _ hc] at hn
      rcases List.mem_cons.1 hn with rfl | hn
      · have := h x (by simp)
        simp only [List.length_take]; omega
      · refine bld_path f _ _ m (fun z hz => ?_) n hn
        obtain ⟨z', hz', rfl⟩ := List.mem_map.1 hz
        have := h z' hz'
        simp only [cut, List.length_drop]; omega
    · rw [bld_brn _ _ _ _ _ hc] at hn
      rcases List.mem_cons.1 hn with rfl | hn
      · exact Nat.zero_le _
      · obtain ⟨p, hp, k', hk⟩ := brn_mem _ _ _ n hn
        refine bld_path f _ _ m (fun z hz => ?_) n hk
        have h1 := groups_pc _ p hp z hz
        have h2 : pc p.1 z ∈ x :: y :: r := by
          split at h1
          · exact List.mem_cons_of_mem _ h1
          · exact h1
        have := h _ h2
        simp [pc] at this; omega
theorem build_path {l : List Pr} (h : May l) : ∀ n ∈ build l, n.path.length ≤ 16 := by
  unfold build
  split
  · simp
  · refine bld_path 17 _ 0 16 fun x hx => ?_
    obtain ⟨p, hp, rfl⟩ := List.mem_map.1 hx
    have := (h.1 p hp).2.1
    rw [nib_length]; omega

theorem NdB.bnd {l : List Pr} (h : szP l ≤ 3000) : (build l).length < 2^19 := by
  have := build_len l
  have := szP_len l
  omega

set_option maxHeartbeats 2000000 in
theorem c4 {H : AHeap} {vl vt : Value} {l : List Pr} {t : List Nd} (hl : PrS H vl l) (ht : NdS H vt t) : ACalls Try.prog 4 [vl, vt] H (fun _ => False) fun v H' => v = .bool true := by
  refine ACalls_by 79 TT_ok Try.func4 rfl rfl rfl (by simp) ?_
  refine AC_seqQ TT_ok (by simp only [go_sem] <;> rfl) ?_
  refine AC_cut (fun e' H' => H' = H ∧ szP l ≤ 3000 ∧ szN t ≤ 4000 ∧ get e' 0 = vl ∧ get e' 1 = vt) ?_ (fun e1 H1 _ ⟨hH, hsP, hsN, g0, g1⟩ => ?_)
  · refine AC_cut (fun e' H' => H' = H ∧ ∃ b, get e' 18 = .bool b ∧ (b = false → szP l ≤ 3000 ∧ szN t ≤ 4000) ∧ get e' 0 = vl ∧ get e' 1 = vt) ?_ (fun e1 H1 _ ⟨hH, b, h18, hb, g0, g1⟩ => ?_)
    · refine AC_regL ?_
      refine AQ_take TT_ok 1 rfl (by simp only [go_sem] <;> rfl) ?_
      refine AQ_c rfl (by simp only [go_sem] <;> rfl) fok26 (by simp only [List.map_cons, List.map_nil, List.append_nil, go_sem] <;> rfl) (c26 hl) (fun _ _ h => h.elim) (.inl rfl) fun r H1 hX1 ⟨hH, b, hr, hb⟩ => ?_
      subst hr hH
      cases b
      · refine AQ_take TT_ok 2 rfl (by simp only [go_sem] <;> rfl) ?_
        refine AQ_c rfl (by simp only [go_sem] <;> rfl) fok27 (by simp only [List.map_cons, List.map_nil, List.append_nil, go_sem] <;> rfl) (c27 ht) (fun _ _ h => h.elim) (.inl rfl) fun r H1 hX1 ⟨hH, b, hr, hb2⟩ => ?_
        subst hr hH
        refine AQ_all TT_ok rfl (by simp only [go_sem] <;> rfl) ?_
        exact ⟨rfl, b, by simp only [go_sem], fun h => ⟨hb rfl, hb2 h⟩, by simp only [go_sem], by simp only [go_sem]⟩
      · refine AQ_take TT_ok 2 rfl (by simp only [go_sem] <;> rfl) ?_
        refine AQ_pass rfl ?_
        refine AQ_all TT_ok rfl (by simp only [go_sem] <;> rfl) ?_
        exact ⟨rfl, true, by simp only [go_sem], fun h => (by cases h), by simp only [go_sem], by simp only [go_sem]⟩
    subst hH
    cases b
    · exact AC_f h18 rfl (AC_skip ⟨rfl, (hb rfl).1, (hb rfl).2, g0, g1⟩)
    · refine AC_t h18 rfl ?_
      refine AC_seq ?_
      refine AC_regL ?_
      refine AQ_c rfl (by simp only [go_sem] <;> rfl) fok28 (by simp only [List.map_cons, List.map_nil, List.append_nil, go_sem] <;> rfl) (c28) (fun _ _ h => h.elim) (.inl rfl) fun r H1 hX1 hr => ?_
      subst hr
      refine AQ_all TT_ok rfl (by simp only [go_sem] <;> rfl) ?_
      exact AC_ret ⟨.inl rfl, _, rfl, by simp only [go_sem]⟩
  subst hH
  have hll := szP_len l
  have htl := szN_len t
  have htn : ∀ n ∈ t, n.path.length < 2^30 := fun n hn => by have := szN_path t n hn; omega
  have bl : (build l).length < 2^19 := NdB.bnd hsP
  have hld : l.length < 2^20 := by omega
  have htd : t.length < 2^19 := by omega
  refine AC_cut (fun e' H' => NdS H' vt t ∧ PrS H' vl l ∧ (∃ va, get e' 5 = va ∧ NdS H' va (if May l then build l else [])) ∧ get e' 6 = .bool (decide (May l)) ∧ get e' 0 = vl ∧ get e' 1 = vt) ?_ (fun e3 H3 _ ⟨hT, hL, ⟨va, g5, hA⟩, g6, g0, g1⟩ => ?_)
  · refine AC_regL ?_
    refine AQ_take TT_ok 1 rfl (by simp only [go_sem, g0] <;> rfl) ?_
    refine AQ_c rfl (by simp only [go_sem] <;> rfl) fok29 (by simp only [List.map_cons, List.map_nil, List.append_nil, go_sem] <;> rfl) (c29 hl hld) (fun _ _ h => h.elim) (.inl rfl) fun r H1 hX1 ⟨va, hr, hA, _⟩ => ?_
    subst hr
    refine AQ_all TT_ok rfl (by simp only [go_sem] <;> rfl) ?_
    exact ⟨ht.keep hX1, hl.keep hX1, ⟨va, by simp only [go_sem], hA.sl⟩, by simp only [go_sem], by simp only [go_sem, g0], by simp only [go_sem, g1]⟩
  refine AC_cut (fun e' H' => H' = H3 ∧ get e' 5 = va ∧ get e' 6 = .bool (decide (May l)) ∧ get e' 0 = vl ∧ get e' 1 = vt) ?_ (fun e4 H4 _ ⟨hH, g5, g6, g0, g1⟩ => ?_)
  · refine AC_seq ?_
    refine AC_regL ?_
    refine AQ_take TT_ok 2 rfl (by simp only [go_sem, g0, g6] <;> rfl) ?_
    refine AQ_c rfl (by simp only [go_sem] <;> rfl) fok39 (by simp only [List.map_cons, List.map_nil, List.append_nil, go_sem] <;> rfl) (c39 hL (by omega)) (fun _ _ h => h.elim) (.inl rfl) fun r H4 hX4 ⟨hr, hH⟩ => ?_
    subst hr hH
    refine AQ_all TT_ok rfl (by simp only [go_sem] <;> rfl) ?_
    refine AC_f (by simp only [go_sem] <;> rfl) (by simp) ?_
    exact AC_skip ⟨rfl, by simp only [go_sem, g5], by simp only [go_sem, g6], by simp only [go_sem, g0], by simp only [go_sem, g1]⟩
  subst hH
  refine AC_cut (fun e' H' => NdS H' vt t ∧ get e' 1 = vt) ?_ (fun e5 H5 _ ⟨hT, g1⟩ => ?_)
  · by_cases hm : May l
    · rw [if_pos hm] at hA
      have di : decide (Isw (build l)) = true := decide_eq_true (isw_build hm)
      have dl : decide (l = l) = true := decide_eq_true rfl
      have hbp : ∀ n ∈ build l, n.path.length < 2^30 := fun n hn => by have := build_path hm n hn; omega
      refine AC_seqQ TT_ok (by simp only [go_sem, g6] <;> rfl) ?_
      refine AC_t (by simp only [go_sem] <;> rfl) (decide_eq_true hm) ?_
      refine AC_seq ?_
      refine AC_regL ?_
      refine AQ_take TT_ok 1 rfl (by simp only [go_sem, g5] <;> rfl) ?_
      refine AQ_c rfl (by simp only [go_sem] <;> rfl) fok31 (by simp only [List.map_cons, List.map_nil, List.append_nil, go_sem] <;> rfl) (c31 hA bl hbp) (fun _ _ h => h.elim) (.inl rfl) fun r H5 hX5 ⟨vp, hr, hP, _⟩ => ?_
      subst hr
      rw [if_pos (isw_build hm), walkAll_build hm] at hP
      refine AQ_all TT_ok rfl (by simp only [go_sem, di] <;> rfl) ?_
      have hP' : PrS H5 vp l := hP.sl
      refine AC_seq ?_
      refine AC_regL ?_
      refine AQ_take TT_ok 5 rfl (by simp only [go_sem, g0, Bool.not_true] <;> rfl) ?_
      refine AQ_c rfl (by simp only [go_sem] <;> rfl) fok35 (by simp only [List.map_cons, List.map_nil, List.append_nil, go_sem] <;> rfl) (c35 hP' (hL.keep hX5) (by omega)) (fun _ _ h => h.elim) (.inl rfl) fun r H6 hX6 ⟨hr, hH⟩ => ?_
      subst hr hH
      refine AQ_take TT_ok 4 rfl (by simp only [go_sem, g5, dl, Bool.not_true] <;> rfl) ?_
      refine AQ_c rfl (by simp only [go_sem] <;> rfl) fok37 (by simp only [List.map_cons, List.map_nil, List.append_nil, go_sem] <;> rfl) (c37 (hA.keep hX5) bl hbp) (fun _ _ h => h.elim) (.inl rfl) fun r H7 hX7 hr => ?_
      subst hr
      refine AQ_all TT_ok rfl (by simp only [go_sem, di, Bool.not_true] <;> rfl) ?_
      refine AC_f (by simp only [go_sem] <;> rfl) (rfl) ?_
      exact AC_skip ⟨(hT.keep hX5).keep hX7, by simp only [go_sem, g1]⟩
    · refine AC_seqQ TT_ok (by simp only [go_sem, g6] <;> rfl) ?_
      refine AC_f (by simp only [go_sem] <;> rfl) (decide_eq_false hm) ?_
      exact AC_skip ⟨hT, by simp only [go_sem, g1]⟩
  refine AC_cut (fun e' H' => NdS H' vt t ∧ (∃ vp, get e' 9 = vp ∧ PrS H' vp (if Isw t then (walkAll t).2.l else [])) ∧ get e' 10 = .bool (decide (Isw t)) ∧ get e' 1 = vt) ?_ (fun e6 H6 _ ⟨hT, ⟨vp, g9, hP⟩, g10, g1⟩ => ?_)
  · refine AC_regL ?_
    refine AQ_take TT_ok 1 rfl (by simp only [go_sem, g1] <;> rfl) ?_
    refine AQ_c rfl (by simp only [go_sem] <;> rfl) fok31 (by simp only [List.map_cons, List.map_nil, List.append_nil, go_sem] <;> rfl) (c31 hT htd htn) (fun _ _ h => h.elim) (.inl rfl) fun r H6 hX6 ⟨vp, hr, hP, _⟩ => ?_
    subst hr
    refine AQ_all TT_ok rfl (by simp only [go_sem] <;> rfl) ?_
    exact ⟨hT.keep hX6, ⟨vp, by simp only [go_sem], hP.sl⟩, by simp only [go_sem], by simp only [go_sem, g1]⟩
  refine AC_cut (fun e' H' => NdS H' vt t ∧ PrS H' vp (if Isw t then (walkAll t).2.l else []) ∧ get e' 9 = vp ∧ get e' 10 = .bool (decide (Isw t)) ∧ get e' 1 = vt) ?_ (fun e7 H7 _ ⟨hT, hP, g9, g10, g1⟩ => ?_)
  · refine AC_seq ?_
    refine AC_regL ?_
    refine AQ_take TT_ok 2 rfl (by simp only [go_sem, g10, g1] <;> rfl) ?_
    refine AQ_c rfl (by simp only [go_sem] <;> rfl) fok37 (by simp only [List.map_cons, List.map_nil, List.append_nil, go_sem] <;> rfl) (c37 hT htd htn) (fun _ _ h => h.elim) (.inl rfl) fun r H7 hX7 hr => ?_
    subst hr
    refine AQ_all TT_ok rfl (by simp only [go_sem] <;> rfl) ?_
    refine AC_f (by simp only [go_sem] <;> rfl) (by simp) ?_
    exact AC_skip ⟨hT.keep hX7, hP.keep hX7, by simp only [go_sem, g9], by simp only [go_sem, g10], by simp only [go_sem, g1]⟩
  by_cases hi : Isw t
  · have di : decide (Isw t) = true := decide_eq_true hi
    rw [if_pos hi] at hP
    refine AC_seq ?_
    refine AC_seqQ TT_ok (by simp only [go_sem, g10, di, Bool.not_true] <;> rfl) ?_
    refine AC_f (by simp only [go_sem] <;> rfl) (rfl) ?_
    refine AC_skip ?_
    have hwl : (walkAll t).2.l.length < 2^20 := by have := walkAll_ok t; have h1 := this.l; have h2 := this.n; omega
    have hmw : May (walkAll t).2.l := hi.2.1
    have dm : decide (May (walkAll t).2.l) = true := decide_eq_true hmw
    refine AC_seq ?_
    refine AC_regL ?_
    refine AQ_take TT_ok 1 rfl (by simp only [go_sem, g9] <;> rfl) ?_
    refine AQ_c rfl (by simp only [go_sem] <;> rfl) fok29 (by simp only [List.map_cons, List.map_nil, List.append_nil, go_sem] <;> rfl) (c29 hP hwl) (fun _ _ h => h.elim) (.inl rfl) fun r H8 hX8 ⟨vb, hr, hB, _⟩ => ?_
    subst hr
    rw [if_pos hmw, ← hi.2.2] at hB
    refine AQ_all TT_ok rfl (by simp only [go_sem, dm] <;> rfl) ?_
    have dt : decide (t = t) = true := decide_eq_true rfl
    refine AC_seq ?_
    refine AC_regL ?_
    refine AQ_take TT_ok 4 rfl (by simp only [go_sem, g1] <;> rfl) ?_
    refine AQ_c rfl (by simp only [go_sem] <;> rfl) fok34 (by simp only [List.map_cons, List.map_nil, List.append_nil, go_sem] <;> rfl) (c34 hB.sl (hT.keep hX8) (by omega)) (fun _ _ h => h.elim) (.inl rfl) fun r H9 hX9 ⟨hr, hH⟩ => ?_
    subst hr hH
    refine AQ_take TT_ok 2 rfl (by simp only [go_sem, dt] <;> rfl) ?_
    refine AQ_c rfl (by simp only [go_sem] <;> rfl) fok28 (by simp only [List.map_cons, List.map_nil, List.append_nil, go_sem] <;> rfl) (c28) (fun _ _ h => h.elim) (.inl rfl) fun r H9 hX9 hr => ?_
    subst hr
    refine AQ_all TT_ok rfl (by simp only [go_sem, dt] <;> rfl) ?_
    exact AC_ret ⟨.inl rfl, _, rfl, by simp only [go_sem]⟩
  · have di : decide (Isw t) = false := decide_eq_false hi
    rw [if_neg hi] at hP
    have d0 : decide ((([] : List Pr).length : Int) = 0) = true := rfl
    refine AC_seq ?_
    refine AC_seqQ TT_ok (by simp only [go_sem, g10, di, Bool.not_false] <;> rfl) ?_
    refine AC_t (by simp only [go_sem] <;> rfl) (rfl) ?_
    refine AC_seq ?_
    refine AC_regL ?_
    refine AQ_take TT_ok 4 rfl (by simp only [go_sem, g9, hP.alen, d0] <;> rfl) ?_
    refine AQ_c rfl (by simp only [go_sem] <;> rfl) fok28 (by simp only [List.map_cons, List.map_nil, List.append_nil, go_sem] <;> rfl) (c28) (fun _ _ h => h.elim) (.inl rfl) fun r H9 hX9 hr => ?_
    subst hr
    refine AQ_all TT_ok rfl (by simp only [go_sem, d0] <;> rfl) ?_
    exact AC_ret ⟨.inl rfl, _, rfl, by simp only [go_sem]⟩
end Go.Proofs.Ythalogdopkoidaa.Ab
