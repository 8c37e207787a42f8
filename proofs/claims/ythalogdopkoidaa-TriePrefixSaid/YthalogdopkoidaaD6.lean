/- Contract: the statement TriePrefix's function. No statement of the seat's in it. -/
import Derived.Test.YthalogdopkoidaaD5
set_option linter.unusedVariables false
set_option linter.unusedSimpArgs false
namespace Go.Proofs.Ythalogdopkoidaa.Ab
open Go Go.RowKit

section
variable {P : Program} {T : Tab} {N : Nat} {ok : Nat → Prop} {ops : List Oper} {late : List Nat} {σ : List (Nat × Bool)} {K : Env → AHeap → Prop} {e e' : Env} {H Hs : AHeap} {Msk : Nat → Prop}
theorem AG_one (hT : TOK P T) (i : Nat) (h : qsel T N ops H [i] e = some e') (hk : AG P N ok Msk ops late σ K Hs e' H) : AG P N ok Msk ops late ((i, false) :: σ) K Hs e H := by
  simp only [qsel, qat] at h
  cases ho : ops[i]? with
  | none => rw [ho] at h; cases h
  | some o =>
    rw [ho] at h
    dsimp only at h
    cases h1 : q1 T N ops H o e with
    | none => rw [h1] at h; cases h
    | some e1 =>
      rw [h1] at h
      obtain rfl : e1 = e' := Option.some.inj h
      exact AG_only hT ho h1 hk
end

theorem ahead_take (c : UInt8) (l : List Pr) (i : Nat) : ahead c (l.take i) = (ahead c l).take i := by simp [ahead]
theorem ahead_length (c : UInt8) (l : List Pr) : (ahead c l).length = l.length := by simp [ahead]

set_option maxRecDepth 100000 in
set_option maxHeartbeats 4000000 in
theorem c6 {H : AHeap} {vl : Value} {l : List Pr} {c : UInt8} (hl : PrS H vl l) : ACalls Try.prog 6 [vl, U c] H (fun _ => False) fun v H' => v = .bool true := by
  refine ACalls_by 157 TT_ok Try.func6 rfl rfl rfl (by simp) ?_
  refine AC_seqQ TT_ok (by simp only [go_sem] <;> rfl) ?_
  refine AC_cut (fun e' H' => H' = H ∧ szP l ≤ 3000 ∧ May l ∧ l ≠ [] ∧ get e' 0 = vl ∧ get e' 1 = U c) ?_ (fun e1 H1 _ ⟨hH, hsP, hm, hn, g0, g1⟩ => ?_)
  · refine AC_cut (fun e' H' => H' = H ∧ ∃ b, get e' 23 = .bool b ∧ (b = false → szP l ≤ 3000 ∧ May l ∧ l ≠ []) ∧ get e' 0 = vl ∧ get e' 1 = U c) ?_ (fun e1 H1 _ ⟨hH, b, h23, hb, g0, g1⟩ => ?_)
    · refine AC_regL ?_
      refine AQ_take TT_ok 1 rfl (by simp only [go_sem] <;> rfl) ?_
      refine AQ_c rfl (by simp only [go_sem] <;> rfl) fok26 (by simp only [List.map_cons, List.map_nil, List.append_nil, go_sem] <;> rfl) (c26 hl) (fun _ _ h => h.elim) (.inl rfl) fun r H1 hX1 ⟨hH, b, hr, hb⟩ => ?_
      subst hr hH
      cases b
      · have hs := hb rfl
        have := szP_len l
        refine AQ_take TT_ok 2 rfl (by simp only [go_sem] <;> rfl) ?_
        refine AQ_c rfl (by simp only [go_sem] <;> rfl) fok39 (by simp only [List.map_cons, List.map_nil, List.append_nil, go_sem] <;> rfl) (c39 hl (by omega)) (fun _ _ h => h.elim) (.inl rfl) fun r H1 hX1 ⟨hr, hH⟩ => ?_
        subst hr hH
        by_cases hm : May l
        · have dm : decide (May l) = true := decide_eq_true hm
          refine AQ_all TT_ok rfl (by simp only [go_sem, dm, Bool.not_true, hl.alen] <;> rfl) ?_
          refine ⟨rfl, decide ((l.length : Int) = 0), by simp only [go_sem], fun h => ⟨hs, hm, fun e => ?_⟩, by simp only [go_sem], by simp only [go_sem]⟩
          subst e; simp at h
        · have dm : decide (May l) = false := decide_eq_false hm
          refine AQ_all TT_ok rfl (by simp only [go_sem, dm, Bool.not_false, hl.alen] <;> rfl) ?_
          exact ⟨rfl, true, by simp only [go_sem], fun h => (by cases h), by simp only [go_sem], by simp only [go_sem]⟩
      · refine AQ_take TT_ok 2 rfl (by simp only [go_sem] <;> rfl) ?_
        refine AQ_pass rfl ?_
        refine AQ_all TT_ok rfl (by simp only [go_sem] <;> rfl) ?_
        exact ⟨rfl, true, by simp only [go_sem], fun h => (by cases h), by simp only [go_sem], by simp only [go_sem]⟩
    subst hH
    cases b
    · exact AC_f h23 rfl (AC_skip ⟨rfl, (hb rfl).1, (hb rfl).2.1, (hb rfl).2.2, g0, g1⟩)
    · refine AC_t h23 rfl ?_
      refine AC_seq ?_
      refine AC_regL ?_
      refine AQ_c rfl (by simp only [go_sem] <;> rfl) fok28 (by simp only [List.map_cons, List.map_nil, List.append_nil, go_sem] <;> rfl) (c28) (fun _ _ h => h.elim) (.inl rfl) fun r H1 hX1 hr => ?_
      subst hr
      refine AQ_all TT_ok rfl (by simp only [go_sem] <;> rfl) ?_
      exact AC_ret ⟨.inl rfl, _, rfl, by simp only [go_sem]⟩
  subst hH
  have hll := szP_len l
  have hlk := szP_key l
  refine AC_seqQ TT_ok (by simp only [go_sem] <;> rfl) ?_
  refine AC_cut (fun e' H' => (∃ vm, get e' 5 = vm ∧ PrS H' vm (ahead c l)) ∧ (∀ p ∈ l, p.key.length < 8) ∧ PrS H' vl l ∧ get e' 0 = vl ∧ get e' 1 = U c) ?_ (fun e2 H2 _ ⟨⟨vm, g5, hM⟩, h8, hL, g0, g1⟩ => ?_)
  · refine AC_seqQ TT_ok (by simp only [go_sem] <;> rfl) ?_
    refine AC_block (AC_loop (fun n e' H' => ∃ (i : Nat) (vm : Value), n = l.length - i ∧ i ≤ l.length ∧ PrB H' vm (ahead c (l.take i)) ∧ (∀ j, vid vm = some j → H1.length ≤ j) ∧ (∀ p ∈ l.take i, p.key.length < 8) ∧ AExt (fun _ => False) H1 H' ∧ get e' 0 = vl ∧ get e' 1 = U c ∧ get e' 5 = vm ∧ get e' 6 = .int .i64 (i : Nat)) l.length ⟨0, .slice none 0 0, by simp, by simp, Buf.nil _ _, fun j hj => (by cases hj), by simp, AExt.refl _ _, by simp only [go_sem, g0], by simp only [go_sem, g1], by simp only [go_sem], by simp only [go_sem] <;> simp⟩ ?_)
    rintro n E H2 _ ⟨i, vm, hn', hi, hM, hvm, h8, hX2, g0, g1, g5, g6⟩
    have hL := hl.keep hX2
    refine AC_seq ?_
    refine AC_seqQ TT_ok (by simp only [go_sem, g0, g6, hL.alen] <;> rfl) ?_
    by_cases hi' : i < l.length
    · refine AC_t (by simp only [go_sem] <;> rfl) (lt_dec hi') ?_
      refine AC_skip ?_
      have a1 := hL.index (k := .i64) (j := (i : Int)) (by omega) (by omega)
      rw [Int.toNat_natCast] at a1
      have a2 := hL.f0 hi'
      have a3 := hL.key hi'
      have a4 := hL.f1 hi'
      have a5 := hL.value hi'
      have k5 := wrapN i (by omega)
      refine AC_seq (AC_block ?_)
      by_cases h8' : l[i].key.length < 8
      · have d1 : decide ((8 : Int) ≤ (l[i].key.length : Int)) = false := decide_eq_false (by omega)
        refine AC_seq ?_
        refine AC_seqQ TT_ok (by simp only [go_sem, g0, g6, a1, a2, a3, d1] <;> rfl) ?_
        refine AC_f (by simp only [go_sem] <;> rfl) (rfl) ?_
        refine AC_skip ?_
        have hvl : ∀ j, vid vl = some j → j < H1.length := fun j hj => hl.vid_lt hj
        have hLm : PrS (msk H2 vm) vl l := hL.ext (msk_ext H2 vm) fun j hj hv hm => by have := hvl j hv; have := hvm j hm; omega
        have b1 := hLm.index (k := .i64) (j := (i : Int)) (by omega) (by omega)
        rw [Int.toNat_natCast] at b1
        have b2 := hLm.f0 hi'
        have b3 := hLm.key hi'
        have b4 := hLm.f1 hi'
        have b5 := hLm.value hi'
        refine AC_drawG (fun j => vid vm = some j) (msk H2 vm) [] [(0, true), (1, true), (4, true), (5, true), (6, true), (7, true), (8, true), (10, true), (11, true), (12, true), (13, true), (14, true), (2, false), (3, false), (9, true), (15, true), (16, false), (17, false), (18, true)] mixed (by kernel_rfl) (Buf.live hM) (fun j o h => msk_live h) (Nat.le_of_eq (msk_len _ _)) ?_
        refine AG_sel (σ := [(2, false), (3, false), (9, true), (15, true), (16, false), (17, false), (18, true)]) TT_ok [0, 1, 4, 5, 6, 7, 8, 10, 11, 12, 13, 14] _ (by simp only [go_sem, g0, g1, g5, g6, b1, b2, b3, b4, b5] <;> rfl) ?_
        refine AG_lit TT_ok [U c] rfl TT_50 rfl TT_5 rfl (by decide) rfl (by decide) rfl (by simp only [List.map_cons, List.map_nil, go_sem, numbered]) (fun v hv => ?_) fun H3 hX3 hO3 hL3 => ?_
        · rw [List.mem_singleton] at hv; subst hv; exact ⟨_, (One.byte _).lay, rfl⟩
        have hby : ByS H3 (.slice (some ⟨H2.length, 0, none⟩) 1 1) [c] := hO3.sl
        refine AG_one TT_ok 3 (by simp only [go_sem, hby.conv] <;> rfl) ?_
        have hkey := (hm.1 _ (List.getElem_mem hi')).2.1
        have ad := as_add 9 [c] l[i].key (by simp; omega)
        refine AG_sel (σ := [(16, false), (17, false), (18, true)]) TT_ok [9, 15] _ (by simp only [go_sem, ad, List.map_cons, List.map_nil, bp52] <;> rfl) ?_
        refine AG_lit TT_ok [(Pr.mk ([c] ++ l[i].key) l[i].value).val] rfl TT_22 rfl TT_52 rfl (by decide) rfl (by decide) rfl (by simp only [List.map_cons, List.map_nil, go_sem, numbered]) (fun v hv => ?_) fun H4 hX4 hO4 hL4 => ?_
        · rw [List.mem_singleton] at hv; subst hv; exact ⟨_, Lay.pr _, rfl⟩
        have hX34 := hX3.trans hX4
        have hlen : (ahead c (l.take i)).length = i := by rw [ahead_length, List.length_take]; omega
        refine AG_append TT_ok (v := vm) (n := (ahead c (l.take i)).length) (m := 1) rfl TT_22 rfl TT_52 (by decide) (by decide) rfl (by simp only [go_sem]) (by simp only [go_sem]) (Buf.keep hM hX34) hO4.sl (rows_length Pr.len _) rfl (by rw [hlen]; simp; omega) (fun j hj => .inl (hvm j hj)) (fun j _ hj => hj) fun v' H5 hX5 hB5 hv5 => ?_
        have hB5' : PrB H5 v' (ahead c (l.take (i + 1))) := by
          have e : (ahead c (l.take i)).flatMap Pr.cells ++ ([(Pr.mk ([c] ++ l[i].key) l[i].value).val] : List Value).flatMap (fun v => v.cells.toList) = (ahead c (l.take (i + 1))).flatMap Pr.cells := by
            rw [tk hi']
            simp only [ahead, List.map_append, List.flatMap_append]
            rfl
          rw [e] at hB5
          have el : (ahead c (l.take (i + 1))).length = (ahead c (l.take i)).length + 1 := by rw [hlen, ahead_length, List.length_take]; omega
          rw [PrB, el]; exact hB5
        have hv5' : ∀ j, vid v' = some j → H4.length ≤ j := fun j hj => by
          rcases hv5 j hj with h | h
          · exact h
          · cases h.1
        refine AG_sel (σ := []) TT_ok [18] _ (by simp only [go_sem] <;> rfl) ?_
        refine AG_nil ?_
        refine AC_quiet TT_ok (by simp only [go_sem, g6, k5] <;> rfl) ?_
        have s2 := hX2.size
        have s34 := hX34.size
        refine ⟨l.length - (i + 1), by omega, i + 1, v', rfl, by omega, hB5', fun j hj => by have := hv5' j hj; omega, fun p hp => ?_, ⟨by have := hX5.size; omega, fun j hj _ => ?_⟩, by simp only [go_sem, g0], by simp only [go_sem, g1], by simp only [go_sem], by simp only [go_sem]⟩
        · rw [tk hi', List.mem_append, List.mem_singleton] at hp
          rcases hp with hp | rfl
          · exact h8 p hp
          · exact h8'
        · rw [hX5.obj j (by omega) (fun h => by have := hvm j h; omega), hX34.obj j (by omega) id, hX2.obj j hj id]
      · have d1 : decide ((8 : Int) ≤ (l[i].key.length : Int)) = true := decide_eq_true (by omega)
        refine AC_seq ?_
        refine AC_seqQ TT_ok (by simp only [go_sem, g0, g6, a1, a2, a3, d1] <;> rfl) ?_
        refine AC_t (by simp only [go_sem] <;> rfl) (rfl) ?_
        refine AC_seq ?_
        refine AC_regL ?_
        refine AQ_c rfl (by simp only [go_sem] <;> rfl) fok28 (by simp only [List.map_cons, List.map_nil, List.append_nil, go_sem] <;> rfl) (c28) (fun _ _ h => h.elim) (.inl rfl) fun r H3 hX3 hr => ?_
        subst hr
        refine AQ_all TT_ok rfl (by simp only [go_sem] <;> rfl) ?_
        exact AC_ret ⟨.inl rfl, _, rfl, by simp only [go_sem]⟩
    · refine AC_f (by simp only [go_sem] <;> rfl) (ge_dec (by omega)) ?_
      rw [List.take_of_length_le (by omega)] at hM h8
      exact AC_exit ⟨⟨vm, by simp only [go_sem, g5], hM.sl⟩, h8, hL, by simp only [go_sem, g0], by simp only [go_sem, g1]⟩
  obtain ⟨x, t, y, u, hbt, hbu, hlaw⟩ := prefix_law hm hn c h8
  have hmm := hm.ahead c h8
  have dm : decide (May l) = true := decide_eq_true hm
  have dmm : decide (May (ahead c l)) = true := decide_eq_true hmm
  have hal : (ahead c l).length < 2^20 := by rw [ahead_length]; omega
  refine AC_seq ?_
  refine AC_regL ?_
  refine AQ_take TT_ok 1 rfl (by simp only [go_sem, g0] <;> rfl) ?_
  refine AQ_c rfl (by simp only [go_sem] <;> rfl) fok29 (by simp only [List.map_cons, List.map_nil, List.append_nil, go_sem] <;> rfl) (c29 hL (by omega)) (fun _ _ h => h.elim) (.inl rfl) fun r H3 hX3 ⟨va, hr, hA, _⟩ => ?_
  subst hr
  rw [if_pos hm, hbt] at hA
  refine AQ_all TT_ok rfl (by simp only [go_sem, dm] <;> rfl) ?_
  have hA3 : NdS H3 va (x :: t) := hA.sl
  refine AC_seq ?_
  refine AC_regL ?_
  refine AQ_take TT_ok 1 rfl (by simp only [go_sem, g5] <;> rfl) ?_
  refine AQ_c rfl (by simp only [go_sem] <;> rfl) fok29 (by simp only [List.map_cons, List.map_nil, List.append_nil, go_sem] <;> rfl) (c29 (hM.keep hX3) hal) (fun _ _ h => h.elim) (.inl rfl) fun r H4 hX4 ⟨vb, hr, hB, _⟩ => ?_
  subst hr
  rw [if_pos hmm, hbu] at hB
  refine AQ_all TT_ok rfl (by simp only [go_sem, dmm] <;> rfl) ?_
  have hA4 := hA3.keep hX4
  have hB4 : NdS H4 vb (y :: u) := hB.sl
  have z1 : decide (((x :: t).length : Int) = 0) = false := decide_eq_false (by simp; omega)
  have z2 : decide (((y :: u).length : Int) = 0) = false := decide_eq_false (by simp; omega)
  refine AC_seq ?_
  refine AC_seqQ TT_ok (by simp only [go_sem, Bool.not_true, hA4.alen, hB4.alen, z1, z2] <;> rfl) ?_
  refine AC_f (by simp only [go_sem] <;> rfl) (rfl) ?_
  refine AC_skip ?_
  refine AC_seq ?_
  refine AC_regL ?_
  refine AQ_take TT_ok 4 rfl (by simp only [go_sem, g1] <;> rfl) ?_
  refine AQ_lit TT_ok [U (c / 16), U (c % 16)] TT_50 rfl TT_5 rfl (by decide) rfl (by decide) rfl (by simp only [List.map_cons, List.map_nil, go_sem, numbered]) (fun v hv => ?_) fun H5 hX5 hO5 hL5 => ?_
  · simp only [List.mem_cons, List.not_mem_nil, or_false] at hv
    rcases hv with rfl | rfl <;> exact ⟨_, (One.byte _).lay, rfl⟩
  have hby : ByS H5 (.slice (some ⟨H4.length, 0, none⟩) 2 2) [c / 16, c % 16] := hO5.sl
  refine AQ_all TT_ok rfl (by simp only [go_sem, hby.conv] <;> rfl) ?_
  have hA5 := hA4.keep hX5
  have hB5 := hB4.keep hX5
  have i0 : aindex TT 24 va (.int .i64 0) = some (ep va (0 * 20)) := hA5.index (by decide) (by simp)
  have i1 : afield TT 49 (ep va (0 * 20)) 0 = some (ep va (0 * 20 + 0)) := hA5.f0 (by simp)
  have i2 : aload TT H5 3 (ep va (0 * 20 + 0)) = some (.int .i64 x.kind) := hA5.kind (i := 0) (by simp)
  have i3 : afield TT 49 (ep va (0 * 20)) 1 = some (ep va (0 * 20 + 1)) := hA5.f1 (by simp)
  have i4 : aload TT H5 9 (ep va (0 * 20 + 1)) = some (S x.path) := hA5.path (i := 0) (by simp)
  have j0 : aindex TT 24 vb (.int .i64 0) = some (ep vb (0 * 20)) := hB5.index (by decide) (by simp)
  have j1 : afield TT 49 (ep vb (0 * 20)) 0 = some (ep vb (0 * 20 + 0)) := hB5.f0 (by simp)
  have j2 : aload TT H5 3 (ep vb (0 * 20 + 0)) = some (.int .i64 y.kind) := hB5.kind (i := 0) (by simp)
  have j3 : afield TT 49 (ep vb (0 * 20)) 1 = some (ep vb (0 * 20 + 1)) := hB5.f1 (by simp)
  have j4 : aload TT H5 9 (ep vb (0 * 20 + 1)) = some (S y.path) := hB5.path (i := 0) (by simp)
  have hlt : (x :: t).length ≤ 17 * 3000 := by have := build_len l; rw [hbt] at this; omega
  refine AC_fixe (fun e' => get e' 7 = va ∧ get e' 9 = vb ∧ get e' 11 = S [c / 16, c % 16]) ⟨by simp only [go_sem], by simp only [go_sem], by simp only [go_sem]⟩ (fun e6 ⟨g7, g9, g11⟩ => ?_)
  rcases hlaw with ⟨hk, ⟨z, v, hzv, hzk⟩, hlen, hyk, hyp⟩ | ⟨hk, hlen, hyk, hyp⟩
  · have dk : decide (x.kind = 3) = true := decide_eq_true hk
    subst hzv
    have j5 : aindex TT 24 vb (.int .i64 1) = some (ep vb (1 * 20)) := hB5.index (by decide) (by simp; omega)
    have j6 : afield TT 49 (ep vb (1 * 20)) 0 = some (ep vb (1 * 20 + 0)) := hB5.f0 (by simp)
    have j7 : aload TT H5 3 (ep vb (1 * 20 + 0)) = some (.int .i64 z.kind) := hB5.kind (i := 1) (by simp)
    have kk := wrapN (x :: t).length (by omega)
    have dl : decide (((y :: z :: v).length : Int) = (((x :: t).length + 1 : Nat) : Int)) = true := decide_eq_true (by simp at hlen ⊢; omega)
    have dy : decide (y.kind = 2) = true := decide_eq_true hyk
    have dp : decide (y.path = [c / 16, c % 16]) = true := decide_eq_true hyp
    have dz : decide (z.kind = 3) = true := decide_eq_true hzk
    refine AC_seq ?_
    refine AC_seqQ TT_ok (by simp only [go_sem, g7, i0, i1, i2] <;> rfl) ?_
    refine AC_t (by simp only [go_sem] <;> rfl) (dk) ?_
    refine AC_seq ?_
    refine AC_regL ?_
    refine AQ_take TT_ok 29 rfl (by simp only [go_sem, g7, g9, g11, hA5.alen, hB5.alen, kk, dl, j1, j0, j2, dy, j3, j4, dp, j5, j6, j7, dz] <;> rfl) ?_
    refine AQ_c rfl (by simp only [go_sem] <;> rfl) fok28 (by simp only [List.map_cons, List.map_nil, List.append_nil, go_sem] <;> rfl) (c28) (fun _ _ h => h.elim) (.inl rfl) fun r H9 hX9 hr => ?_
    subst hr
    refine AQ_all TT_ok rfl (by simp only [go_sem, dz] <;> rfl) ?_
    exact AC_ret ⟨.inl rfl, _, rfl, by simp only [go_sem]⟩
  · have dk : decide (x.kind = 3) = false := decide_eq_false hk
    have dl : decide (((y :: u).length : Int) = ((x :: t).length : Int)) = true := decide_eq_true (by simp at hlen ⊢; omega)
    have dy : decide (y.kind = x.kind) = true := decide_eq_true hyk
    have hxp : x.path.length ≤ 16 := build_path hm x (by rw [hbt]; simp)
    have ad := as_add 9 [c / 16, c % 16] x.path (by simp; omega)
    have dp : decide (y.path = [c / 16, c % 16] ++ x.path) = true := decide_eq_true hyp
    refine AC_seq ?_
    refine AC_seqQ TT_ok (by simp only [go_sem, g7, i0, i1, i2] <;> rfl) ?_
    refine AC_f (by simp only [go_sem] <;> rfl) (dk) ?_
    refine AC_skip ?_
    refine AC_seq ?_
    refine AC_regD [] mixed (by kernel_rfl) ?_
    refine AQ_take TT_ok 30 rfl (by simp only [go_sem, g7, g9, g11, hA5.alen, hB5.alen, dl, j0, j1, j2, i0, i1, i2, dy, j3, j4, i3, i4, ad, dp] <;> rfl) ?_
    refine AQ_c rfl (by simp only [go_sem] <;> rfl) fok28 (by simp only [List.map_cons, List.map_nil, List.append_nil, go_sem] <;> rfl) (c28) (fun _ _ h => h.elim) (.inr (.inr fun _ _ h => h)) fun r H9 hX9 hr => ?_
    subst hr
    refine AQ_all TT_ok rfl (by simp only [go_sem, dp] <;> rfl) ?_
    exact AC_ret ⟨.inl rfl, _, rfl, by simp only [go_sem]⟩
end Go.Proofs.Ythalogdopkoidaa.Ab
