/- Contracts: the reference's Key, its May, the program's. No statement of the seat's in it. -/
import Derived.Test.YthalogdopkoidaaC3
set_option linter.unusedVariables false
set_option linter.unusedSimpArgs false
namespace Go.Proofs.Ythalogdopkoidaa.Ab
open Go Go.RowKit

theorem lay109 (s : List UInt8) (b : Bool) : Lay (.agg #[S s, .bool b]) [S s, .bool b] := ⟨rfl, rfl, rfl⟩

theorem c66 {H : AHeap} {a : List UInt8} (ha : a.length < 2^40) : ACalls Try.prog 66 [S a] H (fun _ => False) fun v H' => v = .agg #[S ((keyOf a).getD []), .bool (keyOf a).isSome] := by
  refine ACalls_by 40 TT_ok Try.func66 rfl rfl rfl (by simp) ?_
  refine AC_seq ?_
  refine AC_regL ?_
  refine AQ_alloc TT_ok TT_109 rfl fun Hm hXm hOm hLm => ?_
  refine AQ_all TT_ok rfl (by simp only [go_sem] <;> rfl) ?_
  refine AC_seqQ TT_ok (by simp only [go_sem] <;> rfl) ?_
  refine AC_cut (fun e' H' => get e' 0 = S a ∧ get e' 2 = .pointer (some ⟨H.length, 0, none⟩) ∧ (keyOf a).isSome = true ∧ Ob H' H.length 109 [S [], .bool false] ∧ ∃ vb, get e' 3 = vb ∧ ByS H' vb (unn a) ∧ vid vb ≠ some H.length) ?_ (fun e1 H1 hX ⟨h0, h2, hk, hO, vb, h3, hS, hne⟩ => ?_)
  rotate_left
  · have hb : abuild TT 109 [(0, S (unn a)), (1, .bool true)] = some (.agg #[S (unn a), .bool true]) := rfl
    refine AC_seq ?_
    refine AC_regL ?_
    refine AQ_take TT_ok 3 rfl (by simp only [go_sem, h3, hS.conv, List.map_cons, List.map_nil, hb] <;> rfl) ?_
    refine AQ_store TT_ok TT_109 rfl (by simp only [go_sem, h2] <;> rfl) (by simp only [go_sem] <;> rfl) (lay109 _ _) rfl hO (by simp) (.inl (Nat.le_refl _)) (.inl rfl) fun H2 hX2 hO2 hL2 => ?_
    refine AQ_nil ?_
    refine AC_ret ⟨.inl rfl, (.agg #[S (unn a), .bool true]), ?_, ?_⟩
    · have : get e1 2 = .pointer (some ⟨H.length, 0, none⟩) := h2
      show ares TT H2 _ [.cell 2 109] = _
      simp only [ares, List.mapM_cons, List.mapM_nil, ares1, go_sem, h2, hO2.load]
      rfl
    · rw [(keyOf_some hk).2.2]; rfl
  refine AC_seq ?_
  refine AC_quiet TT_ok (by simp only [go_sem] <;> rfl) ?_
  refine AC_block (AC_loop (fun n e' H' => ∃ (i : Nat) (vb : Value), n = a.length - i ∧ i ≤ a.length ∧ (∀ b ∈ a.take i, b ≤ 15) ∧ (0 < i → a.length % 2 = 0) ∧ Ob H' H.length 109 [S [], .bool false] ∧ Buf H' vb 5 (i / 2) ((unn (a.take i)).flatMap bCell) ∧ (∀ j, vid vb = some j → H.length < j) ∧ H.length < H'.length ∧ get e' 0 = S a ∧ get e' 2 = .pointer (some ⟨H.length, 0, none⟩) ∧ get e' 3 = vb ∧ get e' 4 = .int .i64 (i : Nat)) a.length
    ⟨0, .slice none 0 0, by simp, by simp, by simp, by simp, hOm, Buf.nil _ _, fun j hj => (by cases hj), by omega, by simp only [go_sem], by simp only [go_sem], by simp only [go_sem], by simp only [go_sem] <;> simp⟩ ?_)
  rintro n e1 H1 hX1 ⟨i, vb, hn, hi, hs, hev, hO, hB, hv, hlen, h0, h2, h3, h4⟩
  have k5 := wrapN i (by omega)
  refine AC_seq ?_
  refine AC_seqQ TT_ok (by simp only [go_sem, h0, h4] <;> rfl) ?_
  by_cases hi' : i < a.length
  · refine AC_t (by simp only [go_sem] <;> rfl) (lt_dec hi') ?_
    refine AC_skip ?_
    refine AC_seq (AC_block ?_)
    refine AC_seq ?_
    have gb := aget_S (k := .i64) hi'
    by_cases hbad : 15 < a[i] ∨ a.length % 2 = 1
    · refine AC_cut (fun e' H' => H' = H1 ∧ get e' 2 = .pointer (some ⟨H.length, 0, none⟩) ∧ get e' 20 = .bool true) ?_ (fun e2 H2 hX2 ⟨hH, g2, g20⟩ => ?_)
      · by_cases hb1 : 15 < a[i]
        · have d1 : decide (15 < a[i]) = true := decide_eq_true hb1
          refine AC_quiet TT_ok (by simp only [go_sem, h0, h4, gb, d1] <;> rfl) ?_
          exact ⟨rfl, by simp only [go_sem, h2], by simp only [go_sem]⟩
        · have d1 : decide (15 < a[i]) = false := decide_eq_false hb1
          have m1 : abinInt .rem .i64 (a.length : Int) .i64 2 = some (.int .i64 1) := by rw [rem2 _ (by omega), hbad.resolve_left hb1]; rfl
          have d2 : decide ((1 : Int) = 0) = false := rfl
          refine AC_quiet TT_ok (by simp only [go_sem, h0, h4, gb, d1, m1, d2, Bool.not_false] <;> rfl) ?_
          exact ⟨rfl, by simp only [go_sem, h2], by simp only [go_sem]⟩
      · subst hH
        refine AC_t g20 rfl ?_
        have hb : abuild TT 109 [] = some (.agg #[S [], .bool false]) := rfl
        refine AC_seq ?_
        refine AC_regL ?_
        refine AQ_take TT_ok 1 rfl (by simp only [go_sem, List.map_nil, hb] <;> rfl) ?_
        refine AQ_store TT_ok TT_109 rfl (by simp only [go_sem, g2] <;> rfl) (by simp only [go_sem] <;> rfl) (lay109 _ _) rfl hO (by simp) (.inl (Nat.le_refl _)) (.inl rfl) fun H3 hX3 hO3 hL3 => ?_
        refine AQ_nil (AC_ret ⟨.inl rfl, (.agg #[S [], .bool false]), ?_, ?_⟩)
        · show ares TT H3 _ [.cell 2 109] = _
          simp only [ares, List.mapM_cons, List.mapM_nil, ares1, go_sem, g2, hO3.load]
          rfl
        · rw [keyOf_none]; rfl
          rintro ⟨h1, h2⟩
          rcases hbad with h | h
          · exact absurd (h2 _ (List.getElem_mem hi')) (UInt8.not_le.2 h)
          · omega
    · have hb1 : ¬ 15 < a[i] := fun h => hbad (.inl h)
      have he : a.length % 2 = 0 := by omega
      have d1 : decide (15 < a[i]) = false := decide_eq_false hb1
      have m1 : abinInt .rem .i64 (a.length : Int) .i64 2 = some (.int .i64 0) := by rw [rem2 _ (by omega), he]; rfl
      have d2 : decide ((0 : Int) = 0) = true := rfl
      have hs' : ∀ b ∈ a.take (i + 1), b ≤ 15 := fun b hb => by
        rw [tk hi', List.mem_append, List.mem_singleton] at hb
        rcases hb with h | rfl
        · exact hs b h
        · exact UInt8.not_lt.1 hb1
      refine AC_seqQ TT_ok (by simp only [go_sem, h0, h4, gb, d1, m1, d2, Bool.not_true] <;> rfl) ?_
      refine AC_f (by simp only [go_sem] <;> rfl) (rfl) ?_
      refine AC_skip ?_
      rcases (by omega : i % 2 = 0 ∨ i % 2 = 1) with hp | hp
      · have m2 : abinInt .rem .i64 (i : Int) .i64 2 = some (.int .i64 0) := by rw [rem2 _ (by omega), hp]; rfl
        have d3 : decide ((0 : Int) = 1) = false := rfl
        refine AC_seqQ TT_ok (by simp only [go_sem, h4, m2, d3] <;> rfl) ?_
        refine AC_f (by simp only [go_sem] <;> rfl) (rfl) ?_
        refine AC_skip ?_
        refine AC_quiet TT_ok (by simp only [go_sem, h4, k5] <;> rfl) ?_
        refine ⟨a.length - (i + 1), by omega, i + 1, vb, rfl, by omega, hs', fun _ => he, hO, ?_, hv, hlen, by simp only [go_sem, h0], by simp only [go_sem, h2], by simp only [go_sem, h3], by simp only [go_sem]⟩
        rw [tk hi', unn_one _ _ (by rw [List.length_take]; omega), show (i + 1) / 2 = i / 2 by omega]
        exact hB
      · have m2 : abinInt .rem .i64 (i : Int) .i64 2 = some (.int .i64 1) := by rw [rem2 _ (by omega), hp]; rfl
        have d3 : decide ((1 : Int) = 1) = true := rfl
        refine AC_seqQ TT_ok (by simp only [go_sem, h4, m2, d3] <;> rfl) ?_
        refine AC_t (by simp only [go_sem] <;> rfl) (rfl) ?_
        have k6 : IntKind.i64.wrap ((i : Int) - 1) = ((i - 1 : Nat) : Int) := by rw [wrap64 (by omega) (by omega)]; omega
        have gb2 := aget_S (l := a) (j := i - 1) (k := .i64) (by omega)
        refine AC_regD [11] mixed (by kernel_rfl) ?_
        refine AQ_take TT_ok 10 rfl (by simp only [go_sem, h0, h3, h4, k6, gb2, gb] <;> rfl) ?_
        refine AQ_lit TT_ok [U (a[i - 1] * 16 + a[i])] TT_50 rfl TT_5 rfl (by decide) rfl (by decide) rfl (by simp only [List.map_cons, List.map_nil, go_sem, numbered]) (fun v hv => ?_) fun H2 hX2 hO2 hL2 => ?_
        · simp only [List.mem_cons, List.not_mem_nil, or_false] at hv
          subst hv
          exact ⟨_, (One.byte _).lay, rfl⟩
        have hB2 := hB.keep hX2
        refine AQ_append TT_ok (v := vb) (n := i / 2) (m := 1) TT_50 rfl TT_5 (by decide) (by decide) rfl (by simp only [go_sem, h3]) (by simp only [go_sem]) hB2 hO2.sl (by rw [rows_length bCell_len, unn_length, List.length_take]; simp; omega) rfl (by simp; omega) (fun j hj => .inl (Nat.le_of_lt (hv j hj))) (.inr (.inl rfl)) fun v' H3 hX3 hB3 hv3 => ?_
        have e1 : a.take i = a.take (i - 1) ++ [a[i - 1]] := by
          have := tk (l := a) (i := i - 1) (by omega)
          rwa [show i - 1 + 1 = i by omega] at this
        have hfin : (unn (a.take i)).flatMap bCell ++ ([U (a[i - 1] * 16 + a[i])] : List Value).flatMap (fun v => v.cells.toList) = (unn (a.take (i + 1))).flatMap bCell := by
          have hl : (a.take (i - 1)).length % 2 = 0 := by rw [List.length_take]; omega
          rw [tk hi', e1, unn_one _ _ hl, List.append_assoc]
          show _ = (unn (a.take (i - 1) ++ [a[i - 1], a[i]])).flatMap bCell
          rw [unn_two _ _ _ hl, List.flatMap_append]
          rfl
        rw [hfin] at hB3
        refine AQ_all TT_ok rfl (by simp only [go_sem] <;> rfl) ?_
        refine AC_quiet TT_ok (by simp only [go_sem, h4, k5] <;> rfl) ?_
        refine ⟨a.length - (i + 1), by omega, i + 1, v', rfl, by omega, hs', fun _ => he, (hO.keep hX2).ext hX3 (fun h => Nat.lt_irrefl _ (hv _ h)), ?_, fun j hj => ?_, ?_, by simp only [go_sem, h0], by simp only [go_sem, h2], by simp only [go_sem], by simp only [go_sem]⟩
        · rw [show (i + 1) / 2 = i / 2 + 1 by omega]; exact hB3
        · rcases hv3 j hj with h | h
          · exact Nat.lt_of_lt_of_le (Nat.lt_of_lt_of_le hlen hX2.size) h
          · cases h.1
        · exact Nat.lt_of_lt_of_le (Nat.lt_of_lt_of_le hlen hX2.size) hX3.size
  · refine AC_f (by simp only [go_sem] <;> rfl) (ge_dec (by omega)) ?_
    refine AC_exit ⟨by simp only [go_sem, h0], by simp only [go_sem, h2], ?_, hO, vb, by simp only [go_sem, h3], ?_, fun h => Nat.lt_irrefl _ (hv _ h)⟩
    · rw [List.take_of_length_le (by omega)] at hs
      by_cases h0 : a.length = 0
      · have : a = [] := List.eq_nil_of_length_eq_zero h0
        subst this; rfl
      · rw [keyOf, if_pos ⟨hev (by omega), hs⟩]; rfl
    · rw [List.take_of_length_le (by omega)] at hB
      rw [ByS, unn_length, show a.length = i by omega]
      exact hB.sl
end Go.Proofs.Ythalogdopkoidaa.Ab
