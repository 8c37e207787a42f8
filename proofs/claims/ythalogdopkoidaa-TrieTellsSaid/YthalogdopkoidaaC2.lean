/- Contracts of the functions that look at texts' bytes. No statement of the seat's in it. -/
import Derived.Test.YthalogdopkoidaaB7
set_option linter.unusedVariables false
set_option linter.unusedSimpArgs false
namespace Go.Proofs.Ythalogdopkoidaa.Ab
open Go Go.RowKit

theorem wrapN (i : Nat) (h : i < 2^62) : IntKind.i64.wrap ((i : Int) + 1) = ((i + 1 : Nat) : Int) := by
  rw [wrap64 (by omega) (by omega)]; simp
theorem Int.min_nat (a b : Nat) : min (a : Int) (b : Int) = ((min a b : Nat) : Int) := by omega
theorem lt_dec {a b : Nat} (h : a < b) : decide ((a : Int) < (b : Int)) = true := decide_eq_true (by omega)
theorem ge_dec {a b : Nat} (h : b ≤ a) : decide ((a : Int) < (b : Int)) = false := decide_eq_false (by omega)


theorem c76 {H : AHeap} {a b : List UInt8} (ha : a.length < 2^62) : ACalls Try.prog 76 [S a, S b] H (fun _ => False) fun v H' => v = .int .i64 (com a b) ∧ H' = H := by
  refine ACalls_by 28 TT_ok Try.func76 rfl rfl rfl (by simp) ?_
  refine AC_seqQ TT_ok (by simp only [go_sem] <;> rfl) ?_
  refine AC_seq ?_
  refine AC_quiet TT_ok (by simp only [go_sem] <;> rfl) ?_
  refine AC_cut (fun e' H' => H' = H ∧ get e' 5 = .int .i64 (com a b : Nat)) (AC_block (AC_loop (fun n e' H' => ∃ i : Nat, n = a.length - i ∧ i ≤ a.length ∧ i ≤ b.length ∧ (∀ j, j < i → a[j]? = b[j]?) ∧ H' = H ∧ get e' 0 = S a ∧ get e' 1 = S b ∧ get e' 5 = .int .i64 (i : Nat)) a.length ⟨0, by simp, by simp, by simp, by simp, rfl, by simp only [go_sem], by simp only [go_sem], by simp only [go_sem] <;> simp⟩ ?_)) (fun e1 H1 _ ⟨hH, h5⟩ => ?_)
  rotate_left
  · subst hH
    refine AC_seqQ TT_ok (by simp only [go_sem, h5] <;> rfl) ?_
    exact AC_ret ⟨.inl rfl, _, rfl, by simp only [go_sem], rfl⟩
  rintro n e1 H1 _ ⟨i, hn, hi, hi2, hs, rfl, h0, h1, h5⟩
  have k5 := wrapN i (by omega)
  have fin : ∀ e2 : Env, get e2 5 = .int .i64 (i : Nat) → com a b = i → H1 = H1 ∧ get e2 5 = .int .i64 (com a b : Nat) := fun e2 h hc => ⟨rfl, by rw [h, hc]⟩
  refine AC_seq ?_
  by_cases hi' : i < a.length
  · have d1 := lt_dec hi'
    by_cases hj' : i < b.length
    · have d2 := lt_dec hj'
      refine AC_seqD TT_ok mixed (by kernel_rfl) (by simp only [go_sem, h0, h1, h5, d1, d2, aget_S hi', aget_S hj'] <;> rfl) ?_
      by_cases he : a[i] = b[i]
      · refine AC_t (by simp only [go_sem] <;> rfl) (decide_eq_true he) ?_
        refine AC_skip ?_
        refine AC_block ?_
        refine AC_quiet TT_ok (by simp only [go_sem, h5, k5] <;> rfl) ?_
        refine ⟨a.length - (i + 1), by omega, i + 1, rfl, by omega, by omega, fun j hj => ?_, rfl, by simp only [go_sem, h0], by simp only [go_sem, h1], by simp only [go_sem]⟩
        rcases Nat.lt_succ_iff_lt_or_eq.1 hj with h | rfl
        · exact hs j h
        · rw [List.getElem?_eq_getElem hi', List.getElem?_eq_getElem hj', he]
      · refine AC_f (by simp only [go_sem] <;> rfl) (decide_eq_false he) ?_
        refine AC_exit (fin _ (by simp only [go_sem, h5]) (com_eq a b i hi hi2 hs (.inr (.inr ?_))))
        rw [List.getElem?_eq_getElem hi', List.getElem?_eq_getElem hj']
        simpa using he
    · have d2 := ge_dec (a := i) (b := b.length) (by omega)
      refine AC_seqD TT_ok mixed (by kernel_rfl) (by simp only [go_sem, h0, h1, h5, d1, d2] <;> rfl) ?_
      refine AC_f (by simp only [go_sem] <;> rfl) (rfl) ?_
      exact AC_exit (fin _ (by simp only [go_sem, h5]) (com_eq a b i hi hi2 hs (.inr (.inl (by omega)))))
  · have d1 := ge_dec (a := i) (b := a.length) (by omega)
    refine AC_seqD TT_ok mixed (by kernel_rfl) (by simp only [go_sem, h0, h1, h5, d1] <;> rfl) ?_
    refine AC_f (by simp only [go_sem] <;> rfl) (rfl) ?_
    exact AC_exit (fin _ (by simp only [go_sem, h5]) (com_eq a b i hi hi2 hs (.inl (by omega))))

theorem c79 {H : AHeap} {a b : List UInt8} (ha : a.length < 2^62) : ACalls Try.prog 79 [S a, S b] H (fun _ => False) fun v H' => v = .int .i64 (com a b) ∧ H' = H := by
  refine ACalls_by 25 TT_ok Try.func79 rfl rfl rfl (by simp) ?_
  refine AC_seqQ TT_ok (by simp only [go_sem] <;> rfl) ?_
  refine AC_seq ?_
  refine AC_quiet TT_ok (by simp only [go_sem] <;> rfl) ?_
  refine AC_cut (fun e' H' => H' = H ∧ get e' 5 = .int .i64 (com a b : Nat)) (AC_block (AC_loop (fun n e' H' => ∃ i : Nat, n = a.length - i ∧ i ≤ a.length ∧ i ≤ b.length ∧ (∀ j, j < i → a[j]? = b[j]?) ∧ H' = H ∧ get e' 0 = S a ∧ get e' 1 = S b ∧ get e' 5 = .int .i64 (i : Nat)) a.length ⟨0, by simp, by simp, by simp, by simp, rfl, by simp only [go_sem], by simp only [go_sem], by simp only [go_sem] <;> simp⟩ ?_)) (fun e1 H1 _ ⟨hH, h5⟩ => ?_)
  rotate_left
  · subst hH
    refine AC_seqQ TT_ok (by simp only [go_sem, h5] <;> rfl) ?_
    exact AC_ret ⟨.inl rfl, _, rfl, by simp only [go_sem], rfl⟩
  rintro n e1 H1 _ ⟨i, hn, hi, hi2, hs, rfl, h0, h1, h5⟩
  have k5 := wrapN i (by omega)
  have fin : ∀ e2 : Env, get e2 5 = .int .i64 (i : Nat) → com a b = i → H1 = H1 ∧ get e2 5 = .int .i64 (com a b : Nat) := fun e2 h hc => ⟨rfl, by rw [h, hc]⟩
  refine AC_seq ?_
  by_cases hi' : i < min a.length b.length
  · have d1 := lt_dec hi'
    have hi' : i < a.length := by omega
    have hj' : i < b.length := by omega
    refine AC_seqD TT_ok mixed (by kernel_rfl) (by simp only [go_sem, h0, h1, h5, Int.min_nat, d1, aget_S hi', aget_S hj'] <;> rfl) ?_
    by_cases he : a[i] = b[i]
    · refine AC_t (by simp only [go_sem] <;> rfl) (decide_eq_true he) ?_
      refine AC_skip ?_
      refine AC_block ?_
      refine AC_quiet TT_ok (by simp only [go_sem, h5, k5] <;> rfl) ?_
      refine ⟨a.length - (i + 1), by omega, i + 1, rfl, by omega, by omega, fun j hj => ?_, rfl, by simp only [go_sem, h0], by simp only [go_sem, h1], by simp only [go_sem]⟩
      rcases Nat.lt_succ_iff_lt_or_eq.1 hj with h | rfl
      · exact hs j h
      · rw [List.getElem?_eq_getElem hi', List.getElem?_eq_getElem hj', he]
    · refine AC_f (by simp only [go_sem] <;> rfl) (decide_eq_false he) ?_
      refine AC_exit (fin _ (by simp only [go_sem, h5]) (com_eq a b i hi hi2 hs (.inr (.inr ?_))))
      rw [List.getElem?_eq_getElem hi', List.getElem?_eq_getElem hj']
      simpa using he
  · have d1 := ge_dec (a := i) (b := min a.length b.length) (by omega)
    refine AC_seqD TT_ok mixed (by kernel_rfl) (by simp only [go_sem, h0, h1, h5, Int.min_nat, d1] <;> rfl) ?_
    refine AC_f (by simp only [go_sem] <;> rfl) (rfl) ?_
    exact AC_exit (fin _ (by simp only [go_sem, h5]) (com_eq a b i hi hi2 hs (by omega)))

theorem c96 {H : AHeap} {a : List UInt8} (ha : a.length < 2^62) : ACalls Try.prog 96 [S a] H (fun _ => False) fun v H' => v = .bool (decide (∀ b ∈ a, b ≤ 15)) ∧ H' = H := by
  refine ACalls_by 14 TT_ok Try.func96 rfl rfl rfl (by simp) ?_
  refine AC_seqQ TT_ok (by simp only [go_sem] <;> rfl) ?_
  refine AC_seq ?_
  refine AC_seqQ TT_ok (by simp only [go_sem] <;> rfl) ?_
  refine AC_block (AC_loop (fun n e' H' => ∃ i : Nat, n = a.length - i ∧ i ≤ a.length ∧ (∀ b ∈ a.take i, b ≤ 15) ∧ H' = H ∧ get e' 0 = S a ∧ get e' 5 = .int .i64 a.length ∧ get e' 6 = .int .i64 (i : Nat)) a.length ⟨0, by simp, by simp, by simp, rfl, by simp only [go_sem], by simp only [go_sem], by simp only [go_sem] <;> simp⟩ ?_)
  rintro n e1 H1 _ ⟨i, hn, hi, hs, rfl, h0, h5, h6⟩
  have k5 := wrapN i (by omega)
  refine AC_seqQ TT_ok (by simp only [go_sem, h5, h6] <;> rfl) ?_
  refine AC_seq ?_
  by_cases hi' : i < a.length
  · refine AC_t (by simp only [go_sem] <;> rfl) (lt_dec hi') ?_
    refine AC_skip ?_
    refine AC_seq (AC_block ?_)
    refine AC_seqQ TT_ok (by simp only [go_sem, h6] <;> rfl) ?_
    refine AC_seqQ TT_ok (by simp only [go_sem, h0, aget_S hi'] <;> rfl) ?_
    by_cases hb : 15 < a[i]
    · refine AC_t (by simp only [go_sem] <;> rfl) (decide_eq_true hb) ?_
      refine AC_seqQ TT_ok (by simp only [go_sem] <;> rfl) ?_
      refine AC_ret ⟨.inl rfl, _, rfl, ?_, rfl⟩
      simp only [go_sem]
      rw [decide_eq_false (fun h => absurd (h _ (List.getElem_mem hi')) (UInt8.not_le.2 hb))]
    · refine AC_f (by simp only [go_sem] <;> rfl) (decide_eq_false hb) ?_
      refine AC_skip ?_
      refine AC_quiet TT_ok (by simp only [go_sem, h6, k5] <;> rfl) ?_
      refine ⟨a.length - (i + 1), by omega, i + 1, rfl, by omega, fun b hb' => ?_, rfl, by simp only [go_sem, h0], by simp only [go_sem, h5], by simp only [go_sem]⟩
      rw [tk hi', List.mem_append, List.mem_singleton] at hb'
      rcases hb' with h | rfl
      · exact hs b h
      · exact UInt8.not_lt.1 hb
  · refine AC_f (by simp only [go_sem] <;> rfl) (ge_dec (by omega)) ?_
    refine AC_exit ?_
    refine AC_seqQ TT_ok (by simp only [go_sem] <;> rfl) ?_
    refine AC_ret ⟨.inl rfl, _, rfl, ?_, rfl⟩
    simp only [go_sem]
    rw [List.take_of_length_le (by omega)] at hs
    rw [decide_eq_true hs]


theorem c55 {H : AHeap} {a : List UInt8} (ha : a.length < 2^40) : ACalls Try.prog 55 [S a] H (fun _ => False) fun v H' => v = S (nib a) := by
  refine ACalls_by 24 TT_ok Try.func55 rfl rfl rfl (by simp) ?_
  refine AC_seqQ TT_ok (by simp only [go_sem] <;> rfl) ?_
  refine AC_seqQ TT_ok (by simp only [go_sem] <;> rfl) ?_
  refine AC_seq ?_
  refine AC_seqQ TT_ok (by simp only [go_sem] <;> rfl) ?_
  refine AC_block (AC_loop (fun n e' H' => ∃ (i : Nat) (vb : Value), n = a.length - i ∧ i ≤ a.length ∧ Buf H' vb 5 (2 * i) ((nib (a.take i)).flatMap bCell) ∧ (∀ j, vid vb = some j → H.length ≤ j) ∧ get e' 0 = S a ∧ get e' 3 = vb ∧ get e' 4 = .int .i64 (i : Nat)) a.length ⟨0, .slice none 0 0, by simp, by simp, Buf.nil _ _, fun j hj => (by cases hj), by simp only [go_sem], by simp only [go_sem], by simp only [go_sem] <;> simp⟩ ?_)
  rintro n e1 H1 hX1 ⟨i, vb, hn, hi, hB, hv, h0, h3, h5⟩
  have k5 := wrapN i (by omega)
  have hge : H.length ≤ H1.length := hX1.size
  refine AC_seq ?_
  refine AC_seqQ TT_ok (by simp only [go_sem, h0, h5] <;> rfl) ?_
  by_cases hi' : i < a.length
  · refine AC_t (by simp only [go_sem] <;> rfl) (lt_dec hi') ?_
    refine AC_skip ?_
    refine AC_seq (AC_block ?_)
    refine AC_regD [10] mixed (by kernel_rfl) ?_
    refine AQ_take TT_ok 9 rfl (by simp only [go_sem, h0, h3, h5, aget_S hi'] <;> rfl) ?_
    refine AQ_lit TT_ok [U (a[i] / 16), U (a[i] % 16)] TT_50 rfl TT_5 rfl (by decide) rfl (by decide) rfl (by simp only [List.map_cons, List.map_nil, go_sem, numbered]) (fun v hv => ?_) fun H2 hX2 hO hL => ?_
    · simp only [List.mem_cons, List.not_mem_nil, or_false] at hv
      rcases hv with rfl | rfl <;> exact ⟨_, (One.byte _).lay, rfl⟩
    have hB2 := hB.keep hX2
    refine AQ_append TT_ok (v := vb) (n := 2 * i) (m := 2) TT_50 rfl TT_5 (by decide) (by decide) rfl (by simp only [go_sem, h3]) (by simp only [go_sem]) hB2 hO.sl (by rw [rows_length bCell_len, nib_length, List.length_take]; simp; omega) rfl (by simp; omega) (fun j hj => .inl (Nat.le_trans ?_ (hv j hj))) (.inr (.inl rfl)) fun v' H3 hX3 hB3 hv3 => ?_
    · exact Nat.le_refl _
    have hfin : (nib (a.take i)).flatMap bCell ++ ([U (a[i] / 16), U (a[i] % 16)] : List Value).flatMap (fun v => v.cells.toList) = (nib (a.take (i + 1))).flatMap bCell := by
      rw [tk hi', nib_append, List.flatMap_append]
      rfl
    rw [hfin] at hB3
    have hv3' : ∀ j, vid v' = some j → H.length ≤ j := fun j hj => by
      rcases hv3 j hj with h | h
      · exact Nat.le_trans (Nat.le_trans hge hX2.size) h
      · cases h.1
    refine AQ_all TT_ok rfl (by simp only [go_sem] <;> rfl) ?_
    refine AC_quiet TT_ok (by simp only [go_sem, h5, k5] <;> rfl) ?_
    refine ⟨a.length - (i + 1), by omega, i + 1, v', rfl, by omega, hB3, hv3', by simp only [go_sem, h0], by simp only [go_sem], by simp only [go_sem]⟩
  · refine AC_f (by simp only [go_sem] <;> rfl) (ge_dec (by omega)) ?_
    refine AC_exit ?_
    rw [List.take_of_length_le (by omega)] at hB
    have hS : ByS H1 vb (nib a) := by
      have : (nib a).length = 2 * i := by rw [nib_length]; omega
      rw [ByS, this]; exact hB.sl
    refine AC_seqQ TT_ok (by simp only [go_sem, h3, hS.conv] <;> rfl) ?_
    refine AC_ret ⟨.inl rfl, _, rfl, ?_⟩
    simp only [go_sem]

theorem c62 {H : AHeap} {a : List UInt8} (ha : a.length < 2^40) : ACalls Try.prog 62 [S a] H (fun _ => False) fun v H' => v = S (nib a) := by
  refine ACalls_by 28 TT_ok Try.func62 rfl rfl rfl (by simp) ?_
  refine AC_seqQ TT_ok (by simp only [go_sem] <;> rfl) ?_
  have k1 : IntKind.i64.wrap (2 * (a.length : Int)) = ((2 * a.length : Nat) : Int) := by rw [wrap64 (by omega) (by omega)]; simp
  refine AC_seq ?_
  refine AC_regL ?_
  refine AQ_take TT_ok 3 rfl (by simp only [go_sem, k1] <;> rfl) ?_
  refine AQ_make TT_ok (m := 0) (c := ((2 * a.length : Nat) : Int)) TT_50 rfl TT_5 rfl (by decide) (by decide) rfl (by simp only [go_sem]) (by simp only [go_sem]) (by omega) (by omega) (by simp; omega) fun Hm hX hO hL => ?_
  refine AQ_all TT_ok rfl (by simp only [go_sem] <;> rfl) ?_
  refine AC_seq ?_
  refine AC_seqQ TT_ok (by simp only [go_sem] <;> rfl) ?_
  refine AC_block (AC_loop (fun n e' H' => ∃ (i : Nat) (vb : Value), n = a.length - i ∧ i ≤ a.length ∧ Buf H' vb 5 (2 * i) ((nib (a.take i)).flatMap bCell) ∧ (∀ j, vid vb = some j → H.length ≤ j) ∧ get e' 0 = S a ∧ get e' 3 = vb ∧ get e' 11 = .int .i64 (i : Nat) ∧ get e' 10 = .int .i64 a.length) a.length ⟨0, _, by simp, by simp, .inr ⟨_, hO⟩, fun j hj => by rw [hO.vid] at hj; obtain rfl := Option.some.inj hj; exact Nat.le_refl _, by simp only [go_sem], by simp only [go_sem], by simp only [go_sem] <;> simp, by simp only [go_sem]⟩ ?_)
  rintro n e1 H1 hX1 ⟨i, vb, hn, hi, hB, hv, h0, h3, h5, h10⟩
  have k5 := wrapN i (by omega)
  have hge : H.length ≤ H1.length := Nat.le_trans hX.size hX1.size
  refine AC_seqQ TT_ok (by simp only [go_sem, h5, h10] <;> rfl) ?_
  refine AC_seq ?_
  by_cases hi' : i < a.length
  · refine AC_t (by simp only [go_sem] <;> rfl) (lt_dec hi') ?_
    refine AC_skip ?_
    refine AC_seq (AC_block ?_)
    refine AC_seqQ TT_ok (by simp only [go_sem, h5] <;> rfl) ?_
    refine AC_regD [10] mixed (by kernel_rfl) ?_
    refine AQ_take TT_ok 9 rfl (by simp only [go_sem, h0, h3, h5, aget_S hi'] <;> rfl) ?_
    refine AQ_lit TT_ok [U (a[i] / 16), U (a[i] % 16)] TT_50 rfl TT_5 rfl (by decide) rfl (by decide) rfl (by simp only [List.map_cons, List.map_nil, go_sem, numbered]) (fun v hv => ?_) fun H2 hX2 hO hL => ?_
    · simp only [List.mem_cons, List.not_mem_nil, or_false] at hv
      rcases hv with rfl | rfl <;> exact ⟨_, (One.byte _).lay, rfl⟩
    have hB2 := hB.keep hX2
    refine AQ_append TT_ok (v := vb) (n := 2 * i) (m := 2) TT_50 rfl TT_5 (by decide) (by decide) rfl (by simp only [go_sem, h3]) (by simp only [go_sem]) hB2 hO.sl (by rw [rows_length bCell_len, nib_length, List.length_take]; simp; omega) rfl (by simp; omega) (fun j hj => .inl (Nat.le_trans ?_ (hv j hj))) (.inr (.inl rfl)) fun v' H3 hX3 hB3 hv3 => ?_
    · exact Nat.le_refl _
    have hfin : (nib (a.take i)).flatMap bCell ++ ([U (a[i] / 16), U (a[i] % 16)] : List Value).flatMap (fun v => v.cells.toList) = (nib (a.take (i + 1))).flatMap bCell := by
      rw [tk hi', nib_append, List.flatMap_append]
      rfl
    rw [hfin] at hB3
    have hv3' : ∀ j, vid v' = some j → H.length ≤ j := fun j hj => by
      rcases hv3 j hj with h | h
      · exact Nat.le_trans (Nat.le_trans hge hX2.size) h
      · cases h.1
    refine AQ_all TT_ok rfl (by simp only [go_sem] <;> rfl) ?_
    refine AC_quiet TT_ok (by simp only [go_sem, h5, k5] <;> rfl) ?_
    refine ⟨a.length - (i + 1), by omega, i + 1, v', rfl, by omega, hB3, hv3', by simp only [go_sem, h0], by simp only [go_sem], by simp only [go_sem], by simp only [go_sem, h10]⟩
  · refine AC_f (by simp only [go_sem] <;> rfl) (ge_dec (by omega)) ?_
    refine AC_exit ?_
    rw [List.take_of_length_le (by omega)] at hB
    have hS : ByS H1 vb (nib a) := by
      have : (nib a).length = 2 * i := by rw [nib_length]; omega
      rw [ByS, this]; exact hB.sl
    refine AC_seqQ TT_ok (by simp only [go_sem, h3, hS.conv] <;> rfl) ?_
    refine AC_ret ⟨.inl rfl, _, rfl, ?_⟩
    simp only [go_sem]

end Go.Proofs.Ythalogdopkoidaa.Ab
