/- Contracts of the functions that compare slices. No statement of the seat's in it. -/
import Derived.Test.YthalogdopkoidaaB6
set_option linter.unusedVariables false
set_option linter.unusedSimpArgs false
namespace Go.Proofs.Ythalogdopkoidaa.Ab
open Go Go.RowKit

theorem ne_of_at {α : Type} {a b : List α} {i : Nat} (ha : i < a.length) (hb : i < b.length) (h : a[i] ≠ b[i]) : a ≠ b := by
  rintro rfl
  exact h rfl
theorem eq_of_at {α : Type} {a b : List α} {i : Nat} (hl : a.length = b.length) (hi : a.length ≤ i) (h : ∀ j, j < i → a[j]? = b[j]?) : a = b := by
  apply List.ext_getElem?
  intro j
  by_cases hj : j < i
  · exact h j hj
  · rw [List.getElem?_eq_none (by omega), List.getElem?_eq_none (by omega)]


theorem c34 {H : AHeap} {va vb : Value} {a b : List Nd} (ha : NdS H va a) (hb : NdS H vb b) (hla : a.length < 2^62) :
    ACalls Try.prog 34 [va, vb] H (fun _ => False) fun v H' => v = .bool (decide (a = b)) ∧ H' = H := by
  refine ACalls_by 26 TT_ok Try.func34 rfl rfl rfl (by simp) ?_
  refine AC_seqQ TT_ok (by simp only [go_sem] <;> rfl) ?_
  refine AC_seq ?_
  refine AC_seqQ TT_ok (by simp only [go_sem, ha.alen, hb.alen] <;> rfl) ?_
  by_cases hl : a.length = b.length
  · refine AC_f (by simp only [go_sem] <;> rfl) (nd_false (by omega)) ?_
    refine AC_skip ?_
    refine AC_seq ?_
    refine AC_seqQ TT_ok (by simp only [go_sem] <;> rfl) ?_
    refine AC_block (AC_loop (fun n e' H' => ∃ i : Nat, n = a.length - i ∧ i ≤ a.length ∧ (∀ j, j < i → a[j]? = b[j]?) ∧ H' = H ∧ get e' 0 = va ∧ get e' 1 = vb ∧ get e' 5 = .int .i64 i) a.length ⟨0, by simp, by simp, by simp, rfl, by simp only [go_sem], by simp only [go_sem], by simp only [go_sem] <;> simp⟩ ?_)
    rintro n e1 H1 _ ⟨i, hn, hi, hs, rfl, h0, h1, h5⟩
    refine AC_seq ?_
    refine AC_seqQ TT_ok (by simp only [go_sem, h0, h1, h5, ha.alen, hb.alen] <;> rfl) ?_
    by_cases hi' : i < a.length
    · refine AC_t (by simp only [go_sem] <;> rfl) (decide_eq_true (by omega)) ?_
      refine AC_skip ?_
      have k1 := ha.index (k := .i64) (j := (i : Int)) (by omega) (by omega)
      have k2 := hb.index (k := .i64) (j := (i : Int)) (by omega) (by omega)
      have k3 := ha.load hi'
      have k4 := hb.load (i := i) (by omega)
      have k5 := wrap64 (x := (i : Int) + 1) (by omega) (by omega)
      refine AC_seq (AC_block ?_)
      refine AC_seqD TT_ok mixed (by kernel_rfl) (by simp only [go_sem, h0, h1, h5, k1, k2, k3, k4] <;> rfl) ?_
      by_cases he : a[i] = b[i]
      · refine AC_f (by simp only [go_sem] <;> rfl) (nd_false he) ?_
        refine AC_skip ?_
        refine AC_quiet TT_ok (by simp only [go_sem, h5, k5] <;> rfl) ?_
        refine ⟨a.length - (i + 1), by omega, i + 1, rfl, by omega, fun j hj => ?_, rfl, by simp only [go_sem, h0, h1, h5], by simp only [go_sem, h0, h1, h5], by simp only [go_sem] <;> simp⟩
        rcases Nat.lt_succ_iff_lt_or_eq.1 hj with h | rfl
        · exact hs j h
        · rw [List.getElem?_eq_getElem hi', List.getElem?_eq_getElem (by omega), he]
      · refine AC_t (by simp only [go_sem] <;> rfl) (nd_true he) ?_
        refine AC_seqQ TT_ok (by simp only [go_sem] <;> rfl) ?_
        refine AC_ret ⟨.inl rfl, _, rfl, ?_, rfl⟩
        simp only [go_sem]
        rw [decide_eq_false (ne_of_at hi' (by omega) he)]
    · refine AC_f (by simp only [go_sem] <;> rfl) (decide_eq_false (by omega)) ?_
      refine AC_exit ?_
      refine AC_seqQ TT_ok (by simp only [go_sem] <;> rfl) ?_
      refine AC_ret ⟨.inl rfl, _, rfl, ?_, rfl⟩
      simp only [go_sem]
      rw [decide_eq_true (eq_of_at hl (by omega) hs)]
  · refine AC_t (by simp only [go_sem] <;> rfl) (nd_true (by omega)) ?_
    refine AC_seqQ TT_ok (by simp only [go_sem] <;> rfl) ?_
    refine AC_ret ⟨.inl rfl, _, rfl, ?_, rfl⟩
    simp only [go_sem]
    rw [decide_eq_false (fun h => hl (by rw [h]))]

theorem c67 {H : AHeap} {va vb : Value} {a b : List Nd} (ha : NdS H va a) (hb : NdS H vb b) (hla : a.length < 2^62) :
    ACalls Try.prog 67 [va, vb] H (fun _ => False) fun v H' => v = .bool (decide (a = b)) ∧ H' = H := by
  refine ACalls_by 26 TT_ok Try.func67 rfl rfl rfl (by simp) ?_
  refine AC_seqQ TT_ok (by simp only [go_sem] <;> rfl) ?_
  refine AC_seq ?_
  refine AC_seqQ TT_ok (by simp only [go_sem, ha.alen, hb.alen] <;> rfl) ?_
  by_cases hl : a.length = b.length
  · refine AC_f (by simp only [go_sem] <;> rfl) (nd_false (by omega)) ?_
    refine AC_skip ?_
    refine AC_seq ?_
    refine AC_seqQ TT_ok (by simp only [go_sem] <;> rfl) ?_
    refine AC_block (AC_loop (fun n e' H' => ∃ i : Nat, n = a.length - i ∧ i ≤ a.length ∧ (∀ j, j < i → a[j]? = b[j]?) ∧ H' = H ∧ get e' 0 = va ∧ get e' 1 = vb ∧ get e' 5 = .int .i64 i) a.length ⟨0, by simp, by simp, by simp, rfl, by simp only [go_sem], by simp only [go_sem], by simp only [go_sem] <;> simp⟩ ?_)
    rintro n e1 H1 _ ⟨i, hn, hi, hs, rfl, h0, h1, h5⟩
    refine AC_seq ?_
    refine AC_seqQ TT_ok (by simp only [go_sem, h0, h1, h5, ha.alen, hb.alen] <;> rfl) ?_
    by_cases hi' : i < a.length
    · refine AC_t (by simp only [go_sem] <;> rfl) (decide_eq_true (by omega)) ?_
      refine AC_skip ?_
      have k1 := ha.index (k := .i64) (j := (i : Int)) (by omega) (by omega)
      have k2 := hb.index (k := .i64) (j := (i : Int)) (by omega) (by omega)
      have k3 := ha.load hi'
      have k4 := hb.load (i := i) (by omega)
      have k5 := wrap64 (x := (i : Int) + 1) (by omega) (by omega)
      refine AC_seq (AC_block ?_)
      refine AC_seqD TT_ok mixed (by kernel_rfl) (by simp only [go_sem, h0, h1, h5, k1, k2, k3, k4] <;> rfl) ?_
      by_cases he : a[i] = b[i]
      · refine AC_f (by simp only [go_sem] <;> rfl) (nd_false he) ?_
        refine AC_skip ?_
        refine AC_quiet TT_ok (by simp only [go_sem, h5, k5] <;> rfl) ?_
        refine ⟨a.length - (i + 1), by omega, i + 1, rfl, by omega, fun j hj => ?_, rfl, by simp only [go_sem, h0, h1, h5], by simp only [go_sem, h0, h1, h5], by simp only [go_sem] <;> simp⟩
        rcases Nat.lt_succ_iff_lt_or_eq.1 hj with h | rfl
        · exact hs j h
        · rw [List.getElem?_eq_getElem hi', List.getElem?_eq_getElem (by omega), he]
      · refine AC_t (by simp only [go_sem] <;> rfl) (nd_true he) ?_
        refine AC_seqQ TT_ok (by simp only [go_sem] <;> rfl) ?_
        refine AC_ret ⟨.inl rfl, _, rfl, ?_, rfl⟩
        simp only [go_sem]
        rw [decide_eq_false (ne_of_at hi' (by omega) he)]
    · refine AC_f (by simp only [go_sem] <;> rfl) (decide_eq_false (by omega)) ?_
      refine AC_exit ?_
      refine AC_seqQ TT_ok (by simp only [go_sem] <;> rfl) ?_
      refine AC_ret ⟨.inl rfl, _, rfl, ?_, rfl⟩
      simp only [go_sem]
      rw [decide_eq_true (eq_of_at hl (by omega) hs)]
  · refine AC_t (by simp only [go_sem] <;> rfl) (nd_true (by omega)) ?_
    refine AC_seqQ TT_ok (by simp only [go_sem] <;> rfl) ?_
    refine AC_ret ⟨.inl rfl, _, rfl, ?_, rfl⟩
    simp only [go_sem]
    rw [decide_eq_false (fun h => hl (by rw [h]))]

theorem c38 {H : AHeap} {va vb : Value} {a b : List Nd} (ha : NdS H va a) (hb : NdS H vb b) (hla : a.length < 2^62) :
    ACalls Try.prog 38 [va, vb] H (fun _ => False) fun v H' => v = .bool (decide (a = b)) ∧ H' = H := by
  refine ACalls_by 26 TT_ok Try.func38 rfl rfl rfl (by simp) ?_
  refine AC_seqQ TT_ok (by simp only [go_sem] <;> rfl) ?_
  refine AC_seq ?_
  refine AC_seqQ TT_ok (by simp only [go_sem, ha.alen, hb.alen] <;> rfl) ?_
  by_cases hl : a.length = b.length
  · refine AC_f (by simp only [go_sem] <;> rfl) (nd_false (by omega)) ?_
    refine AC_skip ?_
    refine AC_seq ?_
    refine AC_seqQ TT_ok (by simp only [go_sem, ha.alen] <;> rfl) ?_
    refine AC_block (AC_loop (fun n e' H' => ∃ i : Nat, n = a.length - i ∧ i ≤ a.length ∧ (∀ j, j < i → a[j]? = b[j]?) ∧ H' = H ∧ get e' 0 = va ∧ get e' 1 = vb ∧ get e' 13 = .int .i64 i ∧ get e' 12 = .int .i64 a.length) a.length ⟨0, by simp, by simp, by simp, rfl, by simp only [go_sem], by simp only [go_sem], by simp only [go_sem] <;> simp, by simp only [go_sem]⟩ ?_)
    rintro n e1 H1 _ ⟨i, hn, hi, hs, rfl, h0, h1, h5, h12⟩
    refine AC_seqQ TT_ok (by simp only [go_sem, h0, h1, h5, h12] <;> rfl) ?_
    refine AC_seq ?_
    by_cases hi' : i < a.length
    · refine AC_t (by simp only [go_sem] <;> rfl) (decide_eq_true (by omega)) ?_
      refine AC_skip ?_
      have k1 := ha.index (k := .i64) (j := (i : Int)) (by omega) (by omega)
      have k2 := hb.index (k := .i64) (j := (i : Int)) (by omega) (by omega)
      have k3 := ha.load hi'
      have k4 := hb.load (i := i) (by omega)
      have k5 := wrap64 (x := (i : Int) + 1) (by omega) (by omega)
      refine AC_seq (AC_block ?_)
      refine AC_seqQ TT_ok (by simp only [go_sem, h5] <;> rfl) ?_
      refine AC_seqD TT_ok mixed (by kernel_rfl) (by simp only [go_sem, h0, h1, h5, k1, k2, k3, k4] <;> rfl) ?_
      by_cases he : a[i] = b[i]
      · refine AC_f (by simp only [go_sem] <;> rfl) (nd_false he) ?_
        refine AC_skip ?_
        refine AC_quiet TT_ok (by simp only [go_sem, h5, k5] <;> rfl) ?_
        refine ⟨a.length - (i + 1), by omega, i + 1, rfl, by omega, fun j hj => ?_, rfl, by simp only [go_sem, h0, h1, h5, h12], by simp only [go_sem, h0, h1, h5], by simp only [go_sem] <;> simp, by simp only [go_sem, h12]⟩
        rcases Nat.lt_succ_iff_lt_or_eq.1 hj with h | rfl
        · exact hs j h
        · rw [List.getElem?_eq_getElem hi', List.getElem?_eq_getElem (by omega), he]
      · refine AC_t (by simp only [go_sem] <;> rfl) (nd_true he) ?_
        refine AC_seqQ TT_ok (by simp only [go_sem] <;> rfl) ?_
        refine AC_ret ⟨.inl rfl, _, rfl, ?_, rfl⟩
        simp only [go_sem]
        rw [decide_eq_false (ne_of_at hi' (by omega) he)]
    · refine AC_f (by simp only [go_sem] <;> rfl) (decide_eq_false (by omega)) ?_
      refine AC_exit ?_
      refine AC_seqQ TT_ok (by simp only [go_sem] <;> rfl) ?_
      refine AC_ret ⟨.inl rfl, _, rfl, ?_, rfl⟩
      simp only [go_sem]
      rw [decide_eq_true (eq_of_at hl (by omega) hs)]
  · refine AC_t (by simp only [go_sem] <;> rfl) (nd_true (by omega)) ?_
    refine AC_seqQ TT_ok (by simp only [go_sem] <;> rfl) ?_
    refine AC_ret ⟨.inl rfl, _, rfl, ?_, rfl⟩
    simp only [go_sem]
    rw [decide_eq_false (fun h => hl (by rw [h]))]

theorem c35 {H : AHeap} {va vb : Value} {a b : List Pr} (ha : PrS H va a) (hb : PrS H vb b) (hla : a.length < 2^62) :
    ACalls Try.prog 35 [va, vb] H (fun _ => False) fun v H' => v = .bool (decide (a = b)) ∧ H' = H := by
  refine ACalls_by 26 TT_ok Try.func35 rfl rfl rfl (by simp) ?_
  refine AC_seqQ TT_ok (by simp only [go_sem] <;> rfl) ?_
  refine AC_seq ?_
  refine AC_seqQ TT_ok (by simp only [go_sem, ha.alen, hb.alen] <;> rfl) ?_
  by_cases hl : a.length = b.length
  · refine AC_f (by simp only [go_sem] <;> rfl) (nd_false (by omega)) ?_
    refine AC_skip ?_
    refine AC_seq ?_
    refine AC_seqQ TT_ok (by simp only [go_sem] <;> rfl) ?_
    refine AC_block (AC_loop (fun n e' H' => ∃ i : Nat, n = a.length - i ∧ i ≤ a.length ∧ (∀ j, j < i → a[j]? = b[j]?) ∧ H' = H ∧ get e' 0 = va ∧ get e' 1 = vb ∧ get e' 5 = .int .i64 i) a.length ⟨0, by simp, by simp, by simp, rfl, by simp only [go_sem], by simp only [go_sem], by simp only [go_sem] <;> simp⟩ ?_)
    rintro n e1 H1 _ ⟨i, hn, hi, hs, rfl, h0, h1, h5⟩
    refine AC_seq ?_
    refine AC_seqQ TT_ok (by simp only [go_sem, h0, h1, h5, ha.alen, hb.alen] <;> rfl) ?_
    by_cases hi' : i < a.length
    · refine AC_t (by simp only [go_sem] <;> rfl) (decide_eq_true (by omega)) ?_
      refine AC_skip ?_
      have k1 := ha.index (k := .i64) (j := (i : Int)) (by omega) (by omega)
      have k2 := hb.index (k := .i64) (j := (i : Int)) (by omega) (by omega)
      have k3 := ha.load hi'
      have k4 := hb.load (i := i) (by omega)
      have k5 := wrap64 (x := (i : Int) + 1) (by omega) (by omega)
      refine AC_seq (AC_block ?_)
      refine AC_seqD TT_ok mixed (by kernel_rfl) (by simp only [go_sem, h0, h1, h5, k1, k2, k3, k4] <;> rfl) ?_
      by_cases he : a[i] = b[i]
      · refine AC_f (by simp only [go_sem] <;> rfl) (nd_false he) ?_
        refine AC_skip ?_
        refine AC_quiet TT_ok (by simp only [go_sem, h5, k5] <;> rfl) ?_
        refine ⟨a.length - (i + 1), by omega, i + 1, rfl, by omega, fun j hj => ?_, rfl, by simp only [go_sem, h0, h1, h5], by simp only [go_sem, h0, h1, h5], by simp only [go_sem] <;> simp⟩
        rcases Nat.lt_succ_iff_lt_or_eq.1 hj with h | rfl
        · exact hs j h
        · rw [List.getElem?_eq_getElem hi', List.getElem?_eq_getElem (by omega), he]
      · refine AC_t (by simp only [go_sem] <;> rfl) (nd_true he) ?_
        refine AC_seqQ TT_ok (by simp only [go_sem] <;> rfl) ?_
        refine AC_ret ⟨.inl rfl, _, rfl, ?_, rfl⟩
        simp only [go_sem]
        rw [decide_eq_false (ne_of_at hi' (by omega) he)]
    · refine AC_f (by simp only [go_sem] <;> rfl) (decide_eq_false (by omega)) ?_
      refine AC_exit ?_
      refine AC_seqQ TT_ok (by simp only [go_sem] <;> rfl) ?_
      refine AC_ret ⟨.inl rfl, _, rfl, ?_, rfl⟩
      simp only [go_sem]
      rw [decide_eq_true (eq_of_at hl (by omega) hs)]
  · refine AC_t (by simp only [go_sem] <;> rfl) (nd_true (by omega)) ?_
    refine AC_seqQ TT_ok (by simp only [go_sem] <;> rfl) ?_
    refine AC_ret ⟨.inl rfl, _, rfl, ?_, rfl⟩
    simp only [go_sem]
    rw [decide_eq_false (fun h => hl (by rw [h]))]

theorem c36 {H : AHeap} {va vb : Value} {a b : List (List UInt8)} (ha : StS H va a) (hb : StS H vb b) (hla : a.length < 2^62) :
    ACalls Try.prog 36 [va, vb] H (fun _ => False) fun v H' => v = .bool (decide (a = b)) ∧ H' = H := by
  refine ACalls_by 26 TT_ok Try.func36 rfl rfl rfl (by simp) ?_
  refine AC_seqQ TT_ok (by simp only [go_sem] <;> rfl) ?_
  refine AC_seq ?_
  refine AC_seqQ TT_ok (by simp only [go_sem, ha.alen, hb.alen] <;> rfl) ?_
  by_cases hl : a.length = b.length
  · refine AC_f (by simp only [go_sem] <;> rfl) (nd_false (by omega)) ?_
    refine AC_skip ?_
    refine AC_seq ?_
    refine AC_seqQ TT_ok (by simp only [go_sem] <;> rfl) ?_
    refine AC_block (AC_loop (fun n e' H' => ∃ i : Nat, n = a.length - i ∧ i ≤ a.length ∧ (∀ j, j < i → a[j]? = b[j]?) ∧ H' = H ∧ get e' 0 = va ∧ get e' 1 = vb ∧ get e' 5 = .int .i64 i) a.length ⟨0, by simp, by simp, by simp, rfl, by simp only [go_sem], by simp only [go_sem], by simp only [go_sem] <;> simp⟩ ?_)
    rintro n e1 H1 _ ⟨i, hn, hi, hs, rfl, h0, h1, h5⟩
    refine AC_seq ?_
    refine AC_seqQ TT_ok (by simp only [go_sem, h0, h1, h5, ha.alen, hb.alen] <;> rfl) ?_
    by_cases hi' : i < a.length
    · refine AC_t (by simp only [go_sem] <;> rfl) (decide_eq_true (by omega)) ?_
      refine AC_skip ?_
      have k1 := ha.index (k := .i64) (j := i) (by omega)
      have k2 := hb.index (k := .i64) (j := i) (by omega)
      have k3 := ha.load hi'
      have k4 := hb.load (i := i) (by omega)
      have k5 := wrap64 (x := (i : Int) + 1) (by omega) (by omega)
      refine AC_seq (AC_block ?_)
      refine AC_seqD TT_ok mixed (by kernel_rfl) (by simp only [go_sem, h0, h1, h5, k1, k2, k3, k4] <;> rfl) ?_
      by_cases he : a[i] = b[i]
      · refine AC_f (by simp only [go_sem] <;> rfl) (nd_false he) ?_
        refine AC_skip ?_
        refine AC_quiet TT_ok (by simp only [go_sem, h5, k5] <;> rfl) ?_
        refine ⟨a.length - (i + 1), by omega, i + 1, rfl, by omega, fun j hj => ?_, rfl, by simp only [go_sem, h0, h1, h5], by simp only [go_sem, h0, h1, h5], by simp only [go_sem] <;> simp⟩
        rcases Nat.lt_succ_iff_lt_or_eq.1 hj with h | rfl
        · exact hs j h
        · rw [List.getElem?_eq_getElem hi', List.getElem?_eq_getElem (by omega), he]
      · refine AC_t (by simp only [go_sem] <;> rfl) (nd_true he) ?_
        refine AC_seqQ TT_ok (by simp only [go_sem] <;> rfl) ?_
        refine AC_ret ⟨.inl rfl, _, rfl, ?_, rfl⟩
        simp only [go_sem]
        rw [decide_eq_false (ne_of_at hi' (by omega) he)]
    · refine AC_f (by simp only [go_sem] <;> rfl) (decide_eq_false (by omega)) ?_
      refine AC_exit ?_
      refine AC_seqQ TT_ok (by simp only [go_sem] <;> rfl) ?_
      refine AC_ret ⟨.inl rfl, _, rfl, ?_, rfl⟩
      simp only [go_sem]
      rw [decide_eq_true (eq_of_at hl (by omega) hs)]
  · refine AC_t (by simp only [go_sem] <;> rfl) (nd_true (by omega)) ?_
    refine AC_seqQ TT_ok (by simp only [go_sem] <;> rfl) ?_
    refine AC_ret ⟨.inl rfl, _, rfl, ?_, rfl⟩
    simp only [go_sem]
    rw [decide_eq_false (fun h => hl (by rw [h]))]

theorem c54 {H : AHeap} {va vb : Value} {a b : List Int} (ha : InS H va a) (hb : InS H vb b) (hla : a.length < 2^62) :
    ACalls Try.prog 54 [va, vb] H (fun _ => False) fun v H' => v = .bool (decide (a = b)) ∧ H' = H := by
  refine ACalls_by 26 TT_ok Try.func54 rfl rfl rfl (by simp) ?_
  refine AC_seqQ TT_ok (by simp only [go_sem] <;> rfl) ?_
  refine AC_seq ?_
  refine AC_seqQ TT_ok (by simp only [go_sem, ha.alen, hb.alen] <;> rfl) ?_
  by_cases hl : a.length = b.length
  · refine AC_f (by simp only [go_sem] <;> rfl) (nd_false (by omega)) ?_
    refine AC_skip ?_
    refine AC_seq ?_
    refine AC_seqQ TT_ok (by simp only [go_sem] <;> rfl) ?_
    refine AC_block (AC_loop (fun n e' H' => ∃ i : Nat, n = a.length - i ∧ i ≤ a.length ∧ (∀ j, j < i → a[j]? = b[j]?) ∧ H' = H ∧ get e' 0 = va ∧ get e' 1 = vb ∧ get e' 5 = .int .i64 i) a.length ⟨0, by simp, by simp, by simp, rfl, by simp only [go_sem], by simp only [go_sem], by simp only [go_sem] <;> simp⟩ ?_)
    rintro n e1 H1 _ ⟨i, hn, hi, hs, rfl, h0, h1, h5⟩
    refine AC_seq ?_
    refine AC_seqQ TT_ok (by simp only [go_sem, h0, h1, h5, ha.alen, hb.alen] <;> rfl) ?_
    by_cases hi' : i < a.length
    · refine AC_t (by simp only [go_sem] <;> rfl) (decide_eq_true (by omega)) ?_
      refine AC_skip ?_
      have k1 := ha.index (k := .i64) (j := i) (by omega)
      have k2 := hb.index (k := .i64) (j := i) (by omega)
      have k3 := ha.load hi'
      have k4 := hb.load (i := i) (by omega)
      have k5 := wrap64 (x := (i : Int) + 1) (by omega) (by omega)
      refine AC_seq (AC_block ?_)
      refine AC_seqD TT_ok mixed (by kernel_rfl) (by simp only [go_sem, h0, h1, h5, k1, k2, k3, k4] <;> rfl) ?_
      by_cases he : a[i] = b[i]
      · refine AC_f (by simp only [go_sem] <;> rfl) (nd_false he) ?_
        refine AC_skip ?_
        refine AC_quiet TT_ok (by simp only [go_sem, h5, k5] <;> rfl) ?_
        refine ⟨a.length - (i + 1), by omega, i + 1, rfl, by omega, fun j hj => ?_, rfl, by simp only [go_sem, h0, h1, h5], by simp only [go_sem, h0, h1, h5], by simp only [go_sem] <;> simp⟩
        rcases Nat.lt_succ_iff_lt_or_eq.1 hj with h | rfl
        · exact hs j h
        · rw [List.getElem?_eq_getElem hi', List.getElem?_eq_getElem (by omega), he]
      · refine AC_t (by simp only [go_sem] <;> rfl) (nd_true he) ?_
        refine AC_seqQ TT_ok (by simp only [go_sem] <;> rfl) ?_
        refine AC_ret ⟨.inl rfl, _, rfl, ?_, rfl⟩
        simp only [go_sem]
        rw [decide_eq_false (ne_of_at hi' (by omega) he)]
    · refine AC_f (by simp only [go_sem] <;> rfl) (decide_eq_false (by omega)) ?_
      refine AC_exit ?_
      refine AC_seqQ TT_ok (by simp only [go_sem] <;> rfl) ?_
      refine AC_ret ⟨.inl rfl, _, rfl, ?_, rfl⟩
      simp only [go_sem]
      rw [decide_eq_true (eq_of_at hl (by omega) hs)]
  · refine AC_t (by simp only [go_sem] <;> rfl) (nd_true (by omega)) ?_
    refine AC_seqQ TT_ok (by simp only [go_sem] <;> rfl) ?_
    refine AC_ret ⟨.inl rfl, _, rfl, ?_, rfl⟩
    simp only [go_sem]
    rw [decide_eq_false (fun h => hl (by rw [h]))]

end Go.Proofs.Ythalogdopkoidaa.Ab
