/- Contracts: tries, their building, walking. No statement of the seat's in it. Condition: none. -/
import Derived.Test.YthalogdopkoidaaZB
set_option linter.unusedVariables false
set_option linter.unusedSimpArgs false
namespace Go.Proofs.Ythalogdopkoidaa.Ab
open Go Go.RowKit
theorem ne_of_at {α : Type} {a b : List α} {i : Nat} (ha : i < a.length) (hb : i < b.length) (h : a[i] ≠ b[i]) : a ≠ b := by
  rintro rfl
  exact h rfl
theorem eq_of_at {α : Type} {a b : List α} {i : Nat} (hl : a.length = b.length) (hi : a.length ≤ i) (h : ∀ j, j < i → a[j]? = b[j]?) : a = b := by
  apply List.ext_getElem?
  intro j
  by_cases hj : j < i
  · exact h j hj
  · rw [List.getElem?_eq_none (by omega), List.getElem?_eq_none (by omega)]
theorem c34 {H : AHeap} {va vb : Value} {a b : List Nd} (ha : NdS H va a) (hb : NdS H vb b) (hla : a.length < 2^62) :
    ACalls Try.prog 34 [va, vb] H (fun _ => False) fun v H' => v = .bool (decide (a = b)) ∧ H' = H := by
  refine ACalls_by 26 TT_ok Try.func34 rfl rfl rfl (by simp) ?_
  refine AC_seqQ TT_ok (by simp only [go_sem] <;> rfl) ?_
  refine AC_seq ?_
  refine AC_seqQ TT_ok (by simp only [go_sem, ha.alen, hb.alen] <;> rfl) ?_
  by_cases hl : a.length = b.length
  · refine AC_f (by simp only [go_sem] <;> rfl) (nd_false (by omega)) ?_
    refine AC_skip ?_
    refine AC_seq ?_
    refine AC_seqQ TT_ok (by simp only [go_sem] <;> rfl) ?_
    refine AC_block (AC_loop (fun n e' H' => ∃ i : Nat, n = a.length - i ∧ i ≤ a.length ∧ (∀ j, j < i → a[j]? = b[j]?) ∧ H' = H ∧ get e' 0 = va ∧ get e' 1 = vb ∧ get e' 5 = .int .i64 i) a.length ⟨0, by simp, by simp, by simp, rfl, by simp only [go_sem], by simp only [go_sem], by simp only [go_sem] <;> simp⟩ ?_)
    rintro n e1 H1 _ ⟨i, hn, hi, hs, rfl, h0, h1, h5⟩
    refine AC_seq ?_
    refine AC_seqQ TT_ok (by simp only [go_sem, h0, h1, h5, ha.alen, hb.alen] <;> rfl) ?_
    by_cases hi' : i < a.length
    · refine AC_t (by simp only [go_sem] <;> rfl) (decide_eq_true (by omega)) ?_
      refine AC_skip ?_
      have k1 := ha.index (k := .i64) (j := (i : Int)) (by omega) (by omega)
      have k2 := hb.index (k := .i64) (j := (i : Int)) (by omega) (by omega)
      have k3 := ha.load hi'
      have k4 := hb.load (i := i) (by omega)
      have k5 := wrap64 (x := (i : Int) + 1) (by omega) (by omega)
      refine AC_seq (AC_block ?_)
      refine AC_seqD TT_ok mixed (by kernel_rfl) (by simp only [go_sem, h0, h1, h5, k1, k2, k3, k4] <;> rfl) ?_
      by_cases he : a[i] = b[i]
      · refine AC_f (by simp only [go_sem] <;> rfl) (nd_false he) ?_
        refine AC_skip ?_
        refine AC_quiet TT_ok (by simp only [go_sem, h5, k5] <;> rfl) ?_
        refine ⟨a.length - (i + 1), by omega, i + 1, rfl, by omega, fun j hj => ?_, rfl, by simp only [go_sem, h0, h1, h5], by simp only [go_sem, h0, h1, h5], by simp only [go_sem] <;> simp⟩
        rcases Nat.lt_succ_iff_lt_or_eq.1 hj with h | rfl
        · exact hs j h
        · rw [List.getElem?_eq_getElem hi', List.getElem?_eq_getElem (by omega), he]
      · refine AC_t (by simp only [go_sem] <;> rfl) (nd_true he) ?_
        refine AC_seqQ TT_ok (by simp only [go_sem] <;> rfl) ?_
        refine AC_ret ⟨.inl rfl, _, rfl, ?_, rfl⟩
        simp only [go_sem]
        rw [decide_eq_false (ne_of_at hi' (by omega) he)]
    · refine AC_f (by simp only [go_sem] <;> rfl) (decide_eq_false (by omega)) ?_
      refine AC_exit ?_
      refine AC_seqQ TT_ok (by simp only [go_sem] <;> rfl) ?_
      refine AC_ret ⟨.inl rfl, _, rfl, ?_, rfl⟩
      simp only [go_sem]
      rw [decide_eq_true (eq_of_at hl (by omega) hs)]
  · refine AC_t (by simp only [go_sem] <;> rfl) (nd_true (by omega)) ?_
    refine AC_seqQ TT_ok (by simp only [go_sem] <;> rfl) ?_
    refine AC_ret ⟨.inl rfl, _, rfl, ?_, rfl⟩
    simp only [go_sem]
    rw [decide_eq_false (fun h => hl (by rw [h]))]
theorem c67 {H : AHeap} {va vb : Value} {a b : List Nd} (ha : NdS H va a) (hb : NdS H vb b) (hla : a.length < 2^62) :
    ACalls Try.prog 67 [va, vb] H (fun _ => False) fun v H' => v = .bool (decide (a = b)) ∧ H' = H := by
  refine ACalls_by 26 TT_ok Try.func67 rfl rfl rfl (by simp) ?_
  refine AC_seqQ TT_ok (by simp only [go_sem] <;> rfl) ?_
  refine AC_seq ?_
  refine AC_seqQ TT_ok (by simp only [go_sem, ha.alen, hb.alen] <;> rfl) ?_
  by_cases hl : a.length = b.length
  · refine AC_f (by simp only [go_sem] <;> rfl) (nd_false (by omega)) ?_
    refine AC_skip ?_
    refine AC_seq ?_
    refine AC_seqQ TT_ok (by simp only [go_sem] <;> rfl) ?_
    refine AC_block (AC_loop (fun n e' H' => ∃ i : Nat, n = a.length - i ∧ i ≤ a.length ∧ (∀ j, j < i → a[j]? = b[j]?) ∧ H' = H ∧ get e' 0 = va ∧ get e' 1 = vb ∧ get e' 5 = .int .i64 i) a.length ⟨0, by simp, by simp, by simp, rfl, by simp only [go_sem], by simp only [go_sem], by simp only [go_sem] <;> simp⟩ ?_)
    rintro n e1 H1 _ ⟨i, hn, hi, hs, rfl, h0, h1, h5⟩
    refine AC_seq ?_
    refine AC_seqQ TT_ok (by simp only [go_sem, h0, h1, h5, ha.alen, hb.alen] <;> rfl) ?_
    by_cases hi' : i < a.length
    · refine AC_t (by simp only [go_sem] <;> rfl) (decide_eq_true (by omega)) ?_
      refine AC_skip ?_
      have k1 := ha.index (k := .i64) (j := (i : Int)) (by omega) (by omega)
      have k2 := hb.index (k := .i64) (j := (i : Int)) (by omega) (by omega)
      have k3 := ha.load hi'
      have k4 := hb.load (i := i) (by omega)
      have k5 := wrap64 (x := (i : Int) + 1) (by omega) (by omega)
      refine AC_seq (AC_block ?_)
      refine AC_seqD TT_ok mixed (by kernel_rfl) (by simp only [go_sem, h0, h1, h5, k1, k2, k3, k4] <;> rfl) ?_
      by_cases he : a[i] = b[i]
      · refine AC_f (by simp only [go_sem] <;> rfl) (nd_false he) ?_
        refine AC_skip ?_
        refine AC_quiet TT_ok (by simp only [go_sem, h5, k5] <;> rfl) ?_
        refine ⟨a.length - (i + 1), by omega, i + 1, rfl, by omega, fun j hj => ?_, rfl, by simp only [go_sem, h0, h1, h5], by simp only [go_sem, h0, h1, h5], by simp only [go_sem] <;> simp⟩
        rcases Nat.lt_succ_iff_lt_or_eq.1 hj with h | rfl
        · exact hs j h
        · rw [List.getElem?_eq_getElem hi', List.getElem?_eq_getElem (by omega), he]
      · refine AC_t (by simp only [go_sem] <;> rfl) (nd_true he) ?_
        refine AC_seqQ TT_ok (by simp only [go_sem] <;> rfl) ?_
        refine AC_ret ⟨.inl rfl, _, rfl, ?_, rfl⟩
        simp only [go_sem]
        rw [decide_eq_false (ne_of_at hi' (by omega) he)]
    · refine AC_f (by simp only [go_sem] <;> rfl) (decide_eq_false (by omega)) ?_
      refine AC_exit ?_
      refine AC_seqQ TT_ok (by simp only [go_sem] <;> rfl) ?_
      refine AC_ret ⟨.inl rfl, _, rfl, ?_, rfl⟩
      simp only [go_sem]
      rw [decide_eq_true (eq_of_at hl (by omega) hs)]
  · refine AC_t (by simp only [go_sem] <;> rfl) (nd_true (by omega)) ?_
    refine AC_seqQ TT_ok (by simp only [go_sem] <;> rfl) ?_
    refine AC_ret ⟨.inl rfl, _, rfl, ?_, rfl⟩
    simp only [go_sem]
    rw [decide_eq_false (fun h => hl (by rw [h]))]
theorem c38 {H : AHeap} {va vb : Value} {a b : List Nd} (ha : NdS H va a) (hb : NdS H vb b) (hla : a.length < 2^62) :
    ACalls Try.prog 38 [va, vb] H (fun _ => False) fun v H' => v = .bool (decide (a = b)) ∧ H' = H := by
  refine ACalls_by 26 TT_ok Try.func38 rfl rfl rfl (by simp) ?_
  refine AC_seqQ TT_ok (by simp only [go_sem] <;> rfl) ?_
  refine AC_seq ?_
  refine AC_seqQ TT_ok (by simp only [go_sem, ha.alen, hb.alen] <;> rfl) ?_
  by_cases hl : a.length = b.length
  · refine AC_f (by simp only [go_sem] <;> rfl) (nd_false (by omega)) ?_
    refine AC_skip ?_
    refine AC_seq ?_
    refine AC_seqQ TT_ok (by simp only [go_sem, ha.alen] <;> rfl) ?_
    refine AC_block (AC_loop (fun n e' H' => ∃ i : Nat, n = a.length - i ∧ i ≤ a.length ∧ (∀ j, j < i → a[j]? = b[j]?) ∧ H' = H ∧ get e' 0 = va ∧ get e' 1 = vb ∧ get e' 13 = .int .i64 i ∧ get e' 12 = .int .i64 a.length) a.length ⟨0, by simp, by simp, by simp, rfl, by simp only [go_sem], by simp only [go_sem], by simp only [go_sem] <;> simp, by simp only [go_sem]⟩ ?_)
    rintro n e1 H1 _ ⟨i, hn, hi, hs, rfl, h0, h1, h5, h12⟩
    refine AC_seqQ TT_ok (by simp only [go_sem, h0, h1, h5, h12] <;> rfl) ?_
    refine AC_seq ?_
    by_cases hi' : i < a.length
    · refine AC_t (by simp only [go_sem] <;> rfl) (decide_eq_true (by omega)) ?_
      refine AC_skip ?_
      have k1 := ha.index (k := .i64) (j := (i : Int)) (by omega) (by omega)
      have k2 := hb.index (k := .i64) (j := (i : Int)) (by omega) (by omega)
      have k3 := ha.load hi'
      have k4 := hb.load (i := i) (by omega)
      have k5 := wrap64 (x := (i : Int) + 1) (by omega) (by omega)
      refine AC_seq (AC_block ?_)
      refine AC_seqQ TT_ok (by simp only [go_sem, h5] <;> rfl) ?_
      refine AC_seqD TT_ok mixed (by kernel_rfl) (by simp only [go_sem, h0, h1, h5, k1, k2, k3, k4] <;> rfl) ?_
      by_cases he : a[i] = b[i]
      · refine AC_f (by simp only [go_sem] <;> rfl) (nd_false he) ?_
        refine AC_skip ?_
        refine AC_quiet TT_ok (by simp only [go_sem, h5, k5] <;> rfl) ?_
        refine ⟨a.length - (i + 1), by omega, i + 1, rfl, by omega, fun j hj => ?_, rfl, by simp only [go_sem, h0, h1, h5, h12], by simp only [go_sem, h0, h1, h5], by simp only [go_sem] <;> simp, by simp only [go_sem, h12]⟩
        rcases Nat.lt_succ_iff_lt_or_eq.1 hj with h | rfl
        · exact hs j h
        · rw [List.getElem?_eq_getElem hi', List.getElem?_eq_getElem (by omega), he]
      · refine AC_t (by simp only [go_sem] <;> rfl) (nd_true he) ?_
        refine AC_seqQ TT_ok (by simp only [go_sem] <;> rfl) ?_
        refine AC_ret ⟨.inl rfl, _, rfl, ?_, rfl⟩
        simp only [go_sem]
        rw [decide_eq_false (ne_of_at hi' (by omega) he)]
    · refine AC_f (by simp only [go_sem] <;> rfl) (decide_eq_false (by omega)) ?_
      refine AC_exit ?_
      refine AC_seqQ TT_ok (by simp only [go_sem] <;> rfl) ?_
      refine AC_ret ⟨.inl rfl, _, rfl, ?_, rfl⟩
      simp only [go_sem]
      rw [decide_eq_true (eq_of_at hl (by omega) hs)]
  · refine AC_t (by simp only [go_sem] <;> rfl) (nd_true (by omega)) ?_
    refine AC_seqQ TT_ok (by simp only [go_sem] <;> rfl) ?_
    refine AC_ret ⟨.inl rfl, _, rfl, ?_, rfl⟩
    simp only [go_sem]
    rw [decide_eq_false (fun h => hl (by rw [h]))]
theorem c35 {H : AHeap} {va vb : Value} {a b : List Pr} (ha : PrS H va a) (hb : PrS H vb b) (hla : a.length < 2^62) :
    ACalls Try.prog 35 [va, vb] H (fun _ => False) fun v H' => v = .bool (decide (a = b)) ∧ H' = H := by
  refine ACalls_by 26 TT_ok Try.func35 rfl rfl rfl (by simp) ?_
  refine AC_seqQ TT_ok (by simp only [go_sem] <;> rfl) ?_
  refine AC_seq ?_
  refine AC_seqQ TT_ok (by simp only [go_sem, ha.alen, hb.alen] <;> rfl) ?_
  by_cases hl : a.length = b.length
  · refine AC_f (by simp only [go_sem] <;> rfl) (nd_false (by omega)) ?_
    refine AC_skip ?_
    refine AC_seq ?_
    refine AC_seqQ TT_ok (by simp only [go_sem] <;> rfl) ?_
    refine AC_block (AC_loop (fun n e' H' => ∃ i : Nat, n = a.length - i ∧ i ≤ a.length ∧ (∀ j, j < i → a[j]? = b[j]?) ∧ H' = H ∧ get e' 0 = va ∧ get e' 1 = vb ∧ get e' 5 = .int .i64 i) a.length ⟨0, by simp, by simp, by simp, rfl, by simp only [go_sem], by simp only [go_sem], by simp only [go_sem] <;> simp⟩ ?_)
    rintro n e1 H1 _ ⟨i, hn, hi, hs, rfl, h0, h1, h5⟩
    refine AC_seq ?_
    refine AC_seqQ TT_ok (by simp only [go_sem, h0, h1, h5, ha.alen, hb.alen] <;> rfl) ?_
    by_cases hi' : i < a.length
    · refine AC_t (by simp only [go_sem] <;> rfl) (decide_eq_true (by omega)) ?_
      refine AC_skip ?_
      have k1 := ha.index (k := .i64) (j := (i : Int)) (by omega) (by omega)
      have k2 := hb.index (k := .i64) (j := (i : Int)) (by omega) (by omega)
      have k3 := ha.load hi'
      have k4 := hb.load (i := i) (by omega)
      have k5 := wrap64 (x := (i : Int) + 1) (by omega) (by omega)
      refine AC_seq (AC_block ?_)
      refine AC_seqD TT_ok mixed (by kernel_rfl) (by simp only [go_sem, h0, h1, h5, k1, k2, k3, k4] <;> rfl) ?_
      by_cases he : a[i] = b[i]
      · refine AC_f (by simp only [go_sem] <;> rfl) (nd_false he) ?_
        refine AC_skip ?_
        refine AC_quiet TT_ok (by simp only [go_sem, h5, k5] <;> rfl) ?_
        refine ⟨a.length - (i + 1), by omega, i + 1, rfl, by omega, fun j hj => ?_, rfl, by simp only [go_sem, h0, h1, h5], by simp only [go_sem, h0, h1, h5], by simp only [go_sem] <;> simp⟩
        rcases Nat.lt_succ_iff_lt_or_eq.1 hj with h | rfl
        · exact hs j h
        · rw [List.getElem?_eq_getElem hi', List.getElem?_eq_getElem (by omega), he]
      · refine AC_t (by simp only [go_sem] <;> rfl) (nd_true he) ?_
        refine AC_seqQ TT_ok (by simp only [go_sem] <;> rfl) ?_
        refine AC_ret ⟨.inl rfl, _, rfl, ?_, rfl⟩
        simp only [go_sem]
        rw [decide_eq_false (ne_of_at hi' (by omega) he)]
    · refine AC_f (by simp only [go_sem] <;> rfl) (decide_eq_false (by omega)) ?_
      refine AC_exit ?_
      refine AC_seqQ TT_ok (by simp only [go_sem] <;> rfl) ?_
      refine AC_ret ⟨.inl rfl, _, rfl, ?_, rfl⟩
      simp only [go_sem]
      rw [decide_eq_true (eq_of_at hl (by omega) hs)]
  · refine AC_t (by simp only [go_sem] <;> rfl) (nd_true (by omega)) ?_
    refine AC_seqQ TT_ok (by simp only [go_sem] <;> rfl) ?_
    refine AC_ret ⟨.inl rfl, _, rfl, ?_, rfl⟩
    simp only [go_sem]
    rw [decide_eq_false (fun h => hl (by rw [h]))]
theorem c36 {H : AHeap} {va vb : Value} {a b : List (List UInt8)} (ha : StS H va a) (hb : StS H vb b) (hla : a.length < 2^62) :
    ACalls Try.prog 36 [va, vb] H (fun _ => False) fun v H' => v = .bool (decide (a = b)) ∧ H' = H := by
  refine ACalls_by 26 TT_ok Try.func36 rfl rfl rfl (by simp) ?_
  refine AC_seqQ TT_ok (by simp only [go_sem] <;> rfl) ?_
  refine AC_seq ?_
  refine AC_seqQ TT_ok (by simp only [go_sem, ha.alen, hb.alen] <;> rfl) ?_
  by_cases hl : a.length = b.length
  · refine AC_f (by simp only [go_sem] <;> rfl) (nd_false (by omega)) ?_
    refine AC_skip ?_
    refine AC_seq ?_
    refine AC_seqQ TT_ok (by simp only [go_sem] <;> rfl) ?_
    refine AC_block (AC_loop (fun n e' H' => ∃ i : Nat, n = a.length - i ∧ i ≤ a.length ∧ (∀ j, j < i → a[j]? = b[j]?) ∧ H' = H ∧ get e' 0 = va ∧ get e' 1 = vb ∧ get e' 5 = .int .i64 i) a.length ⟨0, by simp, by simp, by simp, rfl, by simp only [go_sem], by simp only [go_sem], by simp only [go_sem] <;> simp⟩ ?_)
    rintro n e1 H1 _ ⟨i, hn, hi, hs, rfl, h0, h1, h5⟩
    refine AC_seq ?_
    refine AC_seqQ TT_ok (by simp only [go_sem, h0, h1, h5, ha.alen, hb.alen] <;> rfl) ?_
    by_cases hi' : i < a.length
    · refine AC_t (by simp only [go_sem] <;> rfl) (decide_eq_true (by omega)) ?_
      refine AC_skip ?_
      have k1 := ha.index (k := .i64) (j := i) (by omega)
      have k2 := hb.index (k := .i64) (j := i) (by omega)
      have k3 := ha.load hi'
      have k4 := hb.load (i := i) (by omega)
      have k5 := wrap64 (x := (i : Int) + 1) (by omega) (by omega)
      refine AC_seq (AC_block ?_)
      refine AC_seqD TT_ok mixed (by kernel_rfl) (by simp only [go_sem, h0, h1, h5, k1, k2, k3, k4] <;> rfl) ?_
      by_cases he : a[i] = b[i]
      · refine AC_f (by simp only [go_sem] <;> rfl) (nd_false he) ?_
        refine AC_skip ?_
        refine AC_quiet TT_ok (by simp only [go_sem, h5, k5] <;> rfl) ?_
        refine ⟨a.length - (i + 1), by omega, i + 1, rfl, by omega, fun j hj => ?_, rfl, by simp only [go_sem, h0, h1, h5], by simp only [go_sem, h0, h1, h5], by simp only [go_sem] <;> simp⟩
        rcases Nat.lt_succ_iff_lt_or_eq.1 hj with h | rfl
        · exact hs j h
        · rw [List.getElem?_eq_getElem hi', List.getElem?_eq_getElem (by omega), he]
      · refine AC_t (by simp only [go_sem] <;> rfl) (nd_true he) ?_
        refine AC_seqQ TT_ok (by simp only [go_sem] <;> rfl) ?_
        refine AC_ret ⟨.inl rfl, _, rfl, ?_, rfl⟩
        simp only [go_sem]
        rw [decide_eq_false (ne_of_at hi' (by omega) he)]
    · refine AC_f (by simp only [go_sem] <;> rfl) (decide_eq_false (by omega)) ?_
      refine AC_exit ?_
      refine AC_seqQ TT_ok (by simp only [go_sem] <;> rfl) ?_
      refine AC_ret ⟨.inl rfl, _, rfl, ?_, rfl⟩
      simp only [go_sem]
      rw [decide_eq_true (eq_of_at hl (by omega) hs)]
  · refine AC_t (by simp only [go_sem] <;> rfl) (nd_true (by omega)) ?_
    refine AC_seqQ TT_ok (by simp only [go_sem] <;> rfl) ?_
    refine AC_ret ⟨.inl rfl, _, rfl, ?_, rfl⟩
    simp only [go_sem]
    rw [decide_eq_false (fun h => hl (by rw [h]))]
end Go.Proofs.Ythalogdopkoidaa.Ab
set_option linter.unusedVariables false
set_option linter.unusedSimpArgs false
namespace Go.Proofs.Ythalogdopkoidaa.Ab
open Go Go.RowKit
theorem wrapN (i : Nat) (h : i < 2^62) : IntKind.i64.wrap ((i : Int) + 1) = ((i + 1 : Nat) : Int) := by
  rw [wrap64 (by omega) (by omega)]; simp
theorem Int.min_nat (a b : Nat) : min (a : Int) (b : Int) = ((min a b : Nat) : Int) := by omega
theorem lt_dec {a b : Nat} (h : a < b) : decide ((a : Int) < (b : Int)) = true := decide_eq_true (by omega)
theorem ge_dec {a b : Nat} (h : b ≤ a) : decide ((a : Int) < (b : Int)) = false := decide_eq_false (by omega)
theorem c76 {H : AHeap} {a b : List UInt8} (ha : a.length < 2^62) : ACalls Try.prog 76 [S a, S b] H (fun _ => False) fun v H' => v = .int .i64 (com a b) ∧ H' = H := by
  refine ACalls_by 28 TT_ok Try.func76 rfl rfl rfl (by simp) ?_
  refine AC_seqQ TT_ok (by simp only [go_sem] <;> rfl) ?_
  refine AC_seq ?_
  refine AC_quiet TT_ok (by simp only [go_sem] <;> rfl) ?_
  refine AC_cut (fun e' H' => H' = H ∧ get e' 5 = .int .i64 (com a b : Nat)) (AC_block (AC_loop (fun n e' H' => ∃ i : Nat, n = a.length - i ∧ i ≤ a.length ∧ i ≤ b.length ∧ (∀ j, j < i → a[j]? = b[j]?) ∧ H' = H ∧ get e' 0 = S a ∧ get e' 1 = S b ∧ get e' 5 = .int .i64 (i : Nat)) a.length ⟨0, by simp, by simp, by simp, by simp, rfl, by simp only [go_sem], by simp only [go_sem], by simp only [go_sem] <;> simp⟩ ?_)) (fun e1 H1 _ ⟨hH, h5⟩ => ?_)
  rotate_left
  · subst hH
    refine AC_seqQ TT_ok (by simp only [go_sem, h5] <;> rfl) ?_
    exact AC_ret ⟨.inl rfl, _, rfl, by simp only [go_sem], rfl⟩
  rintro n e1 H1 _ ⟨i, hn, hi, hi2, hs, rfl, h0, h1, h5⟩
  have k5 := wrapN i (by omega)
  have fin : ∀ e2 : Env, get e2 5 = .int .i64 (i : Nat) → com a b = i → H1 = H1 ∧ get e2 5 = .int .i64 (com a b : Nat) := fun e2 h hc => ⟨rfl, by rw [h, hc]⟩
  refine AC_seq ?_
  by_cases hi' : i < a.length
  · have d1 := lt_dec hi'
    by_cases hj' : i < b.length
    · have d2 := lt_dec hj'
      refine AC_seqD TT_ok mixed (by kernel_rfl) (by simp only [go_sem, h0, h1, h5, d1, d2, aget_S hi', aget_S hj'] <;> rfl) ?_
      by_cases he : a[i] = b[i]
      · refine AC_t (by simp only [go_sem] <;> rfl) (decide_eq_true he) ?_
        refine AC_skip ?_
        refine AC_block ?_
        refine AC_quiet TT_ok (by simp only [go_sem, h5, k5] <;> rfl) ?_
        refine ⟨a.length - (i + 1), by omega, i + 1, rfl, by omega, by omega, fun j hj => ?_, rfl, by simp only [go_sem, h0], by simp only [go_sem, h1], by simp only [go_sem]⟩
        rcases Nat.lt_succ_iff_lt_or_eq.1 hj with h | rfl
        · exact hs j h
        · rw [List.getElem?_eq_getElem hi', List.getElem?_eq_getElem hj', he]
      · refine AC_f (by simp only [go_sem] <;> rfl) (decide_eq_false he) ?_
        refine AC_exit (fin _ (by simp only [go_sem, h5]) (com_eq a b i hi hi2 hs (.inr (.inr ?_))))
        rw [List.getElem?_eq_getElem hi', List.getElem?_eq_getElem hj']
        simpa using he
    · have d2 := ge_dec (a := i) (b := b.length) (by omega)
      refine AC_seqD TT_ok mixed (by kernel_rfl) (by simp only [go_sem, h0, h1, h5, d1, d2] <;> rfl) ?_
      refine AC_f (by simp only [go_sem] <;> rfl) (rfl) ?_
      exact AC_exit (fin _ (by simp only [go_sem, h5]) (com_eq a b i hi hi2 hs (.inr (.inl (by omega)))))
  · have d1 := ge_dec (a := i) (b := a.length) (by omega)
    refine AC_seqD TT_ok mixed (by kernel_rfl) (by simp only [go_sem, h0, h1, h5, d1] <;> rfl) ?_
    refine AC_f (by simp only [go_sem] <;> rfl) (rfl) ?_
    exact AC_exit (fin _ (by simp only [go_sem, h5]) (com_eq a b i hi hi2 hs (.inl (by omega))))
theorem c79 {H : AHeap} {a b : List UInt8} (ha : a.length < 2^62) : ACalls Try.prog 79 [S a, S b] H (fun _ => False) fun v H' => v = .int .i64 (com a b) ∧ H' = H := by
  refine ACalls_by 25 TT_ok Try.func79 rfl rfl rfl (by simp) ?_
  refine AC_seqQ TT_ok (by simp only [go_sem] <;> rfl) ?_
  refine AC_seq ?_
  refine AC_quiet TT_ok (by simp only [go_sem] <;> rfl) ?_
  refine AC_cut (fun e' H' => H' = H ∧ get e' 5 = .int .i64 (com a b : Nat)) (AC_block (AC_loop (fun n e' H' => ∃ i : Nat, n = a.length - i ∧ i ≤ a.length ∧ i ≤ b.length ∧ (∀ j, j < i → a[j]? = b[j]?) ∧ H' = H ∧ get e' 0 = S a ∧ get e' 1 = S b ∧ get e' 5 = .int .i64 (i : Nat)) a.length ⟨0, by simp, by simp, by simp, by simp, rfl, by simp only [go_sem], by simp only [go_sem], by simp only [go_sem] <;> simp⟩ ?_)) (fun e1 H1 _ ⟨hH, h5⟩ => ?_)
  rotate_left
  · subst hH
    refine AC_seqQ TT_ok (by simp only [go_sem, h5] <;> rfl) ?_
    exact AC_ret ⟨.inl rfl, _, rfl, by simp only [go_sem], rfl⟩
  rintro n e1 H1 _ ⟨i, hn, hi, hi2, hs, rfl, h0, h1, h5⟩
  have k5 := wrapN i (by omega)
  have fin : ∀ e2 : Env, get e2 5 = .int .i64 (i : Nat) → com a b = i → H1 = H1 ∧ get e2 5 = .int .i64 (com a b : Nat) := fun e2 h hc => ⟨rfl, by rw [h, hc]⟩
  refine AC_seq ?_
  by_cases hi' : i < min a.length b.length
  · have d1 := lt_dec hi'
    have hi' : i < a.length := by omega
    have hj' : i < b.length := by omega
    refine AC_seqD TT_ok mixed (by kernel_rfl) (by simp only [go_sem, h0, h1, h5, Int.min_nat, d1, aget_S hi', aget_S hj'] <;> rfl) ?_
    by_cases he : a[i] = b[i]
    · refine AC_t (by simp only [go_sem] <;> rfl) (decide_eq_true he) ?_
      refine AC_skip ?_
      refine AC_block ?_
      refine AC_quiet TT_ok (by simp only [go_sem, h5, k5] <;> rfl) ?_
      refine ⟨a.length - (i + 1), by omega, i + 1, rfl, by omega, by omega, fun j hj => ?_, rfl, by simp only [go_sem, h0], by simp only [go_sem, h1], by simp only [go_sem]⟩
      rcases Nat.lt_succ_iff_lt_or_eq.1 hj with h | rfl
      · exact hs j h
      · rw [List.getElem?_eq_getElem hi', List.getElem?_eq_getElem hj', he]
    · refine AC_f (by simp only [go_sem] <;> rfl) (decide_eq_false he) ?_
      refine AC_exit (fin _ (by simp only [go_sem, h5]) (com_eq a b i hi hi2 hs (.inr (.inr ?_))))
      rw [List.getElem?_eq_getElem hi', List.getElem?_eq_getElem hj']
      simpa using he
  · have d1 := ge_dec (a := i) (b := min a.length b.length) (by omega)
    refine AC_seqD TT_ok mixed (by kernel_rfl) (by simp only [go_sem, h0, h1, h5, Int.min_nat, d1] <;> rfl) ?_
    refine AC_f (by simp only [go_sem] <;> rfl) (rfl) ?_
    exact AC_exit (fin _ (by simp only [go_sem, h5]) (com_eq a b i hi hi2 hs (by omega)))
theorem c96 {H : AHeap} {a : List UInt8} (ha : a.length < 2^62) : ACalls Try.prog 96 [S a] H (fun _ => False) fun v H' => v = .bool (decide (∀ b ∈ a, b ≤ 15)) ∧ H' = H := by
  refine ACalls_by 14 TT_ok Try.func96 rfl rfl rfl (by simp) ?_
  refine AC_seqQ TT_ok (by simp only [go_sem] <;> rfl) ?_
  refine AC_seq ?_
  refine AC_seqQ TT_ok (by simp only [go_sem] <;> rfl) ?_
  refine AC_block (AC_loop (fun n e' H' => ∃ i : Nat, n = a.length - i ∧ i ≤ a.length ∧ (∀ b ∈ a.take i, b ≤ 15) ∧ H' = H ∧ get e' 0 = S a ∧ get e' 5 = .int .i64 a.length ∧ get e' 6 = .int .i64 (i : Nat)) a.length ⟨0, by simp, by simp, by simp, rfl, by simp only [go_sem], by simp only [go_sem], by simp only [go_sem] <;> simp⟩ ?_)
  rintro n e1 H1 _ ⟨i, hn, hi, hs, rfl, h0, h5, h6⟩
  have k5 := wrapN i (by omega)
  refine AC_seqQ TT_ok (by simp only [go_sem, h5, h6] <;> rfl) ?_
  refine AC_seq ?_
  by_cases hi' : i < a.length
  · refine AC_t (by simp only [go_sem] <;> rfl) (lt_dec hi') ?_
    refine AC_skip ?_
    refine AC_seq (AC_block ?_)
    refine AC_seqQ TT_ok (by simp only [go_sem, h6] <;> rfl) ?_
    refine AC_seqQ TT_ok (by simp only [go_sem, h0, aget_S hi'] <;> rfl) ?_
    by_cases hb : 15 < a[i]
    · refine AC_t (by simp only [go_sem] <;> rfl) (decide_eq_true hb) ?_
      refine AC_seqQ TT_ok (by simp only [go_sem] <;> rfl) ?_
      refine AC_ret ⟨.inl rfl, _, rfl, ?_, rfl⟩
      simp only [go_sem]
      rw [decide_eq_false (fun h => absurd (h _ (List.getElem_mem hi')) (UInt8.not_le.2 hb))]
    · refine AC_f (by simp only [go_sem] <;> rfl) (decide_eq_false hb) ?_
      refine AC_skip ?_
      refine AC_quiet TT_ok (by simp only [go_sem, h6, k5] <;> rfl) ?_
      refine ⟨a.length - (i + 1), by omega, i + 1, rfl, by omega, fun b hb' => ?_, rfl, by simp only [go_sem, h0], by simp only [go_sem, h5], by simp only [go_sem]⟩
      rw [tk hi', List.mem_append, List.mem_singleton] at hb'
      rcases hb' with h | rfl
      · exact hs b h
      · exact UInt8.not_lt.1 hb
  · refine AC_f (by simp only [go_sem] <;> rfl) (ge_dec (by omega)) ?_
    refine AC_exit ?_
    refine AC_seqQ TT_ok (by simp only [go_sem] <;> rfl) ?_
    refine AC_ret ⟨.inl rfl, _, rfl, ?_, rfl⟩
    simp only [go_sem]
    rw [List.take_of_length_le (by omega)] at hs
    rw [decide_eq_true hs]
theorem c55 {H : AHeap} {a : List UInt8} (ha : a.length < 2^40) : ACalls Try.prog 55 [S a] H (fun _ => False) fun v H' => v = S (nib a) := by
  refine ACalls_by 24 TT_ok Try.func55 rfl rfl rfl (by simp) ?_
  refine AC_seqQ TT_ok (by simp only [go_sem] <;> rfl) ?_
  refine AC_seqQ TT_ok (by simp only [go_sem] <;> rfl) ?_
  refine AC_seq ?_
  refine AC_seqQ TT_ok (by simp only [go_sem] <;> rfl) ?_
  refine AC_block (AC_loop (fun n e' H' => ∃ (i : Nat) (vb : Value), n = a.length - i ∧ i ≤ a.length ∧ Buf H' vb 5 (2 * i) ((nib (a.take i)).flatMap bCell) ∧ (∀ j, vid vb = some j → H.length ≤ j) ∧ get e' 0 = S a ∧ get e' 3 = vb ∧ get e' 4 = .int .i64 (i : Nat)) a.length ⟨0, .slice none 0 0, by simp, by simp, Buf.nil _ _, fun j hj => (by cases hj), by simp only [go_sem], by simp only [go_sem], by simp only [go_sem] <;> simp⟩ ?_)
  rintro n e1 H1 hX1 ⟨i, vb, hn, hi, hB, hv, h0, h3, h5⟩
  have k5 := wrapN i (by omega)
  have hge : H.length ≤ H1.length := hX1.size
  refine AC_seq ?_
  refine AC_seqQ TT_ok (by simp only [go_sem, h0, h5] <;> rfl) ?_
  by_cases hi' : i < a.length
  · refine AC_t (by simp only [go_sem] <;> rfl) (lt_dec hi') ?_
    refine AC_skip ?_
    refine AC_seq (AC_block ?_)
    refine AC_regD [10] mixed (by kernel_rfl) ?_
    refine AQ_take TT_ok 9 rfl (by simp only [go_sem, h0, h3, h5, aget_S hi'] <;> rfl) ?_
    refine AQ_lit TT_ok [U (a[i] / 16), U (a[i] % 16)] TT_50 rfl TT_5 rfl (by decide) rfl (by decide) rfl (by simp only [List.map_cons, List.map_nil, go_sem, numbered]) (fun v hv => ?_) fun H2 hX2 hO hL => ?_
    · simp only [List.mem_cons, List.not_mem_nil, or_false] at hv
      rcases hv with rfl | rfl <;> exact ⟨_, (One.byte _).lay, rfl⟩
    have hB2 := hB.keep hX2
    refine AQ_append TT_ok (v := vb) (n := 2 * i) (m := 2) TT_50 rfl TT_5 (by decide) (by decide) rfl (by simp only [go_sem, h3]) (by simp only [go_sem]) hB2 hO.sl (by rw [rows_length bCell_len, nib_length, List.length_take]; simp; omega) rfl (by simp; omega) (fun j hj => .inl (Nat.le_trans ?_ (hv j hj))) (.inr (.inl rfl)) fun v' H3 hX3 hB3 hv3 => ?_
    · exact Nat.le_refl _
    have hfin : (nib (a.take i)).flatMap bCell ++ ([U (a[i] / 16), U (a[i] % 16)] : List Value).flatMap (fun v => v.cells.toList) = (nib (a.take (i + 1))).flatMap bCell := by
      rw [tk hi', nib_append, List.flatMap_append]
      rfl
    rw [hfin] at hB3
    have hv3' : ∀ j, vid v' = some j → H.length ≤ j := fun j hj => by
      rcases hv3 j hj with h | h
      · exact Nat.le_trans (Nat.le_trans hge hX2.size) h
      · cases h.1
    refine AQ_all TT_ok rfl (by simp only [go_sem] <;> rfl) ?_
    refine AC_quiet TT_ok (by simp only [go_sem, h5, k5] <;> rfl) ?_
    refine ⟨a.length - (i + 1), by omega, i + 1, v', rfl, by omega, hB3, hv3', by simp only [go_sem, h0], by simp only [go_sem], by simp only [go_sem]⟩
  · refine AC_f (by simp only [go_sem] <;> rfl) (ge_dec (by omega)) ?_
    refine AC_exit ?_
    rw [List.take_of_length_le (by omega)] at hB
    have hS : ByS H1 vb (nib a) := by
      have : (nib a).length = 2 * i := by rw [nib_length]; omega
      rw [ByS, this]; exact hB.sl
    refine AC_seqQ TT_ok (by simp only [go_sem, h3, hS.conv] <;> rfl) ?_
    refine AC_ret ⟨.inl rfl, _, rfl, ?_⟩
    simp only [go_sem]
theorem c62 {H : AHeap} {a : List UInt8} (ha : a.length < 2^40) : ACalls Try.prog 62 [S a] H (fun _ => False) fun v H' => v = S (nib a) := by
  refine ACalls_by 28 TT_ok Try.func62 rfl rfl rfl (by simp) ?_
  refine AC_seqQ TT_ok (by simp only [go_sem] <;> rfl) ?_
  have k1 : IntKind.i64.wrap (2 * (a.length : Int)) = ((2 * a.length : Nat) : Int) := by rw [wrap64 (by omega) (by omega)]; simp
  refine AC_seq ?_
  refine AC_regL ?_
  refine AQ_take TT_ok 3 rfl (by simp only [go_sem, k1] <;> rfl) ?_
  refine AQ_make TT_ok (m := 0) (c := ((2 * a.length : Nat) : Int)) TT_50 rfl TT_5 rfl (by decide) (by decide) rfl (by simp only [go_sem]) (by simp only [go_sem]) (by omega) (by omega) (by simp; omega) fun Hm hX hO hL => ?_
  refine AQ_all TT_ok rfl (by simp only [go_sem] <;> rfl) ?_
  refine AC_seq ?_
  refine AC_seqQ TT_ok (by simp only [go_sem] <;> rfl) ?_
  refine AC_block (AC_loop (fun n e' H' => ∃ (i : Nat) (vb : Value), n = a.length - i ∧ i ≤ a.length ∧ Buf H' vb 5 (2 * i) ((nib (a.take i)).flatMap bCell) ∧ (∀ j, vid vb = some j → H.length ≤ j) ∧ get e' 0 = S a ∧ get e' 3 = vb ∧ get e' 11 = .int .i64 (i : Nat) ∧ get e' 10 = .int .i64 a.length) a.length ⟨0, _, by simp, by simp, .inr ⟨_, hO⟩, fun j hj => by rw [hO.vid] at hj; obtain rfl := Option.some.inj hj; exact Nat.le_refl _, by simp only [go_sem], by simp only [go_sem], by simp only [go_sem] <;> simp, by simp only [go_sem]⟩ ?_)
  rintro n e1 H1 hX1 ⟨i, vb, hn, hi, hB, hv, h0, h3, h5, h10⟩
  have k5 := wrapN i (by omega)
  have hge : H.length ≤ H1.length := Nat.le_trans hX.size hX1.size
  refine AC_seqQ TT_ok (by simp only [go_sem, h5, h10] <;> rfl) ?_
  refine AC_seq ?_
  by_cases hi' : i < a.length
  · refine AC_t (by simp only [go_sem] <;> rfl) (lt_dec hi') ?_
    refine AC_skip ?_
    refine AC_seq (AC_block ?_)
    refine AC_seqQ TT_ok (by simp only [go_sem, h5] <;> rfl) ?_
    refine AC_regD [10] mixed (by kernel_rfl) ?_
    refine AQ_take TT_ok 9 rfl (by simp only [go_sem, h0, h3, h5, aget_S hi'] <;> rfl) ?_
    refine AQ_lit TT_ok [U (a[i] / 16), U (a[i] % 16)] TT_50 rfl TT_5 rfl (by decide) rfl (by decide) rfl (by simp only [List.map_cons, List.map_nil, go_sem, numbered]) (fun v hv => ?_) fun H2 hX2 hO hL => ?_
    · simp only [List.mem_cons, List.not_mem_nil, or_false] at hv
      rcases hv with rfl | rfl <;> exact ⟨_, (One.byte _).lay, rfl⟩
    have hB2 := hB.keep hX2
    refine AQ_append TT_ok (v := vb) (n := 2 * i) (m := 2) TT_50 rfl TT_5 (by decide) (by decide) rfl (by simp only [go_sem, h3]) (by simp only [go_sem]) hB2 hO.sl (by rw [rows_length bCell_len, nib_length, List.length_take]; simp; omega) rfl (by simp; omega) (fun j hj => .inl (Nat.le_trans ?_ (hv j hj))) (.inr (.inl rfl)) fun v' H3 hX3 hB3 hv3 => ?_
    · exact Nat.le_refl _
    have hfin : (nib (a.take i)).flatMap bCell ++ ([U (a[i] / 16), U (a[i] % 16)] : List Value).flatMap (fun v => v.cells.toList) = (nib (a.take (i + 1))).flatMap bCell := by
      rw [tk hi', nib_append, List.flatMap_append]
      rfl
    rw [hfin] at hB3
    have hv3' : ∀ j, vid v' = some j → H.length ≤ j := fun j hj => by
      rcases hv3 j hj with h | h
      · exact Nat.le_trans (Nat.le_trans hge hX2.size) h
      · cases h.1
    refine AQ_all TT_ok rfl (by simp only [go_sem] <;> rfl) ?_
    refine AC_quiet TT_ok (by simp only [go_sem, h5, k5] <;> rfl) ?_
    refine ⟨a.length - (i + 1), by omega, i + 1, v', rfl, by omega, hB3, hv3', by simp only [go_sem, h0], by simp only [go_sem], by simp only [go_sem], by simp only [go_sem, h10]⟩
  · refine AC_f (by simp only [go_sem] <;> rfl) (ge_dec (by omega)) ?_
    refine AC_exit ?_
    rw [List.take_of_length_le (by omega)] at hB
    have hS : ByS H1 vb (nib a) := by
      have : (nib a).length = 2 * i := by rw [nib_length]; omega
      rw [ByS, this]; exact hB.sl
    refine AC_seqQ TT_ok (by simp only [go_sem, h3, hS.conv] <;> rfl) ?_
    refine AC_ret ⟨.inl rfl, _, rfl, ?_⟩
    simp only [go_sem]
end Go.Proofs.Ythalogdopkoidaa.Ab
set_option linter.unusedVariables false
set_option linter.unusedSimpArgs false
namespace Go.Proofs.Ythalogdopkoidaa.Ab
open Go Go.RowKit
theorem rem2 (i : Nat) (h : i < 2^62) : abinInt .rem .i64 (i : Int) .i64 2 = some (.int .i64 ((i % 2 : Nat) : Int)) := by
  rw [ai_rem _ _ _ (by omega), Int.tmod_eq_emod_of_nonneg (by omega)]; rfl
theorem quo2 (i : Nat) (h : i < 2^62) : abinInt .quo .i64 (i : Int) .i64 2 = some (.int .i64 ((i / 2 : Nat) : Int)) := by
  rw [ai_quo _ _ _ (by omega), Int.tdiv_eq_ediv_of_nonneg (by omega), wrap64 (by omega) (by omega)]; rfl
theorem zeros_u8 (n : Nat) : zeros n [.int .u8 0] = (List.replicate n (0 : UInt8)).flatMap bCell := by
  induction n with
  | zero => rfl
  | succ n ih =>
    rw [List.replicate_succ, List.flatMap_cons, ← ih]
    simp only [zeros, List.length_singleton, Nat.mul_one, List.range_succ_eq_map, List.map_cons, List.map_map]
    simp [bCell, U, Nat.mod_one]
theorem row1 {α : Type} {f : α → List Value} (hs : ∀ x, (f x).length = 1) (xs : List α) (i : Nat) (y : α) (hi : i < xs.length) : over (xs.flatMap f) (i * 1 + 0) (f y) = (xs.set i y).flatMap f := rows_over hs xs i y hi
theorem c97 {H : AHeap} {a : List UInt8} (ha : a.length < 2^40) : ACalls Try.prog 97 [S a] H (fun _ => False) fun v H' => v = S (two a) := by
  have k1 := wrapN a.length (by omega)
  have k2 := quo2 (a.length + 1) (by omega)
  refine ACalls_by 35 TT_ok Try.func97 rfl rfl rfl (by simp) ?_
  refine AC_seqQ TT_ok (by simp only [go_sem] <;> rfl) ?_
  refine AC_seq ?_
  refine AC_regL ?_
  refine AQ_take TT_ok 4 rfl (by simp only [go_sem, k1, k2] <;> rfl) ?_
  refine AQ_make TT_ok (m := (((a.length + 1) / 2 : Nat) : Int)) (c := (((a.length + 1) / 2 : Nat) : Int)) TT_50 rfl TT_5 rfl (by decide) (by decide) rfl (by simp only [go_sem]) (by simp only [go_sem]) (by omega) (by omega) (by simp; omega) fun Hm hX hO hL => ?_
  rw [Int.toNat_natCast, zeros_u8] at hO
  generalize hvb : Value.slice (some ⟨H.length, 0, none⟩) ((a.length + 1) / 2) ((a.length + 1) / 2) = vb at hO
  have hvid : vid vb = some H.length := by rw [← hvb]; rfl
  refine AQ_all TT_ok rfl (by simp only [go_sem, hvb] <;> rfl) ?_
  refine AC_seq ?_
  refine AC_seqQ TT_ok (by simp only [go_sem] <;> rfl) ?_
  refine AC_block (AC_loop (fun n e' H' => ∃ (i : Nat), n = a.length - i ∧ i ≤ a.length ∧ Own H' vb 5 ((a.length + 1) / 2) ((two (a.take i) ++ List.replicate ((a.length + 1) / 2 - (i + 1) / 2) 0).flatMap bCell) H.length ∧ get e' 0 = S a ∧ get e' 3 = vb ∧ get e' 13 = .int .i64 (i : Nat) ∧ get e' 12 = .int .i64 a.length) a.length ⟨0, by simp, by simp, by simpa [two] using hO, by simp only [go_sem], by simp only [go_sem], by simp only [go_sem] <;> simp, by simp only [go_sem]⟩ ?_)
  rintro n e1 H1 hX1 ⟨i, hn, hi, hB, h0, h3, h5, h12⟩
  have k5 := wrapN i (by omega)
  refine AC_seqQ TT_ok (by simp only [go_sem, h5, h12] <;> rfl) ?_
  refine AC_seq ?_
  have hlen : (two (a.take i) ++ List.replicate ((a.length + 1) / 2 - (i + 1) / 2) (0 : UInt8)).length = (a.length + 1) / 2 := by
    rw [List.length_append, two_length, List.length_replicate, List.length_take]; omega
  have hS : ByS H1 vb (two (a.take i) ++ List.replicate ((a.length + 1) / 2 - (i + 1) / 2) 0) := by
    rw [ByS, hlen]; exact hB.sl
  by_cases hi' : i < a.length
  · refine AC_t (by simp only [go_sem] <;> rfl) (lt_dec hi') ?_
    refine AC_skip ?_
    refine AC_seq (AC_block ?_)
    refine AC_seqQ TT_ok (by simp only [go_sem, h5] <;> rfl) ?_
    have m1 := rem2 i (by omega)
    have m2 := quo2 i (by omega)
    have hq : i / 2 < (two (a.take i) ++ List.replicate ((a.length + 1) / 2 - (i + 1) / 2) (0 : UInt8)).length := by omega
    have b1 := hS.index (k := .i64) hq
    have b2 := hS.load hq
    have tki := tk hi'
    have step : ∀ (sh : Int) (y : UInt8), (i % 2 = 0 ∧ sh = 4 ∧ y = 0 ||| a[i] * 16 ∨ i % 2 = 1 ∧ sh = 0 ∧ y = (two (a.take i) ++ List.replicate ((a.length + 1) / 2 - (i + 1) / 2) (0 : UInt8))[i / 2] ||| a[i]) →
        (two (a.take i) ++ List.replicate ((a.length + 1) / 2 - (i + 1) / 2) (0 : UInt8)).set (i / 2) y = two (a.take (i + 1)) ++ List.replicate ((a.length + 1) / 2 - (i + 1 + 1) / 2) 0 := by
      intro sh y h
      rw [tki]
      rcases h with ⟨he, _, hy⟩ | ⟨ho, _, hy⟩
      · have hl : (two (a.take i)).length = i / 2 := by rw [two_length, List.length_take]; omega
        obtain ⟨r, hr⟩ : ∃ r, (a.length + 1) / 2 - (i + 1) / 2 = r + 1 := ⟨(a.length + 1) / 2 - (i + 1) / 2 - 1, by omega⟩
        rw [two_one _ _ (by rw [List.length_take]; omega), hr, List.replicate_succ, ← hl, List.set_append_right _ _ (by omega), Nat.sub_self, List.set_cons_zero]
        rw [show (a.length + 1) / 2 - (i + 1 + 1) / 2 = r by omega, hy]
        simp
      · have e1 : a.take i = a.take (i - 1) ++ [a[i - 1]] := by
          have := tk (l := a) (i := i - 1) (by omega)
          rwa [show i - 1 + 1 = i by omega] at this
        have h2 : (a.take (i - 1)).length % 2 = 0 := by rw [List.length_take]; omega
        have hl : (two (a.take (i - 1))).length = i / 2 := by rw [two_length, List.length_take]; omega
        rw [show (a.length + 1) / 2 - (i + 1) / 2 = (a.length + 1) / 2 - (i + 1 + 1) / 2 by omega]
        have e2 : two (a.take i) = two (a.take (i - 1)) ++ [a[i - 1] * 16] := by rw [e1, two_one _ _ h2]
        have e3 : two (a.take i ++ [a[i]]) = two (a.take (i - 1)) ++ [a[i - 1] * 16 ||| a[i]] := by
          rw [e1, List.append_assoc]; exact two_two _ _ _ h2
        rw [e3]
        simp only [e2] at hy ⊢
        have hg : (two (a.take (i - 1)) ++ [a[i - 1] * 16] ++ List.replicate ((a.length + 1) / 2 - (i + 1) / 2) (0 : UInt8))[i / 2]? = some (a[i - 1] * 16) := by
          rw [List.append_assoc, List.getElem?_append_right (by omega), hl, Nat.sub_self]; rfl
        have hy' : y = a[i - 1] * 16 ||| a[i] := by
          rw [hy]
          congr 1
          rw [List.getElem?_eq_getElem (by rw [← e2]; exact hq)] at hg
          exact Option.some.inj hg
        rw [hy', List.append_assoc, ← hl, List.set_append_right _ _ (by omega), Nat.sub_self]
        simp
    rcases (by omega : i % 2 = 0 ∨ i % 2 = 1) with he | ho
    · have b3 : aget TT 137 (.agg #[.int .i64 4, .int .i64 0]) (.int .i64 ((0 : Nat) : Int)) = some (.int .i64 4) := rfl
      have hb : abuild TT 137 [(0, .int .i64 4), (1, .int .i64 0)] = some (.agg #[.int .i64 4, .int .i64 0]) := rfl
      rw [he] at m1
      refine AC_seqQ TT_ok (by simp only [go_sem, List.map_cons, List.map_nil, hb, m1, b3] <;> rfl) ?_
      have hz : (two (a.take i) ++ List.replicate ((a.length + 1) / 2 - (i + 1) / 2) (0 : UInt8))[i / 2] = 0 := by
        have hl : (two (a.take i)).length = i / 2 := by rw [two_length, List.length_take]; omega
        rw [List.getElem_append_right (by omega)]
        simp
      rw [hz] at b2
      refine AC_regD [12] mixed (by kernel_rfl) ?_
      refine AQ_take TT_ok 12 rfl (by simp only [go_sem, h0, h3, m2, b1, b2, aget_S hi'] <;> rfl) ?_
      refine AQ_storeE TT_ok TT_5 rfl (by simp only [go_sem] <;> rfl) (by simp only [go_sem] <;> rfl) (One.byte _).lay rfl hB (by rw [rows_length bCell_len, hlen]; simp; omega) (.inl (Nat.le_refl _)) (.inr rfl) fun H2 hX2 hB2 hL2 => ?_
      refine AQ_nil ?_
      have hc : over ((two (a.take i) ++ List.replicate ((a.length + 1) / 2 - (i + 1) / 2) (0 : UInt8)).flatMap bCell) (i / 2 * 1 + 0) [U (0 ||| a[i] * 16)] = (two (a.take (i + 1)) ++ List.replicate ((a.length + 1) / 2 - (i + 1 + 1) / 2) (0 : UInt8)).flatMap bCell :=
        (row1 bCell_len _ _ _ hq).trans (by rw [step 4 _ (.inl ⟨he, rfl, rfl⟩)])
      rw [hc] at hB2
      refine AC_quiet TT_ok (by simp only [go_sem, h5, k5] <;> rfl) ?_
      exact ⟨a.length - (i + 1), by omega, i + 1, rfl, by omega, hB2, by simp only [go_sem, h0], by simp only [go_sem, h3], by simp only [go_sem], by simp only [go_sem, h12]⟩
    · have b3 : aget TT 137 (.agg #[.int .i64 4, .int .i64 0]) (.int .i64 ((1 : Nat) : Int)) = some (.int .i64 0) := rfl
      have hb : abuild TT 137 [(0, .int .i64 4), (1, .int .i64 0)] = some (.agg #[.int .i64 4, .int .i64 0]) := rfl
      rw [ho] at m1
      refine AC_seqQ TT_ok (by simp only [go_sem, List.map_cons, List.map_nil, hb, m1, b3] <;> rfl) ?_
      refine AC_regD [12] mixed (by kernel_rfl) ?_
      refine AQ_take TT_ok 12 rfl (by simp only [go_sem, h0, h3, m2, b1, b2, aget_S hi'] <;> rfl) ?_
      refine AQ_storeE TT_ok TT_5 rfl (by simp only [go_sem] <;> rfl) (by simp only [go_sem] <;> rfl) (One.byte _).lay rfl hB (by rw [rows_length bCell_len, hlen]; simp; omega) (.inl (Nat.le_refl _)) (.inr rfl) fun H2 hX2 hB2 hL2 => ?_
      refine AQ_nil ?_
      have hc : over ((two (a.take i) ++ List.replicate ((a.length + 1) / 2 - (i + 1) / 2) (0 : UInt8)).flatMap bCell) (i / 2 * 1 + 0) [U ((two (a.take i) ++ List.replicate ((a.length + 1) / 2 - (i + 1) / 2) (0 : UInt8))[i / 2] ||| a[i])] = (two (a.take (i + 1)) ++ List.replicate ((a.length + 1) / 2 - (i + 1 + 1) / 2) (0 : UInt8)).flatMap bCell :=
        (row1 bCell_len _ _ _ hq).trans (by rw [step 0 _ (.inr ⟨ho, rfl, rfl⟩)])
      rw [hc] at hB2
      refine AC_quiet TT_ok (by simp only [go_sem, h5, k5] <;> rfl) ?_
      exact ⟨a.length - (i + 1), by omega, i + 1, rfl, by omega, hB2, by simp only [go_sem, h0], by simp only [go_sem, h3], by simp only [go_sem], by simp only [go_sem, h12]⟩
  · refine AC_f (by simp only [go_sem] <;> rfl) (ge_dec (by omega)) ?_
    refine AC_exit ?_
    have hS' : ByS H1 vb (two a) := by
      rw [List.take_of_length_le (by omega), show (a.length + 1) / 2 - (i + 1) / 2 = 0 by omega, List.replicate_zero, List.append_nil] at hS
      exact hS
    refine AC_seqQ TT_ok (by simp only [go_sem, h3, hS'.conv] <;> rfl) ?_
    refine AC_ret ⟨.inl rfl, _, rfl, ?_⟩
    simp only [go_sem]
theorem keyOf_some {a : List UInt8} (h : (keyOf a).isSome = true) : a.length % 2 = 0 ∧ (∀ b ∈ a, b ≤ 15) ∧ keyOf a = some (unn a) := by
  unfold keyOf at h ⊢
  split at h
  · rename_i hc
    exact ⟨hc.1, hc.2, if_pos hc⟩
  · cases h
theorem keyOf_none {a : List UInt8} (h : ¬ (a.length % 2 = 0 ∧ ∀ b ∈ a, b ≤ 15)) : keyOf a = none := if_neg h
/-- What both layers' Key tells. -/
theorem c93 {H : AHeap} {a : List UInt8} (ha : a.length < 2^40) : ACalls Try.prog 93 [S a] H (fun _ => False) fun v H' => v = .tuple #[S ((keyOf a).getD []), .bool (keyOf a).isSome] := by
  refine ACalls_by 15 TT_ok Try.func93 rfl rfl rfl (by simp) ?_
  refine AC_seqQ TT_ok (by simp only [go_sem] <;> rfl) ?_
  refine AC_seq ?_
  refine AC_cut (fun e' H' => get e' 0 = S a ∧ get e' 12 = .bool (!(keyOf a).isSome)) ?_ (fun e1 H1 hX ⟨h0, h12⟩ => ?_)
  · refine AC_regL ?_
    by_cases he : a.length % 2 = 0
    · have m1 : abinInt .rem .i64 (a.length : Int) .i64 2 = some (.int .i64 0) := by rw [rem2 _ (by omega), he]; rfl
      have d1 : decide ((0 : Int) = 0) = true := rfl
      refine AQ_take TT_ok 6 rfl (by simp only [go_sem, m1, d1, Bool.not_true] <;> rfl) ?_
      refine AQ_c rfl (by simp only [go_sem] <;> rfl) fok96 (by simp only [List.map_cons, List.map_nil, List.append_nil, go_sem] <;> rfl) (c96 (a := a) (by omega)) (fun _ _ h => h.elim) (.inl rfl) fun v H1 hX ⟨hv, hH⟩ => ?_
      subst hv hH
      by_cases hs : ∀ b ∈ a, b ≤ 15
      · have d2 : decide (∀ b ∈ a, b ≤ 15) = true := decide_eq_true hs
        refine AQ_all TT_ok rfl (by simp only [go_sem, d2] <;> rfl) ?_
        refine ⟨by simp only [go_sem], ?_⟩
        rw [keyOf, if_pos ⟨he, hs⟩]
        simp only [go_sem]; rfl
      · have d2 : decide (∀ b ∈ a, b ≤ 15) = false := decide_eq_false hs
        refine AQ_all TT_ok rfl (by simp only [go_sem, d2] <;> rfl) ?_
        refine ⟨by simp only [go_sem], ?_⟩
        rw [keyOf_none (fun h => hs h.2)]
        simp only [go_sem]; rfl
    · have m1 : abinInt .rem .i64 (a.length : Int) .i64 2 = some (.int .i64 1) := by rw [rem2 _ (by omega), show a.length % 2 = 1 by omega]; rfl
      have d1 : decide ((1 : Int) = 0) = false := rfl
      refine AQ_take TT_ok 6 rfl (by simp only [go_sem, m1, d1, Bool.not_false] <;> rfl) ?_
      refine AQ_pass rfl ?_
      refine AQ_all TT_ok rfl (by simp only [go_sem] <;> rfl) ?_
      refine ⟨by simp only [go_sem], ?_⟩
      rw [keyOf_none (fun h => he h.1)]
      simp only [go_sem]; rfl
  by_cases hk : (keyOf a).isSome = true
  · obtain ⟨k1, k2, k3⟩ := keyOf_some hk
    refine AC_f h12 (by rw [hk]; rfl) ?_
    refine AC_skip ?_
    refine AC_seq ?_
    refine AC_regL ?_
    refine AQ_take TT_ok 1 rfl (by simp only [go_sem, h0] <;> rfl) ?_
    refine AQ_c rfl (by simp only [go_sem] <;> rfl) fok97 (by simp only [List.map_cons, List.map_nil, List.append_nil, go_sem] <;> rfl) (c97 (a := a) (by omega)) (fun _ _ h => h.elim) (.inl rfl) fun v H2 hX hv => ?_
    subst hv
    refine AQ_all TT_ok rfl (by simp only [go_sem] <;> rfl) ?_
    refine AC_ret ⟨.inl rfl, _, rfl, ?_⟩
    rw [k3, two_unn _ k1 k2]
    simp only [go_sem]; rfl
  · refine AC_t h12 (by simpa using hk) ?_
    refine AC_seqQ TT_ok (by simp only [go_sem] <;> rfl) ?_
    refine AC_ret ⟨.inl rfl, _, rfl, ?_⟩
    have hk' : keyOf a = none := by simpa using hk
    rw [hk']
    simp only [go_sem]; rfl
end Go.Proofs.Ythalogdopkoidaa.Ab
set_option linter.unusedVariables false
set_option linter.unusedSimpArgs false
namespace Go.Proofs.Ythalogdopkoidaa.Ab
open Go Go.RowKit
theorem lay109 (s : List UInt8) (b : Bool) : Lay (.agg #[S s, .bool b]) [S s, .bool b] := ⟨rfl, rfl, rfl⟩
theorem c66 {H : AHeap} {a : List UInt8} (ha : a.length < 2^40) : ACalls Try.prog 66 [S a] H (fun _ => False) fun v H' => v = .agg #[S ((keyOf a).getD []), .bool (keyOf a).isSome] := by
  refine ACalls_by 40 TT_ok Try.func66 rfl rfl rfl (by simp) ?_
  refine AC_seq ?_
  refine AC_regL ?_
  refine AQ_alloc TT_ok TT_109 rfl fun Hm hXm hOm hLm => ?_
  refine AQ_all TT_ok rfl (by simp only [go_sem] <;> rfl) ?_
  refine AC_seqQ TT_ok (by simp only [go_sem] <;> rfl) ?_
  refine AC_cut (fun e' H' => get e' 0 = S a ∧ get e' 2 = .pointer (some ⟨H.length, 0, none⟩) ∧ (keyOf a).isSome = true ∧ Ob H' H.length 109 [S [], .bool false] ∧ ∃ vb, get e' 3 = vb ∧ ByS H' vb (unn a) ∧ vid vb ≠ some H.length) ?_ (fun e1 H1 hX ⟨h0, h2, hk, hO, vb, h3, hS, hne⟩ => ?_)
  rotate_left
  · have hb : abuild TT 109 [(0, S (unn a)), (1, .bool true)] = some (.agg #[S (unn a), .bool true]) := rfl
    refine AC_seq ?_
    refine AC_regL ?_
    refine AQ_take TT_ok 3 rfl (by simp only [go_sem, h3, hS.conv, List.map_cons, List.map_nil, hb] <;> rfl) ?_
    refine AQ_store TT_ok TT_109 rfl (by simp only [go_sem, h2] <;> rfl) (by simp only [go_sem] <;> rfl) (lay109 _ _) rfl hO (by simp) (.inl (Nat.le_refl _)) (.inl rfl) fun H2 hX2 hO2 hL2 => ?_
    refine AQ_nil ?_
    refine AC_ret ⟨.inl rfl, (.agg #[S (unn a), .bool true]), ?_, ?_⟩
    · have : get e1 2 = .pointer (some ⟨H.length, 0, none⟩) := h2
      show ares TT H2 _ [.cell 2 109] = _
      simp only [ares, List.mapM_cons, List.mapM_nil, ares1, go_sem, h2, hO2.load]
      rfl
    · rw [(keyOf_some hk).2.2]; rfl
  refine AC_seq ?_
  refine AC_quiet TT_ok (by simp only [go_sem] <;> rfl) ?_
  refine AC_block (AC_loop (fun n e' H' => ∃ (i : Nat) (vb : Value), n = a.length - i ∧ i ≤ a.length ∧ (∀ b ∈ a.take i, b ≤ 15) ∧ (0 < i → a.length % 2 = 0) ∧ Ob H' H.length 109 [S [], .bool false] ∧ Buf H' vb 5 (i / 2) ((unn (a.take i)).flatMap bCell) ∧ (∀ j, vid vb = some j → H.length < j) ∧ H.length < H'.length ∧ get e' 0 = S a ∧ get e' 2 = .pointer (some ⟨H.length, 0, none⟩) ∧ get e' 3 = vb ∧ get e' 4 = .int .i64 (i : Nat)) a.length
    ⟨0, .slice none 0 0, by simp, by simp, by simp, by simp, hOm, Buf.nil _ _, fun j hj => (by cases hj), by omega, by simp only [go_sem], by simp only [go_sem], by simp only [go_sem], by simp only [go_sem] <;> simp⟩ ?_)
  rintro n e1 H1 hX1 ⟨i, vb, hn, hi, hs, hev, hO, hB, hv, hlen, h0, h2, h3, h4⟩
  have k5 := wrapN i (by omega)
  refine AC_seq ?_
  refine AC_seqQ TT_ok (by simp only [go_sem, h0, h4] <;> rfl) ?_
  by_cases hi' : i < a.length
  · refine AC_t (by simp only [go_sem] <;> rfl) (lt_dec hi') ?_
    refine AC_skip ?_
    refine AC_seq (AC_block ?_)
    refine AC_seq ?_
    have gb := aget_S (k := .i64) hi'
    by_cases hbad : 15 < a[i] ∨ a.length % 2 = 1
    · refine AC_cut (fun e' H' => H' = H1 ∧ get e' 2 = .pointer (some ⟨H.length, 0, none⟩) ∧ get e' 20 = .bool true) ?_ (fun e2 H2 hX2 ⟨hH, g2, g20⟩ => ?_)
      · by_cases hb1 : 15 < a[i]
        · have d1 : decide (15 < a[i]) = true := decide_eq_true hb1
          refine AC_quiet TT_ok (by simp only [go_sem, h0, h4, gb, d1] <;> rfl) ?_
          exact ⟨rfl, by simp only [go_sem, h2], by simp only [go_sem]⟩
        · have d1 : decide (15 < a[i]) = false := decide_eq_false hb1
          have m1 : abinInt .rem .i64 (a.length : Int) .i64 2 = some (.int .i64 1) := by rw [rem2 _ (by omega), hbad.resolve_left hb1]; rfl
          have d2 : decide ((1 : Int) = 0) = false := rfl
          refine AC_quiet TT_ok (by simp only [go_sem, h0, h4, gb, d1, m1, d2, Bool.not_false] <;> rfl) ?_
          exact ⟨rfl, by simp only [go_sem, h2], by simp only [go_sem]⟩
      · subst hH
        refine AC_t g20 rfl ?_
        have hb : abuild TT 109 [] = some (.agg #[S [], .bool false]) := rfl
        refine AC_seq ?_
        refine AC_regL ?_
        refine AQ_take TT_ok 1 rfl (by simp only [go_sem, List.map_nil, hb] <;> rfl) ?_
        refine AQ_store TT_ok TT_109 rfl (by simp only [go_sem, g2] <;> rfl) (by simp only [go_sem] <;> rfl) (lay109 _ _) rfl hO (by simp) (.inl (Nat.le_refl _)) (.inl rfl) fun H3 hX3 hO3 hL3 => ?_
        refine AQ_nil (AC_ret ⟨.inl rfl, (.agg #[S [], .bool false]), ?_, ?_⟩)
        · show ares TT H3 _ [.cell 2 109] = _
          simp only [ares, List.mapM_cons, List.mapM_nil, ares1, go_sem, g2, hO3.load]
          rfl
        · rw [keyOf_none]; rfl
          rintro ⟨h1, h2⟩
          rcases hbad with h | h
          · exact absurd (h2 _ (List.getElem_mem hi')) (UInt8.not_le.2 h)
          · omega
    · have hb1 : ¬ 15 < a[i] := fun h => hbad (.inl h)
      have he : a.length % 2 = 0 := by omega
      have d1 : decide (15 < a[i]) = false := decide_eq_false hb1
      have m1 : abinInt .rem .i64 (a.length : Int) .i64 2 = some (.int .i64 0) := by rw [rem2 _ (by omega), he]; rfl
      have d2 : decide ((0 : Int) = 0) = true := rfl
      have hs' : ∀ b ∈ a.take (i + 1), b ≤ 15 := fun b hb => by
        rw [tk hi', List.mem_append, List.mem_singleton] at hb
        rcases hb with h | rfl
        · exact hs b h
        · exact UInt8.not_lt.1 hb1
      refine AC_seqQ TT_ok (by simp only [go_sem, h0, h4, gb, d1, m1, d2, Bool.not_true] <;> rfl) ?_
      refine AC_f (by simp only [go_sem] <;> rfl) (rfl) ?_
      refine AC_skip ?_
      rcases (by omega : i % 2 = 0 ∨ i % 2 = 1) with hp | hp
      · have m2 : abinInt .rem .i64 (i : Int) .i64 2 = some (.int .i64 0) := by rw [rem2 _ (by omega), hp]; rfl
        have d3 : decide ((0 : Int) = 1) = false := rfl
        refine AC_seqQ TT_ok (by simp only [go_sem, h4, m2, d3] <;> rfl) ?_
        refine AC_f (by simp only [go_sem] <;> rfl) (rfl) ?_
        refine AC_skip ?_
        refine AC_quiet TT_ok (by simp only [go_sem, h4, k5] <;> rfl) ?_
        refine ⟨a.length - (i + 1), by omega, i + 1, vb, rfl, by omega, hs', fun _ => he, hO, ?_, hv, hlen, by simp only [go_sem, h0], by simp only [go_sem, h2], by simp only [go_sem, h3], by simp only [go_sem]⟩
        rw [tk hi', unn_one _ _ (by rw [List.length_take]; omega), show (i + 1) / 2 = i / 2 by omega]
        exact hB
      · have m2 : abinInt .rem .i64 (i : Int) .i64 2 = some (.int .i64 1) := by rw [rem2 _ (by omega), hp]; rfl
        have d3 : decide ((1 : Int) = 1) = true := rfl
        refine AC_seqQ TT_ok (by simp only [go_sem, h4, m2, d3] <;> rfl) ?_
        refine AC_t (by simp only [go_sem] <;> rfl) (rfl) ?_
        have k6 : IntKind.i64.wrap ((i : Int) - 1) = ((i - 1 : Nat) : Int) := by rw [wrap64 (by omega) (by omega)]; omega
        have gb2 := aget_S (l := a) (j := i - 1) (k := .i64) (by omega)
        refine AC_regD [11] mixed (by kernel_rfl) ?_
        refine AQ_take TT_ok 10 rfl (by simp only [go_sem, h0, h3, h4, k6, gb2, gb] <;> rfl) ?_
        refine AQ_lit TT_ok [U (a[i - 1] * 16 + a[i])] TT_50 rfl TT_5 rfl (by decide) rfl (by decide) rfl (by simp only [List.map_cons, List.map_nil, go_sem, numbered]) (fun v hv => ?_) fun H2 hX2 hO2 hL2 => ?_
        · simp only [List.mem_cons, List.not_mem_nil, or_false] at hv
          subst hv
          exact ⟨_, (One.byte _).lay, rfl⟩
        have hB2 := hB.keep hX2
        refine AQ_append TT_ok (v := vb) (n := i / 2) (m := 1) TT_50 rfl TT_5 (by decide) (by decide) rfl (by simp only [go_sem, h3]) (by simp only [go_sem]) hB2 hO2.sl (by rw [rows_length bCell_len, unn_length, List.length_take]; simp; omega) rfl (by simp; omega) (fun j hj => .inl (Nat.le_of_lt (hv j hj))) (.inr (.inl rfl)) fun v' H3 hX3 hB3 hv3 => ?_
        have e1 : a.take i = a.take (i - 1) ++ [a[i - 1]] := by
          have := tk (l := a) (i := i - 1) (by omega)
          rwa [show i - 1 + 1 = i by omega] at this
        have hfin : (unn (a.take i)).flatMap bCell ++ ([U (a[i - 1] * 16 + a[i])] : List Value).flatMap (fun v => v.cells.toList) = (unn (a.take (i + 1))).flatMap bCell := by
          have hl : (a.take (i - 1)).length % 2 = 0 := by rw [List.length_take]; omega
          rw [tk hi', e1, unn_one _ _ hl, List.append_assoc]
          show _ = (unn (a.take (i - 1) ++ [a[i - 1], a[i]])).flatMap bCell
          rw [unn_two _ _ _ hl, List.flatMap_append]
          rfl
        rw [hfin] at hB3
        refine AQ_all TT_ok rfl (by simp only [go_sem] <;> rfl) ?_
        refine AC_quiet TT_ok (by simp only [go_sem, h4, k5] <;> rfl) ?_
        refine ⟨a.length - (i + 1), by omega, i + 1, v', rfl, by omega, hs', fun _ => he, (hO.keep hX2).ext hX3 (fun h => Nat.lt_irrefl _ (hv _ h)), ?_, fun j hj => ?_, ?_, by simp only [go_sem, h0], by simp only [go_sem, h2], by simp only [go_sem], by simp only [go_sem]⟩
        · rw [show (i + 1) / 2 = i / 2 + 1 by omega]; exact hB3
        · rcases hv3 j hj with h | h
          · exact Nat.lt_of_lt_of_le (Nat.lt_of_lt_of_le hlen hX2.size) h
          · cases h.1
        · exact Nat.lt_of_lt_of_le (Nat.lt_of_lt_of_le hlen hX2.size) hX3.size
  · refine AC_f (by simp only [go_sem] <;> rfl) (ge_dec (by omega)) ?_
    refine AC_exit ⟨by simp only [go_sem, h0], by simp only [go_sem, h2], ?_, hO, vb, by simp only [go_sem, h3], ?_, fun h => Nat.lt_irrefl _ (hv _ h)⟩
    · rw [List.take_of_length_le (by omega)] at hs
      by_cases h0 : a.length = 0
      · have : a = [] := List.eq_nil_of_length_eq_zero h0
        subst this; rfl
      · rw [keyOf, if_pos ⟨hev (by omega), hs⟩]; rfl
    · rw [List.take_of_length_le (by omega)] at hB
      rw [ByS, unn_length, show a.length = i by omega]
      exact hB.sl
end Go.Proofs.Ythalogdopkoidaa.Ab
set_option linter.unusedVariables false
set_option linter.unusedSimpArgs false
namespace Go.Proofs.Ythalogdopkoidaa.Ab
open Go Go.RowKit
theorem dec_le {a b : List UInt8} (h : a < b) : decide (b ≤ a) = false := decide_eq_false (fun h' => List.not_lt.2 h' h)
set_option maxHeartbeats 2000000 in
theorem c39 {H : AHeap} {vl : Value} {l : List Pr} (hS : PrS H vl l) (hl : l.length < 2^40) : ACalls Try.prog 39 [vl] H (fun _ => False) fun v H' => v = .bool (decide (May l)) ∧ H' = H := by
  refine ACalls_by 53 TT_ok Try.func39 rfl rfl rfl (by simp) ?_
  refine AC_seqQ TT_ok (by simp only [go_sem] <;> rfl) ?_
  refine AC_seq ?_
  refine AC_seqQ TT_ok (by simp only [go_sem] <;> rfl) ?_
  refine AC_block (AC_loop (fun n e' H' => ∃ i : Nat, n = l.length - i ∧ i ≤ l.length ∧ May (l.take i) ∧ H' = H ∧ get e' 0 = vl ∧ get e' 3 = .int .i64 (i : Nat)) l.length ⟨0, by simp, by simp, May.nil, rfl, by simp only [go_sem], by simp only [go_sem] <;> simp⟩ ?_)
  rintro n e1 H1 _ ⟨i, hn, hi, hm, rfl, h0, h3⟩
  have k5 := wrapN i (by omega)
  refine AC_seq ?_
  refine AC_seqQ TT_ok (by simp only [go_sem, h0, h3, hS.alen] <;> rfl) ?_
  by_cases hi' : i < l.length
  · refine AC_t (by simp only [go_sem] <;> rfl) (lt_dec hi') ?_
    refine AC_skip ?_
    have a1 := hS.index (k := .i64) (j := (i : Int)) (by omega) (by omega)
    rw [Int.toNat_natCast] at a1
    have a2 := hS.f0 hi'
    have a3 := hS.key hi'
    have a4 := hS.f1 hi'
    have a5 := hS.value hi'
    refine AC_seq (AC_block ?_)
    by_cases hx : Nxt l i hi'
    · refine AC_cut (fun e' H' => H' = H1 ∧ get e' 0 = vl ∧ get e' 3 = .int .i64 (i : Nat) ∧ get e' 52 = .bool false) ?_ (fun e2 H2 hX2 ⟨hH, g0, g3, g52⟩ => ?_)
      · obtain ⟨⟨p1, p2, p3⟩, hlt⟩ := hx
        have d1 : decide ((l[i].key.length : Int) < 1) = false := decide_eq_false (by omega)
        have d2 : decide ((8 : Int) < (l[i].key.length : Int)) = false := decide_eq_false (by omega)
        have d3 : decide ((16 : Int) < (l[i].value.length : Int)) = false := decide_eq_false (by omega)
        by_cases hz : 0 < i
        · have d4 : decide ((0 : Int) < (i : Int)) = true := decide_eq_true (by omega)
          have k6 : IntKind.i64.wrap ((i : Int) - 1) = ((i - 1 : Nat) : Int) := by rw [wrap64 (by omega) (by omega)]; omega
          have b1 := hS.index (k := .i64) (j := ((i - 1 : Nat) : Int)) (by omega) (by omega)
          rw [Int.toNat_natCast] at b1
          have b2 := hS.f0 (i := i - 1) (by omega)
          have b3 := hS.key (i := i - 1) (by omega)
          have d5 := dec_le (hlt hz)
          refine AC_quiet_draw TT_ok mixed (by kernel_rfl) (by simp only [go_sem, h0, h3, a1, a2, a3, a4, a5, d1, d2, d3, d4, k6, b1, b2, b3, d5] <;> rfl) ?_
          exact ⟨rfl, by simp only [go_sem, h0], by simp only [go_sem, h3], by simp only [go_sem]⟩
        · have d4 : decide ((0 : Int) < (i : Int)) = false := decide_eq_false (by omega)
          refine AC_quiet_draw TT_ok mixed (by kernel_rfl) (by simp only [go_sem, h0, h3, a1, a2, a3, a4, a5, d1, d2, d3, d4] <;> rfl) ?_
          exact ⟨rfl, by simp only [go_sem, h0], by simp only [go_sem, h3], by simp only [go_sem]⟩
      · subst hH
        refine AC_f g52 rfl (AC_skip ?_)
        refine AC_quiet TT_ok (by simp only [go_sem, g3, k5] <;> rfl) ?_
        exact ⟨l.length - (i + 1), by omega, i + 1, rfl, by omega, hm.step hi' hx, rfl, by simp only [go_sem, g0], by simp only [go_sem]⟩
    · refine AC_cut (fun e' H' => H' = H1 ∧ get e' 52 = .bool true) ?_ (fun e2 H2 hX2 ⟨hH, g52⟩ => ?_)
      · by_cases c1 : l[i].key.length < 1
        · have d1 : decide ((l[i].key.length : Int) < 1) = true := decide_eq_true (by omega)
          refine AC_quiet_draw TT_ok mixed (by kernel_rfl) (by simp only [go_sem, h0, h3, a1, a2, a3, a4, a5, d1] <;> rfl) ?_
          exact ⟨rfl, by simp only [go_sem]⟩
        have d1 : decide ((l[i].key.length : Int) < 1) = false := decide_eq_false (by omega)
        by_cases c2 : 8 < l[i].key.length
        · have d2 : decide ((8 : Int) < (l[i].key.length : Int)) = true := decide_eq_true (by omega)
          refine AC_quiet_draw TT_ok mixed (by kernel_rfl) (by simp only [go_sem, h0, h3, a1, a2, a3, a4, a5, d1, d2] <;> rfl) ?_
          exact ⟨rfl, by simp only [go_sem]⟩
        have d2 : decide ((8 : Int) < (l[i].key.length : Int)) = false := decide_eq_false (by omega)
        by_cases c3 : 16 < l[i].value.length
        · have d3 : decide ((16 : Int) < (l[i].value.length : Int)) = true := decide_eq_true (by omega)
          refine AC_quiet_draw TT_ok mixed (by kernel_rfl) (by simp only [go_sem, h0, h3, a1, a2, a3, a4, a5, d1, d2, d3] <;> rfl) ?_
          exact ⟨rfl, by simp only [go_sem]⟩
        have d3 : decide ((16 : Int) < (l[i].value.length : Int)) = false := decide_eq_false (by omega)
        have hz : 0 < i := by
          rcases Nat.eq_zero_or_pos i with h | h
          · exact absurd ⟨⟨by omega, by omega, by omega⟩, fun h' => absurd h' (by omega)⟩ hx
          · exact h
        have hle : l[i].key ≤ l[i - 1].key := List.not_lt.1 fun h => hx ⟨⟨by omega, by omega, by omega⟩, fun _ => h⟩
        have d4 : decide ((0 : Int) < (i : Int)) = true := decide_eq_true (by omega)
        have k6 : IntKind.i64.wrap ((i : Int) - 1) = ((i - 1 : Nat) : Int) := by rw [wrap64 (by omega) (by omega)]; omega
        have b1 := hS.index (k := .i64) (j := ((i - 1 : Nat) : Int)) (by omega) (by omega)
        rw [Int.toNat_natCast] at b1
        have b2 := hS.f0 (i := i - 1) (by omega)
        have b3 := hS.key (i := i - 1) (by omega)
        have d5 : decide (l[i].key ≤ l[i - 1].key) = true := decide_eq_true hle
        refine AC_quiet_draw TT_ok mixed (by kernel_rfl) (by simp only [go_sem, h0, h3, a1, a2, a3, a4, a5, d1, d2, d3, d4, k6, b1, b2, b3, d5] <;> rfl) ?_
        exact ⟨rfl, by simp only [go_sem]⟩
      · subst hH
        refine AC_t g52 rfl ?_
        refine AC_seqQ TT_ok (by simp only [go_sem] <;> rfl) ?_
        refine AC_ret ⟨.inl rfl, _, rfl, ?_, rfl⟩
        simp only [go_sem]
        rw [decide_eq_false (fun h => hx (h.nxt i hi'))]
  · refine AC_f (by simp only [go_sem] <;> rfl) (ge_dec (by omega)) ?_
    refine AC_exit ?_
    refine AC_seqQ TT_ok (by simp only [go_sem] <;> rfl) ?_
    refine AC_ret ⟨.inl rfl, _, rfl, ?_, rfl⟩
    rw [List.take_of_length_le (by omega)] at hm
    simp only [go_sem]
    rw [decide_eq_true hm]
end Go.Proofs.Ythalogdopkoidaa.Ab
set_option linter.unusedVariables false
set_option linter.unusedSimpArgs false
namespace Go.Proofs.Ythalogdopkoidaa.Ab
open Go Go.RowKit
set_option maxHeartbeats 2000000 in
theorem c61 {H : AHeap} {vl : Value} {l : List Pr} (hS : PrS H vl l) (hl : l.length < 2^40) : ACalls Try.prog 61 [vl] H (fun _ => False) fun v H' => v = .bool (decide (May l)) := by
  refine ACalls_by 43 TT_ok Try.func61 rfl rfl rfl (by simp) ?_
  refine AC_seqQ TT_ok (by simp only [go_sem] <;> rfl) ?_
  refine AC_seq ?_
  refine AC_seqQ TT_ok (by simp only [go_sem, hS.alen] <;> rfl) ?_
  refine AC_block (AC_loop (fun n e' H' => ∃ i : Nat, n = l.length - i ∧ i ≤ l.length ∧ May (l.take i) ∧ AExt (fun _ => False) H H' ∧ get e' 0 = vl ∧ get e' 7 = .int .i64 (i : Nat) ∧ get e' 5 = vl ∧ get e' 6 = .int .i64 l.length) l.length ⟨0, by simp, by simp, May.nil, AExt.refl _ _, by simp only [go_sem], by simp only [go_sem] <;> simp, by simp only [go_sem], by simp only [go_sem]⟩ ?_)
  rintro n e1 H1 _ ⟨i, hn, hi, hm, hX1, h0, h7, h5, h6⟩
  have k5 := wrapN i (by omega)
  refine AC_seqQ TT_ok (by simp only [go_sem, h6, h7] <;> rfl) ?_
  refine AC_seq ?_
  by_cases hi' : i < l.length
  · refine AC_t (by simp only [go_sem] <;> rfl) (lt_dec hi') ?_
    refine AC_skip ?_
    have hS := hS.keep hX1
    have a1 := hS.index (k := .i64) (j := (i : Int)) (by omega) (by omega)
    rw [Int.toNat_natCast] at a1
    have a2 := hS.load hi'
    refine AC_seq (AC_block ?_)
    refine AC_seq ?_
    refine AC_regL ?_
    refine AQ_take TT_ok 3 rfl (by simp only [go_sem, h5, h7, a1, a2] <;> rfl) ?_
    refine AQ_alloc TT_ok TT_52 rfl fun Hm hXm hOm hLm => ?_
    refine AQ_take TT_ok 1 rfl (by simp only [go_sem] <;> rfl) ?_
    refine AQ_store TT_ok TT_52 rfl (by simp only [go_sem] <;> rfl) (by simp only [go_sem] <;> rfl) (Lay.pr _) rfl hOm (by simp [Pr.cells]) (.inl (by have := hX1.size; omega)) (.inl rfl) fun H2 hX2 hO2 hL2 => ?_
    refine AQ_nil ?_
    have hS2 := (hS.keep hXm).ext hX2 (fun j hj hv hj' => by have := hS.vid_lt hv; omega)
    have hX2' : AExt (fun _ => False) H H2 := ⟨by have := hX1.size; omega, fun j hj _ => ((hX2.obj j (by have := hX1.size; omega) (by have := hX1.size; omega)).trans (hXm.obj j (by have := hX1.size; omega) id)).trans (hX1.obj j hj id)⟩
    have a3 : ∀ t k, aload TT H2 t (.pointer (some ⟨H1.length, k, none⟩)) = apart TT t [S l[i].key, S l[i].value] k := fun t k => hO2.load t k
    have f0 : ∀ k, afield TT 52 (.pointer (some ⟨k, 0, none⟩)) 0 = some (.pointer (some ⟨k, 0, none⟩)) := fun k => rfl
    have f1 : ∀ k, afield TT 52 (.pointer (some ⟨k, 0, none⟩)) 1 = some (.pointer (some ⟨k, 1, none⟩)) := fun k => rfl
    have g0 : apart TT 9 [S l[i].key, S l[i].value] 0 = some (S l[i].key) := rfl
    have g1 : apart TT 9 [S l[i].key, S l[i].value] 1 = some (S l[i].value) := rfl
    by_cases hx : Nxt l i hi'
    · refine AC_cut (fun e' H' => H' = H2 ∧ get e' 0 = vl ∧ get e' 7 = .int .i64 (i : Nat) ∧ get e' 5 = vl ∧ get e' 6 = .int .i64 l.length ∧ get e' 41 = .bool false) ?_ (fun e2 H3 hX3 ⟨hH, q0, q7, q5, q6, q41⟩ => ?_)
      · obtain ⟨⟨p1, p2, p3⟩, hlt⟩ := hx
        have d1 : decide (l[i].key = []) = false := decide_eq_false (fun h => by simp [h] at p1)
        have d2 : decide ((8 : Int) < (l[i].key.length : Int)) = false := decide_eq_false (by omega)
        have d3 : decide ((16 : Int) < (l[i].value.length : Int)) = false := decide_eq_false (by omega)
        by_cases hz : 0 < i
        · have d4 : decide ((0 : Int) < (i : Int)) = true := decide_eq_true (by omega)
          have k6 : IntKind.i64.wrap ((i : Int) - 1) = ((i - 1 : Nat) : Int) := by rw [wrap64 (by omega) (by omega)]; omega
          have b1 := hS2.index (k := .i64) (j := ((i - 1 : Nat) : Int)) (by omega) (by omega)
          rw [Int.toNat_natCast] at b1
          have b2 := hS2.f0 (i := i - 1) (by omega)
          have b3 := hS2.key (i := i - 1) (by omega)
          have d5 := dec_le (hlt hz)
          refine AC_quiet_draw TT_ok mixed (by kernel_rfl) (by simp only [go_sem, h0, h7, a3, f0, f1, g0, g1, d1, d2, d3, d4, k6, b1, b2, b3, d5] <;> rfl) ?_
          exact ⟨rfl, by simp only [go_sem, h0], by simp only [go_sem, h7], by simp only [go_sem, h5], by simp only [go_sem, h6], by simp only [go_sem]⟩
        · have d4 : decide ((0 : Int) < (i : Int)) = false := decide_eq_false (by omega)
          refine AC_quiet_draw TT_ok mixed (by kernel_rfl) (by simp only [go_sem, h0, h7, a3, f0, f1, g0, g1, d1, d2, d3, d4] <;> rfl) ?_
          exact ⟨rfl, by simp only [go_sem, h0], by simp only [go_sem, h7], by simp only [go_sem, h5], by simp only [go_sem, h6], by simp only [go_sem]⟩
      · subst hH
        refine AC_f q41 rfl (AC_skip ?_)
        refine AC_quiet TT_ok (by simp only [go_sem, q7, k5] <;> rfl) ?_
        exact ⟨l.length - (i + 1), by omega, i + 1, rfl, by omega, hm.step hi' hx, hX2', by simp only [go_sem, q0], by simp only [go_sem], by simp only [go_sem, q5], by simp only [go_sem, q6]⟩
    · refine AC_cut (fun e' H' => H' = H2 ∧ get e' 41 = .bool true) ?_ (fun e2 H3 hX3 ⟨hH, q41⟩ => ?_)
      · by_cases c1 : l[i].key = []
        · have d1 : decide (l[i].key = []) = true := decide_eq_true c1
          refine AC_quiet_draw TT_ok mixed (by kernel_rfl) (by simp only [go_sem, h0, h7, a3, f0, f1, g0, g1, d1] <;> rfl) ?_
          exact ⟨rfl, by simp only [go_sem]⟩
        have d1 : decide (l[i].key = []) = false := decide_eq_false c1
        have c1 := List.length_pos_iff.2 c1
        by_cases c2 : 8 < l[i].key.length
        · have d2 : decide ((8 : Int) < (l[i].key.length : Int)) = true := decide_eq_true (by omega)
          refine AC_quiet_draw TT_ok mixed (by kernel_rfl) (by simp only [go_sem, h0, h7, a3, f0, f1, g0, g1, d1, d2] <;> rfl) ?_
          exact ⟨rfl, by simp only [go_sem]⟩
        have d2 : decide ((8 : Int) < (l[i].key.length : Int)) = false := decide_eq_false (by omega)
        by_cases c3 : 16 < l[i].value.length
        · have d3 : decide ((16 : Int) < (l[i].value.length : Int)) = true := decide_eq_true (by omega)
          refine AC_quiet_draw TT_ok mixed (by kernel_rfl) (by simp only [go_sem, h0, h7, a3, f0, f1, g0, g1, d1, d2, d3] <;> rfl) ?_
          exact ⟨rfl, by simp only [go_sem]⟩
        have d3 : decide ((16 : Int) < (l[i].value.length : Int)) = false := decide_eq_false (by omega)
        have hz : 0 < i := by
          rcases Nat.eq_zero_or_pos i with h | h
          · exact absurd ⟨⟨by omega, by omega, by omega⟩, fun h' => absurd h' (by omega)⟩ hx
          · exact h
        have hle : l[i].key ≤ l[i - 1].key := List.not_lt.1 fun h => hx ⟨⟨by omega, by omega, by omega⟩, fun _ => h⟩
        have d4 : decide ((0 : Int) < (i : Int)) = true := decide_eq_true (by omega)
        have k6 : IntKind.i64.wrap ((i : Int) - 1) = ((i - 1 : Nat) : Int) := by rw [wrap64 (by omega) (by omega)]; omega
        have b1 := hS2.index (k := .i64) (j := ((i - 1 : Nat) : Int)) (by omega) (by omega)
        rw [Int.toNat_natCast] at b1
        have b2 := hS2.f0 (i := i - 1) (by omega)
        have b3 := hS2.key (i := i - 1) (by omega)
        have d5 : decide (l[i].key ≤ l[i - 1].key) = true := decide_eq_true hle
        refine AC_quiet_draw TT_ok mixed (by kernel_rfl) (by simp only [go_sem, h0, h7, a3, f0, f1, g0, g1, d1, d2, d3, d4, k6, b1, b2, b3, d5] <;> rfl) ?_
        exact ⟨rfl, by simp only [go_sem]⟩
      · subst hH
        refine AC_t q41 rfl ?_
        refine AC_seqQ TT_ok (by simp only [go_sem] <;> rfl) ?_
        refine AC_ret ⟨.inl rfl, _, rfl, ?_⟩
        simp only [go_sem]
        rw [decide_eq_false (fun h => hx (h.nxt i hi'))]
  · refine AC_f (by simp only [go_sem] <;> rfl) (ge_dec (by omega)) ?_
    refine AC_exit ?_
    refine AC_seqQ TT_ok (by simp only [go_sem] <;> rfl) ?_
    refine AC_ret ⟨.inl rfl, _, rfl, ?_⟩
    rw [List.take_of_length_le (by omega)] at hm
    simp only [go_sem]
    rw [decide_eq_true hm]
end Go.Proofs.Ythalogdopkoidaa.Ab
set_option linter.unusedVariables false
set_option linter.unusedSimpArgs false
namespace Go.Proofs.Ythalogdopkoidaa.Ab
open Go Go.RowKit
def szP (l : List Pr) : Nat := (l.map fun p => 1 + p.key.length + p.value.length).sum
def szN (l : List Nd) : Nat := (l.map fun p => 1 + p.path.length + p.value.length).sum
theorem szP_tk {l : List Pr} {i : Nat} (h : i < l.length) : szP (l.take (i + 1)) = szP (l.take i) + (1 + l[i].key.length + l[i].value.length) := by
  rw [tk h, szP, szP, List.map_append, List.sum_append]; simp
theorem szN_tk {l : List Nd} {i : Nat} (h : i < l.length) : szN (l.take (i + 1)) = szN (l.take i) + (1 + l[i].path.length + l[i].value.length) := by
  rw [tk h, szN, szN, List.map_append, List.sum_append]; simp
theorem szP_len (l : List Pr) : l.length ≤ szP l := by
  induction l with
  | nil => simp
  | cons a l ih => simp only [szP, List.map_cons, List.sum_cons, List.length_cons] at ih ⊢; omega
theorem szN_len (l : List Nd) : l.length ≤ szN l := by
  induction l with
  | nil => simp
  | cons a l ih => simp only [szN, List.map_cons, List.sum_cons, List.length_cons] at ih ⊢; omega
theorem wrapNN {x : Int} {m : Nat} (h : x = (m : Int)) (hm : m < 2^62) : IntKind.i64.wrap x = (m : Int) := by
  rw [h, wrap64 (by omega) (by omega)]
theorem min_nat (a : Nat) (b : Int) (c : Nat) (h : b = (c : Int)) : min (a : Int) b = ((min a c : Nat) : Int) := by omega
theorem c26 {H : AHeap} {vl : Value} {l : List Pr} (hS : PrS H vl l) : ACalls Try.prog 26 [vl] H (fun _ => False) fun v H' => H' = H ∧ ∃ b, v = .bool b ∧ (b = false → szP l ≤ 3000) := by
  refine ACalls_by 35 TT_ok Try.func26 rfl rfl rfl (by simp) ?_
  refine AC_seqQ TT_ok (by simp only [go_sem] <;> rfl) ?_
  refine AC_seqQ TT_ok (by simp only [go_sem] <;> rfl) ?_
  refine AC_cut (fun e' H' => H' = H ∧ ∃ m : Nat, get e' 3 = .int .i64 (m : Nat) ∧ (m ≤ 3000 → szP l ≤ 3000)) ?_ (fun e1 H1 hX ⟨hH, m, h3, hm⟩ => ?_)
  rotate_left
  · subst hH
    refine AC_seqQ TT_ok (by simp only [go_sem, h3] <;> rfl) ?_
    exact AC_ret ⟨.inl rfl, _, rfl, rfl, decide ((3000 : Int) < (m : Int)), by simp only [go_sem], fun h => hm (by have := of_decide_eq_false h; omega)⟩
  refine AC_seq ?_
  refine AC_quiet TT_ok (by simp only [go_sem] <;> rfl) ?_
  refine AC_block (AC_loop (fun n e' H' => ∃ (i m : Nat), n = l.length - i ∧ i ≤ l.length ∧ i ≤ m ∧ m ≤ 9001 ∧ (m ≤ 3000 → m = szP (l.take i)) ∧ H' = H ∧ get e' 0 = vl ∧ get e' 3 = .int .i64 (m : Nat) ∧ get e' 4 = .int .i64 (i : Nat)) l.length ⟨0, 0, by simp, by simp, by simp, by simp, by simp [szP], rfl, by simp only [go_sem], by simp only [go_sem] <;> simp, by simp only [go_sem] <;> simp⟩ ?_)
  rintro n e1 H1 _ ⟨i, m, hn, hi, him, hmK, hsz, rfl, h0, h3, h4⟩
  refine AC_seq ?_
  by_cases hi' : i < l.length
  · have d1 := lt_dec hi'
    by_cases hm' : m ≤ 3000
    · have d2 : decide ((m : Int) ≤ 3000) = true := decide_eq_true (by omega)
      refine AC_seqQ TT_ok (by simp only [go_sem, h0, h3, h4, hS.alen, d1, d2] <;> rfl) ?_
      refine AC_t (by simp only [go_sem] <;> rfl) (rfl) ?_
      refine AC_skip ?_
      have a1 := hS.index (k := .i64) (j := (i : Int)) (by omega) (by omega)
      rw [Int.toNat_natCast] at a1
      have a2 := hS.f0 hi'
      have a3 := hS.key hi'
      have a4 := hS.f1 hi'
      have a5 := hS.value hi'
      have n1 := min_nat l[i].key.length 3000 3000 rfl
      have n2 := min_nat l[i].value.length 3000 3000 rfl
      have w1 := wrapNN (x := 1 + ((min l[i].key.length 3000 : Nat) : Int)) (m := 1 + min l[i].key.length 3000) (by omega) (by omega)
      have w2 := wrapNN (x := ((1 + min l[i].key.length 3000 : Nat) : Int) + ((min l[i].value.length 3000 : Nat) : Int)) (m := 1 + min l[i].key.length 3000 + min l[i].value.length 3000) (by omega) (by omega)
      have w3 := wrapNN (x := (m : Int) + ((1 + min l[i].key.length 3000 + min l[i].value.length 3000 : Nat) : Int)) (m := m + (1 + min l[i].key.length 3000 + min l[i].value.length 3000)) (by omega) (by omega)
      have k5 := wrapN i (by omega)
      refine AC_seq (AC_block ?_)
      refine AC_quiet_draw TT_ok mixed (by kernel_rfl) (by simp only [go_sem, h0, h3, h4, a1, a2, a3, a4, a5, n1, n2, w1, w2, w3] <;> rfl) ?_
      refine AC_quiet TT_ok (by simp only [go_sem, h4, k5] <;> rfl) ?_
      refine ⟨l.length - (i + 1), by omega, i + 1, m + (1 + min l[i].key.length 3000 + min l[i].value.length 3000), rfl, by omega, ?_, ?_, fun h => ?_, rfl, by simp only [go_sem, h0], by simp only [go_sem], by simp only [go_sem]⟩
      · omega
      · omega
      · rw [szP_tk hi', ← hsz hm']; omega
    · have d2 : decide ((m : Int) ≤ 3000) = false := decide_eq_false (by omega)
      refine AC_seqQ TT_ok (by simp only [go_sem, h0, h3, h4, hS.alen, d1, d2] <;> rfl) ?_
      refine AC_f (by simp only [go_sem] <;> rfl) (rfl) ?_
      exact AC_exit ⟨rfl, m, by simp only [go_sem, h3], fun h => absurd h hm'⟩
  · have d1 := ge_dec (a := i) (b := l.length) (by omega)
    refine AC_seqQ TT_ok (by simp only [go_sem, h0, h3, h4, hS.alen, d1] <;> rfl) ?_
    refine AC_f (by simp only [go_sem] <;> rfl) (rfl) ?_
    refine AC_exit ⟨rfl, m, by simp only [go_sem, h3], fun h => ?_⟩
    have := hsz h
    rw [List.take_of_length_le (by omega)] at this
    omega
theorem c27 {H : AHeap} {vl : Value} {l : List Nd} (hS : NdS H vl l) : ACalls Try.prog 27 [vl] H (fun _ => False) fun v H' => H' = H ∧ ∃ b, v = .bool b ∧ (b = false → szN l ≤ 4000) := by
  refine ACalls_by 35 TT_ok Try.func27 rfl rfl rfl (by simp) ?_
  refine AC_seqQ TT_ok (by simp only [go_sem] <;> rfl) ?_
  refine AC_seqQ TT_ok (by simp only [go_sem] <;> rfl) ?_
  refine AC_cut (fun e' H' => H' = H ∧ ∃ m : Nat, get e' 3 = .int .i64 (m : Nat) ∧ (m ≤ 4000 → szN l ≤ 4000)) ?_ (fun e1 H1 hX ⟨hH, m, h3, hm⟩ => ?_)
  rotate_left
  · subst hH
    refine AC_seqQ TT_ok (by simp only [go_sem, h3] <;> rfl) ?_
    exact AC_ret ⟨.inl rfl, _, rfl, rfl, decide ((4000 : Int) < (m : Int)), by simp only [go_sem], fun h => hm (by have := of_decide_eq_false h; omega)⟩
  refine AC_seq ?_
  refine AC_quiet TT_ok (by simp only [go_sem] <;> rfl) ?_
  refine AC_block (AC_loop (fun n e' H' => ∃ (i m : Nat), n = l.length - i ∧ i ≤ l.length ∧ i ≤ m ∧ m ≤ 12001 ∧ (m ≤ 4000 → m = szN (l.take i)) ∧ H' = H ∧ get e' 0 = vl ∧ get e' 3 = .int .i64 (m : Nat) ∧ get e' 4 = .int .i64 (i : Nat)) l.length ⟨0, 0, by simp, by simp, by simp, by simp, by simp [szN], rfl, by simp only [go_sem], by simp only [go_sem] <;> simp, by simp only [go_sem] <;> simp⟩ ?_)
  rintro n e1 H1 _ ⟨i, m, hn, hi, him, hmK, hsz, rfl, h0, h3, h4⟩
  refine AC_seq ?_
  by_cases hi' : i < l.length
  · have d1 := lt_dec hi'
    by_cases hm' : m ≤ 4000
    · have d2 : decide ((m : Int) ≤ 4000) = true := decide_eq_true (by omega)
      refine AC_seqQ TT_ok (by simp only [go_sem, h0, h3, h4, hS.alen, d1, d2] <;> rfl) ?_
      refine AC_t (by simp only [go_sem] <;> rfl) (rfl) ?_
      refine AC_skip ?_
      have a1 := hS.index (k := .i64) (j := (i : Int)) (by omega) (by omega)
      rw [Int.toNat_natCast] at a1
      have a2 := hS.f1 hi'
      have a3 := hS.path hi'
      have a4 := hS.f3 hi'
      have a5 := hS.value hi'
      have n1 := min_nat l[i].path.length 4000 4000 rfl
      have n2 := min_nat l[i].value.length 4000 4000 rfl
      have w1 := wrapNN (x := 1 + ((min l[i].path.length 4000 : Nat) : Int)) (m := 1 + min l[i].path.length 4000) (by omega) (by omega)
      have w2 := wrapNN (x := ((1 + min l[i].path.length 4000 : Nat) : Int) + ((min l[i].value.length 4000 : Nat) : Int)) (m := 1 + min l[i].path.length 4000 + min l[i].value.length 4000) (by omega) (by omega)
      have w3 := wrapNN (x := (m : Int) + ((1 + min l[i].path.length 4000 + min l[i].value.length 4000 : Nat) : Int)) (m := m + (1 + min l[i].path.length 4000 + min l[i].value.length 4000)) (by omega) (by omega)
      have k5 := wrapN i (by omega)
      refine AC_seq (AC_block ?_)
      refine AC_quiet_draw TT_ok mixed (by kernel_rfl) (by simp only [go_sem, h0, h3, h4, a1, a2, a3, a4, a5, n1, n2, w1, w2, w3] <;> rfl) ?_
      refine AC_quiet TT_ok (by simp only [go_sem, h4, k5] <;> rfl) ?_
      refine ⟨l.length - (i + 1), by omega, i + 1, m + (1 + min l[i].path.length 4000 + min l[i].value.length 4000), rfl, by omega, ?_, ?_, fun h => ?_, rfl, by simp only [go_sem, h0], by simp only [go_sem], by simp only [go_sem]⟩
      · omega
      · omega
      · rw [szN_tk hi', ← hsz hm']; omega
    · have d2 : decide ((m : Int) ≤ 4000) = false := decide_eq_false (by omega)
      refine AC_seqQ TT_ok (by simp only [go_sem, h0, h3, h4, hS.alen, d1, d2] <;> rfl) ?_
      refine AC_f (by simp only [go_sem] <;> rfl) (rfl) ?_
      exact AC_exit ⟨rfl, m, by simp only [go_sem, h3], fun h => absurd h hm'⟩
  · have d1 := ge_dec (a := i) (b := l.length) (by omega)
    refine AC_seqQ TT_ok (by simp only [go_sem, h0, h3, h4, hS.alen, d1] <;> rfl) ?_
    refine AC_f (by simp only [go_sem] <;> rfl) (rfl) ?_
    refine AC_exit ⟨rfl, m, by simp only [go_sem, h3], fun h => ?_⟩
    have := hsz h
    rw [List.take_of_length_le (by omega)] at this
    omega
end Go.Proofs.Ythalogdopkoidaa.Ab
set_option linter.unusedVariables false
set_option linter.unusedSimpArgs false
namespace Go.Proofs.Ythalogdopkoidaa.Ab
open Go Go.RowKit
def zNd : Nd := ⟨0, [], false, [], zk⟩
def NdB (H : AHeap) (v : Value) (t : List Nd) : Prop := Buf H v 49 t.length (t.flatMap Nd.cells)
theorem NdB.sl {H : AHeap} {v : Value} {t : List Nd} (h : NdB H v t) : NdS H v t := Buf.sl h
theorem Buf.own {H : AHeap} {v : Value} {ty n : Nat} {cs : List Value} (h : Buf H v ty n cs) (hn : n ≠ 0) : ∃ i, Own H v ty n cs i := by
  rcases h with ⟨_, h, _⟩ | h
  · exact absurd h hn
  · exact h
theorem set_mid {α : Type} (t u : List α) (z y : α) : (t ++ z :: u).set t.length y = t ++ y :: u := by
  rw [List.set_append_right _ _ (Nat.le_refl _), Nat.sub_self, List.set_cons_zero]
theorem NdB.set {H' : AHeap} {v : Value} {t : List Nd} {k i : Nat} {y : Nd} {cs : List Value} (hk : k < t.length) (hcs : cs = over (t.flatMap Nd.cells) (k * 20) y.cells) (h : Own H' v 49 t.length cs i) : NdB H' v (t.set k y) := by
  rw [hcs, rows_over Nd.len t k y hk] at h
  rw [NdB, List.length_set]
  exact .inr ⟨i, h⟩
structure BS (H : AHeap) (bi : Nat) (vl vn vt : Value) (ps : List Pr) (t : List Nd) : Prop where
  ob : Ob H bi 97 [vl, vn, vt]
  l : PrS H vl ps
  n : StS H vn (nks ps)
  t : NdB H vt t
  tl : ∀ j, vid vt = some j → vid vl ≠ some j ∧ vid vn ≠ some j ∧ j ≠ bi
  lb : vid vl ≠ some bi
  nb : vid vn ≠ some bi
theorem BS.ext {H H' : AHeap} {bi : Nat} {vl vn vt : Value} {ps : List Pr} {t : List Nd} {M : Nat → Prop} (h : BS H bi vl vn vt ps t) (hX : AExt M H H') (hM : ∀ i, i < H.length → M i → i ≠ bi ∧ vid vl ≠ some i ∧ vid vn ≠ some i ∧ vid vt ≠ some i) : BS H' bi vl vn vt ps t :=
  ⟨h.ob.ext hX (fun hm => (hM _ h.ob.lt hm).1 rfl), h.l.ext hX (fun i hi hv hm => (hM i hi hm).2.1 hv), h.n.ext hX (fun i hi hv hm => (hM i hi hm).2.2.1 hv), Buf.ext h.t hX (fun i hv hm => (hM i (Sl.vid_lt h.t.sl hv) hm).2.2.2 hv), h.tl, h.lb, h.nb⟩
theorem BS.keep {H H' : AHeap} {bi : Nat} {vl vn vt : Value} {ps : List Pr} {t : List Nd} (h : BS H bi vl vn vt ps t) (hX : AExt (fun _ => False) H H') : BS H' bi vl vn vt ps t := h.ext hX (fun _ _ h => h.elim)
/-- Behind an append and the store of what it gave. -/
theorem BS.app {H H1 H2 : AHeap} {bi : Nat} {vl vn vt vt1 : Value} {ps : List Pr} {t t1 : List Nd} (h : BS H bi vl vn vt ps t) (hX : AExt (fun j => vid vt = some j) H H1) (hT : NdB H1 vt1 t1) (hv : ∀ j, vid vt1 = some j → H.length ≤ j) (hY : AExt (fun j => j = bi) H1 H2) (hO : Ob H2 bi 97 [vl, vn, vt1]) : BS H2 bi vl vn vt1 ps t1 := by
  have hl := h.ob.lt
  refine ⟨hO, (h.l.ext hX fun i _ hi hm => (h.tl i hm).1 hi).ext hY fun i _ hi hm => h.lb (by rw [hi, hm]), (h.n.ext hX fun i _ hi hm => (h.tl i hm).2.1 hi).ext hY fun i _ hi hm => h.nb (by rw [hi, hm]), Buf.ext hT hY fun i hi hm => ?_, fun j hj => ⟨fun hh => ?_, fun hh => ?_, ?_⟩, h.lb, h.nb⟩
  · have := hv i hi; omega
  · have := h.l.vid_lt hh; have := hv j hj; omega
  · have := h.n.vid_lt hh; have := hv j hj; omega
  · have := hv j hj; omega
/-- Behind a store into a node. -/
theorem BS.put {H H' : AHeap} {bi i : Nat} {vl vn vt : Value} {ps : List Pr} {t t' : List Nd} (h : BS H bi vl vn vt ps t) (hi : vid vt = some i) (hX : AExt (fun j => j = i) H H') (hT : NdB H' vt t') : BS H' bi vl vn vt ps t' := by
  obtain ⟨g1, g2, g3⟩ := h.tl i hi
  exact ⟨h.ob.ext hX (fun e => g3 e.symm), h.l.ext hX (fun j _ hj e => g1 (by rw [hj, e])), h.n.ext hX (fun j _ hj e => g2 (by rw [hj, e])), hT, h.tl, h.lb, h.nb⟩
theorem f97 (i f : Nat) (h : f < 3) : afield TT 97 (.pointer (some ⟨i, 0, none⟩)) f = some (.pointer (some ⟨i, f, none⟩)) := by
  rcases f with _ | _ | _ | f <;> first | rfl | omega
theorem ap3_0 (a b c : Value) (t : Nat) (ht : (TT t).map (fun i => (i.d.isAgg, i.size)) = some (false, 1)) : apart TT t [a, b, c] 0 = some a := by
  obtain ⟨ti, h1, h2⟩ := Option.map_eq_some_iff.1 ht
  simp only [Prod.mk.injEq] at h2
  unfold apart; rw [h1]; dsimp only; rw [h2.1]; rfl
theorem ap3_1 (a b c : Value) (t : Nat) (ht : (TT t).map (fun i => (i.d.isAgg, i.size)) = some (false, 1)) : apart TT t [a, b, c] 1 = some b := by
  obtain ⟨ti, h1, h2⟩ := Option.map_eq_some_iff.1 ht
  simp only [Prod.mk.injEq] at h2
  unfold apart; rw [h1]; dsimp only; rw [h2.1]; rfl
theorem ap3_2 (a b c : Value) (t : Nat) (ht : (TT t).map (fun i => (i.d.isAgg, i.size)) = some (false, 1)) : apart TT t [a, b, c] 2 = some c := by
  obtain ⟨ti, h1, h2⟩ := Option.map_eq_some_iff.1 ht
  simp only [Prod.mk.injEq] at h2
  unfold apart; rw [h1]; dsimp only; rw [h2.1]; rfl
theorem bz49 : abuild TT 49 [] = some zNd.val := rfl
theorem bl49 (p v : List UInt8) : abuild TT 49 [(0, .int .i64 1), (1, S p), (2, .bool true), (3, S v)] = some (Nd.mk 1 p true v zk).val := rfl
theorem be49 (p : List UInt8) : abuild TT 49 [(0, .int .i64 2), (1, S p)] = some (Nd.mk 2 p false [] zk).val := rfl
theorem bb49 : abuild TT 49 [(0, .int .i64 3)] = some (Nd.mk 3 [] false [] zk).val := rfl
theorem Nd.over_kid (n : Nd) (c : Nat) (hc : c < 16) (k : Int) : over n.cells (4 + c) [.int .i64 k] = (Nd.mk n.kind n.path n.has n.value (n.kids.set c k hc)).cells := by
  show n.cells.set (4 + c) (.int .i64 k) = _
  have e : 4 + c = c + 1 + 1 + 1 + 1 := by omega
  rw [e]
  simp only [Nd.cells, List.set_cons_succ, Vector.toList_set, List.map_set]
theorem Nd.part (n : Nd) : apart TT 49 n.cells 0 = some n.val := by
  have h : (n.cells.drop 0).take 20 = n.cells := by rw [List.drop_zero, List.take_of_length_le (by rw [Nd.len]; decide)]
  unfold apart
  rw [TT_49]
  simp only [TD.isAgg, if_true, h]
  rw [if_pos (by rw [Nd.len]; decide)]
  rfl
def Q63 (f : Nat) (H : AHeap) (bi : Nat) (vl vn : Value) (ps : List Pr) (t : List Nd) (s : Sx) (v : Value) (H' : AHeap) : Prop :=
  v = .int .i64 (t.length : Nat) ∧ ∃ vt', BS H' bi vl vn vt' ps (t ++ bld f s t.length) ∧ ∀ j, vid vt' = some j → H.length ≤ j
def P63 (f : Nat) : Prop := ∀ (H : AHeap) (bi : Nat) (vl vn vt : Value) (ps : List Pr) (t : List Nd) (a b at_ : Nat), BS H bi vl vn vt ps t → Seg ps a b at_ → Fu (sg ps a b at_) f → t.length + (bld f (sg ps a b at_) t.length).length < 2^30 → ps.length < 2^30 → (∀ p ∈ ps, p.key.length < 2^30) →
  ACalls Try.prog 63 [.pointer (some ⟨bi, 0, none⟩), .int .i64 (a : Nat), .int .i64 (b : Nat), .int .i64 (at_ : Nat)] H (fun i => i = bi ∨ vid vt = some i) (Q63 f H bi vl vn ps t (sg ps a b at_))
def gs0 (ps : List Pr) (a b at_ : Nat) : List (UInt8 × Sx) := groups (if ((sg ps a b at_).headD ([], [])).1 = [] then sg ps (a + 1) b at_ else sg ps a b at_)
def nb0 (f : Nat) (ps : List Pr) (a b at_ k : Nat) : Nd := ⟨3, [], decide (((sg ps a b at_).headD ([], [])).1 = []), if ((sg ps a b at_).headD ([], [])).1 = [] then ((sg ps a b at_).headD ([], [])).2 else [], (brn (bld f) (gs0 ps a b at_) k zk).2⟩
def P80 (f : Nat) : Prop := ∀ (H : AHeap) (bi : Nat) (vl vn vt : Value) (ps : List Pr) (t : List Nd) (a b at_ : Nat), BS H bi vl vn vt ps t → Seg ps a b at_ → Fu (sg ps a b at_) (f + 1) → a + 1 < b → com ((nib ((ps.map (·.key)).getD a [])).drop at_) ((nib ((ps.map (·.key)).getD (b - 1) [])).drop at_) = 0 → t.length + (brn (bld f) (gs0 ps a b at_) t.length zk).1.length < 2^30 → ps.length < 2^30 → (∀ p ∈ ps, p.key.length < 2^30) →
  ACalls Try.prog 80 [.pointer (some ⟨bi, 0, none⟩), .int .i64 (a : Nat), .int .i64 (b : Nat), .int .i64 (at_ : Nat)] H (fun i => i = bi ∨ vid vt = some i) fun v H' =>
    v = (nb0 f ps a b at_ t.length).val ∧ ∃ vt', BS H' bi vl vn vt' ps (t ++ (brn (bld f) (gs0 ps a b at_) t.length zk).1) ∧ ∀ j, vid vt' = some j → H.length ≤ j ∨ vt' = vt
set_option maxHeartbeats 2000000 in
theorem c63 {f : Nat} (ih : P63 f) (ihb : P80 f) : P63 (f + 1) := by
  intro H bi vl vn vt ps t a b at_ hB hseg hfu hbd hpl hkl
  have hlt := hseg.lt
  have hle := hseg.le
  have hla := hseg.len a (Nat.le_refl _) hlt
  have hlb := hseg.len (b - 1) (by omega) (by omega)
  have hpos : 1 ≤ (bld (f + 1) (sg ps a b at_) t.length).length := by
    rcases Nat.lt_or_ge (a + 1) b with h | h
    · obtain ⟨y, r, e1, e2, e3⟩ := sg_two (at_ := at_) h hle
      rw [e2]
      by_cases hc : 0 < com ((nib (ps[a]).key).drop at_) (lst y r).1
      · rw [bld_ext _ _ _ _ _ hc]; simp
      · rw [bld_brn _ _ _ _ _ hc]; simp
    · rw [sg_cons ps a b at_ hlt hle, show a + 1 = b by omega, sg_nil, bld_one]; simp
  refine ACalls_by 107 TT_ok Try.func63 rfl rfl rfl (by simp) ?_
  refine AC_seqQ TT_ok (by simp only [go_sem] <;> rfl) ?_
  refine AC_seqQ TT_ok (by simp only [go_sem, anil_ptr, f97 _ 2 (by decide), hB.ob.load, ap3_2 _ _ _ 24 rfl, hB.t.sl.alen] <;> rfl) ?_
  -- the new node
  refine AC_cut (fun e' H' => ∃ vt1, BS H' bi vl vn vt1 ps (t ++ [zNd]) ∧ AExt (fun i => i = bi ∨ vid vt = some i) H H' ∧ (∀ j, vid vt1 = some j → H.length ≤ j) ∧ get e' 0 = .pointer (some ⟨bi, 0, none⟩) ∧ get e' 1 = .int .i64 (a : Nat) ∧ get e' 2 = .int .i64 (b : Nat) ∧ get e' 3 = .int .i64 (at_ : Nat) ∧ get e' 9 = .int .i64 (t.length : Nat)) ?_ (fun e1 H1 _ ⟨vt1, hB1, hX1, hv1, h0, h1, h2, h3, h9⟩ => ?_)
  · refine AC_regL ?_
    refine AQ_take TT_ok 6 rfl (by simp only [go_sem, anil_ptr, f97 _ 2 (by decide), hB.ob.load, ap3_2 _ _ _ 24 rfl, List.map_nil, bz49] <;> rfl) ?_
    refine AQ_lit TT_ok [zNd.val] TT_24 rfl TT_49 rfl (by decide) rfl (by decide) rfl (by simp only [List.map_cons, List.map_nil, go_sem, numbered]) (fun v hv => ?_) fun H1 hX1 hO1 hL1 => ?_
    · rw [List.mem_singleton] at hv; subst hv; exact ⟨_, Lay.nd _, rfl⟩
    refine AQ_append TT_ok (v := vt) (n := t.length) (m := 1) TT_24 rfl TT_49 (by decide) (by decide) rfl (by simp only [go_sem]) (by simp only [go_sem]) (hB.keep hX1).t hO1.sl (rows_length Nd.len t) rfl (by simp; omega) (fun j hj => .inr (.inr hj)) (.inl rfl) fun vt1 H2 hX2 hB2 hv2 => ?_
    have hv2' : ∀ j, vid vt1 = some j → H1.length ≤ j := fun j hj => by
      rcases hv2 j hj with h | h
      · exact h
      · cases h.1
    have hN : NdB H2 vt1 (t ++ [zNd]) := by
      have e : t.flatMap Nd.cells ++ ([zNd.val] : List Value).flatMap (fun v => v.cells.toList) = (t ++ [zNd]).flatMap Nd.cells := by
        rw [List.flatMap_append]; rfl
      rw [e] at hB2
      rw [NdB, List.length_append]
      exact hB2
    refine AQ_take TT_ok 2 rfl (by simp only [go_sem, anil_ptr, f97 _ 2 (by decide)] <;> rfl) ?_
    have hb2 : Ob H2 bi 97 [vl, vn, vt] := (hB.keep hX1).ob.ext hX2 (fun h => ((hB.tl _ h).2.2) rfl)
    refine AQ_store TT_ok TT_24 rfl (by simp only [go_sem] <;> rfl) (by simp only [go_sem] <;> rfl) (hN.sl.one.lay) rfl hb2 (by simp) (.inr (.inl rfl)) (.inl rfl) fun H3 hX3 hO3 hL3 => ?_
    refine AQ_nil ?_
    refine ⟨vt1, (hB.keep hX1).app hX2 hN hv2' hX3 hO3, ?_, fun j hj => by have := hv2' j hj; omega, by simp only [go_sem], by simp only [go_sem], by simp only [go_sem], by simp only [go_sem], by simp only [go_sem]⟩
    exact ((hX1.any.trans (hX2.mono fun i _ h => .inr h)).trans (hX3.mono fun i _ h => .inl h))
  have hn1 := hB1.n
  have ka := hn1.index (k := .i64) (j := a) (by rw [nks_length]; omega)
  have kb := hn1.load (i := a) (by rw [nks_length]; omega)
  have kna : (nks ps)[a]'(by rw [nks_length]; omega) = nib (ps[a]).key := by simp [nks]
  rw [kna] at kb
  refine AC_seqQ TT_ok (by simp only [go_sem, h0, h1, h3, anil_ptr, f97 _ 1 (by decide), hB1.ob.load, ap3_1 _ _ _ 30 rfl, ka, kb, aslice_S10 hla] <;> rfl) ?_
  have wba := wrapNN (x := (b : Int) - (a : Int)) (m := b - a) (by omega) (by omega)
  refine AC_seq ?_
  refine AC_seqQ TT_ok (by simp only [go_sem, h1, h2, wba] <;> rfl) ?_
  have hlen1 : t.length < (t ++ [zNd]).length := by simp
  have kx := hB1.t.sl.index (k := .i64) (j := (t.length : Int)) (by omega) (by simp; omega)
  rw [Int.toNat_natCast] at kx
  have hge1 : H.length ≤ H.length := Nat.le_refl _
  by_cases hone : a + 1 = b
  · -- one pair: a leaf
    have hd : decide (((b - a : Nat) : Int) = 1) = true := decide_eq_true (by omega)
    refine AC_t (by simp only [go_sem] <;> rfl) (hd) ?_
    have l1 := hB1.l.index (k := .i64) (j := (a : Int)) (by omega) (by omega)
    rw [Int.toNat_natCast] at l1
    have l2 := hB1.l.f1 (i := a) (by omega)
    have l3 := hB1.l.value (i := a) (by omega)
    obtain ⟨ti, hO⟩ := Buf.own hB1.t (by simp)
    refine AC_seq ?_
    refine AC_regD [16] mixed (by kernel_rfl) ?_
    refine AQ_take TT_ok 16 rfl (by simp only [go_sem, h0, h1, h9, anil_ptr, f97 _ 2 (by decide), f97 _ 0 (by decide), hB1.ob.load, ap3_2 _ _ _ 24 rfl, ap3_0 _ _ _ 22 rfl, l1, l2, l3, List.map_cons, List.map_nil, bl49, kx] <;> rfl) ?_
    refine AQ_storeE TT_ok TT_49 rfl (by simp only [go_sem] <;> rfl) (by simp only [go_sem] <;> rfl) (Lay.nd _) rfl hO (rowsLen20 _ hlen1) (.inl (hv1 _ hO.vid)) (.inr rfl) fun H2 hX2 hO2 hL2 => ?_
    refine AQ_nil ?_
    have hN := NdB.set hlen1 rfl hO2
    rw [set_mid] at hN
    have hB2 := hB1.put hO.vid hX2 hN
    refine AC_seqQ TT_ok (by simp only [go_sem, h9] <;> rfl) ?_
    refine AC_ret ⟨.inl rfl, _, rfl, by simp only [go_sem], vt1, ?_, hv1⟩
    rw [sg_cons ps a b at_ hlt hle, hone, sg_nil, bld_one]
    exact hB2
  · have hd : decide (((b - a : Nat) : Int) = 1) = false := decide_eq_false (by omega)
    refine AC_f (by simp only [go_sem] <;> rfl) (hd) ?_
    refine AC_skip ?_
    have h2b : a + 1 < b := by omega
    obtain ⟨y, r, e1, e2, e3⟩ := sg_two (at_ := at_) h2b hle
    have kc := hn1.index (k := .i64) (j := b - 1) (by rw [nks_length]; omega)
    have kd := hn1.load (i := b - 1) (by rw [nks_length]; omega)
    have knb : (nks ps)[b - 1]'(by rw [nks_length]; omega) = nib (ps[b - 1]).key := by simp [nks]
    rw [knb] at kd
    have wb1 := wrapNN (x := (b : Int) - 1) (m := b - 1) (by omega) (by omega)
    have hkla : (nib (ps[a]).key).length < 2^31 := by
      have := hkl _ (List.getElem_mem (show a < ps.length by omega)); rw [nib_length]; omega
    refine AC_seq ?_
    refine AC_cut (fun e' H' => BS H' bi vl vn vt1 ps (t ++ [zNd]) ∧ AExt (fun i => i = bi ∨ vid vt = some i) H H' ∧ get e' 0 = .pointer (some ⟨bi, 0, none⟩) ∧ get e' 1 = .int .i64 (a : Nat) ∧ get e' 2 = .int .i64 (b : Nat) ∧ get e' 3 = .int .i64 (at_ : Nat) ∧ get e' 9 = .int .i64 (t.length : Nat) ∧ get e' 10 = S ((nib (ps[a]).key).drop at_) ∧ get e' 11 = .int .i64 (com ((nib (ps[a]).key).drop at_) ((nib (ps[b - 1]).key).drop at_) : Nat)) ?_ (fun E2 H2 _ ⟨hB2, hX2, g0, g1, g2, g3, g9, g10, g11⟩ => ?_)
    · refine AC_regL ?_
      refine AQ_take TT_ok 11 rfl (by simp only [go_sem, h0, h2, h3, anil_ptr, f97 _ 1 (by decide), hB1.ob.load, ap3_1 _ _ _ 30 rfl, wb1, kc, kd, aslice_S10 hlb] <;> rfl) ?_
      refine AQ_c rfl (by simp only [go_sem] <;> rfl) fok79 (by simp only [List.map_cons, List.map_nil, List.append_nil, go_sem] <;> rfl) (c79 (a := (nib (ps[a]).key).drop at_) (b := (nib (ps[b - 1]).key).drop at_) (by rw [List.length_drop]; omega)) (fun _ _ h => h.elim) (.inl rfl) fun v H2 hX2 ⟨hv, hH⟩ => ?_
      subst hv hH
      refine AQ_all TT_ok rfl (by simp only [go_sem] <;> rfl) ?_
      exact ⟨hB1, hX1, by simp only [go_sem, h0], by simp only [go_sem, h1], by simp only [go_sem, h2], by simp only [go_sem, h3], by simp only [go_sem, h9], by simp only [go_sem], by simp only [go_sem]⟩
    generalize hc : com ((nib (ps[a]).key).drop at_) ((nib (ps[b - 1]).key).drop at_) = c at g11
    have hcl : c ≤ (nib (ps[a]).key).length - at_ := by
      have := com_left ((nib (ps[a]).key).drop at_) ((nib (ps[b - 1]).key).drop at_)
      rw [List.length_drop] at this
      omega
    refine AC_seqQ TT_ok (by simp only [go_sem, g11] <;> rfl) ?_
    have kx2 := hB2.t.sl.index (k := .i64) (j := (t.length : Int)) (by omega) (by simp; omega)
    rw [Int.toNat_natCast] at kx2
    by_cases hcp : 0 < c
    · -- an Ext
      refine AC_t (by simp only [go_sem] <;> rfl) (decide_eq_true (by omega)) ?_
      have hbx : bld (f + 1) (sg ps a b at_) t.length = ⟨2, ((nib (ps[a]).key).drop at_).take c, false, [], zk.set 0 ((t.length + 1 : Nat) : Int)⟩ :: bld f (sg ps a b (at_ + c)) (t.length + 1) := by
        have hcom : com ((nib (ps[a]).key).drop at_) (lst y r).1 = c := by rw [e3]; exact hc
        rw [e2, bld_ext _ _ _ _ _ (by dsimp only; rw [hcom]; exact hcp)]
        dsimp only
        rw [hcom, ← e2, sg_cut]
      rw [hbx] at hbd
      have hseg2 := hseg.ext_ h2b hle hc.symm
      have hfu2 : Fu (sg ps a b (at_ + c)) f := by
        rw [← sg_cut]
        intro z hz
        obtain ⟨z0, hz0, rfl⟩ := List.mem_map.1 hz
        have h1 := hfu z0 hz0
        obtain ⟨i, q1, q2, rfl⟩ := sg_mem hle hz0
        have h3 := hseg2.len i q1 q2
        simp only [cut, List.length_drop] at h1 ⊢
        omega
      refine AC_seq ?_
      refine AC_regL ?_
      have sl := aslice_S01 (l := (nib (ps[a]).key).drop at_) (b := c) (k := .i64) (by rw [List.length_drop]; omega)
      refine AQ_take TT_ok 4 rfl (by simp only [go_sem, g10, g11, sl, List.map_cons, List.map_nil, be49] <;> rfl) ?_
      refine AQ_var TT_ok TT_49 rfl (by decide) (by simp only [go_sem] <;> rfl) (Lay.nd _) (Nd.len _) (.inl hX2.size) (.inl rfl) fun H4 hX4 hO4 hL4 => ?_
      refine AQ_nil ?_
      have hB4 := hB2.keep hX4
      have wac := wrapNN (x := (at_ : Int) + (c : Int)) (m := at_ + c) (by omega) (by omega)
      have hX4' : AExt (fun i => i = bi ∨ vid vt = some i) H H4 := hX2.trans hX4.any
      refine AC_seq ?_
      refine AC_regL ?_
      refine AQ_take TT_ok 6 rfl (by simp only [go_sem, g0, g1, g2, g3, g11, wac] <;> rfl) ?_
      refine AQ_c rfl (by simp only [go_sem] <;> rfl) fok63 (by simp only [List.map_cons, List.map_nil, List.append_nil, go_sem] <;> rfl) (ih H4 bi vl vn vt1 ps (t ++ [zNd]) a b (at_ + c) hB4 hseg2 hfu2 (by simp at hbd ⊢; omega) hpl hkl) (fun i hi hm => ?_) (.inl rfl) fun v H5 hX5 ⟨hv, vt5, hB5, hv5⟩ => ?_
      · rcases hm with rfl | hm
        · exact .inr (.inl rfl)
        · exact .inl (hv1 i hm)
      subst hv
      have hln : (t ++ [zNd]).length = t.length + 1 := by simp
      rw [hln] at hB5
      have hO5 : Ob H5 H2.length 49 (Nd.mk 2 (((nib (ps[a]).key).drop at_).take c) false [] zk).cells := hO4.ext hX5 (by
        rintro (h | h)
        · have := hB2.ob.lt; omega
        · have := Sl.vid_lt hB2.t.sl h; omega)
      have f4 : afield TT 49 (.pointer (some ⟨H2.length, 0, none⟩)) 4 = some (.pointer (some ⟨H2.length, 4, none⟩)) := rfl
      have i0 : aindex TT 47 (.pointer (some ⟨H2.length, 4, none⟩)) (.int .i64 0) = some (.pointer (some ⟨H2.length, 4, none⟩)) := rfl
      refine AQ_take TT_ok 2 rfl (by simp only [go_sem, f4, i0] <;> rfl) ?_
      refine AQ_store TT_ok TT_3 rfl (by simp only [go_sem] <;> rfl) (by simp only [go_sem] <;> rfl) (One.int _ _).lay rfl hO5 (by rw [Nd.len]; exact (by decide : 4 + 1 ≤ 20)) (.inl (by have := hX2.size; omega)) (.inl rfl) fun H6 hX6 hO6 hL6 => ?_
      refine AQ_nil ?_
      have hov : over (Nd.mk 2 (((nib (ps[a]).key).drop at_).take c) false [] zk).cells 4 [.int .i64 ((t ++ [zNd]).length : Nat)] = (Nd.mk 2 (((nib (ps[a]).key).drop at_).take c) false [] (zk.set 0 ((t.length + 1 : Nat) : Int))).cells := by
        rw [hln]
        exact Nd.over_kid ⟨2, ((nib (ps[a]).key).drop at_).take c, false, [], zk⟩ 0 (by decide) _
      rw [hov] at hO6
      have hB6 := hB5.ext hX6 (fun i _ hi => by
        subst hi
        refine ⟨fun h => ?_, fun h => ?_, fun h => ?_, fun h => ?_⟩
        · have := hB2.ob.lt; omega
        · have := hB2.l.vid_lt h; omega
        · have := hB2.n.vid_lt h; omega
        · have := hv5 _ h; omega)
      have hlen6 : t.length < (t ++ [zNd] ++ bld f (sg ps a b (at_ + c)) (t.length + 1)).length := by simp
      have kx6 := hB6.t.sl.index (k := .i64) (j := (t.length : Int)) (by omega) (Int.ofNat_lt.2 hlen6)
      rw [Int.toNat_natCast] at kx6
      obtain ⟨ti, hO⟩ := Buf.own hB6.t (by simp)
      refine AC_seq ?_
      refine AC_regD [7] mixed (by kernel_rfl) ?_
      refine AQ_take TT_ok 7 rfl (by simp only [go_sem, g0, g9, anil_ptr, f97 _ 2 (by decide), hB6.ob.load, ap3_2 _ _ _ 24 rfl, kx6, hO6.load, Nd.part] <;> rfl) ?_
      refine AQ_storeE TT_ok TT_49 rfl (by simp only [go_sem] <;> rfl) (by simp only [go_sem] <;> rfl) (Lay.nd _) (Nd.len _) hO (by rw [Nd.len]; exact rowsLen20 _ hlen6) (.inl (Nat.le_trans (by have := hX2.size; omega) (hv5 _ hO.vid))) (.inr rfl) fun H7 hX7 hO7 hL7 => ?_
      refine AQ_nil ?_
      have hN := NdB.set hlen6 rfl hO7
      rw [List.append_assoc, List.singleton_append, set_mid] at hN
      have hB7 := hB6.put hO.vid hX7 hN
      refine AC_seqQ TT_ok (by simp only [go_sem, g9] <;> rfl) ?_
      refine AC_ret ⟨.inl rfl, _, rfl, by simp only [go_sem], vt5, ?_, fun j hj => Nat.le_trans (by have := hX2.size; omega) (hv5 j hj)⟩
      rw [hbx]
      exact hB7
    · -- a Branch
      have hc0 : c = 0 := by omega
      subst hc0
      refine AC_f (by simp only [go_sem] <;> rfl) (decide_eq_false (by omega)) ?_
      refine AC_skip ?_
      have hcom : com ((nib (ps[a]).key).drop at_) (lst y r).1 = 0 := by rw [e3]; exact hc
      have hgs : groups (if (nib (ps[a]).key).drop at_ = [] then y :: r else ((nib (ps[a]).key).drop at_, (ps[a]).value) :: y :: r) = gs0 ps a b at_ := by
        rw [gs0, e1, e2]; rfl
      have hbx : bld (f + 1) (sg ps a b at_) t.length = nb0 f ps a b at_ (t.length + 1) :: (brn (bld f) (gs0 ps a b at_) (t.length + 1) zk).1 := by
        rw [e2, bld_brn _ _ _ _ _ (by dsimp only; omega)]
        dsimp only
        rw [hgs, nb0, e2]
        rfl
      rw [hbx] at hbd
      have hga : ∀ i (hi : i < ps.length), (ps.map (·.key)).getD i [] = (ps[i]).key := fun i hi => by simp [List.getD_eq_getElem?_getD, hi]
      refine AC_seq ?_
      refine AC_regL ?_
      refine AQ_take TT_ok 4 rfl (by simp only [go_sem, g0, g1, g2, g3] <;> rfl) ?_
      have hln : (t ++ [zNd]).length = t.length + 1 := by simp
      refine AQ_c rfl (by simp only [go_sem] <;> rfl) fok80 (by simp only [List.map_cons, List.map_nil, List.append_nil, go_sem] <;> rfl) (ihb H2 bi vl vn vt1 ps (t ++ [zNd]) a b at_ hB2 hseg hfu h2b (by rw [hga a (by omega), hga (b - 1) (by omega)]; exact hc) (by rw [hln]; simp at hbd ⊢; omega) hpl hkl) (fun i hi hm => ?_) (.inl rfl) fun v H5 hX5 ⟨hv, vt5, hB5, hv5⟩ => ?_
      · rcases hm with rfl | hm
        · exact .inr (.inl rfl)
        · exact .inl (hv1 i hm)
      rw [hln] at hB5 hv
      subst hv
      have hv5' : ∀ j, vid vt5 = some j → H.length ≤ j := fun j hj => by
        rcases hv5 j hj with h | rfl
        · have := hX2.size; omega
        · exact hv1 j hj
      refine AQ_var TT_ok TT_49 rfl (by decide) (by simp only [go_sem] <;> rfl) (Lay.nd _) (Nd.len _) (.inl (by have := hX2.size; have := hX5.size; omega)) (.inl rfl) fun H6 hX6 hO6 hL6 => ?_
      refine AQ_nil ?_
      have hB6 := hB5.keep hX6
      have hlen6 : t.length < (t ++ [zNd] ++ (brn (bld f) (gs0 ps a b at_) (t.length + 1) zk).1).length := by simp
      have kx6 := hB6.t.sl.index (k := .i64) (j := (t.length : Int)) (by omega) (Int.ofNat_lt.2 hlen6)
      rw [Int.toNat_natCast] at kx6
      obtain ⟨ti, hO⟩ := Buf.own hB6.t (by simp)
      refine AC_seq ?_
      refine AC_regD [7] mixed (by kernel_rfl) ?_
      refine AQ_take TT_ok 7 rfl (by simp only [go_sem, g0, g9, anil_ptr, f97 _ 2 (by decide), hB6.ob.load, ap3_2 _ _ _ 24 rfl, kx6, hO6.load, Nd.part] <;> rfl) ?_
      refine AQ_storeE TT_ok TT_49 rfl (by simp only [go_sem] <;> rfl) (by simp only [go_sem] <;> rfl) (Lay.nd _) (Nd.len _) hO (by rw [Nd.len]; exact rowsLen20 _ hlen6) (.inl (hv5' _ hO.vid)) (.inr rfl) fun H7 hX7 hO7 hL7 => ?_
      refine AQ_nil ?_
      have hN := NdB.set hlen6 rfl hO7
      rw [List.append_assoc, List.singleton_append, set_mid] at hN
      have hB7 := hB6.put hO.vid hX7 hN
      refine AC_seqQ TT_ok (by simp only [go_sem, g9] <;> rfl) ?_
      refine AC_ret ⟨.inl rfl, _, rfl, by simp only [go_sem], vt5, ?_, hv5'⟩
      rw [hbx]
      exact hB7
end Go.Proofs.Ythalogdopkoidaa.Ab
set_option linter.unusedVariables false
set_option linter.unusedSimpArgs false
namespace Go.Proofs.Ythalogdopkoidaa.Ab
open Go Go.RowKit
theorem Seg.full {ps : List Pr} {a b at_ : Nat} (h : Seg ps a b at_) (h0 : at_ < (nib (ps[a]'(by have := h.lt; have := h.le; omega)).key).length) : ∀ i, a ≤ i → (h2 : i < b) → at_ < (nib (ps[i]'(by have := h.le; omega)).key).length := by
  intro i g1 g2
  have hlt := h.lt
  have hle := h.le
  by_cases e : i = a
  · subst e; exact h0
  · have hr := h.ris
    rw [sg_cons ps a b at_ hlt hle] at hr
    have := hr.full _ (sg_in (a := a + 1) (b := b) (at_ := at_) (i := i) hle (by omega) g2)
    have hl := List.length_pos_iff.2 this
    rw [List.length_drop] at hl
    omega
theorem Seg.full1 {ps : List Pr} {a b at_ : Nat} (h : Seg ps a b at_) : ∀ i, a + 1 ≤ i → (h2 : i < b) → at_ < (nib (ps[i]'(by have := h.le; omega)).key).length := by
  intro i g1 g2
  have hlt := h.lt
  have hle := h.le
  have hr := h.ris
  rw [sg_cons ps a b at_ hlt hle] at hr
  have h1 := (List.pairwise_cons.1 hr).1 _ (sg_in (a := a + 1) (b := b) (at_ := at_) (i := i) hle g1 g2)
  rcases Nat.lt_or_ge at_ (nib (ps[i]'(by omega)).key).length with h | h
  · exact h
  · have : (nib (ps[i]'(by omega)).key).drop at_ = [] := List.drop_eq_nil_of_le h
    dsimp only at h1
    rw [this] at h1
    exact absurd h1 (List.not_lt_nil _)
theorem Nd.over_has (n : Nd) (b : Bool) : over n.cells 2 [.bool b] = (Nd.mk n.kind n.path b n.value n.kids).cells := rfl
theorem Nd.over_value (n : Nd) (v : List UInt8) : over n.cells 3 [S v] = (Nd.mk n.kind n.path n.has v n.kids).cells := rfl
theorem Nd.over_kind (n : Nd) (v : Int) : over n.cells 0 [.int .i64 v] = (Nd.mk v n.path n.has n.value n.kids).cells := rfl
theorem f49p (i f off : Nat) (h : [(0, 0), (1, 1), (2, 2), (3, 3), (4, 4)].contains (f, off) = true) : afield TT 49 (.pointer (some ⟨i, 0, none⟩)) f = some (.pointer (some ⟨i, off, none⟩)) := by
  simp only [List.contains_cons, List.contains_nil, Bool.or_false, Bool.or_eq_true, beq_iff_eq, Prod.mk.injEq] at h
  rcases h with ⟨rfl, rfl⟩ | ⟨rfl, rfl⟩ | ⟨rfl, rfl⟩ | ⟨rfl, rfl⟩ | ⟨rfl, rfl⟩ <;> rfl
theorem kidp (i : Nat) (c : UInt8) (h : c ≤ 15) : aindex TT 47 (.pointer (some ⟨i, 4, none⟩)) (U c) = some (.pointer (some ⟨i, 4 + c.toNat, none⟩)) := by
  have := UInt8.le_iff_toNat_le.1 h
  simp at this
  simp only [aindex, U, TT_47, TT_3]
  rw [if_pos (by omega)]
  simp
set_option maxHeartbeats 2000000 in
theorem c80 {f : Nat} (ih : P63 f) : P80 f := by
  intro H bi vl vn vt ps t a b at_ hB hseg hfu h2b hcom hbd hpl hkl
  have hlt := hseg.lt
  have hle := hseg.le
  have hla := hseg.len a (Nat.le_refl _) hlt
  have hhd : (sg ps a b at_).headD ([], []) = ((nib (ps[a]).key).drop at_, (ps[a]).value) := by rw [sg_cons ps a b at_ hlt hle]; rfl
  refine ACalls_by 77 TT_ok Try.func80 rfl rfl rfl (by simp) ?_
  refine AC_seq ?_
  refine AC_regL ?_
  refine AQ_alloc TT_ok TT_49 rfl fun Ha hXa hOa hLa => ?_
  refine AQ_nil ?_
  refine AC_seq ?_
  refine AC_regL ?_
  refine AQ_take TT_ok 1 rfl (by simp only [go_sem, List.map_cons, List.map_nil, bb49] <;> rfl) ?_
  refine AQ_var TT_ok TT_49 rfl (by decide) (by simp only [go_sem] <;> rfl) (Lay.nd _) (Nd.len _) (.inl (by omega)) (.inl rfl) fun Hb hXb hOb hLb => ?_
  refine AQ_nil ?_
  have hLab : Hb.length = H.length + 2 := by omega
  have hXab := hXa.trans hXb
  have hB1 := hB.keep hXab
  have hR1 := hOa.keep hXb
  have ka := hB1.n.index (k := .i64) (j := a) (by rw [nks_length]; omega)
  have kb := hB1.n.load (i := a) (by rw [nks_length]; omega)
  have kna : (nks ps)[a]'(by rw [nks_length]; omega) = nib (ps[a]).key := by simp [nks]
  rw [kna] at kb
  rw [hLa] at hOb
  -- the Branch's own value
  refine AC_cut (fun e' H' => ∃ a1, ∃ (n1 : Nd), a ≤ a1 ∧ a1 ≤ b ∧ a1 < b ∧ (∀ i, a1 ≤ i → (h2 : i < b) → at_ < (nib (ps[i]'(by omega)).key).length) ∧ n1 = ⟨3, [], decide ((nib (ps[a]).key).drop at_ = []), if (nib (ps[a]).key).drop at_ = [] then (ps[a]).value else [], zk⟩ ∧
      gs0 ps a b at_ = groups (sg ps a1 b at_) ∧ BS H' bi vl vn vt ps t ∧ AExt (fun _ => False) H H' ∧ Ob H' H.length 49 zNd.cells ∧ Ob H' (H.length + 1) 49 n1.cells ∧
      get e' 0 = .pointer (some ⟨bi, 0, none⟩) ∧ get e' 1 = .int .i64 (a1 : Nat) ∧ get e' 2 = .int .i64 (b : Nat) ∧ get e' 3 = .int .i64 (at_ : Nat) ∧ get e' 8 = .pointer (some ⟨H.length, 0, none⟩) ∧ get e' 9 = .pointer (some ⟨H.length + 1, 0, none⟩)) ?_ (fun e1 H1 _ ⟨a1, n1, ha1, ha1b, ha1b', hfull, hn1, hgs, hB2, hX2, hR2, hN2, h0, h1, h2, h3, h8, h9⟩ => ?_)
  · refine AC_seqQ TT_ok (by simp only [go_sem, anil_ptr, f97 _ 1 (by decide), hB1.ob.load, ap3_1 _ _ _ 30 rfl, ka, kb, hLa] <;> rfl) ?_
    by_cases he : (nib (ps[a]).key).length = at_
    · refine AC_t (by simp only [go_sem] <;> rfl) (decide_eq_true (by omega)) ?_
      have hnil : (nib (ps[a]).key).drop at_ = [] := List.drop_eq_nil_of_le (by omega)
      have hXm := AExt.set1 Hb (H.length + 1) none
      have hBm := hB1.ext hXm (fun i _ hi => by
        subst hi
        refine ⟨fun h => ?_, fun h => ?_, fun h => ?_, fun h => ?_⟩
        · have := hB.ob.lt; omega
        · have := hB.l.vid_lt h; omega
        · have := hB.n.vid_lt h; omega
        · have := Sl.vid_lt hB.t.sl h; omega)
      have l1 := hBm.l.index (k := .i64) (j := (a : Int)) (by omega) (by omega)
      rw [Int.toNat_natCast] at l1
      have l2 := hBm.l.f1 (i := a) (by omega)
      have l3 := hBm.l.value (i := a) (by omega)
      refine AC_seq ?_
      refine AC_drawM (H.length + 1) [] _ mixed (by kernel_rfl : Dr.schedOK .any _ [] [(0, true), (1, true), (2, true), (3, true), (4, true), (5, true), (6, true), (7, true), (8, true), (9, false), (10, true), (11, false)] = true) hOb rfl ?_
      refine AM_sel (σ := [(9, false), (10, true), (11, false)]) TT_ok [0, 1, 2, 3, 4, 5, 6, 7, 8] _ (by simp only [go_sem, anil_ptr, f97 _ 0 (by decide), hBm.ob.load, ap3_0 _ _ _ 22 rfl, l1, l2, l3, f49p _ 2 2 rfl] <;> rfl) ?_
      refine AM_store TT_ok rfl rfl rfl TT_4 rfl (by simp only [go_sem] <;> rfl) (by simp only [go_sem] <;> rfl) (One.bool _).lay rfl hOb (by rw [Nd.len]; decide) (.inl (by omega)) fun H2 hX2 hO2 hL2 => ?_
      rw [Nd.over_has] at hO2
      refine AM_sel (σ := [(11, false)]) TT_ok [10] _ (by simp only [go_sem, f49p _ 3 3 rfl] <;> rfl) ?_
      refine AM_store TT_ok rfl rfl rfl TT_9 rfl (by simp only [go_sem] <;> rfl) (by simp only [go_sem] <;> rfl) (One.str _).lay rfl hO2 (by rw [Nd.len]; exact (by decide : 3 + 1 ≤ 20)) (.inl (by omega)) fun H3 hX3 hO3 hL3 => ?_
      rw [Nd.over_value] at hO3
      refine AM_nil ?_
      have wa1 := wrapN a (by omega)
      refine AC_quiet TT_ok (by simp only [go_sem, wa1] <;> rfl) ?_
      have hne : ∀ i, i < Hb.length → i = H.length + 1 → i ≠ bi ∧ vid vl ≠ some i ∧ vid vn ≠ some i ∧ vid vt ≠ some i := fun i _ hi => by
        subst hi
        refine ⟨fun h => ?_, fun h => ?_, fun h => ?_, fun h => ?_⟩
        · have := hB.ob.lt; omega
        · have := hB.l.vid_lt h; omega
        · have := hB.n.vid_lt h; omega
        · have := Sl.vid_lt hB.t.sl h; omega
      have hX23 : AExt (fun i => i = H.length + 1) Hb H3 := hX2.trans (hX3.mono (fun _ _ h => h))
      refine ⟨a + 1, _, by omega, by omega, h2b, hseg.full1, rfl, ?_, hB1.ext hX23 hne, hXab.weakF hX23 (fun i hi h => by omega), hR1.ext hX23 (by omega), ?_, by simp only [go_sem], by simp only [go_sem], by simp only [go_sem], by simp only [go_sem], by simp only [go_sem, hLa], by simp only [go_sem, hLa]⟩
      · rw [gs0, hhd]; dsimp only; rw [if_pos hnil]
      · rw [hnil, if_pos rfl, decide_eq_true rfl]; exact hO3
    · refine AC_f (by simp only [go_sem] <;> rfl) (decide_eq_false (by omega)) ?_
      have hne : (nib (ps[a]).key).drop at_ ≠ [] := fun e => by
        have := congrArg List.length e
        simp at this
        omega
      refine AC_skip ⟨a, _, Nat.le_refl _, by omega, hlt, hseg.full (by omega), rfl, ?_, hB1, hXab, hR1, ?_, by simp only [go_sem], by simp only [go_sem], by simp only [go_sem], by simp only [go_sem], by simp only [go_sem, hLa], by simp only [go_sem, hLa]⟩
      · rw [gs0, hhd]; dsimp only; rw [if_neg hne]
      · rw [if_neg hne, decide_eq_false hne]; exact hOb
  subst hn1
  have hseg1 := fun i (q1 : a1 ≤ i) (q2 : i < b) => hseg.part (m := i) (e := b) (by omega) q2 (Nat.le_refl _)
  rw [hgs] at hbd
  have hfull2 : ∀ i, a1 ≤ i → (h2 : i < b) → ∃ c : UInt8, c ≤ 15 ∧ (nib (ps[i]'(by omega)).key)[at_]? = some c := fun i q1 q2 => by
    have hl := hfull i q1 q2
    exact ⟨_, nib_small _ _ (List.getElem_mem hl), List.getElem?_eq_getElem hl⟩
  refine AC_cut (fun e' H' => ∃ vt', BS H' bi vl vn vt' ps (t ++ (brn (bld f) (groups (sg ps a1 b at_)) t.length zk).1) ∧ (∀ j, vid vt' = some j → H.length + 2 ≤ j ∨ vt' = vt) ∧ Ob H' H.length 49 zNd.cells ∧ Ob H' (H.length + 1) 49 (Nd.mk 3 [] (decide ((nib (ps[a]).key).drop at_ = [])) (if (nib (ps[a]).key).drop at_ = [] then (ps[a]).value else []) (brn (bld f) (groups (sg ps a1 b at_)) t.length zk).2).cells ∧
      get e' 8 = .pointer (some ⟨H.length, 0, none⟩) ∧ get e' 9 = .pointer (some ⟨H.length + 1, 0, none⟩)) ?_ (fun E2 H2 _ ⟨vt2, hB3, hv3, hR3, hN3, g8, g9⟩ => ?_)
  rotate_left
  · refine AC_seq ?_
    refine AC_regL ?_
    refine AQ_take TT_ok 1 rfl (by simp only [go_sem, g9, hN3.load, Nd.part] <;> rfl) ?_
    refine AQ_store TT_ok TT_49 rfl (by simp only [go_sem, g8] <;> rfl) (by simp only [go_sem] <;> rfl) (Lay.nd _) (Nd.len _) hR3 (by rw [Nd.len, Nd.len]; decide) (.inl (Nat.le_refl _)) (.inl rfl) fun H3 hX3 hO3 hL3 => ?_
    refine AQ_nil ?_
    rw [over_full (by rw [Nd.len, Nd.len])] at hO3
    refine AC_ret ⟨.inl rfl, (nb0 f ps a b at_ t.length).val, ?_, rfl, vt2, ?_, fun j hj => (hv3 j hj).imp (fun h => by omega) id⟩
    · show ares TT H3 _ [.cell 8 49] = _
      simp only [ares, List.mapM_cons, List.mapM_nil, ares1, go_sem, g8, hO3.load, Nd.part]
      rw [nb0, hhd, hgs]
      rfl
    · rw [hgs]
      refine hB3.ext hX3 (fun i _ hi => ?_)
      subst hi
      refine ⟨fun h => ?_, fun h => ?_, fun h => ?_, fun h => ?_⟩
      · have := hB.ob.lt; omega
      · have := hB.l.vid_lt h; omega
      · have := hB.n.vid_lt h; omega
      · rcases hv3 _ h with h' | h'
        · omega
        · subst h'; have := Sl.vid_lt hB.t.sl h; omega
  refine AC_block (AC_loop (fun n e' H' => ∃ (i : Nat) (Y : List Nd) (kids : Vector Int 16) (vt' : Value), n = b - i ∧ a1 ≤ i ∧ i ≤ b ∧ BS H' bi vl vn vt' ps (t ++ Y) ∧ (∀ j, vid vt' = some j → H.length + 2 ≤ j ∨ vt' = vt) ∧ H.length + 2 ≤ H'.length ∧ Ob H' H.length 49 zNd.cells ∧ Ob H' (H.length + 1) 49 (Nd.mk 3 [] (decide ((nib (ps[a]).key).drop at_ = [])) (if (nib (ps[a]).key).drop at_ = [] then (ps[a]).value else []) kids).cells ∧
      brn (bld f) (groups (sg ps a1 b at_)) t.length zk = (Y ++ (brn (bld f) (groups (sg ps i b at_)) (t.length + Y.length) kids).1, (brn (bld f) (groups (sg ps i b at_)) (t.length + Y.length) kids).2) ∧
      get e' 0 = .pointer (some ⟨bi, 0, none⟩) ∧ get e' 1 = .int .i64 (i : Nat) ∧ get e' 2 = .int .i64 (b : Nat) ∧ get e' 3 = .int .i64 (at_ : Nat) ∧ get e' 8 = .pointer (some ⟨H.length, 0, none⟩) ∧ get e' 9 = .pointer (some ⟨H.length + 1, 0, none⟩)) (b - a1)
    ⟨a1, [], zk, vt, rfl, Nat.le_refl _, ha1b, by simpa using hB2, fun j _ => .inr rfl, by have := hN2.lt; omega, hR2, hN2, by simp, h0, h1, h2, h3, h8, h9⟩ ?_)
  rintro n E H3 _ ⟨i, Y, kids, vt3, hn, hi1, hi2, hB3, hv3, hl3, hR3, hN3, heq, g0, g1, g2, g3, g8, g9⟩
  refine AC_seq ?_
  refine AC_seqQ TT_ok (by simp only [go_sem, g1, g2] <;> rfl) ?_
  by_cases hib : i < b
  · refine AC_t (by simp only [go_sem] <;> rfl) (lt_dec hib) ?_
    refine AC_skip ?_
    refine AC_block ?_
    obtain ⟨c, hc15, hcn⟩ := hfull2 i hi1 hib
    obtain ⟨hcl, hce⟩ := List.getElem?_eq_some_iff.1 hcn
    have ki := hB3.n.index (k := .i64) (j := i) (by rw [nks_length]; omega)
    have kl := hB3.n.load (i := i) (by rw [nks_length]; omega)
    have kni : (nks ps)[i]'(by rw [nks_length]; omega) = nib (ps[i]).key := by simp [nks]
    rw [kni] at kl
    have kc := aget_S (k := .i64) hcl
    rw [hce] at kc
    refine AC_seqQ TT_ok (by simp only [go_sem, g0, g1, g3, anil_ptr, f97 _ 1 (by decide), hB3.ob.load, ap3_1 _ _ _ 30 rfl, ki, kl, kc] <;> rfl) ?_
    refine AC_seqQ TT_ok (by simp only [go_sem, g1] <;> rfl) ?_
    refine AC_cut (fun e' H' => H' = H3 ∧ ∃ m, ∃ (q1 : i < m) (q2 : m ≤ b), (∀ j, i ≤ j → (h : j < m) → (nib (ps[j]).key)[at_]? = some c) ∧ ((h : m < b) → (nib (ps[m]).key)[at_]? ≠ some c) ∧ get e' 0 = .pointer (some ⟨bi, 0, none⟩) ∧ get e' 1 = .int .i64 (i : Nat) ∧ get e' 2 = .int .i64 (b : Nat) ∧ get e' 3 = .int .i64 (at_ : Nat) ∧ get e' 8 = .pointer (some ⟨H.length, 0, none⟩) ∧ get e' 9 = .pointer (some ⟨H.length + 1, 0, none⟩) ∧ get e' 10 = U c ∧ get e' 11 = .int .i64 (m : Nat)) ?_ (fun E4 H4 _ hK => ?_)
    · refine AC_block (AC_loop (fun n' e' H' => ∃ (m : Nat) (q1 : i ≤ m) (q2 : m ≤ b), n' = b - m ∧ (∀ j, i ≤ j → (h : j < m) → (nib (ps[j]).key)[at_]? = some c) ∧ H' = H3 ∧ get e' 0 = .pointer (some ⟨bi, 0, none⟩) ∧ get e' 1 = .int .i64 (i : Nat) ∧ get e' 2 = .int .i64 (b : Nat) ∧ get e' 3 = .int .i64 (at_ : Nat) ∧ get e' 8 = .pointer (some ⟨H.length, 0, none⟩) ∧ get e' 9 = .pointer (some ⟨H.length + 1, 0, none⟩) ∧ get e' 10 = U c ∧ get e' 11 = .int .i64 (m : Nat)) (b - i)
        ⟨i, Nat.le_refl _, hi2, rfl, fun j q1 q2 => by omega, rfl, by simp only [go_sem, g0], by simp only [go_sem, g1], by simp only [go_sem, g2], by simp only [go_sem, g3], by simp only [go_sem, g8], by simp only [go_sem, g9], by simp only [go_sem], by simp only [go_sem]⟩ ?_)
      rintro n' E5 H5 _ ⟨m, q1, q2, hn', hall, rfl, k0, k1, k2, k3, k8, k9, k10, k11⟩
      refine AC_seq ?_
      by_cases hmb : m < b
      · have d1 := lt_dec hmb
        obtain ⟨cm, _, hcm⟩ := hfull2 m (by omega) hmb
        obtain ⟨hml, hme⟩ := List.getElem?_eq_some_iff.1 hcm
        have mi := hB3.n.index (k := .i64) (j := m) (by rw [nks_length]; omega)
        have ml := hB3.n.load (i := m) (by rw [nks_length]; omega)
        have mni : (nks ps)[m]'(by rw [nks_length]; omega) = nib (ps[m]).key := by simp [nks]
        rw [mni] at ml
        have mc := aget_S (k := .i64) hml
        rw [hme] at mc
        refine AC_seqQ TT_ok (by simp only [go_sem, k0, k2, k3, k10, k11, d1, anil_ptr, f97 _ 1 (by decide), hB3.ob.load, ap3_1 _ _ _ 30 rfl, mi, ml, mc] <;> rfl) ?_
        by_cases hcc : cm = c
        · subst hcc
          refine AC_t (by simp only [go_sem] <;> rfl) (by simp) ?_
          refine AC_skip (AC_block ?_)
          have wm := wrapN m (by omega)
          refine AC_quiet TT_ok (by simp only [go_sem, k11, wm] <;> rfl) ?_
          refine ⟨b - (m + 1), by omega, m + 1, by omega, by omega, rfl, fun j z1 z2 => ?_, rfl, by simp only [go_sem, k0], by simp only [go_sem, k1], by simp only [go_sem, k2], by simp only [go_sem, k3], by simp only [go_sem, k8], by simp only [go_sem, k9], by simp only [go_sem, k10], by simp only [go_sem]⟩
          by_cases hj : j < m
          · exact hall j z1 hj
          · have : j = m := by omega
            subst this; exact hcm
        · refine AC_f (by simp only [go_sem] <;> rfl) (decide_eq_false hcc) ?_
          have him : i ≠ m := by
            rintro rfl
            rw [hcn] at hcm
            exact hcc (Option.some.inj hcm).symm
          refine AC_exit ⟨rfl, m, by omega, q2, hall, fun h => ?_, by simp only [go_sem, k0], by simp only [go_sem, k1], by simp only [go_sem, k2], by simp only [go_sem, k3], by simp only [go_sem, k8], by simp only [go_sem, k9], by simp only [go_sem, k10], by simp only [go_sem, k11]⟩
          rw [hcm]
          exact fun e => hcc (Option.some.inj e)
      · have d1 := ge_dec (a := m) (b := b) (by omega)
        refine AC_seqQ TT_ok (by simp only [go_sem, k2, k11, d1] <;> rfl) ?_
        refine AC_f (by simp only [go_sem] <;> rfl) (rfl) ?_
        exact AC_exit ⟨rfl, m, by omega, q2, hall, fun h => absurd h hmb, by simp only [go_sem, k0], by simp only [go_sem, k1], by simp only [go_sem, k2], by simp only [go_sem, k3], by simp only [go_sem, k8], by simp only [go_sem, k9], by simp only [go_sem, k10], by simp only [go_sem, k11]⟩
    obtain ⟨rfl, m, q1, q2, hall, hnx, k0, k1, k2, k3, k8, k9, k10, k11⟩ := hK
    have hgr := groups_sg (ps := ps) (a := i) (m := m) (b := b) (at_ := at_) (c := c) hle q1 q2 (fun j z1 z2 => hall j z1 z2) (fun h => ⟨hnx h, hfull m (by omega) h⟩)
    have hsegi : Seg ps i m (at_ + 1) := (hseg.part (m := i) (e := m) (by omega) q1 q2).down (fun j z1 z2 => hall j z1 z2)
    have hfui : Fu (sg ps i m (at_ + 1)) f := by
      intro z hz
      obtain ⟨j, z1, z2, rfl⟩ := sg_mem (by omega) hz
      have h1 := hfu _ (sg_in (a := a) (b := b) (at_ := at_) (i := j) hle (by omega) (by omega))
      have h2 := hfull j (by omega) (by omega)
      simp only [List.length_drop] at h1 ⊢
      omega
    rw [hgr, brn_cons] at heq
    have hlenY : (t ++ Y).length = t.length + Y.length := by simp
    have hbd2 : t.length + Y.length + (bld f (sg ps i m (at_ + 1)) (t.length + Y.length)).length < 2^30 := by
      rw [heq] at hbd
      simp only [List.length_append] at hbd
      omega
    have hlk := hsegi.len i (Nat.le_refl _) q1
    have hki := hkl _ (List.getElem_mem (show i < ps.length by omega))
    have hnl := nib_length (ps[i]).key
    have wat := wrapN at_ (by omega)
    refine AC_seq ?_
    refine AC_regL ?_
    refine AQ_take TT_ok 6 rfl (by simp only [go_sem, k0, k1, k3, k10, k11, wat] <;> rfl) ?_
    refine AQ_c rfl (by simp only [go_sem] <;> rfl) fok63 (by simp only [List.map_cons, List.map_nil, List.append_nil, go_sem] <;> rfl) (ih H4 bi vl vn vt3 ps (t ++ Y) i m (at_ + 1) hB3 hsegi hfui (by rw [hlenY]; exact hbd2) hpl hkl) (fun j hj hm => ?_) (.inl rfl) fun v H5 hX5 ⟨hv, vt5, hB5, hv5⟩ => ?_
    · rcases hm with rfl | hm
      · exact .inr (.inl rfl)
      · rcases hv3 j hm with h | h
        · exact .inl (by omega)
        · subst h; exact .inr (.inr hm)
    rw [hlenY] at hB5 hv
    subst hv
    have nM : ∀ j, j = H.length ∨ j = H.length + 1 → ¬ (j = bi ∨ vid vt3 = some j) := by
      rintro j hj (h | h)
      · have := hB.ob.lt; omega
      · rcases hv3 j h with h' | h'
        · omega
        · subst h'; have := Sl.vid_lt hB.t.sl h; omega
    have hR5 := hR3.ext hX5 (nM _ (.inl rfl))
    have hN5 := hN3.ext hX5 (nM _ (.inr rfl))
    refine AQ_take TT_ok 2 rfl (by simp only [go_sem, f49p _ 4 4 rfl, k9, kidp _ _ hc15] <;> rfl) ?_
    have hc16 : c.toNat < 16 := by
      have := UInt8.le_iff_toNat_le.1 hc15
      simp at this; omega
    refine AQ_store TT_ok TT_3 rfl (by simp only [go_sem] <;> rfl) (by simp only [go_sem] <;> rfl) (One.int _ _).lay rfl hN5 (by rw [Nd.len]; simp; omega) (.inl (by omega)) (.inl rfl) fun H6 hX6 hO6 hL6 => ?_
    refine AQ_nil ?_
    rw [Nd.over_kid _ c.toNat hc16] at hO6
    refine AC_quiet TT_ok (by simp only [go_sem, k11] <;> rfl) ?_
    have hsk : setk kids c ((t.length + Y.length : Nat) : Int) = kids.set c.toNat ((t.length + Y.length : Nat) : Int) hc16 := by rw [setk, dif_pos hc16]
    refine ⟨b - m, by omega, m, Y ++ bld f (sg ps i m (at_ + 1)) (t.length + Y.length), setk kids c ((t.length + Y.length : Nat) : Int), vt5, rfl, by omega, q2, ?_, fun j hj => .inl ?_, ?_, hR5.ext hX6 (by omega), ?_, ?_, by simp only [go_sem, k0], by simp only [go_sem], by simp only [go_sem, k2], by simp only [go_sem, k3], by simp only [go_sem, k8], by simp only [go_sem, k9]⟩
    · rw [← List.append_assoc]
      refine hB5.ext hX6 (fun j _ hj => ?_)
      subst hj
      refine ⟨fun h => ?_, fun h => ?_, fun h => ?_, fun h => ?_⟩
      · have := hB.ob.lt; omega
      · have := hB.l.vid_lt h; omega
      · have := hB.n.vid_lt h; omega
      · have := hv5 _ h; omega
    · have := hv5 j hj; omega
    · have := hX5.size; omega
    · rw [hsk]; exact hO6
    · rw [heq, List.length_append, ← Nat.add_assoc, List.append_assoc]
  · refine AC_f (by simp only [go_sem] <;> rfl) (ge_dec (by omega)) ?_
    have : i = b := by omega
    subst this
    rw [sg_nil] at heq
    have e1 : groups [] = [] := rfl
    rw [e1, brn] at heq
    simp only [List.append_nil] at heq
    refine AC_exit ⟨vt3, ?_, hv3, hR3, ?_, by simp only [go_sem, g8], by simp only [go_sem, g9]⟩
    · rw [heq]; exact hB3
    · rw [heq]; exact hN3
end Go.Proofs.Ythalogdopkoidaa.Ab
set_option linter.unusedVariables false
set_option linter.unusedSimpArgs false
namespace Go.Proofs.Ythalogdopkoidaa.Ab
open Go Go.RowKit
theorem all63 : ∀ f, P63 f
  | 0 => fun H bi vl vn vt ps t a b at_ hB hs hf _ _ _ => by
    have := hf _ (sg_in (a := a) (b := b) (at_ := at_) (i := a) hs.le (Nat.le_refl _) hs.lt)
    omega
  | f + 1 => c63 (all63 f) (c80 (all63 f))
/-- Nibbles are ordered as the texts are. -/
theorem nib_lt : ∀ {a b : List UInt8}, a < b → nib a < nib b
  | [], [], h => absurd h (List.lt_irrefl _)
  | [], b :: y, _ => nil_lt_cons _ _
  | a :: x, [], h => absurd h (List.not_lt_nil _)
  | a :: x, b :: y, h => by
    rw [nib_cons, nib_cons, cons_lt, cons_lt]
    rcases cons_lt.1 h with h | ⟨rfl, hxy⟩
    · have h1 := UInt8.lt_iff_toNat_lt.1 h
      have h2 : (a / 16).toNat = a.toNat / 16 := UInt8.toNat_div a 16
      have h3 : (b / 16).toNat = b.toNat / 16 := UInt8.toNat_div b 16
      have h4 : (a % 16).toNat = a.toNat % 16 := UInt8.toNat_mod a 16
      have h5 : (b % 16).toNat = b.toNat % 16 := UInt8.toNat_mod b 16
      by_cases hd : a.toNat / 16 < b.toNat / 16
      · exact .inl (UInt8.lt_iff_toNat_lt.2 (by omega))
      · refine .inr ⟨UInt8.toNat_inj.1 (by omega), .inl (UInt8.lt_iff_toNat_lt.2 (by omega))⟩
    · exact .inr ⟨rfl, .inr ⟨rfl, nib_lt hxy⟩⟩
/-- All pairs, from their keys' beginnings on. -/
def sx (ps : List Pr) : Sx := ps.map fun p => (nib p.key, p.value)
theorem sg_all (ps : List Pr) : sg ps 0 ps.length 0 = sx ps := by simp [sg, sx]
/-- The trie of pairs. -/
def build (ps : List Pr) : List Nd := if ps = [] then [] else bld 17 (sx ps) 0
/-- Its nodes' paths. -/
def paths (ps : List Pr) : List (List UInt8) := if ps = [] then [] else pth 17 (sx ps) []
theorem Seg.all {ps : List Pr} (h : May ps) (hn : ps ≠ []) : Seg ps 0 ps.length 0 := by
  refine ⟨List.length_pos_iff.2 hn, Nat.le_refl _, fun i _ _ => Nat.zero_le _, ?_⟩
  rw [sg_all, Ris, sx, List.pairwise_map]
  exact h.2.imp fun hlt => nib_lt hlt
theorem Fu.all {ps : List Pr} (h : May ps) : Fu (sx ps) 17 := by
  intro z hz
  obtain ⟨p, hp, rfl⟩ := List.mem_map.1 hz
  have := (h.1 p hp).2.1
  dsimp only
  rw [nib_length]; omega
def glen (gs : List (UInt8 × Sx)) : Nat := (gs.map fun g => g.2.length).sum
theorem glen_groups : ∀ s : Sx, glen (groups s) ≤ s.length
  | [] => by simp [groups, glen]
  | ([], v) :: s => by
    have := glen_groups s
    rw [groups]; simp; omega
  | (c :: n, v) :: s => by
    have ih := glen_groups s
    rw [groups]
    cases hg : groups s with
    | nil => simp [glen]
    | cons w gs =>
      obtain ⟨c', g⟩ := w
      rw [hg] at ih
      simp only [glen, List.map_cons, List.sum_cons] at ih
      dsimp only
      split
      · simp only [glen, List.map_cons, List.sum_cons, List.length_cons]; omega
      · simp only [glen, List.map_cons, List.sum_cons, List.length_cons, List.length_nil]; omega
theorem brn_len {b : Sx → Nat → List Nd} {q : Nat} (hb : ∀ s k, (b s k).length ≤ q * s.length) : ∀ (gs : List (UInt8 × Sx)) (k : Nat) (kids : Vector Int 16), (brn b gs k kids).1.length ≤ q * glen gs
  | [], k, kids => by simp [brn]
  | (c, g) :: gs, k, kids => by
    rw [brn_cons]
    have h1 := hb g k
    have h2 := brn_len hb gs (k + (b g k).length) (setk kids c k)
    simp only [glen, List.map_cons, List.sum_cons, List.length_append, Nat.mul_add] at h2 ⊢
    omega
theorem bld_len : ∀ (f : Nat) (s : Sx) (k : Nat), (bld f s k).length ≤ f * s.length
  | 0, s, k => by simp [bld]
  | f + 1, [], k => by simp [bld]
  | f + 1, [x], k => by simp [bld]
  | f + 1, x :: y :: r, k => by
    by_cases h : 0 < com x.1 (lst y r).1
    · rw [bld_ext _ _ _ _ _ h]
      have := bld_len f ((x :: y :: r).map (cut (com x.1 (lst y r).1))) (k + 1)
      simp only [List.length_cons, List.length_map, Nat.add_mul, Nat.mul_add] at this ⊢
      omega
    · rw [bld_brn _ _ _ _ _ h]
      have h1 := brn_len (bld_len f) (groups (if x.1 = [] then y :: r else x :: y :: r)) (k + 1) zk
      have h2 := glen_groups (if x.1 = [] then y :: r else x :: y :: r)
      have h3 : (if x.1 = [] then y :: r else x :: y :: r).length ≤ (x :: y :: r).length := by split <;> simp
      have h4 := Nat.mul_le_mul_left f (Nat.le_trans h2 h3)
      have h5 : 1 ≤ (x :: y :: r).length := by simp
      rw [List.length_cons, Nat.add_mul]
      omega
theorem build_len (ps : List Pr) : (build ps).length ≤ 17 * ps.length := by
  unfold build
  split
  · simp
  · have := bld_len 17 (sx ps) 0
    simpa [sx] using this
def StB (H : AHeap) (v : Value) (l : List (List UInt8)) : Prop := Buf H v 9 l.length (l.flatMap sCell)
theorem StB.sl {H : AHeap} {v : Value} {l : List (List UInt8)} (h : StB H v l) : StS H v l := Buf.sl h
end Go.Proofs.Ythalogdopkoidaa.Ab
set_option linter.unusedVariables false
set_option linter.unusedSimpArgs false
namespace Go.Proofs.Ythalogdopkoidaa.Ab
open Go Go.RowKit
theorem b97 {v : Value} (h : One v) : abuild TT 97 [(0, v)] = some (.agg #[v, .slice none 0 0, .slice none 0 0]) := by
  have hs : v.cells.size = 1 := by rw [h.cells]; rfl
  simp only [abuild, TT_97]
  rw [if_pos (by decide)]
  simp only [afill, placeOf]
  simp only [List.getElem?_cons_zero, TT_22, Option.map_some]
  rw [if_pos ⟨h.known, hs, by decide⟩, h.cells]
  rfl
/-- Blocks of vn set apart. -/
def msk (H : AHeap) (v : Value) : AHeap := match vid v with
  | some i => H.set i none
  | none => H
theorem msk_ext (H : AHeap) (v : Value) : AExt (fun i => vid v = some i) H (msk H v) := by
  unfold msk
  split
  · rename_i i hi
    exact (AExt.set1 H i none).mono (fun j _ hj => by rw [hi, hj])
  · exact AExt.refl _ _
theorem msk_live {H : AHeap} {v : Value} {i : Nat} {o : AObj} (h : (msk H v)[i]? = some (some o)) : H[i]? = some (some o) ∧ ¬ vid v = some i := by
  unfold msk at h
  split at h
  · rename_i j hj
    by_cases e : j = i
    · subst e
      rw [List.getElem?_set] at h
      simp at h
    · rw [List.getElem?_set_ne e] at h
      exact ⟨h, fun h' => e (by rw [hj] at h'; exact Option.some.inj h')⟩
  · rename_i hn
    exact ⟨h, fun h' => by rw [hn] at h'; cases h'⟩
theorem msk_len (H : AHeap) (v : Value) : (msk H v).length = H.length := by
  unfold msk; split <;> simp
theorem Buf.live {H : AHeap} {v : Value} {ty n : Nat} {cs : List Value} (h : Buf H v ty n cs) (i : Nat) (hi : vid v = some i) : ∃ o, H[i]? = some (some o) ∧ o.rw = true := by
  rcases h with ⟨rfl, _⟩ | ⟨j, h⟩
  · cases hi
  · rw [h.vid] at hi
    obtain rfl := Option.some.inj hi
    obtain ⟨_, cells, h2, _⟩ := h
    exact ⟨_, h2, rfl⟩
set_option maxHeartbeats 1000000 in
theorem c29 {H : AHeap} {vl : Value} {ps : List Pr} (hS : PrS H vl ps) (hl : ps.length < 2^20) : ACalls Try.prog 29 [vl] H (fun _ => False) fun v H' =>
    ∃ vt, v = .tuple #[vt, .bool (decide (May ps))] ∧ NdB H' vt (if May ps then build ps else []) ∧ ∀ j, vid vt = some j → H.length ≤ j := by
  refine ACalls_by 43 TT_ok Try.func29 rfl rfl rfl (by simp) ?_
  refine AC_seqQ TT_ok (by simp only [go_sem] <;> rfl) ?_
  refine AC_seq ?_
  refine AC_cut (fun e' H' => AExt (fun _ => False) H H' ∧ get e' 0 = vl ∧ get e' 9 = .bool (!decide (May ps))) ?_ (fun e1 H1 _ ⟨hX1, h0, h9⟩ => ?_)
  · refine AC_regL ?_
    refine AQ_take TT_ok 1 rfl (by simp only [go_sem] <;> rfl) ?_
    refine AQ_c rfl (by simp only [go_sem] <;> rfl) fok61 (by simp only [List.map_cons, List.map_nil, List.append_nil, go_sem] <;> rfl) (c61 hS (by omega)) (fun _ _ h => h.elim) (.inl rfl) fun v H1 hX hv => ?_
    subst hv
    refine AQ_all TT_ok rfl (by simp only [go_sem] <;> rfl) ?_
    exact ⟨hX, by simp only [go_sem], by simp only [go_sem]⟩
  by_cases hm : May ps
  · have hd : decide (May ps) = true := decide_eq_true hm
    refine AC_f h9 (by rw [hd]; rfl) (AC_skip ?_)
    have hS1 := hS.keep hX1
    refine AC_seq ?_
    refine AC_regL ?_
    refine AQ_take TT_ok 2 rfl (by simp only [go_sem, h0, List.map_cons, List.map_nil, b97 hS.one] <;> rfl) ?_
    have hlay : Lay (.agg #[vl, .slice none 0 0, .slice none 0 0]) [vl, .slice none 0 0, .slice none 0 0] := Lay.agg (l := [vl, .slice none 0 0, .slice none 0 0]) (fun v hv => by
      simp only [List.mem_cons, List.not_mem_nil, or_false] at hv
      rcases hv with rfl | rfl | rfl
      · exact hS.one
      · exact One.slice _ _ _
      · exact One.slice _ _ _)
    refine AQ_box TT_ok TT_97 rfl (by simp only [go_sem] <;> rfl) hlay rfl fun H2 hX2 hO2 hL2 => ?_
    refine AQ_all TT_ok rfl (by simp only [go_sem] <;> rfl) ?_
    have hX12 := hX1.trans hX2
    refine AC_cut (fun e' H' => ∃ vn, Ob H' H1.length 97 [vl, vn, .slice none 0 0] ∧ StB H' vn (nks ps) ∧ (∀ j, vid vn = some j → H1.length < j) ∧ AExt (fun _ => False) H H' ∧ get e' 0 = vl ∧ get e' 4 = .pointer (some ⟨H1.length, 0, none⟩)) ?_ (fun e3 H3 _ ⟨vn, hO3, hN3, hv3, hX3, g0, g4⟩ => ?_)
    · have hS2 := hS.keep hX12
      refine AC_seqQ TT_ok (by simp only [go_sem, h0, hS2.alen] <;> rfl) ?_
      refine AC_block (AC_loop (fun n e' H' => ∃ (i : Nat) (vn : Value), n = ps.length - i ∧ i ≤ ps.length ∧ Ob H' H1.length 97 [vl, vn, .slice none 0 0] ∧ StB H' vn ((nks ps).take i) ∧ (∀ j, vid vn = some j → H1.length < j) ∧ AExt (fun _ => False) H H' ∧ H1.length < H'.length ∧ get e' 0 = vl ∧ get e' 4 = .pointer (some ⟨H1.length, 0, none⟩) ∧ get e' 13 = vl ∧ get e' 14 = .int .i64 ps.length ∧ get e' 15 = .int .i64 (i : Nat)) ps.length
        ⟨0, .slice none 0 0, by simp, by simp, hO2, Buf.nil _ _, fun j hj => (by cases hj), hX12, by omega, by simp only [go_sem, h0], by simp only [go_sem], by simp only [go_sem, h0], by simp only [go_sem], by simp only [go_sem] <;> simp⟩ ?_)
      rintro n E H3 _ ⟨i, vn, hn, hi, hO3, hN3, hv3, hX3, hl3, g0, g4, g13, g14, g15⟩
      refine AC_seqQ TT_ok (by simp only [go_sem, g14, g15] <;> rfl) ?_
      refine AC_seq ?_
      by_cases hi' : i < ps.length
      · refine AC_t (by simp only [go_sem] <;> rfl) (lt_dec hi') ?_
        refine AC_skip ?_
        refine AC_seq (AC_block ?_)
        have hS3 := hS.keep hX3
        have l1 := hS3.index (k := .i64) (j := (i : Int)) (by omega) (by omega)
        rw [Int.toNat_natCast] at l1
        have l2 := hS3.load hi'
        have k5 := wrapN i (by omega)
        have hkey := (hm.1 _ (List.getElem_mem hi')).2.1
        refine AC_seq ?_
        refine AC_regL ?_
        refine AQ_take TT_ok 2 rfl (by simp only [go_sem, g13, g15, l1, l2] <;> rfl) ?_
        refine AQ_var TT_ok TT_52 rfl (by decide) (by simp only [go_sem] <;> rfl) (Lay.pr _) rfl (.inl (by have := hX1.size; omega)) (.inl rfl) fun H4 hX4 hO4 hL4 => ?_
        refine AQ_nil ?_
        have hO3' := hO3.keep hX4
        have hN3' : StB H4 vn ((nks ps).take i) := Buf.keep hN3 hX4
        have hvn1 : ¬ vid vn = some H1.length := fun h => Nat.lt_irrefl _ (hv3 _ h)
        have hvn3 : ¬ vid vn = some H3.length := fun h => by have := Sl.vid_lt hN3.sl h; omega
        have oM := hO3'.ext (msk_ext H4 vn) hvn1
        have pM := hO4.ext (msk_ext H4 vn) hvn3
        have f0 : ∀ k, afield TT 52 (.pointer (some ⟨k, 0, none⟩)) 0 = some (.pointer (some ⟨k, 0, none⟩)) := fun k => rfl
        have g0' : apart TT 9 ps[i].cells 0 = some (S ps[i].key) := rfl
        refine AC_drawG (fun j => vid vn = some j) (msk H4 vn) [12] [(0, true), (1, true), (2, true), (3, true), (4, true), (5, true), (6, true), (7, false), (8, false), (9, false), (10, true), (11, true), (12, false)] mixed (by kernel_rfl) (Buf.live hN3') (fun j o h => msk_live h) (Nat.le_of_eq (msk_len _ _)) ?_
        refine AG_sel (σ := [(7, false), (8, false), (9, false), (10, true), (11, true), (12, false)]) TT_ok [0, 1, 2, 3, 4, 5, 6] _ (by simp only [go_sem, g4, anil_ptr, f97 _ 1 (by decide), oM.load, ap3_1 _ _ _ 30 rfl, f0, pM.load, g0'] <;> rfl) ?_
        refine AG_c rfl rfl (by simp only [go_sem] <;> rfl) fok62 (by simp only [List.map_cons, List.map_nil, List.append_nil, go_sem] <;> rfl) (c62 (a := ps[i].key) (by omega)) fun v H5 hX5 hv => ?_
        subst hv
        refine AG_lit TT_ok [S (nib ps[i].key)] rfl TT_30 rfl TT_9 rfl (by decide) rfl (by decide) rfl (by simp only [List.map_cons, List.map_nil, go_sem, numbered]) (fun v hv => ?_) fun H6 hX6 hO6 hL6 => ?_
        · rw [List.mem_singleton] at hv; subst hv; exact ⟨_, (One.str _).lay, rfl⟩
        have hX56 := hX5.trans hX6
        have hil : ((nks ps).take i).length = i := by rw [List.length_take, nks_length]; omega
        refine AG_append TT_ok (v := vn) (n := ((nks ps).take i).length) (m := 1) rfl TT_30 rfl TT_9 (by decide) (by decide) rfl (by simp only [go_sem]) (by simp only [go_sem]) (Buf.keep hN3' hX56) hO6.sl (rows_length sCell_len _) rfl (by rw [hil]; simp; omega) (fun j hj => .inl (by have := hv3 j hj; have := hX1.size; omega)) (fun j _ hj => hj) fun v' H7 hX7 hB7 hv7 => ?_
        have hB7' : StB H7 v' ((nks ps).take (i + 1)) := by
          have e : ((nks ps).take i).flatMap sCell ++ ([S (nib ps[i].key)] : List Value).flatMap (fun v => v.cells.toList) = ((nks ps).take (i + 1)).flatMap sCell := by
            rw [tk (by rw [nks_length]; exact hi'), List.flatMap_append]
            simp only [nks, List.getElem_map]
            rfl
          rw [e] at hB7
          have el : ((nks ps).take (i + 1)).length = ((nks ps).take i).length + 1 := by rw [hil, List.length_take, nks_length]; omega
          rw [StB, el]; exact hB7
        have hv7' : ∀ j, vid v' = some j → H6.length ≤ j := fun j hj => by
          rcases hv7 j hj with h | h
          · exact h
          · cases h.1
        have hO7 : Ob H7 H1.length 97 [vl, vn, .slice none 0 0] := (hO3'.keep hX56).ext hX7 hvn1
        refine AG_sel (σ := [(12, false)]) TT_ok [10, 11] _ (by simp only [go_sem, anil_ptr, f97 _ 1 (by decide)] <;> rfl) ?_
        refine AG_store TT_ok rfl TT_30 rfl (by simp only [go_sem] <;> rfl) (by simp only [go_sem] <;> rfl) hB7'.sl.one.lay rfl hO7 (by simp) (.inl (by have := hX1.size; omega)) rfl fun H8 hX8 hO8 hL8 => ?_
        refine AG_nil ?_
        refine AC_quiet TT_ok (by simp only [go_sem, g15, k5] <;> rfl) ?_
        have s4 := hX4.size
        have s5 := hX56.size
        have s7 := hX7.size
        have s1 := hX1.size
        refine ⟨ps.length - (i + 1), by omega, i + 1, v', rfl, by omega, hO8, Buf.ext hB7' hX8 (fun j hj h => ?_), fun j hj => ?_, ?_, by omega, by simp only [go_sem, g0], by simp only [go_sem, g4], by simp only [go_sem, g13], by simp only [go_sem, g14], by simp only [go_sem]⟩
        · have := hv7' j hj; omega
        · have := hv7' j hj; omega
        · refine ⟨by have := hX3.size; omega, fun j hj _ => ?_⟩
          have h3 := hX3.size
          rw [hX8.obj j (by omega) (by omega), hX7.obj j (by omega) (fun h => by have := hv3 j h; omega), hX56.obj j (by omega) id, hX4.obj j (by omega) id, hX3.obj j hj id]
      · refine AC_f (by simp only [go_sem] <;> rfl) (ge_dec (by omega)) ?_
        refine AC_exit ⟨vn, hO3, ?_, hv3, hX3, by simp only [go_sem, g0], by simp only [go_sem, g4]⟩
        rwa [List.take_of_length_le (by rw [nks_length]; omega)] at hN3
    have hS3 := hS.keep hX3
    have s1 := hX1.size
    have s3 := hX3.size
    have hvl : ∀ j, vid vl = some j → j < H.length := fun j hj => hS.vid_lt hj
    have hB3 : BS H3 H1.length vl vn (.slice none 0 0) ps [] := ⟨hO3, hS3, hN3.sl, Buf.nil _ _, fun j hj => (by cases hj), fun h => by have := hvl _ h; omega, fun h => by have := hv3 _ h; omega⟩
    refine AC_cut (fun e' H' => ∃ vt, BS H' H1.length vl vn vt ps (build ps) ∧ (∀ j, vid vt = some j → H.length ≤ j) ∧ get e' 4 = .pointer (some ⟨H1.length, 0, none⟩)) ?_ (fun e5 H5 _ ⟨vt, hB5, hv5, g5⟩ => ?_)
    · refine AC_seqQ TT_ok (by simp only [go_sem, g0, hS3.alen] <;> rfl) ?_
      by_cases hz : ps = []
      · refine AC_f (by simp only [go_sem] <;> rfl) (decide_eq_false (by rw [hz]; simp)) ?_
        refine AC_skip ⟨.slice none 0 0, ?_, fun j hj => (by cases hj), by simp only [go_sem, g4]⟩
        rw [build, if_pos hz]; exact hB3
      · have hpos := List.length_pos_iff.2 hz
        refine AC_t (by simp only [go_sem] <;> rfl) (decide_eq_true (by omega)) ?_
        refine AC_regL ?_
        refine AQ_take TT_ok 3 rfl (by simp only [go_sem, g0, g4, hS3.alen] <;> rfl) ?_
        have hb17 : build ps = bld 17 (sx ps) 0 := by rw [build, if_neg hz]
        have hlen := build_len ps
        rw [hb17] at hlen
        refine AQ_c rfl (by simp only [go_sem] <;> rfl) fok63 (by simp only [List.map_cons, List.map_nil, List.append_nil, go_sem] <;> rfl) (all63 17 H3 H1.length vl vn (.slice none 0 0) ps [] 0 ps.length 0 hB3 (Seg.all hm hz) (by rw [sg_all]; exact Fu.all hm) (by rw [sg_all]; simp; omega) (by omega) (fun p hp => by have := (hm.1 p hp).2.1; omega)) (fun j _ hj => ?_) (.inl rfl) fun v H6 hX6 ⟨hv, vt6, hB6, hv6⟩ => ?_
        · rcases hj with rfl | hj
          · exact .inl s1
          · cases hj
        refine AQ_nil ⟨vt6, ?_, fun j hj => Nat.le_trans s3 (hv6 j hj), by simp only [go_sem, g4]⟩
        rw [hb17, ← sg_all]
        simpa using hB6
    · refine AC_seqQ TT_ok (by simp only [go_sem, g5, anil_ptr, f97 _ 2 (by decide), hB5.ob.load, ap3_2 _ _ _ 24 rfl] <;> rfl) ?_
      refine AC_ret ⟨.inl rfl, _, rfl, vt, ?_, ?_, hv5⟩
      · simp only [go_sem]; rw [hd]
      · rw [if_pos hm]; exact hB5.t
  · have hd : decide (May ps) = false := decide_eq_false hm
    refine AC_t h9 (by rw [hd]; rfl) ?_
    refine AC_seqQ TT_ok (by simp only [go_sem] <;> rfl) ?_
    refine AC_ret ⟨.inl rfl, _, rfl, .slice none 0 0, ?_, ?_, fun j hj => by cases hj⟩
    · simp only [go_sem]; rw [hd]
    · rw [if_neg hm]; exact Buf.nil _ _
end Go.Proofs.Ythalogdopkoidaa.Ab
set_option linter.unusedVariables false
set_option linter.unusedSimpArgs false
namespace Go.Proofs.Ythalogdopkoidaa.Ab
open Go Go.RowKit
def PrB (H : AHeap) (v : Value) (l : List Pr) : Prop := Buf H v 52 l.length (l.flatMap Pr.cells)
theorem PrB.sl {H : AHeap} {v : Value} {l : List Pr} (h : PrB H v l) : PrS H v l := Buf.sl h
theorem bp52 (k v : List UInt8) : abuild TT 52 [(0, S k), (1, S v)] = some (Pr.mk k v).val := rfl
theorem f106 (i f : Nat) (h : f < 4) : afield TT 106 (.pointer (some ⟨i, 0, none⟩)) f = some (.pointer (some ⟨i, f, none⟩)) := by
  rcases f with _ | _ | _ | _ | f <;> first | rfl | omega
theorem ap4_0 (a b c d : Value) (t : Nat) (ht : (TT t).map (fun i => (i.d.isAgg, i.size)) = some (false, 1)) : apart TT t [a, b, c, d] 0 = some a := by
  obtain ⟨ti, h1, h2⟩ := Option.map_eq_some_iff.1 ht
  simp only [Prod.mk.injEq] at h2
  unfold apart; rw [h1]; dsimp only; rw [h2.1]; rfl
theorem ap4_1 (a b c d : Value) (t : Nat) (ht : (TT t).map (fun i => (i.d.isAgg, i.size)) = some (false, 1)) : apart TT t [a, b, c, d] 1 = some b := by
  obtain ⟨ti, h1, h2⟩ := Option.map_eq_some_iff.1 ht
  simp only [Prod.mk.injEq] at h2
  unfold apart; rw [h1]; dsimp only; rw [h2.1]; rfl
theorem ap4_2 (a b c d : Value) (t : Nat) (ht : (TT t).map (fun i => (i.d.isAgg, i.size)) = some (false, 1)) : apart TT t [a, b, c, d] 2 = some c := by
  obtain ⟨ti, h1, h2⟩ := Option.map_eq_some_iff.1 ht
  simp only [Prod.mk.injEq] at h2
  unfold apart; rw [h1]; dsimp only; rw [h2.1]; rfl
theorem ap4_3 (a b c d : Value) (t : Nat) (ht : (TT t).map (fun i => (i.d.isAgg, i.size)) = some (false, 1)) : apart TT t [a, b, c, d] 3 = some d := by
  obtain ⟨ti, h1, h2⟩ := Option.map_eq_some_iff.1 ht
  simp only [Prod.mk.injEq] at h2
  unfold apart; rw [h1]; dsimp only; rw [h2.1]; rfl
/-- A walker in memory. -/
structure WS (H : AHeap) (wi : Nat) (vt vl vp : Value) (t : List Nd) (w : W) : Prop where
  ob : Ob H wi 106 [vt, .int .i64 (w.next : Nat), vl, vp]
  t : NdS H vt t
  l : PrB H vl w.l
  p : StB H vp w.paths
  tw : vid vt ≠ some wi
  ld : ∀ j, vid vl = some j → j ≠ wi ∧ vid vt ≠ some j
  pd : ∀ j, vid vp = some j → j ≠ wi ∧ vid vt ≠ some j ∧ vid vl ≠ some j
theorem WS.keep {H H' : AHeap} {wi : Nat} {vt vl vp : Value} {t : List Nd} {w : W} (h : WS H wi vt vl vp t w) (hX : AExt (fun _ => False) H H') : WS H' wi vt vl vp t w :=
  ⟨h.ob.keep hX, h.t.keep hX, Buf.keep h.l hX, Buf.keep h.p hX, h.tw, h.ld, h.pd⟩
/-- Behind an append to the pairs and its store. -/
theorem WS.appL {H H1 H2 : AHeap} {wi : Nat} {vt vl vl1 vp : Value} {t : List Nd} {w : W} {l1 : List Pr} (h : WS H wi vt vl vp t w) (hX : AExt (fun j => vid vl = some j) H H1) (hT : PrB H1 vl1 l1) (hv : ∀ j, vid vl1 = some j → H.length ≤ j) (hY : AExt (fun j => j = wi) H1 H2) (hO : Ob H2 wi 106 [vt, .int .i64 (w.next : Nat), vl1, vp]) : WS H2 wi vt vl1 vp t { w with l := l1 } := by
  have hl := h.ob.lt
  refine ⟨hO, (h.t.ext hX fun i _ hi hm => (h.ld i hm).2 hi).ext hY fun i _ hi hm => h.tw (by rw [hi, hm]), Buf.ext hT hY fun i hi hm => ?_, (Buf.ext h.p hX fun i hi hm => (h.pd i hi).2.2 hm) |>.ext hY fun i hi hm => (h.pd i hi).1 hm, h.tw, fun j hj => ⟨?_, fun hh => ?_⟩, fun j hj => ⟨(h.pd j hj).1, (h.pd j hj).2.1, fun hh => ?_⟩⟩
  · have := hv i hi; omega
  · have := hv j hj; omega
  · have := h.t.vid_lt hh; have := hv j hj; omega
  · have := Sl.vid_lt h.p.sl hj; have := hv j hh; omega
theorem c88 {H : AHeap} {wi : Nat} {vt vl vp : Value} {t : List Nd} {w : W} {n v : List UInt8} (hW : WS H wi vt vl vp t w) (hn : n.length < 2^40) (hl : w.l.length < 2^30) :
    ACalls Try.prog 88 [.pointer (some ⟨wi, 0, none⟩), S n, S v] H (fun i => i = wi ∨ vid vl = some i) fun r H' => r = .bool (keyOf n).isSome ∧
      ∃ vl', WS H' wi vt vl' vp t { w with l := w.l ++ [⟨(keyOf n).getD [], v⟩] } ∧ ∀ j, vid vl' = some j → H.length ≤ j := by
  refine ACalls_by 27 TT_ok Try.func88 rfl rfl rfl (by simp) ?_
  refine AC_seqQ TT_ok (by simp only [go_sem] <;> rfl) ?_
  refine AC_seq ?_
  refine AC_regL ?_
  refine AQ_take TT_ok 1 rfl (by simp only [go_sem] <;> rfl) ?_
  refine AQ_c rfl (by simp only [go_sem] <;> rfl) fok93 (by simp only [List.map_cons, List.map_nil, List.append_nil, go_sem] <;> rfl) (c93 (a := n) hn) (fun _ _ h => h.elim) (.inl rfl) fun r H1 hX1 hr => ?_
  subst hr
  refine AQ_all TT_ok rfl (by simp only [go_sem] <;> rfl) ?_
  have hW1 := hW.keep hX1
  refine AC_seq ?_
  refine AC_regL ?_
  refine AQ_take TT_ok 8 rfl (by simp only [go_sem, anil_ptr, f106 _ 2 (by decide), hW1.ob.load, ap4_2 _ _ _ _ 22 rfl, List.map_cons, List.map_nil, bp52] <;> rfl) ?_
  refine AQ_lit TT_ok [(Pr.mk ((keyOf n).getD []) v).val] TT_22 rfl TT_52 rfl (by decide) rfl (by decide) rfl (by simp only [List.map_cons, List.map_nil, go_sem, numbered]) (fun u hu => ?_) fun H2 hX2 hO2 hL2 => ?_
  · rw [List.mem_singleton] at hu; subst hu; exact ⟨_, Lay.pr _, rfl⟩
  have hW2 := hW1.keep hX2
  have s1 := hX1.size
  refine AQ_append TT_ok (v := vl) (n := w.l.length) (m := 1) TT_22 rfl TT_52 (by decide) (by decide) rfl (by simp only [go_sem]) (by simp only [go_sem]) hW2.l hO2.sl (rows_length Pr.len _) rfl (by simp; omega) (fun j hj => .inr (.inr hj)) (.inl rfl) fun vl' H3 hX3 hB3 hv3 => ?_
  have hB3' : PrB H3 vl' (w.l ++ [⟨(keyOf n).getD [], v⟩]) := by
    have e : w.l.flatMap Pr.cells ++ ([(Pr.mk ((keyOf n).getD []) v).val] : List Value).flatMap (fun v => v.cells.toList) = (w.l ++ [Pr.mk ((keyOf n).getD []) v]).flatMap Pr.cells := by
      rw [List.flatMap_append]; rfl
    rw [e] at hB3
    rw [PrB, List.length_append]; exact hB3
  have hv3' : ∀ j, vid vl' = some j → H2.length ≤ j := fun j hj => by
    rcases hv3 j hj with h | h
    · exact h
    · cases h.1
  refine AQ_take TT_ok 2 rfl (by simp only [go_sem, anil_ptr, f106 _ 2 (by decide)] <;> rfl) ?_
  refine AQ_store TT_ok TT_22 rfl (by simp only [go_sem] <;> rfl) (by simp only [go_sem] <;> rfl) hB3'.sl.one.lay rfl (hW2.ob.ext hX3 (fun h => (hW.ld _ h).1 rfl)) (by simp) (.inr (.inl rfl)) (.inl rfl) fun H4 hX4 hO4 hL4 => ?_
  refine AQ_nil ?_
  refine AC_seqQ TT_ok (by simp only [go_sem] <;> rfl) ?_
  refine AC_ret ⟨.inl rfl, _, rfl, by simp only [go_sem], vl', hW2.appL hX3 hB3' hv3' hX4 hO4, fun j hj => ?_⟩
  have := hv3' j hj
  omega
end Go.Proofs.Ythalogdopkoidaa.Ab
set_option linter.unusedVariables false
set_option linter.unusedSimpArgs false
namespace Go.Proofs.Ythalogdopkoidaa.Ab
open Go Go.RowKit
/-- Not more pairs and paths than nodes met; no more nodes than there are. -/
structure Wok (t : List Nd) (w : W) : Prop where
  l : w.l.length ≤ w.next
  p : w.paths.length ≤ w.next
  n : w.next ≤ t.length
theorem Wok.meet {t : List Nd} {w : W} (h : Wok t w) (hn : w.next < t.length) (n : Nd) (p : List UInt8) : Wok t (wmeet n p w) := by
  have h1 := h.l
  have h2 := h.p
  refine ⟨?_, by simp [wmeet]; omega, hn⟩
  simp only [wmeet]
  split
  · simp; omega
  · omega
theorem wkids_ok {t : List Nd} {wk : Int → List UInt8 → W → Bool × W} (hk : ∀ a p w, Wok t w → Wok t (wk a p w).2) (k : Int) (p : List UInt8) : ∀ (cs : List Int) (i : Nat) (w : W), Wok t w → Wok t (wkids wk k p i cs w).2
  | [], i, w, h => h
  | c :: cs, i, w, h => by
    rw [wkids]
    split
    · exact wkids_ok hk k p cs (i + 1) w h
    · split
      · exact wkids_ok hk k p cs (i + 1) _ (hk _ _ _ h)
      · exact hk _ _ _ h
theorem walk_ok (t : List Nd) : ∀ (f : Nat) (a : Int) (p : List UInt8) (w : W), Wok t w → Wok t (walk t f a p w).2
  | 0, a, p, w, h => h
  | f + 1, a, p, w, h => by
    rw [walk]
    split
    · rename_i hc
      split
      · exact h.meet hc.2.1 _ _
      · exact wkids_ok (walk_ok t f) _ _ _ _ _ (h.meet hc.2.1 _ _)
    · exact h
def M81 (wi : Nat) (vl vp : Value) (i : Nat) : Prop := i = wi ∨ vid vl = some i ∨ vid vp = some i
def P81 (f : Nat) : Prop := ∀ (H : AHeap) (wi : Nat) (vt vl vp : Value) (t : List Nd) (w : W) (a : Int) (p : List UInt8), WS H wi vt vl vp t w → Wok t w → t.length < w.next + f → t.length < 2^30 → p.length < 2^31 → (∀ n ∈ t, n.path.length < 2^30) →
  ACalls Try.prog 81 [.pointer (some ⟨wi, 0, none⟩), .int .i64 a, S p] H (M81 wi vl vp) fun r H' => r = .bool (walk t f a p w).1 ∧
    ∃ vl' vp', WS H' wi vt vl' vp' t (walk t f a p w).2 ∧ (∀ j, vid vl' = some j → H.length ≤ j ∨ vl' = vl) ∧ (∀ j, vid vp' = some j → H.length ≤ j ∨ vp' = vp)
/-- Behind an append to the paths and its store. -/
theorem WS.appP {H H1 H2 : AHeap} {wi : Nat} {vt vl vp vp1 : Value} {t : List Nd} {w : W} {p1 : List (List UInt8)} (h : WS H wi vt vl vp t w) (hX : AExt (fun j => vid vp = some j) H H1) (hT : StB H1 vp1 p1) (hv : ∀ j, vid vp1 = some j → H.length ≤ j) (hY : AExt (fun j => j = wi) H1 H2) (hO : Ob H2 wi 106 [vt, .int .i64 (w.next : Nat), vl, vp1]) : WS H2 wi vt vl vp1 t { w with paths := p1 } := by
  have hl := h.ob.lt
  refine ⟨hO, (h.t.ext hX fun i _ hi hm => (h.pd i hm).2.1 hi).ext hY fun i _ hi hm => h.tw (by rw [hi, hm]), (Buf.ext h.l hX fun i hi hm => (h.pd i hm).2.2 hi) |>.ext hY fun i hi hm => (h.ld i hi).1 hm, Buf.ext hT hY fun i hi hm => ?_, h.tw, h.ld, fun j hj => ⟨?_, fun hh => ?_, fun hh => ?_⟩⟩
  · have := hv i hi; omega
  · have := hv j hj; omega
  · have := h.t.vid_lt hh; have := hv j hj; omega
  · have := Sl.vid_lt h.l.sl hh; have := hv j hj; omega
theorem Nd.ap0 (n : Nd) : apart TT 3 n.cells 0 = some (.int .i64 n.kind) := rfl
theorem Nd.ap1 (n : Nd) : apart TT 9 n.cells 1 = some (S n.path) := rfl
theorem Nd.ap2 (n : Nd) : apart TT 4 n.cells 2 = some (.bool n.has) := rfl
theorem Nd.ap3 (n : Nd) : apart TT 9 n.cells 3 = some (S n.value) := rfl
theorem Nd.ap4 (n : Nd) : apart TT 47 n.cells 4 = some (.agg (n.kids.toList.map (Value.int .i64)).toArray) := by
  have e : (n.kids.toList.map (Value.int .i64)).take 16 = n.kids.toList.map (Value.int .i64) := List.take_of_length_le (by simp)
  simp [apart, TT_47, TD.isAgg, Nd.cells, e]
theorem kids_at (k : Vector Int 16) (i : Nat) (hi : i < 16) : aget TT 47 (.agg (k.toList.map (Value.int .i64)).toArray) (.int .i64 (i : Int)) = some (.int .i64 k[i]) := by
  simp only [aget, TT_47, TT_3]
  rw [if_pos (by omega)]
  simp [apart, TT_3, TD.isAgg, hi]
theorem byte_at (i : Nat) (hi : i < 16) (H : AHeap) : aconv TT H 3 5 (.int .i64 (i : Int)) = some (U (UInt8.ofNat i)) := by
  simp only [aconv, TT_3, TT_5, U]
  have : IntKind.u8.wrap (i : Int) = ((UInt8.ofNat i).toNat : Int) := by
    simp [IntKind.wrap, IntKind.signed, IntKind.bits, Nat.mod_eq_of_lt (show i < 256 by omega)]
    omega
  rw [this]
theorem walk_no {t : List Nd} {f : Nat} {a : Int} {p : List UInt8} {w : W} (h : ¬ (a = (w.next : Int) ∧ w.next < t.length ∧ p.length ≤ 16)) : walk t f a p w = (false, w) := by
  cases f with
  | zero => rfl
  | succ f => rw [walk, dif_neg h]
set_option maxHeartbeats 2000000 in
theorem c81 {f : Nat} (ih : ∀ g, g < f → P81 g) : P81 f := by
  intro H wi vt vl vp t w a p hW hok hf ht hp hn
  have hle := hok.n
  refine ACalls_by 95 TT_ok Try.func81 rfl rfl rfl (by simp) ?_
  refine AC_seqQ TT_ok (by simp only [go_sem] <;> rfl) ?_
  refine AC_seq ?_
  refine AC_cut (fun e' H' => H' = H ∧ get e' 0 = .pointer (some ⟨wi, 0, none⟩) ∧ get e' 1 = .int .i64 a ∧ get e' 2 = S p ∧ get e' 30 = .bool (!decide (a = (w.next : Int) ∧ w.next < t.length ∧ p.length ≤ 16))) ?_ (fun e1 H1 _ ⟨hH, h0, h1, h2, h30⟩ => ?_)
  · by_cases c1 : a = (w.next : Int)
    · have d1 : (!decide (a = (w.next : Int))) = false := nd_false c1
      by_cases c2 : w.next < t.length
      · have d2 : decide ((t.length : Int) ≤ a) = false := decide_eq_false (by omega)
        by_cases c3 : p.length ≤ 16
        · have d3 : decide ((16 : Int) < (p.length : Int)) = false := decide_eq_false (by omega)
          refine AC_quiet TT_ok (by simp only [go_sem, anil_ptr, f106 _ 1 (by decide), f106 _ 0 (by decide), hW.ob.load, ap4_1 _ _ _ _ 3 rfl, ap4_0 _ _ _ _ 24 rfl, hW.t.alen, d1, d2, d3] <;> rfl) ?_
          refine ⟨rfl, by simp only [go_sem], by simp only [go_sem], by simp only [go_sem], ?_⟩
          rw [nd_false ⟨c1, c2, c3⟩]; simp only [go_sem]
        · have d3 : decide ((16 : Int) < (p.length : Int)) = true := decide_eq_true (by omega)
          refine AC_quiet TT_ok (by simp only [go_sem, anil_ptr, f106 _ 1 (by decide), f106 _ 0 (by decide), hW.ob.load, ap4_1 _ _ _ _ 3 rfl, ap4_0 _ _ _ _ 24 rfl, hW.t.alen, d1, d2, d3] <;> rfl) ?_
          refine ⟨rfl, by simp only [go_sem], by simp only [go_sem], by simp only [go_sem], ?_⟩
          rw [nd_true (fun h => c3 h.2.2)]; simp only [go_sem]
      · have d2 : decide ((t.length : Int) ≤ a) = true := decide_eq_true (by omega)
        refine AC_quiet TT_ok (by simp only [go_sem, anil_ptr, f106 _ 1 (by decide), f106 _ 0 (by decide), hW.ob.load, ap4_1 _ _ _ _ 3 rfl, ap4_0 _ _ _ _ 24 rfl, hW.t.alen, d1, d2] <;> rfl) ?_
        refine ⟨rfl, by simp only [go_sem], by simp only [go_sem], by simp only [go_sem], ?_⟩
        rw [nd_true (fun h => c2 h.2.1)]; simp only [go_sem]
    · have d1 : (!decide (a = (w.next : Int))) = true := nd_true c1
      refine AC_quiet TT_ok (by simp only [go_sem, anil_ptr, f106 _ 1 (by decide), hW.ob.load, ap4_1 _ _ _ _ 3 rfl, d1] <;> rfl) ?_
      refine ⟨rfl, by simp only [go_sem], by simp only [go_sem], by simp only [go_sem], ?_⟩
      rw [nd_true (fun h => c1 h.1)]; simp only [go_sem]
  subst hH
  by_cases hC : a = (w.next : Int) ∧ w.next < t.length ∧ p.length ≤ 16
  · refine AC_f h30 (nd_false hC) (AC_skip ?_)
    obtain ⟨hC1, hC2, hC3⟩ := hC
    obtain ⟨g, rfl⟩ : ∃ g, f = g + 1 := ⟨f - 1, by omega⟩
    have wn := wrapN w.next (by omega)
    -- the next one's number
    refine AC_seq ?_
    refine AC_regL ?_
    refine AQ_take TT_ok 7 rfl (by simp only [go_sem, h0, anil_ptr, f106 _ 1 (by decide), hW.ob.load, ap4_1 _ _ _ _ 3 rfl, wn] <;> rfl) ?_
    refine AQ_store TT_ok TT_3 rfl (by simp only [go_sem] <;> rfl) (by simp only [go_sem] <;> rfl) (One.int _ _).lay rfl hW.ob (by simp) (.inr (.inl rfl)) (.inl rfl) fun H2 hX2 hO2 hL2 => ?_
    refine AQ_nil ?_
    have hO2' : Ob H2 wi 106 [vt, .int .i64 ((w.next + 1 : Nat) : Int), vl, vp] := hO2
    have hW2 : WS H2 wi vt vl vp t { w with next := w.next + 1 } := ⟨hO2', hW.t.ext hX2 (fun i _ hi h => hW.tw (by rw [hi, h])), Buf.ext hW.l hX2 (fun i hi h => (hW.ld i hi).1 h), Buf.ext hW.p hX2 (fun i hi h => (hW.pd i hi).1 h), hW.tw, hW.ld, hW.pd⟩
    -- its path
    refine AC_seq ?_
    refine AC_regL ?_
    refine AQ_take TT_ok 6 rfl (by simp only [go_sem, h0, h2, anil_ptr, f106 _ 3 (by decide), hW2.ob.load, ap4_3 _ _ _ _ 30 rfl] <;> rfl) ?_
    refine AQ_lit TT_ok [S p] TT_30 rfl TT_9 rfl (by decide) rfl (by decide) rfl (by simp only [List.map_cons, List.map_nil, go_sem, numbered]) (fun u hu => ?_) fun H3 hX3 hO3 hL3 => ?_
    · rw [List.mem_singleton] at hu; subst hu; exact ⟨_, (One.str _).lay, rfl⟩
    have hW3 := hW2.keep hX3
    have hpl := hok.p
    refine AQ_append TT_ok (v := vp) (n := w.paths.length) (m := 1) TT_30 rfl TT_9 (by decide) (by decide) rfl (by simp only [go_sem]) (by simp only [go_sem]) hW3.p hO3.sl (rows_length sCell_len _) rfl (by simp; omega) (fun j hj => .inr (.inr (.inr hj))) (.inl rfl) fun vp' H4 hX4 hB4 hv4 => ?_
    have hB4' : StB H4 vp' (w.paths ++ [p]) := by
      have e : w.paths.flatMap sCell ++ ([S p] : List Value).flatMap (fun v => v.cells.toList) = (w.paths ++ [p]).flatMap sCell := by
        rw [List.flatMap_append]; rfl
      simp only [] at hB4
      rw [e] at hB4
      rw [StB, List.length_append]; exact hB4
    have hv4' : ∀ j, vid vp' = some j → H3.length ≤ j := fun j hj => by
      rcases hv4 j hj with h | h
      · exact h
      · cases h.1
    refine AQ_take TT_ok 2 rfl (by simp only [go_sem, anil_ptr, f106 _ 3 (by decide)] <;> rfl) ?_
    refine AQ_store TT_ok TT_30 rfl (by simp only [go_sem] <;> rfl) (by simp only [go_sem] <;> rfl) hB4'.sl.one.lay rfl (hW3.ob.ext hX4 (fun h => (hW.pd _ h).1 rfl)) (by simp) (.inr (.inl rfl)) (.inl rfl) fun H5 hX5 hO5 hL5 => ?_
    refine AQ_nil ?_
    have hW5 := hW3.appP hX4 hB4' hv4' hX5 hO5
    have s3 := hX3.size
    have s4 := hX4.size
    -- the node
    have ix := hW5.t.index (k := .i64) (j := a) (by omega) (by omega)
    have hat : a.toNat = w.next := by omega
    rw [hat] at ix
    have ld := hW5.t.load hC2
    refine AC_seq ?_
    refine AC_regL ?_
    refine AQ_take TT_ok 7 rfl (by simp only [go_sem, h0, h1, anil_ptr, f106 _ 0 (by decide), hW5.ob.load, ap4_0 _ _ _ _ 24 rfl, ix, ld] <;> rfl) ?_
    refine AQ_var TT_ok TT_49 rfl (by decide) (by simp only [go_sem] <;> rfl) (Lay.nd _) (Nd.len _) (.inl (by omega)) (.inl rfl) fun H6 hX6 hO6 hL6 => ?_
    refine AQ_nil ?_
    have hW6 := hW5.keep hX6
    generalize hnd : t[w.next] = nd at hO6 ld
    have hndp : nd.path.length < 2^30 := hn nd (by rw [← hnd]; exact List.getElem_mem _)
    refine AC_seqQ TT_ok (by simp only [go_sem, h2, f49p _ 1 1 rfl, hO6.load, Nd.ap1, as_add 9 p nd.path (by omega)] <;> rfl) ?_
    -- its pair
    have s6 := hX6.size
    refine AC_seq ?_
    refine AC_cut (fun e' H' => ∃ vl', WS H' wi vt vl' vp' t (wmeet nd p w) ∧ (∀ j, vid vl' = some j → H5.length < j ∨ vl' = vl) ∧ Ob H' H5.length 49 nd.cells ∧ H5.length < H'.length ∧ get e' 0 = .pointer (some ⟨wi, 0, none⟩) ∧ get e' 2 = S (p ++ nd.path) ∧ get e' 7 = .pointer (some ⟨H5.length, 0, none⟩) ∧ get e' 68 = .bool (decide (nd.has = true ∧ keyOf (p ++ nd.path) = none))) ?_ (fun E7 H7 _ ⟨vl7, hW7, hv7, hO7, hl7, g0, g2, g7, g68⟩ => ?_)
    · refine AC_regL ?_
      cases hhas : nd.has with
      | false =>
        refine AQ_take TT_ok 7 rfl (by simp only [go_sem, f49p _ 2 2 rfl, hO6.load, Nd.ap2, hhas] <;> rfl) ?_
        refine AQ_pass rfl ?_
        refine AQ_all TT_ok rfl (by simp only [go_sem] <;> rfl) ?_
        refine ⟨vl, ?_, fun j _ => .inr rfl, hO6, by omega, by simp only [go_sem, h0], by simp only [go_sem], by simp only [go_sem], by simp only [go_sem] <;> simp⟩
        rw [wmeet, hhas]
        exact hW6
      | true =>
        refine AQ_take TT_ok 7 rfl (by simp only [go_sem, f49p _ 2 2 rfl, f49p _ 3 3 rfl, hO6.load, Nd.ap2, Nd.ap3, hhas, h0] <;> rfl) ?_
        refine AQ_c rfl (by simp only [go_sem] <;> rfl) fok88 (by simp only [List.map_cons, List.map_nil, List.append_nil, go_sem] <;> rfl) (c88 (n := p ++ nd.path) (v := nd.value) hW6 (by simp; omega) (by have := hok.l; dsimp only; omega)) (fun j hj hm => ?_) (.inl rfl) fun r H8 hX8 ⟨hr, vl8, hW8, hv8⟩ => ?_
        · rcases hm with rfl | hm
          · exact .inr (.inl rfl)
          · exact .inr (.inr (.inl hm))
        subst hr
        refine AQ_all TT_ok rfl (by simp only [go_sem] <;> rfl) ?_
        refine ⟨vl8, ?_, fun j hj => .inl ?_, ?_, ?_, by simp only [go_sem, h0], by simp only [go_sem], by simp only [go_sem], ?_⟩
        · rw [wmeet, hhas]; exact hW8
        · have := hv8 j hj; omega
        · refine hO6.ext hX8 ?_
          rintro (h | h)
          · have := hW5.ob.lt; omega
          · have := Sl.vid_lt hW5.l.sl h; omega
        · have := hX8.size; omega
        · simp only [go_sem]
          cases keyOf (p ++ nd.path) <;> simp
    by_cases hbad : nd.has = true ∧ keyOf (p ++ nd.path) = none
    · refine AC_t g68 (decide_eq_true hbad) ?_
      refine AC_seqQ TT_ok (by simp only [go_sem] <;> rfl) ?_
      have hw : walk t (g + 1) a p w = (false, wmeet nd p w) := by
        rw [walk, dif_pos ⟨hC1, hC2, hC3⟩, hnd, if_pos hbad]
      rw [hw]
      refine AC_ret ⟨.inl rfl, _, rfl, by simp only [go_sem], vl7, vp', hW7, fun j hj => (hv7 j hj).imp (fun h => by omega) id, fun j hj => .inl ?_⟩
      have := hv4' j hj; omega
    · refine AC_f g68 (decide_eq_false hbad) (AC_skip ?_)
      have hw : walk t (g + 1) a p w = wkids (walk t g) nd.kind (p ++ nd.path) 0 nd.kids.toList (wmeet nd p w) := by
        rw [walk, dif_pos ⟨hC1, hC2, hC3⟩, hnd, if_neg hbad]
      rw [hw]
      have hok1 : Wok t (wmeet nd p w) := hok.meet hC2 _ _
      refine AC_cut (fun e' H' => ∃ w' vl' vp'', wkids (walk t g) nd.kind (p ++ nd.path) 0 nd.kids.toList (wmeet nd p w) = (true, w') ∧ WS H' wi vt vl' vp'' t w' ∧ (∀ j, vid vl' = some j → H1.length ≤ j ∨ vl' = vl) ∧ (∀ j, vid vp'' = some j → H1.length ≤ j ∨ vp'' = vp)) ?_ (fun E9 H9 _ ⟨w9, vl9, vp9, hw9, hW9, hv9, hq9⟩ => ?_)
      rotate_left
      · refine AC_seqQ TT_ok (by simp only [go_sem] <;> rfl) ?_
        rw [hw9]
        exact AC_ret ⟨.inl rfl, _, rfl, by simp only [go_sem], vl9, vp9, hW9, hv9, hq9⟩
      refine AC_seqQ TT_ok (by simp only [go_sem, g7, f49p _ 4 4 rfl, hO7.load, Nd.ap4] <;> rfl) ?_
      refine AC_block (AC_loop (fun n e' H' => ∃ (i : Nat) (w' : W) (vl' vp'' : Value), n = 16 - i ∧ i ≤ 16 ∧ WS H' wi vt vl' vp'' t w' ∧ Wok t w' ∧ w.next + 1 ≤ w'.next ∧ (∀ j, vid vl' = some j → (H1.length ≤ j ∧ j ≠ H5.length) ∨ vl' = vl) ∧ (∀ j, vid vp'' = some j → (H1.length ≤ j ∧ j ≠ H5.length)) ∧ Ob H' H5.length 49 nd.cells ∧ H5.length < H'.length ∧
        wkids (walk t g) nd.kind (p ++ nd.path) 0 nd.kids.toList (wmeet nd p w) = wkids (walk t g) nd.kind (p ++ nd.path) i (nd.kids.toList.drop i) w' ∧
        get e' 0 = .pointer (some ⟨wi, 0, none⟩) ∧ get e' 2 = S (p ++ nd.path) ∧ get e' 7 = .pointer (some ⟨H5.length, 0, none⟩) ∧ get e' 70 = .agg (nd.kids.toList.map (Value.int .i64)).toArray ∧ get e' 71 = .int .i64 (i : Nat)) 16
        ⟨0, wmeet nd p w, vl7, vp', rfl, by omega, hW7, hok1, Nat.le_refl _, ?_, ?_, hO7, hl7, rfl, by simp only [go_sem, g0], by simp only [go_sem, g2], by simp only [go_sem, g7], by simp only [go_sem], by simp only [go_sem] <;> simp⟩ ?_)
      · intro j hj
        rcases hv7 j hj with h | h
        · exact .inl ⟨by omega, by omega⟩
        · exact .inr h
      · intro j hj
        have h1 := hv4' j hj
        have h2 : j < H5.length := by have := Sl.vid_lt hB4'.sl hj; omega
        exact ⟨by omega, by omega⟩
      rintro n8 E H8 _ ⟨i, w8, vl8, vp8, hn8, hi8, hW8, hok8, hnx8, hv8, hq8, hO8, hl8, heq8, k0, k2, k7, k70, k71⟩
      refine AC_seqQ TT_ok (by simp only [go_sem, k71] <;> rfl) ?_
      refine AC_seq ?_
      by_cases hi' : i < 16
      · refine AC_t (by simp only [go_sem] <;> rfl) (decide_eq_true (by omega)) ?_
        refine AC_skip ?_
        refine AC_seq (AC_block ?_)
        refine AC_seqQ TT_ok (by simp only [go_sem, k70, k71, kids_at nd.kids i hi'] <;> rfl) ?_
        refine AC_seqQ TT_ok (by simp only [go_sem, k2] <;> rfl) ?_
        have hp16 : (p ++ nd.path).length < 2^31 := by rw [List.length_append]; omega
        refine AC_cut (fun e' H' => AExt (fun _ => False) H8 H' ∧ get e' 0 = .pointer (some ⟨wi, 0, none⟩) ∧ get e' 2 = S (p ++ nd.path) ∧ get e' 7 = .pointer (some ⟨H5.length, 0, none⟩) ∧ get e' 9 = .int .i64 nd.kids[i] ∧ get e' 10 = S (kp nd.kind (p ++ nd.path) i) ∧ get e' 70 = .agg (nd.kids.toList.map (Value.int .i64)).toArray ∧ get e' 71 = .int .i64 (i : Nat)) ?_ (fun E9 H9 _ ⟨hX9, m0, m2, m7, m9, m10, m70, m71⟩ => ?_)
        · refine AC_seqQ TT_ok (by simp only [go_sem, k7, f49p _ 0 0 rfl, hO8.load, Nd.ap0] <;> rfl) ?_
          by_cases hk3 : nd.kind = 3
          · refine AC_t (by simp only [go_sem] <;> rfl) (decide_eq_true hk3) ?_
            refine AC_regL ?_
            refine AQ_take TT_ok 3 rfl (by simp only [go_sem, k71, byte_at i hi'] <;> rfl) ?_
            refine AQ_lit TT_ok [U (UInt8.ofNat i)] TT_50 rfl TT_5 rfl (by decide) rfl (by decide) rfl (by simp only [List.map_cons, List.map_nil, go_sem, numbered]) (fun u hu => ?_) fun Ha hXa hOa hLa => ?_
            · rw [List.mem_singleton] at hu; subst hu; exact ⟨_, (One.byte _).lay, rfl⟩
            have hby : ByS Ha (.slice (some ⟨H8.length, 0, none⟩) 1 1) [UInt8.ofNat i] := hOa.sl
            refine AQ_all TT_ok rfl (by simp only [go_sem, hby.conv, as_add 9 (p ++ nd.path) [UInt8.ofNat i] (by simp at hp16 ⊢; omega)] <;> rfl) ?_
            refine ⟨hXa, by simp only [go_sem, k0], by simp only [go_sem, k2], by simp only [go_sem, k7], by simp only [go_sem], ?_, by simp only [go_sem, k70], by simp only [go_sem, k71]⟩
            rw [kp, if_pos hk3]; simp only [go_sem]
          · refine AC_f (by simp only [go_sem] <;> rfl) (decide_eq_false hk3) ?_
            refine AC_skip ⟨AExt.refl _ _, by simp only [go_sem, k0], by simp only [go_sem, k2], by simp only [go_sem, k7], by simp only [go_sem], ?_, by simp only [go_sem, k70], by simp only [go_sem, k71]⟩
            rw [kp, if_neg hk3, List.append_nil]; simp only [go_sem]
        have hW9 := hW8.keep hX9
        have hO9 := hO8.keep hX9
        have s9 := hX9.size
        have k5 := wrapN i (by omega)
        have hdrop : nd.kids.toList.drop i = nd.kids[i] :: nd.kids.toList.drop (i + 1) := by
          rw [List.drop_eq_getElem_cons (by simpa using hi')]
          simp
        rw [hdrop, wkids] at heq8
        by_cases hk0 : nd.kids[i] = 0
        · have d0 : (!decide (nd.kids[i] = 0)) = false := nd_false hk0
          rw [if_pos hk0] at heq8
          refine AC_cut (fun e' H' => H' = H9 ∧ get e' 0 = .pointer (some ⟨wi, 0, none⟩) ∧ get e' 2 = S (p ++ nd.path) ∧ get e' 7 = .pointer (some ⟨H5.length, 0, none⟩) ∧ get e' 70 = .agg (nd.kids.toList.map (Value.int .i64)).toArray ∧ get e' 71 = .int .i64 (i : Nat) ∧ get e' 93 = .bool false) ?_ (fun Ea Ha _ ⟨hHa, q0, q2, q7, q70, q71, q93⟩ => ?_)
          · refine AC_regL ?_
            refine AQ_take TT_ok 6 rfl (by simp only [go_sem, m9, d0] <;> rfl) ?_
            refine AQ_pass rfl ?_
            refine AQ_all TT_ok rfl (by simp only [go_sem] <;> rfl) ?_
            exact ⟨rfl, by simp only [go_sem, m0], by simp only [go_sem, m2], by simp only [go_sem, m7], by simp only [go_sem, m70], by simp only [go_sem, m71], by simp only [go_sem]⟩
          subst hHa
          refine AC_f q93 rfl (AC_skip ?_)
          refine AC_quiet TT_ok (by simp only [go_sem, q71, k5] <;> rfl) ?_
          exact ⟨16 - (i + 1), by omega, i + 1, w8, vl8, vp8, rfl, by omega, hW9, hok8, hnx8, hv8, hq8, hO9, by omega, heq8, by simp only [go_sem, q0], by simp only [go_sem, q2], by simp only [go_sem, q7], by simp only [go_sem, q70], by simp only [go_sem]⟩
        · have d0 : (!decide (nd.kids[i] = 0)) = true := nd_true hk0
          rw [if_neg hk0] at heq8
          have hkl : (kp nd.kind (p ++ nd.path) i).length < 2^31 := by
            rw [kp, List.length_append, List.length_append]
            split <;> simp <;> omega
          have hok10 := walk_ok t g nd.kids[i] (kp nd.kind (p ++ nd.path) i) w8 hok8
          have hnx10 := walk_next t g nd.kids[i] (kp nd.kind (p ++ nd.path) i) w8
          refine AC_cut (fun e' H' => ∃ vl' vp'', WS H' wi vt vl' vp'' t (walk t g nd.kids[i] (kp nd.kind (p ++ nd.path) i) w8).2 ∧ (∀ j, vid vl' = some j → (H1.length ≤ j ∧ j ≠ H5.length) ∨ vl' = vl) ∧ (∀ j, vid vp'' = some j → (H1.length ≤ j ∧ j ≠ H5.length)) ∧ Ob H' H5.length 49 nd.cells ∧ H5.length < H'.length ∧ get e' 0 = .pointer (some ⟨wi, 0, none⟩) ∧ get e' 2 = S (p ++ nd.path) ∧ get e' 7 = .pointer (some ⟨H5.length, 0, none⟩) ∧ get e' 70 = .agg (nd.kids.toList.map (Value.int .i64)).toArray ∧ get e' 71 = .int .i64 (i : Nat) ∧ get e' 93 = .bool (!(walk t g nd.kids[i] (kp nd.kind (p ++ nd.path) i) w8).1)) ?_ (fun Ea Ha _ ⟨vla, vpa, hWa, hva, hqa, hOa, hla, q0, q2, q7, q70, q71, q93⟩ => ?_)
          · refine AC_regL ?_
            refine AQ_take TT_ok 6 rfl (by simp only [go_sem, m0, m9, m10, d0] <;> rfl) ?_
            refine AQ_c rfl (by simp only [go_sem] <;> rfl) fok81 (by simp only [List.map_cons, List.map_nil, List.append_nil, go_sem] <;> rfl) (ih g (by omega) H9 wi vt vl8 vp8 t w8 nd.kids[i] (kp nd.kind (p ++ nd.path) i) hW9 hok8 (by omega) ht hkl hn) (fun j hj hm => ?_) (.inl rfl) fun r Hb hXb ⟨hr, vlb, vpb, hWb, hvb, hqb⟩ => ?_
            · rcases hm with rfl | hm | hm
              · exact .inr (.inl rfl)
              · rcases hv8 j hm with h | h
                · exact .inl h.1
                · subst h; exact .inr (.inr (.inl hm))
              · exact .inl (hq8 j hm).1
            subst hr
            refine AQ_all TT_ok rfl (by simp only [go_sem] <;> rfl) ?_
            refine ⟨vlb, vpb, hWb, fun j hj => ?_, fun j hj => ?_, hO9.ext hXb ?_, by have := hXb.size; omega, by simp only [go_sem, m0], by simp only [go_sem, m2], by simp only [go_sem, m7], by simp only [go_sem, m70], by simp only [go_sem, m71], by simp only [go_sem]⟩
            · rcases hvb j hj with h | h
              · exact .inl ⟨by omega, by omega⟩
              · subst h; exact hv8 j hj
            · rcases hqb j hj with h | h
              · exact ⟨by omega, by omega⟩
              · subst h; exact hq8 j hj
            · rintro (h | h | h)
              · have := hW5.ob.lt; omega
              · rcases hv8 _ h with h' | h'
                · exact h'.2 rfl
                · subst h'; have := Sl.vid_lt hW.l.sl h; omega
              · exact (hq8 _ h).2 rfl
          cases hres : (walk t g nd.kids[i] (kp nd.kind (p ++ nd.path) i) w8).1 with
          | false =>
            rw [hres] at q93 heq8
            refine AC_t q93 rfl ?_
            refine AC_seqQ TT_ok (by simp only [go_sem] <;> rfl) ?_
            rw [if_neg (by simp)] at heq8
            rw [heq8]
            exact AC_ret ⟨.inl rfl, _, rfl, by simp only [go_sem], vla, vpa, hWa, fun j hj => (hva j hj).imp (fun h => h.1) id, fun j hj => .inl (hqa j hj).1⟩
          | true =>
            rw [hres] at q93 heq8
            refine AC_f q93 rfl (AC_skip ?_)
            refine AC_quiet TT_ok (by simp only [go_sem, q71, k5] <;> rfl) ?_
            rw [if_pos rfl] at heq8
            exact ⟨16 - (i + 1), by omega, i + 1, _, vla, vpa, rfl, by omega, hWa, hok10, by omega, hva, hqa, hOa, hla, heq8, by simp only [go_sem, q0], by simp only [go_sem, q2], by simp only [go_sem, q7], by simp only [go_sem, q70], by simp only [go_sem]⟩
      · refine AC_f (by simp only [go_sem] <;> rfl) (decide_eq_false (by omega)) ?_
        have hi16 : i = 16 := by omega
        subst hi16
        rw [List.drop_eq_nil_of_le (by simp), wkids] at heq8
        exact AC_exit ⟨w8, vl8, vp8, heq8, hW8, fun j hj => (hv8 j hj).imp (fun h => h.1) id, fun j hj => .inl (hq8 j hj).1⟩
  · refine AC_t h30 (nd_true hC) ?_
    refine AC_seqQ TT_ok (by simp only [go_sem] <;> rfl) ?_
    rw [walk_no hC]
    refine AC_ret ⟨.inl rfl, _, rfl, by simp only [go_sem], vl, vp, hW, fun j _ => .inr rfl, fun j _ => .inr rfl⟩
end Go.Proofs.Ythalogdopkoidaa.Ab
set_option linter.unusedVariables false
set_option linter.unusedSimpArgs false
namespace Go.Proofs.Ythalogdopkoidaa.Ab
open Go Go.RowKit
theorem all81 : ∀ f, P81 f := fun f => by
  induction f using Nat.strongRecOn with
  | _ f ih => exact c81 ih
theorem b106 {v : Value} (h : One v) : abuild TT 106 [(0, v)] = some (.agg #[v, .int .i64 0, .slice none 0 0, .slice none 0 0]) := by
  have hs : v.cells.size = 1 := by rw [h.cells]; rfl
  simp only [abuild, TT_106]
  rw [if_pos (by decide)]
  simp only [afill, placeOf]
  simp only [List.getElem?_cons_zero, TT_24, Option.map_some]
  rw [if_pos ⟨h.known, hs, by decide⟩, h.cells]
  rfl
/-- Is it the trie of what was met? -/
def Isw (t : List Nd) : Prop := (walkAll t).1 = true ∧ May (walkAll t).2.l ∧ t = build (walkAll t).2.l
instance (t : List Nd) : Decidable (Isw t) := inferInstanceAs (Decidable (_ ∧ _))
theorem walkAll_ok (t : List Nd) : Wok t (walkAll t).2 := by
  unfold walkAll
  split
  · exact ⟨Nat.le_refl _, Nat.le_refl _, Nat.zero_le _⟩
  · exact walk_ok t _ _ _ _ ⟨Nat.le_refl _, Nat.le_refl _, Nat.zero_le _⟩
set_option maxHeartbeats 1000000 in
theorem c65 {H : AHeap} {vt : Value} {t : List Nd} (hS : NdS H vt t) (ht : t.length < 2^19) (hn : ∀ n ∈ t, n.path.length < 2^30) : ACalls Try.prog 65 [vt] H (fun _ => False) fun v H' =>
    ∃ wi vl vp, v = .tuple #[.pointer (some ⟨wi, 0, none⟩), .bool (decide (Isw t))] ∧ WS H' wi vt vl vp t (walkAll t).2 ∧ (∀ j, vid vl = some j → H.length ≤ j) ∧ (∀ j, vid vp = some j → H.length ≤ j) := by
  refine ACalls_by 34 TT_ok Try.func65 rfl rfl rfl (by simp) ?_
  refine AC_seqQ TT_ok (by simp only [go_sem] <;> rfl) ?_
  refine AC_seq ?_
  refine AC_regL ?_
  refine AQ_take TT_ok 2 rfl (by simp only [go_sem, List.map_cons, List.map_nil, b106 hS.one] <;> rfl) ?_
  have hlay : Lay (.agg #[vt, .int .i64 0, .slice none 0 0, .slice none 0 0]) [vt, .int .i64 0, .slice none 0 0, .slice none 0 0] := Lay.agg (l := [vt, .int .i64 0, .slice none 0 0, .slice none 0 0]) (fun v hv => by
    simp only [List.mem_cons, List.not_mem_nil, or_false] at hv
    rcases hv with rfl | rfl | rfl | rfl
    · exact hS.one
    · exact One.int _ _
    · exact One.slice _ _ _
    · exact One.slice _ _ _)
  refine AQ_box TT_ok TT_106 rfl (by simp only [go_sem] <;> rfl) hlay rfl fun H1 hX1 hO1 hL1 => ?_
  refine AQ_all TT_ok rfl (by simp only [go_sem] <;> rfl) ?_
  have hvt : ∀ j, vid vt = some j → j < H.length := fun j hj => hS.vid_lt hj
  have hW1 : WS H1 H.length vt (.slice none 0 0) (.slice none 0 0) t ⟨0, [], []⟩ := ⟨hO1, hS.keep hX1, Buf.nil _ _, Buf.nil _ _, fun h => by have := hvt _ h; omega, fun j hj => (by cases hj), fun j hj => (by cases hj)⟩
  have hp1 : (.pointer (some ⟨H.length, 0, none⟩) : Value) = .pointer (some ⟨H.length, 0, none⟩) := rfl
  refine AC_cut (fun e' H' => ∃ vl vp, WS H' H.length vt vl vp t (walkAll t).2 ∧ (walkAll t).1 = true ∧ (∀ j, vid vl = some j → H.length ≤ j) ∧ (∀ j, vid vp = some j → H.length ≤ j) ∧ AExt (fun _ => False) H H' ∧ get e' 0 = vt ∧ get e' 4 = .pointer (some ⟨H.length, 0, none⟩)) ?_ (fun e3 H3 _ ⟨vl3, vp3, hW3, hw3, hl3, hp3, hX3, g0, g4⟩ => ?_)
  · refine AC_cut (fun e' H' => ∃ vl vp, WS H' H.length vt vl vp t (walkAll t).2 ∧ (∀ j, vid vl = some j → H.length ≤ j) ∧ (∀ j, vid vp = some j → H.length ≤ j) ∧ AExt (fun _ => False) H H' ∧ get e' 0 = vt ∧ get e' 4 = .pointer (some ⟨H.length, 0, none⟩) ∧ get e' 17 = .bool (!(walkAll t).1)) ?_ (fun e2 H2 _ ⟨vl2, vp2, hW2, hl2, hp2, hX2, q0, q4, q17⟩ => ?_)
    · refine AC_regL ?_
      by_cases hz : t = []
      · have d0 : decide ((0 : Int) < (t.length : Int)) = false := decide_eq_false (by rw [hz]; simp)
        refine AQ_take TT_ok 5 rfl (by simp only [go_sem, hW1.t.alen, d0] <;> rfl) ?_
        refine AQ_pass rfl ?_
        refine AQ_all TT_ok rfl (by simp only [go_sem] <;> rfl) ?_
        have hwa : walkAll t = (true, ⟨0, [], []⟩) := by rw [walkAll, if_pos hz]
        rw [hwa]
        exact ⟨_, _, hW1, fun j hj => (by cases hj), fun j hj => (by cases hj), hX1, by simp only [go_sem], by simp only [go_sem], by simp only [go_sem] <;> simp⟩
      · have d0 : decide ((0 : Int) < (t.length : Int)) = true := decide_eq_true (by have := List.length_pos_iff.2 hz; omega)
        have hwa : walkAll t = walk t (t.length + 1) 0 [] ⟨0, [], []⟩ := by rw [walkAll, if_neg hz]
        refine AQ_take TT_ok 5 rfl (by simp only [go_sem, hW1.t.alen, d0] <;> rfl) ?_
        refine AQ_c rfl (by simp only [go_sem] <;> rfl) fok81 (by simp only [List.map_cons, List.map_nil, List.append_nil, go_sem] <;> rfl) (all81 (t.length + 1) H1 H.length vt (.slice none 0 0) (.slice none 0 0) t ⟨0, [], []⟩ 0 [] hW1 ⟨Nat.le_refl _, Nat.le_refl _, Nat.zero_le _⟩ (by simp) (by omega) (by simp) hn) (fun j _ hj => ?_) (.inl rfl) fun r H2 hX2 ⟨hr, vl2, vp2, hW2, hl2, hp2⟩ => ?_
        · rcases hj with rfl | hj | hj
          · exact .inl (Nat.le_refl _)
          · cases hj
          · cases hj
        subst hr
        rw [← hwa] at hW2
        refine AQ_all TT_ok rfl (by simp only [go_sem] <;> rfl) ?_
        refine ⟨vl2, vp2, hW2, fun j hj => ?_, fun j hj => ?_, hX1.weakF hX2 (fun j _ hj => ?_), by simp only [go_sem], by simp only [go_sem], by rw [hwa]; simp only [go_sem]⟩
        · rcases hl2 j hj with h | h
          · omega
          · subst h; cases hj
        · rcases hp2 j hj with h | h
          · omega
          · subst h; cases hj
        · rcases hj with rfl | hj | hj
          · exact Nat.le_refl _
          · cases hj
          · cases hj
    by_cases hw : (walkAll t).1 = true
    · refine AC_f q17 (by rw [hw]; rfl) (AC_skip ⟨vl2, vp2, hW2, hw, hl2, hp2, hX2, q0, q4⟩)
    · refine AC_t q17 (by simpa using hw) ?_
      refine AC_seqQ TT_ok (by simp only [go_sem, q4] <;> rfl) ?_
      refine AC_ret ⟨.inl rfl, _, rfl, H.length, vl2, vp2, ?_, hW2, hl2, hp2⟩
      rw [decide_eq_false (fun h => hw h.1)]
      simp only [go_sem]
  have hok := walkAll_ok t
  have hll : (walkAll t).2.l.length < 2^20 := by have := hok.l; have := hok.n; omega
  refine AC_cut (fun e' H' => ∃ vu, WS H' H.length vt vl3 vp3 t (walkAll t).2 ∧ NdS H' vu (if May (walkAll t).2.l then build (walkAll t).2.l else []) ∧ get e' 0 = vt ∧ get e' 4 = .pointer (some ⟨H.length, 0, none⟩) ∧ get e' 5 = vu ∧ get e' 6 = .bool (decide (May (walkAll t).2.l))) ?_ (fun e4 H4 _ ⟨vu, hW4, hU, q0, q4, q5, q6⟩ => ?_)
  · refine AC_regL ?_
    refine AQ_take TT_ok 4 rfl (by simp only [go_sem, g4, anil_ptr, f106 _ 2 (by decide), hW3.ob.load, ap4_2 _ _ _ _ 22 rfl] <;> rfl) ?_
    refine AQ_c rfl (by simp only [go_sem] <;> rfl) fok29 (by simp only [List.map_cons, List.map_nil, List.append_nil, go_sem] <;> rfl) (c29 hW3.l.sl hll) (fun _ _ h => h.elim) (.inl rfl) fun r H4 hX4 ⟨vu, hr, hU, _⟩ => ?_
    subst hr
    refine AQ_all TT_ok rfl (by simp only [go_sem] <;> rfl) ?_
    exact ⟨vu, hW3.keep hX4, hU.sl, by simp only [go_sem, g0], by simp only [go_sem, g4], by simp only [go_sem], by simp only [go_sem]⟩
  refine AC_cut (fun e' H' => WS H' H.length vt vl3 vp3 t (walkAll t).2 ∧ get e' 2 = .pointer (some ⟨H.length, 0, none⟩) ∧ get e' 3 = .bool (decide (Isw t))) ?_ (fun e5 H5 _ ⟨hW5, k2, k3⟩ => ?_)
  · refine AC_regL ?_
    by_cases hm : May (walkAll t).2.l
    · have dm : decide (May (walkAll t).2.l) = true := decide_eq_true hm
      rw [if_pos hm] at hU
      refine AQ_take TT_ok 5 rfl (by simp only [go_sem, q0, q4, q5, q6, dm] <;> rfl) ?_
      refine AQ_c rfl (by simp only [go_sem] <;> rfl) fok38 (by simp only [List.map_cons, List.map_nil, List.append_nil, go_sem] <;> rfl) (c38 hW4.t hU (by omega)) (fun _ _ h => h.elim) (.inl rfl) fun r H5 hX5 ⟨hr, hH⟩ => ?_
      subst hr hH
      refine AQ_all TT_ok rfl (by simp only [go_sem] <;> rfl) ?_
      refine ⟨hW4, by simp only [go_sem], ?_⟩
      simp only [go_sem]
      congr 1
      rw [Bool.eq_iff_iff, decide_eq_true_eq, decide_eq_true_eq]
      exact ⟨fun h => ⟨hw3, hm, h⟩, fun h => h.2.2⟩
    · have dm : decide (May (walkAll t).2.l) = false := decide_eq_false hm
      refine AQ_take TT_ok 5 rfl (by simp only [go_sem, q0, q4, q5, q6, dm] <;> rfl) ?_
      refine AQ_pass rfl ?_
      refine AQ_all TT_ok rfl (by simp only [go_sem] <;> rfl) ?_
      refine ⟨hW4, by simp only [go_sem], ?_⟩
      rw [decide_eq_false (fun h => hm h.2.1)]
      simp only [go_sem]
  refine AC_ret ⟨.inl rfl, _, rfl, H.length, vl3, vp3, ?_, hW5, hl3, hp3⟩
  simp only [go_sem, k2, k3]
end Go.Proofs.Ythalogdopkoidaa.Ab
set_option linter.unusedVariables false
set_option linter.unusedSimpArgs false
namespace Go.Proofs.Ythalogdopkoidaa.Ab
open Go Go.RowKit
theorem c31 {H : AHeap} {vt : Value} {t : List Nd} (hS : NdS H vt t) (ht : t.length < 2^19) (hn : ∀ n ∈ t, n.path.length < 2^30) : ACalls Try.prog 31 [vt] H (fun _ => False) fun v H' =>
    ∃ u, v = .tuple #[u, .bool (decide (Isw t))] ∧ PrB H' u (if Isw t then (walkAll t).2.l else []) ∧ ∀ j, vid u = some j → H.length ≤ j := by
  refine ACalls_by 17 TT_ok Try.func31 rfl rfl rfl (by simp) ?_
  refine AC_seqQ TT_ok (by simp only [go_sem] <;> rfl) ?_
  refine AC_seq ?_
  refine AC_regL ?_
  refine AQ_take TT_ok 1 rfl (by simp only [go_sem] <;> rfl) ?_
  refine AQ_c rfl (by simp only [go_sem] <;> rfl) fok65 (by simp only [List.map_cons, List.map_nil, List.append_nil, go_sem] <;> rfl) (c65 hS ht hn) (fun _ _ h => h.elim) (.inl rfl) fun r H1 hX1 ⟨wi, vl, vp, hr, hW, hl, hp⟩ => ?_
  subst hr
  refine AQ_all TT_ok rfl (by simp only [go_sem] <;> rfl) ?_
  refine AC_seq ?_
  refine AC_seqQ TT_ok (by simp only [go_sem] <;> rfl) ?_
  by_cases hi : Isw t
  · have hd : decide (Isw t) = true := decide_eq_true hi
    refine AC_f (by simp only [go_sem] <;> rfl) (by rw [hd]; rfl) ?_
    refine AC_skip ?_
    refine AC_seqQ TT_ok (by simp only [go_sem, anil_ptr, f106 _ 2 (by decide), hW.ob.load, ap4_2 _ _ _ _ 22 rfl] <;> rfl) ?_
    refine AC_ret ⟨.inl rfl, _, rfl, vl, ?_, ?_, hl⟩
    · simp only [go_sem]; rw [hd]
    · rw [if_pos hi]; exact hW.l
  · have hd : decide (Isw t) = false := decide_eq_false hi
    refine AC_t (by simp only [go_sem] <;> rfl) (by rw [hd]; rfl) ?_
    refine AC_seqQ TT_ok (by simp only [go_sem] <;> rfl) ?_
    refine AC_ret ⟨.inl rfl, _, rfl, .slice none 0 0, ?_, ?_, fun j hj => by cases hj⟩
    · simp only [go_sem]; rw [hd]
    · rw [if_neg hi]; exact Buf.nil _ _
theorem c33 {H : AHeap} {vt : Value} {t : List Nd} (hS : NdS H vt t) (ht : t.length < 2^19) (hn : ∀ n ∈ t, n.path.length < 2^30) : ACalls Try.prog 33 [vt] H (fun _ => False) fun v H' =>
    ∃ u, v = .tuple #[u, .bool (decide (Isw t))] ∧ StB H' u (if Isw t then (walkAll t).2.paths else []) ∧ ∀ j, vid u = some j → H.length ≤ j := by
  refine ACalls_by 17 TT_ok Try.func33 rfl rfl rfl (by simp) ?_
  refine AC_seqQ TT_ok (by simp only [go_sem] <;> rfl) ?_
  refine AC_seq ?_
  refine AC_regL ?_
  refine AQ_take TT_ok 1 rfl (by simp only [go_sem] <;> rfl) ?_
  refine AQ_c rfl (by simp only [go_sem] <;> rfl) fok65 (by simp only [List.map_cons, List.map_nil, List.append_nil, go_sem] <;> rfl) (c65 hS ht hn) (fun _ _ h => h.elim) (.inl rfl) fun r H1 hX1 ⟨wi, vl, vp, hr, hW, hl, hp⟩ => ?_
  subst hr
  refine AQ_all TT_ok rfl (by simp only [go_sem] <;> rfl) ?_
  refine AC_seq ?_
  refine AC_seqQ TT_ok (by simp only [go_sem] <;> rfl) ?_
  by_cases hi : Isw t
  · have hd : decide (Isw t) = true := decide_eq_true hi
    refine AC_f (by simp only [go_sem] <;> rfl) (by rw [hd]; rfl) ?_
    refine AC_skip ?_
    refine AC_seqQ TT_ok (by simp only [go_sem, anil_ptr, f106 _ 3 (by decide), hW.ob.load, ap4_3 _ _ _ _ 30 rfl] <;> rfl) ?_
    refine AC_ret ⟨.inl rfl, _, rfl, vp, ?_, ?_, hp⟩
    · simp only [go_sem]; rw [hd]
    · rw [if_pos hi]; exact hW.p
  · have hd : decide (Isw t) = false := decide_eq_false hi
    refine AC_t (by simp only [go_sem] <;> rfl) (by rw [hd]; rfl) ?_
    refine AC_seqQ TT_ok (by simp only [go_sem] <;> rfl) ?_
    refine AC_ret ⟨.inl rfl, _, rfl, .slice none 0 0, ?_, ?_, fun j hj => by cases hj⟩
    · simp only [go_sem]; rw [hd]
    · rw [if_neg hi]; exact Buf.nil _ _
theorem c37 {H : AHeap} {vt : Value} {t : List Nd} (hS : NdS H vt t) (ht : t.length < 2^19) (hn : ∀ n ∈ t, n.path.length < 2^30) : ACalls Try.prog 37 [vt] H (fun _ => False) fun v H' => v = .bool (decide (Isw t)) := by
  refine ACalls_by 11 TT_ok Try.func37 rfl rfl rfl (by simp) ?_
  refine AC_seqQ TT_ok (by simp only [go_sem] <;> rfl) ?_
  refine AC_seq ?_
  refine AC_regL ?_
  refine AQ_take TT_ok 1 rfl (by simp only [go_sem] <;> rfl) ?_
  refine AQ_c rfl (by simp only [go_sem] <;> rfl) fok65 (by simp only [List.map_cons, List.map_nil, List.append_nil, go_sem] <;> rfl) (c65 hS ht hn) (fun _ _ h => h.elim) (.inl rfl) fun r H1 hX1 ⟨wi, vl, vp, hr, hW, hl, hp⟩ => ?_
  subst hr
  refine AQ_all TT_ok rfl (by simp only [go_sem] <;> rfl) ?_
  refine AC_seqQ TT_ok (by simp only [go_sem] <;> rfl) ?_
  exact AC_ret ⟨.inl rfl, _, rfl, by simp only [go_sem]⟩
end Go.Proofs.Ythalogdopkoidaa.Ab
set_option linter.unusedVariables false
set_option linter.unusedSimpArgs false
namespace Go.Proofs.Ythalogdopkoidaa.Ab
open Go Go.RowKit
theorem pth_one (f : Nat) (x : List UInt8 × List UInt8) (p : List UInt8) : pth (f + 1) [x] p = [p] := rfl
theorem pth_ext (f : Nat) (x y : List UInt8 × List UInt8) (r : Sx) (p : List UInt8) (h : 0 < com x.1 (lst y r).1) :
    pth (f + 1) (x :: y :: r) p = p :: pth f ((x :: y :: r).map (cut (com x.1 (lst y r).1))) (p ++ x.1.take (com x.1 (lst y r).1)) := by
  rw [pth]; simp only [if_pos h]
theorem pth_brn (f : Nat) (x y : List UInt8 × List UInt8) (r : Sx) (p : List UInt8) (h : ¬ 0 < com x.1 (lst y r).1) :
    pth (f + 1) (x :: y :: r) p = p :: pbrn (pth f) p (groups (if x.1 = [] then y :: r else x :: y :: r)) := by
  rw [pth]; simp only [if_neg h]
theorem pbrn_cons (b : Sx → List UInt8 → List (List UInt8)) (p : List UInt8) (c : UInt8) (g : Sx) (gs : List (UInt8 × Sx)) : pbrn b p ((c, g) :: gs) = b g (p ++ [c]) ++ pbrn b p gs := rfl
theorem pbrn_len {b : Sx → Nat → List Nd} {b' : Sx → List UInt8 → List (List UInt8)} (h : ∀ s k p, (b' s p).length = (b s k).length) (p : List UInt8) : ∀ (gs : List (UInt8 × Sx)) (k : Nat) (kids : Vector Int 16), (pbrn b' p gs).length = (brn b gs k kids).1.length
  | [], k, kids => rfl
  | (c, g) :: gs, k, kids => by
    rw [pbrn_cons, brn_cons, List.length_append, List.length_append, h g k, pbrn_len h p gs]
theorem pth_len : ∀ (f : Nat) (s : Sx) (k : Nat) (p : List UInt8), (pth f s p).length = (bld f s k).length
  | 0, s, k, p => rfl
  | f + 1, [], k, p => rfl
  | f + 1, [x], k, p => rfl
  | f + 1, x :: y :: r, k, p => by
    by_cases h : 0 < com x.1 (lst y r).1
    · rw [pth_ext _ _ _ _ _ h, bld_ext _ _ _ _ _ h, List.length_cons, List.length_cons, pth_len f _ (k + 1)]
    · rw [pth_brn _ _ _ _ _ h, bld_brn _ _ _ _ _ h, List.length_cons, List.length_cons, pbrn_len (pth_len f)]
/-- All of a stretch begin with the same nibbles. -/
def Pre (ps : List Pr) (a b at_ : Nat) (pre : List UInt8) : Prop := ∀ i, a ≤ i → (h : i < b) → (h2 : i < ps.length) → (nib (ps[i]).key).take at_ = pre
structure MS (H : AHeap) (mi : Nat) (vl vn vt vp : Value) (ps : List Pr) (t : List Nd) (q : List (List UInt8)) : Prop where
  ob : Ob H mi 101 [vl, vn, vt, vp]
  l : PrS H vl ps
  n : StS H vn (nks ps)
  t : NdB H vt t
  p : StB H vp q
  tl : ∀ j, vid vt = some j → vid vl ≠ some j ∧ vid vn ≠ some j ∧ vid vp ≠ some j ∧ j ≠ mi
  pl : ∀ j, vid vp = some j → vid vl ≠ some j ∧ vid vn ≠ some j ∧ j ≠ mi
  lb : vid vl ≠ some mi
  nb : vid vn ≠ some mi
theorem MS.ext {H H' : AHeap} {mi : Nat} {vl vn vt vp : Value} {ps : List Pr} {t : List Nd} {q : List (List UInt8)} {M : Nat → Prop} (h : MS H mi vl vn vt vp ps t q) (hX : AExt M H H') (hM : ∀ i, i < H.length → M i → i ≠ mi ∧ vid vl ≠ some i ∧ vid vn ≠ some i ∧ vid vt ≠ some i ∧ vid vp ≠ some i) : MS H' mi vl vn vt vp ps t q :=
  ⟨h.ob.ext hX (fun hm => (hM _ h.ob.lt hm).1 rfl), h.l.ext hX (fun i hi hv hm => (hM i hi hm).2.1 hv), h.n.ext hX (fun i hi hv hm => (hM i hi hm).2.2.1 hv), Buf.ext h.t hX (fun i hv hm => (hM i (Sl.vid_lt h.t.sl hv) hm).2.2.2.1 hv), Buf.ext h.p hX (fun i hv hm => (hM i (Sl.vid_lt h.p.sl hv) hm).2.2.2.2 hv), h.tl, h.pl, h.lb, h.nb⟩
theorem MS.keep {H H' : AHeap} {mi : Nat} {vl vn vt vp : Value} {ps : List Pr} {t : List Nd} {q : List (List UInt8)} (h : MS H mi vl vn vt vp ps t q) (hX : AExt (fun _ => False) H H') : MS H' mi vl vn vt vp ps t q := h.ext hX (fun _ _ h => h.elim)
theorem MS.appT {H H1 H2 : AHeap} {mi : Nat} {vl vn vt vt1 vp : Value} {ps : List Pr} {t t1 : List Nd} {q : List (List UInt8)} (h : MS H mi vl vn vt vp ps t q) (hX : AExt (fun j => vid vt = some j) H H1) (hT : NdB H1 vt1 t1) (hv : ∀ j, vid vt1 = some j → H.length ≤ j) (hY : AExt (fun j => j = mi) H1 H2) (hO : Ob H2 mi 101 [vl, vn, vt1, vp]) : MS H2 mi vl vn vt1 vp ps t1 q := by
  have hl := h.ob.lt
  refine ⟨hO, (h.l.ext hX fun i _ hi hm => (h.tl i hm).1 hi).ext hY fun i _ hi hm => h.lb (by rw [hi, hm]), (h.n.ext hX fun i _ hi hm => (h.tl i hm).2.1 hi).ext hY fun i _ hi hm => h.nb (by rw [hi, hm]), Buf.ext hT hY fun i hi hm => ?_, (Buf.ext h.p hX fun i hi hm => (h.tl i hm).2.2.1 hi) |>.ext hY fun i hi hm => (h.pl i hi).2.2 hm, fun j hj => ⟨fun hh => ?_, fun hh => ?_, fun hh => ?_, ?_⟩, h.pl, h.lb, h.nb⟩
  · have := hv i hi; omega
  · have := h.l.vid_lt hh; have := hv j hj; omega
  · have := h.n.vid_lt hh; have := hv j hj; omega
  · have := Sl.vid_lt h.p.sl hh; have := hv j hj; omega
  · have := hv j hj; omega
theorem MS.appP {H H1 H2 : AHeap} {mi : Nat} {vl vn vt vp vp1 : Value} {ps : List Pr} {t : List Nd} {q q1 : List (List UInt8)} (h : MS H mi vl vn vt vp ps t q) (hX : AExt (fun j => vid vp = some j) H H1) (hT : StB H1 vp1 q1) (hv : ∀ j, vid vp1 = some j → H.length ≤ j) (hY : AExt (fun j => j = mi) H1 H2) (hO : Ob H2 mi 101 [vl, vn, vt, vp1]) : MS H2 mi vl vn vt vp1 ps t q1 := by
  have hl := h.ob.lt
  refine ⟨hO, (h.l.ext hX fun i _ hi hm => (h.pl i hm).1 hi).ext hY fun i _ hi hm => h.lb (by rw [hi, hm]), (h.n.ext hX fun i _ hi hm => (h.pl i hm).2.1 hi).ext hY fun i _ hi hm => h.nb (by rw [hi, hm]), (Buf.ext h.t hX fun i hi hm => (h.tl i hi).2.2.1 hm) |>.ext hY fun i hi hm => (h.tl i hi).2.2.2 hm, Buf.ext hT hY fun i hi hm => ?_, fun j hj => ⟨(h.tl j hj).1, (h.tl j hj).2.1, fun hh => ?_, (h.tl j hj).2.2.2⟩, fun j hj => ⟨fun hh => ?_, fun hh => ?_, ?_⟩, h.lb, h.nb⟩
  · have := hv i hi; omega
  · have := Sl.vid_lt h.t.sl hj; have := hv j hh; omega
  · have := h.l.vid_lt hh; have := hv j hj; omega
  · have := h.n.vid_lt hh; have := hv j hj; omega
  · have := hv j hj; omega
theorem MS.put {H H' : AHeap} {mi i : Nat} {vl vn vt vp : Value} {ps : List Pr} {t t' : List Nd} {q : List (List UInt8)} (h : MS H mi vl vn vt vp ps t q) (hi : vid vt = some i) (hX : AExt (fun j => j = i) H H') (hT : NdB H' vt t') : MS H' mi vl vn vt vp ps t' q := by
  obtain ⟨g1, g2, g3, g4⟩ := h.tl i hi
  exact ⟨h.ob.ext hX (fun e => g4 e.symm), h.l.ext hX (fun j _ hj e => g1 (by rw [hj, e])), h.n.ext hX (fun j _ hj e => g2 (by rw [hj, e])), hT, Buf.ext h.p hX (fun j hj e => g3 (by rw [hj, e])), h.tl, h.pl, h.lb, h.nb⟩
/-- One cell of a node is written. -/
theorem NdB.cell {H' : AHeap} {v : Value} {t : List Nd} {k i j : Nat} {u : Value} {y : Nd} (hk : k < t.length) (hj : j < 20) (hy : y.cells = (t[k]).cells.set j u) (h : Own H' v 49 t.length (over (t.flatMap Nd.cells) (k * 20 + j) [u]) i) : NdB H' v (t.set k y) := by
  have e : over (t.flatMap Nd.cells) (k * 20 + j) [u] = (t.flatMap Nd.cells).set (k * 20 + j) u := rfl
  rw [e, rows_set Nd.len t k j u y hk hj hy] at h
  rw [NdB, List.length_set]
  exact .inr ⟨i, h⟩
theorem f101 (i f : Nat) (h : f < 4) : afield TT 101 (.pointer (some ⟨i, 0, none⟩)) f = some (.pointer (some ⟨i, f, none⟩)) := by
  rcases f with _ | _ | _ | _ | f <;> first | rfl | omega
end Go.Proofs.Ythalogdopkoidaa.Ab
set_option linter.unusedVariables false
set_option linter.unusedSimpArgs false
namespace Go.Proofs.Ythalogdopkoidaa.Ab
open Go Go.RowKit
def P64 (f : Nat) : Prop := ∀ (H : AHeap) (mi : Nat) (vl vn vt vp : Value) (ps : List Pr) (t : List Nd) (q : List (List UInt8)) (a b at_ : Nat) (pre : List UInt8), MS H mi vl vn vt vp ps t q → Seg ps a b at_ → Pre ps a b at_ pre → Fu (sg ps a b at_) f → q.length = t.length → t.length + (bld f (sg ps a b at_) t.length).length < 2^30 → ps.length < 2^30 → (∀ p ∈ ps, p.key.length < 2^30) →
  ACalls Try.prog 64 [.pointer (some ⟨mi, 0, none⟩), .int .i64 (a : Nat), .int .i64 (b : Nat), .int .i64 (at_ : Nat)] H (fun i => i = mi ∨ vid vt = some i ∨ vid vp = some i) fun v H' =>
    v = .int .i64 (t.length : Nat) ∧ ∃ vt' vp', MS H' mi vl vn vt' vp' ps (t ++ bld f (sg ps a b at_) t.length) (q ++ pth f (sg ps a b at_) pre) ∧ (∀ j, vid vt' = some j → H.length ≤ j) ∧ ∀ j, vid vp' = some j → H.length ≤ j
theorem Pre.up {ps : List Pr} {a b at_ c : Nat} {pre w : List UInt8} (h : Pre ps a b at_ pre) (hw : ∀ i, a ≤ i → (h : i < b) → (h2 : i < ps.length) → ((nib (ps[i]).key).drop at_).take c = w) : Pre ps a b (at_ + c) (pre ++ w) := fun i h1 h2 h3 => by
  rw [List.take_add, h i h1 h2 h3, hw i h1 h2 h3]
theorem Pre.part {ps : List Pr} {a b at_ m e : Nat} {pre : List UInt8} (h : Pre ps a b at_ pre) (h1 : a ≤ m) (h2 : e ≤ b) : Pre ps m e at_ pre := fun i g1 g2 g3 => h i (by omega) (by omega) g3
theorem getMid {α : Type} (t : List α) (x : α) (r : List α) (h : t.length < (t ++ x :: r).length) : (t ++ x :: r)[t.length] = x := by simp
theorem setMid {α : Type} (t : List α) (x y : α) (r : List α) : (t ++ x :: r).set t.length y = t ++ y :: r := by simp
/-- One cell of a node is written: the slice's own block. -/
theorem Own.cell {H' : AHeap} {v : Value} {t : List Nd} {k i j : Nat} {u : Value} {y : Nd} (hk : k < t.length) (hj : j < 20) (hy : y.cells = (t[k]).cells.set j u) (h : Own H' v 49 t.length (over (t.flatMap Nd.cells) (k * 20 + j) [u]) i) : Own H' v 49 (t.set k y).length ((t.set k y).flatMap Nd.cells) i := by
  have e : over (t.flatMap Nd.cells) (k * 20 + j) [u] = (t.flatMap Nd.cells).set (k * 20 + j) u := rfl
  rw [e, rows_set Nd.len t k j u y hk hj hy] at h
  rw [List.length_set]
  exact h
theorem Own.ndB {H : AHeap} {v : Value} {t : List Nd} {i : Nat} (h : Own H v 49 t.length (t.flatMap Nd.cells) i) : NdB H v t := .inr ⟨i, h⟩
theorem kidxU {H : AHeap} {v : Value} {t : List Nd} (h : NdS H v t) {i : Nat} (hi : i < t.length) {c : UInt8} (hc : c.toNat < 16) : aindex TT 47 (ep v (i * 20 + 4)) (U c) = some (ep v (i * 20 + (4 + c.toNat))) := h.kidx hi (c := c.toNat) hc
set_option maxHeartbeats 8000000 in
theorem c64 {f : Nat} (ih : P64 f) : P64 (f + 1) := by
  intro H mi vl vn vt vp ps t q a b at_ pre hM hseg hpre hfu hql hbd hpl hkl
  have hlt := hseg.lt
  have hle := hseg.le
  have hla := hseg.len a (Nat.le_refl _) hlt
  have hlb := hseg.len (b - 1) (by omega) (by omega)
  have hpa := hpre a (Nat.le_refl _) hlt (by omega)
  have hpos : 1 ≤ (bld (f + 1) (sg ps a b at_) t.length).length := by
    rcases Nat.lt_or_ge (a + 1) b with h | h
    · obtain ⟨y, r, e1, e2, e3⟩ := sg_two (at_ := at_) h hle
      rw [e2]
      by_cases hc : 0 < com ((nib (ps[a]).key).drop at_) (lst y r).1
      · rw [bld_ext _ _ _ _ _ hc]; simp
      · rw [bld_brn _ _ _ _ _ hc]; simp
    · rw [sg_cons ps a b at_ hlt hle, show a + 1 = b by omega, sg_nil, bld_one]; simp
  refine ACalls_by 231 TT_ok Try.func64 rfl rfl rfl (by simp) ?_
  refine AC_seqQ TT_ok (by simp only [go_sem] <;> rfl) ?_
  refine AC_seqQ TT_ok (by simp only [go_sem, anil_ptr, f101 _ 2 (by decide), hM.ob.load, ap4_2 _ _ _ _ 24 rfl, hM.t.sl.alen] <;> rfl) ?_
  -- the new node
  refine AC_cut (fun e' H' => ∃ vt1, MS H' mi vl vn vt1 vp ps (t ++ [zNd]) q ∧ AExt (fun i => i = mi ∨ vid vt = some i) H H' ∧ (∀ j, vid vt1 = some j → H.length ≤ j) ∧ get e' 0 = .pointer (some ⟨mi, 0, none⟩) ∧ get e' 1 = .int .i64 (a : Nat) ∧ get e' 2 = .int .i64 (b : Nat) ∧ get e' 3 = .int .i64 (at_ : Nat) ∧ get e' 9 = .int .i64 (t.length : Nat)) ?_ (fun e0 H0 _ ⟨vt1, hM0, hX0, hv1, h0, h1, h2, h3, h9⟩ => ?_)
  · refine AC_regL ?_
    refine AQ_take TT_ok 6 rfl (by simp only [go_sem, anil_ptr, f101 _ 2 (by decide), hM.ob.load, ap4_2 _ _ _ _ 24 rfl, List.map_nil, bz49] <;> rfl) ?_
    refine AQ_lit TT_ok [zNd.val] TT_24 rfl TT_49 rfl (by decide) rfl (by decide) rfl (by simp only [List.map_cons, List.map_nil, go_sem, numbered]) (fun v hv => ?_) fun H1 hX1 hO1 hL1 => ?_
    · rw [List.mem_singleton] at hv; subst hv; exact ⟨_, Lay.nd _, rfl⟩
    refine AQ_append TT_ok (v := vt) (n := t.length) (m := 1) TT_24 rfl TT_49 (by decide) (by decide) rfl (by simp only [go_sem]) (by simp only [go_sem]) (hM.keep hX1).t hO1.sl (rows_length Nd.len t) rfl (by simp; omega) (fun j hj => .inr (.inr (.inl hj))) (.inl rfl) fun vt1 H2 hX2 hB2 hv2 => ?_
    have hv2' : ∀ j, vid vt1 = some j → H1.length ≤ j := fun j hj => by
      rcases hv2 j hj with h | h
      · exact h
      · cases h.1
    have hN : NdB H2 vt1 (t ++ [zNd]) := by
      have e : t.flatMap Nd.cells ++ ([zNd.val] : List Value).flatMap (fun v => v.cells.toList) = (t ++ [zNd]).flatMap Nd.cells := by
        rw [List.flatMap_append]; rfl
      rw [e] at hB2
      rw [NdB, List.length_append]
      exact hB2
    refine AQ_take TT_ok 2 rfl (by simp only [go_sem, anil_ptr, f101 _ 2 (by decide)] <;> rfl) ?_
    have hb2 : Ob H2 mi 101 [vl, vn, vt, vp] := (hM.keep hX1).ob.ext hX2 (fun h => (hM.tl _ h).2.2.2 rfl)
    refine AQ_store TT_ok TT_24 rfl (by simp only [go_sem] <;> rfl) (by simp only [go_sem] <;> rfl) (hN.sl.one.lay) rfl hb2 (by simp) (.inr (.inl rfl)) (.inl rfl) fun H3 hX3 hO3 hL3 => ?_
    refine AQ_nil ?_
    refine ⟨vt1, (hM.keep hX1).appT hX2 hN hv2' hX3 hO3, ?_, fun j hj => by have := hv2' j hj; omega, by simp only [go_sem], by simp only [go_sem], by simp only [go_sem], by simp only [go_sem], by simp only [go_sem]⟩
    exact ((hX1.any.trans (hX2.mono fun i _ h => .inr h)).trans (hX3.mono fun i _ h => .inl h))
  -- the path
  have ka := hM0.n.index (k := .i64) (j := a) (by rw [nks_length]; omega)
  have kna : (nks ps)[a]'(by rw [nks_length]; omega) = nib (ps[a]).key := by simp [nks]
  have sl0 := aslice_S01 (l := nib (ps[a]).key) (b := at_) (k := .i64) hla
  rw [hpa] at sl0
  refine AC_cut (fun e' H' => ∃ vp1, MS H' mi vl vn vt1 vp1 ps (t ++ [zNd]) (q ++ [pre]) ∧ AExt (fun i => i = mi ∨ vid vt = some i ∨ vid vp = some i) H H' ∧ (∀ j, vid vp1 = some j → H.length ≤ j) ∧ get e' 0 = .pointer (some ⟨mi, 0, none⟩) ∧ get e' 1 = .int .i64 (a : Nat) ∧ get e' 2 = .int .i64 (b : Nat) ∧ get e' 3 = .int .i64 (at_ : Nat) ∧ get e' 9 = .int .i64 (t.length : Nat)) ?_ (fun e1 H1 _ ⟨vp1, hM1, hX1, hvp1, h0, h1, h2, h3, h9⟩ => ?_)
  · have hpm : ¬ vid vp = some mi := fun h => (hM0.pl _ h).2.2 rfl
    have oM := hM0.ob.ext (msk_ext H0 vp) hpm
    have nM := hM0.n.ext (msk_ext H0 vp) (fun j _ hj h => (hM0.pl j h).2.1 hj)
    have kb := nM.load (i := a) (by rw [nks_length]; omega)
    rw [kna] at kb
    refine AC_drawG (fun j => vid vp = some j) (msk H0 vp) [18] [(0, true), (1, true), (2, true), (3, true), (4, true), (5, true), (6, true), (7, true), (8, true), (9, true), (10, true), (11, true), (12, true), (13, true), (14, false), (15, false), (16, true), (17, true), (18, false)] mixed (by kernel_rfl) (Buf.live hM0.p) (fun j o h => msk_live h) (Nat.le_of_eq (msk_len _ _)) ?_
    refine AG_sel (σ := [(14, false), (15, false), (16, true), (17, true), (18, false)]) TT_ok [0, 1, 2, 3, 4, 5, 6, 7, 8, 9, 10, 11, 12, 13] _ (by simp only [go_sem, h0, h1, h3, anil_ptr, f101 _ 3 (by decide), f101 _ 1 (by decide), oM.load, ap4_3 _ _ _ _ 30 rfl, ap4_1 _ _ _ _ 30 rfl, ka, kb, sl0] <;> rfl) ?_
    refine AG_lit TT_ok [S pre] rfl TT_30 rfl TT_9 rfl (by decide) rfl (by decide) rfl (by simp only [List.map_cons, List.map_nil, go_sem, numbered]) (fun v hv => ?_) fun H2 hX2 hO2 hL2 => ?_
    · rw [List.mem_singleton] at hv; subst hv; exact ⟨_, (One.str _).lay, rfl⟩
    refine AG_append TT_ok (v := vp) (n := q.length) (m := 1) rfl TT_30 rfl TT_9 (by decide) (by decide) rfl (by simp only [go_sem]) (by simp only [go_sem]) (hM0.keep hX2).p hO2.sl (rows_length sCell_len _) rfl (by simp; omega) (fun j hj => .inr (.inr (.inr hj))) (fun j _ hj => hj) fun vp1 H3 hX3 hB3 hv3 => ?_
    have hv3' : ∀ j, vid vp1 = some j → H2.length ≤ j := fun j hj => by
      rcases hv3 j hj with h | h
      · exact h
      · cases h.1
    have hN : StB H3 vp1 (q ++ [pre]) := by
      have e : q.flatMap sCell ++ ([S pre] : List Value).flatMap (fun v => v.cells.toList) = (q ++ [pre]).flatMap sCell := by
        rw [List.flatMap_append]; rfl
      rw [e] at hB3
      rw [StB, List.length_append]
      exact hB3
    have hb3 : Ob H3 mi 101 [vl, vn, vt1, vp] := (hM0.keep hX2).ob.ext hX3 hpm
    refine AG_sel (σ := [(18, false)]) TT_ok [16, 17] _ (by simp only [go_sem, anil_ptr, f101 _ 3 (by decide)] <;> rfl) ?_
    refine AG_store TT_ok rfl TT_30 rfl (by simp only [go_sem] <;> rfl) (by simp only [go_sem] <;> rfl) hN.sl.one.lay rfl hb3 (by simp) (.inr (.inl rfl)) rfl fun H4 hX4 hO4 hL4 => ?_
    refine AG_nil ?_
    have s0 := hX0.size
    refine ⟨vp1, (hM0.keep hX2).appP hX3 hN hv3' hX4 hO4, ?_, fun j hj => by have := hv3' j hj; omega, by simp only [go_sem, h0], by simp only [go_sem, h1], by simp only [go_sem, h2], by simp only [go_sem, h3], by simp only [go_sem, h9]⟩
    exact (((hX0.mono fun i _ h => h.imp id .inl).trans hX2.any).trans (hX3.mono fun i _ h => .inr (.inr h))).trans (hX4.mono fun i _ h => .inl h)
  have ka := hM1.n.index (k := .i64) (j := a) (by rw [nks_length]; omega)
  have kb := hM1.n.load (i := a) (by rw [nks_length]; omega)
  rw [kna] at kb
  have wa1 := wrapN a (by omega)
  have hlen1 : t.length < (t ++ [zNd]).length := by simp
  have kx := hM1.t.sl.index (k := .i64) (j := (t.length : Int)) (by omega) (by simp; omega)
  rw [Int.toNat_natCast] at kx
  obtain ⟨ti, hO⟩ := Buf.own hM1.t (by simp)
  refine AC_seq ?_
  refine AC_seqQ TT_ok (by simp only [go_sem, h1, h2, wa1] <;> rfl) ?_
  by_cases hone : a + 1 = b
  · -- one pair: a leaf
    refine AC_t (by simp only [go_sem] <;> rfl) (decide_eq_true (by omega)) ?_
    have l1 := hM1.l.index (k := .i64) (j := (a : Int)) (by omega) (by omega)
    rw [Int.toNat_natCast] at l1
    have l2 := hM1.l.f1 (i := a) (by omega)
    have l3 := hM1.l.value (i := a) (by omega)
    refine AC_seq ?_
    refine AC_regD [24] mixed (by kernel_rfl) ?_
    refine AQ_take TT_ok 24 rfl (by simp only [go_sem, h0, h1, h3, h9, anil_ptr, f101 _ 2 (by decide), f101 _ 1 (by decide), f101 _ 0 (by decide), hM1.ob.load, ap4_2 _ _ _ _ 24 rfl, ap4_1 _ _ _ _ 30 rfl, ap4_0 _ _ _ _ 22 rfl, ka, kb, aslice_S10 hla, l1, l2, l3, List.map_cons, List.map_nil, bl49, kx] <;> rfl) ?_
    refine AQ_storeE TT_ok TT_49 rfl (by simp only [go_sem] <;> rfl) (by simp only [go_sem] <;> rfl) (Lay.nd _) rfl hO (rowsLen20 _ hlen1) (.inl (hv1 _ hO.vid)) (.inr rfl) fun H2 hX2 hO2 hL2 => ?_
    refine AQ_nil ?_
    have hN := NdB.set hlen1 rfl hO2
    rw [set_mid] at hN
    have hM2 := hM1.put hO.vid hX2 hN
    refine AC_seqQ TT_ok (by simp only [go_sem, h9] <;> rfl) ?_
    refine AC_ret ⟨.inl rfl, _, rfl, by simp only [go_sem], vt1, vp1, ?_, hv1, hvp1⟩
    rw [sg_cons ps a b at_ hlt hle, hone, sg_nil, bld_one, pth_one]
    exact hM2
  · refine AC_f (by simp only [go_sem] <;> rfl) (decide_eq_false (by omega)) ?_
    refine AC_skip ?_
    have h2b : a + 1 < b := by omega
    obtain ⟨y, r, e1, e2, e3⟩ := sg_two (at_ := at_) h2b hle
    have kc := hM1.n.index (k := .i64) (j := b - 1) (by rw [nks_length]; omega)
    have kd := hM1.n.load (i := b - 1) (by rw [nks_length]; omega)
    have knb : (nks ps)[b - 1]'(by rw [nks_length]; omega) = nib (ps[b - 1]).key := by simp [nks]
    rw [knb] at kd
    have wb1 := wrapNN (x := (b : Int) - 1) (m := b - 1) (by omega) (by omega)
    have hkla : (nib (ps[a]).key).length < 2^31 := by
      have := hkl _ (List.getElem_mem (show a < ps.length by omega)); rw [nib_length]; omega
    refine AC_cut (fun e' H' => H' = H1 ∧ get e' 0 = .pointer (some ⟨mi, 0, none⟩) ∧ get e' 1 = .int .i64 (a : Nat) ∧ get e' 2 = .int .i64 (b : Nat) ∧ get e' 3 = .int .i64 (at_ : Nat) ∧ get e' 9 = .int .i64 (t.length : Nat) ∧ get e' 10 = .int .i64 (com ((nib (ps[a]).key).drop at_) ((nib (ps[b - 1]).key).drop at_) : Nat)) ?_ (fun E2 H2 _ ⟨hH, g0, g1, g2, g3, g9, g10⟩ => ?_)
    · refine AC_regD [] mixed (by kernel_rfl) ?_
      refine AQ_take TT_ok 19 rfl (by simp only [go_sem, h0, h1, h2, h3, anil_ptr, f101 _ 1 (by decide), hM1.ob.load, ap4_1 _ _ _ _ 30 rfl, ka, kb, aslice_S10 hla, wb1, kc, kd, aslice_S10 hlb] <;> rfl) ?_
      refine AQ_c rfl (by simp only [go_sem] <;> rfl) fok76 (by simp only [List.map_cons, List.map_nil, List.append_nil, go_sem] <;> rfl) (c76 (a := (nib (ps[a]).key).drop at_) (b := (nib (ps[b - 1]).key).drop at_) (by rw [List.length_drop]; omega)) (fun _ _ h => h.elim) (.inr (.inr fun _ _ h => h)) fun v H2 hX2 ⟨hv, hH⟩ => ?_
      subst hv hH
      refine AQ_all TT_ok rfl (by simp only [go_sem] <;> rfl) ?_
      exact ⟨rfl, by simp only [go_sem, h0], by simp only [go_sem, h1], by simp only [go_sem, h2], by simp only [go_sem, h3], by simp only [go_sem, h9], by simp only [go_sem]⟩
    subst hH
    generalize hc : com ((nib (ps[a]).key).drop at_) ((nib (ps[b - 1]).key).drop at_) = c at g10
    have hcl : c ≤ (nib (ps[a]).key).length - at_ := by
      have := com_left ((nib (ps[a]).key).drop at_) ((nib (ps[b - 1]).key).drop at_)
      rw [List.length_drop] at this
      omega
    have s1 := hX1.size
    refine AC_seq ?_
    refine AC_seqQ TT_ok (by simp only [go_sem, g10] <;> rfl) ?_
    by_cases hcp : 0 < c
    · -- an Ext
      refine AC_t (by simp only [go_sem] <;> rfl) (decide_eq_true (by omega)) ?_
      have hcom : com ((nib (ps[a]).key).drop at_) (lst y r).1 = c := by rw [e3]; exact hc
      have hbx : bld (f + 1) (sg ps a b at_) t.length = ⟨2, ((nib (ps[a]).key).drop at_).take c, false, [], zk.set 0 ((t.length + 1 : Nat) : Int)⟩ :: bld f (sg ps a b (at_ + c)) (t.length + 1) := by
        rw [e2, bld_ext _ _ _ _ _ (by dsimp only; rw [hcom]; exact hcp)]
        dsimp only
        rw [hcom, ← e2, sg_cut]
      have hpx : pth (f + 1) (sg ps a b at_) pre = pre :: pth f (sg ps a b (at_ + c)) (pre ++ ((nib (ps[a]).key).drop at_).take c) := by
        rw [e2, pth_ext _ _ _ _ _ (by dsimp only; rw [hcom]; exact hcp)]
        dsimp only
        rw [hcom, ← e2, sg_cut]
      rw [hbx] at hbd
      have hseg2 := hseg.ext_ h2b hle hc.symm
      have hpre2 : Pre ps a b (at_ + c) (pre ++ ((nib (ps[a]).key).drop at_).take c) := hpre.up fun i z1 z2 z3 => by
        have hr := hseg.ris
        rw [e2] at hr
        have hcm := hr.common _ (e2 ▸ sg_in (a := a) (b := b) (at_ := at_) (i := i) hle z1 z2)
        dsimp only at hcm
        rw [hcom] at hcm
        have hl : (((nib (ps[a]).key).drop at_).take c).length = c := by rw [List.length_take, List.length_drop]; omega
        have := List.prefix_iff_eq_take.1 hcm
        rw [hl] at this
        exact this.symm
      have hfu2 : Fu (sg ps a b (at_ + c)) f := by
        rw [← sg_cut]
        intro z hz
        obtain ⟨z0, hz0, rfl⟩ := List.mem_map.1 hz
        have h1 := hfu z0 hz0
        obtain ⟨i, q1, q2, rfl⟩ := sg_mem hle hz0
        have h3 := hseg2.len i q1 q2
        simp only [cut, List.length_drop] at h1 ⊢
        omega
      have wac := wrapNN (x := (at_ : Int) + (c : Int)) (m := at_ + c) (by omega) (by omega)
      have sl := aslice_S11 (l := nib (ps[a]).key) (a := at_) (b := at_ + c) (k := .i64) (k' := .i64) (by omega) (by omega)
      have sle : ((nib (ps[a]).key).take (at_ + c)).drop at_ = ((nib (ps[a]).key).drop at_).take c := by rw [List.drop_take, Nat.add_sub_cancel_left]
      rw [sle] at sl
      refine AC_seq ?_
      refine AC_regD [19] mixed (by kernel_rfl) ?_
      refine AQ_take TT_ok 19 rfl (by simp only [go_sem, g0, g1, g3, g9, g10, anil_ptr, f101 _ 2 (by decide), f101 _ 1 (by decide), hM1.ob.load, ap4_2 _ _ _ _ 24 rfl, ap4_1 _ _ _ _ 30 rfl, ka, kb, wac, sl, List.map_cons, List.map_nil, be49, kx] <;> rfl) ?_
      refine AQ_storeE TT_ok TT_49 rfl (by simp only [go_sem] <;> rfl) (by simp only [go_sem] <;> rfl) (Lay.nd _) rfl hO (rowsLen20 _ hlen1) (.inl (hv1 _ hO.vid)) (.inr rfl) fun H3 hX3 hO3 hL3 => ?_
      refine AQ_nil ?_
      have hN := NdB.set hlen1 rfl hO3
      rw [set_mid] at hN
      have hM3 := hM1.put hO.vid hX3 hN
      have hln : (t ++ [(⟨2, ((nib (ps[a]).key).drop at_).take c, false, [], zk⟩ : Nd)]).length = t.length + 1 := by simp
      have s3 := hX3.size
      refine AC_seq ?_
      refine AC_regL ?_
      refine AQ_take TT_ok 6 rfl (by simp only [go_sem, g0, g1, g2, g3, g10, wac] <;> rfl) ?_
      refine AQ_c rfl (by simp only [go_sem] <;> rfl) fok64 (by simp only [List.map_cons, List.map_nil, List.append_nil, go_sem] <;> rfl) (ih H3 mi vl vn vt1 vp1 ps (t ++ [⟨2, ((nib (ps[a]).key).drop at_).take c, false, [], zk⟩]) (q ++ [pre]) a b (at_ + c) (pre ++ ((nib (ps[a]).key).drop at_).take c) hM3 hseg2 hpre2 hfu2 (by simp [hql]) (by rw [hln]; simp at hbd; omega) hpl hkl) (fun i hi hm => ?_) (.inl rfl) fun v H5 hX5 ⟨hv, vt5, vp5, hM5, hv5, hp5⟩ => ?_
      · rcases hm with rfl | hm | hm
        · exact .inr (.inl rfl)
        · exact .inl (hv1 i hm)
        · exact .inl (hvp1 i hm)
      rw [hln] at hM5 hv
      subst hv
      refine AQ_all TT_ok rfl (by simp only [go_sem] <;> rfl) ?_
      have s5 := hX5.size
      rw [List.append_assoc, List.singleton_append, List.append_assoc, List.singleton_append] at hM5
      have hlen5 : t.length < (t ++ (⟨2, ((nib (ps[a]).key).drop at_).take c, false, [], zk⟩ : Nd) :: bld f (sg ps a b (at_ + c)) (t.length + 1)).length := by simp
      have kx5 := hM5.t.sl.index (k := .i64) (j := (t.length : Int)) (by omega) (Int.ofNat_lt.2 hlen5)
      rw [Int.toNat_natCast] at kx5
      have f4 := NdS.f4 hM5.t.sl hlen5
      have i0 : aindex TT 47 (ep vt5 (t.length * 20 + 4)) (.int .i64 0) = some (ep vt5 (t.length * 20 + (4 + 0))) := NdS.kidx hM5.t.sl hlen5 (c := 0) (by decide)
      obtain ⟨tj, hO5⟩ := Buf.own hM5.t (by simp)
      refine AC_seq ?_
      refine AC_regL ?_
      refine AQ_take TT_ok 9 rfl (by simp only [go_sem, g0, g9, anil_ptr, f101 _ 2 (by decide), hM5.ob.load, ap4_2 _ _ _ _ 24 rfl, kx5, f4, i0] <;> rfl) ?_
      refine AQ_storeE TT_ok TT_3 rfl (by simp only [go_sem] <;> rfl) (by simp only [go_sem] <;> rfl) (One.int _ _).lay rfl hO5 (by have := rowsLen20 _ hlen5; simp only [List.length_singleton]; omega) (.inl (Nat.le_trans (by omega) (hv5 _ hO5.vid))) (.inl rfl) fun H6 hX6 hO6 hL6 => ?_
      refine AQ_nil ?_
      have hN6 := NdB.cell (k := t.length) (j := 4 + 0) (y := ⟨2, ((nib (ps[a]).key).drop at_).take c, false, [], zk.set 0 ((t.length + 1 : Nat) : Int)⟩) hlen5 (by decide) (by
        rw [getMid]
        exact (Nd.over_kid ⟨2, ((nib (ps[a]).key).drop at_).take c, false, [], zk⟩ 0 (by decide) _).symm) hO6
      rw [setMid] at hN6
      have hM6 := hM5.put hO5.vid hX6 hN6
      refine AC_seqQ TT_ok (by simp only [go_sem, g9] <;> rfl) ?_
      refine AC_ret ⟨.inl rfl, _, rfl, by simp only [go_sem], vt5, vp5, ?_, fun j hj => Nat.le_trans (by omega) (hv5 j hj), fun j hj => Nat.le_trans (by omega) (hp5 j hj)⟩
      rw [hbx, hpx]
      exact hM6
    · -- a Branch
      have hc0 : c = 0 := by omega
      subst hc0
      refine AC_f (by simp only [go_sem] <;> rfl) (decide_eq_false (by omega)) ?_
      refine AC_skip ?_
      have hcom0 : com ((nib (ps[a]).key).drop at_) (lst y r).1 = 0 := by rw [e3]; exact hc
      have hgs0 : groups (if (nib (ps[a]).key).drop at_ = [] then y :: r else ((nib (ps[a]).key).drop at_, (ps[a]).value) :: y :: r) = gs0 ps a b at_ := by
        rw [gs0, e1, e2]; rfl
      have hbx : bld (f + 1) (sg ps a b at_) t.length = nb0 f ps a b at_ (t.length + 1) :: (brn (bld f) (gs0 ps a b at_) (t.length + 1) zk).1 := by
        rw [e2, bld_brn _ _ _ _ _ (by dsimp only; omega)]
        dsimp only
        rw [hgs0, nb0, e2]
        rfl
      have hpx : pth (f + 1) (sg ps a b at_) pre = pre :: pbrn (pth f) pre (gs0 ps a b at_) := by
        rw [e2, pth_brn _ _ _ _ _ (by dsimp only; omega)]
        dsimp only
        rw [hgs0]
      have hhd : (sg ps a b at_).headD ([], []) = ((nib (ps[a]).key).drop at_, (ps[a]).value) := by rw [e2]; rfl
      rw [hbx] at hbd
      have f0 := NdS.f0 hM1.t.sl hlen1
      refine AC_seq ?_
      refine AC_regL ?_
      refine AQ_take TT_ok 7 rfl (by simp only [go_sem, g0, g9, anil_ptr, f101 _ 2 (by decide), hM1.ob.load, ap4_2 _ _ _ _ 24 rfl, kx, f0] <;> rfl) ?_
      refine AQ_storeE TT_ok TT_3 rfl (by simp only [go_sem] <;> rfl) (by simp only [go_sem] <;> rfl) (One.int _ _).lay rfl hO (by have := rowsLen20 _ hlen1; simp only [List.length_singleton]; omega) (.inl (hv1 _ hO.vid)) (.inl rfl) fun H3 hX3 hO3 hL3 => ?_
      refine AQ_nil ?_
      have hN3 := Own.cell (k := t.length) (j := 0) (y := ⟨3, [], false, [], zk⟩) hlen1 (by decide) (by
        rw [getMid]
        exact (Nd.over_kind zNd 3).symm) hO3
      rw [setMid] at hN3
      have hM3 := hM1.put hO.vid hX3 hN3.ndB
      have hlen3 : t.length < (t ++ [(⟨3, [], false, [], zk⟩ : Nd)]).length := by simp
      have s3 := hX3.size
      have ka3 := hM3.n.index (k := .i64) (j := a) (by rw [nks_length]; omega)
      have kb3 := hM3.n.load (i := a) (by rw [nks_length]; omega)
      rw [kna] at kb3
      -- the Branch's own value
      refine AC_cut (fun e' H' => ∃ a1, a ≤ a1 ∧ a1 ≤ b ∧ a1 < b ∧ (∀ i, a1 ≤ i → (h2 : i < b) → at_ < (nib (ps[i]'(by omega)).key).length) ∧ gs0 ps a b at_ = groups (sg ps a1 b at_) ∧
          MS H' mi vl vn vt1 vp1 ps (t ++ [⟨3, [], decide ((nib (ps[a]).key).drop at_ = []), if (nib (ps[a]).key).drop at_ = [] then (ps[a]).value else [], zk⟩]) (q ++ [pre]) ∧ H3.length ≤ H'.length ∧
          get e' 0 = .pointer (some ⟨mi, 0, none⟩) ∧ get e' 1 = .int .i64 (a1 : Nat) ∧ get e' 2 = .int .i64 (b : Nat) ∧ get e' 3 = .int .i64 (at_ : Nat) ∧ get e' 9 = .int .i64 (t.length : Nat)) ?_ (fun e4 H4 _ ⟨a1, ha1, ha1b, ha1b', hfull, hgs, hM4, hl4, h0, h1, h2, h3, h9⟩ => ?_)
      · refine AC_seqQ TT_ok (by simp only [go_sem, g0, g1, g3, anil_ptr, f101 _ 1 (by decide), hM3.ob.load, ap4_1 _ _ _ _ 30 rfl, ka3, kb3] <;> rfl) ?_
        by_cases he : (nib (ps[a]).key).length = at_
        · refine AC_t (by simp only [go_sem] <;> rfl) (decide_eq_true (by omega)) ?_
          have hnil : (nib (ps[a]).key).drop at_ = [] := List.drop_eq_nil_of_le (by omega)
          obtain ⟨tk, hOk⟩ := Buf.own hM3.t (by simp)
          obtain ⟨z1, z2, z3, z4⟩ := hM3.tl tk hOk.vid
          have hXm := AExt.set1 H3 tk none
          have oM := hM3.ob.ext hXm (fun h => z4 h.symm)
          have lM := hM3.l.ext hXm (fun i _ hi h => z1 (by rw [hi, h]))
          have l1 := lM.index (k := .i64) (j := (a : Int)) (by omega) (by omega)
          rw [Int.toNat_natCast] at l1
          have l2 := lM.f1 (i := a) (by omega)
          have l3 := lM.value (i := a) (by omega)
          have kx3 := hM3.t.sl.index (k := .i64) (j := (t.length : Int)) (by omega) (Int.ofNat_lt.2 hlen3)
          rw [Int.toNat_natCast] at kx3
          have f2 := NdS.f2 hM3.t.sl hlen3
          have f3 := NdS.f3 hM3.t.sl hlen3
          obtain ⟨_, _, hOb, _, _⟩ := id hOk
          refine AC_seq ?_
          refine AC_drawM tk [] _ mixed (by kernel_rfl : Dr.schedOK .any _ [] [(0, true), (1, true), (2, true), (3, true), (4, true), (5, true), (6, true), (7, true), (8, true), (9, true), (10, true), (11, true), (12, true), (13, true), (14, true), (15, true), (16, true), (17, true), (18, true), (19, true), (20, false), (21, true), (22, true), (23, false)] = true) hOb rfl ?_
          refine AM_sel (σ := [(20, false), (21, true), (22, true), (23, false)]) TT_ok [0, 1, 2, 3, 4, 5, 6, 7, 8, 9, 10, 11, 12, 13, 14, 15, 16, 17, 18, 19] _ (by simp only [go_sem, g0, g1, g9, anil_ptr, f101 _ 2 (by decide), f101 _ 0 (by decide), oM.load, ap4_2 _ _ _ _ 24 rfl, ap4_0 _ _ _ _ 22 rfl, l1, l2, l3, kx3, f2] <;> rfl) ?_
          refine AM_storeE TT_ok rfl rfl rfl TT_4 rfl (by simp only [go_sem] <;> rfl) (by simp only [go_sem] <;> rfl) (One.bool _).lay rfl hOk (by have := rowsLen20 _ hlen3; simp only [List.length_singleton]; omega) (.inl (hv1 _ hOk.vid)) fun H5 hX5 hO5 hL5 => ?_
          have hO5' := Own.cell (k := t.length) (j := 2) (y := ⟨3, [], true, [], zk⟩) hlen3 (by decide) (by
            rw [getMid]
            exact (Nd.over_has ⟨3, [], false, [], zk⟩ true).symm) hO5
          rw [setMid] at hO5'
          have hlen5 : t.length < (t ++ [(⟨3, [], true, [], zk⟩ : Nd)]).length := by simp
          refine AM_sel (σ := [(23, false)]) TT_ok [21, 22] _ (by simp only [go_sem, kx3, f3] <;> rfl) ?_
          refine AM_storeE TT_ok rfl rfl rfl TT_9 rfl (by simp only [go_sem] <;> rfl) (by simp only [go_sem] <;> rfl) (One.str _).lay rfl hO5' (by have := rowsLen20 _ hlen5; simp only [List.length_singleton]; omega) (.inl (hv1 _ hOk.vid)) fun H6 hX6 hO6 hL6 => ?_
          have hO6' := Own.cell (k := t.length) (j := 3) (y := ⟨3, [], true, (ps[a]).value, zk⟩) hlen5 (by decide) (by
            rw [getMid]
            exact (Nd.over_value ⟨3, [], true, [], zk⟩ (ps[a]).value).symm) hO6
          rw [setMid] at hO6'
          refine AM_nil ?_
          refine AC_quiet TT_ok (by simp only [go_sem, g1, wa1] <;> rfl) ?_
          have hM6 := (hM3.put hOk.vid hX5 hO5'.ndB).put hOk.vid hX6 hO6'.ndB
          refine ⟨a + 1, by omega, by omega, h2b, hseg.full1, ?_, ?_, by have := hX5.size; have := hX6.size; omega, by simp only [go_sem, g0], by simp only [go_sem], by simp only [go_sem, g2], by simp only [go_sem, g3], by simp only [go_sem, g9]⟩
          · rw [gs0, hhd]; dsimp only; rw [if_pos hnil]
          · rw [if_pos hnil, decide_eq_true hnil]; exact hM6
        · refine AC_f (by simp only [go_sem] <;> rfl) (decide_eq_false (by omega)) ?_
          have hne : (nib (ps[a]).key).drop at_ ≠ [] := fun e => by
            have := congrArg List.length e
            simp at this
            omega
          refine AC_skip ⟨a, Nat.le_refl _, by omega, hlt, hseg.full (by omega), ?_, ?_, Nat.le_refl _, by simp only [go_sem, g0], by simp only [go_sem, g1], by simp only [go_sem, g2], by simp only [go_sem, g3], by simp only [go_sem, g9]⟩
          · rw [gs0, hhd]; dsimp only; rw [if_neg hne]
          · rw [if_neg hne, decide_eq_false hne]; exact hM3
      have hnb : nb0 f ps a b at_ (t.length + 1) = ⟨3, [], decide ((nib (ps[a]).key).drop at_ = []), if (nib (ps[a]).key).drop at_ = [] then (ps[a]).value else [], (brn (bld f) (groups (sg ps a1 b at_)) (t.length + 1) zk).2⟩ := by
        rw [nb0, hhd, hgs]
      rw [hgs] at hbd hbx hpx
      rw [hnb] at hbx
      generalize hhv : decide ((nib (ps[a]).key).drop at_ = []) = hh at hM4 hbx
      generalize hvv : (if (nib (ps[a]).key).drop at_ = [] then (ps[a]).value else []) = vv at hM4 hbx
      rw [List.length_cons] at hbd
      have hfull2 : ∀ i, a1 ≤ i → (h2 : i < b) → ∃ c : UInt8, c ≤ 15 ∧ (nib (ps[i]'(by omega)).key)[at_]? = some c := fun i q1 q2 => by
        have hl := hfull i q1 q2
        exact ⟨_, nib_small _ _ (List.getElem_mem hl), List.getElem?_eq_getElem hl⟩
      refine AC_cut (fun e' H' => ∃ vt' vp', MS H' mi vl vn vt' vp' ps (t ++ ⟨3, [], hh, vv, (brn (bld f) (groups (sg ps a1 b at_)) (t.length + 1) zk).2⟩ :: (brn (bld f) (groups (sg ps a1 b at_)) (t.length + 1) zk).1) (q ++ pre :: pbrn (pth f) pre (groups (sg ps a1 b at_))) ∧ (∀ j, vid vt' = some j → H.length ≤ j) ∧ (∀ j, vid vp' = some j → H.length ≤ j) ∧ get e' 9 = .int .i64 (t.length : Nat)) ?_ (fun E5 H5 _ ⟨vt5, vp5, hM5, hv5, hp5, g9⟩ => ?_)
      rotate_left
      · refine AC_seqQ TT_ok (by simp only [go_sem, g9] <;> rfl) ?_
        refine AC_ret ⟨.inl rfl, _, rfl, by simp only [go_sem], vt5, vp5, ?_, hv5, hp5⟩
        rw [hbx, hpx]
        exact hM5
      refine AC_block (AC_loop (fun n e' H' => ∃ (i : Nat) (Y : List Nd) (Z : List (List UInt8)) (kids : Vector Int 16) (vt' vp' : Value), n = b - i ∧ a1 ≤ i ∧ i ≤ b ∧ MS H' mi vl vn vt' vp' ps (t ++ ⟨3, [], hh, vv, kids⟩ :: Y) (q ++ pre :: Z) ∧ Z.length = Y.length ∧ (∀ j, vid vt' = some j → H.length ≤ j) ∧ (∀ j, vid vp' = some j → H.length ≤ j) ∧ H.length ≤ H'.length ∧
          brn (bld f) (groups (sg ps a1 b at_)) (t.length + 1) zk = (Y ++ (brn (bld f) (groups (sg ps i b at_)) (t.length + 1 + Y.length) kids).1, (brn (bld f) (groups (sg ps i b at_)) (t.length + 1 + Y.length) kids).2) ∧
          pbrn (pth f) pre (groups (sg ps a1 b at_)) = Z ++ pbrn (pth f) pre (groups (sg ps i b at_)) ∧
          get e' 0 = .pointer (some ⟨mi, 0, none⟩) ∧ get e' 1 = .int .i64 (i : Nat) ∧ get e' 2 = .int .i64 (b : Nat) ∧ get e' 3 = .int .i64 (at_ : Nat) ∧ get e' 9 = .int .i64 (t.length : Nat)) (b - a1)
        ⟨a1, [], [], zk, vt1, vp1, rfl, Nat.le_refl _, ha1b, hM4, rfl, hv1, hvp1, by omega, by simp, by simp, h0, h1, h2, h3, h9⟩ ?_)
      rintro n E H5 _ ⟨i, Y, Z, kids, vt3, vp3, hn, hi1, hi2, hM5, hZY, hv3, hp3, hl5, heq, hpq, g0, g1, g2, g3, g9⟩
      refine AC_seq ?_
      refine AC_seqQ TT_ok (by simp only [go_sem, g1, g2] <;> rfl) ?_
      by_cases hib : i < b
      · refine AC_t (by simp only [go_sem] <;> rfl) (lt_dec hib) ?_
        refine AC_skip ?_
        refine AC_block ?_
        obtain ⟨c, hc15, hcn⟩ := hfull2 i hi1 hib
        obtain ⟨hcl', hce⟩ := List.getElem?_eq_some_iff.1 hcn
        have hc16 : c.toNat < 16 := by
          have := UInt8.le_iff_toNat_le.1 hc15
          simp at this; omega
        have ki := hM5.n.index (k := .i64) (j := i) (by rw [nks_length]; omega)
        have kl := hM5.n.load (i := i) (by rw [nks_length]; omega)
        have kni : (nks ps)[i]'(by rw [nks_length]; omega) = nib (ps[i]).key := by simp [nks]
        rw [kni] at kl
        have kc' := aget_S (k := .i64) hcl'
        rw [hce] at kc'
        refine AC_seqQ TT_ok (by simp only [go_sem, g1] <;> rfl) ?_
        refine AC_cut (fun e' H' => H' = H5 ∧ ∃ m, ∃ (q1 : i < m) (q2 : m ≤ b), (∀ j, i ≤ j → (h : j < m) → (nib (ps[j]).key)[at_]? = some c) ∧ ((h : m < b) → (nib (ps[m]).key)[at_]? ≠ some c) ∧ get e' 0 = .pointer (some ⟨mi, 0, none⟩) ∧ get e' 1 = .int .i64 (i : Nat) ∧ get e' 2 = .int .i64 (b : Nat) ∧ get e' 3 = .int .i64 (at_ : Nat) ∧ get e' 9 = .int .i64 (t.length : Nat) ∧ get e' 12 = .int .i64 (m : Nat)) ?_ (fun E6 H6 _ hK => ?_)
        · refine AC_block (AC_loop (fun n' e' H' => ∃ (m : Nat) (q1 : i ≤ m) (q2 : m ≤ b), n' = b - m ∧ (∀ j, i ≤ j → (h : j < m) → (nib (ps[j]).key)[at_]? = some c) ∧ H' = H5 ∧ get e' 0 = .pointer (some ⟨mi, 0, none⟩) ∧ get e' 1 = .int .i64 (i : Nat) ∧ get e' 2 = .int .i64 (b : Nat) ∧ get e' 3 = .int .i64 (at_ : Nat) ∧ get e' 9 = .int .i64 (t.length : Nat) ∧ get e' 12 = .int .i64 (m : Nat)) (b - i)
            ⟨i, Nat.le_refl _, hi2, rfl, fun j q1 q2 => by omega, rfl, by simp only [go_sem, g0], by simp only [go_sem, g1], by simp only [go_sem, g2], by simp only [go_sem, g3], by simp only [go_sem, g9], by simp only [go_sem]⟩ ?_)
          rintro n' E7 H7 _ ⟨m, q1, q2, hn', hall, rfl, k0, k1, k2, k3, k9, k12⟩
          refine AC_seq ?_
          by_cases hmb : m < b
          · have d1 := lt_dec hmb
            obtain ⟨cm, _, hcm⟩ := hfull2 m (by omega) hmb
            obtain ⟨hml, hme⟩ := List.getElem?_eq_some_iff.1 hcm
            have mi' := hM5.n.index (k := .i64) (j := m) (by rw [nks_length]; omega)
            have ml := hM5.n.load (i := m) (by rw [nks_length]; omega)
            have mni : (nks ps)[m]'(by rw [nks_length]; omega) = nib (ps[m]).key := by simp [nks]
            rw [mni] at ml
            have mc := aget_S (k := .i64) hml
            rw [hme] at mc
            refine AC_seqD TT_ok mixed (by kernel_rfl) (by simp only [go_sem, k0, k1, k2, k3, k12, d1, anil_ptr, f101 _ 1 (by decide), hM5.ob.load, ap4_1 _ _ _ _ 30 rfl, mi', ml, mc, ki, kl, kc'] <;> rfl) ?_
            by_cases hcc : cm = c
            · subst hcc
              refine AC_t (by simp only [go_sem] <;> rfl) (by simp) ?_
              refine AC_skip (AC_block ?_)
              have wm := wrapN m (by omega)
              refine AC_quiet TT_ok (by simp only [go_sem, k12, wm] <;> rfl) ?_
              refine ⟨b - (m + 1), by omega, m + 1, by omega, by omega, rfl, fun j z1 z2 => ?_, rfl, by simp only [go_sem, k0], by simp only [go_sem, k1], by simp only [go_sem, k2], by simp only [go_sem, k3], by simp only [go_sem, k9], by simp only [go_sem]⟩
              by_cases hj : j < m
              · exact hall j z1 hj
              · have : j = m := by omega
                subst this; exact hcm
            · refine AC_f (by simp only [go_sem] <;> rfl) (decide_eq_false hcc) ?_
              have him : i ≠ m := by
                rintro rfl
                rw [hcn] at hcm
                exact hcc (Option.some.inj hcm).symm
              refine AC_exit ⟨rfl, m, by omega, q2, hall, fun h => ?_, by simp only [go_sem, k0], by simp only [go_sem, k1], by simp only [go_sem, k2], by simp only [go_sem, k3], by simp only [go_sem, k9], by simp only [go_sem, k12]⟩
              rw [hcm]
              exact fun e => hcc (Option.some.inj e)
          · have d1 := ge_dec (a := m) (b := b) (by omega)
            refine AC_seqD TT_ok mixed (by kernel_rfl) (by simp only [go_sem, k2, k12, d1] <;> rfl) ?_
            refine AC_f (by simp only [go_sem] <;> rfl) (rfl) ?_
            exact AC_exit ⟨rfl, m, by omega, q2, hall, fun h => absurd h hmb, by simp only [go_sem, k0], by simp only [go_sem, k1], by simp only [go_sem, k2], by simp only [go_sem, k3], by simp only [go_sem, k9], by simp only [go_sem, k12]⟩
        obtain ⟨rfl, m, q1, q2, hall, hnx, k0, k1, k2, k3, k9, k12⟩ := hK
        have hgr := groups_sg (ps := ps) (a := i) (m := m) (b := b) (at_ := at_) (c := c) hle q1 q2 (fun j z1 z2 => hall j z1 z2) (fun h => ⟨hnx h, hfull m (by omega) h⟩)
        have hsegi : Seg ps i m (at_ + 1) := (hseg.part (m := i) (e := m) (by omega) q1 q2).down (fun j z1 z2 => hall j z1 z2)
        have hprei : Pre ps i m (at_ + 1) (pre ++ [c]) := (hpre.part (m := i) (e := m) (by omega) q2).up fun j z1 z2 z3 => by
          obtain ⟨hl, he⟩ := List.getElem?_eq_some_iff.1 (hall j z1 z2)
          rw [List.drop_eq_getElem_cons hl, he]; rfl
        have hfui : Fu (sg ps i m (at_ + 1)) f := by
          intro z hz
          obtain ⟨j, z1, z2, rfl⟩ := sg_mem (by omega) hz
          have h1 := hfu _ (sg_in (a := a) (b := b) (at_ := at_) (i := j) hle (by omega) (by omega))
          have h2 := hfull j (by omega) (by omega)
          simp only [List.length_drop] at h1 ⊢
          omega
        rw [hgr, brn_cons] at heq
        rw [hgr, pbrn_cons] at hpq
        have hlenY : (t ++ (⟨3, [], hh, vv, kids⟩ : Nd) :: Y).length = t.length + 1 + Y.length := by simp; omega
        have hbd2 : t.length + 1 + Y.length + (bld f (sg ps i m (at_ + 1)) (t.length + 1 + Y.length)).length < 2^30 := by
          rw [heq] at hbd
          simp only [List.length_append] at hbd
          omega
        have wat := wrapN at_ (by have := hsegi.len i (Nat.le_refl _) q1; have := hkl _ (List.getElem_mem (show i < ps.length by omega)); have := nib_length (ps[i]).key; omega)
        refine AC_seq ?_
        refine AC_regL ?_
        refine AQ_take TT_ok 5 rfl (by simp only [go_sem, k0, k1, k3, k12, wat] <;> rfl) ?_
        refine AQ_c rfl (by simp only [go_sem] <;> rfl) fok64 (by simp only [List.map_cons, List.map_nil, List.append_nil, go_sem] <;> rfl) (ih H6 mi vl vn vt3 vp3 ps (t ++ ⟨3, [], hh, vv, kids⟩ :: Y) (q ++ pre :: Z) i m (at_ + 1) (pre ++ [c]) hM5 hsegi hprei hfui (by simp [hql, hZY]) (by rw [hlenY]; exact hbd2) hpl hkl) (fun j hj hm => ?_) (.inl rfl) fun v H7 hX7 ⟨hv, vt7, vp7, hM7, hv7, hp7⟩ => ?_
        · rcases hm with rfl | hm | hm
          · exact .inr (.inl rfl)
          · exact .inl (hv3 j hm)
          · exact .inl (hp3 j hm)
        rw [hlenY] at hM7 hv
        subst hv
        refine AQ_all TT_ok rfl (by simp only [go_sem] <;> rfl) ?_
        have s7 := hX7.size
        rw [List.append_assoc, List.cons_append, List.append_assoc, List.cons_append] at hM7
        have hlen7 : t.length < (t ++ (⟨3, [], hh, vv, kids⟩ : Nd) :: (Y ++ bld f (sg ps i m (at_ + 1)) (t.length + 1 + Y.length))).length := by simp
        have kx7 := hM7.t.sl.index (k := .i64) (j := (t.length : Int)) (by omega) (Int.ofNat_lt.2 hlen7)
        rw [Int.toNat_natCast] at kx7
        have f4 := NdS.f4 hM7.t.sl hlen7
        have ix := kidxU hM7.t.sl hlen7 hc16
        obtain ⟨tj, hO7⟩ := Buf.own hM7.t (by simp)
        have ki7 := hM7.n.index (k := .i64) (j := i) (by rw [nks_length]; omega)
        have kl7 := hM7.n.load (i := i) (by rw [nks_length]; omega)
        rw [kni] at kl7
        refine AC_seq ?_
        refine AC_regD [18] mixed (by kernel_rfl) ?_
        refine AQ_take TT_ok 18 rfl (by simp only [go_sem, k0, k1, k3, k9, anil_ptr, f101 _ 2 (by decide), f101 _ 1 (by decide), hM7.ob.load, ap4_2 _ _ _ _ 24 rfl, ap4_1 _ _ _ _ 30 rfl, ki7, kl7, kc', kx7, f4, ix] <;> rfl) ?_
        refine AQ_storeE TT_ok TT_3 rfl (by simp only [go_sem] <;> rfl) (by simp only [go_sem] <;> rfl) (One.int _ _).lay rfl hO7 (by have := rowsLen20 _ hlen7; simp only [List.length_singleton]; omega) (.inl (by have := hv7 _ hO7.vid; omega)) (.inr rfl) fun H8 hX8 hO8 hL8 => ?_
        refine AQ_nil ?_
        have hN8 := Own.cell (k := t.length) (j := 4 + c.toNat) (y := ⟨3, [], hh, vv, kids.set c.toNat ((t.length + 1 + Y.length : Nat) : Int) hc16⟩) hlen7 (by omega) (by
          rw [getMid]
          exact (Nd.over_kid ⟨3, [], hh, vv, kids⟩ c.toNat hc16 _).symm) hO8
        rw [setMid] at hN8
        have hM8 := hM7.put hO7.vid hX8 hN8.ndB
        refine AC_quiet TT_ok (by simp only [go_sem, k12] <;> rfl) ?_
        have hsk : setk kids c ((t.length + 1 + Y.length : Nat) : Int) = kids.set c.toNat ((t.length + 1 + Y.length : Nat) : Int) hc16 := by rw [setk, dif_pos hc16]
        refine ⟨b - m, by omega, m, Y ++ bld f (sg ps i m (at_ + 1)) (t.length + 1 + Y.length), Z ++ pth f (sg ps i m (at_ + 1)) (pre ++ [c]), setk kids c ((t.length + 1 + Y.length : Nat) : Int), vt7, vp7, rfl, by omega, q2, ?_, ?_, fun j hj => ?_, fun j hj => ?_, by have := hX8.size; omega, ?_, ?_, by simp only [go_sem, k0], by simp only [go_sem], by simp only [go_sem, k2], by simp only [go_sem, k3], by simp only [go_sem, k9]⟩
        · rw [hsk]; exact hM8
        · rw [List.length_append, List.length_append, hZY, pth_len]
        · have := hv7 j hj; omega
        · have := hp7 j hj; omega
        · rw [heq, List.length_append, ← Nat.add_assoc, List.append_assoc]
        · rw [hpq, List.append_assoc]
      · refine AC_f (by simp only [go_sem] <;> rfl) (ge_dec (by omega)) ?_
        have : i = b := by omega
        subst this
        rw [sg_nil] at heq hpq
        have e1 : groups [] = [] := rfl
        rw [e1, brn] at heq
        rw [e1, pbrn] at hpq
        simp only [List.append_nil] at heq hpq
        refine AC_exit ⟨vt3, vp3, ?_, hv3, hp3, by simp only [go_sem, g9]⟩
        rw [heq, hpq]; exact hM5
theorem all64 : ∀ f, P64 f
  | 0 => fun H mi vl vn vt vp ps t q a b at_ pre hM hs _ hf _ _ _ _ => by
    have := hf _ (sg_in (a := a) (b := b) (at_ := at_) (i := a) hs.le (Nat.le_refl _) hs.lt)
    omega
  | f + 1 => c64 (all64 f)
end Go.Proofs.Ythalogdopkoidaa.Ab
set_option linter.unusedVariables false
set_option linter.unusedSimpArgs false
namespace Go.Proofs.Ythalogdopkoidaa.Ab
open Go Go.RowKit
theorem b101 {v : Value} (h : One v) : abuild TT 101 [(0, v)] = some (.agg #[v, .slice none 0 0, .slice none 0 0, .slice none 0 0]) := by
  have hs : v.cells.size = 1 := by rw [h.cells]; rfl
  simp only [abuild, TT_101]
  rw [if_pos (by decide)]
  simp only [afill, placeOf]
  simp only [List.getElem?_cons_zero, TT_22, Option.map_some]
  rw [if_pos ⟨h.known, hs, by decide⟩, h.cells]
  rfl
theorem bz32 : abuild TT 32 [] = some (.agg #[.slice none 0 0, .slice none 0 0, .bool false]) := rfl
theorem b32 {a b : Value} (ha : One a) (hb : One b) : abuild TT 32 [(0, a), (1, b), (2, .bool true)] = some (.agg #[a, b, .bool true]) := by
  have h1 : a.cells.size = 1 := by rw [ha.cells]; rfl
  have h2 : b.cells.size = 1 := by rw [hb.cells]; rfl
  simp only [abuild, TT_32]
  rw [if_pos (by decide)]
  simp only [afill, placeOf]
  simp only [List.getElem?_cons_zero, List.getElem?_cons_succ, TT_24, TT_30, TT_4, Option.map_some]
  rw [if_pos ⟨ha.known, h1, by decide⟩, ha.cells]
  dsimp only
  rw [if_pos ⟨hb.known, h2, by show 1 + 1 ≤ 3; decide⟩, hb.cells]
  rfl
theorem ap32 (a b c : Value) : apart TT 32 [a, b, c] 0 = some (.agg #[a, b, c]) := by
  unfold apart; rw [TT_32]; rfl
theorem Lay.three {a b c : Value} (ha : One a) (hb : One b) (hc : One c) : Lay (.agg #[a, b, c]) [a, b, c] := Lay.agg (l := [a, b, c]) (fun v hv => by
  simp only [List.mem_cons, List.not_mem_nil, or_false] at hv
  rcases hv with rfl | rfl | rfl <;> assumption)
set_option maxHeartbeats 4000000 in
theorem c30 {H : AHeap} {vl : Value} {ps : List Pr} (hS : PrS H vl ps) (hl : ps.length < 2^20) : ACalls Try.prog 30 [vl] H (fun _ => False) fun v H' =>
    ∃ vt vp, v = .agg #[vt, vp, .bool (decide (May ps))] ∧ NdB H' vt (if May ps then build ps else []) ∧ StB H' vp (if May ps then paths ps else []) ∧ (∀ j, vid vt = some j → H.length ≤ j) ∧ ∀ j, vid vp = some j → H.length ≤ j := by
  refine ACalls_by 49 TT_ok Try.func30 rfl rfl rfl (by simp) ?_
  refine AC_seq ?_
  refine AC_regL ?_
  refine AQ_alloc TT_ok TT_32 rfl fun H1 hX1 hO1 hL1 => ?_
  refine AQ_nil ?_
  have hS1 := hS.keep hX1
  refine AC_cut (fun e' H' => H' = H1 ∧ May ps ∧ get e' 0 = vl ∧ get e' 2 = .pointer (some ⟨H.length, 0, none⟩)) ?_ (fun e2 H2 _ ⟨hH, hm, g0, g2⟩ => ?_)
  · refine AC_seq ?_
    refine AC_regL ?_
    refine AQ_take TT_ok 1 rfl (by simp only [go_sem] <;> rfl) ?_
    refine AQ_c rfl (by simp only [go_sem] <;> rfl) fok39 (by simp only [List.map_cons, List.map_nil, List.append_nil, go_sem] <;> rfl) (c39 hS1 (by omega)) (fun _ _ h => h.elim) (.inl rfl) fun r H2 hX2 ⟨hr, hH⟩ => ?_
    subst hr hH
    refine AQ_all TT_ok rfl (by simp only [go_sem] <;> rfl) ?_
    by_cases hm : May ps
    · have hd : decide (May ps) = true := decide_eq_true hm
      refine AC_f (by simp only [go_sem] <;> rfl) (by rw [hd]; rfl) ?_
      exact AC_skip ⟨rfl, hm, by simp only [go_sem], by simp only [go_sem]⟩
    · have hd : decide (May ps) = false := decide_eq_false hm
      refine AC_t (by simp only [go_sem] <;> rfl) (by rw [hd]; rfl) ?_
      refine AC_seq ?_
      refine AC_regL ?_
      refine AQ_take TT_ok 1 rfl (by simp only [go_sem, List.map_nil, bz32] <;> rfl) ?_
      refine AQ_store TT_ok TT_32 rfl (by simp only [go_sem] <;> rfl) (by simp only [go_sem] <;> rfl) (Lay.three (One.slice _ _ _) (One.slice _ _ _) (One.bool _)) rfl hO1 (by decide) (.inl (Nat.le_refl _)) (.inl rfl) fun H3 hX3 hO3 hL3 => ?_
      refine AQ_nil ?_
      refine AC_ret ⟨.inl rfl, .agg #[.slice none 0 0, .slice none 0 0, .bool false], ?_, .slice none 0 0, .slice none 0 0, by rw [hd], ?_, ?_, fun j hj => (by cases hj), fun j hj => (by cases hj)⟩
      · show ares TT H3 _ [.cell 2 32] = _
        have hO3' : Ob H3 H.length 32 [.slice none 0 0, .slice none 0 0, .bool false] := hO3
        simp only [ares, List.mapM_cons, List.mapM_nil, ares1, go_sem, hO3'.load, ap32]
        rfl
      · rw [if_neg hm]; exact Buf.nil _ _
      · rw [if_neg hm]; exact Buf.nil _ _
  subst hH
  have hd : decide (May ps) = true := decide_eq_true hm
  refine AC_seq ?_
  refine AC_regL ?_
  refine AQ_take TT_ok 2 rfl (by simp only [go_sem, g0, List.map_cons, List.map_nil, b101 hS.one] <;> rfl) ?_
  have hlay : Lay (.agg #[vl, .slice none 0 0, .slice none 0 0, .slice none 0 0]) [vl, .slice none 0 0, .slice none 0 0, .slice none 0 0] := Lay.agg (l := [vl, .slice none 0 0, .slice none 0 0, .slice none 0 0]) (fun v hv => by
    simp only [List.mem_cons, List.not_mem_nil, or_false] at hv
    rcases hv with rfl | rfl | rfl | rfl
    · exact hS.one
    · exact One.slice _ _ _
    · exact One.slice _ _ _
    · exact One.slice _ _ _)
  refine AQ_box TT_ok TT_101 rfl (by simp only [go_sem] <;> rfl) hlay rfl fun H3 hX3 hO3 hL3 => ?_
  refine AQ_all TT_ok rfl (by simp only [go_sem] <;> rfl) ?_
  have hvl : ∀ j, vid vl = some j → j < H.length := fun j hj => hS.vid_lt hj
  have hX13 := hX1.trans hX3
  have hR3 := hO1.keep hX3
  refine AC_cut (fun e' H' => ∃ vn, Ob H' H2.length 101 [vl, vn, .slice none 0 0, .slice none 0 0] ∧ StB H' vn (nks ps) ∧ (∀ j, vid vn = some j → H2.length < j) ∧ AExt (fun _ => False) H H' ∧ Ob H' H.length 32 [.slice none 0 0, .slice none 0 0, .bool false] ∧ get e' 0 = vl ∧ get e' 2 = .pointer (some ⟨H.length, 0, none⟩) ∧ get e' 3 = .pointer (some ⟨H2.length, 0, none⟩)) ?_ (fun e4 H4 _ ⟨vn, hO4, hN4, hv4, hX4, hR4, g0, g2, g3⟩ => ?_)
  · refine AC_seqQ TT_ok (by simp only [go_sem] <;> rfl) ?_
    refine AC_block (AC_loop (fun n e' H' => ∃ (i : Nat) (vn : Value), n = ps.length - i ∧ i ≤ ps.length ∧ Ob H' H2.length 101 [vl, vn, .slice none 0 0, .slice none 0 0] ∧ StB H' vn ((nks ps).take i) ∧ (∀ j, vid vn = some j → H2.length < j) ∧ AExt (fun _ => False) H H' ∧ Ob H' H.length 32 [.slice none 0 0, .slice none 0 0, .bool false] ∧ get e' 0 = vl ∧ get e' 2 = .pointer (some ⟨H.length, 0, none⟩) ∧ get e' 3 = .pointer (some ⟨H2.length, 0, none⟩) ∧ get e' 4 = .int .i64 (i : Nat)) ps.length
      ⟨0, .slice none 0 0, by simp, by simp, hO3, Buf.nil _ _, fun j hj => (by cases hj), hX13, hR3, by simp only [go_sem, g0], by simp only [go_sem, g2], by simp only [go_sem], by simp only [go_sem] <;> simp⟩ ?_)
    rintro n E H4 _ ⟨i, vn, hn, hi, hO4, hN4, hv4, hX4, hR4, g0, g2, g3, g4⟩
    have hS4 := hS.keep hX4
    refine AC_seq ?_
    refine AC_seqQ TT_ok (by simp only [go_sem, g0, g4, hS4.alen] <;> rfl) ?_
    by_cases hi' : i < ps.length
    · refine AC_t (by simp only [go_sem] <;> rfl) (lt_dec hi') ?_
      refine AC_skip ?_
      refine AC_seq (AC_block ?_)
      have k5 := wrapN i (by omega)
      have hkey := (hm.1 _ (List.getElem_mem hi')).2.1
      have s4 := hX4.size
      have hl4 := hO4.lt
      have hvn1 : ¬ vid vn = some H2.length := fun h => Nat.lt_irrefl _ (hv4 _ h)
      have oM := hO4.ext (msk_ext H4 vn) hvn1
      have sM : PrS (msk H4 vn) vl ps := hS4.ext (msk_ext H4 vn) fun j hj hv h => by have := hvl j hv; have := hv4 j h; omega
      have l1 := sM.index (k := .i64) (j := (i : Int)) (by omega) (by omega)
      rw [Int.toNat_natCast] at l1
      have l2 := sM.f0 hi'
      have l3 := sM.key hi'
      refine AC_drawG (fun j => vid vn = some j) (msk H4 vn) [15] [(0, true), (1, true), (2, true), (3, true), (4, true), (5, true), (6, true), (7, true), (8, true), (9, true), (10, false), (11, false), (12, false), (13, true), (14, true), (15, false)] mixed (by kernel_rfl) (Buf.live hN4) (fun j o h => msk_live h) (Nat.le_of_eq (msk_len _ _)) ?_
      refine AG_sel (σ := [(10, false), (11, false), (12, false), (13, true), (14, true), (15, false)]) TT_ok [0, 1, 2, 3, 4, 5, 6, 7, 8, 9] _ (by simp only [go_sem, g0, g3, g4, anil_ptr, f101 _ 1 (by decide), oM.load, ap4_1 _ _ _ _ 30 rfl, l1, l2, l3] <;> rfl) ?_
      refine AG_c rfl rfl (by simp only [go_sem] <;> rfl) fok55 (by simp only [List.map_cons, List.map_nil, List.append_nil, go_sem] <;> rfl) (c55 (a := ps[i].key) (by omega)) fun v H5 hX5 hv => ?_
      subst hv
      refine AG_lit TT_ok [S (nib ps[i].key)] rfl TT_30 rfl TT_9 rfl (by decide) rfl (by decide) rfl (by simp only [List.map_cons, List.map_nil, go_sem, numbered]) (fun v hv => ?_) fun H6 hX6 hO6 hL6 => ?_
      · rw [List.mem_singleton] at hv; subst hv; exact ⟨_, (One.str _).lay, rfl⟩
      have hX56 := hX5.trans hX6
      have hil : ((nks ps).take i).length = i := by rw [List.length_take, nks_length]; omega
      have s2 : H2.length = H.length + 1 := hL1
      refine AG_append TT_ok (v := vn) (n := ((nks ps).take i).length) (m := 1) rfl TT_30 rfl TT_9 (by decide) (by decide) rfl (by simp only [go_sem]) (by simp only [go_sem]) (Buf.keep hN4 hX56) hO6.sl (rows_length sCell_len _) rfl (by rw [hil]; simp; omega) (fun j hj => .inl (by have := hv4 j hj; omega)) (fun j _ hj => hj) fun v' H7 hX7 hB7 hv7 => ?_
      have hB7' : StB H7 v' ((nks ps).take (i + 1)) := by
        have e : ((nks ps).take i).flatMap sCell ++ ([S (nib ps[i].key)] : List Value).flatMap (fun v => v.cells.toList) = ((nks ps).take (i + 1)).flatMap sCell := by
          rw [tk (by rw [nks_length]; exact hi'), List.flatMap_append]
          simp only [nks, List.getElem_map]
          rfl
        rw [e] at hB7
        have el : ((nks ps).take (i + 1)).length = ((nks ps).take i).length + 1 := by rw [hil, List.length_take, nks_length]; omega
        rw [StB, el]; exact hB7
      have hv7' : ∀ j, vid v' = some j → H6.length ≤ j := fun j hj => by
        rcases hv7 j hj with h | h
        · exact h
        · cases h.1
      have hO7 : Ob H7 H2.length 101 [vl, vn, .slice none 0 0, .slice none 0 0] := (hO4.keep hX56).ext hX7 hvn1
      refine AG_sel (σ := [(15, false)]) TT_ok [13, 14] _ (by simp only [go_sem, anil_ptr, f101 _ 1 (by decide)] <;> rfl) ?_
      refine AG_store TT_ok rfl TT_30 rfl (by simp only [go_sem] <;> rfl) (by simp only [go_sem] <;> rfl) hB7'.sl.one.lay rfl hO7 (by simp) (.inl (by omega)) rfl fun H8 hX8 hO8 hL8 => ?_
      refine AG_nil ?_
      refine AC_quiet TT_ok (by simp only [go_sem, g4, k5] <;> rfl) ?_
      have s5 := hX56.size
      have s7 := hX7.size
      refine ⟨ps.length - (i + 1), by omega, i + 1, v', rfl, by omega, hO8, Buf.ext hB7' hX8 (fun j hj h => ?_), fun j hj => ?_, ?_, ((hR4.keep hX56).ext hX7 (fun h => ?_)).ext hX8 (by omega), by simp only [go_sem, g0], by simp only [go_sem, g2], by simp only [go_sem, g3], by simp only [go_sem]⟩
      · have := hv7' j hj; omega
      · have := hv7' j hj; omega
      · refine ⟨by have := hX8.size; omega, fun j hj _ => ?_⟩
        rw [hX8.obj j (by omega) (by omega), hX7.obj j (by omega) (fun h => by have := hv4 j h; omega), hX56.obj j (by omega) id, hX4.obj j hj id]
      · have := hv4 _ h; omega
    · refine AC_f (by simp only [go_sem] <;> rfl) (ge_dec (by omega)) ?_
      refine AC_exit ⟨vn, hO4, ?_, hv4, hX4, hR4, by simp only [go_sem, g0], by simp only [go_sem, g2], by simp only [go_sem, g3]⟩
      rwa [List.take_of_length_le (by rw [nks_length]; omega)] at hN4
  have hS4 := hS.keep hX4
  have s4 := hX4.size
  have s2 : H2.length = H.length + 1 := hL1
  have hM4 : MS H4 H2.length vl vn (.slice none 0 0) (.slice none 0 0) ps [] [] := ⟨hO4, hS4, hN4.sl, Buf.nil _ _, Buf.nil _ _, fun j hj => (by cases hj), fun j hj => (by cases hj), fun h => by have := hvl _ h; omega, fun h => by have := hv4 _ h; omega⟩
  refine AC_cut (fun e' H' => ∃ vt vp, MS H' H2.length vl vn vt vp ps (build ps) (paths ps) ∧ (∀ j, vid vt = some j → H.length < j) ∧ (∀ j, vid vp = some j → H.length < j) ∧ Ob H' H.length 32 [.slice none 0 0, .slice none 0 0, .bool false] ∧ get e' 2 = .pointer (some ⟨H.length, 0, none⟩) ∧ get e' 3 = .pointer (some ⟨H2.length, 0, none⟩)) ?_ (fun e5 H5 _ ⟨vt, vp, hM5, hv5, hp5, hR5, g2, g3⟩ => ?_)
  · refine AC_seqQ TT_ok (by simp only [go_sem, g0, hS4.alen] <;> rfl) ?_
    by_cases hz : ps = []
    · refine AC_f (by simp only [go_sem] <;> rfl) (decide_eq_false (by rw [hz]; simp)) ?_
      refine AC_skip ⟨.slice none 0 0, .slice none 0 0, ?_, fun j hj => (by cases hj), fun j hj => (by cases hj), hR4, by simp only [go_sem, g2], by simp only [go_sem, g3]⟩
      rw [build, paths, if_pos hz, if_pos hz]; exact hM4
    · have hpos := List.length_pos_iff.2 hz
      refine AC_t (by simp only [go_sem] <;> rfl) (decide_eq_true (by omega)) ?_
      have hb17 : build ps = bld 17 (sx ps) 0 := by rw [build, if_neg hz]
      have hp17 : paths ps = pth 17 (sx ps) [] := by rw [paths, if_neg hz]
      have hlen := build_len ps
      rw [hb17] at hlen
      refine AC_regL ?_
      refine AQ_take TT_ok 3 rfl (by simp only [go_sem, g0, g3, hS4.alen] <;> rfl) ?_
      refine AQ_c rfl (by simp only [go_sem] <;> rfl) fok64 (by simp only [List.map_cons, List.map_nil, List.append_nil, go_sem] <;> rfl) (all64 17 H4 H2.length vl vn (.slice none 0 0) (.slice none 0 0) ps [] [] 0 ps.length 0 [] hM4 (Seg.all hm hz) (fun i _ _ _ => by simp) (by rw [sg_all]; exact Fu.all hm) rfl (by rw [sg_all]; simp; omega) (by omega) (fun p hp => by have := (hm.1 p hp).2.1; omega)) (fun j _ hj => ?_) (.inl rfl) fun v H6 hX6 ⟨hv, vt6, vp6, hM6, hv6, hp6⟩ => ?_
      · rcases hj with rfl | hj | hj
        · exact .inl (by omega)
        · cases hj
        · cases hj
      have hl4 := hO4.lt
      refine AQ_nil ⟨vt6, vp6, ?_, fun j hj => by have := hv6 j hj; omega, fun j hj => by have := hp6 j hj; omega, hR4.ext hX6 (fun h => ?_), by simp only [go_sem, g2], by simp only [go_sem, g3]⟩
      · rw [hb17, hp17, ← sg_all]
        simpa using hM6
      · rcases h with h | h | h
        · omega
        · cases h
        · cases h
  · refine AC_seq ?_
    refine AC_regD [9] mixed (by kernel_rfl) ?_
    refine AQ_take TT_ok 9 rfl (by simp only [go_sem, g3, anil_ptr, f101 _ 2 (by decide), f101 _ 3 (by decide), hM5.ob.load, ap4_2 _ _ _ _ 24 rfl, ap4_3 _ _ _ _ 30 rfl, List.map_cons, List.map_nil, b32 hM5.t.sl.one hM5.p.sl.one] <;> rfl) ?_
    refine AQ_store TT_ok TT_32 rfl (by simp only [go_sem, g2] <;> rfl) (by simp only [go_sem] <;> rfl) (Lay.three hM5.t.sl.one hM5.p.sl.one (One.bool _)) rfl hR5 (by show 0 + 3 ≤ 3; decide) (.inl (Nat.le_refl _)) (.inr rfl) fun H6 hX6 hO6 hL6 => ?_
    refine AQ_nil ?_
    refine AC_ret ⟨.inl rfl, .agg #[vt, vp, .bool true], ?_, vt, vp, by rw [hd], ?_, ?_, fun j hj => Nat.le_of_lt (hv5 j hj), fun j hj => Nat.le_of_lt (hp5 j hj)⟩
    · show ares TT H6 _ [.cell 2 32] = _
      have hO6' : Ob H6 H.length 32 [vt, vp, .bool true] := hO6
      simp only [ares, List.mapM_cons, List.mapM_nil, ares1, go_sem, g2, hO6'.load, ap32]
      rfl
    · rw [if_pos hm]
      exact Buf.ext hM5.t hX6 (fun j hj h => by have := hv5 j hj; omega)
    · rw [if_pos hm]
      exact Buf.ext hM5.p hX6 (fun j hj h => by have := hp5 j hj; omega)
end Go.Proofs.Ythalogdopkoidaa.Ab
