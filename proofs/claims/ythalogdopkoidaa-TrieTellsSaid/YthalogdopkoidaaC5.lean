/- Contracts: may pairs be? No statement of the seat's in it. -/
import Derived.Test.YthalogdopkoidaaC4
import Derived.Test.YthalogdopkoidaaB8
set_option linter.unusedVariables false
set_option linter.unusedSimpArgs false
namespace Go.Proofs.Ythalogdopkoidaa.Ab
open Go Go.RowKit

theorem dec_le {a b : List UInt8} (h : a < b) : decide (b ≤ a) = false := decide_eq_false (fun h' => List.not_lt.2 h' h)

set_option maxHeartbeats 2000000 in
theorem c39 {H : AHeap} {vl : Value} {l : List Pr} (hS : PrS H vl l) (hl : l.length < 2^40) : ACalls Try.prog 39 [vl] H (fun _ => False) fun v H' => v = .bool (decide (May l)) ∧ H' = H := by
  refine ACalls_by 53 TT_ok Try.func39 rfl rfl rfl (by simp) ?_
  refine AC_seqQ TT_ok (by simp only [go_sem] <;> rfl) ?_
  refine AC_seq ?_
  refine AC_seqQ TT_ok (by simp only [go_sem] <;> rfl) ?_
  refine AC_block (AC_loop (fun n e' H' => ∃ i : Nat, n = l.length - i ∧ i ≤ l.length ∧ May (l.take i) ∧ H' = H ∧ get e' 0 = vl ∧ get e' 3 = .int .i64 (i : Nat)) l.length ⟨0, by simp, by simp, May.nil, rfl, by simp only [go_sem], by simp only [go_sem] <;> simp⟩ ?_)
  rintro n e1 H1 _ ⟨i, hn, hi, hm, rfl, h0, h3⟩
  have k5 := wrapN i (by omega)
  refine AC_seq ?_
  refine AC_seqQ TT_ok (by simp only [go_sem, h0, h3, hS.alen] <;> rfl) ?_
  by_cases hi' : i < l.length
  · refine AC_t (by simp only [go_sem] <;> rfl) (lt_dec hi') ?_
    refine AC_skip ?_
    have a1 := hS.index (k := .i64) (j := (i : Int)) (by omega) (by omega)
    rw [Int.toNat_natCast] at a1
    have a2 := hS.f0 hi'
    have a3 := hS.key hi'
    have a4 := hS.f1 hi'
    have a5 := hS.value hi'
    refine AC_seq (AC_block ?_)
    by_cases hx : Nxt l i hi'
    · refine AC_cut (fun e' H' => H' = H1 ∧ get e' 0 = vl ∧ get e' 3 = .int .i64 (i : Nat) ∧ get e' 52 = .bool false) ?_ (fun e2 H2 hX2 ⟨hH, g0, g3, g52⟩ => ?_)
      · obtain ⟨⟨p1, p2, p3⟩, hlt⟩ := hx
        have d1 : decide ((l[i].key.length : Int) < 1) = false := decide_eq_false (by omega)
        have d2 : decide ((8 : Int) < (l[i].key.length : Int)) = false := decide_eq_false (by omega)
        have d3 : decide ((16 : Int) < (l[i].value.length : Int)) = false := decide_eq_false (by omega)
        by_cases hz : 0 < i
        · have d4 : decide ((0 : Int) < (i : Int)) = true := decide_eq_true (by omega)
          have k6 : IntKind.i64.wrap ((i : Int) - 1) = ((i - 1 : Nat) : Int) := by rw [wrap64 (by omega) (by omega)]; omega
          have b1 := hS.index (k := .i64) (j := ((i - 1 : Nat) : Int)) (by omega) (by omega)
          rw [Int.toNat_natCast] at b1
          have b2 := hS.f0 (i := i - 1) (by omega)
          have b3 := hS.key (i := i - 1) (by omega)
          have d5 := dec_le (hlt hz)
          refine AC_quiet_draw TT_ok mixed (by kernel_rfl) (by simp only [go_sem, h0, h3, a1, a2, a3, a4, a5, d1, d2, d3, d4, k6, b1, b2, b3, d5] <;> rfl) ?_
          exact ⟨rfl, by simp only [go_sem, h0], by simp only [go_sem, h3], by simp only [go_sem]⟩
        · have d4 : decide ((0 : Int) < (i : Int)) = false := decide_eq_false (by omega)
          refine AC_quiet_draw TT_ok mixed (by kernel_rfl) (by simp only [go_sem, h0, h3, a1, a2, a3, a4, a5, d1, d2, d3, d4] <;> rfl) ?_
          exact ⟨rfl, by simp only [go_sem, h0], by simp only [go_sem, h3], by simp only [go_sem]⟩
      · subst hH
        refine AC_f g52 rfl (AC_skip ?_)
        refine AC_quiet TT_ok (by simp only [go_sem, g3, k5] <;> rfl) ?_
        exact ⟨l.length - (i + 1), by omega, i + 1, rfl, by omega, hm.step hi' hx, rfl, by simp only [go_sem, g0], by simp only [go_sem]⟩
    · refine AC_cut (fun e' H' => H' = H1 ∧ get e' 52 = .bool true) ?_ (fun e2 H2 hX2 ⟨hH, g52⟩ => ?_)
      · by_cases c1 : l[i].key.length < 1
        · have d1 : decide ((l[i].key.length : Int) < 1) = true := decide_eq_true (by omega)
          refine AC_quiet_draw TT_ok mixed (by kernel_rfl) (by simp only [go_sem, h0, h3, a1, a2, a3, a4, a5, d1] <;> rfl) ?_
          exact ⟨rfl, by simp only [go_sem]⟩
        have d1 : decide ((l[i].key.length : Int) < 1) = false := decide_eq_false (by omega)
        by_cases c2 : 8 < l[i].key.length
        · have d2 : decide ((8 : Int) < (l[i].key.length : Int)) = true := decide_eq_true (by omega)
          refine AC_quiet_draw TT_ok mixed (by kernel_rfl) (by simp only [go_sem, h0, h3, a1, a2, a3, a4, a5, d1, d2] <;> rfl) ?_
          exact ⟨rfl, by simp only [go_sem]⟩
        have d2 : decide ((8 : Int) < (l[i].key.length : Int)) = false := decide_eq_false (by omega)
        by_cases c3 : 16 < l[i].value.length
        · have d3 : decide ((16 : Int) < (l[i].value.length : Int)) = true := decide_eq_true (by omega)
          refine AC_quiet_draw TT_ok mixed (by kernel_rfl) (by simp only [go_sem, h0, h3, a1, a2, a3, a4, a5, d1, d2, d3] <;> rfl) ?_
          exact ⟨rfl, by simp only [go_sem]⟩
        have d3 : decide ((16 : Int) < (l[i].value.length : Int)) = false := decide_eq_false (by omega)
        have hz : 0 < i := by
          rcases Nat.eq_zero_or_pos i with h | h
          · exact absurd ⟨⟨by omega, by omega, by omega⟩, fun h' => absurd h' (by omega)⟩ hx
          · exact h
        have hle : l[i].key ≤ l[i - 1].key := List.not_lt.1 fun h => hx ⟨⟨by omega, by omega, by omega⟩, fun _ => h⟩
        have d4 : decide ((0 : Int) < (i : Int)) = true := decide_eq_true (by omega)
        have k6 : IntKind.i64.wrap ((i : Int) - 1) = ((i - 1 : Nat) : Int) := by rw [wrap64 (by omega) (by omega)]; omega
        have b1 := hS.index (k := .i64) (j := ((i - 1 : Nat) : Int)) (by omega) (by omega)
        rw [Int.toNat_natCast] at b1
        have b2 := hS.f0 (i := i - 1) (by omega)
        have b3 := hS.key (i := i - 1) (by omega)
        have d5 : decide (l[i].key ≤ l[i - 1].key) = true := decide_eq_true hle
        refine AC_quiet_draw TT_ok mixed (by kernel_rfl) (by simp only [go_sem, h0, h3, a1, a2, a3, a4, a5, d1, d2, d3, d4, k6, b1, b2, b3, d5] <;> rfl) ?_
        exact ⟨rfl, by simp only [go_sem]⟩
      · subst hH
        refine AC_t g52 rfl ?_
        refine AC_seqQ TT_ok (by simp only [go_sem] <;> rfl) ?_
        refine AC_ret ⟨.inl rfl, _, rfl, ?_, rfl⟩
        simp only [go_sem]
        rw [decide_eq_false (fun h => hx (h.nxt i hi'))]
  · refine AC_f (by simp only [go_sem] <;> rfl) (ge_dec (by omega)) ?_
    refine AC_exit ?_
    refine AC_seqQ TT_ok (by simp only [go_sem] <;> rfl) ?_
    refine AC_ret ⟨.inl rfl, _, rfl, ?_, rfl⟩
    rw [List.take_of_length_le (by omega)] at hm
    simp only [go_sem]
    rw [decide_eq_true hm]
end Go.Proofs.Ythalogdopkoidaa.Ab
