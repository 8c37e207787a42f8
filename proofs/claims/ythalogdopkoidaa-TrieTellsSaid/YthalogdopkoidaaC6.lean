/- Contracts: may pairs be? No statement of the seat's in it. -/
import Derived.Test.YthalogdopkoidaaC5
set_option linter.unusedVariables false
set_option linter.unusedSimpArgs false
namespace Go.Proofs.Ythalogdopkoidaa.Ab
open Go Go.RowKit


set_option maxHeartbeats 2000000 in
theorem c61 {H : AHeap} {vl : Value} {l : List Pr} (hS : PrS H vl l) (hl : l.length < 2^40) : ACalls Try.prog 61 [vl] H (fun _ => False) fun v H' => v = .bool (decide (May l)) := by
  refine ACalls_by 43 TT_ok Try.func61 rfl rfl rfl (by simp) ?_
  refine AC_seqQ TT_ok (by simp only [go_sem] <;> rfl) ?_
  refine AC_seq ?_
  refine AC_seqQ TT_ok (by simp only [go_sem, hS.alen] <;> rfl) ?_
  refine AC_block (AC_loop (fun n e' H' => ∃ i : Nat, n = l.length - i ∧ i ≤ l.length ∧ May (l.take i) ∧ AExt (fun _ => False) H H' ∧ get e' 0 = vl ∧ get e' 7 = .int .i64 (i : Nat) ∧ get e' 5 = vl ∧ get e' 6 = .int .i64 l.length) l.length ⟨0, by simp, by simp, May.nil, AExt.refl _ _, by simp only [go_sem], by simp only [go_sem] <;> simp, by simp only [go_sem], by simp only [go_sem]⟩ ?_)
  rintro n e1 H1 _ ⟨i, hn, hi, hm, hX1, h0, h7, h5, h6⟩
  have k5 := wrapN i (by omega)
  refine AC_seqQ TT_ok (by simp only [go_sem, h6, h7] <;> rfl) ?_
  refine AC_seq ?_
  by_cases hi' : i < l.length
  · refine AC_t (by simp only [go_sem] <;> rfl) (lt_dec hi') ?_
    refine AC_skip ?_
    have hS := hS.keep hX1
    have a1 := hS.index (k := .i64) (j := (i : Int)) (by omega) (by omega)
    rw [Int.toNat_natCast] at a1
    have a2 := hS.load hi'
    refine AC_seq (AC_block ?_)
    refine AC_seq ?_
    refine AC_regL ?_
    refine AQ_take TT_ok 3 rfl (by simp only [go_sem, h5, h7, a1, a2] <;> rfl) ?_
    refine AQ_alloc TT_ok TT_52 rfl fun Hm hXm hOm hLm => ?_
    refine AQ_take TT_ok 1 rfl (by simp only [go_sem] <;> rfl) ?_
    refine AQ_store TT_ok TT_52 rfl (by simp only [go_sem] <;> rfl) (by simp only [go_sem] <;> rfl) (Lay.pr _) rfl hOm (by simp [Pr.cells]) (.inl (by have := hX1.size; omega)) (.inl rfl) fun H2 hX2 hO2 hL2 => ?_
    refine AQ_nil ?_
    have hS2 := (hS.keep hXm).ext hX2 (fun j hj hv hj' => by have := hS.vid_lt hv; omega)
    have hX2' : AExt (fun _ => False) H H2 := ⟨by have := hX1.size; omega, fun j hj _ => ((hX2.obj j (by have := hX1.size; omega) (by have := hX1.size; omega)).trans (hXm.obj j (by have := hX1.size; omega) id)).trans (hX1.obj j hj id)⟩
    have a3 : ∀ t k, aload TT H2 t (.pointer (some ⟨H1.length, k, none⟩)) = apart TT t [S l[i].key, S l[i].value] k := fun t k => hO2.load t k
    have f0 : ∀ k, afield TT 52 (.pointer (some ⟨k, 0, none⟩)) 0 = some (.pointer (some ⟨k, 0, none⟩)) := fun k => rfl
    have f1 : ∀ k, afield TT 52 (.pointer (some ⟨k, 0, none⟩)) 1 = some (.pointer (some ⟨k, 1, none⟩)) := fun k => rfl
    have g0 : apart TT 9 [S l[i].key, S l[i].value] 0 = some (S l[i].key) := rfl
    have g1 : apart TT 9 [S l[i].key, S l[i].value] 1 = some (S l[i].value) := rfl
    by_cases hx : Nxt l i hi'
    · refine AC_cut (fun e' H' => H' = H2 ∧ get e' 0 = vl ∧ get e' 7 = .int .i64 (i : Nat) ∧ get e' 5 = vl ∧ get e' 6 = .int .i64 l.length ∧ get e' 41 = .bool false) ?_ (fun e2 H3 hX3 ⟨hH, q0, q7, q5, q6, q41⟩ => ?_)
      · obtain ⟨⟨p1, p2, p3⟩, hlt⟩ := hx
        have d1 : decide (l[i].key = []) = false := decide_eq_false (fun h => by simp [h] at p1)
        have d2 : decide ((8 : Int) < (l[i].key.length : Int)) = false := decide_eq_false (by omega)
        have d3 : decide ((16 : Int) < (l[i].value.length : Int)) = false := decide_eq_false (by omega)
        by_cases hz : 0 < i
        · have d4 : decide ((0 : Int) < (i : Int)) = true := decide_eq_true (by omega)
          have k6 : IntKind.i64.wrap ((i : Int) - 1) = ((i - 1 : Nat) : Int) := by rw [wrap64 (by omega) (by omega)]; omega
          have b1 := hS2.index (k := .i64) (j := ((i - 1 : Nat) : Int)) (by omega) (by omega)
          rw [Int.toNat_natCast] at b1
          have b2 := hS2.f0 (i := i - 1) (by omega)
          have b3 := hS2.key (i := i - 1) (by omega)
          have d5 := dec_le (hlt hz)
          refine AC_quiet_draw TT_ok mixed (by kernel_rfl) (by simp only [go_sem, h0, h7, a3, f0, f1, g0, g1, d1, d2, d3, d4, k6, b1, b2, b3, d5] <;> rfl) ?_
          exact ⟨rfl, by simp only [go_sem, h0], by simp only [go_sem, h7], by simp only [go_sem, h5], by simp only [go_sem, h6], by simp only [go_sem]⟩
        · have d4 : decide ((0 : Int) < (i : Int)) = false := decide_eq_false (by omega)
          refine AC_quiet_draw TT_ok mixed (by kernel_rfl) (by simp only [go_sem, h0, h7, a3, f0, f1, g0, g1, d1, d2, d3, d4] <;> rfl) ?_
          exact ⟨rfl, by simp only [go_sem, h0], by simp only [go_sem, h7], by simp only [go_sem, h5], by simp only [go_sem, h6], by simp only [go_sem]⟩
      · subst hH
        refine AC_f q41 rfl (AC_skip ?_)
        refine AC_quiet TT_ok (by simp only [go_sem, q7, k5] <;> rfl) ?_
        exact ⟨l.length - (i + 1), by omega, i + 1, rfl, by omega, hm.step hi' hx, hX2', by simp only [go_sem, q0], by simp only [go_sem], by simp only [go_sem, q5], by simp only [go_sem, q6]⟩
    · refine AC_cut (fun e' H' => H' = H2 ∧ get e' 41 = .bool true) ?_ (fun e2 H3 hX3 ⟨hH, q41⟩ => ?_)
      · by_cases c1 : l[i].key = []
        · have d1 : decide (l[i].key = []) = true := decide_eq_true c1
          refine AC_quiet_draw TT_ok mixed (by kernel_rfl) (by simp only [go_sem, h0, h7, a3, f0, f1, g0, g1, d1] <;> rfl) ?_
          exact ⟨rfl, by simp only [go_sem]⟩
        have d1 : decide (l[i].key = []) = false := decide_eq_false c1
        have c1 := List.length_pos_iff.2 c1
        by_cases c2 : 8 < l[i].key.length
        · have d2 : decide ((8 : Int) < (l[i].key.length : Int)) = true := decide_eq_true (by omega)
          refine AC_quiet_draw TT_ok mixed (by kernel_rfl) (by simp only [go_sem, h0, h7, a3, f0, f1, g0, g1, d1, d2] <;> rfl) ?_
          exact ⟨rfl, by simp only [go_sem]⟩
        have d2 : decide ((8 : Int) < (l[i].key.length : Int)) = false := decide_eq_false (by omega)
        by_cases c3 : 16 < l[i].value.length
        · have d3 : decide ((16 : Int) < (l[i].value.length : Int)) = true := decide_eq_true (by omega)
          refine AC_quiet_draw TT_ok mixed (by kernel_rfl) (by simp only [go_sem, h0, h7, a3, f0, f1, g0, g1, d1, d2, d3] <;> rfl) ?_
          exact ⟨rfl, by simp only [go_sem]⟩
        have d3 : decide ((16 : Int) < (l[i].value.length : Int)) = false := decide_eq_false (by omega)
        have hz : 0 < i := by
          rcases Nat.eq_zero_or_pos i with h | h
          · exact absurd ⟨⟨by omega, by omega, by omega⟩, fun h' => absurd h' (by omega)⟩ hx
          · exact h
        have hle : l[i].key ≤ l[i - 1].key := List.not_lt.1 fun h => hx ⟨⟨by omega, by omega, by omega⟩, fun _ => h⟩
        have d4 : decide ((0 : Int) < (i : Int)) = true := decide_eq_true (by omega)
        have k6 : IntKind.i64.wrap ((i : Int) - 1) = ((i - 1 : Nat) : Int) := by rw [wrap64 (by omega) (by omega)]; omega
        have b1 := hS2.index (k := .i64) (j := ((i - 1 : Nat) : Int)) (by omega) (by omega)
        rw [Int.toNat_natCast] at b1
        have b2 := hS2.f0 (i := i - 1) (by omega)
        have b3 := hS2.key (i := i - 1) (by omega)
        have d5 : decide (l[i].key ≤ l[i - 1].key) = true := decide_eq_true hle
        refine AC_quiet_draw TT_ok mixed (by kernel_rfl) (by simp only [go_sem, h0, h7, a3, f0, f1, g0, g1, d1, d2, d3, d4, k6, b1, b2, b3, d5] <;> rfl) ?_
        exact ⟨rfl, by simp only [go_sem]⟩
      · subst hH
        refine AC_t q41 rfl ?_
        refine AC_seqQ TT_ok (by simp only [go_sem] <;> rfl) ?_
        refine AC_ret ⟨.inl rfl, _, rfl, ?_⟩
        simp only [go_sem]
        rw [decide_eq_false (fun h => hx (h.nxt i hi'))]
  · refine AC_f (by simp only [go_sem] <;> rfl) (ge_dec (by omega)) ?_
    refine AC_exit ?_
    refine AC_seqQ TT_ok (by simp only [go_sem] <;> rfl) ?_
    refine AC_ret ⟨.inl rfl, _, rfl, ?_⟩
    rw [List.take_of_length_le (by omega)] at hm
    simp only [go_sem]
    rw [decide_eq_true hm]
end Go.Proofs.Ythalogdopkoidaa.Ab
