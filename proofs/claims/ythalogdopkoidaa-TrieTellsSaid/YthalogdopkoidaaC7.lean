/- Contracts: are pairs, nodes too large? No statement of the seat's in it. -/
import Derived.Test.YthalogdopkoidaaC6
set_option linter.unusedVariables false
set_option linter.unusedSimpArgs false
namespace Go.Proofs.Ythalogdopkoidaa.Ab
open Go Go.RowKit

def szP (l : List Pr) : Nat := (l.map fun p => 1 + p.key.length + p.value.length).sum
def szN (l : List Nd) : Nat := (l.map fun p => 1 + p.path.length + p.value.length).sum
theorem szP_tk {l : List Pr} {i : Nat} (h : i < l.length) : szP (l.take (i + 1)) = szP (l.take i) + (1 + l[i].key.length + l[i].value.length) := by
  rw [tk h, szP, szP, List.map_append, List.sum_append]; simp
theorem szN_tk {l : List Nd} {i : Nat} (h : i < l.length) : szN (l.take (i + 1)) = szN (l.take i) + (1 + l[i].path.length + l[i].value.length) := by
  rw [tk h, szN, szN, List.map_append, List.sum_append]; simp
theorem szP_mono (l : List Pr) (i : Nat) : szP (l.take i) ≤ szP l := by
  conv => rhs; rw [← List.take_append_drop i l]
  rw [szP, szP, List.map_append, List.sum_append]; omega
theorem szN_mono (l : List Nd) (i : Nat) : szN (l.take i) ≤ szN l := by
  conv => rhs; rw [← List.take_append_drop i l]
  rw [szN, szN, List.map_append, List.sum_append]; omega
theorem szP_len (l : List Pr) : l.length ≤ szP l := by
  induction l with
  | nil => simp
  | cons a l ih => simp only [szP, List.map_cons, List.sum_cons, List.length_cons] at ih ⊢; omega
theorem szN_len (l : List Nd) : l.length ≤ szN l := by
  induction l with
  | nil => simp
  | cons a l ih => simp only [szN, List.map_cons, List.sum_cons, List.length_cons] at ih ⊢; omega
theorem wrapNN {x : Int} {m : Nat} (h : x = (m : Int)) (hm : m < 2^62) : IntKind.i64.wrap x = (m : Int) := by
  rw [h, wrap64 (by omega) (by omega)]
theorem min_nat (a : Nat) (b : Int) (c : Nat) (h : b = (c : Int)) : min (a : Int) b = ((min a c : Nat) : Int) := by omega


theorem c26 {H : AHeap} {vl : Value} {l : List Pr} (hS : PrS H vl l) : ACalls Try.prog 26 [vl] H (fun _ => False) fun v H' => H' = H ∧ ∃ b, v = .bool b ∧ (b = false → szP l ≤ 3000) := by
  refine ACalls_by 35 TT_ok Try.func26 rfl rfl rfl (by simp) ?_
  refine AC_seqQ TT_ok (by simp only [go_sem] <;> rfl) ?_
  refine AC_seqQ TT_ok (by simp only [go_sem] <;> rfl) ?_
  refine AC_cut (fun e' H' => H' = H ∧ ∃ m : Nat, get e' 3 = .int .i64 (m : Nat) ∧ (m ≤ 3000 → szP l ≤ 3000)) ?_ (fun e1 H1 hX ⟨hH, m, h3, hm⟩ => ?_)
  rotate_left
  · subst hH
    refine AC_seqQ TT_ok (by simp only [go_sem, h3] <;> rfl) ?_
    exact AC_ret ⟨.inl rfl, _, rfl, rfl, decide ((3000 : Int) < (m : Int)), by simp only [go_sem], fun h => hm (by have := of_decide_eq_false h; omega)⟩
  refine AC_seq ?_
  refine AC_quiet TT_ok (by simp only [go_sem] <;> rfl) ?_
  refine AC_block (AC_loop (fun n e' H' => ∃ (i m : Nat), n = l.length - i ∧ i ≤ l.length ∧ i ≤ m ∧ m ≤ 9001 ∧ (m ≤ 3000 → m = szP (l.take i)) ∧ H' = H ∧ get e' 0 = vl ∧ get e' 3 = .int .i64 (m : Nat) ∧ get e' 4 = .int .i64 (i : Nat)) l.length ⟨0, 0, by simp, by simp, by simp, by simp, by simp [szP], rfl, by simp only [go_sem], by simp only [go_sem] <;> simp, by simp only [go_sem] <;> simp⟩ ?_)
  rintro n e1 H1 _ ⟨i, m, hn, hi, him, hmK, hsz, rfl, h0, h3, h4⟩
  refine AC_seq ?_
  by_cases hi' : i < l.length
  · have d1 := lt_dec hi'
    by_cases hm' : m ≤ 3000
    · have d2 : decide ((m : Int) ≤ 3000) = true := decide_eq_true (by omega)
      refine AC_seqQ TT_ok (by simp only [go_sem, h0, h3, h4, hS.alen, d1, d2] <;> rfl) ?_
      refine AC_t (by simp only [go_sem] <;> rfl) (rfl) ?_
      refine AC_skip ?_
      have a1 := hS.index (k := .i64) (j := (i : Int)) (by omega) (by omega)
      rw [Int.toNat_natCast] at a1
      have a2 := hS.f0 hi'
      have a3 := hS.key hi'
      have a4 := hS.f1 hi'
      have a5 := hS.value hi'
      have n1 := min_nat l[i].key.length 3000 3000 rfl
      have n2 := min_nat l[i].value.length 3000 3000 rfl
      have w1 := wrapNN (x := 1 + ((min l[i].key.length 3000 : Nat) : Int)) (m := 1 + min l[i].key.length 3000) (by omega) (by omega)
      have w2 := wrapNN (x := ((1 + min l[i].key.length 3000 : Nat) : Int) + ((min l[i].value.length 3000 : Nat) : Int)) (m := 1 + min l[i].key.length 3000 + min l[i].value.length 3000) (by omega) (by omega)
      have w3 := wrapNN (x := (m : Int) + ((1 + min l[i].key.length 3000 + min l[i].value.length 3000 : Nat) : Int)) (m := m + (1 + min l[i].key.length 3000 + min l[i].value.length 3000)) (by omega) (by omega)
      have k5 := wrapN i (by omega)
      refine AC_seq (AC_block ?_)
      refine AC_quiet_draw TT_ok mixed (by kernel_rfl) (by simp only [go_sem, h0, h3, h4, a1, a2, a3, a4, a5, n1, n2, w1, w2, w3] <;> rfl) ?_
      refine AC_quiet TT_ok (by simp only [go_sem, h4, k5] <;> rfl) ?_
      refine ⟨l.length - (i + 1), by omega, i + 1, m + (1 + min l[i].key.length 3000 + min l[i].value.length 3000), rfl, by omega, ?_, ?_, fun h => ?_, rfl, by simp only [go_sem, h0], by simp only [go_sem], by simp only [go_sem]⟩
      · omega
      · omega
      · rw [szP_tk hi', ← hsz hm']; omega
    · have d2 : decide ((m : Int) ≤ 3000) = false := decide_eq_false (by omega)
      refine AC_seqQ TT_ok (by simp only [go_sem, h0, h3, h4, hS.alen, d1, d2] <;> rfl) ?_
      refine AC_f (by simp only [go_sem] <;> rfl) (rfl) ?_
      exact AC_exit ⟨rfl, m, by simp only [go_sem, h3], fun h => absurd h hm'⟩
  · have d1 := ge_dec (a := i) (b := l.length) (by omega)
    refine AC_seqQ TT_ok (by simp only [go_sem, h0, h3, h4, hS.alen, d1] <;> rfl) ?_
    refine AC_f (by simp only [go_sem] <;> rfl) (rfl) ?_
    refine AC_exit ⟨rfl, m, by simp only [go_sem, h3], fun h => ?_⟩
    have := hsz h
    rw [List.take_of_length_le (by omega)] at this
    omega

theorem c27 {H : AHeap} {vl : Value} {l : List Nd} (hS : NdS H vl l) : ACalls Try.prog 27 [vl] H (fun _ => False) fun v H' => H' = H ∧ ∃ b, v = .bool b ∧ (b = false → szN l ≤ 4000) := by
  refine ACalls_by 35 TT_ok Try.func27 rfl rfl rfl (by simp) ?_
  refine AC_seqQ TT_ok (by simp only [go_sem] <;> rfl) ?_
  refine AC_seqQ TT_ok (by simp only [go_sem] <;> rfl) ?_
  refine AC_cut (fun e' H' => H' = H ∧ ∃ m : Nat, get e' 3 = .int .i64 (m : Nat) ∧ (m ≤ 4000 → szN l ≤ 4000)) ?_ (fun e1 H1 hX ⟨hH, m, h3, hm⟩ => ?_)
  rotate_left
  · subst hH
    refine AC_seqQ TT_ok (by simp only [go_sem, h3] <;> rfl) ?_
    exact AC_ret ⟨.inl rfl, _, rfl, rfl, decide ((4000 : Int) < (m : Int)), by simp only [go_sem], fun h => hm (by have := of_decide_eq_false h; omega)⟩
  refine AC_seq ?_
  refine AC_quiet TT_ok (by simp only [go_sem] <;> rfl) ?_
  refine AC_block (AC_loop (fun n e' H' => ∃ (i m : Nat), n = l.length - i ∧ i ≤ l.length ∧ i ≤ m ∧ m ≤ 12001 ∧ (m ≤ 4000 → m = szN (l.take i)) ∧ H' = H ∧ get e' 0 = vl ∧ get e' 3 = .int .i64 (m : Nat) ∧ get e' 4 = .int .i64 (i : Nat)) l.length ⟨0, 0, by simp, by simp, by simp, by simp, by simp [szN], rfl, by simp only [go_sem], by simp only [go_sem] <;> simp, by simp only [go_sem] <;> simp⟩ ?_)
  rintro n e1 H1 _ ⟨i, m, hn, hi, him, hmK, hsz, rfl, h0, h3, h4⟩
  refine AC_seq ?_
  by_cases hi' : i < l.length
  · have d1 := lt_dec hi'
    by_cases hm' : m ≤ 4000
    · have d2 : decide ((m : Int) ≤ 4000) = true := decide_eq_true (by omega)
      refine AC_seqQ TT_ok (by simp only [go_sem, h0, h3, h4, hS.alen, d1, d2] <;> rfl) ?_
      refine AC_t (by simp only [go_sem] <;> rfl) (rfl) ?_
      refine AC_skip ?_
      have a1 := hS.index (k := .i64) (j := (i : Int)) (by omega) (by omega)
      rw [Int.toNat_natCast] at a1
      have a2 := hS.f1 hi'
      have a3 := hS.path hi'
      have a4 := hS.f3 hi'
      have a5 := hS.value hi'
      have n1 := min_nat l[i].path.length 4000 4000 rfl
      have n2 := min_nat l[i].value.length 4000 4000 rfl
      have w1 := wrapNN (x := 1 + ((min l[i].path.length 4000 : Nat) : Int)) (m := 1 + min l[i].path.length 4000) (by omega) (by omega)
      have w2 := wrapNN (x := ((1 + min l[i].path.length 4000 : Nat) : Int) + ((min l[i].value.length 4000 : Nat) : Int)) (m := 1 + min l[i].path.length 4000 + min l[i].value.length 4000) (by omega) (by omega)
      have w3 := wrapNN (x := (m : Int) + ((1 + min l[i].path.length 4000 + min l[i].value.length 4000 : Nat) : Int)) (m := m + (1 + min l[i].path.length 4000 + min l[i].value.length 4000)) (by omega) (by omega)
      have k5 := wrapN i (by omega)
      refine AC_seq (AC_block ?_)
      refine AC_quiet_draw TT_ok mixed (by kernel_rfl) (by simp only [go_sem, h0, h3, h4, a1, a2, a3, a4, a5, n1, n2, w1, w2, w3] <;> rfl) ?_
      refine AC_quiet TT_ok (by simp only [go_sem, h4, k5] <;> rfl) ?_
      refine ⟨l.length - (i + 1), by omega, i + 1, m + (1 + min l[i].path.length 4000 + min l[i].value.length 4000), rfl, by omega, ?_, ?_, fun h => ?_, rfl, by simp only [go_sem, h0], by simp only [go_sem], by simp only [go_sem]⟩
      · omega
      · omega
      · rw [szN_tk hi', ← hsz hm']; omega
    · have d2 : decide ((m : Int) ≤ 4000) = false := decide_eq_false (by omega)
      refine AC_seqQ TT_ok (by simp only [go_sem, h0, h3, h4, hS.alen, d1, d2] <;> rfl) ?_
      refine AC_f (by simp only [go_sem] <;> rfl) (rfl) ?_
      exact AC_exit ⟨rfl, m, by simp only [go_sem, h3], fun h => absurd h hm'⟩
  · have d1 := ge_dec (a := i) (b := l.length) (by omega)
    refine AC_seqQ TT_ok (by simp only [go_sem, h0, h3, h4, hS.alen, d1] <;> rfl) ?_
    refine AC_f (by simp only [go_sem] <;> rfl) (rfl) ?_
    refine AC_exit ⟨rfl, m, by simp only [go_sem, h3], fun h => ?_⟩
    have := hsz h
    rw [List.take_of_length_le (by omega)] at this
    omega

end Go.Proofs.Ythalogdopkoidaa.Ab
