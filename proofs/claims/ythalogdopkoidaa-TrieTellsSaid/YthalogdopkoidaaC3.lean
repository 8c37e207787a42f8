/- Contracts of the functions that make texts of nibbles. No statement of the seat's in it. -/
import Derived.Test.YthalogdopkoidaaC2
set_option linter.unusedVariables false
set_option linter.unusedSimpArgs false
namespace Go.Proofs.Ythalogdopkoidaa.Ab
open Go Go.RowKit

theorem rem2 (i : Nat) (h : i < 2^62) : abinInt .rem .i64 (i : Int) .i64 2 = some (.int .i64 ((i % 2 : Nat) : Int)) := by
  rw [ai_rem _ _ _ (by omega), Int.tmod_eq_emod_of_nonneg (by omega)]; rfl
theorem quo2 (i : Nat) (h : i < 2^62) : abinInt .quo .i64 (i : Int) .i64 2 = some (.int .i64 ((i / 2 : Nat) : Int)) := by
  rw [ai_quo _ _ _ (by omega), Int.tdiv_eq_ediv_of_nonneg (by omega), wrap64 (by omega) (by omega)]; rfl
theorem zeros_u8 (n : Nat) : zeros n [.int .u8 0] = (List.replicate n (0 : UInt8)).flatMap bCell := by
  induction n with
  | zero => rfl
  | succ n ih =>
    rw [List.replicate_succ, List.flatMap_cons, ← ih]
    simp only [zeros, List.length_singleton, Nat.mul_one, List.range_succ_eq_map, List.map_cons, List.map_map]
    simp [bCell, U, Nat.mod_one]
theorem row1 {α : Type} {f : α → List Value} (hs : ∀ x, (f x).length = 1) (xs : List α) (i : Nat) (y : α) (hi : i < xs.length) : over (xs.flatMap f) (i * 1 + 0) (f y) = (xs.set i y).flatMap f := rows_over hs xs i y hi

theorem c97 {H : AHeap} {a : List UInt8} (ha : a.length < 2^40) : ACalls Try.prog 97 [S a] H (fun _ => False) fun v H' => v = S (two a) := by
  have k1 := wrapN a.length (by omega)
  have k2 := quo2 (a.length + 1) (by omega)
  refine ACalls_by 35 TT_ok Try.func97 rfl rfl rfl (by simp) ?_
  refine AC_seqQ TT_ok (by simp only [go_sem] <;> rfl) ?_
  refine AC_seq ?_
  refine AC_regL ?_
  refine AQ_take TT_ok 4 rfl (by simp only [go_sem, k1, k2] <;> rfl) ?_
  refine AQ_make TT_ok (m := (((a.length + 1) / 2 : Nat) : Int)) (c := (((a.length + 1) / 2 : Nat) : Int)) TT_50 rfl TT_5 rfl (by decide) (by decide) rfl (by simp only [go_sem]) (by simp only [go_sem]) (by omega) (by omega) (by simp; omega) fun Hm hX hO hL => ?_
  rw [Int.toNat_natCast, zeros_u8] at hO
  generalize hvb : Value.slice (some ⟨H.length, 0, none⟩) ((a.length + 1) / 2) ((a.length + 1) / 2) = vb at hO
  have hvid : vid vb = some H.length := by rw [← hvb]; rfl
  refine AQ_all TT_ok rfl (by simp only [go_sem, hvb] <;> rfl) ?_
  refine AC_seq ?_
  refine AC_seqQ TT_ok (by simp only [go_sem] <;> rfl) ?_
  refine AC_block (AC_loop (fun n e' H' => ∃ (i : Nat), n = a.length - i ∧ i ≤ a.length ∧ Own H' vb 5 ((a.length + 1) / 2) ((two (a.take i) ++ List.replicate ((a.length + 1) / 2 - (i + 1) / 2) 0).flatMap bCell) H.length ∧ get e' 0 = S a ∧ get e' 3 = vb ∧ get e' 13 = .int .i64 (i : Nat) ∧ get e' 12 = .int .i64 a.length) a.length ⟨0, by simp, by simp, by simpa [two] using hO, by simp only [go_sem], by simp only [go_sem], by simp only [go_sem] <;> simp, by simp only [go_sem]⟩ ?_)
  rintro n e1 H1 hX1 ⟨i, hn, hi, hB, h0, h3, h5, h12⟩
  have k5 := wrapN i (by omega)
  refine AC_seqQ TT_ok (by simp only [go_sem, h5, h12] <;> rfl) ?_
  refine AC_seq ?_
  have hlen : (two (a.take i) ++ List.replicate ((a.length + 1) / 2 - (i + 1) / 2) (0 : UInt8)).length = (a.length + 1) / 2 := by
    rw [List.length_append, two_length, List.length_replicate, List.length_take]; omega
  have hS : ByS H1 vb (two (a.take i) ++ List.replicate ((a.length + 1) / 2 - (i + 1) / 2) 0) := by
    rw [ByS, hlen]; exact hB.sl
  by_cases hi' : i < a.length
  · refine AC_t (by simp only [go_sem] <;> rfl) (lt_dec hi') ?_
    refine AC_skip ?_
    refine AC_seq (AC_block ?_)
    refine AC_seqQ TT_ok (by simp only [go_sem, h5] <;> rfl) ?_
    have m1 := rem2 i (by omega)
    have m2 := quo2 i (by omega)
    have hq : i / 2 < (two (a.take i) ++ List.replicate ((a.length + 1) / 2 - (i + 1) / 2) (0 : UInt8)).length := by omega
    have b1 := hS.index (k := .i64) hq
    have b2 := hS.load hq
    have tki := tk hi'
    have step : ∀ (sh : Int) (y : UInt8), (i % 2 = 0 ∧ sh = 4 ∧ y = 0 ||| a[i] * 16 ∨ i % 2 = 1 ∧ sh = 0 ∧ y = (two (a.take i) ++ List.replicate ((a.length + 1) / 2 - (i + 1) / 2) (0 : UInt8))[i / 2] ||| a[i]) →
        (two (a.take i) ++ List.replicate ((a.length + 1) / 2 - (i + 1) / 2) (0 : UInt8)).set (i / 2) y = two (a.take (i + 1)) ++ List.replicate ((a.length + 1) / 2 - (i + 1 + 1) / 2) 0 := by
      intro sh y h
      rw [tki]
      rcases h with ⟨he, _, hy⟩ | ⟨ho, _, hy⟩
      · have hl : (two (a.take i)).length = i / 2 := by rw [two_length, List.length_take]; omega
        obtain ⟨r, hr⟩ : ∃ r, (a.length + 1) / 2 - (i + 1) / 2 = r + 1 := ⟨(a.length + 1) / 2 - (i + 1) / 2 - 1, by omega⟩
        rw [two_one _ _ (by rw [List.length_take]; omega), hr, List.replicate_succ, ← hl, List.set_append_right _ _ (by omega), Nat.sub_self, List.set_cons_zero]
        rw [show (a.length + 1) / 2 - (i + 1 + 1) / 2 = r by omega, hy]
        simp
      · have e1 : a.take i = a.take (i - 1) ++ [a[i - 1]] := by
          have := tk (l := a) (i := i - 1) (by omega)
          rwa [show i - 1 + 1 = i by omega] at this
        have h2 : (a.take (i - 1)).length % 2 = 0 := by rw [List.length_take]; omega
        have hl : (two (a.take (i - 1))).length = i / 2 := by rw [two_length, List.length_take]; omega
        rw [show (a.length + 1) / 2 - (i + 1) / 2 = (a.length + 1) / 2 - (i + 1 + 1) / 2 by omega]
        have e2 : two (a.take i) = two (a.take (i - 1)) ++ [a[i - 1] * 16] := by rw [e1, two_one _ _ h2]
        have e3 : two (a.take i ++ [a[i]]) = two (a.take (i - 1)) ++ [a[i - 1] * 16 ||| a[i]] := by
          rw [e1, List.append_assoc]; exact two_two _ _ _ h2
        rw [e3]
        simp only [e2] at hy ⊢
        have hg : (two (a.take (i - 1)) ++ [a[i - 1] * 16] ++ List.replicate ((a.length + 1) / 2 - (i + 1) / 2) (0 : UInt8))[i / 2]? = some (a[i - 1] * 16) := by
          rw [List.append_assoc, List.getElem?_append_right (by omega), hl, Nat.sub_self]; rfl
        have hy' : y = a[i - 1] * 16 ||| a[i] := by
          rw [hy]
          congr 1
          rw [List.getElem?_eq_getElem (by rw [← e2]; exact hq)] at hg
          exact Option.some.inj hg
        rw [hy', List.append_assoc, ← hl, List.set_append_right _ _ (by omega), Nat.sub_self]
        simp
    rcases (by omega : i % 2 = 0 ∨ i % 2 = 1) with he | ho
    · have b3 : aget TT 137 (.agg #[.int .i64 4, .int .i64 0]) (.int .i64 ((0 : Nat) : Int)) = some (.int .i64 4) := rfl
      have hb : abuild TT 137 [(0, .int .i64 4), (1, .int .i64 0)] = some (.agg #[.int .i64 4, .int .i64 0]) := rfl
      rw [he] at m1
      refine AC_seqQ TT_ok (by simp only [go_sem, List.map_cons, List.map_nil, hb, m1, b3] <;> rfl) ?_
      have hz : (two (a.take i) ++ List.replicate ((a.length + 1) / 2 - (i + 1) / 2) (0 : UInt8))[i / 2] = 0 := by
        have hl : (two (a.take i)).length = i / 2 := by rw [two_length, List.length_take]; omega
        rw [List.getElem_append_right (by omega)]
        simp
      rw [hz] at b2
      refine AC_regD [12] mixed (by kernel_rfl) ?_
      refine AQ_take TT_ok 12 rfl (by simp only [go_sem, h0, h3, m2, b1, b2, aget_S hi'] <;> rfl) ?_
      refine AQ_storeE TT_ok TT_5 rfl (by simp only [go_sem] <;> rfl) (by simp only [go_sem] <;> rfl) (One.byte _).lay rfl hB (by rw [rows_length bCell_len, hlen]; simp; omega) (.inl (Nat.le_refl _)) (.inr rfl) fun H2 hX2 hB2 hL2 => ?_
      refine AQ_nil ?_
      have hc : over ((two (a.take i) ++ List.replicate ((a.length + 1) / 2 - (i + 1) / 2) (0 : UInt8)).flatMap bCell) (i / 2 * 1 + 0) [U (0 ||| a[i] * 16)] = (two (a.take (i + 1)) ++ List.replicate ((a.length + 1) / 2 - (i + 1 + 1) / 2) (0 : UInt8)).flatMap bCell :=
        (row1 bCell_len _ _ _ hq).trans (by rw [step 4 _ (.inl ⟨he, rfl, rfl⟩)])
      rw [hc] at hB2
      refine AC_quiet TT_ok (by simp only [go_sem, h5, k5] <;> rfl) ?_
      exact ⟨a.length - (i + 1), by omega, i + 1, rfl, by omega, hB2, by simp only [go_sem, h0], by simp only [go_sem, h3], by simp only [go_sem], by simp only [go_sem, h12]⟩
    · have b3 : aget TT 137 (.agg #[.int .i64 4, .int .i64 0]) (.int .i64 ((1 : Nat) : Int)) = some (.int .i64 0) := rfl
      have hb : abuild TT 137 [(0, .int .i64 4), (1, .int .i64 0)] = some (.agg #[.int .i64 4, .int .i64 0]) := rfl
      rw [ho] at m1
      refine AC_seqQ TT_ok (by simp only [go_sem, List.map_cons, List.map_nil, hb, m1, b3] <;> rfl) ?_
      refine AC_regD [12] mixed (by kernel_rfl) ?_
      refine AQ_take TT_ok 12 rfl (by simp only [go_sem, h0, h3, m2, b1, b2, aget_S hi'] <;> rfl) ?_
      refine AQ_storeE TT_ok TT_5 rfl (by simp only [go_sem] <;> rfl) (by simp only [go_sem] <;> rfl) (One.byte _).lay rfl hB (by rw [rows_length bCell_len, hlen]; simp; omega) (.inl (Nat.le_refl _)) (.inr rfl) fun H2 hX2 hB2 hL2 => ?_
      refine AQ_nil ?_
      have hc : over ((two (a.take i) ++ List.replicate ((a.length + 1) / 2 - (i + 1) / 2) (0 : UInt8)).flatMap bCell) (i / 2 * 1 + 0) [U ((two (a.take i) ++ List.replicate ((a.length + 1) / 2 - (i + 1) / 2) (0 : UInt8))[i / 2] ||| a[i])] = (two (a.take (i + 1)) ++ List.replicate ((a.length + 1) / 2 - (i + 1 + 1) / 2) (0 : UInt8)).flatMap bCell :=
        (row1 bCell_len _ _ _ hq).trans (by rw [step 0 _ (.inr ⟨ho, rfl, rfl⟩)])
      rw [hc] at hB2
      refine AC_quiet TT_ok (by simp only [go_sem, h5, k5] <;> rfl) ?_
      exact ⟨a.length - (i + 1), by omega, i + 1, rfl, by omega, hB2, by simp only [go_sem, h0], by simp only [go_sem, h3], by simp only [go_sem], by simp only [go_sem, h12]⟩
  · refine AC_f (by simp only [go_sem] <;> rfl) (ge_dec (by omega)) ?_
    refine AC_exit ?_
    have hS' : ByS H1 vb (two a) := by
      rw [List.take_of_length_le (by omega), show (a.length + 1) / 2 - (i + 1) / 2 = 0 by omega, List.replicate_zero, List.append_nil] at hS
      exact hS
    refine AC_seqQ TT_ok (by simp only [go_sem, h3, hS'.conv] <;> rfl) ?_
    refine AC_ret ⟨.inl rfl, _, rfl, ?_⟩
    simp only [go_sem]

theorem keyOf_some {a : List UInt8} (h : (keyOf a).isSome = true) : a.length % 2 = 0 ∧ (∀ b ∈ a, b ≤ 15) ∧ keyOf a = some (unn a) := by
  unfold keyOf at h ⊢
  split at h
  · rename_i hc
    exact ⟨hc.1, hc.2, if_pos hc⟩
  · cases h
theorem keyOf_none {a : List UInt8} (h : ¬ (a.length % 2 = 0 ∧ ∀ b ∈ a, b ≤ 15)) : keyOf a = none := if_neg h

/-- What both layers' Key tells. -/
theorem c93 {H : AHeap} {a : List UInt8} (ha : a.length < 2^40) : ACalls Try.prog 93 [S a] H (fun _ => False) fun v H' => v = .tuple #[S ((keyOf a).getD []), .bool (keyOf a).isSome] := by
  refine ACalls_by 15 TT_ok Try.func93 rfl rfl rfl (by simp) ?_
  refine AC_seqQ TT_ok (by simp only [go_sem] <;> rfl) ?_
  refine AC_seq ?_
  refine AC_cut (fun e' H' => get e' 0 = S a ∧ get e' 12 = .bool (!(keyOf a).isSome)) ?_ (fun e1 H1 hX ⟨h0, h12⟩ => ?_)
  · refine AC_regL ?_
    by_cases he : a.length % 2 = 0
    · have m1 : abinInt .rem .i64 (a.length : Int) .i64 2 = some (.int .i64 0) := by rw [rem2 _ (by omega), he]; rfl
      have d1 : decide ((0 : Int) = 0) = true := rfl
      refine AQ_take TT_ok 6 rfl (by simp only [go_sem, m1, d1, Bool.not_true] <;> rfl) ?_
      refine AQ_c rfl (by simp only [go_sem] <;> rfl) fok96 (by simp only [List.map_cons, List.map_nil, List.append_nil, go_sem] <;> rfl) (c96 (a := a) (by omega)) (fun _ _ h => h.elim) (.inl rfl) fun v H1 hX ⟨hv, hH⟩ => ?_
      subst hv hH
      by_cases hs : ∀ b ∈ a, b ≤ 15
      · have d2 : decide (∀ b ∈ a, b ≤ 15) = true := decide_eq_true hs
        refine AQ_all TT_ok rfl (by simp only [go_sem, d2] <;> rfl) ?_
        refine ⟨by simp only [go_sem], ?_⟩
        rw [keyOf, if_pos ⟨he, hs⟩]
        simp only [go_sem]; rfl
      · have d2 : decide (∀ b ∈ a, b ≤ 15) = false := decide_eq_false hs
        refine AQ_all TT_ok rfl (by simp only [go_sem, d2] <;> rfl) ?_
        refine ⟨by simp only [go_sem], ?_⟩
        rw [keyOf_none (fun h => hs h.2)]
        simp only [go_sem]; rfl
    · have m1 : abinInt .rem .i64 (a.length : Int) .i64 2 = some (.int .i64 1) := by rw [rem2 _ (by omega), show a.length % 2 = 1 by omega]; rfl
      have d1 : decide ((1 : Int) = 0) = false := rfl
      refine AQ_take TT_ok 6 rfl (by simp only [go_sem, m1, d1, Bool.not_false] <;> rfl) ?_
      refine AQ_pass rfl ?_
      refine AQ_all TT_ok rfl (by simp only [go_sem] <;> rfl) ?_
      refine ⟨by simp only [go_sem], ?_⟩
      rw [keyOf_none (fun h => he h.1)]
      simp only [go_sem]; rfl
  by_cases hk : (keyOf a).isSome = true
  · obtain ⟨k1, k2, k3⟩ := keyOf_some hk
    refine AC_f h12 (by rw [hk]; rfl) ?_
    refine AC_skip ?_
    refine AC_seq ?_
    refine AC_regL ?_
    refine AQ_take TT_ok 1 rfl (by simp only [go_sem, h0] <;> rfl) ?_
    refine AQ_c rfl (by simp only [go_sem] <;> rfl) fok97 (by simp only [List.map_cons, List.map_nil, List.append_nil, go_sem] <;> rfl) (c97 (a := a) (by omega)) (fun _ _ h => h.elim) (.inl rfl) fun v H2 hX hv => ?_
    subst hv
    refine AQ_all TT_ok rfl (by simp only [go_sem] <;> rfl) ?_
    refine AC_ret ⟨.inl rfl, _, rfl, ?_⟩
    rw [k3, two_unn _ k1 k2]
    simp only [go_sem]; rfl
  · refine AC_t h12 (by simpa using hk) ?_
    refine AC_seqQ TT_ok (by simp only [go_sem] <;> rfl) ?_
    refine AC_ret ⟨.inl rfl, _, rfl, ?_⟩
    have hk' : keyOf a = none := by simpa using hk
    rw [hk']
    simp only [go_sem]; rfl
end Go.Proofs.Ythalogdopkoidaa.Ab
