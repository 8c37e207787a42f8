/- Contracts and plain laws: dropping, the cursor. No statement of the seat's in it. Condition: none. -/
import Derived.Test.YthalogdopkoidaaZD
import Derived.Test.YthalogdopkoidaaZB
set_option linter.unusedVariables false
set_option linter.unusedSimpArgs false
namespace Go.Proofs.Ythalogdopkoidaa.Ab
open Go Go.RowKit Go.Proofs.Ythalogdopkoidaa.Dr

/-- The pairs of which nodes are the trie; of others none. -/
def prs (t : List Nd) : List Pr := if Isw t then (walkAll t).2.l else []
theorem prs_build {l : List Pr} (h : May l) : prs (build l) = l := by
  rw [prs, if_pos (isw_build h), walkAll_build h]
theorem prs_may (t : List Nd) : May (prs t) := by
  unfold prs
  split
  · rename_i h; exact h.2.1
  · exact May.nil
theorem prs_len (t : List Nd) : (prs t).length ≤ t.length := by
  unfold prs
  split
  · have h := walkAll_ok t
    exact Nat.le_trans h.l h.n
  · exact Nat.zero_le _
theorem isw_prs {t : List Nd} (h : Isw t) : t = build (prs t) := by
  rw [prs, if_pos h]; exact h.2.2
theorem not_isw_prs {t : List Nd} (h : ¬ Isw t) : prs t = [] := by rw [prs, if_neg h]

theorem f52_0 (i : Nat) : afield TT 52 (.pointer (some ⟨i, 0, none⟩)) 0 = some (.pointer (some ⟨i, 0, none⟩)) := rfl
theorem ap52_self (p : Pr) : apart TT 52 p.cells 0 = some p.val := rfl
theorem ap52_key (p : Pr) : apart TT 9 p.cells 0 = some (S p.key) := rfl
theorem bz52 : abuild TT 52 [] = some (Pr.val ⟨[], []⟩) := rfl

/-- What a closure tells of a text, whatever is made meanwhile. -/
def Tells (g : Nat) (pv : Value) (q : List UInt8 → Bool) (n : Nat) (H : AHeap) : Prop :=
  ∀ H', AExt (fun i => n ≤ i) H H' → ∀ k, ACalls Try.prog g [S k, pv] H' (fun _ => False) fun v H'' => v = .bool (q k) ∧ H'' = H'

set_option maxHeartbeats 4000000 in
theorem c68 {H : AHeap} {vt : Value} {t : List Nd} {g : Nat} {pv : Value} {q : List UInt8 → Bool} (hS : NdS H vt t) (ht : t.length < 2^19) (hn : ∀ n ∈ t, n.path.length < 2^30) (hg : Fok Try.prog g) (hc : Tells g pv q H.length H) :
    ACalls Try.prog 68 [vt, .func (.func g) #[] #[pv]] H (fun _ => False) fun v H' =>
      v = .tuple #[(((prs t).find? fun x => q x.key).getD ⟨[], []⟩).val, .bool ((prs t).find? fun x => q x.key).isSome] := by
  refine ACalls_by 28 TT_ok Try.func68 rfl rfl rfl (by simp) ?_
  refine AC_seq ?_
  refine AC_regL ?_
  refine AQ_alloc TT_ok TT_52 rfl fun H1 hX1 hO1 hL1 => ?_
  refine AQ_all TT_ok rfl (by simp only [go_sem] <;> rfl) ?_
  refine AC_seq ?_
  refine AC_regL ?_
  refine AQ_take TT_ok 1 rfl (by simp only [go_sem] <;> rfl) ?_
  refine AQ_c rfl (by simp only [go_sem] <;> rfl) fok31 (by simp only [List.map_cons, List.map_nil, List.append_nil, go_sem] <;> rfl) (c31 (hS.keep hX1) ht hn) (fun _ _ h => h.elim) (.inl rfl) fun r H2 hX2 ⟨u, hr, hU, hun⟩ => ?_
  subst hr
  refine AQ_all TT_ok rfl (by simp only [go_sem] <;> rfl) ?_
  have hu : PrS H2 u (prs t) := hU.sl
  have hlp := prs_len t
  generalize prs t = l at hu hlp
  have hO2 : Ob H2 H.length 52 (Pr.cells ⟨[], []⟩) := hO1.keep hX2
  have hX02 : AExt (fun i => H.length ≤ i) H H2 := (hX1.trans hX2).mono fun _ _ h => h.elim
  have sz2 := hX02.size
  refine AC_cut (fun e' H' => (l.find? fun x => q x.key) = none ∧ Ob H' H.length 52 (Pr.cells ⟨[], []⟩) ∧ get e' 4 = .pointer (some ⟨H.length, 0, none⟩)) ?_ (fun e3 H3 _ ⟨hnone, hO3, g4⟩ => ?_)
  · refine AC_seqQ TT_ok (by simp only [go_sem, hu.alen] <;> rfl) ?_
    refine AC_block (AC_loop (fun n e' H' => ∃ i : Nat, n = l.length - i ∧ i ≤ l.length ∧ ((l.take i).find? fun x => q x.key) = none ∧ PrS H' u l ∧ Ob H' H.length 52 (Pr.cells ⟨[], []⟩) ∧ AExt (fun i => H.length ≤ i) H H' ∧ H2.length ≤ H'.length ∧ get e' 1 = .func (.func g) #[] #[pv] ∧ get e' 4 = .pointer (some ⟨H.length, 0, none⟩) ∧ get e' 15 = u ∧ get e' 16 = .int .i64 (l.length : Nat) ∧ get e' 17 = .int .i64 (i : Nat)) l.length ⟨0, by simp, by simp, by simp, hu, hO2, hX02, Nat.le_refl _, by simp only [go_sem], by simp only [go_sem], by simp only [go_sem], by simp only [go_sem], by simp only [go_sem] <;> simp⟩ ?_)
    rintro n e1 H3 _ ⟨i, hni, hi, hno, hu3, hO3, hX3, hsz, g1, g4, g15, g16, g17⟩
    have k5 := wrapN i (by omega)
    refine AC_seqQ TT_ok (by simp only [go_sem, g16, g17] <;> rfl) ?_
    refine AC_seq ?_
    by_cases hi' : i < l.length
    · refine AC_t (by simp only [go_sem] <;> rfl) (lt_dec hi') ?_
      refine AC_skip ?_
      have a1 := hu3.index (k := .i64) (j := (i : Int)) (by omega) (by omega)
      rw [Int.toNat_natCast] at a1
      have a2 := hu3.load hi'
      refine AC_seq (AC_block ?_)
      refine AC_seq ?_
      refine AC_regL ?_
      refine AQ_take TT_ok 2 rfl (by simp only [go_sem, g15, g17, a1, a2] <;> rfl) ?_
      refine AQ_var TT_ok TT_52 rfl (by decide) (by simp only [go_sem] <;> rfl) (Lay.pr l[i]) rfl (.inl (by omega)) (.inl rfl) fun H4 hX4 hO4 hL4 => ?_
      refine AQ_nil ?_
      have hX4' : AExt (fun i => H.length ≤ i) H H4 := hX3.trans (hX4.mono fun _ _ h => h.elim)
      refine AC_seq ?_
      refine AC_regL ?_
      refine AQ_take TT_ok 3 rfl (by simp only [go_sem, g1, f52_0, hO4.load, ap52_key] <;> rfl) ?_
      refine AQ_c rfl (by simp only [go_sem, g1] <;> rfl) hg (by simp only [List.map_cons, List.map_nil, List.cons_append, List.nil_append, go_sem] <;> rfl) (hc _ hX4' l[i].key) (fun _ _ h => h.elim) (.inl rfl) fun r H5 hX5 ⟨hr, hH⟩ => ?_
      subst hr hH
      refine AQ_all TT_ok rfl (by simp only [go_sem] <;> rfl) ?_
      by_cases hq : q l[i].key = true
      · refine AC_t (by simp only [go_sem] <;> rfl) (by rw [hq]) ?_
        refine AC_seq ?_
        refine AC_regL ?_
        refine AQ_take TT_ok 1 rfl (by simp only [go_sem, hO4.load, ap52_self] <;> rfl) ?_
        refine AQ_store TT_ok TT_52 rfl (by simp only [go_sem, g4] <;> rfl) (by simp only [go_sem] <;> rfl) (Lay.pr l[i]) rfl (hO3.keep hX4) (by show 0 + 2 ≤ 2; decide) (.inl (Nat.le_refl _)) (.inl rfl) fun H6 hX6 hO6 hL6 => ?_
        refine AQ_all TT_ok rfl (by simp only [go_sem] <;> rfl) ?_
        refine AC_ret ⟨.inl rfl, .tuple #[l[i].val, .bool true], ?_, ?_⟩
        · show ares TT H6 _ [.cell 4 52, .tmp 5] = _
          have hO6' : Ob H6 H.length 52 l[i].cells := hO6
          simp only [ares, List.mapM_cons, List.mapM_nil, ares1, go_sem, g4, hO6'.load, ap52_self]
          rfl
        · have hf : (l.find? fun x => q x.key) = some l[i] := by
            have e : (l.find? fun x => q x.key) = ((l.take i ++ l.drop i).find? fun x => q x.key) := by rw [List.take_append_drop]
            rw [e, List.find?_append, hno, List.drop_eq_getElem_cons hi', List.find?_cons]
            simp [hq]
          rw [hf]; rfl
      · have hq' : q l[i].key = false := by simpa using hq
        refine AC_f (by simp only [go_sem] <;> rfl) (by rw [hq']) ?_
        refine AC_skip ?_
        refine AC_quiet TT_ok (by simp only [go_sem, g17, k5] <;> rfl) ?_
        refine ⟨l.length - (i + 1), by omega, i + 1, rfl, by omega, ?_, hu3.keep hX4, hO3.keep hX4, hX4', by omega, by simp only [go_sem, g1], by simp only [go_sem, g4], by simp only [go_sem, g15], by simp only [go_sem, g16], by simp only [go_sem]⟩
        rw [List.take_succ_eq_append_getElem hi', List.find?_append, hno]
        simp [hq']
    · refine AC_f (by simp only [go_sem] <;> rfl) (ge_dec (by omega)) ?_
      refine AC_exit ⟨?_, hO3, by simp only [go_sem, g4]⟩
      rw [List.take_of_length_le (by omega)] at hno
      exact hno
  · refine AC_seq ?_
    refine AC_regL ?_
    refine AQ_take TT_ok 1 rfl (by simp only [go_sem, List.map_nil, bz52] <;> rfl) ?_
    refine AQ_store TT_ok TT_52 rfl (by simp only [go_sem, g4] <;> rfl) (by simp only [go_sem] <;> rfl) (Lay.pr ⟨[], []⟩) rfl hO3 (by decide) (.inl (Nat.le_refl _)) (.inl rfl) fun H6 hX6 hO6 hL6 => ?_
    refine AQ_all TT_ok rfl (by simp only [go_sem] <;> rfl) ?_
    refine AC_ret ⟨.inl rfl, .tuple #[Pr.val ⟨[], []⟩, .bool false], ?_, ?_⟩
    · show ares TT H6 _ [.cell 4 52, .tmp 5] = _
      have hO6' : Ob H6 H.length 52 (Pr.cells ⟨[], []⟩) := hO6
      simp only [ares, List.mapM_cons, List.mapM_nil, ares1, go_sem, g4, hO6'.load, ap52_self]
      rfl
    · rw [hnone]; rfl

theorem c69 {H : AHeap} {i : Nat} {k key : List UInt8} (hO : Ob H i 9 [S key]) : ACalls Try.prog 69 [S k, .pointer (some ⟨i, 0, none⟩)] H (fun _ => False) fun v H' => v = .bool (decide (key ≤ k)) ∧ H' = H := by
  refine ACalls_by 7 TT_ok Try.func69 rfl rfl rfl (by simp) ?_
  have hl : aload TT H 9 (.pointer (some ⟨i, 0, none⟩)) = some (S key) := by rw [hO.load]; rfl
  refine AC_seqQ TT_ok (by simp only [go_sem] <;> rfl) ?_
  refine AC_seqQ TT_ok (by simp only [go_sem, hl] <;> rfl) ?_
  exact AC_ret ⟨.inl rfl, _, rfl, by simp only [go_sem], rfl⟩
theorem c70 {H : AHeap} {i : Nat} {k key : List UInt8} (hO : Ob H i 9 [S key]) : ACalls Try.prog 70 [S k, .pointer (some ⟨i, 0, none⟩)] H (fun _ => False) fun v H' => v = .bool (decide (key < k)) ∧ H' = H := by
  refine ACalls_by 7 TT_ok Try.func70 rfl rfl rfl (by simp) ?_
  have hl : aload TT H 9 (.pointer (some ⟨i, 0, none⟩)) = some (S key) := by rw [hO.load]; rfl
  refine AC_seqQ TT_ok (by simp only [go_sem] <;> rfl) ?_
  refine AC_seqQ TT_ok (by simp only [go_sem, hl] <;> rfl) ?_
  exact AC_ret ⟨.inl rfl, _, rfl, by simp only [go_sem], rfl⟩

/-- The first of pairs that is such; the zero pair, and false: there is none. -/
def ans (o : Option Pr) : Value := .tuple #[(o.getD ⟨[], []⟩).val, .bool o.isSome]

set_option maxHeartbeats 2000000 in
theorem c41 {H : AHeap} {vt : Value} {t : List Nd} {key : List UInt8} (hS : NdS H vt t) (ht : t.length < 2^19) (hn : ∀ n ∈ t, n.path.length < 2^30) :
    ACalls Try.prog 41 [vt, S key] H (fun _ => False) fun v H' => v = ans ((prs t).find? fun x => decide (key ≤ x.key)) := by
  refine ACalls_by 11 TT_ok Try.func41 rfl rfl rfl (by simp) ?_
  refine AC_seq ?_
  refine AC_regL ?_
  refine AQ_box TT_ok TT_9 rfl (by simp only [go_sem] <;> rfl) (One.str key).lay rfl fun H1 hX1 hO1 hL1 => ?_
  refine AQ_alloc TT_ok TT_52 rfl fun H2 hX2 hO2 hL2 => ?_
  refine AQ_all TT_ok rfl (by simp only [go_sem] <;> rfl) ?_
  have hO12 := hO1.keep hX2
  have hX02 := hX1.trans hX2
  have lt1 := hO1.lt
  refine AC_seq ?_
  refine AC_regL ?_
  refine AQ_take TT_ok 2 rfl (by simp only [go_sem] <;> rfl) ?_
  refine AQ_c rfl (by simp only [go_sem] <;> rfl) fok68 (by simp only [List.map_cons, List.map_nil, List.append_nil, go_sem] <;> rfl) (c68 (g := 69) (pv := .pointer (some ⟨H.length, 0, none⟩)) (q := fun k => decide (key ≤ k)) (hS.keep hX02) ht hn fok69 (fun H' hX' k => c69 (hO12.ext hX' (by omega)))) (fun _ _ h => h.elim) (.inl rfl) fun r H3 hX3 hr => ?_
  subst hr
  refine AQ_take TT_ok 2 rfl (by simp only [go_sem] <;> rfl) ?_
  generalize (prs t).find? (fun x => decide (key ≤ x.key)) = o
  refine AQ_store TT_ok TT_52 rfl (by simp only [go_sem] <;> rfl) (by simp only [go_sem] <;> rfl) (Lay.pr (o.getD ⟨[], []⟩)) rfl (hO2.keep hX3) (by show 0 + 2 ≤ 2; decide) (.inl (by omega)) (.inl rfl) fun H6 hX6 hO6 hL6 => ?_
  refine AQ_all TT_ok rfl (by simp only [go_sem] <;> rfl) ?_
  refine AC_ret ⟨.inl rfl, ans o, ?_, rfl⟩
  show ares TT H6 _ [.cell 4 52, .tmp 5] = _
  have hO6' : Ob H6 H1.length 52 (o.getD ⟨[], []⟩).cells := hO6
  simp only [ares, List.mapM_cons, List.mapM_nil, ares1, go_sem, hO6'.load, ap52_self]
  rfl
set_option maxHeartbeats 2000000 in
theorem c42 {H : AHeap} {vt : Value} {t : List Nd} {key : List UInt8} (hS : NdS H vt t) (ht : t.length < 2^19) (hn : ∀ n ∈ t, n.path.length < 2^30) :
    ACalls Try.prog 42 [vt, S key] H (fun _ => False) fun v H' => v = ans ((prs t).find? fun x => decide (key < x.key)) := by
  refine ACalls_by 11 TT_ok Try.func42 rfl rfl rfl (by simp) ?_
  refine AC_seq ?_
  refine AC_regL ?_
  refine AQ_box TT_ok TT_9 rfl (by simp only [go_sem] <;> rfl) (One.str key).lay rfl fun H1 hX1 hO1 hL1 => ?_
  refine AQ_alloc TT_ok TT_52 rfl fun H2 hX2 hO2 hL2 => ?_
  refine AQ_all TT_ok rfl (by simp only [go_sem] <;> rfl) ?_
  have hO12 := hO1.keep hX2
  have hX02 := hX1.trans hX2
  have lt1 := hO1.lt
  refine AC_seq ?_
  refine AC_regL ?_
  refine AQ_take TT_ok 2 rfl (by simp only [go_sem] <;> rfl) ?_
  refine AQ_c rfl (by simp only [go_sem] <;> rfl) fok68 (by simp only [List.map_cons, List.map_nil, List.append_nil, go_sem] <;> rfl) (c68 (g := 70) (pv := .pointer (some ⟨H.length, 0, none⟩)) (q := fun k => decide (key < k)) (hS.keep hX02) ht hn fok70 (fun H' hX' k => c70 (hO12.ext hX' (by omega)))) (fun _ _ h => h.elim) (.inl rfl) fun r H3 hX3 hr => ?_
  subst hr
  refine AQ_take TT_ok 2 rfl (by simp only [go_sem] <;> rfl) ?_
  generalize (prs t).find? (fun x => decide (key < x.key)) = o
  refine AQ_store TT_ok TT_52 rfl (by simp only [go_sem] <;> rfl) (by simp only [go_sem] <;> rfl) (Lay.pr (o.getD ⟨[], []⟩)) rfl (hO2.keep hX3) (by show 0 + 2 ≤ 2; decide) (.inl (by omega)) (.inl rfl) fun H6 hX6 hO6 hL6 => ?_
  refine AQ_all TT_ok rfl (by simp only [go_sem] <;> rfl) ?_
  refine AC_ret ⟨.inl rfl, ans o, ?_, rfl⟩
  show ares TT H6 _ [.cell 4 52, .tmp 5] = _
  have hO6' : Ob H6 H1.length 52 (o.getD ⟨[], []⟩).cells := hO6
  simp only [ares, List.mapM_cons, List.mapM_nil, ares1, go_sem, hO6'.load, ap52_self]
  rfl
end Go.Proofs.Ythalogdopkoidaa.Ab
set_option linter.unusedVariables false
set_option linter.unusedSimpArgs false
namespace Go.Proofs.Ythalogdopkoidaa.Ab
open Go Go.RowKit Go.Proofs.Ythalogdopkoidaa.Dr

/-- The first so many that are such. -/
def some1 (l : List Pr) (q : List UInt8 → Bool) (n : Int) : List Pr := (l.filter fun x => q x.key).take n.toNat

theorem some1_step {l : List Pr} {q : List UInt8 → Bool} {n : Int} {i : Nat} (hi : i < l.length) (hq : q l[i].key = true) (hn : ((some1 (l.take i) q n).length : Int) < n) : some1 (l.take (i + 1)) q n = some1 (l.take i) q n ++ [l[i]] := by
  unfold some1 at *
  rw [List.take_succ_eq_append_getElem hi, List.filter_append]
  simp only [List.filter_cons, hq, if_true, List.filter_nil]
  rw [List.length_take] at hn
  rw [List.take_append]
  congr 1
  rw [List.take_of_length_le (by simp; omega)]
theorem some1_skip {l : List Pr} {q : List UInt8 → Bool} {n : Int} {i : Nat} (hi : i < l.length) (hq : q l[i].key = false) : some1 (l.take (i + 1)) q n = some1 (l.take i) q n := by
  unfold some1
  rw [List.take_succ_eq_append_getElem hi, List.filter_append]
  simp [hq]
theorem some1_full {l : List Pr} {q : List UInt8 → Bool} {n : Int} {i : Nat} (hn : ¬ ((some1 (l.take i) q n).length : Int) < n) : some1 l q n = some1 (l.take i) q n := by
  unfold some1 at *
  have e : l.filter (fun x => q x.key) = (l.take i).filter (fun x => q x.key) ++ (l.drop i).filter (fun x => q x.key) := by rw [← List.filter_append, List.take_append_drop]
  rw [e, List.take_append_of_le_length]
  rw [List.length_take] at hn
  omega
theorem some1_stay {l : List Pr} {q : List UInt8 → Bool} {n : Int} {i : Nat} (hn : ¬ ((some1 (l.take i) q n).length : Int) < n) : some1 (l.take (i + 1)) q n = some1 (l.take i) q n := by
  have e : (l.take (i + 1)).take i = l.take i := by rw [List.take_take]; congr 1; omega
  have h := some1_full (l := l.take (i + 1)) (q := q) (n := n) (i := i) (by rw [e]; exact hn)
  rw [e] at h
  exact h
theorem some1_nil (q : List UInt8 → Bool) (n : Int) : some1 [] q n = [] := by unfold some1; rw [List.filter_nil, List.take_nil]
theorem some1_len (l : List Pr) (q : List UInt8 → Bool) (n : Int) : (some1 l q n).length ≤ l.length := by
  unfold some1
  have := List.length_filter_le (fun x : Pr => q x.key) l
  rw [List.length_take]
  omega

theorem PrB.push {H : AHeap} {v : Value} {l : List Pr} {x : Pr} (h : Buf H v 52 (l.length + 1) (l.flatMap Pr.cells ++ ([x.val] : List Value).flatMap fun v => v.cells.toList)) : PrB H v (l ++ [x]) := by
  rw [PrB, List.length_append, List.flatMap_append]
  exact h

set_option maxHeartbeats 4000000 in
theorem c43 {H : AHeap} {vt : Value} {t : List Nd} {key : List UInt8} {n : Int} (hS : NdS H vt t) (ht : t.length < 2^19) (hn : ∀ n ∈ t, n.path.length < 2^30) :
    ACalls Try.prog 43 [vt, S key, .int .i64 n] H (fun _ => False) fun v H' => ∃ u, v = .tuple #[u, .bool (decide (Isw t))] ∧ PrB H' u (some1 (prs t) (fun k => decide (key ≤ k)) n) ∧ ∀ j, vid u = some j → H.length ≤ j := by
  refine ACalls_by 42 TT_ok Try.func43 rfl rfl rfl (by simp) ?_
  refine AC_seqQ TT_ok (by simp only [go_sem] <;> rfl) ?_
  refine AC_seq ?_
  refine AC_regL ?_
  refine AQ_take TT_ok 1 rfl (by simp only [go_sem] <;> rfl) ?_
  refine AQ_c rfl (by simp only [go_sem] <;> rfl) fok31 (by simp only [List.map_cons, List.map_nil, List.append_nil, go_sem] <;> rfl) (c31 hS ht hn) (fun _ _ h => h.elim) (.inl rfl) fun r H2 hX2 ⟨u, hr, hU, hun⟩ => ?_
  subst hr
  refine AQ_all TT_ok rfl (by simp only [go_sem] <;> rfl) ?_
  refine AC_seq ?_
  refine AC_seqQ TT_ok (by simp only [go_sem] <;> rfl) ?_
  by_cases hi : Isw t
  rotate_left
  · have hd : decide (Isw t) = false := decide_eq_false hi
    refine AC_t (by simp only [go_sem] <;> rfl) (by rw [hd]; rfl) ?_
    refine AC_seqQ TT_ok (by simp only [go_sem] <;> rfl) ?_
    refine AC_ret ⟨.inl rfl, _, rfl, .slice none 0 0, ?_, ?_, fun j hj => by cases hj⟩
    · simp only [go_sem]; rw [hd]
    · rw [not_isw_prs hi, some1_nil]; exact Buf.nil _ _
  have hd : decide (Isw t) = true := decide_eq_true hi
  refine AC_f (by simp only [go_sem] <;> rfl) (by rw [hd]; rfl) ?_
  refine AC_skip ?_
  have hu : PrS H2 u (prs t) := hU.sl
  have hlp := prs_len t
  rw [hd]
  generalize prs t = l at hu hlp
  have hu2 := hu
  refine AC_seqQ TT_ok (by simp only [go_sem] <;> rfl) ?_
  have sz2 := hX2.size
  refine AC_cut (fun e' H' => ∃ v, PrB H' v (some1 l (fun k => decide (key ≤ k)) n) ∧ (∀ j, vid v = some j → H.length ≤ j) ∧ get e' 10 = v) ?_ (fun e3 H3 _ ⟨v, hV, hvn, g10⟩ => ?_)
  · refine AC_seqQ TT_ok (by simp only [go_sem, hu.alen] <;> rfl) ?_
    refine AC_block (AC_loop (fun m e' H' => ∃ (i : Nat) (v : Value), m = l.length - i ∧ i ≤ l.length ∧ PrS H' u l ∧ PrB H' v (some1 (l.take i) (fun k => decide (key ≤ k)) n) ∧ (∀ j, vid v = some j → H2.length ≤ j) ∧ H2.length ≤ H'.length ∧ AExt (fun i => H2.length ≤ i) H2 H' ∧ get e' 1 = S key ∧ get e' 2 = .int .i64 n ∧ get e' 10 = v ∧ get e' 20 = u ∧ get e' 21 = .int .i64 (l.length : Nat) ∧ get e' 22 = .int .i64 (i : Nat)) l.length ⟨0, .slice none 0 0, by simp, by simp, hu, by rw [List.take_zero, some1_nil]; exact Buf.nil _ _, fun j hj => (by cases hj), Nat.le_refl _, AExt.refl _ _, by simp only [go_sem], by simp only [go_sem], by simp only [go_sem], by simp only [go_sem], by simp only [go_sem], by simp only [go_sem] <;> simp⟩ ?_)
    rintro m e1 H3 _ ⟨i, v, hni, hi, hu3, hV, hvn, hsz, hX3, g1, g2, g10, g20, g21, g22⟩
    have k5 := wrapN i (by omega)
    refine AC_seqQ TT_ok (by simp only [go_sem, g21, g22] <;> rfl) ?_
    refine AC_seq ?_
    by_cases hi' : i < l.length
    · refine AC_t (by simp only [go_sem] <;> rfl) (lt_dec hi') ?_
      refine AC_skip ?_
      have a1 := hu3.index (k := .i64) (j := (i : Int)) (by omega) (by omega)
      rw [Int.toNat_natCast] at a1
      have a2 := hu3.load hi'
      refine AC_seq (AC_block ?_)
      refine AC_seq ?_
      refine AC_regL ?_
      refine AQ_take TT_ok 2 rfl (by simp only [go_sem, g20, g22, a1, a2] <;> rfl) ?_
      refine AQ_var TT_ok TT_52 rfl (by decide) (by simp only [go_sem] <;> rfl) (Lay.pr l[i]) rfl (.inl (by omega)) (.inl rfl) fun H4 hX4 hO4 hL4 => ?_
      refine AQ_nil ?_
      have hV4 := Buf.keep hV hX4
      have hX4' : AExt (fun i => H2.length ≤ i) H2 H4 := hX3.trans (hX4.mono fun _ _ h => h.elim)
      have hlen := some1_len (l.take i) (fun k => decide (key ≤ k)) n
      rw [List.length_take] at hlen
      have fin : ∀ {H5 : AHeap} {v5 : Value} {e5 : Env}, AExt (fun i => H2.length ≤ i) H2 H5 → PrS H5 u l → PrB H5 v5 (some1 (l.take (i + 1)) (fun k => decide (key ≤ k)) n) → (∀ j, vid v5 = some j → H2.length ≤ j) → get e5 1 = S key → get e5 2 = .int .i64 n → get e5 10 = v5 → get e5 20 = u → get e5 21 = .int .i64 (l.length : Nat) → get e5 22 = .int .i64 ((i + 1 : Nat) : Int) → ∃ (i' : Nat) (v : Value), l.length - (i + 1) = l.length - i' ∧ i' ≤ l.length ∧ PrS H5 u l ∧ PrB H5 v (some1 (l.take i') (fun k => decide (key ≤ k)) n) ∧ (∀ j, vid v = some j → H2.length ≤ j) ∧ H2.length ≤ H5.length ∧ AExt (fun i => H2.length ≤ i) H2 H5 ∧ get e5 1 = S key ∧ get e5 2 = .int .i64 n ∧ get e5 10 = v ∧ get e5 20 = u ∧ get e5 21 = .int .i64 (l.length : Nat) ∧ get e5 22 = .int .i64 (i' : Nat) :=
        fun h1 h2 h3 h4 h5 h6 h7 h8 h9 h10 => ⟨i + 1, _, rfl, by omega, h2, h3, h4, h1.size, h1, h5, h6, h7, h8, h9, h10⟩
      have no : some1 (l.take (i + 1)) (fun k => decide (key ≤ k)) n = some1 (l.take i) (fun k => decide (key ≤ k)) n → ∀ e5, get e5 1 = S key → get e5 2 = .int .i64 n → get e5 10 = v → get e5 20 = u → get e5 21 = .int .i64 (l.length : Nat) → get e5 22 = .int .i64 ((i + 1 : Nat) : Int) → _ := fun he e5 h5 h6 h7 h8 h9 h10 => fin (e5 := e5) hX4' (hu3.keep hX4) (by rw [he]; exact hV4) hvn h5 h6 h7 h8 h9 h10
      by_cases hq : key ≤ l[i].key
      · have dq : decide (key ≤ l[i].key) = true := decide_eq_true hq
        by_cases hm : ((some1 (l.take i) (fun k => decide (key ≤ k)) n).length : Int) < n
        · have dm : decide (((some1 (l.take i) (fun k => decide (key ≤ k)) n).length : Int) < n) = true := decide_eq_true hm
          refine AC_seqQ TT_ok (by simp only [go_sem, f52_0, hO4.load, ap52_key, g1, g2, g10, dq, (PrS.alen hV4.sl), dm] <;> rfl) ?_
          refine AC_t (by simp only [go_sem] <;> rfl) (rfl) ?_
          refine AC_regL ?_
          refine AQ_take TT_ok 2 rfl (by simp only [go_sem, g10, hO4.load, ap52_self] <;> rfl) ?_
          refine AQ_lit TT_ok [l[i].val] TT_22 rfl TT_52 rfl (by decide) rfl (by decide) rfl (by simp only [List.map_cons, List.map_nil, go_sem, numbered]) (fun v hv => by rw [List.mem_singleton] at hv; subst hv; exact ⟨_, Lay.pr _, rfl⟩) fun H5 hX5 hO5 hL5 => ?_
          refine AQ_append TT_ok (v := v) (m := 1) TT_22 rfl TT_52 (by decide) (by decide) rfl (by simp only [go_sem]) (by simp only [go_sem]) (Buf.keep hV4 hX5) hO5.sl (rows_length Pr.len _) rfl (by simp; omega) (fun j hj => .inl (by have := hvn j hj; omega)) (.inl rfl) fun v6 H6 hX6 hB6 hv6 => ?_
          have hV6 : PrB H6 v6 (some1 (l.take (i + 1)) (fun k => decide (key ≤ k)) n) := by
            rw [some1_step hi' dq hm]
            exact PrB.push hB6
          have hvn6 : ∀ j, vid v6 = some j → H2.length ≤ j := fun j hj => by
            rcases hv6 j hj with h | ⟨h, _⟩
            · have := hX4'.size; have := hX5.size; omega
            · cases h
          refine AQ_all TT_ok rfl (by simp only [go_sem] <;> rfl) ?_
          refine AC_quiet TT_ok (by simp only [go_sem, g22, k5] <;> rfl) ?_
          refine ⟨l.length - (i + 1), by omega, fin ((hX4'.trans (hX5.mono fun _ _ h => h.elim)).trans (hX6.mono fun j _ hj => hvn j hj)) ?_ hV6 hvn6 (by simp only [go_sem, g1]) (by simp only [go_sem, g2]) (by simp only [go_sem]) (by simp only [go_sem, g20]) (by simp only [go_sem, g21]) (by simp only [go_sem])⟩
          exact ((hu3.keep hX4).keep hX5).ext hX6 (fun j hj hu hv => by have := hvn j hv; have := PrS.vid_lt hu2 hu; omega)
        · have dm : decide (((some1 (l.take i) (fun k => decide (key ≤ k)) n).length : Int) < n) = false := decide_eq_false hm
          refine AC_seqQ TT_ok (by simp only [go_sem, f52_0, hO4.load, ap52_key, g1, g2, g10, dq, (PrS.alen hV4.sl), dm] <;> rfl) ?_
          refine AC_f (by simp only [go_sem] <;> rfl) (rfl) ?_
          refine AC_skip ?_
          refine AC_quiet TT_ok (by simp only [go_sem, g22, k5] <;> rfl) ?_
          exact ⟨l.length - (i + 1), by omega, no (some1_stay hm) _ (by simp only [go_sem, g1]) (by simp only [go_sem, g2]) (by simp only [go_sem, g10]) (by simp only [go_sem, g20]) (by simp only [go_sem, g21]) (by simp only [go_sem])⟩
      · have dq : decide (key ≤ l[i].key) = false := decide_eq_false hq
        refine AC_seqQ TT_ok (by simp only [go_sem, f52_0, hO4.load, ap52_key, g1, g2, g10, dq] <;> rfl) ?_
        refine AC_f (by simp only [go_sem] <;> rfl) (rfl) ?_
        refine AC_skip ?_
        refine AC_quiet TT_ok (by simp only [go_sem, g22, k5] <;> rfl) ?_
        exact ⟨l.length - (i + 1), by omega, no (some1_skip hi' dq) _ (by simp only [go_sem, g1]) (by simp only [go_sem, g2]) (by simp only [go_sem, g10]) (by simp only [go_sem, g20]) (by simp only [go_sem, g21]) (by simp only [go_sem])⟩
    · refine AC_f (by simp only [go_sem] <;> rfl) (ge_dec (by omega)) ?_
      rw [List.take_of_length_le (by omega)] at hV
      refine AC_exit ⟨v, hV, fun j hj => by have := hvn j hj; omega, by simp only [go_sem, g10]⟩
  · refine AC_seqQ TT_ok (by simp only [go_sem, g10] <;> rfl) ?_
    exact AC_ret ⟨.inl rfl, _, rfl, v, by simp only [go_sem], hV, hvn⟩

theorem f37_0 (i : Nat) : afield TT 37 (.pointer (some ⟨i, 0, none⟩)) 0 = some (.pointer (some ⟨i, 0, none⟩)) := rfl
theorem f37_1 (i : Nat) : afield TT 37 (.pointer (some ⟨i, 0, none⟩)) 1 = some (.pointer (some ⟨i, 1, none⟩)) := rfl
theorem ap37_0 (a : Option Addr) (n m : Nat) (b : Value) : apart TT 22 [.slice a n m, b] 0 = some (.slice a n m) := rfl
theorem ap37_1 (a : Value) (b : Bool) : apart TT 4 [a, .bool b] 1 = some (.bool b) := rfl
theorem apf22 {H : AHeap} {u : Value} {ty n : Nat} {cs : List Value} (h : Sl H u ty n cs) (b : Value) : apart TT 22 [u, b] 0 = some u := by
  rcases h with ⟨rfl, _, _⟩ | ⟨i, o, ob, h⟩
  · rfl
  · rw [h.val]; rfl

/-- What the document's List asks of a text. -/
def lq (key : List UInt8) (above : Bool) (k : List UInt8) : Bool := decide (key < k) || (decide (k = key) && !above)

set_option maxHeartbeats 4000000 in
theorem c44 {H : AHeap} {vt : Value} {t : List Nd} {key : List UInt8} {ab : Bool} {n : Int} (hS : NdS H vt t) (ht : t.length < 2^19) (hn : ∀ n ∈ t, n.path.length < 2^30) :
    ACalls Try.prog 44 [vt, S key, .bool ab, .int .i64 n] H (fun _ => False) fun v H' => ∃ u, v = .tuple #[u, .bool (decide (Isw t))] ∧ PrB H' u (some1 (prs t) (lq key ab) n) ∧ ∀ j, vid u = some j → H.length ≤ j := by
  refine ACalls_by 61 TT_ok Try.func44 rfl rfl rfl (by simp) ?_
  refine AC_seqQ TT_ok (by simp only [go_sem] <;> rfl) ?_
  refine AC_seq ?_
  refine AC_regL ?_
  refine AQ_take TT_ok 1 rfl (by simp only [go_sem] <;> rfl) ?_
  refine AQ_c rfl (by simp only [go_sem] <;> rfl) fok32 (by simp only [List.map_cons, List.map_nil, List.append_nil, go_sem] <;> rfl) (c32 hS ht hn) (fun _ _ h => h.elim) (.inl rfl) fun r H1 hX1 ⟨u, hr, hU, hun⟩ => ?_
  subst hr
  have hu1 : PrS H1 u (prs t) := hU.sl
  refine AQ_var TT_ok TT_37 rfl (by decide) (by simp only [go_sem] <;> rfl) (Lay.two hu1.one (One.bool _)) rfl (.inl (by have := hX1.size; omega)) (.inl rfl) fun H2 hX2 hO2 hL2 => ?_
  refine AQ_nil ?_
  have hu : PrS H2 u (prs t) := hu1.keep hX2
  have hlp := prs_len t
  generalize decide (Isw t) = b at hO2 ⊢
  generalize prs t = l at hu1 hu hlp
  have sz1 := hX1.size
  have hlt : ∀ j, vid u = some j → j < H1.length := fun j hj => hu1.vid_lt hj
  refine AC_seqQ TT_ok (by simp only [go_sem] <;> rfl) ?_
  refine AC_cut (fun e' H' => ∃ v, PrB H' v (some1 l (lq key ab) n) ∧ (∀ j, vid v = some j → H.length ≤ j) ∧ Ob H' H1.length 37 [u, .bool b] ∧ get e' 10 = .pointer (some ⟨H1.length, 0, none⟩) ∧ get e' 11 = v) ?_ (fun e3 H3 _ ⟨v, hV, hvn, hO3, g10, g11⟩ => ?_)
  · refine AC_seqQ TT_ok (by simp only [go_sem] <;> rfl) ?_
    refine AC_block (AC_loop (fun m e' H' => ∃ (i : Nat) (v : Value), m = l.length - i ∧ i ≤ l.length ∧ PrS H' u l ∧ Ob H' H1.length 37 [u, .bool b] ∧ PrB H' v (some1 (l.take i) (lq key ab) n) ∧ (∀ j, vid v = some j → H2.length ≤ j) ∧ H2.length ≤ H'.length ∧ get e' 1 = S key ∧ get e' 2 = .bool ab ∧ get e' 3 = .int .i64 n ∧ get e' 10 = .pointer (some ⟨H1.length, 0, none⟩) ∧ get e' 11 = v ∧ get e' 12 = .int .i64 (i : Nat)) l.length ⟨0, .slice none 0 0, by simp, by simp, hu, hO2, by rw [List.take_zero, some1_nil]; exact Buf.nil _ _, fun j hj => (by cases hj), Nat.le_refl _, by simp only [go_sem], by simp only [go_sem], by simp only [go_sem], by simp only [go_sem], by simp only [go_sem], by simp only [go_sem] <;> simp⟩ ?_)
    rintro m e1 H3 _ ⟨i, v, hni, hi, hu3, hO3, hV, hvn, hsz, g1, g2, g3, g10, g11, g12⟩
    have k5 := wrapN i (by omega)
    have hlen := some1_len (l.take i) (lq key ab) n
    rw [List.length_take] at hlen
    refine AC_seq ?_
    by_cases hi' : i < l.length
    · by_cases hm : ((some1 (l.take i) (lq key ab) n).length : Int) < n
      · have dm : decide (((some1 (l.take i) (lq key ab) n).length : Int) < n) = true := decide_eq_true hm
        have di : decide ((i : Int) < (l.length : Int)) = true := decide_eq_true (by omega)
        refine AC_seqQ TT_ok (by simp only [go_sem, g3, g10, g11, g12, f37_0, hO3.load, apf22 hu3, hu3.alen, (PrS.alen hV.sl), dm, di] <;> rfl) ?_
        refine AC_t (by simp only [go_sem] <;> rfl) (rfl) ?_
        refine AC_skip ?_
        have a1 := hu3.index (k := .i64) (j := (i : Int)) (by omega) (by omega)
        rw [Int.toNat_natCast] at a1
        have a2 := hu3.load hi'
        have a3 := hu3.f0 hi'
        have a4 := hu3.key hi'
        refine AC_seq (AC_block ?_)
        refine AC_cut (fun e' H' => H' = H3 ∧ get e' 49 = .bool (lq key ab l[i].key) ∧ get e' 1 = S key ∧ get e' 2 = .bool ab ∧ get e' 3 = .int .i64 n ∧ get e' 10 = .pointer (some ⟨H1.length, 0, none⟩) ∧ get e' 11 = v ∧ get e' 12 = .int .i64 (i : Nat)) ?_ (fun e2 H4 _ ⟨hH, g49, g1, g2, g3, g10, g11, g12⟩ => ?_)
        · unfold lq
          cases d1 : decide (key < l[i].key)
          · cases d2 : decide (l[i].key = key)
            · refine AC_regL ?_
              refine AQ_take TT_ok 9 rfl (by simp only [go_sem, g1, g10, g12, f37_0, hO3.load, apf22 hu3, a1, a2, a3, a4, d1] <;> rfl) ?_
              simp only [List.drop_succ_cons, List.drop_zero]
              refine AQ_take TT_ok 8 rfl (by simp only [go_sem, g1, g2, g10, g12, f37_0, hO3.load, apf22 hu3, a1, a2, a3, a4, d1, d2] <;> rfl) ?_
              simp only [List.drop_succ_cons, List.drop_zero]
              refine AQ_all TT_ok rfl (by simp only [go_sem, g2, d1, d2] <;> rfl) ?_
              exact ⟨rfl, by simp only [go_sem] <;> rfl, by simp only [go_sem, g1], by simp only [go_sem, g2], by simp only [go_sem, g3], by simp only [go_sem, g10], by simp only [go_sem, g11], by simp only [go_sem, g12]⟩
            · refine AC_regL ?_
              refine AQ_take TT_ok 9 rfl (by simp only [go_sem, g1, g10, g12, f37_0, hO3.load, apf22 hu3, a1, a2, a3, a4, d1] <;> rfl) ?_
              simp only [List.drop_succ_cons, List.drop_zero]
              refine AQ_take TT_ok 8 rfl (by simp only [go_sem, g1, g2, g10, g12, f37_0, hO3.load, apf22 hu3, a1, a2, a3, a4, d1, d2] <;> rfl) ?_
              simp only [List.drop_succ_cons, List.drop_zero]
              refine AQ_all TT_ok rfl (by simp only [go_sem, g2, d1, d2] <;> rfl) ?_
              exact ⟨rfl, by simp only [go_sem] <;> simp, by simp only [go_sem, g1], by simp only [go_sem, g2], by simp only [go_sem, g3], by simp only [go_sem, g10], by simp only [go_sem, g11], by simp only [go_sem, g12]⟩
          · refine AC_regL ?_
            refine AQ_take TT_ok 9 rfl (by simp only [go_sem, g1, g10, g12, f37_0, hO3.load, apf22 hu3, a1, a2, a3, a4, d1] <;> rfl) ?_
            simp only [List.drop_succ_cons, List.drop_zero]
            refine AQ_take TT_ok 8 rfl (by simp only [go_sem, g1, g2, g10, g12, f37_0, hO3.load, apf22 hu3, a1, a2, a3, a4, d1] <;> rfl) ?_
            simp only [List.drop_succ_cons, List.drop_zero]
            refine AQ_all TT_ok rfl (by simp only [go_sem, g2, d1] <;> rfl) ?_
            exact ⟨rfl, by simp only [go_sem] <;> rfl, by simp only [go_sem, g1], by simp only [go_sem, g2], by simp only [go_sem, g3], by simp only [go_sem, g10], by simp only [go_sem, g11], by simp only [go_sem, g12]⟩
        subst hH
        by_cases hq : lq key ab l[i].key = true
        · refine AC_t g49 hq ?_
          refine AC_regL ?_
          refine AQ_take TT_ok 6 rfl (by simp only [go_sem, g10, g11, g12, f37_0, hO3.load, apf22 hu3, a1, a2] <;> rfl) ?_
          refine AQ_lit TT_ok [l[i].val] TT_22 rfl TT_52 rfl (by decide) rfl (by decide) rfl (by simp only [List.map_cons, List.map_nil, go_sem, numbered]) (fun v hv => by rw [List.mem_singleton] at hv; subst hv; exact ⟨_, Lay.pr _, rfl⟩) fun H5 hX5 hO5 hL5 => ?_
          refine AQ_append TT_ok (v := v) (m := 1) TT_22 rfl TT_52 (by decide) (by decide) rfl (by simp only [go_sem]) (by simp only [go_sem]) (Buf.keep hV hX5) hO5.sl (rows_length Pr.len _) rfl (by simp; omega) (fun j hj => .inl (by have := hvn j hj; omega)) (.inl rfl) fun v6 H6 hX6 hB6 hv6 => ?_
          have hV6 : PrB H6 v6 (some1 (l.take (i + 1)) (lq key ab) n) := by
            rw [some1_step hi' hq hm]
            exact PrB.push hB6
          have s6 := hX6.size
          have hvn6 : ∀ j, vid v6 = some j → H2.length ≤ j := fun j hj => by
            rcases hv6 j hj with h | ⟨h, _⟩
            · omega
            · cases h
          refine AQ_all TT_ok rfl (by simp only [go_sem] <;> rfl) ?_
          refine AC_quiet TT_ok (by simp only [go_sem, g12, k5] <;> rfl) ?_
          refine ⟨l.length - (i + 1), by omega, i + 1, v6, rfl, by omega, ?_, ?_, hV6, hvn6, by omega, by simp only [go_sem, g1], by simp only [go_sem, g2], by simp only [go_sem, g3], by simp only [go_sem, g10], by simp only [go_sem], by simp only [go_sem]⟩
          · exact (hu3.keep hX5).ext hX6 (fun j _ hj hv => by have := hvn j hv; have := hlt j hj; omega)
          · exact (hO3.keep hX5).ext hX6 (fun hv => by have := hvn _ hv; omega)
        · have hq' : lq key ab l[i].key = false := by simpa using hq
          refine AC_f g49 hq' (AC_skip ?_)
          refine AC_quiet TT_ok (by simp only [go_sem, g12, k5] <;> rfl) ?_
          refine ⟨l.length - (i + 1), by omega, i + 1, v, rfl, by omega, hu3, hO3, ?_, hvn, by omega, by simp only [go_sem, g1], by simp only [go_sem, g2], by simp only [go_sem, g3], by simp only [go_sem, g10], by simp only [go_sem, g11], by simp only [go_sem]⟩
          rw [some1_skip hi' hq']; exact hV
      · have dm : decide (((some1 (l.take i) (lq key ab) n).length : Int) < n) = false := decide_eq_false hm
        have di : decide ((i : Int) < (l.length : Int)) = true := decide_eq_true (by omega)
        refine AC_seqQ TT_ok (by simp only [go_sem, g3, g10, g11, g12, f37_0, hO3.load, apf22 hu3, hu3.alen, (PrS.alen hV.sl), dm, di] <;> rfl) ?_
        refine AC_f (by simp only [go_sem] <;> rfl) (rfl) ?_
        refine AC_exit ⟨v, ?_, fun j hj => by have := hvn j hj; omega, hO3, by simp only [go_sem, g10], by simp only [go_sem, g11]⟩
        rw [some1_full hm]; exact hV
    · have di : decide ((i : Int) < (l.length : Int)) = false := decide_eq_false (by omega)
      refine AC_seqQ TT_ok (by simp only [go_sem, g3, g10, g11, g12, f37_0, hO3.load, apf22 hu3, hu3.alen, di] <;> rfl) ?_
      refine AC_f (by simp only [go_sem] <;> rfl) (rfl) ?_
      refine AC_exit ⟨v, ?_, fun j hj => by have := hvn j hj; omega, hO3, by simp only [go_sem, g10], by simp only [go_sem, g11]⟩
      rw [List.take_of_length_le (by omega)] at hV
      exact hV
  · refine AC_seqD TT_ok mixed (by kernel_rfl) (by simp only [go_sem, g10, g11, f37_1, hO3.load, ap37_1] <;> rfl) ?_
    exact AC_ret ⟨.inl rfl, _, rfl, v, by simp only [go_sem], hV, hvn⟩
end Go.Proofs.Ythalogdopkoidaa.Ab
set_option linter.unusedVariables false
set_option linter.unusedSimpArgs false
namespace Go.Proofs.Ythalogdopkoidaa.Ab
open Go Go.RowKit Go.Proofs.Ythalogdopkoidaa.Dr

theorem prs_wt : prs wt = wps := by
  rw [← wps_build]; exact prs_build wps_may
theorem pick32 {H : AHeap} {u : Value} {ty n : Nat} {cs : List Value} (h : Sl H u ty n cs) (b c : Value) : apick TT 32 (.agg #[u, b, c]) 0 = some u := by
  rcases h with ⟨rfl, _, _⟩ | ⟨i, o, ob, h⟩
  · rfl
  · rw [h.val]; rfl
def nd9 : Nd := ⟨9, [], false, [], zk⟩
theorem bz49k : abuild TT 49 [(0, .int .i64 9)] = some nd9.val := rfl
theorem isw9 : ¬ Isw [nd9] := by decide +kernel
theorem wt_path : ∀ n ∈ wt, n.path.length < 2^30 := by decide
theorem Own.nodes {H : AHeap} {v : Value} {i n : Nat} (l : List Nd) (hn : l.length = n) (h : Own H v 49 n ((l.map Nd.val).flatMap fun v => v.cells.toList) i) : NdB H v l := by
  subst hn
  have e : ((l.map Nd.val).flatMap fun v => v.cells.toList) = l.flatMap Nd.cells := by
    rw [List.flatMap_map]; rfl
  rw [e] at h
  exact .inr ⟨i, h⟩
theorem Lay.nds (l : List Nd) : ∀ v ∈ l.map Nd.val, ∃ xs, Lay v xs ∧ xs.length = 20 := fun v hv => by
  obtain ⟨p, _, rfl⟩ := List.mem_map.1 hv
  exact ⟨_, Lay.nd p, Nd.len p⟩

set_option maxRecDepth 100000 in
set_option maxHeartbeats 4000000 in
theorem c40 {H : AHeap} : ACalls Try.prog 40 [] H (fun _ => False) fun v H' => v = .bool true := by
  refine ACalls_by 96 TT_ok Try.func40 rfl rfl rfl (by simp) ?_
  refine AC_seqQ TT_ok (by simp only [go_sem] <;> rfl) ?_
  refine AC_seq ?_
  refine AC_regL ?_
  refine AQ_take TT_ok 3 rfl (by simp only [go_sem, List.map_cons, List.map_nil, bp52, bp52a] <;> rfl) ?_
  refine AQ_lit TT_ok (wps.map Pr.val) TT_22 rfl TT_52 rfl (by decide) rfl (by decide) rfl (by simp only [wps, List.map_cons, List.map_nil, go_sem, numbered]) (Lay.prs _) fun H1 hX1 hO1 hL1 => ?_
  have hP1 := Own.pairs wps rfl hO1
  refine AQ_c rfl (by simp only [go_sem] <;> rfl) fok30 (by simp only [List.map_cons, List.map_nil, List.append_nil, go_sem] <;> rfl) (c30 hP1.sl (by decide)) (fun _ _ h => h.elim) (.inl rfl) fun r H2 hX2 ⟨vt, vp, hr, hT2, _, _, _⟩ => ?_
  subst hr
  rw [if_pos wps_may, wps_build] at hT2
  have hT2' : NdS H2 vt wt := hT2.sl
  refine AQ_all TT_ok rfl (by simp only [go_sem, (pick32 hT2'), List.map_cons, List.map_nil] <;> rfl) ?_
  refine AC_fixe (fun e' => get e' 1 = vt) (by simp only [go_sem]) (fun e2 g1 => ?_)
  have s2 := hX1.trans hX2
  have f2 : ((prs wt).find? fun x => decide (([] : List UInt8) ≤ x.key)) = some ⟨[97], [49]⟩ := by rw [prs_wt]; decide +kernel
  refine AC_seq ?_
  refine AC_regL ?_
  refine AQ_take TT_ok 1 rfl (by simp only [go_sem, g1] <;> rfl) ?_
  refine AQ_c rfl (by simp only [go_sem] <;> rfl) fok41 (by simp only [List.map_cons, List.map_nil, List.append_nil, go_sem] <;> rfl) (c41 (key := []) hT2' (by decide) wt_path) (fun _ _ h => h.elim) (.inl rfl) fun r H3 hX3 hr => ?_
  rw [f2] at hr
  subst hr
  refine AQ_take TT_ok 3 rfl (by simp only [go_sem, ans] <;> rfl) ?_
  refine AQ_var TT_ok TT_52 rfl (by decide) (by simp only [go_sem] <;> rfl) (Lay.pr ⟨[97], [49]⟩) rfl (.inl (by have := s2.size; have := hX3.size; omega)) (.inl rfl) fun H4 hX4 hO4 hL4 => ?_
  refine AQ_all TT_ok rfl (by simp only [go_sem, Option.isSome_some, Option.isSome_none] <;> rfl) ?_
  have hX24 := hX3.trans hX4
  have s4 := s2.trans hX24
  have hT4' := hT2'.keep hX24
  refine AC_fixe (fun e' => get e' 1 = vt ∧ get e' 2 = .pointer (some ⟨H3.length, 0, none⟩) ∧ get e' 3 = .bool true) ⟨by simp only [go_sem, g1], by simp only [go_sem], by simp only [go_sem]⟩ (fun e4 ⟨g1, g2, g3⟩ => ?_)
  have f4 : ((prs wt).find? fun x => decide (([97] : List UInt8) < x.key)) = some ⟨[97, 98], [50]⟩ := by rw [prs_wt]; decide +kernel
  refine AC_seq ?_
  refine AC_regL ?_
  refine AQ_take TT_ok 1 rfl (by simp only [go_sem, g1] <;> rfl) ?_
  refine AQ_c rfl (by simp only [go_sem] <;> rfl) fok42 (by simp only [List.map_cons, List.map_nil, List.append_nil, go_sem] <;> rfl) (c42 (key := [97]) hT4' (by decide) wt_path) (fun _ _ h => h.elim) (.inl rfl) fun r H5 hX5 hr => ?_
  rw [f4] at hr
  subst hr
  refine AQ_take TT_ok 3 rfl (by simp only [go_sem, ans] <;> rfl) ?_
  refine AQ_var TT_ok TT_52 rfl (by decide) (by simp only [go_sem] <;> rfl) (Lay.pr ⟨[97, 98], [50]⟩) rfl (.inl (by have := s4.size; have := hX5.size; omega)) (.inl rfl) fun H6 hX6 hO6 hL6 => ?_
  refine AQ_all TT_ok rfl (by simp only [go_sem, Option.isSome_some, Option.isSome_none] <;> rfl) ?_
  have hX46 := hX5.trans hX6
  have s6 := s4.trans hX46
  have hT6' := hT4'.keep hX46
  have hO4 := hO4.keep hX46
  refine AC_fixe (fun e' => get e' 1 = vt ∧ get e' 2 = .pointer (some ⟨H3.length, 0, none⟩) ∧ get e' 3 = .bool true ∧ get e' 4 = .pointer (some ⟨H5.length, 0, none⟩) ∧ get e' 5 = .bool true) ⟨by simp only [go_sem, g1], by simp only [go_sem, g2], by simp only [go_sem, g3], by simp only [go_sem], by simp only [go_sem]⟩ (fun e6 ⟨g1, g2, g3, g4, g5⟩ => ?_)
  have f6 : ((prs wt).find? fun x => decide (([97, 97] : List UInt8) ≤ x.key)) = some ⟨[97, 98], [50]⟩ := by rw [prs_wt]; decide +kernel
  refine AC_seq ?_
  refine AC_regL ?_
  refine AQ_take TT_ok 1 rfl (by simp only [go_sem, g1] <;> rfl) ?_
  refine AQ_c rfl (by simp only [go_sem] <;> rfl) fok41 (by simp only [List.map_cons, List.map_nil, List.append_nil, go_sem] <;> rfl) (c41 (key := [97, 97]) hT6' (by decide) wt_path) (fun _ _ h => h.elim) (.inl rfl) fun r H7 hX7 hr => ?_
  rw [f6] at hr
  subst hr
  refine AQ_take TT_ok 3 rfl (by simp only [go_sem, ans] <;> rfl) ?_
  refine AQ_var TT_ok TT_52 rfl (by decide) (by simp only [go_sem] <;> rfl) (Lay.pr ⟨[97, 98], [50]⟩) rfl (.inl (by have := s6.size; have := hX7.size; omega)) (.inl rfl) fun H8 hX8 hO8 hL8 => ?_
  refine AQ_all TT_ok rfl (by simp only [go_sem, Option.isSome_some, Option.isSome_none] <;> rfl) ?_
  have hX68 := hX7.trans hX8
  have s8 := s6.trans hX68
  have hT8' := hT6'.keep hX68
  have hO4 := hO4.keep hX68
  have hO6 := hO6.keep hX68
  refine AC_fixe (fun e' => get e' 1 = vt ∧ get e' 2 = .pointer (some ⟨H3.length, 0, none⟩) ∧ get e' 3 = .bool true ∧ get e' 4 = .pointer (some ⟨H5.length, 0, none⟩) ∧ get e' 5 = .bool true ∧ get e' 6 = .pointer (some ⟨H7.length, 0, none⟩) ∧ get e' 7 = .bool true) ⟨by simp only [go_sem, g1], by simp only [go_sem, g2], by simp only [go_sem, g3], by simp only [go_sem, g4], by simp only [go_sem, g5], by simp only [go_sem], by simp only [go_sem]⟩ (fun e8 ⟨g1, g2, g3, g4, g5, g6, g7⟩ => ?_)
  have f8 : ((prs wt).find? fun x => decide (([98] : List UInt8) < x.key)) = none := by rw [prs_wt]; decide +kernel
  refine AC_seq ?_
  refine AC_regL ?_
  refine AQ_take TT_ok 1 rfl (by simp only [go_sem, g1] <;> rfl) ?_
  refine AQ_c rfl (by simp only [go_sem] <;> rfl) fok42 (by simp only [List.map_cons, List.map_nil, List.append_nil, go_sem] <;> rfl) (c42 (key := [98]) hT8' (by decide) wt_path) (fun _ _ h => h.elim) (.inl rfl) fun r H9 hX9 hr => ?_
  rw [f8] at hr
  subst hr
  refine AQ_take TT_ok 3 rfl (by simp only [go_sem, ans] <;> rfl) ?_
  refine AQ_var TT_ok TT_52 rfl (by decide) (by simp only [go_sem] <;> rfl) (Lay.pr ⟨[], []⟩) rfl (.inl (by have := s8.size; have := hX9.size; omega)) (.inl rfl) fun H10 hX10 hO10 hL10 => ?_
  refine AQ_all TT_ok rfl (by simp only [go_sem, Option.isSome_some, Option.isSome_none] <;> rfl) ?_
  have hX810 := hX9.trans hX10
  have s10 := s8.trans hX810
  have hT10' := hT8'.keep hX810
  have hO4 := hO4.keep hX810
  have hO6 := hO6.keep hX810
  have hO8 := hO8.keep hX810
  refine AC_fixe (fun e' => get e' 1 = vt ∧ get e' 2 = .pointer (some ⟨H3.length, 0, none⟩) ∧ get e' 3 = .bool true ∧ get e' 4 = .pointer (some ⟨H5.length, 0, none⟩) ∧ get e' 5 = .bool true ∧ get e' 6 = .pointer (some ⟨H7.length, 0, none⟩) ∧ get e' 7 = .bool true ∧ get e' 8 = .pointer (some ⟨H9.length, 0, none⟩) ∧ get e' 9 = .bool false) ⟨by simp only [go_sem, g1], by simp only [go_sem, g2], by simp only [go_sem, g3], by simp only [go_sem, g4], by simp only [go_sem, g5], by simp only [go_sem, g6], by simp only [go_sem, g7], by simp only [go_sem], by simp only [go_sem]⟩ (fun e10 ⟨g1, g2, g3, g4, g5, g6, g7, g8, g9⟩ => ?_)
  have fl : some1 (prs wt) (fun k => decide ([97, 98] ≤ k)) 9 = [⟨[97, 98], [50]⟩, ⟨[98], []⟩] := by rw [prs_wt]; decide +kernel
  have di : decide (Isw wt) = true := decide_eq_true wt_isw
  refine AC_seq ?_
  refine AC_regL ?_
  refine AQ_take TT_ok 1 rfl (by simp only [go_sem, g1] <;> rfl) ?_
  refine AQ_c rfl (by simp only [go_sem] <;> rfl) fok43 (by simp only [List.map_cons, List.map_nil, List.append_nil, go_sem] <;> rfl) (c43 (key := [97, 98]) (n := 9) hT10' (by decide) wt_path) (fun _ _ h => h.elim) (.inl rfl) fun r H11 hX11 ⟨vl, hr, hV, _⟩ => ?_
  rw [fl] at hV
  subst hr
  refine AQ_all TT_ok rfl (by simp only [go_sem, di] <;> rfl) ?_
  have hO4 := hO4.keep hX11
  have hO6 := hO6.keep hX11
  have hO8 := hO8.keep hX11
  have hO10 := hO10.keep hX11
  refine AC_fixe (fun e' => get e' 1 = vt ∧ get e' 2 = .pointer (some ⟨H3.length, 0, none⟩) ∧ get e' 3 = .bool true ∧ get e' 4 = .pointer (some ⟨H5.length, 0, none⟩) ∧ get e' 5 = .bool true ∧ get e' 6 = .pointer (some ⟨H7.length, 0, none⟩) ∧ get e' 7 = .bool true ∧ get e' 8 = .pointer (some ⟨H9.length, 0, none⟩) ∧ get e' 9 = .bool false ∧ get e' 10 = vl ∧ get e' 11 = .bool true) ⟨by simp only [go_sem, g1], by simp only [go_sem, g2], by simp only [go_sem, g3], by simp only [go_sem, g4], by simp only [go_sem, g5], by simp only [go_sem, g6], by simp only [go_sem, g7], by simp only [go_sem, g8], by simp only [go_sem, g9], by simp only [go_sem], by simp only [go_sem]⟩ (fun e12 ⟨g1, g2, g3, g4, g5, g6, g7, g8, g9, g10, g11⟩ => ?_)
  have hV' : PrS H11 vl [⟨[97, 98], [50]⟩, ⟨[98], []⟩] := hV.sl
  have dn : decide (Isw [nd9]) = false := decide_eq_false isw9
  refine AC_seq ?_
  refine AC_regL ?_
  refine AQ_take TT_ok 1 rfl (by simp only [go_sem, List.map_cons, List.map_nil, bz49k] <;> rfl) ?_
  refine AQ_lit TT_ok ([nd9].map Nd.val) TT_24 rfl TT_49 rfl (by decide) rfl (by decide) rfl (by simp only [List.map_cons, List.map_nil, go_sem, numbered]) (Lay.nds _) fun H12 hX12 hO12' hL12 => ?_
  have hN := Own.nodes [nd9] rfl hO12'
  refine AQ_c rfl (by simp only [go_sem] <;> rfl) fok43 (by simp only [List.map_cons, List.map_nil, List.append_nil, go_sem] <;> rfl) (c43 (key := []) (n := 9) hN.sl (by decide) (by decide)) (fun _ _ h => h.elim) (.inl rfl) fun r H13 hX13 ⟨vz, hr, _, _⟩ => ?_
  subst hr
  refine AQ_all TT_ok rfl (by simp only [go_sem, dn] <;> rfl) ?_
  have hXz := hX12.trans hX13
  have hO4 := hO4.keep hXz
  have hO6 := hO6.keep hXz
  have hO8 := hO8.keep hXz
  have hO10 := hO10.keep hXz
  have hV' := hV'.keep hXz
  refine AC_fixe (fun e' => get e' 1 = vt ∧ get e' 2 = .pointer (some ⟨H3.length, 0, none⟩) ∧ get e' 3 = .bool true ∧ get e' 4 = .pointer (some ⟨H5.length, 0, none⟩) ∧ get e' 5 = .bool true ∧ get e' 6 = .pointer (some ⟨H7.length, 0, none⟩) ∧ get e' 7 = .bool true ∧ get e' 8 = .pointer (some ⟨H9.length, 0, none⟩) ∧ get e' 9 = .bool false ∧ get e' 10 = vl ∧ get e' 11 = .bool true ∧ get e' 13 = .bool false) ⟨by simp only [go_sem, g1], by simp only [go_sem, g2], by simp only [go_sem, g3], by simp only [go_sem, g4], by simp only [go_sem, g5], by simp only [go_sem, g6], by simp only [go_sem, g7], by simp only [go_sem, g8], by simp only [go_sem, g9], by simp only [go_sem, g10], by simp only [go_sem, g11], by simp only [go_sem]⟩ (fun e14 ⟨g1, g2, g3, g4, g5, g6, g7, g8, g9, g10, g11, g13⟩ => ?_)
  have q0 : alen TT 22 vl = some (.int .i64 2) := hV'.alen
  have q1 : aindex TT 22 vl (.int .i64 1) = some (ep vl (1 * 2)) := hV'.index (by decide) (by decide)
  have q2 : afield TT 52 (ep vl (1 * 2)) 0 = some (ep vl (1 * 2 + 0)) := hV'.f0 (i := 1) (by decide)
  have q3 : aload TT H13 9 (ep vl (1 * 2 + 0)) = some (S [98]) := hV'.key (i := 1) (by decide)
  have l4 : aload TT H13 9 (.pointer (some ⟨H3.length, 0, none⟩)) = some (S [97]) := by rw [hO4.load]; rfl
  have l6 : aload TT H13 9 (.pointer (some ⟨H5.length, 0, none⟩)) = some (S [97, 98]) := by rw [hO6.load]; rfl
  have l8 : aload TT H13 9 (.pointer (some ⟨H7.length, 0, none⟩)) = some (S [97, 98]) := by rw [hO8.load]; rfl
  refine AC_seq ?_
  refine AC_regL ?_
  refine AQ_take TT_ok 15 rfl (by simp only [go_sem, g2, g3, g4, g5, g6, g7, g8, g9, g10, g11, g13, f52_0, l4, l6, l8, q0, q1, q2, q3, decide_true, Bool.not_false, Bool.not_true, if_true] <;> rfl) ?_
  simp only [List.drop_succ_cons, List.drop_zero]
  refine AQ_take TT_ok 16 rfl (by simp only [go_sem, g2, g3, g4, g5, g6, g7, g8, g9, g10, g11, g13, f52_0, l4, l6, l8, q0, q1, q2, q3, decide_true, Bool.not_false, Bool.not_true, if_true] <;> rfl) ?_
  simp only [List.drop_succ_cons, List.drop_zero]
  refine AQ_all TT_ok rfl (by simp only [go_sem, g2, g3, g4, g5, g6, g7, g8, g9, g10, g11, g13, f52_0, l4, l6, l8, q0, q1, q2, q3, decide_true, Bool.not_false, Bool.not_true, if_true] <;> rfl) ?_
  exact AC_ret ⟨.inl rfl, _, rfl, by simp only [go_sem]⟩
end Go.Proofs.Ythalogdopkoidaa.Ab
set_option linter.unusedVariables false
set_option linter.unusedSimpArgs false
namespace Go.Proofs.Ythalogdopkoidaa.Ab
open Go Go.RowKit Go.Proofs.Ythalogdopkoidaa.Dr

theorem lq_false (key : List UInt8) : lq key false = fun k => decide (key ≤ k) := by
  funext k
  by_cases h : key < k
  · have h2 : key ≤ k := List.le_of_lt h
    simp [lq, h, h2]
  · by_cases e : k = key
    · subst e
      simp [lq, List.le_refl]
    · have h2 : ¬ key ≤ k := fun h' => by
        rcases List.le_iff_lt_or_eq.1 h' with h3 | h3
        · exact h h3
        · exact e h3.symm
      simp [lq, h, h2, e]
theorem lq_true (key : List UInt8) : lq key true = fun k => decide (key < k) := by
  funext k
  simp [lq]
theorem some1_one (l : List Pr) (q : List UInt8 → Bool) : some1 l q 1 = (l.find? fun x => q x.key).toList := by
  unfold some1
  induction l with
  | nil => rfl
  | cons x l ih =>
    rw [List.filter_cons, List.find?_cons]
    cases hq : q x.key
    · simpa using ih
    · simp

set_option maxRecDepth 100000 in
set_option maxHeartbeats 8000000 in
theorem c8 {H : AHeap} {vt : Value} {t : List Nd} {key : List UInt8} {n : Int} (ht : NdS H vt t) : ACalls Try.prog 8 [vt, S key, .int .i64 n] H (fun _ => False) fun v H' => v = .bool true := by
  refine ACalls_by 135 TT_ok Try.func8 rfl rfl rfl (by simp) ?_
  refine AC_seqQ TT_ok (by simp only [go_sem] <;> rfl) ?_
  refine AC_cut (fun e' H' => H' = H ∧ szN t ≤ 4000 ∧ get e' 0 = vt ∧ get e' 1 = S key ∧ get e' 2 = .int .i64 n) ?_ (fun e1 H1 _ ⟨hH, hsT, g0, g1, g2⟩ => ?_)
  · refine AC_cut (fun e' H' => H' = H ∧ ∃ b, get e' 26 = .bool b ∧ (b = false → szN t ≤ 4000) ∧ get e' 0 = vt ∧ get e' 1 = S key ∧ get e' 2 = .int .i64 n) ?_ (fun e1 H1 _ ⟨hH, b, h26, hb, g0, g1, g2⟩ => ?_)
    · refine AC_regL ?_
      refine AQ_take TT_ok 1 rfl (by simp only [go_sem] <;> rfl) ?_
      refine AQ_c rfl (by simp only [go_sem] <;> rfl) fok27 (by simp only [List.map_cons, List.map_nil, List.append_nil, go_sem] <;> rfl) (c27 ht) (fun _ _ h => h.elim) (.inl rfl) fun r H1 hX1 ⟨hH, b, hr, hb⟩ => ?_
      subst hr hH
      cases b
      · refine AQ_all TT_ok rfl (by simp only [go_sem] <;> rfl) ?_
        exact ⟨rfl, decide ((100 : Int) < (key.length : Int)), by simp only [go_sem], fun h => hb rfl, by simp only [go_sem], by simp only [go_sem], by simp only [go_sem]⟩
      · refine AQ_all TT_ok rfl (by simp only [go_sem] <;> rfl) ?_
        exact ⟨rfl, true, by simp only [go_sem], fun h => (by cases h), by simp only [go_sem], by simp only [go_sem], by simp only [go_sem]⟩
    subst hH
    cases b
    · exact AC_f h26 rfl (AC_skip ⟨rfl, hb rfl, g0, g1, g2⟩)
    · refine AC_t h26 rfl ?_
      refine AC_seq ?_
      refine AC_regL ?_
      refine AQ_c rfl (by simp only [go_sem] <;> rfl) fok40 (by simp only [List.map_cons, List.map_nil, List.append_nil, go_sem] <;> rfl) (c40) (fun _ _ h => h.elim) (.inl rfl) fun r H1 hX1 hr => ?_
      subst hr
      refine AQ_all TT_ok rfl (by simp only [go_sem] <;> rfl) ?_
      exact AC_ret ⟨.inl rfl, _, rfl, by simp only [go_sem]⟩
  subst hH
  have htl := szN_len t
  have htn : ∀ n ∈ t, n.path.length < 2^30 := fun n hn => by have := szN_path t n hn; omega
  -- a copy
  refine AC_seq ?_
  refine AC_regL ?_
  refine AQ_lit TT_ok [] TT_24 rfl TT_49 rfl (by decide) rfl (by decide) rfl rfl (fun v hv => by cases hv) fun H2 hX2 hO2 hL2 => ?_
  refine AQ_take TT_ok 1 rfl (by simp only [go_sem, g0] <;> rfl) ?_
  refine AQ_append TT_ok (v := .slice (some ⟨H1.length, 0, none⟩) 0 0) (n := 0) (m := t.length) TT_24 rfl TT_49 (by decide) (by decide) rfl (by simp only [go_sem]) (by simp only [go_sem]) (.inr ⟨_, hO2⟩) (ht.keep hX2) rfl (rows_length Nd.len t) (by simp; omega) (fun j hj => .inl (by have e : H1.length = j := Option.some.inj hj; omega)) (.inl rfl) fun vi H3 hX3 hB3 hv3 => ?_
  have hi3 := (NdB.copy hB3).sl
  have s3 : AExt (fun _ => False) H1 H3 := hX2.weakF hX3 (fun j hj h => by have e : H1.length = j := Option.some.inj h; omega)
  refine AQ_all TT_ok rfl (by simp only [go_sem] <;> rfl) ?_
  refine AC_fixe (fun e' => get e' 0 = vt ∧ get e' 1 = S key ∧ get e' 2 = .int .i64 n ∧ get e' 7 = vi) ⟨by simp only [go_sem, g0], by simp only [go_sem, g1], by simp only [go_sem, g2], by simp only [go_sem]⟩ (fun e3 ⟨g0, g1, g2, g7⟩ => ?_)
  have ht3 := ht.keep s3
  have r1 := some1_one (prs t) (lq key false)
  have r2 := some1_one (prs t) (lq key true)
  rw [lq_false] at r1
  rw [lq_true] at r2
  refine AC_seq ?_
  refine AC_regL ?_
  refine AQ_take TT_ok 2 rfl (by simp only [go_sem, g7, g1] <;> rfl) ?_
  refine AQ_c rfl (by simp only [go_sem] <;> rfl) fok41 (by simp only [List.map_cons, List.map_nil, List.append_nil, go_sem] <;> rfl) (c41 (key := key) hi3 (by omega) htn) (fun _ _ h => h.elim) (.inl rfl) fun r H4 hX4 hr => ?_
  generalize ((prs t).find? fun x => decide (key ≤ x.key)) = o1 at hr r1
  subst hr
  refine AQ_take TT_ok 3 rfl (by simp only [go_sem, ans] <;> rfl) ?_
  refine AQ_var TT_ok TT_52 rfl (by decide) (by simp only [go_sem] <;> rfl) (Lay.pr (o1.getD ⟨[], []⟩)) rfl (.inl (by have := s3.size; have := hX4.size; omega)) (.inl rfl) fun H5 hX5 hO5 hL5 => ?_
  refine AQ_all TT_ok rfl (by simp only [go_sem] <;> rfl) ?_
  have x5 := hX4.trans hX5
  have s5 := s3.trans x5
  have hi5 := hi3.keep x5
  refine AC_fixe (fun e' => get e' 0 = vt ∧ get e' 1 = S key ∧ get e' 2 = .int .i64 n ∧ get e' 7 = vi ∧ get e' 8 = .pointer (some ⟨H4.length, 0, none⟩) ∧ get e' 9 = .bool o1.isSome) ⟨by simp only [go_sem, g0], by simp only [go_sem, g1], by simp only [go_sem, g2], by simp only [go_sem, g7], by simp only [go_sem], by simp only [go_sem]⟩ (fun e5 ⟨g0, g1, g2, g7, g8, g9⟩ => ?_)
  refine AC_seq ?_
  refine AC_regL ?_
  refine AQ_take TT_ok 2 rfl (by simp only [go_sem, g7, g1] <;> rfl) ?_
  refine AQ_c rfl (by simp only [go_sem] <;> rfl) fok42 (by simp only [List.map_cons, List.map_nil, List.append_nil, go_sem] <;> rfl) (c42 (key := key) hi5 (by omega) htn) (fun _ _ h => h.elim) (.inl rfl) fun r H6 hX6 hr => ?_
  generalize ((prs t).find? fun x => decide (key < x.key)) = o2 at hr r2
  subst hr
  refine AQ_take TT_ok 3 rfl (by simp only [go_sem, ans] <;> rfl) ?_
  refine AQ_var TT_ok TT_52 rfl (by decide) (by simp only [go_sem] <;> rfl) (Lay.pr (o2.getD ⟨[], []⟩)) rfl (.inl (by have := s5.size; have := hX6.size; omega)) (.inl rfl) fun H7 hX7 hO7 hL7 => ?_
  refine AQ_all TT_ok rfl (by simp only [go_sem] <;> rfl) ?_
  have x7 := hX6.trans hX7
  have s7 := s5.trans x7
  have hi7 := hi5.keep x7
  have hO5 := hO5.keep x7
  refine AC_fixe (fun e' => get e' 0 = vt ∧ get e' 1 = S key ∧ get e' 2 = .int .i64 n ∧ get e' 7 = vi ∧ get e' 8 = .pointer (some ⟨H4.length, 0, none⟩) ∧ get e' 9 = .bool o1.isSome ∧ get e' 10 = .pointer (some ⟨H6.length, 0, none⟩) ∧ get e' 11 = .bool o2.isSome) ⟨by simp only [go_sem, g0], by simp only [go_sem, g1], by simp only [go_sem, g2], by simp only [go_sem, g7], by simp only [go_sem, g8], by simp only [go_sem, g9], by simp only [go_sem], by simp only [go_sem]⟩ (fun e7 ⟨g0, g1, g2, g7, g8, g9, g10, g11⟩ => ?_)
  refine AC_seq ?_
  refine AC_regL ?_
  refine AQ_take TT_ok 3 rfl (by simp only [go_sem, g7, g1, g2] <;> rfl) ?_
  refine AQ_c rfl (by simp only [go_sem] <;> rfl) fok43 (by simp only [List.map_cons, List.map_nil, List.append_nil, go_sem] <;> rfl) (c43 (key := key) (n := n) hi7 (by omega) htn) (fun _ _ h => h.elim) (.inl rfl) fun r H8 hX8 ⟨vl, hr, hl8, _⟩ => ?_
  subst hr
  refine AQ_all TT_ok rfl (by simp only [go_sem] <;> rfl) ?_
  have s8 := s7.trans hX8
  have hi8 := hi7.keep hX8
  have hO5 := hO5.keep hX8
  have hO7 := hO7.keep hX8
  have hl8 : PrS H8 vl _ := hl8.sl
  refine AC_fixe (fun e' => get e' 0 = vt ∧ get e' 1 = S key ∧ get e' 2 = .int .i64 n ∧ get e' 7 = vi ∧ get e' 8 = .pointer (some ⟨H4.length, 0, none⟩) ∧ get e' 9 = .bool o1.isSome ∧ get e' 10 = .pointer (some ⟨H6.length, 0, none⟩) ∧ get e' 11 = .bool o2.isSome ∧ get e' 12 = vl ∧ get e' 13 = .bool (decide (Isw t))) ⟨by simp only [go_sem, g0], by simp only [go_sem, g1], by simp only [go_sem, g2], by simp only [go_sem, g7], by simp only [go_sem, g8], by simp only [go_sem, g9], by simp only [go_sem, g10], by simp only [go_sem, g11], by simp only [go_sem], by simp only [go_sem]⟩ (fun e8 ⟨g0, g1, g2, g7, g8, g9, g10, g11, g12, g13⟩ => ?_)
  have ht8 := ht.keep s8
  refine AC_seq ?_
  refine AC_regL ?_
  refine AQ_take TT_ok 2 rfl (by simp only [go_sem, g0, g1] <;> rfl) ?_
  refine AQ_c rfl (by simp only [go_sem] <;> rfl) fok44 (by simp only [List.map_cons, List.map_nil, List.append_nil, go_sem] <;> rfl) (c44 (key := key) (ab := false) (n := 1) ht8 (by omega) htn) (fun _ _ h => h.elim) (.inl rfl) fun r H9 hX9 ⟨vp, hr, hp9, _⟩ => ?_
  subst hr
  refine AQ_all TT_ok rfl (by simp only [go_sem] <;> rfl) ?_
  have hp9 : PrS H9 vp _ := hp9.sl
  rw [lq_false, r1] at hp9
  refine AC_seq ?_
  refine AC_regL ?_
  refine AQ_take TT_ok 2 rfl (by simp only [go_sem, g0, g1] <;> rfl) ?_
  refine AQ_c rfl (by simp only [go_sem] <;> rfl) fok44 (by simp only [List.map_cons, List.map_nil, List.append_nil, go_sem] <;> rfl) (c44 (key := key) (ab := true) (n := 1) (ht8.keep hX9) (by omega) htn) (fun _ _ h => h.elim) (.inl rfl) fun r H10 hX10 ⟨vq, hr, hq10, _⟩ => ?_
  subst hr
  refine AQ_all TT_ok rfl (by simp only [go_sem] <;> rfl) ?_
  have hq10 : PrS H10 vq _ := hq10.sl
  rw [lq_true, r2] at hq10
  have x10 := hX9.trans hX10
  refine AC_seq ?_
  refine AC_regL ?_
  refine AQ_take TT_ok 3 rfl (by simp only [go_sem, g0, g1, g2] <;> rfl) ?_
  refine AQ_c rfl (by simp only [go_sem] <;> rfl) fok44 (by simp only [List.map_cons, List.map_nil, List.append_nil, go_sem] <;> rfl) (c44 (key := key) (ab := false) (n := n) (ht8.keep x10) (by omega) htn) (fun _ _ h => h.elim) (.inl rfl) fun r H11 hX11 ⟨vm, hr, hm11, _⟩ => ?_
  subst hr
  refine AQ_all TT_ok rfl (by simp only [go_sem] <;> rfl) ?_
  have hm11 : PrS H11 vm _ := hm11.sl
  rw [lq_false] at hm11
  have x11 := x10.trans hX11
  have hi := hi8.keep x11
  have hO5 := hO5.keep x11
  have hO7 := hO7.keep x11
  have hl := hl8.keep x11
  have hp := hp9.keep (hX10.trans hX11)
  have hq := hq10.keep hX11
  have ht := ht8.keep x11
  refine AC_fixe (fun e' => get e' 0 = vt ∧ get e' 7 = vi ∧ get e' 8 = .pointer (some ⟨H4.length, 0, none⟩) ∧ get e' 9 = .bool o1.isSome ∧ get e' 10 = .pointer (some ⟨H6.length, 0, none⟩) ∧ get e' 11 = .bool o2.isSome ∧ get e' 12 = vl ∧ get e' 13 = .bool (decide (Isw t)) ∧ get e' 14 = vp ∧ get e' 16 = vq ∧ get e' 18 = vm ∧ get e' 19 = .bool (decide (Isw t))) ⟨by simp only [go_sem, g0], by simp only [go_sem, g7], by simp only [go_sem, g8], by simp only [go_sem, g9], by simp only [go_sem, g10], by simp only [go_sem, g11], by simp only [go_sem, g12], by simp only [go_sem, g13], by simp only [go_sem], by simp only [go_sem], by simp only [go_sem], by simp only [go_sem]⟩ (fun e11 ⟨g0, g7, g8, g9, g10, g11, g12, g13, g14, g16, g18, g19⟩ => ?_)
  refine AC_cut (fun e' H' => H' = H11 ∧ get e' 118 = .bool false ∧ get e' 0 = vt ∧ get e' 7 = vi ∧ get e' 12 = vl ∧ get e' 13 = .bool (decide (Isw t)) ∧ get e' 18 = vm ∧ get e' 19 = .bool (decide (Isw t))) ?_ (fun e12 H12 _ ⟨hH, h118, g0, g7, g12, g13, g18, g19⟩ => ?_)
  · have d01 : decide ((0 : Int) < 1) = true := rfl
    have d00 : decide ((0 : Int) < 0) = false := rfl
    have pl (v : Value) (x : Pr) (h : PrS H11 v [x]) : alen TT 22 v = some (.int .i64 1) ∧ aindex TT 22 v (.int .i64 0) = some (ep v (0 * 2)) ∧ aload TT H11 52 (ep v (0 * 2)) = some x.val := ⟨h.alen, h.index (by decide) (by simp), h.load (i := 0) (by simp)⟩
    have pn (v : Value) (h : PrS H11 v []) : alen TT 22 v = some (.int .i64 0) := h.alen
    have self (x : Pr) : decide (x = x) = true := decide_eq_true rfl
    rcases o1 with _ | a
    · rcases o2 with _ | b
      · have p1 := pn vp hp
        have q1 := pn vq hq
        refine AC_seq ?_
        refine AC_regD [] mixed (by kernel_rfl) ?_
        refine AQ_take TT_ok 12 rfl (by simp only [go_sem, g8, g9, g10, g11, g14, g16, d01, d00, hO5.load, hO7.load, ap52_self, abin_bool_neq, self, Option.isSome_some, Option.isSome_none, Option.getD_some, Option.getD_none, List.map_nil, bz52, p1, q1, decide_true, Bool.not_false, Bool.not_true, if_true] <;> rfl) ?_
        simp only [List.drop_succ_cons, List.drop_zero]
        refine AQ_take TT_ok 12 rfl (by simp only [go_sem, g8, g9, g10, g11, g14, g16, d01, d00, hO5.load, hO7.load, ap52_self, abin_bool_neq, self, Option.isSome_some, Option.isSome_none, Option.getD_some, Option.getD_none, List.map_nil, bz52, p1, q1, decide_true, Bool.not_false, Bool.not_true, if_true] <;> rfl) ?_
        simp only [List.drop_succ_cons, List.drop_zero]
        refine AQ_take TT_ok 12 rfl (by simp only [go_sem, g8, g9, g10, g11, g14, g16, d01, d00, hO5.load, hO7.load, ap52_self, abin_bool_neq, self, Option.isSome_some, Option.isSome_none, Option.getD_some, Option.getD_none, List.map_nil, bz52, p1, q1, decide_true, Bool.not_false, Bool.not_true, if_true] <;> rfl) ?_
        simp only [List.drop_succ_cons, List.drop_zero]
        refine AQ_all TT_ok rfl (by simp only [go_sem, g8, g9, g10, g11, g14, g16, d01, d00, hO5.load, hO7.load, ap52_self, abin_bool_neq, self, Option.isSome_some, Option.isSome_none, Option.getD_some, Option.getD_none, List.map_nil, bz52, p1, q1, decide_true, Bool.not_false, Bool.not_true, if_true] <;> rfl) ?_
        refine AC_f (by simp only [go_sem] <;> rfl) rfl (AC_skip ⟨rfl, by simp only [go_sem] <;> rfl, by simp only [go_sem, g0], by simp only [go_sem, g7], by simp only [go_sem, g12], by simp only [go_sem, g13], by simp only [go_sem, g18], by simp only [go_sem, g19]⟩)
      · have p1 := pn vp hp
        obtain ⟨q1, q2, q3⟩ := pl vq b hq
        refine AC_seq ?_
        refine AC_regD [] mixed (by kernel_rfl) ?_
        refine AQ_take TT_ok 12 rfl (by simp only [go_sem, g8, g9, g10, g11, g14, g16, d01, d00, hO5.load, hO7.load, ap52_self, abin_bool_neq, self, Option.isSome_some, Option.isSome_none, Option.getD_some, Option.getD_none, List.map_nil, bz52, p1, q1, q2, q3, decide_true, Bool.not_false, Bool.not_true, if_true] <;> rfl) ?_
        simp only [List.drop_succ_cons, List.drop_zero]
        refine AQ_take TT_ok 12 rfl (by simp only [go_sem, g8, g9, g10, g11, g14, g16, d01, d00, hO5.load, hO7.load, ap52_self, abin_bool_neq, self, Option.isSome_some, Option.isSome_none, Option.getD_some, Option.getD_none, List.map_nil, bz52, p1, q1, q2, q3, decide_true, Bool.not_false, Bool.not_true, if_true] <;> rfl) ?_
        simp only [List.drop_succ_cons, List.drop_zero]
        refine AQ_take TT_ok 12 rfl (by simp only [go_sem, g8, g9, g10, g11, g14, g16, d01, d00, hO5.load, hO7.load, ap52_self, abin_bool_neq, self, Option.isSome_some, Option.isSome_none, Option.getD_some, Option.getD_none, List.map_nil, bz52, p1, q1, q2, q3, decide_true, Bool.not_false, Bool.not_true, if_true] <;> rfl) ?_
        simp only [List.drop_succ_cons, List.drop_zero]
        refine AQ_all TT_ok rfl (by simp only [go_sem, g8, g9, g10, g11, g14, g16, d01, d00, hO5.load, hO7.load, ap52_self, abin_bool_neq, self, Option.isSome_some, Option.isSome_none, Option.getD_some, Option.getD_none, List.map_nil, bz52, p1, q1, q2, q3, decide_true, Bool.not_false, Bool.not_true, if_true] <;> rfl) ?_
        refine AC_f (by simp only [go_sem] <;> rfl) rfl (AC_skip ⟨rfl, by simp only [go_sem] <;> rfl, by simp only [go_sem, g0], by simp only [go_sem, g7], by simp only [go_sem, g12], by simp only [go_sem, g13], by simp only [go_sem, g18], by simp only [go_sem, g19]⟩)
    · rcases o2 with _ | b
      · obtain ⟨p1, p2, p3⟩ := pl vp a hp
        have q1 := pn vq hq
        refine AC_seq ?_
        refine AC_regD [] mixed (by kernel_rfl) ?_
        refine AQ_take TT_ok 12 rfl (by simp only [go_sem, g8, g9, g10, g11, g14, g16, d01, d00, hO5.load, hO7.load, ap52_self, abin_bool_neq, self, Option.isSome_some, Option.isSome_none, Option.getD_some, Option.getD_none, List.map_nil, bz52, p1, p2, p3, q1, decide_true, Bool.not_false, Bool.not_true, if_true] <;> rfl) ?_
        simp only [List.drop_succ_cons, List.drop_zero]
        refine AQ_take TT_ok 12 rfl (by simp only [go_sem, g8, g9, g10, g11, g14, g16, d01, d00, hO5.load, hO7.load, ap52_self, abin_bool_neq, self, Option.isSome_some, Option.isSome_none, Option.getD_some, Option.getD_none, List.map_nil, bz52, p1, p2, p3, q1, decide_true, Bool.not_false, Bool.not_true, if_true] <;> rfl) ?_
        simp only [List.drop_succ_cons, List.drop_zero]
        refine AQ_take TT_ok 12 rfl (by simp only [go_sem, g8, g9, g10, g11, g14, g16, d01, d00, hO5.load, hO7.load, ap52_self, abin_bool_neq, self, Option.isSome_some, Option.isSome_none, Option.getD_some, Option.getD_none, List.map_nil, bz52, p1, p2, p3, q1, decide_true, Bool.not_false, Bool.not_true, if_true] <;> rfl) ?_
        simp only [List.drop_succ_cons, List.drop_zero]
        refine AQ_all TT_ok rfl (by simp only [go_sem, g8, g9, g10, g11, g14, g16, d01, d00, hO5.load, hO7.load, ap52_self, abin_bool_neq, self, Option.isSome_some, Option.isSome_none, Option.getD_some, Option.getD_none, List.map_nil, bz52, p1, p2, p3, q1, decide_true, Bool.not_false, Bool.not_true, if_true] <;> rfl) ?_
        refine AC_f (by simp only [go_sem] <;> rfl) rfl (AC_skip ⟨rfl, by simp only [go_sem] <;> rfl, by simp only [go_sem, g0], by simp only [go_sem, g7], by simp only [go_sem, g12], by simp only [go_sem, g13], by simp only [go_sem, g18], by simp only [go_sem, g19]⟩)
      · obtain ⟨p1, p2, p3⟩ := pl vp a hp
        obtain ⟨q1, q2, q3⟩ := pl vq b hq
        refine AC_seq ?_
        refine AC_regD [] mixed (by kernel_rfl) ?_
        refine AQ_take TT_ok 12 rfl (by simp only [go_sem, g8, g9, g10, g11, g14, g16, d01, d00, hO5.load, hO7.load, ap52_self, abin_bool_neq, self, Option.isSome_some, Option.isSome_none, Option.getD_some, Option.getD_none, List.map_nil, bz52, p1, p2, p3, q1, q2, q3, decide_true, Bool.not_false, Bool.not_true, if_true] <;> rfl) ?_
        simp only [List.drop_succ_cons, List.drop_zero]
        refine AQ_take TT_ok 12 rfl (by simp only [go_sem, g8, g9, g10, g11, g14, g16, d01, d00, hO5.load, hO7.load, ap52_self, abin_bool_neq, self, Option.isSome_some, Option.isSome_none, Option.getD_some, Option.getD_none, List.map_nil, bz52, p1, p2, p3, q1, q2, q3, decide_true, Bool.not_false, Bool.not_true, if_true] <;> rfl) ?_
        simp only [List.drop_succ_cons, List.drop_zero]
        refine AQ_take TT_ok 12 rfl (by simp only [go_sem, g8, g9, g10, g11, g14, g16, d01, d00, hO5.load, hO7.load, ap52_self, abin_bool_neq, self, Option.isSome_some, Option.isSome_none, Option.getD_some, Option.getD_none, List.map_nil, bz52, p1, p2, p3, q1, q2, q3, decide_true, Bool.not_false, Bool.not_true, if_true] <;> rfl) ?_
        simp only [List.drop_succ_cons, List.drop_zero]
        refine AQ_all TT_ok rfl (by simp only [go_sem, g8, g9, g10, g11, g14, g16, d01, d00, hO5.load, hO7.load, ap52_self, abin_bool_neq, self, Option.isSome_some, Option.isSome_none, Option.getD_some, Option.getD_none, List.map_nil, bz52, p1, p2, p3, q1, q2, q3, decide_true, Bool.not_false, Bool.not_true, if_true] <;> rfl) ?_
        refine AC_f (by simp only [go_sem] <;> rfl) rfl (AC_skip ⟨rfl, by simp only [go_sem] <;> rfl, by simp only [go_sem, g0], by simp only [go_sem, g7], by simp only [go_sem, g12], by simp only [go_sem, g13], by simp only [go_sem, g18], by simp only [go_sem, g19]⟩)
  subst hH
  have dt : decide (t = t) = true := decide_eq_true rfl
  have db : decide (decide (Isw t) = decide (Isw t)) = true := decide_eq_true rfl
  have hll := some1_len (prs t) (fun k => decide (key ≤ k)) n
  have hpl := prs_len t
  have dm : decide (some1 (prs t) (fun k => decide (key ≤ k)) n = some1 (prs t) (fun k => decide (key ≤ k)) n) = true := decide_eq_true rfl
  refine AC_seq ?_
  refine AC_regL ?_
  refine AQ_take TT_ok 2 rfl (by simp only [go_sem, g12, g18] <;> rfl) ?_
  refine AQ_c rfl (by simp only [go_sem] <;> rfl) fok35 (by simp only [List.map_cons, List.map_nil, List.append_nil, go_sem] <;> rfl) (c35 hl hm11 (by omega)) (fun _ _ h => h.elim) (.inl rfl) fun r H13 hX13 ⟨hr, hH⟩ => ?_
  subst hr hH
  refine AQ_take TT_ok 8 rfl (by simp only [go_sem, dm, g13, g19, g7, g0, db] <;> rfl) ?_
  refine AQ_c rfl (by simp only [go_sem] <;> rfl) fok34 (by simp only [List.map_cons, List.map_nil, List.append_nil, go_sem] <;> rfl) (c34 hi ht (by omega)) (fun _ _ h => h.elim) (.inl rfl) fun r H13 hX13 ⟨hr, hH⟩ => ?_
  subst hr hH
  refine AQ_take TT_ok 2 rfl (by simp only [go_sem, dt] <;> rfl) ?_
  refine AQ_c rfl (by simp only [go_sem] <;> rfl) fok40 (by simp only [List.map_cons, List.map_nil, List.append_nil, go_sem] <;> rfl) (c40) (fun _ _ h => h.elim) (.inl rfl) fun r H13 hX13 hr => ?_
  subst hr
  refine AQ_all TT_ok rfl (by simp only [go_sem] <;> rfl) ?_
  exact AC_ret ⟨.inl rfl, _, rfl, by simp only [go_sem]⟩
end Go.Proofs.Ythalogdopkoidaa.Ab
set_option linter.unusedVariables false
set_option linter.unusedSimpArgs false
namespace Go.Proofs.Ythalogdopkoidaa.Ab
open Go Go.RowKit Go.Proofs.Ythalogdopkoidaa.Dr

theorem find_first {l : List Pr} (hm : May l) {q : List UInt8 → Bool} {i : Nat} (hi : i < l.length) (hq : q l[i].key = true) : ∃ a, (l.find? fun x => q x.key) = some a ∧ decide (l[i].key < a.key) = false := by
  have hp := hm.2
  cases ho : l.find? fun x => q x.key with
  | none =>
    have := List.find?_eq_none.1 ho l[i] (List.getElem_mem hi)
    exact absurd hq this
  | some a =>
    refine ⟨a, rfl, decide_eq_false fun hlt => ?_⟩
    obtain ⟨hqa, l1, l2, e, hn⟩ := List.find?_eq_some_iff_append.1 ho
    subst e
    rw [List.pairwise_append] at hp
    have hmem : (l1 ++ a :: l2)[i] ∈ l1 ++ a :: l2 := List.getElem_mem hi
    rcases List.mem_append.1 hmem with h | h
    · have := hn _ h
      rw [hq] at this
      simp at this
    · rcases List.mem_cons.1 h with h | h
      · rw [h] at hlt; exact absurd hlt (List.lt_irrefl _)
      · have h3 := (List.pairwise_cons.1 hp.2.1).1 _ h
        exact absurd (lt_tr hlt h3) (List.lt_irrefl _)
theorem find_le_lt {l : List Pr} {key : List UInt8} (h : (l.find? fun x => decide (key < x.key)).isSome = true) : (l.find? fun x => decide (key ≤ x.key)).isSome = true := by
  obtain ⟨b, hb⟩ := Option.isSome_iff_exists.1 h
  have h1 := List.find?_some hb
  have h2 := List.mem_of_find?_eq_some hb
  rw [List.find?_isSome]
  exact ⟨b, h2, decide_eq_true (List.le_of_lt (of_decide_eq_true h1))⟩
theorem find_all {l : List Pr} {q : List UInt8 → Bool} {a : Pr} (h : (l.find? fun x => q x.key) = some a) : q a.key = true := by
  have := List.find?_some h
  simpa using this

set_option maxRecDepth 100000 in
set_option maxHeartbeats 8000000 in
theorem c10 {H : AHeap} {vl : Value} {l : List Pr} {key : List UInt8} (hl : PrS H vl l) : ACalls Try.prog 10 [vl, S key] H (fun _ => False) fun v H' => v = .bool true := by
  refine ACalls_by 107 TT_ok Try.func10 rfl rfl rfl (by simp) ?_
  refine AC_seqQ TT_ok (by simp only [go_sem] <;> rfl) ?_
  refine AC_cut (fun e' H' => H' = H ∧ szP l ≤ 3000 ∧ May l ∧ get e' 0 = vl ∧ get e' 1 = S key) ?_ (fun e1 H1 _ ⟨hH, hsP, hm, g0, g1⟩ => ?_)
  · refine AC_cut (fun e' H' => H' = H ∧ ∃ b, get e' 23 = .bool b ∧ (b = false → szP l ≤ 3000 ∧ May l) ∧ get e' 0 = vl ∧ get e' 1 = S key) ?_ (fun e1 H1 _ ⟨hH, b, hcnd, hb, g0, g1⟩ => ?_)
    · refine AC_regL ?_
      refine AQ_take TT_ok 1 rfl (by simp only [go_sem] <;> rfl) ?_
      refine AQ_c rfl (by simp only [go_sem] <;> rfl) fok26 (by simp only [List.map_cons, List.map_nil, List.append_nil, go_sem] <;> rfl) (c26 hl) (fun _ _ h => h.elim) (.inl rfl) fun r H1 hX1 ⟨hH, b, hr, hb⟩ => ?_
      subst hr hH
      cases b
      · have hs := hb rfl
        have := szP_len l
        refine AQ_take TT_ok 2 rfl (by simp only [go_sem] <;> rfl) ?_
        refine AQ_c rfl (by simp only [go_sem] <;> rfl) fok39 (by simp only [List.map_cons, List.map_nil, List.append_nil, go_sem] <;> rfl) (c39 hl (by omega)) (fun _ _ h => h.elim) (.inl rfl) fun r H1 hX1 ⟨hr, hH⟩ => ?_
        subst hr hH
        by_cases hm : May l
        · have dm : decide (May l) = true := decide_eq_true hm
          refine AQ_all TT_ok rfl (by simp only [go_sem, dm, Bool.not_true] <;> rfl) ?_
          refine ⟨rfl, decide ((100 : Int) < (key.length : Int)), by simp only [go_sem], fun h => ⟨hs, hm⟩, by simp only [go_sem], by simp only [go_sem]⟩
        · have dm : decide (May l) = false := decide_eq_false hm
          refine AQ_all TT_ok rfl (by simp only [go_sem, dm, Bool.not_false] <;> rfl) ?_
          exact ⟨rfl, true, by simp only [go_sem], fun h => (by cases h), by simp only [go_sem], by simp only [go_sem]⟩
      · refine AQ_take TT_ok 2 rfl (by simp only [go_sem] <;> rfl) ?_
        refine AQ_pass rfl ?_
        refine AQ_all TT_ok rfl (by simp only [go_sem] <;> rfl) ?_
        exact ⟨rfl, true, by simp only [go_sem], fun h => (by cases h), by simp only [go_sem], by simp only [go_sem]⟩
    subst hH
    cases b
    · exact AC_f hcnd rfl (AC_skip ⟨rfl, (hb rfl).1, (hb rfl).2, g0, g1⟩)
    · refine AC_t hcnd rfl ?_
      refine AC_seq ?_
      refine AC_regL ?_
      refine AQ_c rfl (by simp only [go_sem] <;> rfl) fok40 (by simp only [List.map_cons, List.map_nil, List.append_nil, go_sem] <;> rfl) (c40) (fun _ _ h => h.elim) (.inl rfl) fun r H1 hX1 hr => ?_
      subst hr
      refine AQ_all TT_ok rfl (by simp only [go_sem] <;> rfl) ?_
      exact AC_ret ⟨.inl rfl, _, rfl, by simp only [go_sem]⟩
  subst hH
  have hll := szP_len l
  have bl : (build l).length ≤ 17 * 3000 := by have := build_len l; omega
  have hbp := build_path hm
  have hbn : ∀ n ∈ build l, n.path.length < 2^30 := fun n hn => by have := hbp n hn; omega
  have his := isw_build hm
  have di : decide (Isw (build l)) = true := decide_eq_true his
  have hpb := prs_build hm
  refine AC_seq ?_
  refine AC_regL ?_
  refine AQ_take TT_ok 1 rfl (by simp only [go_sem, g0] <;> rfl) ?_
  refine AQ_c rfl (by simp only [go_sem] <;> rfl) fok30 (by simp only [List.map_cons, List.map_nil, List.append_nil, go_sem] <;> rfl) (c30 hl (by omega)) (fun _ _ h => h.elim) (.inl rfl) fun r H2 hX2 ⟨vt, vp, hr, hT2, _, _, _⟩ => ?_
  subst hr
  rw [if_pos hm] at hT2
  have hT2 : NdS H2 vt (build l) := hT2.sl
  have hl2 := hl.keep hX2
  refine AQ_all TT_ok rfl (by simp only [go_sem, (pick32 hT2), List.map_cons, List.map_nil] <;> rfl) ?_
  refine AC_fixe (fun e' => get e' 0 = vl ∧ get e' 1 = S key ∧ get e' 5 = vt) ⟨by simp only [go_sem, g0], by simp only [go_sem, g1], by simp only [go_sem]⟩ (fun e2 ⟨g0, g1, g5⟩ => ?_)
  refine AC_seq ?_
  refine AC_regL ?_
  refine AQ_take TT_ok 2 rfl (by simp only [go_sem, g5, g1] <;> rfl) ?_
  refine AQ_c rfl (by simp only [go_sem] <;> rfl) fok41 (by simp only [List.map_cons, List.map_nil, List.append_nil, go_sem] <;> rfl) (c41 (key := key) hT2 (by omega) hbn) (fun _ _ h => h.elim) (.inl rfl) fun r H4 hX4 hr => ?_
  rw [hpb] at hr
  have f1 := fun i (hi : i < l.length) => find_first hm (q := fun k => decide (key ≤ k)) hi
  have a1 := fun a => find_all (l := l) (q := fun k => decide (key ≤ k)) (a := a)
  have f12 := find_le_lt (l := l) (key := key)
  generalize (l.find? fun x => decide (key ≤ x.key)) = o1 at hr f1 a1 f12
  subst hr
  refine AQ_take TT_ok 3 rfl (by simp only [go_sem, ans] <;> rfl) ?_
  refine AQ_var TT_ok TT_52 rfl (by decide) (by simp only [go_sem] <;> rfl) (Lay.pr (o1.getD ⟨[], []⟩)) rfl (.inl (by have := hX2.size; have := hX4.size; omega)) (.inl rfl) fun H5 hX5 hO5 hL5 => ?_
  refine AQ_all TT_ok rfl (by simp only [go_sem] <;> rfl) ?_
  have x5 := hX4.trans hX5
  have s5 := hX2.trans x5
  have hT5 := hT2.keep x5
  refine AC_fixe (fun e' => get e' 0 = vl ∧ get e' 1 = S key ∧ get e' 5 = vt ∧ get e' 6 = .pointer (some ⟨H4.length, 0, none⟩) ∧ get e' 7 = .bool o1.isSome) ⟨by simp only [go_sem, g0], by simp only [go_sem, g1], by simp only [go_sem, g5], by simp only [go_sem], by simp only [go_sem]⟩ (fun e5 ⟨g0, g1, g5, g6, g7⟩ => ?_)
  refine AC_seq ?_
  refine AC_regL ?_
  refine AQ_take TT_ok 2 rfl (by simp only [go_sem, g5, g1] <;> rfl) ?_
  refine AQ_c rfl (by simp only [go_sem] <;> rfl) fok42 (by simp only [List.map_cons, List.map_nil, List.append_nil, go_sem] <;> rfl) (c42 (key := key) hT5 (by omega) hbn) (fun _ _ h => h.elim) (.inl rfl) fun r H6 hX6 hr => ?_
  rw [hpb] at hr
  have f2 := fun i (hi : i < l.length) => find_first hm (q := fun k => decide (key < k)) hi
  have a2 := fun a => find_all (l := l) (q := fun k => decide (key < k)) (a := a)
  generalize (l.find? fun x => decide (key < x.key)) = o2 at hr f2 a2 f12
  subst hr
  refine AQ_take TT_ok 3 rfl (by simp only [go_sem, ans] <;> rfl) ?_
  refine AQ_var TT_ok TT_52 rfl (by decide) (by simp only [go_sem] <;> rfl) (Lay.pr (o2.getD ⟨[], []⟩)) rfl (.inl (by have := s5.size; have := hX6.size; omega)) (.inl rfl) fun H7 hX7 hO7 hL7 => ?_
  refine AQ_all TT_ok rfl (by simp only [go_sem] <;> rfl) ?_
  have x7 := hX6.trans hX7
  have hl7 := hl2.keep (x5.trans x7)
  have hO5 := hO5.keep x7
  refine AC_fixe (fun e' => get e' 0 = vl ∧ get e' 1 = S key ∧ get e' 6 = .pointer (some ⟨H4.length, 0, none⟩) ∧ get e' 7 = .bool o1.isSome ∧ get e' 8 = .pointer (some ⟨H6.length, 0, none⟩) ∧ get e' 9 = .bool o2.isSome) ⟨by simp only [go_sem, g0], by simp only [go_sem, g1], by simp only [go_sem, g6], by simp only [go_sem, g7], by simp only [go_sem], by simp only [go_sem]⟩ (fun e7 ⟨g0, g1, g6, g7, g8, g9⟩ => ?_)
  have k1 : ∀ p : Pr, apart TT 9 p.cells 0 = some (S p.key) := fun p => rfl
  refine AC_cut (fun e' H' => H' = H7 ∧ get e' 0 = vl ∧ get e' 1 = S key ∧ get e' 6 = .pointer (some ⟨H4.length, 0, none⟩) ∧ get e' 7 = .bool o1.isSome ∧ get e' 8 = .pointer (some ⟨H6.length, 0, none⟩) ∧ get e' 9 = .bool o2.isSome) ?_ (fun e8 H8 _ ⟨hH, g0, g1, g6, g7, g8, g9⟩ => ?_)
  · refine AC_seqQ TT_ok (by simp only [go_sem] <;> rfl) ?_
    refine AC_block (AC_loop (fun m e' H' => ∃ i : Nat, m = l.length - i ∧ i ≤ l.length ∧ H' = H7 ∧ get e' 0 = vl ∧ get e' 1 = S key ∧ get e' 6 = .pointer (some ⟨H4.length, 0, none⟩) ∧ get e' 7 = .bool o1.isSome ∧ get e' 8 = .pointer (some ⟨H6.length, 0, none⟩) ∧ get e' 9 = .bool o2.isSome ∧ get e' 10 = .int .i64 (i : Nat)) l.length ⟨0, by simp, by simp, rfl, by simp only [go_sem, g0], by simp only [go_sem, g1], by simp only [go_sem, g6], by simp only [go_sem, g7], by simp only [go_sem, g8], by simp only [go_sem, g9], by simp only [go_sem] <;> simp⟩ ?_)
    rintro m e8 H8 _ ⟨i, hmi, hi, rfl, g0, g1, g6, g7, g8, g9, g10⟩
    have k5 := wrapN i (by omega)
    refine AC_seq ?_
    refine AC_seqQ TT_ok (by simp only [go_sem, g0, g10, hl7.alen] <;> rfl) ?_
    by_cases hi' : i < l.length
    · refine AC_t (by simp only [go_sem] <;> rfl) (lt_dec hi') ?_
      refine AC_skip ?_
      have b1 := hl7.index (k := .i64) (j := (i : Int)) (by omega) (by omega)
      rw [Int.toNat_natCast] at b1
      have b2 := hl7.f0 hi'
      have b3 := hl7.key hi'
      refine AC_seq (AC_block ?_)
      refine AC_seqQ TT_ok (by simp only [go_sem, g0, g10, b1, b2, b3] <;> rfl) ?_
      have z1 : decide (key ≤ l[i].key) = false ∨ ∃ a, o1 = some a ∧ decide (l[i].key < a.key) = false ∧ decide (key ≤ l[i].key) = true := by
        cases h : decide (key ≤ l[i].key)
        · exact .inl rfl
        · obtain ⟨a, h1, h2⟩ := f1 i hi' h; exact .inr ⟨a, h1, h2, rfl⟩
      have z2 : decide (key < l[i].key) = false ∨ ∃ a, o2 = some a ∧ decide (l[i].key < a.key) = false ∧ decide (key < l[i].key) = true := by
        cases h : decide (key < l[i].key)
        · exact .inl rfl
        · obtain ⟨a, h1, h2⟩ := f2 i hi' h; exact .inr ⟨a, h1, h2, rfl⟩
      refine AC_cut (fun e' H' => H' = H8 ∧ get e' 78 = .bool false ∧ get e' 0 = vl ∧ get e' 1 = S key ∧ get e' 6 = .pointer (some ⟨H4.length, 0, none⟩) ∧ get e' 7 = .bool o1.isSome ∧ get e' 8 = .pointer (some ⟨H6.length, 0, none⟩) ∧ get e' 9 = .bool o2.isSome ∧ get e' 10 = .int .i64 (i : Nat)) ?_ (fun e9 H9 _ ⟨hH, g78, g0, g1, g6, g7, g8, g9, g10⟩ => ?_)
      · rcases z1 with d1 | ⟨a, rfl, h1, d1⟩
        · rcases z2 with d2 | ⟨b, rfl, h2, d2⟩
          · refine AC_regL ?_
            refine AQ_take TT_ok 8 rfl (by simp only [go_sem, g1, g6, g7, g8, g9, f52_0, hO5.load, hO7.load, k1, Option.getD_some, Option.isSome_some, Bool.not_true, Bool.not_false, decide_true, if_true, d1, d2] <;> rfl) ?_
            simp only [List.drop_succ_cons, List.drop_zero]
            refine AQ_take TT_ok 12 rfl (by simp only [go_sem, g1, g6, g7, g8, g9, f52_0, hO5.load, hO7.load, k1, Option.getD_some, Option.isSome_some, Bool.not_true, Bool.not_false, decide_true, if_true, d1, d2] <;> rfl) ?_
            simp only [List.drop_succ_cons, List.drop_zero]
            refine AQ_all TT_ok rfl (by simp only [go_sem, g1, g6, g7, g8, g9, f52_0, hO5.load, hO7.load, k1, Option.getD_some, Option.isSome_some, Bool.not_true, Bool.not_false, decide_true, if_true, d1, d2] <;> rfl) ?_
            exact ⟨rfl, by simp only [go_sem] <;> rfl, by simp only [go_sem, g0], by simp only [go_sem, g1], by simp only [go_sem, g6], by simp only [go_sem, g7], by simp only [go_sem, g8], by simp only [go_sem, g9], by simp only [go_sem, g10]⟩
          · refine AC_regL ?_
            refine AQ_take TT_ok 8 rfl (by simp only [go_sem, g1, g6, g7, g8, g9, f52_0, hO5.load, hO7.load, k1, Option.getD_some, Option.isSome_some, Bool.not_true, Bool.not_false, decide_true, if_true, d1, d2, h2] <;> rfl) ?_
            simp only [List.drop_succ_cons, List.drop_zero]
            refine AQ_take TT_ok 12 rfl (by simp only [go_sem, g1, g6, g7, g8, g9, f52_0, hO5.load, hO7.load, k1, Option.getD_some, Option.isSome_some, Bool.not_true, Bool.not_false, decide_true, if_true, d1, d2, h2] <;> rfl) ?_
            simp only [List.drop_succ_cons, List.drop_zero]
            refine AQ_all TT_ok rfl (by simp only [go_sem, g1, g6, g7, g8, g9, f52_0, hO5.load, hO7.load, k1, Option.getD_some, Option.isSome_some, Bool.not_true, Bool.not_false, decide_true, if_true, d1, d2, h2] <;> rfl) ?_
            exact ⟨rfl, by simp only [go_sem] <;> rfl, by simp only [go_sem, g0], by simp only [go_sem, g1], by simp only [go_sem, g6], by simp only [go_sem, g7], by simp only [go_sem, g8], by simp only [go_sem, g9], by simp only [go_sem, g10]⟩
        · rcases z2 with d2 | ⟨b, rfl, h2, d2⟩
          · refine AC_regL ?_
            refine AQ_take TT_ok 8 rfl (by simp only [go_sem, g1, g6, g7, g8, g9, f52_0, hO5.load, hO7.load, k1, Option.getD_some, Option.isSome_some, Bool.not_true, Bool.not_false, decide_true, if_true, d1, h1, d2] <;> rfl) ?_
            simp only [List.drop_succ_cons, List.drop_zero]
            refine AQ_take TT_ok 12 rfl (by simp only [go_sem, g1, g6, g7, g8, g9, f52_0, hO5.load, hO7.load, k1, Option.getD_some, Option.isSome_some, Bool.not_true, Bool.not_false, decide_true, if_true, d1, h1, d2] <;> rfl) ?_
            simp only [List.drop_succ_cons, List.drop_zero]
            refine AQ_all TT_ok rfl (by simp only [go_sem, g1, g6, g7, g8, g9, f52_0, hO5.load, hO7.load, k1, Option.getD_some, Option.isSome_some, Bool.not_true, Bool.not_false, decide_true, if_true, d1, h1, d2] <;> rfl) ?_
            exact ⟨rfl, by simp only [go_sem] <;> rfl, by simp only [go_sem, g0], by simp only [go_sem, g1], by simp only [go_sem, g6], by simp only [go_sem, g7], by simp only [go_sem, g8], by simp only [go_sem, g9], by simp only [go_sem, g10]⟩
          · refine AC_regL ?_
            refine AQ_take TT_ok 8 rfl (by simp only [go_sem, g1, g6, g7, g8, g9, f52_0, hO5.load, hO7.load, k1, Option.getD_some, Option.isSome_some, Bool.not_true, Bool.not_false, decide_true, if_true, d1, h1, d2, h2] <;> rfl) ?_
            simp only [List.drop_succ_cons, List.drop_zero]
            refine AQ_take TT_ok 12 rfl (by simp only [go_sem, g1, g6, g7, g8, g9, f52_0, hO5.load, hO7.load, k1, Option.getD_some, Option.isSome_some, Bool.not_true, Bool.not_false, decide_true, if_true, d1, h1, d2, h2] <;> rfl) ?_
            simp only [List.drop_succ_cons, List.drop_zero]
            refine AQ_all TT_ok rfl (by simp only [go_sem, g1, g6, g7, g8, g9, f52_0, hO5.load, hO7.load, k1, Option.getD_some, Option.isSome_some, Bool.not_true, Bool.not_false, decide_true, if_true, d1, h1, d2, h2] <;> rfl) ?_
            exact ⟨rfl, by simp only [go_sem] <;> rfl, by simp only [go_sem, g0], by simp only [go_sem, g1], by simp only [go_sem, g6], by simp only [go_sem, g7], by simp only [go_sem, g8], by simp only [go_sem, g9], by simp only [go_sem, g10]⟩
      subst hH
      refine AC_f g78 rfl (AC_skip ?_)
      refine AC_quiet TT_ok (by simp only [go_sem, g10, k5] <;> rfl) ?_
      exact ⟨l.length - (i + 1), by omega, i + 1, rfl, by omega, rfl, by simp only [go_sem, g0], by simp only [go_sem, g1], by simp only [go_sem, g6], by simp only [go_sem, g7], by simp only [go_sem, g8], by simp only [go_sem, g9], by simp only [go_sem]⟩
    · refine AC_f (by simp only [go_sem] <;> rfl) (ge_dec (by omega)) ?_
      exact AC_exit ⟨rfl, by simp only [go_sem, g0], by simp only [go_sem, g1], by simp only [go_sem, g6], by simp only [go_sem, g7], by simp only [go_sem, g8], by simp only [go_sem, g9]⟩
  subst hH
  rcases o1 with _ | a
  · rcases o2 with _ | b
    · refine AC_seq ?_
      refine AC_regL ?_
      refine AQ_take TT_ok 14 rfl (by simp only [go_sem, g1, g6, g7, g8, g9, f52_0, hO5.load, hO7.load, k1, Option.getD_some, Option.getD_none, Option.isSome_some, Option.isSome_none, Bool.not_true, Bool.not_false, decide_true, if_true] <;> rfl) ?_
      simp only [List.drop_succ_cons, List.drop_zero]
      refine AQ_take TT_ok 12 rfl (by simp only [go_sem, g1, g6, g7, g8, g9, f52_0, hO5.load, hO7.load, k1, Option.getD_some, Option.getD_none, Option.isSome_some, Option.isSome_none, Bool.not_true, Bool.not_false, decide_true, if_true] <;> rfl) ?_
      simp only [List.drop_succ_cons, List.drop_zero]
      refine AQ_c rfl (by simp only [go_sem] <;> rfl) fok40 (by simp only [List.map_cons, List.map_nil, List.append_nil, go_sem] <;> rfl) (c40) (fun _ _ h => h.elim) (.inl rfl) fun r H9 hX9 hr => ?_
      subst hr
      refine AQ_all TT_ok rfl (by simp only [go_sem] <;> rfl) ?_
      exact AC_ret ⟨.inl rfl, _, rfl, by simp only [go_sem]⟩
    · exact absurd (f12 rfl) (by simp)
  · have ha := a1 a rfl
    rcases o2 with _ | b
    · refine AC_seq ?_
      refine AC_regL ?_
      refine AQ_take TT_ok 14 rfl (by simp only [go_sem, g1, g6, g7, g8, g9, f52_0, hO5.load, hO7.load, k1, Option.getD_some, Option.getD_none, Option.isSome_some, Option.isSome_none, Bool.not_true, Bool.not_false, decide_true, if_true, ha] <;> rfl) ?_
      simp only [List.drop_succ_cons, List.drop_zero]
      refine AQ_take TT_ok 12 rfl (by simp only [go_sem, g1, g6, g7, g8, g9, f52_0, hO5.load, hO7.load, k1, Option.getD_some, Option.getD_none, Option.isSome_some, Option.isSome_none, Bool.not_true, Bool.not_false, decide_true, if_true, ha] <;> rfl) ?_
      simp only [List.drop_succ_cons, List.drop_zero]
      refine AQ_c rfl (by simp only [go_sem] <;> rfl) fok40 (by simp only [List.map_cons, List.map_nil, List.append_nil, go_sem] <;> rfl) (c40) (fun _ _ h => h.elim) (.inl rfl) fun r H9 hX9 hr => ?_
      subst hr
      refine AQ_all TT_ok rfl (by simp only [go_sem] <;> rfl) ?_
      exact AC_ret ⟨.inl rfl, _, rfl, by simp only [go_sem]⟩
    · have hb := a2 b rfl
      refine AC_seq ?_
      refine AC_regL ?_
      refine AQ_take TT_ok 14 rfl (by simp only [go_sem, g1, g6, g7, g8, g9, f52_0, hO5.load, hO7.load, k1, Option.getD_some, Option.getD_none, Option.isSome_some, Option.isSome_none, Bool.not_true, Bool.not_false, decide_true, if_true, ha, hb] <;> rfl) ?_
      simp only [List.drop_succ_cons, List.drop_zero]
      refine AQ_take TT_ok 12 rfl (by simp only [go_sem, g1, g6, g7, g8, g9, f52_0, hO5.load, hO7.load, k1, Option.getD_some, Option.getD_none, Option.isSome_some, Option.isSome_none, Bool.not_true, Bool.not_false, decide_true, if_true, ha, hb] <;> rfl) ?_
      simp only [List.drop_succ_cons, List.drop_zero]
      refine AQ_c rfl (by simp only [go_sem] <;> rfl) fok40 (by simp only [List.map_cons, List.map_nil, List.append_nil, go_sem] <;> rfl) (c40) (fun _ _ h => h.elim) (.inl rfl) fun r H9 hX9 hr => ?_
      subst hr
      refine AQ_all TT_ok rfl (by simp only [go_sem] <;> rfl) ?_
      exact AC_ret ⟨.inl rfl, _, rfl, by simp only [go_sem]⟩
end Go.Proofs.Ythalogdopkoidaa.Ab
set_option linter.unusedVariables false
set_option linter.unusedSimpArgs false
namespace Go.Proofs.Ythalogdopkoidaa.Ab
open Go Go.RowKit Go.Proofs.Ythalogdopkoidaa.Dr

theorem le_snoc : ∀ {a k : List UInt8}, a ++ [0] ≤ k ↔ a < k
  | [], [] => by decide
  | [], c :: k => by
    constructor
    · intro _; exact List.nil_lt_cons c k
    · intro _
      rw [List.nil_append, ← List.not_lt]
      intro h
      rcases List.cons_lt_cons_iff.1 h with h | ⟨_, h⟩
      · exact absurd h (by simp)
      · exact absurd h (List.not_lt_nil _)
  | x :: a, [] => by
    constructor
    · intro h
      rw [List.cons_append, ← List.not_lt] at h
      exact absurd (List.nil_lt_cons x (a ++ [0])) h
    · intro h; exact absurd h (List.not_lt_nil _)
  | x :: a, c :: k => by
    have ih := le_snoc (a := a) (k := k)
    rw [List.cons_append, ← List.not_lt, List.cons_lt_cons_iff, List.cons_lt_cons_iff, ← ih, ← List.not_lt]
    constructor
    · intro h
      rcases UInt8.lt_or_eq_of_le (UInt8.not_lt.1 (fun h' => h (.inl h'))) with h1 | h1
      · exact .inl h1
      · exact .inr ⟨h1, fun h2 => h (.inr ⟨h1.symm, h2⟩)⟩
    · rintro (h | ⟨h, h'⟩) (h2 | ⟨h2, h3⟩)
      · exact absurd (UInt8.lt_trans h h2) (UInt8.lt_irrefl _)
      · subst h2; exact absurd h (UInt8.lt_irrefl _)
      · subst h; exact absurd h2 (UInt8.lt_irrefl _)
      · exact h' h3

theorem sorted_above {F : List Pr} (hp : F.Pairwise fun x y => x.key < y.key) {a : Nat} (h1 : 1 ≤ a) (ha : a ≤ F.length) : F.filter (fun x => decide ((F[a - 1]).key < x.key)) = F.drop a := by
  have hall : ∀ i (hi : i < F.length), decide ((F[a - 1]).key < (F[i]).key) = decide (a ≤ i) := fun i hi => by
    by_cases h : a ≤ i
    · rw [decide_eq_true h]
      exact decide_eq_true (List.pairwise_iff_getElem.1 hp (a - 1) i (by omega) hi (by omega))
    · rw [decide_eq_false h]
      refine decide_eq_false fun hlt => ?_
      rcases Nat.lt_or_ge i (a - 1) with h2 | h2
      · exact absurd (lt_tr hlt (List.pairwise_iff_getElem.1 hp i (a - 1) hi (by omega) h2)) (List.lt_irrefl _)
      · have e : i = a - 1 := by omega
        subst e
        exact absurd hlt (List.lt_irrefl _)
  obtain ⟨k, hk⟩ : ∃ k, k = (F[a - 1]).key := ⟨_, rfl⟩
  simp only [← hk] at hall ⊢
  have t1 : (F.take a).filter (fun x => decide (k < x.key)) = [] := by
    rw [List.filter_eq_nil_iff]
    intro x hx
    obtain ⟨i, hi, rfl⟩ := List.mem_iff_getElem.1 hx
    rw [List.getElem_take]
    rw [hall i (by rw [List.length_take] at hi; omega)]
    rw [List.length_take] at hi
    simp; omega
  have t2 : (F.drop a).filter (fun x => decide (k < x.key)) = F.drop a := by
    rw [List.filter_eq_self]
    intro x hx
    obtain ⟨i, hi, rfl⟩ := List.mem_iff_getElem.1 hx
    rw [List.getElem_drop]
    rw [hall (a + i) (by rw [List.length_drop] at hi; omega)]
    simp
  have t3 : F.filter (fun x => decide (k < x.key)) = (F.take a ++ F.drop a).filter (fun x => decide (k < x.key)) := by rw [List.take_append_drop]
  rw [t3, List.filter_append, t1, t2, List.nil_append]

theorem rest_part {l : List Pr} (hm : May l) {key : List UInt8} {a : Nat} (h1 : 1 ≤ a) (ha : a ≤ (l.filter fun x => decide (key ≤ x.key)).length) :
    l.filter (fun x => decide (((l.filter fun x => decide (key ≤ x.key))[a - 1]).key ++ [0] ≤ x.key)) = (l.filter fun x => decide (key ≤ x.key)).drop a := by
  have hp : (l.filter fun x => decide (key ≤ x.key)).Pairwise fun x y => x.key < y.key := hm.2.filter _
  have e1 : ∀ p : Pr, key ≤ p.key → l.filter (fun x => decide (p.key ++ [0] ≤ x.key)) = (l.filter fun x => decide (key ≤ x.key)).filter (fun x => decide (p.key < x.key)) := fun p hp => by
    rw [List.filter_filter]
    apply List.filter_congr
    intro x _
    by_cases h : p.key < x.key
    · have h2 : key ≤ x.key := List.le_trans hp (List.le_of_lt h)
      simp [le_snoc, h, h2]
    · simp [le_snoc, h]
  have hk : key ≤ ((l.filter fun x => decide (key ≤ x.key))[a - 1]).key := by
    have := List.getElem_mem (l := l.filter fun x => decide (key ≤ x.key)) (n := a - 1) (by omega)
    exact of_decide_eq_true (List.mem_filter.1 this).2
  rw [e1 _ hk]
  exact sorted_above hp h1 ha

/-- CursorParts's law, in plain lists. -/
theorem parts_law {l : List Pr} (hm : May l) {key : List UInt8} (a b : Nat) (h1 : 1 ≤ a) :
    let A := some1 l (fun k => decide (key ≤ k)) ((a + b : Nat) : Int)
    let F := some1 l (fun k => decide (key ≤ k)) (a : Int)
    F.length = min a A.length ∧ A.take F.length = F ∧ ∀ (h : a - 1 < F.length), a ≤ F.length → some1 l (fun k => decide (F[a - 1].key ++ [0] ≤ k)) (b : Int) = (A.take A.length).drop a := by
  intro A F
  have hA : A = (l.filter fun x => decide (key ≤ x.key)).take (a + b) := by
    show (l.filter _).take ((a + b : Nat) : Int).toNat = _
    rw [Int.toNat_natCast]
  have hF : F = (l.filter fun x => decide (key ≤ x.key)).take a := by
    show (l.filter _).take ((a : Nat) : Int).toNat = _
    rw [Int.toNat_natCast]
  refine ⟨?_, ?_, fun h ha => ?_⟩
  · rw [hA, hF, List.length_take, List.length_take]; omega
  · rw [hA, hF, List.take_take, List.length_take]
    have e : min (min a (l.filter fun x => decide (key ≤ x.key)).length) (a + b) = min a (l.filter fun x => decide (key ≤ x.key)).length := by omega
    rw [e]
    rcases Nat.le_total a (l.filter fun x => decide (key ≤ x.key)).length with h | h
    · rw [Nat.min_eq_left h]
    · rw [Nat.min_eq_right h, List.take_of_length_le (Nat.le_refl _), List.take_of_length_le h]
  · rw [hF, List.length_take] at ha
    have hr := rest_part hm (key := key) h1 (by omega)
    have e : F[a - 1].key = ((l.filter fun x => decide (key ≤ x.key))[a - 1]'(by omega)).key := by
      have : F[a - 1] = ((l.filter fun x => decide (key ≤ x.key)).take a)[a - 1]'(by rw [List.length_take]; omega) := by congr 1
      rw [this, List.getElem_take]
    rw [e, List.take_length, some1, hr, hA, List.drop_take]
    simp

theorem Pr.key_le {l : List Pr} (hm : May l) {key : List UInt8} {n : Int} {p : Pr} (hp : p ∈ some1 l (fun k => decide (key ≤ k)) n) : p.key.length ≤ 8 := by
  have h1 := List.mem_of_mem_take hp
  exact (hm.1 p (List.mem_filter.1 h1).1).2.1

set_option maxRecDepth 100000 in
set_option maxHeartbeats 8000000 in
theorem c11 {H : AHeap} {vl : Value} {l : List Pr} {key : List UInt8} {n0 n1 : UInt8} (hl : PrS H vl l) : ACalls Try.prog 11 [vl, S key, .agg #[U n0, U n1]] H (fun _ => False) fun v H' => v = .bool true := by
  refine ACalls_by 110 TT_ok Try.func11 rfl rfl rfl (by simp) ?_
  refine AC_seq ?_
  refine AC_regL ?_
  refine AQ_box TT_ok TT_55 rfl (by simp only [go_sem] <;> rfl) (Lay.two (One.byte n0) (One.byte n1)) rfl fun Hb hXb hOb hLb => ?_
  refine AQ_all TT_ok rfl (by simp only [go_sem] <;> rfl) ?_
  have hl := hl.keep hXb
  refine AC_cut (fun e' H' => H' = Hb ∧ szP l ≤ 3000 ∧ May l ∧ get e' 0 = vl ∧ get e' 1 = S key ∧ get e' 5 = .pointer (some ⟨H.length, 0, none⟩)) ?_ (fun e1 H1 _ ⟨hH, hsP, hm, g0, g1, g5⟩ => ?_)
  · refine AC_cut (fun e' H' => H' = Hb ∧ ∃ b, get e' 27 = .bool b ∧ (b = false → szP l ≤ 3000 ∧ May l) ∧ get e' 0 = vl ∧ get e' 1 = S key ∧ get e' 5 = .pointer (some ⟨H.length, 0, none⟩)) ?_ (fun e1 H1 _ ⟨hH, b, hcnd, hb, g0, g1, g5⟩ => ?_)
    · refine AC_regL ?_
      refine AQ_take TT_ok 1 rfl (by simp only [go_sem] <;> rfl) ?_
      refine AQ_c rfl (by simp only [go_sem] <;> rfl) fok26 (by simp only [List.map_cons, List.map_nil, List.append_nil, go_sem] <;> rfl) (c26 hl) (fun _ _ h => h.elim) (.inl rfl) fun r H1 hX1 ⟨hH, b, hr, hb⟩ => ?_
      subst hr hH
      cases b
      · have hs := hb rfl
        have := szP_len l
        refine AQ_take TT_ok 2 rfl (by simp only [go_sem] <;> rfl) ?_
        refine AQ_c rfl (by simp only [go_sem] <;> rfl) fok39 (by simp only [List.map_cons, List.map_nil, List.append_nil, go_sem] <;> rfl) (c39 hl (by omega)) (fun _ _ h => h.elim) (.inl rfl) fun r H1 hX1 ⟨hr, hH⟩ => ?_
        subst hr hH
        by_cases hm : May l
        · have dm : decide (May l) = true := decide_eq_true hm
          refine AQ_all TT_ok rfl (by simp only [go_sem, dm, Bool.not_true] <;> rfl) ?_
          refine ⟨rfl, decide ((100 : Int) < (key.length : Int)), by simp only [go_sem], fun h => ⟨hs, hm⟩, by simp only [go_sem], by simp only [go_sem], by simp only [go_sem]⟩
        · have dm : decide (May l) = false := decide_eq_false hm
          refine AQ_all TT_ok rfl (by simp only [go_sem, dm, Bool.not_false] <;> rfl) ?_
          exact ⟨rfl, true, by simp only [go_sem], fun h => (by cases h), by simp only [go_sem], by simp only [go_sem], by simp only [go_sem]⟩
      · refine AQ_take TT_ok 2 rfl (by simp only [go_sem] <;> rfl) ?_
        refine AQ_pass rfl ?_
        refine AQ_all TT_ok rfl (by simp only [go_sem] <;> rfl) ?_
        exact ⟨rfl, true, by simp only [go_sem], fun h => (by cases h), by simp only [go_sem], by simp only [go_sem], by simp only [go_sem]⟩
    subst hH
    cases b
    · exact AC_f hcnd rfl (AC_skip ⟨rfl, (hb rfl).1, (hb rfl).2, g0, g1, g5⟩)
    · refine AC_t hcnd rfl ?_
      refine AC_seq ?_
      refine AC_regL ?_
      refine AQ_c rfl (by simp only [go_sem] <;> rfl) fok40 (by simp only [List.map_cons, List.map_nil, List.append_nil, go_sem] <;> rfl) (c40) (fun _ _ h => h.elim) (.inl rfl) fun r H1 hX1 hr => ?_
      subst hr
      refine AQ_all TT_ok rfl (by simp only [go_sem] <;> rfl) ?_
      exact AC_ret ⟨.inl rfl, _, rfl, by simp only [go_sem]⟩
  subst hH
  have hll := szP_len l
  have bl : (build l).length ≤ 17 * 3000 := by have := build_len l; omega
  have hbp := build_path hm
  have hbn : ∀ n ∈ build l, n.path.length < 2^30 := fun n hn => by have := hbp n hn; omega
  have his := isw_build hm
  have di : decide (Isw (build l)) = true := decide_eq_true his
  have hpb := prs_build hm
  refine AC_seq ?_
  refine AC_regL ?_
  refine AQ_take TT_ok 1 rfl (by simp only [go_sem, g0] <;> rfl) ?_
  refine AQ_c rfl (by simp only [go_sem] <;> rfl) fok30 (by simp only [List.map_cons, List.map_nil, List.append_nil, go_sem] <;> rfl) (c30 hl (by omega)) (fun _ _ h => h.elim) (.inl rfl) fun r H2 hX2 ⟨vt, vp, hr, hT2, _, _, _⟩ => ?_
  subst hr
  rw [if_pos hm] at hT2
  have hT2 : NdS H2 vt (build l) := hT2.sl
  have hl2 := hl.keep hX2
  refine AQ_all TT_ok rfl (by simp only [go_sem, (pick32 hT2), List.map_cons, List.map_nil] <;> rfl) ?_
  refine AC_fixe (fun e' => get e' 0 = vl ∧ get e' 1 = S key ∧ get e' 5 = .pointer (some ⟨H.length, 0, none⟩) ∧ get e' 7 = vt) ⟨by simp only [go_sem, g0], by simp only [go_sem, g1], by simp only [go_sem, g5], by simp only [go_sem]⟩ (fun e2 ⟨g0, g1, g5, g7⟩ => ?_)
  have ix0 : aindex TT 55 (.pointer (some ⟨H.length, 0, none⟩)) (.int .i64 0) = some (.pointer (some ⟨H.length, 0, none⟩)) := rfl
  have ix1 : aindex TT 55 (.pointer (some ⟨H.length, 0, none⟩)) (.int .i64 1) = some (.pointer (some ⟨H.length, 1, none⟩)) := rfl
  have ap0 : apart TT 5 [U n0, U n1] 0 = some (U n0) := rfl
  have ap1 : apart TT 5 [U n0, U n1] 1 = some (U n1) := rfl
  have hn0 := n0.toNat_lt
  have hn1 := n1.toNat_lt
  have hb2 := hOb.keep hX2
  have m0 : abinInt .rem .i64 (n0.toNat : Int) .i64 20 = some (.int .i64 ((n0.toNat % 20 : Nat) : Int)) := rem_nat n0.toNat 20 (by decide) (by omega)
  have m1 : abinInt .rem .i64 (n1.toNat : Int) .i64 20 = some (.int .i64 ((n1.toNat % 20 : Nat) : Int)) := rem_nat n1.toNat 20 (by decide) (by omega)
  have hA20 : n0.toNat % 20 < 20 := Nat.mod_lt _ (by decide)
  have hB20 : n1.toNat % 20 < 20 := Nat.mod_lt _ (by decide)
  have w0 := wrapNN (x := 1 + ((n0.toNat % 20 : Nat) : Int)) (m := 1 + n0.toNat % 20) (by omega) (by omega)
  refine AC_seqD TT_ok mixed (by kernel_rfl) (by simp only [go_sem, g5, ix0, ix1, hb2.load, ap0, ap1, u8_int, m0, m1, w0] <;> rfl) ?_
  generalize ha0 : 1 + n0.toNat % 20 = a at *
  generalize n1.toNat % 20 = b at *
  have h1 : 1 ≤ a := by omega
  refine AC_fixe (fun e' => get e' 0 = vl ∧ get e' 1 = S key ∧ get e' 7 = vt ∧ get e' 8 = .int .i64 (a : Nat) ∧ get e' 9 = .int .i64 (b : Nat)) ⟨by simp only [go_sem, g0], by simp only [go_sem, g1], by simp only [go_sem, g7], by simp only [go_sem], by simp only [go_sem]⟩ (fun e3 ⟨g0, g1, g7, g8, g9⟩ => ?_)
  obtain ⟨k1, k2, k3⟩ := parts_law hm (key := key) a b h1
  have kF := fun p => Pr.key_le hm (key := key) (n := ((a : Nat) : Int)) (p := p)
  have kAB := wrapNN (x := ((a : Nat) : Int) + ((b : Nat) : Int)) (m := a + b) (by omega) (by omega)
  refine AC_seq ?_
  refine AC_regL ?_
  refine AQ_take TT_ok 5 rfl (by simp only [go_sem, g7, g1, g8, g9, kAB] <;> rfl) ?_
  refine AQ_c rfl (by simp only [go_sem] <;> rfl) fok43 (by simp only [List.map_cons, List.map_nil, List.append_nil, go_sem] <;> rfl) (c43 (key := key) (n := ((a + b : Nat) : Int)) hT2 (by omega) hbn) (fun _ _ h => h.elim) (.inl rfl) fun r H3 hX3 ⟨va, hr, hA, _⟩ => ?_
  subst hr
  refine AQ_all TT_ok rfl (by simp only [go_sem, di] <;> rfl) ?_
  rw [hpb] at hA
  have hA : PrS H3 va _ := hA.sl
  have hT3 := hT2.keep hX3
  refine AC_fixe (fun e' => get e' 0 = vl ∧ get e' 1 = S key ∧ get e' 7 = vt ∧ get e' 8 = .int .i64 (a : Nat) ∧ get e' 9 = .int .i64 (b : Nat) ∧ get e' 10 = va ∧ get e' 11 = .bool true) ⟨by simp only [go_sem, g0], by simp only [go_sem, g1], by simp only [go_sem, g7], by simp only [go_sem, g8], by simp only [go_sem, g9], by simp only [go_sem], by simp only [go_sem]⟩ (fun e4 ⟨g0, g1, g7, g8, g9, g10, g11⟩ => ?_)
  refine AC_seq ?_
  refine AC_regL ?_
  refine AQ_take TT_ok 3 rfl (by simp only [go_sem, g7, g1, g8] <;> rfl) ?_
  refine AQ_c rfl (by simp only [go_sem] <;> rfl) fok43 (by simp only [List.map_cons, List.map_nil, List.append_nil, go_sem] <;> rfl) (c43 (key := key) (n := ((a : Nat) : Int)) hT3 (by omega) hbn) (fun _ _ h => h.elim) (.inl rfl) fun r H4 hX4 ⟨vf, hr, hF, _⟩ => ?_
  subst hr
  refine AQ_all TT_ok rfl (by simp only [go_sem, di] <;> rfl) ?_
  rw [hpb] at hF
  have hF : PrS H4 vf _ := hF.sl
  have hA := hA.keep hX4
  have hT4 := hT3.keep hX4
  have hAl := some1_len l (fun k => decide (key ≤ k)) ((a + b : Nat) : Int)
  have hFl := some1_len l (fun k => decide (key ≤ k)) ((a : Nat) : Int)
  generalize some1 l (fun k => decide (key ≤ k)) ((a + b : Nat) : Int) = A at *
  generalize some1 l (fun k => decide (key ≤ k)) ((a : Nat) : Int) = F at *
  refine AC_fixe (fun e' => get e' 0 = vl ∧ get e' 1 = S key ∧ get e' 7 = vt ∧ get e' 8 = .int .i64 (a : Nat) ∧ get e' 9 = .int .i64 (b : Nat) ∧ get e' 10 = va ∧ get e' 11 = .bool true ∧ get e' 12 = vf ∧ get e' 13 = .bool true) ⟨by simp only [go_sem, g0], by simp only [go_sem, g1], by simp only [go_sem, g7], by simp only [go_sem, g8], by simp only [go_sem, g9], by simp only [go_sem, g10], by simp only [go_sem, g11], by simp only [go_sem], by simp only [go_sem]⟩ (fun e5 ⟨g0, g1, g7, g8, g9, g10, g11, g12, g13⟩ => ?_)
  have dE : decide ((F.length : Int) = min (a : Int) (A.length : Int)) = true := decide_eq_true (by omega)
  obtain ⟨vc, _, _, sc, hSc, _⟩ := Sl.part Pr.len hA TT_22 rfl TT_52 rfl (by decide) (lo := 0) (hi := F.length) (by omega) (by omega)
  have sc1 := sc rfl .i64
  rw [List.drop_zero, k2] at hSc
  have dF : decide (F = F) = true := decide_eq_true rfl
  refine AC_seq ?_
  refine AC_seq ?_
  refine AC_regL ?_
  refine AQ_take TT_ok 12 rfl (by simp only [go_sem, g8, g10, g11, g12, g13, hA.alen, hF.alen, sc1, dE, Bool.not_true, Bool.not_false, if_true, decide_true] <;> rfl) ?_
  simp only [List.drop_succ_cons, List.drop_zero]
  refine AQ_take TT_ok 9 rfl (by simp only [go_sem, g8, g10, g11, g12, g13, hA.alen, hF.alen, sc1, dE, Bool.not_true, Bool.not_false, if_true, decide_true] <;> rfl) ?_
  simp only [List.drop_succ_cons, List.drop_zero]
  refine AQ_c rfl (by simp only [go_sem] <;> rfl) fok35 (by simp only [List.map_cons, List.map_nil, List.append_nil, go_sem] <;> rfl) (c35 hF hSc (by omega)) (fun _ _ h => h.elim) (.inl rfl) fun r H5 hX5 ⟨hr, hH⟩ => ?_
  subst hr hH
  refine AQ_all TT_ok rfl (by simp only [go_sem, dF, Bool.not_true] <;> rfl) ?_
  refine AC_f (by simp only [go_sem] <;> rfl) (rfl) ?_
  refine AC_skip ?_
  refine AC_fixe (fun e' => get e' 7 = vt ∧ get e' 8 = .int .i64 (a : Nat) ∧ get e' 9 = .int .i64 (b : Nat) ∧ get e' 10 = va ∧ get e' 12 = vf) ⟨by simp only [go_sem, g7], by simp only [go_sem, g8], by simp only [go_sem, g9], by simp only [go_sem, g10], by simp only [go_sem, g12]⟩ (fun e6 ⟨g7, g8, g9, g10, g12⟩ => ?_)
  refine AC_seq ?_
  by_cases hfa : F.length < a
  · have dl : decide ((F.length : Int) < (a : Int)) = true := decide_eq_true (by omega)
    refine AC_seqQ TT_ok (by simp only [go_sem, g12, g8, hF.alen, dl] <;> rfl) ?_
    refine AC_t (by simp only [go_sem] <;> rfl) (rfl) ?_
    refine AC_seq ?_
    refine AC_regL ?_
    refine AQ_c rfl (by simp only [go_sem] <;> rfl) fok40 (by simp only [List.map_cons, List.map_nil, List.append_nil, go_sem] <;> rfl) (c40) (fun _ _ h => h.elim) (.inl rfl) fun r H6 hX6 hr => ?_
    subst hr
    refine AQ_all TT_ok rfl (by simp only [go_sem] <;> rfl) ?_
    exact AC_ret ⟨.inl rfl, _, rfl, by simp only [go_sem]⟩
  have dl : decide ((F.length : Int) < (a : Int)) = false := decide_eq_false (by omega)
  refine AC_seqQ TT_ok (by simp only [go_sem, g12, g8, hF.alen, dl] <;> rfl) ?_
  refine AC_f (by simp only [go_sem] <;> rfl) (rfl) ?_
  refine AC_skip ?_
  have hai : a - 1 < F.length := by omega
  have k3 := k3 hai (by omega)
  have kl := kF _ (List.getElem_mem hai)
  have wm := wrapNN (x := ((a : Nat) : Int) - 1) (m := a - 1) (by omega) (by omega)
  have i1 := hF.index (k := .i64) (j := ((a - 1 : Nat) : Int)) (by omega) (by omega)
  rw [Int.toNat_natCast] at i1
  have i2 := hF.f0 hai
  have i3 := hF.key hai
  have i4 := as_add 9 F[a - 1].key [0] (by simp; omega)
  obtain ⟨vz, _, sz, _, hSz, _⟩ := Sl.part Pr.len hA TT_22 rfl TT_52 rfl (by decide) (lo := a) (hi := A.length) (by omega) (Nat.le_refl _)
  have sz1 := sz rfl .i64
  generalize F[a - 1].key = fk at k3 i3 i4 kl
  refine AC_seq ?_
  refine AC_regL ?_
  refine AQ_take TT_ok 9 rfl (by simp only [go_sem, g7, g12, g8, g9, wm, i1, i2, i3, i4] <;> rfl) ?_
  refine AQ_c rfl (by simp only [go_sem] <;> rfl) fok43 (by simp only [List.map_cons, List.map_nil, List.append_nil, go_sem] <;> rfl) (c43 (key := fk ++ [0]) (n := ((b : Nat) : Int)) hT4 (by omega) hbn) (fun _ _ h => h.elim) (.inl rfl) fun r H6 hX6 ⟨vr, hr, hR, _⟩ => ?_
  subst hr
  refine AQ_all TT_ok rfl (by simp only [go_sem, di] <;> rfl) ?_
  rw [hpb, k3] at hR
  have hR : PrS H6 vr _ := hR.sl
  have hSz : PrS H6 vz _ := PrS.keep hSz hX6
  have dR : decide (List.drop a (A.take A.length) = List.drop a (A.take A.length)) = true := decide_eq_true rfl
  refine AC_seq ?_
  refine AC_regL ?_
  refine AQ_take TT_ok 6 rfl (by simp only [go_sem, g10, g8, sz1] <;> rfl) ?_
  refine AQ_c rfl (by simp only [go_sem] <;> rfl) fok35 (by simp only [List.map_cons, List.map_nil, List.append_nil, go_sem] <;> rfl) (c35 hR hSz (by simp; omega)) (fun _ _ h => h.elim) (.inl rfl) fun r H7 hX7 ⟨hr, hH⟩ => ?_
  subst hr hH
  refine AQ_take TT_ok 2 rfl (by simp only [go_sem, dR] <;> rfl) ?_
  refine AQ_c rfl (by simp only [go_sem] <;> rfl) fok40 (by simp only [List.map_cons, List.map_nil, List.append_nil, go_sem] <;> rfl) (c40) (fun _ _ h => h.elim) (.inl rfl) fun r H7 hX7 hr => ?_
  subst hr
  refine AQ_all TT_ok rfl (by simp only [go_sem] <;> rfl) ?_
  exact AC_ret ⟨.inl rfl, _, rfl, by simp only [go_sem]⟩
end Go.Proofs.Ythalogdopkoidaa.Ab
set_option linter.unusedVariables false
set_option linter.unusedSimpArgs false
namespace Go.Proofs.Ythalogdopkoidaa.Ab
open Go Go.RowKit Go.Proofs.Ythalogdopkoidaa.Dr

theorem first_at {l : List Pr} {q : List UInt8 → Bool} {i : Nat} (hi : i < l.length) (hlt : ∀ j (hj : j < i), q (l[j]'(by omega)).key = false) (hq : q l[i].key = true) : (l.find? fun x => q x.key) = some l[i] := by
  rw [List.find?_eq_some_iff_getElem]
  exact ⟨hq, i, hi, rfl, fun j hj => by simp [hlt j hj]⟩
/-- The key ahead of number i. -/
def ahead1 (l : List Pr) (i : Nat) : List UInt8 := ((l.take i).getLast?.map Pr.key).getD []
theorem ahead1_zero (l : List Pr) : ahead1 l 0 = [] := rfl
theorem ahead1_succ {l : List Pr} {i : Nat} (hi : i < l.length) : ahead1 l (i + 1) = l[i].key := by
  unfold ahead1
  rw [List.take_succ_eq_append_getElem hi, List.getLast?_concat]
  rfl
theorem ahead1_lt {l : List Pr} (hm : May l) {i j : Nat} (hj : j < l.length) : decide (ahead1 l i < l[j].key) = decide (i ≤ j) ∨ l.length < i := by
  cases i with
  | zero =>
    left
    rw [ahead1_zero]
    have h := (hm.1 l[j] (List.getElem_mem hj)).1
    rw [decide_eq_true (Nat.zero_le j)]
    refine decide_eq_true ?_
    cases e : l[j].key with
    | nil => rw [e] at h; simp at h
    | cons c k => exact List.nil_lt_cons c k
  | succ i =>
    by_cases hi : i < l.length
    · left
      rw [ahead1_succ hi]
      by_cases h : i + 1 ≤ j
      · rw [decide_eq_true h]; exact decide_eq_true (hm.at h hj)
      · rw [decide_eq_false h]
        refine decide_eq_false fun hl => ?_
        rcases Nat.lt_or_ge j i with h2 | h2
        · exact absurd (lt_tr hl (hm.at h2 hi)) (List.lt_irrefl _)
        · have e : j = i := by omega
          subst e
          exact absurd hl (List.lt_irrefl _)
    · right; omega
theorem goes_after {l : List Pr} (hm : May l) {i : Nat} (hi : i < l.length) : (l.find? fun x => decide (ahead1 l i < x.key)) = some l[i] :=
  first_at (q := fun k => decide (ahead1 l i < k)) hi (fun j hj => by
    rcases ahead1_lt hm (i := i) (j := j) (by omega) with h | h
    · rw [h]; exact decide_eq_false (by omega)
    · omega) (by
    rcases ahead1_lt hm (i := i) (j := i) hi with h | h
    · rw [h]; exact decide_eq_true (Nat.le_refl _)
    · omega)
theorem goes_end {l : List Pr} (hm : May l) : (l.find? fun x => decide (ahead1 l l.length < x.key)) = none := by
  rw [List.find?_eq_none]
  intro x hx
  obtain ⟨j, hj, rfl⟩ := List.mem_iff_getElem.1 hx
  rcases ahead1_lt hm (i := l.length) (j := j) hj with h | h
  · rw [h]; simp; omega
  · omega
theorem goes_from {l : List Pr} (hm : May l) {i : Nat} (hi : i < l.length) : (l.find? fun x => decide (l[i].key ≤ x.key)) = some l[i] :=
  first_at (q := fun k => decide (l[i].key ≤ k)) hi (fun j hj => decide_eq_false fun h => by
    have h2 := hm.at hj hi
    rw [← List.not_lt] at h
    exact h h2) (decide_eq_true (List.le_refl _))
theorem nil_le' (k : List UInt8) : ([] : List UInt8) ≤ k := by
  rw [← List.not_lt]; exact List.not_lt_nil k
theorem some1_all (l : List Pr) (n : Int) : some1 l (fun k => decide ([] ≤ k)) n = l.take n.toNat := by
  unfold some1
  congr 1
  rw [List.filter_eq_self]
  intro x _
  exact decide_eq_true (nil_le' x.key)

set_option maxRecDepth 100000 in
set_option maxHeartbeats 8000000 in
theorem c9 {H : AHeap} {vl : Value} {l : List Pr} {c : UInt8} (hl : PrS H vl l) : ACalls Try.prog 9 [vl, U c] H (fun _ => False) fun v H' => v = .bool true := by
  refine ACalls_by 140 TT_ok Try.func9 rfl rfl rfl (by simp) ?_
  refine AC_seqQ TT_ok (by simp only [go_sem] <;> rfl) ?_
  refine AC_cut (fun e' H' => H' = H ∧ szP l ≤ 3000 ∧ May l ∧ get e' 0 = vl ∧ get e' 1 = U c) ?_ (fun e1 H1 _ ⟨hH, hsP, hm, g0, g1⟩ => ?_)
  · refine AC_cut (fun e' H' => H' = H ∧ ∃ b, get e' 27 = .bool b ∧ (b = false → szP l ≤ 3000 ∧ May l) ∧ get e' 0 = vl ∧ get e' 1 = U c) ?_ (fun e1 H1 _ ⟨hH, b, hcnd, hb, g0, g1⟩ => ?_)
    · refine AC_regL ?_
      refine AQ_take TT_ok 1 rfl (by simp only [go_sem] <;> rfl) ?_
      refine AQ_c rfl (by simp only [go_sem] <;> rfl) fok26 (by simp only [List.map_cons, List.map_nil, List.append_nil, go_sem] <;> rfl) (c26 hl) (fun _ _ h => h.elim) (.inl rfl) fun r H1 hX1 ⟨hH, b, hr, hb⟩ => ?_
      subst hr hH
      cases b
      · have hs := hb rfl
        have := szP_len l
        refine AQ_take TT_ok 2 rfl (by simp only [go_sem] <;> rfl) ?_
        refine AQ_c rfl (by simp only [go_sem] <;> rfl) fok39 (by simp only [List.map_cons, List.map_nil, List.append_nil, go_sem] <;> rfl) (c39 hl (by omega)) (fun _ _ h => h.elim) (.inl rfl) fun r H1 hX1 ⟨hr, hH⟩ => ?_
        subst hr hH
        refine AQ_all TT_ok rfl (by simp only [go_sem] <;> rfl) ?_
        refine ⟨rfl, !decide (May l), by simp only [go_sem], fun h => ⟨hs, by simpa using h⟩, by simp only [go_sem], by simp only [go_sem]⟩
      · refine AQ_take TT_ok 2 rfl (by simp only [go_sem] <;> rfl) ?_
        refine AQ_pass rfl ?_
        refine AQ_all TT_ok rfl (by simp only [go_sem] <;> rfl) ?_
        exact ⟨rfl, true, by simp only [go_sem], fun h => (by cases h), by simp only [go_sem], by simp only [go_sem]⟩
    subst hH
    cases b
    · exact AC_f hcnd rfl (AC_skip ⟨rfl, (hb rfl).1, (hb rfl).2, g0, g1⟩)
    · refine AC_t hcnd rfl ?_
      refine AC_seq ?_
      refine AC_regL ?_
      refine AQ_c rfl (by simp only [go_sem] <;> rfl) fok40 (by simp only [List.map_cons, List.map_nil, List.append_nil, go_sem] <;> rfl) (c40) (fun _ _ h => h.elim) (.inl rfl) fun r H1 hX1 hr => ?_
      subst hr
      refine AQ_all TT_ok rfl (by simp only [go_sem] <;> rfl) ?_
      exact AC_ret ⟨.inl rfl, _, rfl, by simp only [go_sem]⟩
  subst hH
  have hll := szP_len l
  have bl : (build l).length ≤ 17 * 3000 := by have := build_len l; omega
  have hbp := build_path hm
  have hbn : ∀ n ∈ build l, n.path.length < 2^30 := fun n hn => by have := hbp n hn; omega
  have his := isw_build hm
  have di : decide (Isw (build l)) = true := decide_eq_true his
  have hpb := prs_build hm
  refine AC_seq ?_
  refine AC_regL ?_
  refine AQ_take TT_ok 1 rfl (by simp only [go_sem, g0] <;> rfl) ?_
  refine AQ_c rfl (by simp only [go_sem] <;> rfl) fok30 (by simp only [List.map_cons, List.map_nil, List.append_nil, go_sem] <;> rfl) (c30 hl (by omega)) (fun _ _ h => h.elim) (.inl rfl) fun r H2 hX2 ⟨vt, vp, hr, hT2, _, _, _⟩ => ?_
  subst hr
  rw [if_pos hm] at hT2
  have hT2 : NdS H2 vt (build l) := hT2.sl
  have hl2 := hl.keep hX2
  refine AQ_all TT_ok rfl (by simp only [go_sem, (pick32 hT2), List.map_cons, List.map_nil] <;> rfl) ?_
  refine AC_fixe (fun e' => get e' 0 = vl ∧ get e' 1 = U c ∧ get e' 5 = vt) ⟨by simp only [go_sem, g0], by simp only [go_sem, g1], by simp only [go_sem]⟩ (fun e2 ⟨g0, g1, g5⟩ => ?_)
  refine AC_seqQ TT_ok (by simp only [go_sem] <;> rfl) ?_
  have k1 : ∀ p : Pr, apart TT 9 p.cells 0 = some (S p.key) := fun p => rfl
  have self (x : Pr) : decide (x = x) = true := decide_eq_true rfl
  refine AC_cut (fun e' H' => AExt (fun _ => False) H2 H' ∧ get e' 6 = S (ahead1 l l.length) ∧ get e' 0 = vl ∧ get e' 1 = U c ∧ get e' 5 = vt) ?_ (fun e3 H3 _ ⟨hX3, g6, g0, g1, g5⟩ => ?_)
  · refine AC_seqQ TT_ok (by simp only [go_sem] <;> rfl) ?_
    refine AC_block (AC_loop (fun m e' H' => ∃ i : Nat, m = l.length - i ∧ i ≤ l.length ∧ AExt (fun _ => False) H2 H' ∧ get e' 6 = S (ahead1 l i) ∧ get e' 0 = vl ∧ get e' 1 = U c ∧ get e' 5 = vt ∧ get e' 7 = .int .i64 (i : Nat)) l.length ⟨0, by simp, by simp, AExt.refl _ _, by simp only [go_sem] <;> rfl, by simp only [go_sem, g0], by simp only [go_sem, g1], by simp only [go_sem, g5], by simp only [go_sem] <;> simp⟩ ?_)
    rintro m e3 H3 _ ⟨i, hmi, hi, hX3, g6, g0, g1, g5, g7⟩
    have k5 := wrapN i (by omega)
    have hl3 := hl2.keep hX3
    have hT3 := hT2.keep hX3
    refine AC_seq ?_
    refine AC_seqQ TT_ok (by simp only [go_sem, g0, g7, hl3.alen] <;> rfl) ?_
    by_cases hi' : i < l.length
    · refine AC_t (by simp only [go_sem] <;> rfl) (lt_dec hi') ?_
      refine AC_skip ?_
      refine AC_seq (AC_block ?_)
      have f1 := goes_after hm hi'
      have f2 := goes_from hm hi'
      refine AC_seq ?_
      refine AC_regL ?_
      refine AQ_take TT_ok 2 rfl (by simp only [go_sem, g5, g6] <;> rfl) ?_
      refine AQ_c rfl (by simp only [go_sem] <;> rfl) fok42 (by simp only [List.map_cons, List.map_nil, List.append_nil, go_sem] <;> rfl) (c42 (key := ahead1 l i) hT3 (by omega) hbn) (fun _ _ h => h.elim) (.inl rfl) fun r H4 hX4 hr => ?_
      rw [hpb, f1] at hr
      subst hr
      refine AQ_take TT_ok 3 rfl (by simp only [go_sem, ans] <;> rfl) ?_
      refine AQ_var TT_ok TT_52 rfl (by decide) (by simp only [go_sem] <;> rfl) (Lay.pr l[i]) rfl (.inl (by have := hX2.size; have := hX3.size; have := hX4.size; omega)) (.inl rfl) fun H5 hX5 hO5 hL5 => ?_
      refine AQ_all TT_ok rfl (by simp only [go_sem, Option.isSome_some] <;> rfl) ?_
      have x5 := hX4.trans hX5
      have s5 := hX3.trans x5
      have hl5 := hl3.keep x5
      have hT5 := hT3.keep x5
      have b1 := hl5.index (k := .i64) (j := (i : Int)) (by omega) (by omega)
      rw [Int.toNat_natCast] at b1
      have b2 := hl5.f0 hi'
      have b3 := hl5.key hi'

      refine AC_fixe (fun e' => get e' 0 = vl ∧ get e' 1 = U c ∧ get e' 5 = vt ∧ get e' 7 = .int .i64 (i : Nat) ∧ get e' 8 = .pointer (some ⟨H4.length, 0, none⟩) ∧ get e' 9 = .bool true) ⟨by simp only [go_sem, g0], by simp only [go_sem, g1], by simp only [go_sem, g5], by simp only [go_sem, g7], by simp only [go_sem], by simp only [go_sem]⟩ (fun e5 ⟨g0, g1, g5, g7, g8, g9⟩ => ?_)
      refine AC_seq ?_
      refine AC_regL ?_
      refine AQ_take TT_ok 6 rfl (by simp only [go_sem, g5, g0, g7, b1, b2, b3] <;> rfl) ?_
      refine AQ_c rfl (by simp only [go_sem] <;> rfl) fok41 (by simp only [List.map_cons, List.map_nil, List.append_nil, go_sem] <;> rfl) (c41 (key := l[i].key) hT5 (by omega) hbn) (fun _ _ h => h.elim) (.inl rfl) fun r H6 hX6 hr => ?_
      rw [hpb, f2] at hr
      subst hr
      refine AQ_take TT_ok 3 rfl (by simp only [go_sem, ans] <;> rfl) ?_
      refine AQ_var TT_ok TT_52 rfl (by decide) (by simp only [go_sem] <;> rfl) (Lay.pr l[i]) rfl (.inl (by have := hX2.size; have := s5.size; have := hX6.size; omega)) (.inl rfl) fun H7 hX7 hO7 hL7 => ?_
      refine AQ_all TT_ok rfl (by simp only [go_sem, Option.isSome_some] <;> rfl) ?_
      have x7 := hX6.trans hX7
      have s7 := s5.trans x7
      have hl7 := hl5.keep x7
      have hO5 := hO5.keep x7
      have a1 := hl7.index (k := .i64) (j := (i : Int)) (by omega) (by omega)
      rw [Int.toNat_natCast] at a1
      have a2 := hl7.load hi'

      refine AC_fixe (fun e' => get e' 0 = vl ∧ get e' 1 = U c ∧ get e' 5 = vt ∧ get e' 7 = .int .i64 (i : Nat) ∧ get e' 8 = .pointer (some ⟨H4.length, 0, none⟩) ∧ get e' 9 = .bool true ∧ get e' 10 = .pointer (some ⟨H6.length, 0, none⟩) ∧ get e' 11 = .bool true) ⟨by simp only [go_sem, g0], by simp only [go_sem, g1], by simp only [go_sem, g5], by simp only [go_sem, g7], by simp only [go_sem, g8], by simp only [go_sem, g9], by simp only [go_sem], by simp only [go_sem]⟩ (fun e7 ⟨g0, g1, g5, g7, g8, g9, g10, g11⟩ => ?_)
      refine AC_seq ?_
      refine AC_seq ?_
      refine AC_regD [] mixed (by kernel_rfl) ?_
      refine AQ_take TT_ok 10 rfl (by simp only [go_sem, g0, g7, g8, g9, g10, g11, hO5.load, hO7.load, ap52_self, a1, a2, self, Bool.not_true, Bool.not_false, if_true, decide_true] <;> rfl) ?_
      simp only [List.drop_succ_cons, List.drop_zero]
      refine AQ_take TT_ok 6 rfl (by simp only [go_sem, g0, g7, g8, g9, g10, g11, hO5.load, hO7.load, ap52_self, a1, a2, self, Bool.not_true, Bool.not_false, if_true, decide_true] <;> rfl) ?_
      simp only [List.drop_succ_cons, List.drop_zero]
      refine AQ_all TT_ok rfl (by simp only [go_sem, g0, g7, g8, g9, g10, g11, hO5.load, hO7.load, ap52_self, a1, a2, self, Bool.not_true, Bool.not_false, if_true, decide_true] <;> rfl) ?_
      refine AC_f (by simp only [go_sem] <;> rfl) (rfl) ?_
      refine AC_skip ?_
      refine AC_quiet TT_ok (by simp only [go_sem, g8, f52_0, hO5.load, k1] <;> rfl) ?_
      refine AC_quiet TT_ok (by simp only [go_sem, g7, k5] <;> rfl) ?_
      refine ⟨l.length - (i + 1), by omega, i + 1, rfl, by omega, s7, ?_, by simp only [go_sem, g0], by simp only [go_sem, g1], by simp only [go_sem, g5], by simp only [go_sem]⟩
      rw [ahead1_succ hi']
      simp only [go_sem]
    · refine AC_f (by simp only [go_sem] <;> rfl) (ge_dec (by omega)) ?_
      have e : i = l.length := by omega
      subst e
      exact AC_exit ⟨hX3, by simp only [go_sem, g6], by simp only [go_sem, g0], by simp only [go_sem, g1], by simp only [go_sem, g5]⟩

  have hl3 := hl2.keep hX3
  have hT3 := hT2.keep hX3
  have f3 := goes_end hm
  refine AC_seq ?_
  refine AC_regL ?_
  refine AQ_take TT_ok 2 rfl (by simp only [go_sem, g5, g6] <;> rfl) ?_
  refine AQ_c rfl (by simp only [go_sem] <;> rfl) fok42 (by simp only [List.map_cons, List.map_nil, List.append_nil, go_sem] <;> rfl) (c42 (key := ahead1 l l.length) hT3 (by omega) hbn) (fun _ _ h => h.elim) (.inl rfl) fun r H4 hX4 hr => ?_
  rw [hpb, f3] at hr
  subst hr
  refine AQ_take TT_ok 3 rfl (by simp only [go_sem, ans] <;> rfl) ?_
  refine AQ_var TT_ok TT_52 rfl (by decide) (by simp only [go_sem] <;> rfl) (Lay.pr ⟨[], []⟩) rfl (.inl (by have := hX2.size; have := hX3.size; have := hX4.size; omega)) (.inl rfl) fun H5 hX5 hO5 hL5 => ?_
  refine AQ_all TT_ok rfl (by simp only [go_sem, Option.isSome_none] <;> rfl) ?_
  have x5 := hX4.trans hX5
  have hl5 := hl3.keep x5
  have hT5 := hT3.keep x5
  have wl := wrapN l.length (by omega)
  refine AC_fixe (fun e' => get e' 0 = vl ∧ get e' 1 = U c ∧ get e' 5 = vt ∧ get e' 13 = .bool false) ⟨by simp only [go_sem, g0], by simp only [go_sem, g1], by simp only [go_sem, g5], by simp only [go_sem]⟩ (fun e5 ⟨g0, g1, g5, g13⟩ => ?_)
  have e1 := some1_all l ((l.length + 1 : Nat) : Int)
  rw [Int.toNat_natCast, List.take_of_length_le (by omega)] at e1
  refine AC_seq ?_
  refine AC_regL ?_
  refine AQ_take TT_ok 4 rfl (by simp only [go_sem, g5, g0, hl5.alen, wl] <;> rfl) ?_
  refine AQ_c rfl (by simp only [go_sem] <;> rfl) fok43 (by simp only [List.map_cons, List.map_nil, List.append_nil, go_sem] <;> rfl) (c43 (key := []) (n := ((l.length + 1 : Nat) : Int)) hT5 (by omega) hbn) (fun _ _ h => h.elim) (.inl rfl) fun r H6 hX6 ⟨va, hr, hA, _⟩ => ?_
  subst hr
  rw [hpb, e1] at hA
  refine AQ_all TT_ok rfl (by simp only [go_sem, di] <;> rfl) ?_
  have hA : PrS H6 va l := hA.sl
  have hl6 := hl5.keep hX6
  have hT6 := hT5.keep hX6
  refine AC_fixe (fun e' => get e' 0 = vl ∧ get e' 1 = U c ∧ get e' 5 = vt ∧ get e' 13 = .bool false ∧ get e' 14 = va ∧ get e' 15 = .bool true) ⟨by simp only [go_sem, g0], by simp only [go_sem, g1], by simp only [go_sem, g5], by simp only [go_sem, g13], by simp only [go_sem], by simp only [go_sem]⟩ (fun e6 ⟨g0, g1, g5, g13, g14, g15⟩ => ?_)
  have hc := c.toNat_lt
  have kr := rem_nat c.toNat (l.length + 1) (by omega) (by omega)
  have hk : c.toNat % (l.length + 1) < l.length + 1 := Nat.mod_lt _ (by omega)
  refine AC_seqQ TT_ok (by simp only [go_sem, g0, g1, u8_int, hl6.alen, wl, kr] <;> rfl) ?_
  generalize c.toNat % (l.length + 1) = k at *
  refine AC_fixe (fun e' => get e' 0 = vl ∧ get e' 1 = U c ∧ get e' 5 = vt ∧ get e' 13 = .bool false ∧ get e' 14 = va ∧ get e' 15 = .bool true ∧ get e' 16 = .int .i64 (k : Nat)) ⟨by simp only [go_sem, g0], by simp only [go_sem, g1], by simp only [go_sem, g5], by simp only [go_sem, g13], by simp only [go_sem, g14], by simp only [go_sem, g15], by simp only [go_sem]⟩ (fun e7 ⟨g0, g1, g5, g13, g14, g15, g16⟩ => ?_)
  have e2 := some1_all l ((k : Nat) : Int)
  rw [Int.toNat_natCast] at e2
  refine AC_seq ?_
  refine AC_regL ?_
  refine AQ_take TT_ok 2 rfl (by simp only [go_sem, g5, g16] <;> rfl) ?_
  refine AQ_c rfl (by simp only [go_sem] <;> rfl) fok43 (by simp only [List.map_cons, List.map_nil, List.append_nil, go_sem] <;> rfl) (c43 (key := []) (n := ((k : Nat) : Int)) hT6 (by omega) hbn) (fun _ _ h => h.elim) (.inl rfl) fun r H7 hX7 ⟨vs, hr, hS, _⟩ => ?_
  subst hr
  rw [hpb, e2] at hS
  refine AQ_all TT_ok rfl (by simp only [go_sem, di] <;> rfl) ?_
  have hS : PrS H7 vs (l.take k) := hS.sl
  have hT7 := hT6.keep hX7
  have e3 := some1_all l (-1)
  rw [show (-1 : Int).toNat = 0 from rfl, List.take_zero] at e3
  refine AC_fixe (fun e' => get e' 0 = vl ∧ get e' 1 = U c ∧ get e' 5 = vt ∧ get e' 13 = .bool false ∧ get e' 14 = va ∧ get e' 15 = .bool true ∧ get e' 16 = .int .i64 (k : Nat) ∧ get e' 17 = vs ∧ get e' 18 = .bool true) ⟨by simp only [go_sem, g0], by simp only [go_sem, g1], by simp only [go_sem, g5], by simp only [go_sem, g13], by simp only [go_sem, g14], by simp only [go_sem, g15], by simp only [go_sem, g16], by simp only [go_sem], by simp only [go_sem]⟩ (fun e8 ⟨g0, g1, g5, g13, g14, g15, g16, g17, g18⟩ => ?_)
  refine AC_seq ?_
  refine AC_regL ?_
  refine AQ_take TT_ok 1 rfl (by simp only [go_sem, g5] <;> rfl) ?_
  refine AQ_c rfl (by simp only [go_sem] <;> rfl) fok43 (by simp only [List.map_cons, List.map_nil, List.append_nil, go_sem] <;> rfl) (c43 (key := []) (n := -1) hT7 (by omega) hbn) (fun _ _ h => h.elim) (.inl rfl) fun r H8 hX8 ⟨vn, hr, hN, _⟩ => ?_
  subst hr
  rw [hpb, e3] at hN
  refine AQ_all TT_ok rfl (by simp only [go_sem, di] <;> rfl) ?_
  have hN : PrS H8 vn [] := hN.sl
  have x8 := hX7.trans hX8
  have hA8 := hA.keep x8
  have hl8 := hl6.keep x8
  have hS8 := hS.keep hX8
  have ln : alen TT 22 vn = some (.int .i64 0) := hN.alen
  refine AC_fixe (fun e' => get e' 0 = vl ∧ get e' 1 = U c ∧ get e' 5 = vt ∧ get e' 13 = .bool false ∧ get e' 14 = va ∧ get e' 15 = .bool true ∧ get e' 16 = .int .i64 (k : Nat) ∧ get e' 17 = vs ∧ get e' 18 = .bool true ∧ get e' 19 = vn ∧ get e' 20 = .bool true) ⟨by simp only [go_sem, g0], by simp only [go_sem, g1], by simp only [go_sem, g5], by simp only [go_sem, g13], by simp only [go_sem, g14], by simp only [go_sem, g15], by simp only [go_sem, g16], by simp only [go_sem, g17], by simp only [go_sem, g18], by simp only [go_sem], by simp only [go_sem]⟩ (fun e9 ⟨g0, g1, g5, g13, g14, g15, g16, g17, g18, g19, g20⟩ => ?_)
  obtain ⟨vc, _, _, sc, hSc, _⟩ := Sl.part Pr.len hl8 TT_22 rfl TT_52 rfl (by decide) (lo := 0) (hi := k) (by omega) (by omega)
  have sc1 := sc rfl .i64
  rw [List.drop_zero] at hSc
  have d1 : decide (l = l) = true := decide_eq_true rfl
  have d2 : decide (l.take k = l.take k) = true := decide_eq_true rfl
  refine AC_seq ?_
  refine AC_regL ?_
  refine AQ_take TT_ok 8 rfl (by simp only [go_sem, g13, g15, g14, g0, Bool.not_false, if_true] <;> rfl) ?_
  refine AQ_c rfl (by simp only [go_sem] <;> rfl) fok35 (by simp only [List.map_cons, List.map_nil, List.append_nil, go_sem] <;> rfl) (c35 hA8 hl8 (by omega)) (fun _ _ h => h.elim) (.inl rfl) fun r H9 hX9 ⟨hr, hH⟩ => ?_
  subst hr hH
  refine AQ_take TT_ok 9 rfl (by simp only [go_sem, d1, g18, g17, g0, g16, sc1] <;> rfl) ?_
  refine AQ_c rfl (by simp only [go_sem] <;> rfl) fok35 (by simp only [List.map_cons, List.map_nil, List.append_nil, go_sem] <;> rfl) (c35 hS8 hSc (by simp; omega)) (fun _ _ h => h.elim) (.inl rfl) fun r H9 hX9 ⟨hr, hH⟩ => ?_
  subst hr hH
  refine AQ_take TT_ok 10 rfl (by simp only [go_sem, d2, g20, g19, ln, decide_true] <;> rfl) ?_
  refine AQ_c rfl (by simp only [go_sem] <;> rfl) fok40 (by simp only [List.map_cons, List.map_nil, List.append_nil, go_sem] <;> rfl) (c40) (fun _ _ h => h.elim) (.inl rfl) fun r H9 hX9 hr => ?_
  subst hr
  refine AQ_all TT_ok rfl (by simp only [go_sem] <;> rfl) ?_
  exact AC_ret ⟨.inl rfl, _, rfl, by simp only [go_sem]⟩
end Go.Proofs.Ythalogdopkoidaa.Ab
