/- Contracts: Pairs, Paths, Good of the program's tries. No statement of the seat's in it. -/
import Derived.Test.YthalogdopkoidaaC14
set_option linter.unusedVariables false
set_option linter.unusedSimpArgs false
namespace Go.Proofs.Ythalogdopkoidaa.Ab
open Go Go.RowKit


theorem c31 {H : AHeap} {vt : Value} {t : List Nd} (hS : NdS H vt t) (ht : t.length < 2^19) (hn : ∀ n ∈ t, n.path.length < 2^30) : ACalls Try.prog 31 [vt] H (fun _ => False) fun v H' =>
    ∃ u, v = .tuple #[u, .bool (decide (Isw t))] ∧ PrB H' u (if Isw t then (walkAll t).2.l else []) ∧ ∀ j, vid u = some j → H.length ≤ j := by
  refine ACalls_by 17 TT_ok Try.func31 rfl rfl rfl (by simp) ?_
  refine AC_seqQ TT_ok (by simp only [go_sem] <;> rfl) ?_
  refine AC_seq ?_
  refine AC_regL ?_
  refine AQ_take TT_ok 1 rfl (by simp only [go_sem] <;> rfl) ?_
  refine AQ_c rfl (by simp only [go_sem] <;> rfl) fok65 (by simp only [List.map_cons, List.map_nil, List.append_nil, go_sem] <;> rfl) (c65 hS ht hn) (fun _ _ h => h.elim) (.inl rfl) fun r H1 hX1 ⟨wi, vl, vp, hr, hW, hl, hp⟩ => ?_
  subst hr
  refine AQ_all TT_ok rfl (by simp only [go_sem] <;> rfl) ?_
  refine AC_seq ?_
  refine AC_seqQ TT_ok (by simp only [go_sem] <;> rfl) ?_
  by_cases hi : Isw t
  · have hd : decide (Isw t) = true := decide_eq_true hi
    refine AC_f (by simp only [go_sem] <;> rfl) (by rw [hd]; rfl) ?_
    refine AC_skip ?_
    refine AC_seqQ TT_ok (by simp only [go_sem, anil_ptr, f106 _ 2 (by decide), hW.ob.load, ap4_2 _ _ _ _ 22 rfl] <;> rfl) ?_
    refine AC_ret ⟨.inl rfl, _, rfl, vl, ?_, ?_, hl⟩
    · simp only [go_sem]; rw [hd]
    · rw [if_pos hi]; exact hW.l
  · have hd : decide (Isw t) = false := decide_eq_false hi
    refine AC_t (by simp only [go_sem] <;> rfl) (by rw [hd]; rfl) ?_
    refine AC_seqQ TT_ok (by simp only [go_sem] <;> rfl) ?_
    refine AC_ret ⟨.inl rfl, _, rfl, .slice none 0 0, ?_, ?_, fun j hj => by cases hj⟩
    · simp only [go_sem]; rw [hd]
    · rw [if_neg hi]; exact Buf.nil _ _

theorem c33 {H : AHeap} {vt : Value} {t : List Nd} (hS : NdS H vt t) (ht : t.length < 2^19) (hn : ∀ n ∈ t, n.path.length < 2^30) : ACalls Try.prog 33 [vt] H (fun _ => False) fun v H' =>
    ∃ u, v = .tuple #[u, .bool (decide (Isw t))] ∧ StB H' u (if Isw t then (walkAll t).2.paths else []) ∧ ∀ j, vid u = some j → H.length ≤ j := by
  refine ACalls_by 17 TT_ok Try.func33 rfl rfl rfl (by simp) ?_
  refine AC_seqQ TT_ok (by simp only [go_sem] <;> rfl) ?_
  refine AC_seq ?_
  refine AC_regL ?_
  refine AQ_take TT_ok 1 rfl (by simp only [go_sem] <;> rfl) ?_
  refine AQ_c rfl (by simp only [go_sem] <;> rfl) fok65 (by simp only [List.map_cons, List.map_nil, List.append_nil, go_sem] <;> rfl) (c65 hS ht hn) (fun _ _ h => h.elim) (.inl rfl) fun r H1 hX1 ⟨wi, vl, vp, hr, hW, hl, hp⟩ => ?_
  subst hr
  refine AQ_all TT_ok rfl (by simp only [go_sem] <;> rfl) ?_
  refine AC_seq ?_
  refine AC_seqQ TT_ok (by simp only [go_sem] <;> rfl) ?_
  by_cases hi : Isw t
  · have hd : decide (Isw t) = true := decide_eq_true hi
    refine AC_f (by simp only [go_sem] <;> rfl) (by rw [hd]; rfl) ?_
    refine AC_skip ?_
    refine AC_seqQ TT_ok (by simp only [go_sem, anil_ptr, f106 _ 3 (by decide), hW.ob.load, ap4_3 _ _ _ _ 30 rfl] <;> rfl) ?_
    refine AC_ret ⟨.inl rfl, _, rfl, vp, ?_, ?_, hp⟩
    · simp only [go_sem]; rw [hd]
    · rw [if_pos hi]; exact hW.p
  · have hd : decide (Isw t) = false := decide_eq_false hi
    refine AC_t (by simp only [go_sem] <;> rfl) (by rw [hd]; rfl) ?_
    refine AC_seqQ TT_ok (by simp only [go_sem] <;> rfl) ?_
    refine AC_ret ⟨.inl rfl, _, rfl, .slice none 0 0, ?_, ?_, fun j hj => by cases hj⟩
    · simp only [go_sem]; rw [hd]
    · rw [if_neg hi]; exact Buf.nil _ _

theorem c37 {H : AHeap} {vt : Value} {t : List Nd} (hS : NdS H vt t) (ht : t.length < 2^19) (hn : ∀ n ∈ t, n.path.length < 2^30) : ACalls Try.prog 37 [vt] H (fun _ => False) fun v H' => v = .bool (decide (Isw t)) := by
  refine ACalls_by 11 TT_ok Try.func37 rfl rfl rfl (by simp) ?_
  refine AC_seqQ TT_ok (by simp only [go_sem] <;> rfl) ?_
  refine AC_seq ?_
  refine AC_regL ?_
  refine AQ_take TT_ok 1 rfl (by simp only [go_sem] <;> rfl) ?_
  refine AQ_c rfl (by simp only [go_sem] <;> rfl) fok65 (by simp only [List.map_cons, List.map_nil, List.append_nil, go_sem] <;> rfl) (c65 hS ht hn) (fun _ _ h => h.elim) (.inl rfl) fun r H1 hX1 ⟨wi, vl, vp, hr, hW, hl, hp⟩ => ?_
  subst hr
  refine AQ_all TT_ok rfl (by simp only [go_sem] <;> rfl) ?_
  refine AC_seqQ TT_ok (by simp only [go_sem] <;> rfl) ?_
  exact AC_ret ⟨.inl rfl, _, rfl, by simp only [go_sem]⟩
end Go.Proofs.Ythalogdopkoidaa.Ab
