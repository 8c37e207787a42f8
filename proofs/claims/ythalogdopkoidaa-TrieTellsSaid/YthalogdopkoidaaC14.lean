/- Contracts: walked, Good, Pairs, Paths. No statement of the seat's in it. -/
import Derived.Test.YthalogdopkoidaaC13
import Derived.Test.YthalogdopkoidaaC1
set_option linter.unusedVariables false
set_option linter.unusedSimpArgs false
namespace Go.Proofs.Ythalogdopkoidaa.Ab
open Go Go.RowKit

theorem all81 : ∀ f, P81 f := fun f => by
  induction f using Nat.strongRecOn with
  | _ f ih => exact c81 ih

theorem b106 {v : Value} (h : One v) : abuild TT 106 [(0, v)] = some (.agg #[v, .int .i64 0, .slice none 0 0, .slice none 0 0]) := by
  have hs : v.cells.size = 1 := by rw [h.cells]; rfl
  simp only [abuild, TT_106]
  rw [if_pos (by decide)]
  simp only [afill, placeOf]
  simp only [List.getElem?_cons_zero, TT_24, Option.map_some]
  rw [if_pos ⟨h.known, hs, by decide⟩, h.cells]
  rfl

/-- Is it the trie of what was met? -/
def Isw (t : List Nd) : Prop := (walkAll t).1 = true ∧ May (walkAll t).2.l ∧ t = build (walkAll t).2.l
instance (t : List Nd) : Decidable (Isw t) := inferInstanceAs (Decidable (_ ∧ _))

theorem walkAll_ok (t : List Nd) : Wok t (walkAll t).2 := by
  unfold walkAll
  split
  · exact ⟨Nat.le_refl _, Nat.le_refl _, Nat.zero_le _⟩
  · exact walk_ok t _ _ _ _ ⟨Nat.le_refl _, Nat.le_refl _, Nat.zero_le _⟩

set_option maxHeartbeats 1000000 in
theorem c65 {H : AHeap} {vt : Value} {t : List Nd} (hS : NdS H vt t) (ht : t.length < 2^19) (hn : ∀ n ∈ t, n.path.length < 2^30) : ACalls Try.prog 65 [vt] H (fun _ => False) fun v H' =>
    ∃ wi vl vp, v = .tuple #[.pointer (some ⟨wi, 0, none⟩), .bool (decide (Isw t))] ∧ WS H' wi vt vl vp t (walkAll t).2 ∧ (∀ j, vid vl = some j → H.length ≤ j) ∧ (∀ j, vid vp = some j → H.length ≤ j) := by
  refine ACalls_by 34 TT_ok Try.func65 rfl rfl rfl (by simp) ?_
  refine AC_seqQ TT_ok (by simp only [go_sem] <;> rfl) ?_
  refine AC_seq ?_
  refine AC_regL ?_
  refine AQ_take TT_ok 2 rfl (by simp only [go_sem, List.map_cons, List.map_nil, b106 hS.one] <;> rfl) ?_
  have hlay : Lay (.agg #[vt, .int .i64 0, .slice none 0 0, .slice none 0 0]) [vt, .int .i64 0, .slice none 0 0, .slice none 0 0] := Lay.agg (l := [vt, .int .i64 0, .slice none 0 0, .slice none 0 0]) (fun v hv => by
    simp only [List.mem_cons, List.not_mem_nil, or_false] at hv
    rcases hv with rfl | rfl | rfl | rfl
    · exact hS.one
    · exact One.int _ _
    · exact One.slice _ _ _
    · exact One.slice _ _ _)
  refine AQ_box TT_ok TT_106 rfl (by simp only [go_sem] <;> rfl) hlay rfl fun H1 hX1 hO1 hL1 => ?_
  refine AQ_all TT_ok rfl (by simp only [go_sem] <;> rfl) ?_
  have hvt : ∀ j, vid vt = some j → j < H.length := fun j hj => hS.vid_lt hj
  have hW1 : WS H1 H.length vt (.slice none 0 0) (.slice none 0 0) t ⟨0, [], []⟩ := ⟨hO1, hS.keep hX1, Buf.nil _ _, Buf.nil _ _, fun h => by have := hvt _ h; omega, fun j hj => (by cases hj), fun j hj => (by cases hj)⟩
  have hp1 : (.pointer (some ⟨H.length, 0, none⟩) : Value) = .pointer (some ⟨H.length, 0, none⟩) := rfl
  refine AC_cut (fun e' H' => ∃ vl vp, WS H' H.length vt vl vp t (walkAll t).2 ∧ (walkAll t).1 = true ∧ (∀ j, vid vl = some j → H.length ≤ j) ∧ (∀ j, vid vp = some j → H.length ≤ j) ∧ AExt (fun _ => False) H H' ∧ get e' 0 = vt ∧ get e' 4 = .pointer (some ⟨H.length, 0, none⟩)) ?_ (fun e3 H3 _ ⟨vl3, vp3, hW3, hw3, hl3, hp3, hX3, g0, g4⟩ => ?_)
  · refine AC_cut (fun e' H' => ∃ vl vp, WS H' H.length vt vl vp t (walkAll t).2 ∧ (∀ j, vid vl = some j → H.length ≤ j) ∧ (∀ j, vid vp = some j → H.length ≤ j) ∧ AExt (fun _ => False) H H' ∧ get e' 0 = vt ∧ get e' 4 = .pointer (some ⟨H.length, 0, none⟩) ∧ get e' 17 = .bool (!(walkAll t).1)) ?_ (fun e2 H2 _ ⟨vl2, vp2, hW2, hl2, hp2, hX2, q0, q4, q17⟩ => ?_)
    · refine AC_regL ?_
      by_cases hz : t = []
      · have d0 : decide ((0 : Int) < (t.length : Int)) = false := decide_eq_false (by rw [hz]; simp)
        refine AQ_take TT_ok 5 rfl (by simp only [go_sem, hW1.t.alen, d0] <;> rfl) ?_
        refine AQ_pass rfl ?_
        refine AQ_all TT_ok rfl (by simp only [go_sem] <;> rfl) ?_
        have hwa : walkAll t = (true, ⟨0, [], []⟩) := by rw [walkAll, if_pos hz]
        rw [hwa]
        exact ⟨_, _, hW1, fun j hj => (by cases hj), fun j hj => (by cases hj), hX1, by simp only [go_sem], by simp only [go_sem], by simp only [go_sem] <;> simp⟩
      · have d0 : decide ((0 : Int) < (t.length : Int)) = true := decide_eq_true (by have := List.length_pos_iff.2 hz; omega)
        have hwa : walkAll t = walk t (t.length + 1) 0 [] ⟨0, [], []⟩ := by rw [walkAll, if_neg hz]
        refine AQ_take TT_ok 5 rfl (by simp only [go_sem, hW1.t.alen, d0] <;> rfl) ?_
        refine AQ_c rfl (by simp only [go_sem] <;> rfl) fok81 (by simp only [List.map_cons, List.map_nil, List.append_nil, go_sem] <;> rfl) (all81 (t.length + 1) H1 H.length vt (.slice none 0 0) (.slice none 0 0) t ⟨0, [], []⟩ 0 [] hW1 ⟨Nat.le_refl _, Nat.le_refl _, Nat.zero_le _⟩ (by simp) (by omega) (by simp) hn) (fun j _ hj => ?_) (.inl rfl) fun r H2 hX2 ⟨hr, vl2, vp2, hW2, hl2, hp2⟩ => ?_
        · rcases hj with rfl | hj | hj
          · exact .inl (Nat.le_refl _)
          · cases hj
          · cases hj
        subst hr
        rw [← hwa] at hW2
        refine AQ_all TT_ok rfl (by simp only [go_sem] <;> rfl) ?_
        refine ⟨vl2, vp2, hW2, fun j hj => ?_, fun j hj => ?_, hX1.weakF hX2 (fun j _ hj => ?_), by simp only [go_sem], by simp only [go_sem], by rw [hwa]; simp only [go_sem]⟩
        · rcases hl2 j hj with h | h
          · omega
          · subst h; cases hj
        · rcases hp2 j hj with h | h
          · omega
          · subst h; cases hj
        · rcases hj with rfl | hj | hj
          · exact Nat.le_refl _
          · cases hj
          · cases hj
    by_cases hw : (walkAll t).1 = true
    · refine AC_f q17 (by rw [hw]; rfl) (AC_skip ⟨vl2, vp2, hW2, hw, hl2, hp2, hX2, q0, q4⟩)
    · refine AC_t q17 (by simpa using hw) ?_
      refine AC_seqQ TT_ok (by simp only [go_sem, q4] <;> rfl) ?_
      refine AC_ret ⟨.inl rfl, _, rfl, H.length, vl2, vp2, ?_, hW2, hl2, hp2⟩
      rw [decide_eq_false (fun h => hw h.1)]
      simp only [go_sem]
  have hok := walkAll_ok t
  have hll : (walkAll t).2.l.length < 2^20 := by have := hok.l; have := hok.n; omega
  refine AC_cut (fun e' H' => ∃ vu, WS H' H.length vt vl3 vp3 t (walkAll t).2 ∧ NdS H' vu (if May (walkAll t).2.l then build (walkAll t).2.l else []) ∧ get e' 0 = vt ∧ get e' 4 = .pointer (some ⟨H.length, 0, none⟩) ∧ get e' 5 = vu ∧ get e' 6 = .bool (decide (May (walkAll t).2.l))) ?_ (fun e4 H4 _ ⟨vu, hW4, hU, q0, q4, q5, q6⟩ => ?_)
  · refine AC_regL ?_
    refine AQ_take TT_ok 4 rfl (by simp only [go_sem, g4, anil_ptr, f106 _ 2 (by decide), hW3.ob.load, ap4_2 _ _ _ _ 22 rfl] <;> rfl) ?_
    refine AQ_c rfl (by simp only [go_sem] <;> rfl) fok29 (by simp only [List.map_cons, List.map_nil, List.append_nil, go_sem] <;> rfl) (c29 hW3.l.sl hll) (fun _ _ h => h.elim) (.inl rfl) fun r H4 hX4 ⟨vu, hr, hU, _⟩ => ?_
    subst hr
    refine AQ_all TT_ok rfl (by simp only [go_sem] <;> rfl) ?_
    exact ⟨vu, hW3.keep hX4, hU.sl, by simp only [go_sem, g0], by simp only [go_sem, g4], by simp only [go_sem], by simp only [go_sem]⟩
  refine AC_cut (fun e' H' => WS H' H.length vt vl3 vp3 t (walkAll t).2 ∧ get e' 2 = .pointer (some ⟨H.length, 0, none⟩) ∧ get e' 3 = .bool (decide (Isw t))) ?_ (fun e5 H5 _ ⟨hW5, k2, k3⟩ => ?_)
  · refine AC_regL ?_
    by_cases hm : May (walkAll t).2.l
    · have dm : decide (May (walkAll t).2.l) = true := decide_eq_true hm
      rw [if_pos hm] at hU
      refine AQ_take TT_ok 5 rfl (by simp only [go_sem, q0, q4, q5, q6, dm] <;> rfl) ?_
      refine AQ_c rfl (by simp only [go_sem] <;> rfl) fok38 (by simp only [List.map_cons, List.map_nil, List.append_nil, go_sem] <;> rfl) (c38 hW4.t hU (by omega)) (fun _ _ h => h.elim) (.inl rfl) fun r H5 hX5 ⟨hr, hH⟩ => ?_
      subst hr hH
      refine AQ_all TT_ok rfl (by simp only [go_sem] <;> rfl) ?_
      refine ⟨hW4, by simp only [go_sem], ?_⟩
      simp only [go_sem]
      congr 1
      rw [Bool.eq_iff_iff, decide_eq_true_eq, decide_eq_true_eq]
      exact ⟨fun h => ⟨hw3, hm, h⟩, fun h => h.2.2⟩
    · have dm : decide (May (walkAll t).2.l) = false := decide_eq_false hm
      refine AQ_take TT_ok 5 rfl (by simp only [go_sem, q0, q4, q5, q6, dm] <;> rfl) ?_
      refine AQ_pass rfl ?_
      refine AQ_all TT_ok rfl (by simp only [go_sem] <;> rfl) ?_
      refine ⟨hW4, by simp only [go_sem], ?_⟩
      rw [decide_eq_false (fun h => hm h.2.1)]
      simp only [go_sem]
  refine AC_ret ⟨.inl rfl, _, rfl, H.length, vl3, vp3, ?_, hW5, hl3, hp3⟩
  simp only [go_sem, k2, k3]
end Go.Proofs.Ythalogdopkoidaa.Ab
