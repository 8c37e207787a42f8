/- Contract: walker.pair. No statement of the seat's in it. -/
import Derived.Test.YthalogdopkoidaaC11
import Derived.Test.YthalogdopkoidaaB13
set_option linter.unusedVariables false
set_option linter.unusedSimpArgs false
namespace Go.Proofs.Ythalogdopkoidaa.Ab
open Go Go.RowKit

def PrB (H : AHeap) (v : Value) (l : List Pr) : Prop := Buf H v 52 l.length (l.flatMap Pr.cells)
theorem PrB.sl {H : AHeap} {v : Value} {l : List Pr} (h : PrB H v l) : PrS H v l := Buf.sl h
theorem bp52 (k v : List UInt8) : abuild TT 52 [(0, S k), (1, S v)] = some (Pr.mk k v).val := rfl
theorem f106 (i f : Nat) (h : f < 4) : afield TT 106 (.pointer (some ⟨i, 0, none⟩)) f = some (.pointer (some ⟨i, f, none⟩)) := by
  rcases f with _ | _ | _ | _ | f <;> first | rfl | omega
theorem ap4_0 (a b c d : Value) (t : Nat) (ht : (TT t).map (fun i => (i.d.isAgg, i.size)) = some (false, 1)) : apart TT t [a, b, c, d] 0 = some a := by
  obtain ⟨ti, h1, h2⟩ := Option.map_eq_some_iff.1 ht
  simp only [Prod.mk.injEq] at h2
  unfold apart; rw [h1]; dsimp only; rw [h2.1]; rfl
theorem ap4_1 (a b c d : Value) (t : Nat) (ht : (TT t).map (fun i => (i.d.isAgg, i.size)) = some (false, 1)) : apart TT t [a, b, c, d] 1 = some b := by
  obtain ⟨ti, h1, h2⟩ := Option.map_eq_some_iff.1 ht
  simp only [Prod.mk.injEq] at h2
  unfold apart; rw [h1]; dsimp only; rw [h2.1]; rfl
theorem ap4_2 (a b c d : Value) (t : Nat) (ht : (TT t).map (fun i => (i.d.isAgg, i.size)) = some (false, 1)) : apart TT t [a, b, c, d] 2 = some c := by
  obtain ⟨ti, h1, h2⟩ := Option.map_eq_some_iff.1 ht
  simp only [Prod.mk.injEq] at h2
  unfold apart; rw [h1]; dsimp only; rw [h2.1]; rfl
theorem ap4_3 (a b c d : Value) (t : Nat) (ht : (TT t).map (fun i => (i.d.isAgg, i.size)) = some (false, 1)) : apart TT t [a, b, c, d] 3 = some d := by
  obtain ⟨ti, h1, h2⟩ := Option.map_eq_some_iff.1 ht
  simp only [Prod.mk.injEq] at h2
  unfold apart; rw [h1]; dsimp only; rw [h2.1]; rfl

/-- A walker in memory. -/
structure WS (H : AHeap) (wi : Nat) (vt vl vp : Value) (t : List Nd) (w : W) : Prop where
  ob : Ob H wi 106 [vt, .int .i64 (w.next : Nat), vl, vp]
  t : NdS H vt t
  l : PrB H vl w.l
  p : StB H vp w.paths
  tw : vid vt ≠ some wi
  ld : ∀ j, vid vl = some j → j ≠ wi ∧ vid vt ≠ some j
  pd : ∀ j, vid vp = some j → j ≠ wi ∧ vid vt ≠ some j ∧ vid vl ≠ some j

theorem WS.keep {H H' : AHeap} {wi : Nat} {vt vl vp : Value} {t : List Nd} {w : W} (h : WS H wi vt vl vp t w) (hX : AExt (fun _ => False) H H') : WS H' wi vt vl vp t w :=
  ⟨h.ob.keep hX, h.t.keep hX, Buf.keep h.l hX, Buf.keep h.p hX, h.tw, h.ld, h.pd⟩

/-- Behind an append to the pairs and its store. -/
theorem WS.appL {H H1 H2 : AHeap} {wi : Nat} {vt vl vl1 vp : Value} {t : List Nd} {w : W} {l1 : List Pr} (h : WS H wi vt vl vp t w) (hX : AExt (fun j => vid vl = some j) H H1) (hT : PrB H1 vl1 l1) (hv : ∀ j, vid vl1 = some j → H.length ≤ j) (hY : AExt (fun j => j = wi) H1 H2) (hO : Ob H2 wi 106 [vt, .int .i64 (w.next : Nat), vl1, vp]) : WS H2 wi vt vl1 vp t { w with l := l1 } := by
  have hl := h.ob.lt
  refine ⟨hO, (h.t.ext hX fun i _ hi hm => (h.ld i hm).2 hi).ext hY fun i _ hi hm => h.tw (by rw [hi, hm]), Buf.ext hT hY fun i hi hm => ?_, (Buf.ext h.p hX fun i hi hm => (h.pd i hi).2.2 hm) |>.ext hY fun i hi hm => (h.pd i hi).1 hm, h.tw, fun j hj => ⟨?_, fun hh => ?_⟩, fun j hj => ⟨(h.pd j hj).1, (h.pd j hj).2.1, fun hh => ?_⟩⟩
  · have := hv i hi; omega
  · have := hv j hj; omega
  · have := h.t.vid_lt hh; have := hv j hj; omega
  · have := Sl.vid_lt h.p.sl hj; have := hv j hh; omega

theorem c88 {H : AHeap} {wi : Nat} {vt vl vp : Value} {t : List Nd} {w : W} {n v : List UInt8} (hW : WS H wi vt vl vp t w) (hn : n.length < 2^40) (hl : w.l.length < 2^30) :
    ACalls Try.prog 88 [.pointer (some ⟨wi, 0, none⟩), S n, S v] H (fun i => i = wi ∨ vid vl = some i) fun r H' => r = .bool (keyOf n).isSome ∧
      ∃ vl', WS H' wi vt vl' vp t { w with l := w.l ++ [⟨(keyOf n).getD [], v⟩] } ∧ ∀ j, vid vl' = some j → H.length ≤ j := by
  refine ACalls_by 27 TT_ok Try.func88 rfl rfl rfl (by simp) ?_
  refine AC_seqQ TT_ok (by simp only [go_sem] <;> rfl) ?_
  refine AC_seq ?_
  refine AC_regL ?_
  refine AQ_take TT_ok 1 rfl (by simp only [go_sem] <;> rfl) ?_
  refine AQ_c rfl (by simp only [go_sem] <;> rfl) fok93 (by simp only [List.map_cons, List.map_nil, List.append_nil, go_sem] <;> rfl) (c93 (a := n) hn) (fun _ _ h => h.elim) (.inl rfl) fun r H1 hX1 hr => ?_
  subst hr
  refine AQ_all TT_ok rfl (by simp only [go_sem] <;> rfl) ?_
  have hW1 := hW.keep hX1
  refine AC_seq ?_
  refine AC_regL ?_
  refine AQ_take TT_ok 8 rfl (by simp only [go_sem, anil_ptr, f106 _ 2 (by decide), hW1.ob.load, ap4_2 _ _ _ _ 22 rfl, List.map_cons, List.map_nil, bp52] <;> rfl) ?_
  refine AQ_lit TT_ok [(Pr.mk ((keyOf n).getD []) v).val] TT_22 rfl TT_52 rfl (by decide) rfl (by decide) rfl (by simp only [List.map_cons, List.map_nil, go_sem, numbered]) (fun u hu => ?_) fun H2 hX2 hO2 hL2 => ?_
  · rw [List.mem_singleton] at hu; subst hu; exact ⟨_, Lay.pr _, rfl⟩
  have hW2 := hW1.keep hX2
  have s1 := hX1.size
  refine AQ_append TT_ok (v := vl) (n := w.l.length) (m := 1) TT_22 rfl TT_52 (by decide) (by decide) rfl (by simp only [go_sem]) (by simp only [go_sem]) hW2.l hO2.sl (rows_length Pr.len _) rfl (by simp; omega) (fun j hj => .inr (.inr hj)) (.inl rfl) fun vl' H3 hX3 hB3 hv3 => ?_
  have hB3' : PrB H3 vl' (w.l ++ [⟨(keyOf n).getD [], v⟩]) := by
    have e : w.l.flatMap Pr.cells ++ ([(Pr.mk ((keyOf n).getD []) v).val] : List Value).flatMap (fun v => v.cells.toList) = (w.l ++ [Pr.mk ((keyOf n).getD []) v]).flatMap Pr.cells := by
      rw [List.flatMap_append]; rfl
    rw [e] at hB3
    rw [PrB, List.length_append]; exact hB3
  have hv3' : ∀ j, vid vl' = some j → H2.length ≤ j := fun j hj => by
    rcases hv3 j hj with h | h
    · exact h
    · cases h.1
  refine AQ_take TT_ok 2 rfl (by simp only [go_sem, anil_ptr, f106 _ 2 (by decide)] <;> rfl) ?_
  refine AQ_store TT_ok TT_22 rfl (by simp only [go_sem] <;> rfl) (by simp only [go_sem] <;> rfl) hB3'.sl.one.lay rfl (hW2.ob.ext hX3 (fun h => (hW.ld _ h).1 rfl)) (by simp) (.inr (.inl rfl)) (.inl rfl) fun H4 hX4 hO4 hL4 => ?_
  refine AQ_nil ?_
  refine AC_seqQ TT_ok (by simp only [go_sem] <;> rfl) ?_
  refine AC_ret ⟨.inl rfl, _, rfl, by simp only [go_sem], vl', hW2.appL hX3 hB3' hv3' hX4 hO4, fun j hj => ?_⟩
  have := hv3' j hj
  omega
end Go.Proofs.Ythalogdopkoidaa.Ab
