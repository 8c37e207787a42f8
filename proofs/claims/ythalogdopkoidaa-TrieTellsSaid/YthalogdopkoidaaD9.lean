/- Contract: the statement TrieTells' function. No statement of the seat's in it. -/
import Derived.Test.YthalogdopkoidaaD8
set_option linter.unusedVariables false
set_option linter.unusedSimpArgs false
namespace Go.Proofs.Ythalogdopkoidaa.Ab
open Go Go.RowKit

section
variable {T : Tab} {N : Nat} {ops : List Oper} {H : AHeap}
theorem qat_guard {e : Env} {d : Option Nat} {op : Op} {ty : TypeId} {pos : String} {af : Array Edge} {l : List Oper} {k : Env → Option Env} {j : Nat} {want : Bool} :
    qat T N ops H (⟨d, op, ty, pos, af, some (j, want)⟩ :: l) 0 e k = qguard (gget ops e j) want (qbind (qop T H (aev e) op) fun v => k (eput N e d v)) (k (eput N e d void)) := by
  simp only [qat, List.getElem?_cons_zero, q1, awant, gget]
  cases (ops[j]?).bind (·.dst) with
  | none => rfl
  | some t =>
    dsimp only
    cases get e t <;> try rfl
    · rename_i b
      cases b <;> cases want <;> first | rfl | (cases qop T H (aev e) op <;> rfl)
    · rename_i b
      cases b <;> rfl
attribute [go_sem] qat_guard
variable {P : Program} {ok : Nat → Prop} {late : List Nat} {σ : List (Nat × Bool)} {K : Env → AHeap → Prop} {e : Env} {Hs : AHeap} {Msk : Nat → Prop}
theorem AG_fix (Q : Env → Prop) (hq : Q e) (h : ∀ e', Q e' → AG P N ok Msk ops late σ K Hs e' H) : AG P N ok Msk ops late σ K Hs e H := h e hq
end

/-- 'append(empty, l...)': a copy. -/
theorem PrB.copy {H : AHeap} {v : Value} {l : List Pr} (h : Buf H v 52 (0 + l.length) ([] ++ l.flatMap Pr.cells)) : PrB H v l := by simpa [PrB] using h
theorem NdB.copy {H : AHeap} {v : Value} {l : List Nd} (h : Buf H v 49 (0 + l.length) ([] ++ l.flatMap Nd.cells)) : NdB H v l := by simpa [NdB] using h

set_option maxRecDepth 100000 in
set_option maxHeartbeats 8000000 in
theorem c3 {H : AHeap} {vl vt vu : Value} {l : List Pr} {t u : List Nd} (hl : PrS H vl l) (ht : NdS H vt t) (hu : NdS H vu u) : ACalls Try.prog 3 [vl, vt, vu] H (fun _ => False) fun v H' => v = .bool true := by
  refine ACalls_by 122 TT_ok Try.func3 rfl rfl rfl (by simp) ?_
  refine AC_seqQ TT_ok (by simp only [go_sem] <;> rfl) ?_
  refine AC_cut (fun e' H' => H' = H ∧ szP l ≤ 3000 ∧ szN t ≤ 4000 ∧ szN u ≤ 4000 ∧ get e' 0 = vl ∧ get e' 1 = vt ∧ get e' 2 = vu) ?_ (fun e1 H1 _ ⟨hH, hsP, hsT, hsU, g0, g1, g2⟩ => ?_)
  · refine AC_cut (fun e' H' => H' = H ∧ ∃ b, get e' 27 = .bool b ∧ (b = false → szP l ≤ 3000 ∧ szN t ≤ 4000 ∧ szN u ≤ 4000) ∧ get e' 0 = vl ∧ get e' 1 = vt ∧ get e' 2 = vu) ?_ (fun e1 H1 _ ⟨hH, b, h27, hb, g0, g1, g2⟩ => ?_)
    · refine AC_regL ?_
      refine AQ_take TT_ok 1 rfl (by simp only [go_sem] <;> rfl) ?_
      refine AQ_c rfl (by simp only [go_sem] <;> rfl) fok26 (by simp only [List.map_cons, List.map_nil, List.append_nil, go_sem] <;> rfl) (c26 hl) (fun _ _ h => h.elim) (.inl rfl) fun r H1 hX1 ⟨hH, b, hr, hb⟩ => ?_
      subst hr hH
      cases b
      · refine AQ_take TT_ok 2 rfl (by simp only [go_sem] <;> rfl) ?_
        refine AQ_c rfl (by simp only [go_sem] <;> rfl) fok27 (by simp only [List.map_cons, List.map_nil, List.append_nil, go_sem] <;> rfl) (c27 ht) (fun _ _ h => h.elim) (.inl rfl) fun r H1 hX1 ⟨hH, b, hr, hb2⟩ => ?_
        subst hr hH
        cases b
        · refine AQ_take TT_ok 3 rfl (by simp only [go_sem] <;> rfl) ?_
          refine AQ_c rfl (by simp only [go_sem] <;> rfl) fok27 (by simp only [List.map_cons, List.map_nil, List.append_nil, go_sem] <;> rfl) (c27 hu) (fun _ _ h => h.elim) (.inl rfl) fun r H1 hX1 ⟨hH, b, hr, hb3⟩ => ?_
          subst hr hH
          refine AQ_all TT_ok rfl (by simp only [go_sem] <;> rfl) ?_
          exact ⟨rfl, b, by simp only [go_sem], fun h => ⟨hb rfl, hb2 rfl, hb3 h⟩, by simp only [go_sem], by simp only [go_sem], by simp only [go_sem]⟩
        · refine AQ_take TT_ok 3 rfl (by simp only [go_sem] <;> rfl) ?_
          refine AQ_pass rfl ?_
          refine AQ_all TT_ok rfl (by simp only [go_sem] <;> rfl) ?_
          exact ⟨rfl, true, by simp only [go_sem], fun h => (by cases h), by simp only [go_sem], by simp only [go_sem], by simp only [go_sem]⟩
      · refine AQ_take TT_ok 2 rfl (by simp only [go_sem] <;> rfl) ?_
        refine AQ_pass rfl ?_
        refine AQ_take TT_ok 3 rfl (by simp only [go_sem] <;> rfl) ?_
        refine AQ_pass rfl ?_
        refine AQ_all TT_ok rfl (by simp only [go_sem] <;> rfl) ?_
        exact ⟨rfl, true, by simp only [go_sem], fun h => (by cases h), by simp only [go_sem], by simp only [go_sem], by simp only [go_sem]⟩
    subst hH
    cases b
    · exact AC_f h27 rfl (AC_skip ⟨rfl, (hb rfl).1, (hb rfl).2.1, (hb rfl).2.2, g0, g1, g2⟩)
    · refine AC_t h27 rfl ?_
      refine AC_seq ?_
      refine AC_regL ?_
      refine AQ_c rfl (by simp only [go_sem] <;> rfl) fok28 (by simp only [List.map_cons, List.map_nil, List.append_nil, go_sem] <;> rfl) (c28) (fun _ _ h => h.elim) (.inl rfl) fun r H1 hX1 hr => ?_
      subst hr
      refine AQ_all TT_ok rfl (by simp only [go_sem] <;> rfl) ?_
      exact AC_ret ⟨.inl rfl, _, rfl, by simp only [go_sem]⟩
  subst hH
  have hll := szP_len l
  have htl := szN_len t
  have hul := szN_len u
  have htn : ∀ n ∈ t, n.path.length < 2^30 := fun n hn => by have := szN_path t n hn; omega
  -- the copies
  refine AC_seq ?_
  refine AC_regL ?_
  refine AQ_lit TT_ok [] TT_22 rfl TT_52 rfl (by decide) rfl (by decide) rfl rfl (fun v hv => by cases hv) fun H2 hX2 hO2 hL2 => ?_
  have hl2 := hl.keep hX2
  refine AQ_take TT_ok 1 rfl (by simp only [go_sem, g0] <;> rfl) ?_
  refine AQ_append TT_ok (v := .slice (some ⟨H1.length, 0, none⟩) 0 0) (n := 0) (m := l.length) TT_22 rfl TT_52 (by decide) (by decide) rfl (by simp only [go_sem]) (by simp only [go_sem]) (.inr ⟨_, hO2⟩) hl2 rfl (rows_length Pr.len l) (by simp; omega) (fun j hj => .inl (by have e : H1.length = j := Option.some.inj hj; omega)) (.inl rfl) fun vin H3 hX3 hB3 hv3 => ?_
  have hIn := PrB.copy hB3
  have hX13 : AExt (fun _ => False) H1 H3 := hX2.weakF hX3 (fun j hj h => by have e : H1.length = j := Option.some.inj h; omega)
  refine AQ_lit TT_ok [] TT_24 rfl TT_49 rfl (by decide) rfl (by decide) rfl rfl (fun v hv => by cases hv) fun H4 hX4 hO4 hL4 => ?_
  have ht4 := ht.keep (hX13.trans hX4)
  refine AQ_take TT_ok 1 rfl (by simp only [go_sem, g1] <;> rfl) ?_
  refine AQ_append TT_ok (v := .slice (some ⟨H3.length, 0, none⟩) 0 0) (n := 0) (m := t.length) TT_24 rfl TT_49 (by decide) (by decide) rfl (by simp only [go_sem]) (by simp only [go_sem]) (.inr ⟨_, hO4⟩) ht4 rfl (rows_length Nd.len t) (by simp; omega) (fun j hj => .inl (by have e : H3.length = j := Option.some.inj hj; have := hX13.size; omega)) (.inl rfl) fun vat H5 hX5 hB5 hv5 => ?_
  have hAt := NdB.copy hB5
  have hX35 : AExt (fun _ => False) H3 H5 := hX4.weakF hX5 (fun j hj h => by have e : H3.length = j := Option.some.inj h; omega)
  have hX15 := hX13.trans hX35
  refine AQ_all TT_ok rfl (by simp only [go_sem] <;> rfl) ?_
  refine AC_fixe (fun e' => get e' 0 = vl ∧ get e' 1 = vt ∧ get e' 2 = vu ∧ get e' 7 = vin ∧ get e' 8 = vat) ⟨by simp only [go_sem, g0], by simp only [go_sem, g1], by simp only [go_sem, g2], by simp only [go_sem], by simp only [go_sem]⟩ (fun e2 ⟨g0, g1, g2, g7, g8⟩ => ?_)
  have hL5 := hl.keep hX15
  have hT5 := ht.keep hX15
  have hU5 := hu.keep hX15
  have hIn5 := PrS.keep hIn.sl hX35
  have hAt5 : NdS H5 vat t := hAt.sl
  -- build
  refine AC_seq ?_
  refine AC_regL ?_
  refine AQ_take TT_ok 1 rfl (by simp only [go_sem, g7] <;> rfl) ?_
  refine AQ_c rfl (by simp only [go_sem] <;> rfl) fok29 (by simp only [List.map_cons, List.map_nil, List.append_nil, go_sem] <;> rfl) (c29 hIn5 (by omega)) (fun _ _ h => h.elim) (.inl rfl) fun r H6 hX6 ⟨va, hr, hA6, _⟩ => ?_
  subst hr
  refine AQ_all TT_ok rfl (by simp only [go_sem] <;> rfl) ?_
  refine AC_seq ?_
  refine AC_regL ?_
  refine AQ_take TT_ok 1 rfl (by simp only [go_sem, g0] <;> rfl) ?_
  refine AQ_c rfl (by simp only [go_sem] <;> rfl) fok30 (by simp only [List.map_cons, List.map_nil, List.append_nil, go_sem] <;> rfl) (c30 (hL5.keep hX6) (by omega)) (fun _ _ h => h.elim) (.inl rfl) fun r H7 hX7 ⟨vb, vbp, hr, hB7, hBp7, _, _⟩ => ?_
  subst hr
  refine AQ_var TT_ok TT_32 rfl (by decide) (by simp only [go_sem] <;> rfl) (Lay.three hB7.sl.one hBp7.sl.one (One.bool _)) rfl (.inl (by have := hX15.size; have := hX6.size; have := hX7.size; omega)) (.inl rfl) fun H8 hX8 hO8 hL8 => ?_
  refine AQ_nil ?_
  have hX58 := (hX6.trans hX7).trans hX8
  have hAt8 := hAt5.keep hX58
  refine AC_seq ?_
  refine AC_regL ?_
  refine AQ_take TT_ok 1 rfl (by simp only [go_sem, g8] <;> rfl) ?_
  refine AQ_c rfl (by simp only [go_sem] <;> rfl) fok31 (by simp only [List.map_cons, List.map_nil, List.append_nil, go_sem] <;> rfl) (c31 hAt8 (by omega) htn) (fun _ _ h => h.elim) (.inl rfl) fun r H9 hX9 ⟨vp, hr, hP9, _⟩ => ?_
  subst hr
  refine AQ_all TT_ok rfl (by simp only [go_sem] <;> rfl) ?_
  have hX59 := hX58.trans hX9
  refine AC_seq ?_
  refine AC_regL ?_
  refine AQ_take TT_ok 1 rfl (by simp only [go_sem, g1] <;> rfl) ?_
  refine AQ_c rfl (by simp only [go_sem] <;> rfl) fok32 (by simp only [List.map_cons, List.map_nil, List.append_nil, go_sem] <;> rfl) (c32 (hT5.keep hX59) (by omega) htn) (fun _ _ h => h.elim) (.inl rfl) fun r H10 hX10 ⟨vq, hr, hQ10, _⟩ => ?_
  subst hr
  refine AQ_var TT_ok TT_37 rfl (by decide) (by simp only [go_sem] <;> rfl) (Lay.two hQ10.sl.one (One.bool _)) rfl (.inl (by have := hX15.size; have := hX59.size; have := hX10.size; omega)) (.inl rfl) fun H11 hX11 hO11 hL11 => ?_
  refine AQ_nil ?_
  have hX511 := (hX59.trans hX10).trans hX11
  refine AC_seq ?_
  refine AC_regL ?_
  refine AQ_take TT_ok 1 rfl (by simp only [go_sem, g8] <;> rfl) ?_
  refine AQ_c rfl (by simp only [go_sem] <;> rfl) fok33 (by simp only [List.map_cons, List.map_nil, List.append_nil, go_sem] <;> rfl) (c33 (hAt5.keep hX511) (by omega) htn) (fun _ _ h => h.elim) (.inl rfl) fun r H12 hX12 ⟨vs, hr, hS12, _⟩ => ?_
  subst hr
  refine AQ_all TT_ok rfl (by simp only [go_sem] <;> rfl) ?_
  refine AC_seqQ TT_ok (by simp only [go_sem] <;> rfl) ?_
  refine AC_fixe (fun e' => get e' 0 = vl ∧ get e' 1 = vt ∧ get e' 2 = vu ∧ get e' 7 = vin ∧ get e' 8 = vat ∧ get e' 9 = va ∧ get e' 10 = .bool (decide (May l)) ∧ get e' 11 = .pointer (some ⟨H7.length, 0, none⟩) ∧ get e' 12 = vp ∧ get e' 13 = .bool (decide (Isw t)) ∧ get e' 14 = .pointer (some ⟨H10.length, 0, none⟩) ∧ get e' 15 = vs ∧ get e' 16 = .bool (decide (Isw t)) ∧ get e' 17 = .slice none 0 0) ⟨by simp only [go_sem, g0], by simp only [go_sem, g1], by simp only [go_sem, g2], by simp only [go_sem, g7], by simp only [go_sem, g8], by simp only [go_sem], by simp only [go_sem], by simp only [go_sem], by simp only [go_sem], by simp only [go_sem], by simp only [go_sem], by simp only [go_sem], by simp only [go_sem], by simp only [go_sem]⟩ (fun e3 ⟨g0, g1, g2, g7, g8, g9, g10, g11, g12, g13, g14, g15, g16, g17⟩ => ?_)
  have hX1112 := hX12
  have hO12 := hO11.keep hX12
  have f0 : ∀ k, afield TT 37 (.pointer (some ⟨k, 0, none⟩)) 0 = some (.pointer (some ⟨k, 0, none⟩)) := fun k => rfl
  have f1 : ∀ k, afield TT 37 (.pointer (some ⟨k, 0, none⟩)) 1 = some (.pointer (some ⟨k, 1, none⟩)) := fun k => rfl
  have p1 : apart TT 4 [vq, .bool (decide (Isw t))] 1 = some (.bool (decide (Isw t))) := rfl
  have p0 : apart TT 22 [vq, .bool (decide (Isw t))] 0 = some vq := rfl
  have hQ12 : PrS H12 vq (if Isw t then (walkAll t).2.l else []) := hQ10.sl.keep (hX11.trans hX12)
  -- the reference's paths
  refine AC_cut (fun e' H' => ∃ vw, AExt (fun _ => False) H12 H' ∧ StS H' vw (if Isw t then (walkAll t).2.paths else []) ∧ get e' 17 = vw ∧ get e' 0 = vl ∧ get e' 1 = vt ∧ get e' 2 = vu ∧ get e' 7 = vin ∧ get e' 8 = vat ∧ get e' 9 = va ∧ get e' 10 = .bool (decide (May l)) ∧ get e' 11 = .pointer (some ⟨H7.length, 0, none⟩) ∧ get e' 12 = vp ∧ get e' 13 = .bool (decide (Isw t)) ∧ get e' 14 = .pointer (some ⟨H10.length, 0, none⟩) ∧ get e' 15 = vs ∧ get e' 16 = .bool (decide (Isw t))) ?_ (fun e4 H13 _ ⟨vw, hX13', hW13, g17, g0, g1, g2, g7, g8, g9, g10, g11, g12, g13, g14, g15, g16⟩ => ?_)
  · refine AC_seqQ TT_ok (by simp only [go_sem, g14, f1, hO12.load, p1] <;> rfl) ?_
    by_cases hs : Isw t
    · have hm : May (walkAll t).2.l := hs.2.1
      have hwl : (walkAll t).2.l.length < 2^20 := by have := walkAll_ok t; have h1 := this.l; have h2 := this.n; omega
      rw [if_pos hs] at hQ12
      refine AC_t (by simp only [go_sem] <;> rfl) (decide_eq_true hs) ?_
      refine AC_regL ?_
      refine AQ_take TT_ok 2 rfl (by simp only [go_sem, g14, f0, hO12.load, p0] <;> rfl) ?_
      refine AQ_c rfl (by simp only [go_sem] <;> rfl) fok30 (by simp only [List.map_cons, List.map_nil, List.append_nil, go_sem] <;> rfl) (c30 hQ12 hwl) (fun _ _ h => h.elim) (.inl rfl) fun r H13 hX13 ⟨vx, vxp, hr, _, hXp, _, _⟩ => ?_
      subst hr
      have hp : apick TT 32 (.agg #[vx, vxp, .bool (decide (May (walkAll t).2.l))]) 1 = some vxp := rfl
      refine AQ_all TT_ok rfl (by simp only [go_sem, hp] <;> rfl) ?_
      refine ⟨vxp, hX13, ?_, by simp only [go_sem], by simp only [go_sem, g0], by simp only [go_sem, g1], by simp only [go_sem, g2], by simp only [go_sem, g7], by simp only [go_sem, g8], by simp only [go_sem, g9], by simp only [go_sem, g10], by simp only [go_sem, g11], by simp only [go_sem, g12], by simp only [go_sem, g13], by simp only [go_sem, g14], by simp only [go_sem, g15], by simp only [go_sem, g16]⟩
      rw [if_pos hm] at hXp
      rw [if_pos hs]
      have h2 := walkAll_build hm
      rw [← hs.2.2] at h2
      have h3 : (walkAll t).2.paths = paths (walkAll t).2.l := by
        conv => lhs; rw [h2]
      rw [h3]
      exact hXp.sl
    · refine AC_f (by simp only [go_sem] <;> rfl) (decide_eq_false hs) ?_
      refine AC_skip ⟨.slice none 0 0, AExt.refl _ _, ?_, by simp only [go_sem, g17], by simp only [go_sem, g0], by simp only [go_sem, g1], by simp only [go_sem, g2], by simp only [go_sem, g7], by simp only [go_sem, g8], by simp only [go_sem, g9], by simp only [go_sem, g10], by simp only [go_sem, g11], by simp only [go_sem, g12], by simp only [go_sem, g13], by simp only [go_sem, g14], by simp only [go_sem, g15], by simp only [go_sem, g16]⟩
      rw [if_neg hs]
      exact .inl ⟨rfl, rfl, rfl⟩
  have hY8 : AExt (fun _ => False) H8 H13 := (((hX9.trans hX10).trans hX11).trans hX12).trans hX13'
  have hZ : AExt (fun _ => False) H5 H13 := (hX511.trans hX12).trans hX13'
  have hA13 : NdS H13 va (if May l then build l else []) := hA6.sl.keep ((hX7.trans hX8).trans hY8)
  have hB13 : NdS H13 vb (if May l then build l else []) := hB7.sl.keep (hX8.trans hY8)
  have hO32 := hO8.keep hY8
  have hO37 := hO12.keep hX13'
  have hP13 : PrS H13 vp (if Isw t then (walkAll t).2.l else []) := hP9.sl.keep (((hX10.trans hX11).trans hX12).trans hX13')
  have hQ13 := hQ12.keep hX13'
  have hS13 : StS H13 vs (if Isw t then (walkAll t).2.paths else []) := hS12.sl.keep hX13'
  have hT13 := hT5.keep hZ
  have hU13 := hU5.keep hZ
  have hL13 := hL5.keep hZ
  have hIn13 := hIn5.keep hZ
  have hAt13 := hAt5.keep hZ
  have f32 : ∀ k, afield TT 32 (.pointer (some ⟨k, 0, none⟩)) 0 = some (.pointer (some ⟨k, 0, none⟩)) := fun k => rfl
  have f322 : ∀ k, afield TT 32 (.pointer (some ⟨k, 0, none⟩)) 2 = some (.pointer (some ⟨k, 2, none⟩)) := fun k => rfl
  have p2 : apart TT 4 [vb, vbp, .bool (decide (May l))] 2 = some (.bool (decide (May l))) := rfl
  have hlA : (if May l then build l else []).length < 2^62 := by
    split
    · have := build_len l; omega
    · simp
  have hok := walkAll_ok t
  have hlW : (if Isw t then (walkAll t).2.l else []).length < 2^62 := by
    split
    · have h1 := hok.l; have h2 := hok.n; omega
    · simp
  have hlP : (if Isw t then (walkAll t).2.paths else []).length < 2^62 := by
    split
    · rename_i hs
      have h1 := hs.trie.len
      unfold q0 at h1
      omega
    · simp
  refine AC_seq ?_
  refine AC_drawG (fun _ => False) H13 [] [(0, true), (1, true), (2, true), (3, false), (4, true), (5, true), (6, true), (7, true), (8, true), (9, true), (10, true), (11, true), (12, true), (13, true), (14, false), (15, true), (16, true), (17, true), (18, true), (19, true), (20, true), (21, true), (22, true), (23, true), (24, true), (25, false), (26, true), (27, true), (28, true), (29, true), (30, true), (31, true), (32, true), (33, true), (34, true), (36, true), (37, true), (35, false), (38, true), (39, true), (40, true), (41, true), (42, true), (44, true), (45, true), (43, false), (46, false), (47, true), (48, true), (49, true), (50, true), (51, true), (52, false), (53, true), (54, true), (55, true), (56, true), (57, false), (58, true), (59, true), (60, false), (61, true), (62, true)] mixed (by kernel_rfl) (fun _ h => h.elim) (fun j o h => ⟨h, id⟩) (Nat.le_refl _) ?_
  refine AG_sel (σ := [(3, false), (4, true), (5, true), (6, true), (7, true), (8, true), (9, true), (10, true), (11, true), (12, true), (13, true), (14, false), (15, true), (16, true), (17, true), (18, true), (19, true), (20, true), (21, true), (22, true), (23, true), (24, true), (25, false), (26, true), (27, true), (28, true), (29, true), (30, true), (31, true), (32, true), (33, true), (34, true), (36, true), (37, true), (35, false), (38, true), (39, true), (40, true), (41, true), (42, true), (44, true), (45, true), (43, false), (46, false), (47, true), (48, true), (49, true), (50, true), (51, true), (52, false), (53, true), (54, true), (55, true), (56, true), (57, false), (58, true), (59, true), (60, false), (61, true), (62, true)]) TT_ok [0, 1, 2] _ (by simp only [go_sem, g0, g1, g2, g7, g8, g9, g10, g11, g12, g13, g14, g15, g16, g17, f0, f1, f32, f322, hO32.load, hO37.load, p0, p1, p2, ap3_0 _ _ _ 24 rfl, eq_self, decide_true, beq_self_eq_true] <;> rfl) ?_
  refine AG_c rfl rfl (by simp only [go_sem] <;> rfl) fok34 (by simp only [List.map_cons, List.map_nil, List.append_nil, go_sem] <;> rfl) (c34 hA13 hB13 hlA) fun r H14 hX14 ⟨hr, hH⟩ => ?_
  subst hr hH
  refine AG_sel (σ := [(14, false), (15, true), (16, true), (17, true), (18, true), (19, true), (20, true), (21, true), (22, true), (23, true), (24, true), (25, false), (26, true), (27, true), (28, true), (29, true), (30, true), (31, true), (32, true), (33, true), (34, true), (36, true), (37, true), (35, false), (38, true), (39, true), (40, true), (41, true), (42, true), (44, true), (45, true), (43, false), (46, false), (47, true), (48, true), (49, true), (50, true), (51, true), (52, false), (53, true), (54, true), (55, true), (56, true), (57, false), (58, true), (59, true), (60, false), (61, true), (62, true)]) TT_ok [4, 5, 6, 7, 8, 9, 10, 11, 12, 13] _ (by simp only [go_sem, g0, g1, g2, g7, g8, g9, g10, g11, g12, g13, g14, g15, g16, g17, f0, f1, f32, f322, hO32.load, hO37.load, p0, p1, p2, ap3_0 _ _ _ 24 rfl, eq_self, decide_true, beq_self_eq_true] <;> rfl) ?_
  refine AG_c rfl rfl (by simp only [go_sem] <;> rfl) fok35 (by simp only [List.map_cons, List.map_nil, List.append_nil, go_sem] <;> rfl) (c35 hP13 hQ13 hlW) fun r H14 hX14 ⟨hr, hH⟩ => ?_
  subst hr hH
  refine AG_sel (σ := [(25, false), (26, true), (27, true), (28, true), (29, true), (30, true), (31, true), (32, true), (33, true), (34, true), (36, true), (37, true), (35, false), (38, true), (39, true), (40, true), (41, true), (42, true), (44, true), (45, true), (43, false), (46, false), (47, true), (48, true), (49, true), (50, true), (51, true), (52, false), (53, true), (54, true), (55, true), (56, true), (57, false), (58, true), (59, true), (60, false), (61, true), (62, true)]) TT_ok [15, 16, 17, 18, 19, 20, 21, 22, 23, 24] _ (by simp only [go_sem, g0, g1, g2, g7, g8, g9, g10, g11, g12, g13, g14, g15, g16, g17, f0, f1, f32, f322, hO32.load, hO37.load, p0, p1, p2, ap3_0 _ _ _ 24 rfl, eq_self, decide_true, beq_self_eq_true] <;> rfl) ?_
  refine AG_c rfl rfl (by simp only [go_sem] <;> rfl) fok36 (by simp only [List.map_cons, List.map_nil, List.append_nil, go_sem] <;> rfl) (c36 hS13 hW13 hlP) fun r H14 hX14 ⟨hr, hH⟩ => ?_
  subst hr hH
  refine AG_sel (σ := [(35, false), (38, true), (39, true), (40, true), (41, true), (42, true), (44, true), (45, true), (43, false), (46, false), (47, true), (48, true), (49, true), (50, true), (51, true), (52, false), (53, true), (54, true), (55, true), (56, true), (57, false), (58, true), (59, true), (60, false), (61, true), (62, true)]) TT_ok [26, 27, 28, 29, 30, 31, 32, 33, 34, 36, 37] _ (by simp only [go_sem, g0, g1, g2, g7, g8, g9, g10, g11, g12, g13, g14, g15, g16, g17, f0, f1, f32, f322, hO32.load, hO37.load, p0, p1, p2, ap3_0 _ _ _ 24 rfl, eq_self, decide_true, beq_self_eq_true] <;> rfl) ?_
  refine AG_c rfl rfl (by simp only [go_sem] <;> rfl) fok37 (by simp only [List.map_cons, List.map_nil, List.append_nil, go_sem] <;> rfl) (c37 hAt13 (by omega) htn) fun r H14 hX14 hr => ?_
  subst hr
  refine AG_sel (σ := [(43, false), (46, false), (47, true), (48, true), (49, true), (50, true), (51, true), (52, false), (53, true), (54, true), (55, true), (56, true), (57, false), (58, true), (59, true), (60, false), (61, true), (62, true)]) TT_ok [38, 39, 40, 41, 42, 44, 45] _ (by simp only [go_sem, g0, g1, g2, g7, g8, g9, g10, g11, g12, g13, g14, g15, g16, g17, f0, f1, f32, f322, hO32.load, hO37.load, p0, p1, p2, ap3_0 _ _ _ 24 rfl, eq_self, decide_true, beq_self_eq_true] <;> rfl) ?_
  refine AG_c rfl rfl (by simp only [go_sem] <;> rfl) fok38 (by simp only [List.map_cons, List.map_nil, List.append_nil, go_sem] <;> rfl) (c38 (hAt13.keep hX14) (hU13.keep hX14) (by omega)) fun r H15 hX15 ⟨hr, hH⟩ => ?_
  subst hr hH
  refine AG_c rfl rfl (by simp only [go_sem] <;> rfl) fok34 (by simp only [List.map_cons, List.map_nil, List.append_nil, go_sem] <;> rfl) (c34 (hT13.keep hX14) (hU13.keep hX14) (by omega)) fun r H15 hX15 ⟨hr, hH⟩ => ?_
  subst hr hH
  refine AG_sel (σ := [(52, false), (53, true), (54, true), (55, true), (56, true), (57, false), (58, true), (59, true), (60, false), (61, true), (62, true)]) TT_ok [47, 48, 49, 50, 51] _ (by simp only [go_sem, g0, g1, g2, g7, g8, g9, g10, g11, g12, g13, g14, g15, g16, g17, f0, f1, f32, f322, hO32.load, hO37.load, p0, p1, p2, ap3_0 _ _ _ 24 rfl, eq_self, decide_true, beq_self_eq_true] <;> rfl) ?_
  refine AG_c rfl rfl (by simp only [go_sem] <;> rfl) fok35 (by simp only [List.map_cons, List.map_nil, List.append_nil, go_sem] <;> rfl) (c35 (hIn13.keep hX14) (hL13.keep hX14) (by omega)) fun r H15 hX15 ⟨hr, hH⟩ => ?_
  subst hr hH
  refine AG_sel (σ := [(57, false), (58, true), (59, true), (60, false), (61, true), (62, true)]) TT_ok [53, 54, 55, 56] _ (by simp only [go_sem, g0, g1, g2, g7, g8, g9, g10, g11, g12, g13, g14, g15, g16, g17, f0, f1, f32, f322, hO32.load, hO37.load, p0, p1, p2, ap3_0 _ _ _ 24 rfl, eq_self, decide_true, beq_self_eq_true] <;> rfl) ?_
  refine AG_c rfl rfl (by simp only [go_sem] <;> rfl) fok34 (by simp only [List.map_cons, List.map_nil, List.append_nil, go_sem] <;> rfl) (c34 (hAt13.keep hX14) (hT13.keep hX14) (by omega)) fun r H15 hX15 ⟨hr, hH⟩ => ?_
  subst hr hH
  refine AG_sel (σ := [(60, false), (61, true), (62, true)]) TT_ok [58, 59] _ (by simp only [go_sem, g0, g1, g2, g7, g8, g9, g10, g11, g12, g13, g14, g15, g16, g17, f0, f1, f32, f322, hO32.load, hO37.load, p0, p1, p2, ap3_0 _ _ _ 24 rfl, eq_self, decide_true, beq_self_eq_true] <;> rfl) ?_
  refine AG_c rfl rfl (by simp only [go_sem] <;> rfl) fok28 (by simp only [List.map_cons, List.map_nil, List.append_nil, go_sem] <;> rfl) (c28) fun r H15 hX15 hr => ?_
  subst hr
  refine AG_sel (σ := []) TT_ok [61, 62] _ (by simp only [go_sem, g0, g1, g2, g7, g8, g9, g10, g11, g12, g13, g14, g15, g16, g17, f0, f1, f32, f322, hO32.load, hO37.load, p0, p1, p2, ap3_0 _ _ _ 24 rfl, eq_self, decide_true, beq_self_eq_true] <;> rfl) ?_
  refine AG_nil ?_
  exact AC_ret ⟨.inl rfl, _, rfl, by simp only [go_sem]⟩
end Go.Proofs.Ythalogdopkoidaa.Ab
