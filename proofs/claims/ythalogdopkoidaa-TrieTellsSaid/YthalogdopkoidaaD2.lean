/- Contract: umbellaw10.wakes. No statement of the seat's in it. -/
import Derived.Test.YthalogdopkoidaaD1
import Derived.Test.YthalogdopkoidaaB14
set_option linter.unusedVariables false
set_option linter.unusedSimpArgs false
namespace Go.Proofs.Ythalogdopkoidaa.Ab
open Go Go.RowKit

theorem bp52a (k : List UInt8) : abuild TT 52 [(0, S k)] = some (Pr.mk k []).val := rfl
theorem Own.pairs {H : AHeap} {v : Value} {i n : Nat} (l : List Pr) (hn : l.length = n) (h : Own H v 52 n ((l.map Pr.val).flatMap fun v => v.cells.toList) i) : PrB H v l := by
  subst hn
  have e : ((l.map Pr.val).flatMap fun v => v.cells.toList) = l.flatMap Pr.cells := by
    rw [List.flatMap_map]; rfl
  rw [e] at h
  exact .inr ⟨i, h⟩
theorem Lay.prs (l : List Pr) : ∀ v ∈ l.map Pr.val, ∃ xs, Lay v xs ∧ xs.length = 2 := fun v hv => by
  obtain ⟨p, _, rfl⟩ := List.mem_map.1 hv
  exact ⟨_, Lay.pr p, rfl⟩

def wps : List Pr := [⟨[97], [49]⟩, ⟨[97, 98], [50]⟩, ⟨[98], []⟩]
def wbad : List Pr := [⟨[98], []⟩, ⟨[97], []⟩]
def wt : List Nd := [⟨2, [6], false, [], zk.set 0 1⟩, ⟨3, [], false, [], (zk.set 1 2).set 2 4⟩, ⟨3, [], true, [49], zk.set 6 3⟩, ⟨1, [2], true, [50], zk⟩, ⟨1, [], true, [], zk⟩]
def wpa : List (List UInt8) := [[], [6], [6, 1], [6, 1, 6], [6, 2]]
theorem wps_may : May wps := by decide
theorem wbad_may : ¬ May wbad := by decide
theorem wps_build : build wps = wt := by decide +kernel
theorem wt_walk : (walkAll wt).2.paths = wpa ∧ (walkAll wt).2.l = wps := by decide +kernel
theorem wt_isw : Isw wt := by rw [← wps_build]; exact isw_build wps_may
theorem nil_isw : Isw [] := by decide +kernel
theorem wt_drop : ¬ Isw (wt.drop 1) := by decide +kernel

section
variable {P : Program} {T : Tab} {N : Nat} {ok : Nat → Prop} {d : Bool} {late : List Nat} {ops : List Oper} {k : Nat} {l : List Oper} {K : Env → AHeap → Prop} {e : Env} {H : AHeap}
theorem AQ_here {o : Oper} (h : AQ P N ok d late ops k (o :: l) K e H) : AQ P N ok d late ops k (o :: l) K e H := h
theorem AQ_fix (Q : Env → Prop) (hq : Q e) (h : ∀ e', Q e' → AQ P N ok d late ops k l K e' H) : AQ P N ok d late ops k l K e H := h e hq
theorem awant_t {o : Oper} {j dst : Nat} {want : Bool} (hd : (ops[j]?).bind (·.dst) = some dst) (h : get e dst = .bool want) (hg : o.guard = some (j, want)) : awant ops e o = some true := by
  simp [awant, hg, hd, h]
theorem AC_fixe {c : Code} {R : Exit → Env → AHeap → Prop} (Q : Env → Prop) (hq : Q e) (h : ∀ e', Q e' → AC P N ok c R e' H) : AC P N ok c R e H := h e hq
end

set_option maxRecDepth 100000 in
set_option maxHeartbeats 4000000 in
theorem c28 {H : AHeap} : ACalls Try.prog 28 [] H (fun _ => False) fun v H' => v = .bool true := by
  refine ACalls_by 172 TT_ok Try.func28 rfl rfl rfl (by simp) ?_
  refine AC_seqQ TT_ok (by simp only [go_sem] <;> rfl) ?_
  refine AC_seq ?_
  refine AC_regL ?_
  refine AQ_take TT_ok 3 rfl (by simp only [go_sem, List.map_cons, List.map_nil, bp52, bp52a] <;> rfl) ?_
  refine AQ_lit TT_ok (wps.map Pr.val) TT_22 rfl TT_52 rfl (by decide) rfl (by decide) rfl (by simp only [wps, List.map_cons, List.map_nil, go_sem, numbered]) (Lay.prs _) fun H1 hX1 hO1 hL1 => ?_
  have hP1 := Own.pairs wps rfl hO1
  refine AQ_c rfl (by simp only [go_sem] <;> rfl) fok29 (by simp only [List.map_cons, List.map_nil, List.append_nil, go_sem] <;> rfl) (c29 hP1.sl (by decide)) (fun _ _ h => h.elim) (.inl rfl) fun r H2 hX2 ⟨vt, hr, hT2, _⟩ => ?_
  subst hr
  rw [if_pos wps_may, wps_build] at hT2
  have dm : decide (May wps) = true := decide_eq_true wps_may
  refine AQ_all TT_ok rfl (by simp only [go_sem, dm] <;> rfl) ?_
  have hT2' := hT2.sl
  refine AC_seq ?_
  refine AC_regL ?_
  refine AQ_take TT_ok 2 rfl (by simp only [go_sem, List.map_cons, List.map_nil, bp52, bp52a] <;> rfl) ?_
  refine AQ_lit TT_ok (wbad.map Pr.val) TT_22 rfl TT_52 rfl (by decide) rfl (by decide) rfl (by simp only [wbad, List.map_cons, List.map_nil, go_sem, numbered]) (Lay.prs _) fun H3 hX3 hO3 hL3 => ?_
  have hP3 := Own.pairs wbad rfl hO3
  refine AQ_c rfl (by simp only [go_sem] <;> rfl) fok29 (by simp only [List.map_cons, List.map_nil, List.append_nil, go_sem] <;> rfl) (c29 hP3.sl (by decide)) (fun _ _ h => h.elim) (.inl rfl) fun r H4 hX4 ⟨vb, hr, _, _⟩ => ?_
  subst hr
  have db : decide (May wbad) = false := decide_eq_false wbad_may
  refine AQ_all TT_ok rfl (by simp only [go_sem, db] <;> rfl) ?_
  have hT4 : NdS H4 vt wt := (hT2'.keep hX3).keep hX4
  refine AC_cut (fun e' H' => NdS H' vt wt ∧ get e' 1 = vt ∧ get e' 4 = .bool false) ?_ (fun e5 H5 _ ⟨hT, g1, g4⟩ => ?_)
  · have l5 : decide ((wt.length : Int) = 5) = true := rfl
    refine AC_seqQ TT_ok (by simp only [go_sem, hT4.alen, l5] <;> rfl) ?_
    refine AC_f (by simp only [go_sem] <;> rfl) (by first | rfl | simp) ?_
    refine AC_skip ?_
    exact ⟨hT4, by simp only [go_sem], by simp only [go_sem]⟩
  have g2 := g4
  have di : decide (Isw wt) = true := decide_eq_true wt_isw
  have dn : decide (Isw []) = true := decide_eq_true nil_isw
  have dd : decide (Isw (wt.drop 1)) = false := decide_eq_false wt_drop
  have hnl : ∀ n ∈ wt, n.path.length < 2^30 := by decide
  refine AC_seq ?_
  refine AC_regL ?_
  refine AQ_take TT_ok 1 rfl (by simp only [go_sem, g1] <;> rfl) ?_
  refine AQ_c rfl (by simp only [go_sem] <;> rfl) fok33 (by simp only [List.map_cons, List.map_nil, List.append_nil, go_sem] <;> rfl) (c33 hT (by decide) hnl) (fun _ _ h => h.elim) (.inl rfl) fun r H6 hX6 ⟨vp, hr, hP6, _⟩ => ?_
  subst hr
  rw [if_pos wt_isw, wt_walk.1] at hP6
  refine AQ_all TT_ok rfl (by simp only [go_sem, di] <;> rfl) ?_
  have hT6 := hT.keep hX6
  have hP6' : StS H6 vp wpa := hP6.sl
  refine AC_seq ?_
  refine AC_regL ?_
  refine AQ_take TT_ok 1 rfl (by simp only [go_sem, g1] <;> rfl) ?_
  refine AQ_c rfl (by simp only [go_sem] <;> rfl) fok31 (by simp only [List.map_cons, List.map_nil, List.append_nil, go_sem] <;> rfl) (c31 hT6 (by decide) hnl) (fun _ _ h => h.elim) (.inl rfl) fun r H7 hX7 ⟨vl, hr, hL7, _⟩ => ?_
  subst hr
  rw [if_pos wt_isw, wt_walk.2] at hL7
  refine AQ_all TT_ok rfl (by simp only [go_sem, di] <;> rfl) ?_
  have g1' := g1
  have g4' := g4
  refine AC_fixe (fun e' => get e' 1 = vt ∧ get e' 4 = .bool false ∧ get e' 5 = vp ∧ get e' 6 = .bool true ∧ get e' 7 = vl ∧ get e' 8 = .bool true) ⟨by simp only [go_sem, g1], by simp only [go_sem, g4], by simp only [go_sem], by simp only [go_sem], by simp only [go_sem], by simp only [go_sem]⟩ (fun e7 ⟨g1, g4, g5, g6, g7, g8⟩ => ?_)
  have hT := hT6.keep hX7
  have hP := hP6'.keep hX7
  have hL : PrS H7 vl wps := hL7.sl
  have i0 : aindex TT 24 vt (.int .i64 0) = some (ep vt (0 * 20)) := hT.index (by decide) (by decide)
  have i0f4 : afield TT 49 (ep vt (0 * 20)) 4 = some (ep vt (0 * 20 + 4)) := hT.f4 (by decide)
  have i0kindf : afield TT 49 (ep vt (0 * 20)) 0 = some (ep vt (0 * 20 + 0)) := hT.f0 (by decide)
  have i0kindl : aload TT H7 3 (ep vt (0 * 20 + 0)) = some (.int .i64 2) := hT.kind (i := 0) (by decide)
  have i0pathf : afield TT 49 (ep vt (0 * 20)) 1 = some (ep vt (0 * 20 + 1)) := hT.f1 (by decide)
  have i0pathl : aload TT H7 9 (ep vt (0 * 20 + 1)) = some (S [6]) := hT.path (i := 0) (by decide)
  have i0k0 : aindex TT 47 (ep vt (0 * 20 + 4)) (.int .i64 0) = some (ep vt (0 * 20 + (4 + 0))) := hT.kidx (i := 0) (c := 0) (by decide) (by decide)
  have i0l0 : aload TT H7 3 (ep vt (0 * 20 + (4 + 0))) = some (.int .i64 1) := hT.kid (i := 0) (c := 0) (by decide) (by decide)
  have i1 : aindex TT 24 vt (.int .i64 1) = some (ep vt (1 * 20)) := hT.index (by decide) (by decide)
  have i1f4 : afield TT 49 (ep vt (1 * 20)) 4 = some (ep vt (1 * 20 + 4)) := hT.f4 (by decide)
  have i1kindf : afield TT 49 (ep vt (1 * 20)) 0 = some (ep vt (1 * 20 + 0)) := hT.f0 (by decide)
  have i1kindl : aload TT H7 3 (ep vt (1 * 20 + 0)) = some (.int .i64 3) := hT.kind (i := 1) (by decide)
  have i1k1 : aindex TT 47 (ep vt (1 * 20 + 4)) (.int .i64 1) = some (ep vt (1 * 20 + (4 + 1))) := hT.kidx (i := 1) (c := 1) (by decide) (by decide)
  have i1l1 : aload TT H7 3 (ep vt (1 * 20 + (4 + 1))) = some (.int .i64 2) := hT.kid (i := 1) (c := 1) (by decide) (by decide)
  have i1k2 : aindex TT 47 (ep vt (1 * 20 + 4)) (.int .i64 2) = some (ep vt (1 * 20 + (4 + 2))) := hT.kidx (i := 1) (c := 2) (by decide) (by decide)
  have i1l2 : aload TT H7 3 (ep vt (1 * 20 + (4 + 2))) = some (.int .i64 4) := hT.kid (i := 1) (c := 2) (by decide) (by decide)
  have i2 : aindex TT 24 vt (.int .i64 2) = some (ep vt (2 * 20)) := hT.index (by decide) (by decide)
  have i2f4 : afield TT 49 (ep vt (2 * 20)) 4 = some (ep vt (2 * 20 + 4)) := hT.f4 (by decide)
  have i2kindf : afield TT 49 (ep vt (2 * 20)) 0 = some (ep vt (2 * 20 + 0)) := hT.f0 (by decide)
  have i2kindl : aload TT H7 3 (ep vt (2 * 20 + 0)) = some (.int .i64 3) := hT.kind (i := 2) (by decide)
  have i2hasf : afield TT 49 (ep vt (2 * 20)) 2 = some (ep vt (2 * 20 + 2)) := hT.f2 (by decide)
  have i2hasl : aload TT H7 4 (ep vt (2 * 20 + 2)) = some (.bool true) := hT.has (i := 2) (by decide)
  have i2valuef : afield TT 49 (ep vt (2 * 20)) 3 = some (ep vt (2 * 20 + 3)) := hT.f3 (by decide)
  have i2valuel : aload TT H7 9 (ep vt (2 * 20 + 3)) = some (S [49]) := hT.value (i := 2) (by decide)
  have i2k6 : aindex TT 47 (ep vt (2 * 20 + 4)) (.int .i64 6) = some (ep vt (2 * 20 + (4 + 6))) := hT.kidx (i := 2) (c := 6) (by decide) (by decide)
  have i2l6 : aload TT H7 3 (ep vt (2 * 20 + (4 + 6))) = some (.int .i64 3) := hT.kid (i := 2) (c := 6) (by decide) (by decide)
  have i3 : aindex TT 24 vt (.int .i64 3) = some (ep vt (3 * 20)) := hT.index (by decide) (by decide)
  have i3pathf : afield TT 49 (ep vt (3 * 20)) 1 = some (ep vt (3 * 20 + 1)) := hT.f1 (by decide)
  have i3pathl : aload TT H7 9 (ep vt (3 * 20 + 1)) = some (S [2]) := hT.path (i := 3) (by decide)
  have i4 : aindex TT 24 vt (.int .i64 4) = some (ep vt (4 * 20)) := hT.index (by decide) (by decide)
  have i4kindf : afield TT 49 (ep vt (4 * 20)) 0 = some (ep vt (4 * 20 + 0)) := hT.f0 (by decide)
  have i4kindl : aload TT H7 3 (ep vt (4 * 20 + 0)) = some (.int .i64 1) := hT.kind (i := 4) (by decide)
  have i4pathf : afield TT 49 (ep vt (4 * 20)) 1 = some (ep vt (4 * 20 + 1)) := hT.f1 (by decide)
  have i4pathl : aload TT H7 9 (ep vt (4 * 20 + 1)) = some (S []) := hT.path (i := 4) (by decide)
  have p0 : alen TT 30 vp = some (.int .i64 5) := hP.alen
  have p1 : aindex TT 30 vp (.int .i64 3) = some (ep vp (3 * 1 + 0)) := hP.index (j := 3) (by decide)
  have p2 : aload TT H7 9 (ep vp (3 * 1 + 0)) = some (S [6, 1, 6]) := hP.load (i := 3) (by decide)
  have q0 : alen TT 22 vl = some (.int .i64 3) := hL.alen
  refine AC_seq ?_
  refine AC_regL ?_
  simp only [List.append_eq, List.cons_append, List.nil_append]
  refine AQ_take TT_ok 6 rfl (by simp only [go_sem, g1, g4, g5, g6, g7, g8, p0, p1, p2, q0, eq_self, decide_true, Bool.not_false, i0, i0f4, i0kindf, i0kindl, i0pathf, i0pathl, i0k0, i0l0, i1, i1f4, i1kindf, i1kindl, i1k1, i1l1, i1k2, i1l2, i2, i2f4, i2kindf, i2kindl, i2hasf, i2hasl, i2valuef, i2valuel, i2k6, i2l6, i3, i3pathf, i3pathl, i4, i4kindf, i4kindl, i4pathf, i4pathl] <;> rfl) ?_
  refine AQ_here ?_
  refine AQ_fix (fun e' => get e' 1 = vt ∧ get e' 4 = .bool false ∧ get e' 5 = vp ∧ get e' 6 = .bool true ∧ get e' 7 = vl ∧ get e' 8 = .bool true ∧ get e' 46 = .bool true) ⟨by simp only [go_sem, g1], by simp only [go_sem, g4], by simp only [go_sem, g5], by simp only [go_sem, g6], by simp only [go_sem, g7], by simp only [go_sem, g8], by simp only [go_sem]⟩ (fun e8 ⟨g1, g4, g5, g6, g7, g8, h46⟩ => ?_)
  refine AQ_take TT_ok 7 rfl (by simp only [go_sem, g1, g4, g5, g6, g7, g8, h46, p0, p1, p2, q0, eq_self, decide_true, Bool.not_false, i0, i0f4, i0kindf, i0kindl, i0pathf, i0pathl, i0k0, i0l0, i1, i1f4, i1kindf, i1kindl, i1k1, i1l1, i1k2, i1l2, i2, i2f4, i2kindf, i2kindl, i2hasf, i2hasl, i2valuef, i2valuel, i2k6, i2l6, i3, i3pathf, i3pathl, i4, i4kindf, i4kindl, i4pathf, i4pathl] <;> rfl) ?_
  refine AQ_here ?_
  refine AQ_fix (fun e' => get e' 1 = vt ∧ get e' 4 = .bool false ∧ get e' 5 = vp ∧ get e' 6 = .bool true ∧ get e' 7 = vl ∧ get e' 8 = .bool true ∧ get e' 53 = .bool true) ⟨by simp only [go_sem, g1], by simp only [go_sem, g4], by simp only [go_sem, g5], by simp only [go_sem, g6], by simp only [go_sem, g7], by simp only [go_sem, g8], by simp only [go_sem]⟩ (fun e9 ⟨g1, g4, g5, g6, g7, g8, h53⟩ => ?_)
  refine AQ_take TT_ok 8 rfl (by simp only [go_sem, g1, g4, g5, g6, g7, g8, h53, p0, p1, p2, q0, eq_self, decide_true, Bool.not_false, i0, i0f4, i0kindf, i0kindl, i0pathf, i0pathl, i0k0, i0l0, i1, i1f4, i1kindf, i1kindl, i1k1, i1l1, i1k2, i1l2, i2, i2f4, i2kindf, i2kindl, i2hasf, i2hasl, i2valuef, i2valuel, i2k6, i2l6, i3, i3pathf, i3pathl, i4, i4kindf, i4kindl, i4pathf, i4pathl] <;> rfl) ?_
  refine AQ_here ?_
  refine AQ_fix (fun e' => get e' 1 = vt ∧ get e' 4 = .bool false ∧ get e' 5 = vp ∧ get e' 6 = .bool true ∧ get e' 7 = vl ∧ get e' 8 = .bool true ∧ get e' 61 = .bool true) ⟨by simp only [go_sem, g1], by simp only [go_sem, g4], by simp only [go_sem, g5], by simp only [go_sem, g6], by simp only [go_sem, g7], by simp only [go_sem, g8], by simp only [go_sem]⟩ (fun e10 ⟨g1, g4, g5, g6, g7, g8, h61⟩ => ?_)
  refine AQ_take TT_ok 7 rfl (by simp only [go_sem, g1, g4, g5, g6, g7, g8, h61, p0, p1, p2, q0, eq_self, decide_true, Bool.not_false, i0, i0f4, i0kindf, i0kindl, i0pathf, i0pathl, i0k0, i0l0, i1, i1f4, i1kindf, i1kindl, i1k1, i1l1, i1k2, i1l2, i2, i2f4, i2kindf, i2kindl, i2hasf, i2hasl, i2valuef, i2valuel, i2k6, i2l6, i3, i3pathf, i3pathl, i4, i4kindf, i4kindl, i4pathf, i4pathl] <;> rfl) ?_
  refine AQ_here ?_
  refine AQ_fix (fun e' => get e' 1 = vt ∧ get e' 4 = .bool false ∧ get e' 5 = vp ∧ get e' 6 = .bool true ∧ get e' 7 = vl ∧ get e' 8 = .bool true ∧ get e' 68 = .bool true) ⟨by simp only [go_sem, g1], by simp only [go_sem, g4], by simp only [go_sem, g5], by simp only [go_sem, g6], by simp only [go_sem, g7], by simp only [go_sem, g8], by simp only [go_sem]⟩ (fun e11 ⟨g1, g4, g5, g6, g7, g8, h68⟩ => ?_)
  refine AQ_take TT_ok 8 rfl (by simp only [go_sem, g1, g4, g5, g6, g7, g8, h68, p0, p1, p2, q0, eq_self, decide_true, Bool.not_false, i0, i0f4, i0kindf, i0kindl, i0pathf, i0pathl, i0k0, i0l0, i1, i1f4, i1kindf, i1kindl, i1k1, i1l1, i1k2, i1l2, i2, i2f4, i2kindf, i2kindl, i2hasf, i2hasl, i2valuef, i2valuel, i2k6, i2l6, i3, i3pathf, i3pathl, i4, i4kindf, i4kindl, i4pathf, i4pathl] <;> rfl) ?_
  refine AQ_here ?_
  refine AQ_fix (fun e' => get e' 1 = vt ∧ get e' 4 = .bool false ∧ get e' 5 = vp ∧ get e' 6 = .bool true ∧ get e' 7 = vl ∧ get e' 8 = .bool true ∧ get e' 76 = .bool true) ⟨by simp only [go_sem, g1], by simp only [go_sem, g4], by simp only [go_sem, g5], by simp only [go_sem, g6], by simp only [go_sem, g7], by simp only [go_sem, g8], by simp only [go_sem]⟩ (fun e12 ⟨g1, g4, g5, g6, g7, g8, h76⟩ => ?_)
  refine AQ_take TT_ok 8 rfl (by simp only [go_sem, g1, g4, g5, g6, g7, g8, h76, p0, p1, p2, q0, eq_self, decide_true, Bool.not_false, i0, i0f4, i0kindf, i0kindl, i0pathf, i0pathl, i0k0, i0l0, i1, i1f4, i1kindf, i1kindl, i1k1, i1l1, i1k2, i1l2, i2, i2f4, i2kindf, i2kindl, i2hasf, i2hasl, i2valuef, i2valuel, i2k6, i2l6, i3, i3pathf, i3pathl, i4, i4kindf, i4kindl, i4pathf, i4pathl] <;> rfl) ?_
  refine AQ_here ?_
  refine AQ_fix (fun e' => get e' 1 = vt ∧ get e' 4 = .bool false ∧ get e' 5 = vp ∧ get e' 6 = .bool true ∧ get e' 7 = vl ∧ get e' 8 = .bool true ∧ get e' 84 = .bool true) ⟨by simp only [go_sem, g1], by simp only [go_sem, g4], by simp only [go_sem, g5], by simp only [go_sem, g6], by simp only [go_sem, g7], by simp only [go_sem, g8], by simp only [go_sem]⟩ (fun e13 ⟨g1, g4, g5, g6, g7, g8, h84⟩ => ?_)
  refine AQ_take TT_ok 7 rfl (by simp only [go_sem, g1, g4, g5, g6, g7, g8, h84, p0, p1, p2, q0, eq_self, decide_true, Bool.not_false, i0, i0f4, i0kindf, i0kindl, i0pathf, i0pathl, i0k0, i0l0, i1, i1f4, i1kindf, i1kindl, i1k1, i1l1, i1k2, i1l2, i2, i2f4, i2kindf, i2kindl, i2hasf, i2hasl, i2valuef, i2valuel, i2k6, i2l6, i3, i3pathf, i3pathl, i4, i4kindf, i4kindl, i4pathf, i4pathl] <;> rfl) ?_
  refine AQ_here ?_
  refine AQ_fix (fun e' => get e' 1 = vt ∧ get e' 4 = .bool false ∧ get e' 5 = vp ∧ get e' 6 = .bool true ∧ get e' 7 = vl ∧ get e' 8 = .bool true ∧ get e' 91 = .bool true) ⟨by simp only [go_sem, g1], by simp only [go_sem, g4], by simp only [go_sem, g5], by simp only [go_sem, g6], by simp only [go_sem, g7], by simp only [go_sem, g8], by simp only [go_sem]⟩ (fun e14 ⟨g1, g4, g5, g6, g7, g8, h91⟩ => ?_)
  refine AQ_take TT_ok 6 rfl (by simp only [go_sem, g1, g4, g5, g6, g7, g8, h91, p0, p1, p2, q0, eq_self, decide_true, Bool.not_false, i0, i0f4, i0kindf, i0kindl, i0pathf, i0pathl, i0k0, i0l0, i1, i1f4, i1kindf, i1kindl, i1k1, i1l1, i1k2, i1l2, i2, i2f4, i2kindf, i2kindl, i2hasf, i2hasl, i2valuef, i2valuel, i2k6, i2l6, i3, i3pathf, i3pathl, i4, i4kindf, i4kindl, i4pathf, i4pathl] <;> rfl) ?_
  refine AQ_here ?_
  refine AQ_fix (fun e' => get e' 1 = vt ∧ get e' 4 = .bool false ∧ get e' 5 = vp ∧ get e' 6 = .bool true ∧ get e' 7 = vl ∧ get e' 8 = .bool true ∧ get e' 97 = .bool true) ⟨by simp only [go_sem, g1], by simp only [go_sem, g4], by simp only [go_sem, g5], by simp only [go_sem, g6], by simp only [go_sem, g7], by simp only [go_sem, g8], by simp only [go_sem]⟩ (fun e15 ⟨g1, g4, g5, g6, g7, g8, h97⟩ => ?_)
  refine AQ_take TT_ok 7 rfl (by simp only [go_sem, g1, g4, g5, g6, g7, g8, h97, p0, p1, p2, q0, eq_self, decide_true, Bool.not_false, i0, i0f4, i0kindf, i0kindl, i0pathf, i0pathl, i0k0, i0l0, i1, i1f4, i1kindf, i1kindl, i1k1, i1l1, i1k2, i1l2, i2, i2f4, i2kindf, i2kindl, i2hasf, i2hasl, i2valuef, i2valuel, i2k6, i2l6, i3, i3pathf, i3pathl, i4, i4kindf, i4kindl, i4pathf, i4pathl] <;> rfl) ?_
  refine AQ_here ?_
  refine AQ_fix (fun e' => get e' 1 = vt ∧ get e' 4 = .bool false ∧ get e' 5 = vp ∧ get e' 6 = .bool true ∧ get e' 7 = vl ∧ get e' 8 = .bool true ∧ get e' 104 = .bool true) ⟨by simp only [go_sem, g1], by simp only [go_sem, g4], by simp only [go_sem, g5], by simp only [go_sem, g6], by simp only [go_sem, g7], by simp only [go_sem, g8], by simp only [go_sem]⟩ (fun e16 ⟨g1, g4, g5, g6, g7, g8, h104⟩ => ?_)
  refine AQ_take TT_ok 8 rfl (by simp only [go_sem, g1, g4, g5, g6, g7, g8, h104, p0, p1, p2, q0, eq_self, decide_true, Bool.not_false, i0, i0f4, i0kindf, i0kindl, i0pathf, i0pathl, i0k0, i0l0, i1, i1f4, i1kindf, i1kindl, i1k1, i1l1, i1k2, i1l2, i2, i2f4, i2kindf, i2kindl, i2hasf, i2hasl, i2valuef, i2valuel, i2k6, i2l6, i3, i3pathf, i3pathl, i4, i4kindf, i4kindl, i4pathf, i4pathl] <;> rfl) ?_
  refine AQ_here ?_
  refine AQ_fix (fun e' => get e' 1 = vt ∧ get e' 4 = .bool false ∧ get e' 5 = vp ∧ get e' 6 = .bool true ∧ get e' 7 = vl ∧ get e' 8 = .bool true ∧ get e' 112 = .bool true) ⟨by simp only [go_sem, g1], by simp only [go_sem, g4], by simp only [go_sem, g5], by simp only [go_sem, g6], by simp only [go_sem, g7], by simp only [go_sem, g8], by simp only [go_sem]⟩ (fun e17 ⟨g1, g4, g5, g6, g7, g8, h112⟩ => ?_)
  refine AQ_take TT_ok 7 rfl (by simp only [go_sem, g1, g4, g5, g6, g7, g8, h112, p0, p1, p2, q0, eq_self, decide_true, Bool.not_false, i0, i0f4, i0kindf, i0kindl, i0pathf, i0pathl, i0k0, i0l0, i1, i1f4, i1kindf, i1kindl, i1k1, i1l1, i1k2, i1l2, i2, i2f4, i2kindf, i2kindl, i2hasf, i2hasl, i2valuef, i2valuel, i2k6, i2l6, i3, i3pathf, i3pathl, i4, i4kindf, i4kindl, i4pathf, i4pathl] <;> rfl) ?_
  refine AQ_here ?_
  refine AQ_fix (fun e' => get e' 1 = vt ∧ get e' 4 = .bool false ∧ get e' 5 = vp ∧ get e' 6 = .bool true ∧ get e' 7 = vl ∧ get e' 8 = .bool true ∧ get e' 119 = .bool true) ⟨by simp only [go_sem, g1], by simp only [go_sem, g4], by simp only [go_sem, g5], by simp only [go_sem, g6], by simp only [go_sem, g7], by simp only [go_sem, g8], by simp only [go_sem]⟩ (fun e18 ⟨g1, g4, g5, g6, g7, g8, h119⟩ => ?_)
  refine AQ_take TT_ok 7 rfl (by simp only [go_sem, g1, g4, g5, g6, g7, g8, h119, p0, p1, p2, q0, eq_self, decide_true, Bool.not_false, i0, i0f4, i0kindf, i0kindl, i0pathf, i0pathl, i0k0, i0l0, i1, i1f4, i1kindf, i1kindl, i1k1, i1l1, i1k2, i1l2, i2, i2f4, i2kindf, i2kindl, i2hasf, i2hasl, i2valuef, i2valuel, i2k6, i2l6, i3, i3pathf, i3pathl, i4, i4kindf, i4kindl, i4pathf, i4pathl] <;> rfl) ?_
  refine AQ_here ?_
  refine AQ_fix (fun e' => get e' 1 = vt ∧ get e' 4 = .bool false ∧ get e' 5 = vp ∧ get e' 6 = .bool true ∧ get e' 7 = vl ∧ get e' 8 = .bool true ∧ get e' 126 = .bool true) ⟨by simp only [go_sem, g1], by simp only [go_sem, g4], by simp only [go_sem, g5], by simp only [go_sem, g6], by simp only [go_sem, g7], by simp only [go_sem, g8], by simp only [go_sem]⟩ (fun e19 ⟨g1, g4, g5, g6, g7, g8, h126⟩ => ?_)
  refine AQ_take TT_ok 7 rfl (by simp only [go_sem, g1, g4, g5, g6, g7, g8, h126, p0, p1, p2, q0, eq_self, decide_true, Bool.not_false, i0, i0f4, i0kindf, i0kindl, i0pathf, i0pathl, i0k0, i0l0, i1, i1f4, i1kindf, i1kindl, i1k1, i1l1, i1k2, i1l2, i2, i2f4, i2kindf, i2kindl, i2hasf, i2hasl, i2valuef, i2valuel, i2k6, i2l6, i3, i3pathf, i3pathl, i4, i4kindf, i4kindl, i4pathf, i4pathl] <;> rfl) ?_
  refine AQ_here ?_
  refine AQ_fix (fun e' => get e' 1 = vt ∧ get e' 4 = .bool false ∧ get e' 5 = vp ∧ get e' 6 = .bool true ∧ get e' 7 = vl ∧ get e' 8 = .bool true ∧ get e' 133 = .bool true) ⟨by simp only [go_sem, g1], by simp only [go_sem, g4], by simp only [go_sem, g5], by simp only [go_sem, g6], by simp only [go_sem, g7], by simp only [go_sem, g8], by simp only [go_sem]⟩ (fun e20 ⟨g1, g4, g5, g6, g7, g8, h133⟩ => ?_)
  refine AQ_take TT_ok 4 rfl (by simp only [go_sem, g1, g4, g5, g6, g7, g8, h133, p0, p1, p2, q0, eq_self, decide_true, Bool.not_false, i0, i0f4, i0kindf, i0kindl, i0pathf, i0pathl, i0k0, i0l0, i1, i1f4, i1kindf, i1kindl, i1k1, i1l1, i1k2, i1l2, i2, i2f4, i2kindf, i2kindl, i2hasf, i2hasl, i2valuef, i2valuel, i2k6, i2l6, i3, i3pathf, i3pathl, i4, i4kindf, i4kindl, i4pathf, i4pathl] <;> rfl) ?_
  refine AQ_here ?_
  refine AQ_fix (fun e' => get e' 1 = vt ∧ get e' 4 = .bool false ∧ get e' 5 = vp ∧ get e' 6 = .bool true ∧ get e' 7 = vl ∧ get e' 8 = .bool true ∧ get e' 137 = .bool true) ⟨by simp only [go_sem, g1], by simp only [go_sem, g4], by simp only [go_sem, g5], by simp only [go_sem, g6], by simp only [go_sem, g7], by simp only [go_sem, g8], by simp only [go_sem]⟩ (fun e21 ⟨g1, g4, g5, g6, g7, g8, h137⟩ => ?_)
  refine AQ_take TT_ok 3 rfl (by simp only [go_sem, g1, g4, g5, g6, g7, g8, h137, p0, p1, p2, q0, eq_self, decide_true, Bool.not_false, i0, i0f4, i0kindf, i0kindl, i0pathf, i0pathl, i0k0, i0l0, i1, i1f4, i1kindf, i1kindl, i1k1, i1l1, i1k2, i1l2, i2, i2f4, i2kindf, i2kindl, i2hasf, i2hasl, i2valuef, i2valuel, i2k6, i2l6, i3, i3pathf, i3pathl, i4, i4kindf, i4kindl, i4pathf, i4pathl] <;> rfl) ?_
  refine AQ_here ?_
  refine AQ_fix (fun e' => get e' 1 = vt ∧ get e' 4 = .bool false ∧ get e' 5 = vp ∧ get e' 6 = .bool true ∧ get e' 7 = vl ∧ get e' 8 = .bool true ∧ get e' 140 = .bool true) ⟨by simp only [go_sem, g1], by simp only [go_sem, g4], by simp only [go_sem, g5], by simp only [go_sem, g6], by simp only [go_sem, g7], by simp only [go_sem, g8], by simp only [go_sem]⟩ (fun e22 ⟨g1, g4, g5, g6, g7, g8, h140⟩ => ?_)
  refine AQ_take TT_ok 5 rfl (by simp only [go_sem, g1, g4, g5, g6, g7, g8, h140, p0, p1, p2, q0, eq_self, decide_true, Bool.not_false, i0, i0f4, i0kindf, i0kindl, i0pathf, i0pathl, i0k0, i0l0, i1, i1f4, i1kindf, i1kindl, i1k1, i1l1, i1k2, i1l2, i2, i2f4, i2kindf, i2kindl, i2hasf, i2hasl, i2valuef, i2valuel, i2k6, i2l6, i3, i3pathf, i3pathl, i4, i4kindf, i4kindl, i4pathf, i4pathl] <;> rfl) ?_
  refine AQ_here ?_
  refine AQ_fix (fun e' => get e' 1 = vt ∧ get e' 4 = .bool false ∧ get e' 5 = vp ∧ get e' 6 = .bool true ∧ get e' 7 = vl ∧ get e' 8 = .bool true ∧ get e' 145 = .bool true) ⟨by simp only [go_sem, g1], by simp only [go_sem, g4], by simp only [go_sem, g5], by simp only [go_sem, g6], by simp only [go_sem, g7], by simp only [go_sem, g8], by simp only [go_sem]⟩ (fun e23 ⟨g1, g4, g5, g6, g7, g8, h145⟩ => ?_)
  refine AQ_take TT_ok 6 rfl (by simp only [go_sem, g1, g4, g5, g6, g7, g8, h145, p0, p1, p2, q0, eq_self, decide_true, Bool.not_false, i0, i0f4, i0kindf, i0kindl, i0pathf, i0pathl, i0k0, i0l0, i1, i1f4, i1kindf, i1kindl, i1k1, i1l1, i1k2, i1l2, i2, i2f4, i2kindf, i2kindl, i2hasf, i2hasl, i2valuef, i2valuel, i2k6, i2l6, i3, i3pathf, i3pathl, i4, i4kindf, i4kindl, i4pathf, i4pathl] <;> rfl) ?_
  refine AQ_here ?_
  refine AQ_fix (fun e' => get e' 1 = vt ∧ get e' 4 = .bool false ∧ get e' 5 = vp ∧ get e' 6 = .bool true ∧ get e' 7 = vl ∧ get e' 8 = .bool true ∧ get e' 151 = .bool true) ⟨by simp only [go_sem, g1], by simp only [go_sem, g4], by simp only [go_sem, g5], by simp only [go_sem, g6], by simp only [go_sem, g7], by simp only [go_sem, g8], by simp only [go_sem]⟩ (fun e24 ⟨g1, g4, g5, g6, g7, g8, h151⟩ => ?_)
  refine AQ_take TT_ok 3 rfl (by simp only [go_sem, g1, g4, g5, g6, g7, g8, h151, p0, p1, p2, q0, eq_self, decide_true, Bool.not_false, i0, i0f4, i0kindf, i0kindl, i0pathf, i0pathl, i0k0, i0l0, i1, i1f4, i1kindf, i1kindl, i1k1, i1l1, i1k2, i1l2, i2, i2f4, i2kindf, i2kindl, i2hasf, i2hasl, i2valuef, i2valuel, i2k6, i2l6, i3, i3pathf, i3pathl, i4, i4kindf, i4kindl, i4pathf, i4pathl] <;> rfl) ?_
  refine AQ_here ?_
  refine AQ_fix (fun e' => get e' 1 = vt ∧ get e' 4 = .bool false ∧ get e' 5 = vp ∧ get e' 6 = .bool true ∧ get e' 7 = vl ∧ get e' 8 = .bool true ∧ get e' 154 = .bool true) ⟨by simp only [go_sem, g1], by simp only [go_sem, g4], by simp only [go_sem, g5], by simp only [go_sem, g6], by simp only [go_sem, g7], by simp only [go_sem, g8], by simp only [go_sem]⟩ (fun e25 ⟨g1, g4, g5, g6, g7, g8, h154⟩ => ?_)
  refine AQ_take TT_ok 5 rfl (by simp only [go_sem, g1, g4, g5, g6, g7, g8, h154, p0, p1, p2, q0, eq_self, decide_true, Bool.not_false, i0, i0f4, i0kindf, i0kindl, i0pathf, i0pathl, i0k0, i0l0, i1, i1f4, i1kindf, i1kindl, i1k1, i1l1, i1k2, i1l2, i2, i2f4, i2kindf, i2kindl, i2hasf, i2hasl, i2valuef, i2valuel, i2k6, i2l6, i3, i3pathf, i3pathl, i4, i4kindf, i4kindl, i4pathf, i4pathl] <;> rfl) ?_
  refine AQ_here ?_
  refine AQ_fix (fun e' => get e' 1 = vt ∧ get e' 4 = .bool false ∧ get e' 5 = vp ∧ get e' 6 = .bool true ∧ get e' 7 = vl ∧ get e' 8 = .bool true ∧ get e' 159 = .bool true) ⟨by simp only [go_sem, g1], by simp only [go_sem, g4], by simp only [go_sem, g5], by simp only [go_sem, g6], by simp only [go_sem, g7], by simp only [go_sem, g8], by simp only [go_sem]⟩ (fun e26 ⟨g1, g4, g5, g6, g7, g8, h159⟩ => ?_)
  refine AQ_take TT_ok 1 rfl (by simp only [go_sem, g1, h159] <;> rfl) ?_
  refine AQ_c (awant_t (dst := 159) rfl (by simp only [go_sem, h159]) rfl) (by simp only [go_sem] <;> rfl) fok37 (by simp only [List.map_cons, List.map_nil, List.append_nil, go_sem] <;> rfl) (c37 hT (by decide) hnl) (fun _ _ h => h.elim) (.inl rfl) fun r H8 hX8 hr => ?_
  subst hr
  have hT8 := hT.keep hX8
  refine AQ_take TT_ok 2 rfl (by simp only [go_sem, di, h159] <;> rfl) ?_
  refine AQ_c (awant_t (dst := 163) rfl (by simp only [go_sem, di, h159]) rfl) (by simp only [go_sem] <;> rfl) fok37 (by simp only [List.map_cons, List.map_nil, List.append_nil, go_sem] <;> rfl) (c37 (t := []) (vt := .slice none 0 0) (.inl ⟨rfl, rfl, rfl⟩) (by decide) (by simp)) (fun _ _ h => h.elim) (.inl rfl) fun r H9 hX9 hr => ?_
  subst hr
  have hT9 := hT8.keep hX9
  obtain ⟨vd, _, hd1, _, hdS, _⟩ := Sl.part Nd.len hT9 (t := 24) TT_24 rfl TT_49 rfl (by decide) (lo := 1) (hi := wt.length) (by decide) (Nat.le_refl _)
  have hd : aslice TT 24 vt (some (.int .i64 1)) none = some vd := hd1 rfl .i64
  have hdS' : NdS H9 vd (wt.drop 1) := hdS
  refine AQ_take TT_ok 4 rfl (by simp only [go_sem, g1, dn, hd, h159] <;> rfl) ?_
  refine AQ_c (awant_t (dst := 166) rfl (by simp only [go_sem, dn]) rfl) (by simp only [go_sem] <;> rfl) fok37 (by simp only [List.map_cons, List.map_nil, List.append_nil, go_sem] <;> rfl) (c37 hdS' (by decide) (by decide)) (fun _ _ h => h.elim) (.inl rfl) fun r H10 hX10 hr => ?_
  subst hr
  refine AQ_all TT_ok rfl (by simp only [go_sem, dd, Bool.not_false] <;> rfl) ?_
  exact AC_ret ⟨.inl rfl, _, rfl, by simp only [go_sem]⟩
end Go.Proofs.Ythalogdopkoidaa.Ab
