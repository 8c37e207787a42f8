/- Contract: umbelref10.Build. No statement of the seat's in it. -/
import Derived.Test.YthalogdopkoidaaC17
set_option linter.unusedVariables false
set_option linter.unusedSimpArgs false
namespace Go.Proofs.Ythalogdopkoidaa.Ab
open Go Go.RowKit

theorem b101 {v : Value} (h : One v) : abuild TT 101 [(0, v)] = some (.agg #[v, .slice none 0 0, .slice none 0 0, .slice none 0 0]) := by
  have hs : v.cells.size = 1 := by rw [h.cells]; rfl
  simp only [abuild, TT_101]
  rw [if_pos (by decide)]
  simp only [afill, placeOf]
  simp only [List.getElem?_cons_zero, TT_22, Option.map_some]
  rw [if_pos ⟨h.known, hs, by decide⟩, h.cells]
  rfl
theorem bz32 : abuild TT 32 [] = some (.agg #[.slice none 0 0, .slice none 0 0, .bool false]) := rfl
theorem b32 {a b : Value} (ha : One a) (hb : One b) : abuild TT 32 [(0, a), (1, b), (2, .bool true)] = some (.agg #[a, b, .bool true]) := by
  have h1 : a.cells.size = 1 := by rw [ha.cells]; rfl
  have h2 : b.cells.size = 1 := by rw [hb.cells]; rfl
  simp only [abuild, TT_32]
  rw [if_pos (by decide)]
  simp only [afill, placeOf]
  simp only [List.getElem?_cons_zero, List.getElem?_cons_succ, TT_24, TT_30, TT_4, Option.map_some]
  rw [if_pos ⟨ha.known, h1, by decide⟩, ha.cells]
  dsimp only
  rw [if_pos ⟨hb.known, h2, by show 1 + 1 ≤ 3; decide⟩, hb.cells]
  rfl
theorem ap32 (a b c : Value) : apart TT 32 [a, b, c] 0 = some (.agg #[a, b, c]) := by
  unfold apart; rw [TT_32]; rfl
theorem Lay.three {a b c : Value} (ha : One a) (hb : One b) (hc : One c) : Lay (.agg #[a, b, c]) [a, b, c] := Lay.agg (l := [a, b, c]) (fun v hv => by
  simp only [List.mem_cons, List.not_mem_nil, or_false] at hv
  rcases hv with rfl | rfl | rfl <;> assumption)


set_option maxHeartbeats 4000000 in
theorem c30 {H : AHeap} {vl : Value} {ps : List Pr} (hS : PrS H vl ps) (hl : ps.length < 2^20) : ACalls Try.prog 30 [vl] H (fun _ => False) fun v H' =>
    ∃ vt vp, v = .agg #[vt, vp, .bool (decide (May ps))] ∧ NdB H' vt (if May ps then build ps else []) ∧ StB H' vp (if May ps then paths ps else []) ∧ (∀ j, vid vt = some j → H.length ≤ j) ∧ ∀ j, vid vp = some j → H.length ≤ j := by
  refine ACalls_by 49 TT_ok Try.func30 rfl rfl rfl (by simp) ?_
  refine AC_seq ?_
  refine AC_regL ?_
  refine AQ_alloc TT_ok TT_32 rfl fun H1 hX1 hO1 hL1 => ?_
  refine AQ_nil ?_
  have hS1 := hS.keep hX1
  refine AC_cut (fun e' H' => H' = H1 ∧ May ps ∧ get e' 0 = vl ∧ get e' 2 = .pointer (some ⟨H.length, 0, none⟩)) ?_ (fun e2 H2 _ ⟨hH, hm, g0, g2⟩ => ?_)
  · refine AC_seq ?_
    refine AC_regL ?_
    refine AQ_take TT_ok 1 rfl (by simp only [go_sem] <;> rfl) ?_
    refine AQ_c rfl (by simp only [go_sem] <;> rfl) fok39 (by simp only [List.map_cons, List.map_nil, List.append_nil, go_sem] <;> rfl) (c39 hS1 (by omega)) (fun _ _ h => h.elim) (.inl rfl) fun r H2 hX2 ⟨hr, hH⟩ => ?_
    subst hr hH
    refine AQ_all TT_ok rfl (by simp only [go_sem] <;> rfl) ?_
    by_cases hm : May ps
    · have hd : decide (May ps) = true := decide_eq_true hm
      refine AC_f (by simp only [go_sem] <;> rfl) (by rw [hd]; rfl) ?_
      exact AC_skip ⟨rfl, hm, by simp only [go_sem], by simp only [go_sem]⟩
    · have hd : decide (May ps) = false := decide_eq_false hm
      refine AC_t (by simp only [go_sem] <;> rfl) (by rw [hd]; rfl) ?_
      refine AC_seq ?_
      refine AC_regL ?_
      refine AQ_take TT_ok 1 rfl (by simp only [go_sem, List.map_nil, bz32] <;> rfl) ?_
      refine AQ_store TT_ok TT_32 rfl (by simp only [go_sem] <;> rfl) (by simp only [go_sem] <;> rfl) (Lay.three (One.slice _ _ _) (One.slice _ _ _) (One.bool _)) rfl hO1 (by decide) (.inl (Nat.le_refl _)) (.inl rfl) fun H3 hX3 hO3 hL3 => ?_
      refine AQ_nil ?_
      refine AC_ret ⟨.inl rfl, .agg #[.slice none 0 0, .slice none 0 0, .bool false], ?_, .slice none 0 0, .slice none 0 0, by rw [hd], ?_, ?_, fun j hj => (by cases hj), fun j hj => (by cases hj)⟩
      · show ares TT H3 _ [.cell 2 32] = _
        have hO3' : Ob H3 H.length 32 [.slice none 0 0, .slice none 0 0, .bool false] := hO3
        simp only [ares, List.mapM_cons, List.mapM_nil, ares1, go_sem, hO3'.load, ap32]
        rfl
      · rw [if_neg hm]; exact Buf.nil _ _
      · rw [if_neg hm]; exact Buf.nil _ _
  subst hH
  have hd : decide (May ps) = true := decide_eq_true hm
  refine AC_seq ?_
  refine AC_regL ?_
  refine AQ_take TT_ok 2 rfl (by simp only [go_sem, g0, List.map_cons, List.map_nil, b101 hS.one] <;> rfl) ?_
  have hlay : Lay (.agg #[vl, .slice none 0 0, .slice none 0 0, .slice none 0 0]) [vl, .slice none 0 0, .slice none 0 0, .slice none 0 0] := Lay.agg (l := [vl, .slice none 0 0, .slice none 0 0, .slice none 0 0]) (fun v hv => by
    simp only [List.mem_cons, List.not_mem_nil, or_false] at hv
    rcases hv with rfl | rfl | rfl | rfl
    · exact hS.one
    · exact One.slice _ _ _
    · exact One.slice _ _ _
    · exact One.slice _ _ _)
  refine AQ_box TT_ok TT_101 rfl (by simp only [go_sem] <;> rfl) hlay rfl fun H3 hX3 hO3 hL3 => ?_
  refine AQ_all TT_ok rfl (by simp only [go_sem] <;> rfl) ?_
  have hvl : ∀ j, vid vl = some j → j < H.length := fun j hj => hS.vid_lt hj
  have hX13 := hX1.trans hX3
  have hR3 := hO1.keep hX3
  refine AC_cut (fun e' H' => ∃ vn, Ob H' H2.length 101 [vl, vn, .slice none 0 0, .slice none 0 0] ∧ StB H' vn (nks ps) ∧ (∀ j, vid vn = some j → H2.length < j) ∧ AExt (fun _ => False) H H' ∧ Ob H' H.length 32 [.slice none 0 0, .slice none 0 0, .bool false] ∧ get e' 0 = vl ∧ get e' 2 = .pointer (some ⟨H.length, 0, none⟩) ∧ get e' 3 = .pointer (some ⟨H2.length, 0, none⟩)) ?_ (fun e4 H4 _ ⟨vn, hO4, hN4, hv4, hX4, hR4, g0, g2, g3⟩ => ?_)
  · refine AC_seqQ TT_ok (by simp only [go_sem] <;> rfl) ?_
    refine AC_block (AC_loop (fun n e' H' => ∃ (i : Nat) (vn : Value), n = ps.length - i ∧ i ≤ ps.length ∧ Ob H' H2.length 101 [vl, vn, .slice none 0 0, .slice none 0 0] ∧ StB H' vn ((nks ps).take i) ∧ (∀ j, vid vn = some j → H2.length < j) ∧ AExt (fun _ => False) H H' ∧ Ob H' H.length 32 [.slice none 0 0, .slice none 0 0, .bool false] ∧ get e' 0 = vl ∧ get e' 2 = .pointer (some ⟨H.length, 0, none⟩) ∧ get e' 3 = .pointer (some ⟨H2.length, 0, none⟩) ∧ get e' 4 = .int .i64 (i : Nat)) ps.length
      ⟨0, .slice none 0 0, by simp, by simp, hO3, Buf.nil _ _, fun j hj => (by cases hj), hX13, hR3, by simp only [go_sem, g0], by simp only [go_sem, g2], by simp only [go_sem], by simp only [go_sem] <;> simp⟩ ?_)
    rintro n E H4 _ ⟨i, vn, hn, hi, hO4, hN4, hv4, hX4, hR4, g0, g2, g3, g4⟩
    have hS4 := hS.keep hX4
    refine AC_seq ?_
    refine AC_seqQ TT_ok (by simp only [go_sem, g0, g4, hS4.alen] <;> rfl) ?_
    by_cases hi' : i < ps.length
    · refine AC_t (by simp only [go_sem] <;> rfl) (lt_dec hi') ?_
      refine AC_skip ?_
      refine AC_seq (AC_block ?_)
      have k5 := wrapN i (by omega)
      have hkey := (hm.1 _ (List.getElem_mem hi')).2.1
      have s4 := hX4.size
      have hl4 := hO4.lt
      have hvn1 : ¬ vid vn = some H2.length := fun h => Nat.lt_irrefl _ (hv4 _ h)
      have oM := hO4.ext (msk_ext H4 vn) hvn1
      have sM : PrS (msk H4 vn) vl ps := hS4.ext (msk_ext H4 vn) fun j hj hv h => by have := hvl j hv; have := hv4 j h; omega
      have l1 := sM.index (k := .i64) (j := (i : Int)) (by omega) (by omega)
      rw [Int.toNat_natCast] at l1
      have l2 := sM.f0 hi'
      have l3 := sM.key hi'
      refine AC_drawG (fun j => vid vn = some j) (msk H4 vn) [15] [(0, true), (1, true), (2, true), (3, true), (4, true), (5, true), (6, true), (7, true), (8, true), (9, true), (10, false), (11, false), (12, false), (13, true), (14, true), (15, false)] mixed (by kernel_rfl) (Buf.live hN4) (fun j o h => msk_live h) (Nat.le_of_eq (msk_len _ _)) ?_
      refine AG_sel (σ := [(10, false), (11, false), (12, false), (13, true), (14, true), (15, false)]) TT_ok [0, 1, 2, 3, 4, 5, 6, 7, 8, 9] _ (by simp only [go_sem, g0, g3, g4, anil_ptr, f101 _ 1 (by decide), oM.load, ap4_1 _ _ _ _ 30 rfl, l1, l2, l3] <;> rfl) ?_
      refine AG_c rfl rfl (by simp only [go_sem] <;> rfl) fok55 (by simp only [List.map_cons, List.map_nil, List.append_nil, go_sem] <;> rfl) (c55 (a := ps[i].key) (by omega)) fun v H5 hX5 hv => ?_
      subst hv
      refine AG_lit TT_ok [S (nib ps[i].key)] rfl TT_30 rfl TT_9 rfl (by decide) rfl (by decide) rfl (by simp only [List.map_cons, List.map_nil, go_sem, numbered]) (fun v hv => ?_) fun H6 hX6 hO6 hL6 => ?_
      · rw [List.mem_singleton] at hv; subst hv; exact ⟨_, (One.str _).lay, rfl⟩
      have hX56 := hX5.trans hX6
      have hil : ((nks ps).take i).length = i := by rw [List.length_take, nks_length]; omega
      have s2 : H2.length = H.length + 1 := hL1
      refine AG_append TT_ok (v := vn) (n := ((nks ps).take i).length) (m := 1) rfl TT_30 rfl TT_9 (by decide) (by decide) rfl (by simp only [go_sem]) (by simp only [go_sem]) (Buf.keep hN4 hX56) hO6.sl (rows_length sCell_len _) rfl (by rw [hil]; simp; omega) (fun j hj => .inl (by have := hv4 j hj; omega)) (fun j _ hj => hj) fun v' H7 hX7 hB7 hv7 => ?_
      have hB7' : StB H7 v' ((nks ps).take (i + 1)) := by
        have e : ((nks ps).take i).flatMap sCell ++ ([S (nib ps[i].key)] : List Value).flatMap (fun v => v.cells.toList) = ((nks ps).take (i + 1)).flatMap sCell := by
          rw [tk (by rw [nks_length]; exact hi'), List.flatMap_append]
          simp only [nks, List.getElem_map]
          rfl
        rw [e] at hB7
        have el : ((nks ps).take (i + 1)).length = ((nks ps).take i).length + 1 := by rw [hil, List.length_take, nks_length]; omega
        rw [StB, el]; exact hB7
      have hv7' : ∀ j, vid v' = some j → H6.length ≤ j := fun j hj => by
        rcases hv7 j hj with h | h
        · exact h
        · cases h.1
      have hO7 : Ob H7 H2.length 101 [vl, vn, .slice none 0 0, .slice none 0 0] := (hO4.keep hX56).ext hX7 hvn1
      refine AG_sel (σ := [(15, false)]) TT_ok [13, 14] _ (by simp only [go_sem, anil_ptr, f101 _ 1 (by decide)] <;> rfl) ?_
      refine AG_store TT_ok rfl TT_30 rfl (by simp only [go_sem] <;> rfl) (by simp only [go_sem] <;> rfl) hB7'.sl.one.lay rfl hO7 (by simp) (.inl (by omega)) rfl fun H8 hX8 hO8 hL8 => ?_
      refine AG_nil ?_
      refine AC_quiet TT_ok (by simp only [go_sem, g4, k5] <;> rfl) ?_
      have s5 := hX56.size
      have s7 := hX7.size
      refine ⟨ps.length - (i + 1), by omega, i + 1, v', rfl, by omega, hO8, Buf.ext hB7' hX8 (fun j hj h => ?_), fun j hj => ?_, ?_, ((hR4.keep hX56).ext hX7 (fun h => ?_)).ext hX8 (by omega), by simp only [go_sem, g0], by simp only [go_sem, g2], by simp only [go_sem, g3], by simp only [go_sem]⟩
      · have := hv7' j hj; omega
      · have := hv7' j hj; omega
      · refine ⟨by have := hX8.size; omega, fun j hj _ => ?_⟩
        rw [hX8.obj j (by omega) (by omega), hX7.obj j (by omega) (fun h => by have := hv4 j h; omega), hX56.obj j (by omega) id, hX4.obj j hj id]
      · have := hv4 _ h; omega
    · refine AC_f (by simp only [go_sem] <;> rfl) (ge_dec (by omega)) ?_
      refine AC_exit ⟨vn, hO4, ?_, hv4, hX4, hR4, by simp only [go_sem, g0], by simp only [go_sem, g2], by simp only [go_sem, g3]⟩
      rwa [List.take_of_length_le (by rw [nks_length]; omega)] at hN4
  have hS4 := hS.keep hX4
  have s4 := hX4.size
  have s2 : H2.length = H.length + 1 := hL1
  have hM4 : MS H4 H2.length vl vn (.slice none 0 0) (.slice none 0 0) ps [] [] := ⟨hO4, hS4, hN4.sl, Buf.nil _ _, Buf.nil _ _, fun j hj => (by cases hj), fun j hj => (by cases hj), fun h => by have := hvl _ h; omega, fun h => by have := hv4 _ h; omega⟩
  refine AC_cut (fun e' H' => ∃ vt vp, MS H' H2.length vl vn vt vp ps (build ps) (paths ps) ∧ (∀ j, vid vt = some j → H.length < j) ∧ (∀ j, vid vp = some j → H.length < j) ∧ Ob H' H.length 32 [.slice none 0 0, .slice none 0 0, .bool false] ∧ get e' 2 = .pointer (some ⟨H.length, 0, none⟩) ∧ get e' 3 = .pointer (some ⟨H2.length, 0, none⟩)) ?_ (fun e5 H5 _ ⟨vt, vp, hM5, hv5, hp5, hR5, g2, g3⟩ => ?_)
  · refine AC_seqQ TT_ok (by simp only [go_sem, g0, hS4.alen] <;> rfl) ?_
    by_cases hz : ps = []
    · refine AC_f (by simp only [go_sem] <;> rfl) (decide_eq_false (by rw [hz]; simp)) ?_
      refine AC_skip ⟨.slice none 0 0, .slice none 0 0, ?_, fun j hj => (by cases hj), fun j hj => (by cases hj), hR4, by simp only [go_sem, g2], by simp only [go_sem, g3]⟩
      rw [build, paths, if_pos hz, if_pos hz]; exact hM4
    · have hpos := List.length_pos_iff.2 hz
      refine AC_t (by simp only [go_sem] <;> rfl) (decide_eq_true (by omega)) ?_
      have hb17 : build ps = bld 17 (sx ps) 0 := by rw [build, if_neg hz]
      have hp17 : paths ps = pth 17 (sx ps) [] := by rw [paths, if_neg hz]
      have hlen := build_len ps
      rw [hb17] at hlen
      refine AC_regL ?_
      refine AQ_take TT_ok 3 rfl (by simp only [go_sem, g0, g3, hS4.alen] <;> rfl) ?_
      refine AQ_c rfl (by simp only [go_sem] <;> rfl) fok64 (by simp only [List.map_cons, List.map_nil, List.append_nil, go_sem] <;> rfl) (all64 17 H4 H2.length vl vn (.slice none 0 0) (.slice none 0 0) ps [] [] 0 ps.length 0 [] hM4 (Seg.all hm hz) (fun i _ _ _ => by simp) (by rw [sg_all]; exact Fu.all hm) rfl (by rw [sg_all]; simp; omega) (by omega) (fun p hp => by have := (hm.1 p hp).2.1; omega)) (fun j _ hj => ?_) (.inl rfl) fun v H6 hX6 ⟨hv, vt6, vp6, hM6, hv6, hp6⟩ => ?_
      · rcases hj with rfl | hj | hj
        · exact .inl (by omega)
        · cases hj
        · cases hj
      have hl4 := hO4.lt
      refine AQ_nil ⟨vt6, vp6, ?_, fun j hj => by have := hv6 j hj; omega, fun j hj => by have := hp6 j hj; omega, hR4.ext hX6 (fun h => ?_), by simp only [go_sem, g2], by simp only [go_sem, g3]⟩
      · rw [hb17, hp17, ← sg_all]
        simpa using hM6
      · rcases h with h | h | h
        · omega
        · cases h
        · cases h
  · refine AC_seq ?_
    refine AC_regD [9] mixed (by kernel_rfl) ?_
    refine AQ_take TT_ok 9 rfl (by simp only [go_sem, g3, anil_ptr, f101 _ 2 (by decide), f101 _ 3 (by decide), hM5.ob.load, ap4_2 _ _ _ _ 24 rfl, ap4_3 _ _ _ _ 30 rfl, List.map_cons, List.map_nil, b32 hM5.t.sl.one hM5.p.sl.one] <;> rfl) ?_
    refine AQ_store TT_ok TT_32 rfl (by simp only [go_sem, g2] <;> rfl) (by simp only [go_sem] <;> rfl) (Lay.three hM5.t.sl.one hM5.p.sl.one (One.bool _)) rfl hR5 (by show 0 + 3 ≤ 3; decide) (.inl (Nat.le_refl _)) (.inr rfl) fun H6 hX6 hO6 hL6 => ?_
    refine AQ_nil ?_
    refine AC_ret ⟨.inl rfl, .agg #[vt, vp, .bool true], ?_, vt, vp, by rw [hd], ?_, ?_, fun j hj => Nat.le_of_lt (hv5 j hj), fun j hj => Nat.le_of_lt (hp5 j hj)⟩
    · show ares TT H6 _ [.cell 2 32] = _
      have hO6' : Ob H6 H.length 32 [vt, vp, .bool true] := hO6
      simp only [ares, List.mapM_cons, List.mapM_nil, ares1, go_sem, g2, hO6'.load, ap32]
      rfl
    · rw [if_pos hm]
      exact Buf.ext hM5.t hX6 (fun j hj h => by have := hv5 j hj; omega)
    · rw [if_pos hm]
      exact Buf.ext hM5.p hX6 (fun j hj h => by have := hp5 j hj; omega)
end Go.Proofs.Ythalogdopkoidaa.Ab
