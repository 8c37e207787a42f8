/- Contract: trie.Build. No statement of the seat's in it. -/
import Derived.Test.YthalogdopkoidaaC10
import Derived.Test.YthalogdopkoidaaB12
set_option linter.unusedVariables false
set_option linter.unusedSimpArgs false
namespace Go.Proofs.Ythalogdopkoidaa.Ab
open Go Go.RowKit

theorem b97 {v : Value} (h : One v) : abuild TT 97 [(0, v)] = some (.agg #[v, .slice none 0 0, .slice none 0 0]) := by
  have hs : v.cells.size = 1 := by rw [h.cells]; rfl
  simp only [abuild, TT_97]
  rw [if_pos (by decide)]
  simp only [afill, placeOf]
  simp only [List.getElem?_cons_zero, TT_22, Option.map_some]
  rw [if_pos ⟨h.known, hs, by decide⟩, h.cells]
  rfl
/-- Blocks of vn set apart. -/
def msk (H : AHeap) (v : Value) : AHeap := match vid v with
  | some i => H.set i none
  | none => H
theorem msk_ext (H : AHeap) (v : Value) : AExt (fun i => vid v = some i) H (msk H v) := by
  unfold msk
  split
  · rename_i i hi
    exact (AExt.set1 H i none).mono (fun j _ hj => by rw [hi, hj])
  · exact AExt.refl _ _
theorem msk_live {H : AHeap} {v : Value} {i : Nat} {o : AObj} (h : (msk H v)[i]? = some (some o)) : H[i]? = some (some o) ∧ ¬ vid v = some i := by
  unfold msk at h
  split at h
  · rename_i j hj
    by_cases e : j = i
    · subst e
      rw [List.getElem?_set] at h
      simp at h
    · rw [List.getElem?_set_ne e] at h
      exact ⟨h, fun h' => e (by rw [hj] at h'; exact Option.some.inj h')⟩
  · rename_i hn
    exact ⟨h, fun h' => by rw [hn] at h'; cases h'⟩
theorem msk_len (H : AHeap) (v : Value) : (msk H v).length = H.length := by
  unfold msk; split <;> simp
theorem Buf.live {H : AHeap} {v : Value} {ty n : Nat} {cs : List Value} (h : Buf H v ty n cs) (i : Nat) (hi : vid v = some i) : ∃ o, H[i]? = some (some o) ∧ o.rw = true := by
  rcases h with ⟨rfl, _⟩ | ⟨j, h⟩
  · cases hi
  · rw [h.vid] at hi
    obtain rfl := Option.some.inj hi
    obtain ⟨_, cells, h2, _⟩ := h
    exact ⟨_, h2, rfl⟩

set_option maxHeartbeats 1000000 in
theorem c29 {H : AHeap} {vl : Value} {ps : List Pr} (hS : PrS H vl ps) (hl : ps.length < 2^20) : ACalls Try.prog 29 [vl] H (fun _ => False) fun v H' =>
    ∃ vt, v = .tuple #[vt, .bool (decide (May ps))] ∧ NdB H' vt (if May ps then build ps else []) ∧ ∀ j, vid vt = some j → H.length ≤ j := by
  refine ACalls_by 43 TT_ok Try.func29 rfl rfl rfl (by simp) ?_
  refine AC_seqQ TT_ok (by simp only [go_sem] <;> rfl) ?_
  refine AC_seq ?_
  refine AC_cut (fun e' H' => AExt (fun _ => False) H H' ∧ get e' 0 = vl ∧ get e' 9 = .bool (!decide (May ps))) ?_ (fun e1 H1 _ ⟨hX1, h0, h9⟩ => ?_)
  · refine AC_regL ?_
    refine AQ_take TT_ok 1 rfl (by simp only [go_sem] <;> rfl) ?_
    refine AQ_c rfl (by simp only [go_sem] <;> rfl) fok61 (by simp only [List.map_cons, List.map_nil, List.append_nil, go_sem] <;> rfl) (c61 hS (by omega)) (fun _ _ h => h.elim) (.inl rfl) fun v H1 hX hv => ?_
    subst hv
    refine AQ_all TT_ok rfl (by simp only [go_sem] <;> rfl) ?_
    exact ⟨hX, by simp only [go_sem], by simp only [go_sem]⟩
  by_cases hm : May ps
  · have hd : decide (May ps) = true := decide_eq_true hm
    refine AC_f h9 (by rw [hd]; rfl) (AC_skip ?_)
    have hS1 := hS.keep hX1
    refine AC_seq ?_
    refine AC_regL ?_
    refine AQ_take TT_ok 2 rfl (by simp only [go_sem, h0, List.map_cons, List.map_nil, b97 hS.one] <;> rfl) ?_
    have hlay : Lay (.agg #[vl, .slice none 0 0, .slice none 0 0]) [vl, .slice none 0 0, .slice none 0 0] := Lay.agg (l := [vl, .slice none 0 0, .slice none 0 0]) (fun v hv => by
      simp only [List.mem_cons, List.not_mem_nil, or_false] at hv
      rcases hv with rfl | rfl | rfl
      · exact hS.one
      · exact One.slice _ _ _
      · exact One.slice _ _ _)
    refine AQ_box TT_ok TT_97 rfl (by simp only [go_sem] <;> rfl) hlay rfl fun H2 hX2 hO2 hL2 => ?_
    refine AQ_all TT_ok rfl (by simp only [go_sem] <;> rfl) ?_
    have hX12 := hX1.trans hX2
    refine AC_cut (fun e' H' => ∃ vn, Ob H' H1.length 97 [vl, vn, .slice none 0 0] ∧ StB H' vn (nks ps) ∧ (∀ j, vid vn = some j → H1.length < j) ∧ AExt (fun _ => False) H H' ∧ get e' 0 = vl ∧ get e' 4 = .pointer (some ⟨H1.length, 0, none⟩)) ?_ (fun e3 H3 _ ⟨vn, hO3, hN3, hv3, hX3, g0, g4⟩ => ?_)
    · have hS2 := hS.keep hX12
      refine AC_seqQ TT_ok (by simp only [go_sem, h0, hS2.alen] <;> rfl) ?_
      refine AC_block (AC_loop (fun n e' H' => ∃ (i : Nat) (vn : Value), n = ps.length - i ∧ i ≤ ps.length ∧ Ob H' H1.length 97 [vl, vn, .slice none 0 0] ∧ StB H' vn ((nks ps).take i) ∧ (∀ j, vid vn = some j → H1.length < j) ∧ AExt (fun _ => False) H H' ∧ H1.length < H'.length ∧ get e' 0 = vl ∧ get e' 4 = .pointer (some ⟨H1.length, 0, none⟩) ∧ get e' 13 = vl ∧ get e' 14 = .int .i64 ps.length ∧ get e' 15 = .int .i64 (i : Nat)) ps.length
        ⟨0, .slice none 0 0, by simp, by simp, hO2, Buf.nil _ _, fun j hj => (by cases hj), hX12, by omega, by simp only [go_sem, h0], by simp only [go_sem], by simp only [go_sem, h0], by simp only [go_sem], by simp only [go_sem] <;> simp⟩ ?_)
      rintro n E H3 _ ⟨i, vn, hn, hi, hO3, hN3, hv3, hX3, hl3, g0, g4, g13, g14, g15⟩
      refine AC_seqQ TT_ok (by simp only [go_sem, g14, g15] <;> rfl) ?_
      refine AC_seq ?_
      by_cases hi' : i < ps.length
      · refine AC_t (by simp only [go_sem] <;> rfl) (lt_dec hi') ?_
        refine AC_skip ?_
        refine AC_seq (AC_block ?_)
        have hS3 := hS.keep hX3
        have l1 := hS3.index (k := .i64) (j := (i : Int)) (by omega) (by omega)
        rw [Int.toNat_natCast] at l1
        have l2 := hS3.load hi'
        have k5 := wrapN i (by omega)
        have hkey := (hm.1 _ (List.getElem_mem hi')).2.1
        refine AC_seq ?_
        refine AC_regL ?_
        refine AQ_take TT_ok 2 rfl (by simp only [go_sem, g13, g15, l1, l2] <;> rfl) ?_
        refine AQ_var TT_ok TT_52 rfl (by decide) (by simp only [go_sem] <;> rfl) (Lay.pr _) rfl (.inl (by have := hX1.size; omega)) (.inl rfl) fun H4 hX4 hO4 hL4 => ?_
        refine AQ_nil ?_
        have hO3' := hO3.keep hX4
        have hN3' : StB H4 vn ((nks ps).take i) := Buf.keep hN3 hX4
        have hvn1 : ¬ vid vn = some H1.length := fun h => Nat.lt_irrefl _ (hv3 _ h)
        have hvn3 : ¬ vid vn = some H3.length := fun h => by have := Sl.vid_lt hN3.sl h; omega
        have oM := hO3'.ext (msk_ext H4 vn) hvn1
        have pM := hO4.ext (msk_ext H4 vn) hvn3
        have f0 : ∀ k, afield TT 52 (.pointer (some ⟨k, 0, none⟩)) 0 = some (.pointer (some ⟨k, 0, none⟩)) := fun k => rfl
        have g0' : apart TT 9 ps[i].cells 0 = some (S ps[i].key) := rfl
        refine AC_drawG (fun j => vid vn = some j) (msk H4 vn) [12] [(0, true), (1, true), (2, true), (3, true), (4, true), (5, true), (6, true), (7, false), (8, false), (9, false), (10, true), (11, true), (12, false)] mixed (by kernel_rfl) (Buf.live hN3') (fun j o h => msk_live h) (Nat.le_of_eq (msk_len _ _)) ?_
        refine AG_sel (σ := [(7, false), (8, false), (9, false), (10, true), (11, true), (12, false)]) TT_ok [0, 1, 2, 3, 4, 5, 6] _ (by simp only [go_sem, g4, anil_ptr, f97 _ 1 (by decide), oM.load, ap3_1 _ _ _ 30 rfl, f0, pM.load, g0'] <;> rfl) ?_
        refine AG_c rfl rfl (by simp only [go_sem] <;> rfl) fok62 (by simp only [List.map_cons, List.map_nil, List.append_nil, go_sem] <;> rfl) (c62 (a := ps[i].key) (by omega)) fun v H5 hX5 hv => ?_
        subst hv
        refine AG_lit TT_ok [S (nib ps[i].key)] rfl TT_30 rfl TT_9 rfl (by decide) rfl (by decide) rfl (by simp only [List.map_cons, List.map_nil, go_sem, numbered]) (fun v hv => ?_) fun H6 hX6 hO6 hL6 => ?_
        · rw [List.mem_singleton] at hv; subst hv; exact ⟨_, (One.str _).lay, rfl⟩
        have hX56 := hX5.trans hX6
        have hil : ((nks ps).take i).length = i := by rw [List.length_take, nks_length]; omega
        refine AG_append TT_ok (v := vn) (n := ((nks ps).take i).length) (m := 1) rfl TT_30 rfl TT_9 (by decide) (by decide) rfl (by simp only [go_sem]) (by simp only [go_sem]) (Buf.keep hN3' hX56) hO6.sl (rows_length sCell_len _) rfl (by rw [hil]; simp; omega) (fun j hj => .inl (by have := hv3 j hj; have := hX1.size; omega)) (fun j _ hj => hj) fun v' H7 hX7 hB7 hv7 => ?_
        have hB7' : StB H7 v' ((nks ps).take (i + 1)) := by
          have e : ((nks ps).take i).flatMap sCell ++ ([S (nib ps[i].key)] : List Value).flatMap (fun v => v.cells.toList) = ((nks ps).take (i + 1)).flatMap sCell := by
            rw [tk (by rw [nks_length]; exact hi'), List.flatMap_append]
            simp only [nks, List.getElem_map]
            rfl
          rw [e] at hB7
          have el : ((nks ps).take (i + 1)).length = ((nks ps).take i).length + 1 := by rw [hil, List.length_take, nks_length]; omega
          rw [StB, el]; exact hB7
        have hv7' : ∀ j, vid v' = some j → H6.length ≤ j := fun j hj => by
          rcases hv7 j hj with h | h
          · exact h
          · cases h.1
        have hO7 : Ob H7 H1.length 97 [vl, vn, .slice none 0 0] := (hO3'.keep hX56).ext hX7 hvn1
        refine AG_sel (σ := [(12, false)]) TT_ok [10, 11] _ (by simp only [go_sem, anil_ptr, f97 _ 1 (by decide)] <;> rfl) ?_
        refine AG_store TT_ok rfl TT_30 rfl (by simp only [go_sem] <;> rfl) (by simp only [go_sem] <;> rfl) hB7'.sl.one.lay rfl hO7 (by simp) (.inl (by have := hX1.size; omega)) rfl fun H8 hX8 hO8 hL8 => ?_
        refine AG_nil ?_
        refine AC_quiet TT_ok (by simp only [go_sem, g15, k5] <;> rfl) ?_
        have s4 := hX4.size
        have s5 := hX56.size
        have s7 := hX7.size
        have s1 := hX1.size
        refine ⟨ps.length - (i + 1), by omega, i + 1, v', rfl, by omega, hO8, Buf.ext hB7' hX8 (fun j hj h => ?_), fun j hj => ?_, ?_, by omega, by simp only [go_sem, g0], by simp only [go_sem, g4], by simp only [go_sem, g13], by simp only [go_sem, g14], by simp only [go_sem]⟩
        · have := hv7' j hj; omega
        · have := hv7' j hj; omega
        · refine ⟨by have := hX3.size; omega, fun j hj _ => ?_⟩
          have h3 := hX3.size
          rw [hX8.obj j (by omega) (by omega), hX7.obj j (by omega) (fun h => by have := hv3 j h; omega), hX56.obj j (by omega) id, hX4.obj j (by omega) id, hX3.obj j hj id]
      · refine AC_f (by simp only [go_sem] <;> rfl) (ge_dec (by omega)) ?_
        refine AC_exit ⟨vn, hO3, ?_, hv3, hX3, by simp only [go_sem, g0], by simp only [go_sem, g4]⟩
        rwa [List.take_of_length_le (by rw [nks_length]; omega)] at hN3
    have hS3 := hS.keep hX3
    have s1 := hX1.size
    have s3 := hX3.size
    have hvl : ∀ j, vid vl = some j → j < H.length := fun j hj => hS.vid_lt hj
    have hB3 : BS H3 H1.length vl vn (.slice none 0 0) ps [] := ⟨hO3, hS3, hN3.sl, Buf.nil _ _, fun j hj => (by cases hj), fun h => by have := hvl _ h; omega, fun h => by have := hv3 _ h; omega⟩
    refine AC_cut (fun e' H' => ∃ vt, BS H' H1.length vl vn vt ps (build ps) ∧ (∀ j, vid vt = some j → H.length ≤ j) ∧ get e' 4 = .pointer (some ⟨H1.length, 0, none⟩)) ?_ (fun e5 H5 _ ⟨vt, hB5, hv5, g5⟩ => ?_)
    · refine AC_seqQ TT_ok (by simp only [go_sem, g0, hS3.alen] <;> rfl) ?_
      by_cases hz : ps = []
      · refine AC_f (by simp only [go_sem] <;> rfl) (decide_eq_false (by rw [hz]; simp)) ?_
        refine AC_skip ⟨.slice none 0 0, ?_, fun j hj => (by cases hj), by simp only [go_sem, g4]⟩
        rw [build, if_pos hz]; exact hB3
      · have hpos := List.length_pos_iff.2 hz
        refine AC_t (by simp only [go_sem] <;> rfl) (decide_eq_true (by omega)) ?_
        refine AC_regL ?_
        refine AQ_take TT_ok 3 rfl (by simp only [go_sem, g0, g4, hS3.alen] <;> rfl) ?_
        have hb17 : build ps = bld 17 (sx ps) 0 := by rw [build, if_neg hz]
        have hlen := build_len ps
        rw [hb17] at hlen
        refine AQ_c rfl (by simp only [go_sem] <;> rfl) fok63 (by simp only [List.map_cons, List.map_nil, List.append_nil, go_sem] <;> rfl) (all63 17 H3 H1.length vl vn (.slice none 0 0) ps [] 0 ps.length 0 hB3 (Seg.all hm hz) (by rw [sg_all]; exact Fu.all hm) (by rw [sg_all]; simp; omega) (by omega) (fun p hp => by have := (hm.1 p hp).2.1; omega)) (fun j _ hj => ?_) (.inl rfl) fun v H6 hX6 ⟨hv, vt6, hB6, hv6⟩ => ?_
        · rcases hj with rfl | hj
          · exact .inl s1
          · cases hj
        refine AQ_nil ⟨vt6, ?_, fun j hj => Nat.le_trans s3 (hv6 j hj), by simp only [go_sem, g4]⟩
        rw [hb17, ← sg_all]
        simpa using hB6
    · refine AC_seqQ TT_ok (by simp only [go_sem, g5, anil_ptr, f97 _ 2 (by decide), hB5.ob.load, ap3_2 _ _ _ 24 rfl] <;> rfl) ?_
      refine AC_ret ⟨.inl rfl, _, rfl, vt, ?_, ?_, hv5⟩
      · simp only [go_sem]; rw [hd]
      · rw [if_pos hm]; exact hB5.t
  · have hd : decide (May ps) = false := decide_eq_false hm
    refine AC_t h9 (by rw [hd]; rfl) ?_
    refine AC_seqQ TT_ok (by simp only [go_sem] <;> rfl) ?_
    refine AC_ret ⟨.inl rfl, _, rfl, .slice none 0 0, ?_, ?_, fun j hj => by cases hj⟩
    · simp only [go_sem]; rw [hd]
    · rw [if_neg hm]; exact Buf.nil _ _
end Go.Proofs.Ythalogdopkoidaa.Ab
