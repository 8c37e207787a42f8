/- Contract: walker.walk. No statement of the seat's in it. -/
import Derived.Test.YthalogdopkoidaaC12
set_option linter.unusedVariables false
set_option linter.unusedSimpArgs false
namespace Go.Proofs.Ythalogdopkoidaa.Ab
open Go Go.RowKit

/-- Not more pairs and paths than nodes met; no more nodes than there are. -/
structure Wok (t : List Nd) (w : W) : Prop where
  l : w.l.length ≤ w.next
  p : w.paths.length ≤ w.next
  n : w.next ≤ t.length

theorem Wok.meet {t : List Nd} {w : W} (h : Wok t w) (hn : w.next < t.length) (n : Nd) (p : List UInt8) : Wok t (wmeet n p w) := by
  have h1 := h.l
  have h2 := h.p
  refine ⟨?_, by simp [wmeet]; omega, hn⟩
  simp only [wmeet]
  split
  · simp; omega
  · omega
theorem wkids_ok {t : List Nd} {wk : Int → List UInt8 → W → Bool × W} (hk : ∀ a p w, Wok t w → Wok t (wk a p w).2) (k : Int) (p : List UInt8) : ∀ (cs : List Int) (i : Nat) (w : W), Wok t w → Wok t (wkids wk k p i cs w).2
  | [], i, w, h => h
  | c :: cs, i, w, h => by
    rw [wkids]
    split
    · exact wkids_ok hk k p cs (i + 1) w h
    · split
      · exact wkids_ok hk k p cs (i + 1) _ (hk _ _ _ h)
      · exact hk _ _ _ h
theorem walk_ok (t : List Nd) : ∀ (f : Nat) (a : Int) (p : List UInt8) (w : W), Wok t w → Wok t (walk t f a p w).2
  | 0, a, p, w, h => h
  | f + 1, a, p, w, h => by
    rw [walk]
    split
    · rename_i hc
      split
      · exact h.meet hc.2.1 _ _
      · exact wkids_ok (walk_ok t f) _ _ _ _ _ (h.meet hc.2.1 _ _)
    · exact h

def M81 (wi : Nat) (vl vp : Value) (i : Nat) : Prop := i = wi ∨ vid vl = some i ∨ vid vp = some i
def P81 (f : Nat) : Prop := ∀ (H : AHeap) (wi : Nat) (vt vl vp : Value) (t : List Nd) (w : W) (a : Int) (p : List UInt8), WS H wi vt vl vp t w → Wok t w → t.length < w.next + f → t.length < 2^30 → p.length < 2^31 → (∀ n ∈ t, n.path.length < 2^30) →
  ACalls Try.prog 81 [.pointer (some ⟨wi, 0, none⟩), .int .i64 a, S p] H (M81 wi vl vp) fun r H' => r = .bool (walk t f a p w).1 ∧
    ∃ vl' vp', WS H' wi vt vl' vp' t (walk t f a p w).2 ∧ (∀ j, vid vl' = some j → H.length ≤ j ∨ vl' = vl) ∧ (∀ j, vid vp' = some j → H.length ≤ j ∨ vp' = vp)

/-- Behind an append to the paths and its store. -/
theorem WS.appP {H H1 H2 : AHeap} {wi : Nat} {vt vl vp vp1 : Value} {t : List Nd} {w : W} {p1 : List (List UInt8)} (h : WS H wi vt vl vp t w) (hX : AExt (fun j => vid vp = some j) H H1) (hT : StB H1 vp1 p1) (hv : ∀ j, vid vp1 = some j → H.length ≤ j) (hY : AExt (fun j => j = wi) H1 H2) (hO : Ob H2 wi 106 [vt, .int .i64 (w.next : Nat), vl, vp1]) : WS H2 wi vt vl vp1 t { w with paths := p1 } := by
  have hl := h.ob.lt
  refine ⟨hO, (h.t.ext hX fun i _ hi hm => (h.pd i hm).2.1 hi).ext hY fun i _ hi hm => h.tw (by rw [hi, hm]), (Buf.ext h.l hX fun i hi hm => (h.pd i hm).2.2 hi) |>.ext hY fun i hi hm => (h.ld i hi).1 hm, Buf.ext hT hY fun i hi hm => ?_, h.tw, h.ld, fun j hj => ⟨?_, fun hh => ?_, fun hh => ?_⟩⟩
  · have := hv i hi; omega
  · have := hv j hj; omega
  · have := h.t.vid_lt hh; have := hv j hj; omega
  · have := Sl.vid_lt h.l.sl hh; have := hv j hj; omega

theorem Nd.ap0 (n : Nd) : apart TT 3 n.cells 0 = some (.int .i64 n.kind) := rfl
theorem Nd.ap1 (n : Nd) : apart TT 9 n.cells 1 = some (S n.path) := rfl
theorem Nd.ap2 (n : Nd) : apart TT 4 n.cells 2 = some (.bool n.has) := rfl
theorem Nd.ap3 (n : Nd) : apart TT 9 n.cells 3 = some (S n.value) := rfl

theorem Nd.ap4 (n : Nd) : apart TT 47 n.cells 4 = some (.agg (n.kids.toList.map (Value.int .i64)).toArray) := by
  have e : (n.kids.toList.map (Value.int .i64)).take 16 = n.kids.toList.map (Value.int .i64) := List.take_of_length_le (by simp)
  simp [apart, TT_47, TD.isAgg, Nd.cells, e]
theorem kids_at (k : Vector Int 16) (i : Nat) (hi : i < 16) : aget TT 47 (.agg (k.toList.map (Value.int .i64)).toArray) (.int .i64 (i : Int)) = some (.int .i64 k[i]) := by
  simp only [aget, TT_47, TT_3]
  rw [if_pos (by omega)]
  simp [apart, TT_3, TD.isAgg, hi]
theorem byte_at (i : Nat) (hi : i < 16) (H : AHeap) : aconv TT H 3 5 (.int .i64 (i : Int)) = some (U (UInt8.ofNat i)) := by
  simp only [aconv, TT_3, TT_5, U]
  have : IntKind.u8.wrap (i : Int) = ((UInt8.ofNat i).toNat : Int) := by
    simp [IntKind.wrap, IntKind.signed, IntKind.bits, Nat.mod_eq_of_lt (show i < 256 by omega)]
    omega
  rw [this]

theorem walk_no {t : List Nd} {f : Nat} {a : Int} {p : List UInt8} {w : W} (h : ¬ (a = (w.next : Int) ∧ w.next < t.length ∧ p.length ≤ 16)) : walk t f a p w = (false, w) := by
  cases f with
  | zero => rfl
  | succ f => rw [walk, dif_neg h]

set_option maxHeartbeats 2000000 in
theorem c81 {f : Nat} (ih : ∀ g, g < f → P81 g) : P81 f := by
  intro H wi vt vl vp t w a p hW hok hf ht hp hn
  have hle := hok.n
  refine ACalls_by 95 TT_ok Try.func81 rfl rfl rfl (by simp) ?_
  refine AC_seqQ TT_ok (by simp only [go_sem] <;> rfl) ?_
  refine AC_seq ?_
  refine AC_cut (fun e' H' => H' = H ∧ get e' 0 = .pointer (some ⟨wi, 0, none⟩) ∧ get e' 1 = .int .i64 a ∧ get e' 2 = S p ∧ get e' 30 = .bool (!decide (a = (w.next : Int) ∧ w.next < t.length ∧ p.length ≤ 16))) ?_ (fun e1 H1 _ ⟨hH, h0, h1, h2, h30⟩ => ?_)
  · by_cases c1 : a = (w.next : Int)
    · have d1 : (!decide (a = (w.next : Int))) = false := nd_false c1
      by_cases c2 : w.next < t.length
      · have d2 : decide ((t.length : Int) ≤ a) = false := decide_eq_false (by omega)
        by_cases c3 : p.length ≤ 16
        · have d3 : decide ((16 : Int) < (p.length : Int)) = false := decide_eq_false (by omega)
          refine AC_quiet TT_ok (by simp only [go_sem, anil_ptr, f106 _ 1 (by decide), f106 _ 0 (by decide), hW.ob.load, ap4_1 _ _ _ _ 3 rfl, ap4_0 _ _ _ _ 24 rfl, hW.t.alen, d1, d2, d3] <;> rfl) ?_
          refine ⟨rfl, by simp only [go_sem], by simp only [go_sem], by simp only [go_sem], ?_⟩
          rw [nd_false ⟨c1, c2, c3⟩]; simp only [go_sem]
        · have d3 : decide ((16 : Int) < (p.length : Int)) = true := decide_eq_true (by omega)
          refine AC_quiet TT_ok (by simp only [go_sem, anil_ptr, f106 _ 1 (by decide), f106 _ 0 (by decide), hW.ob.load, ap4_1 _ _ _ _ 3 rfl, ap4_0 _ _ _ _ 24 rfl, hW.t.alen, d1, d2, d3] <;> rfl) ?_
          refine ⟨rfl, by simp only [go_sem], by simp only [go_sem], by simp only [go_sem], ?_⟩
          rw [nd_true (fun h => c3 h.2.2)]; simp only [go_sem]
      · have d2 : decide ((t.length : Int) ≤ a) = true := decide_eq_true (by omega)
        refine AC_quiet TT_ok (by simp only [go_sem, anil_ptr, f106 _ 1 (by decide), f106 _ 0 (by decide), hW.ob.load, ap4_1 _ _ _ _ 3 rfl, ap4_0 _ _ _ _ 24 rfl, hW.t.alen, d1, d2] <;> rfl) ?_
        refine ⟨rfl, by simp only [go_sem], by simp only [go_sem], by simp only [go_sem], ?_⟩
        rw [nd_true (fun h => c2 h.2.1)]; simp only [go_sem]
    · have d1 : (!decide (a = (w.next : Int))) = true := nd_true c1
      refine AC_quiet TT_ok (by simp only [go_sem, anil_ptr, f106 _ 1 (by decide), hW.ob.load, ap4_1 _ _ _ _ 3 rfl, d1] <;> rfl) ?_
      refine ⟨rfl, by simp only [go_sem], by simp only [go_sem], by simp only [go_sem], ?_⟩
      rw [nd_true (fun h => c1 h.1)]; simp only [go_sem]
  subst hH
  by_cases hC : a = (w.next : Int) ∧ w.next < t.length ∧ p.length ≤ 16
  · refine AC_f h30 (nd_false hC) (AC_skip ?_)
    obtain ⟨hC1, hC2, hC3⟩ := hC
    obtain ⟨g, rfl⟩ : ∃ g, f = g + 1 := ⟨f - 1, by omega⟩
    have wn := wrapN w.next (by omega)
    -- the next one's number
    refine AC_seq ?_
    refine AC_regL ?_
    refine AQ_take TT_ok 7 rfl (by simp only [go_sem, h0, anil_ptr, f106 _ 1 (by decide), hW.ob.load, ap4_1 _ _ _ _ 3 rfl, wn] <;> rfl) ?_
    refine AQ_store TT_ok TT_3 rfl (by simp only [go_sem] <;> rfl) (by simp only [go_sem] <;> rfl) (One.int _ _).lay rfl hW.ob (by simp) (.inr (.inl rfl)) (.inl rfl) fun H2 hX2 hO2 hL2 => ?_
    refine AQ_nil ?_
    have hO2' : Ob H2 wi 106 [vt, .int .i64 ((w.next + 1 : Nat) : Int), vl, vp] := hO2
    have hW2 : WS H2 wi vt vl vp t { w with next := w.next + 1 } := ⟨hO2', hW.t.ext hX2 (fun i _ hi h => hW.tw (by rw [hi, h])), Buf.ext hW.l hX2 (fun i hi h => (hW.ld i hi).1 h), Buf.ext hW.p hX2 (fun i hi h => (hW.pd i hi).1 h), hW.tw, hW.ld, hW.pd⟩
    -- its path
    refine AC_seq ?_
    refine AC_regL ?_
    refine AQ_take TT_ok 6 rfl (by simp only [go_sem, h0, h2, anil_ptr, f106 _ 3 (by decide), hW2.ob.load, ap4_3 _ _ _ _ 30 rfl] <;> rfl) ?_
    refine AQ_lit TT_ok [S p] TT_30 rfl TT_9 rfl (by decide) rfl (by decide) rfl (by simp only [List.map_cons, List.map_nil, go_sem, numbered]) (fun u hu => ?_) fun H3 hX3 hO3 hL3 => ?_
    · rw [List.mem_singleton] at hu; subst hu; exact ⟨_, (One.str _).lay, rfl⟩
    have hW3 := hW2.keep hX3
    have hpl := hok.p
    refine AQ_append TT_ok (v := vp) (n := w.paths.length) (m := 1) TT_30 rfl TT_9 (by decide) (by decide) rfl (by simp only [go_sem]) (by simp only [go_sem]) hW3.p hO3.sl (rows_length sCell_len _) rfl (by simp; omega) (fun j hj => .inr (.inr (.inr hj))) (.inl rfl) fun vp' H4 hX4 hB4 hv4 => ?_
    have hB4' : StB H4 vp' (w.paths ++ [p]) := by
      have e : w.paths.flatMap sCell ++ ([S p] : List Value).flatMap (fun v => v.cells.toList) = (w.paths ++ [p]).flatMap sCell := by
        rw [List.flatMap_append]; rfl
      simp only [] at hB4
      rw [e] at hB4
      rw [StB, List.length_append]; exact hB4
    have hv4' : ∀ j, vid vp' = some j → H3.length ≤ j := fun j hj => by
      rcases hv4 j hj with h | h
      · exact h
      · cases h.1
    refine AQ_take TT_ok 2 rfl (by simp only [go_sem, anil_ptr, f106 _ 3 (by decide)] <;> rfl) ?_
    refine AQ_store TT_ok TT_30 rfl (by simp only [go_sem] <;> rfl) (by simp only [go_sem] <;> rfl) hB4'.sl.one.lay rfl (hW3.ob.ext hX4 (fun h => (hW.pd _ h).1 rfl)) (by simp) (.inr (.inl rfl)) (.inl rfl) fun H5 hX5 hO5 hL5 => ?_
    refine AQ_nil ?_
    have hW5 := hW3.appP hX4 hB4' hv4' hX5 hO5
    have s3 := hX3.size
    have s4 := hX4.size
    -- the node
    have ix := hW5.t.index (k := .i64) (j := a) (by omega) (by omega)
    have hat : a.toNat = w.next := by omega
    rw [hat] at ix
    have ld := hW5.t.load hC2
    refine AC_seq ?_
    refine AC_regL ?_
    refine AQ_take TT_ok 7 rfl (by simp only [go_sem, h0, h1, anil_ptr, f106 _ 0 (by decide), hW5.ob.load, ap4_0 _ _ _ _ 24 rfl, ix, ld] <;> rfl) ?_
    refine AQ_var TT_ok TT_49 rfl (by decide) (by simp only [go_sem] <;> rfl) (Lay.nd _) (Nd.len _) (.inl (by omega)) (.inl rfl) fun H6 hX6 hO6 hL6 => ?_
    refine AQ_nil ?_
    have hW6 := hW5.keep hX6
    generalize hnd : t[w.next] = nd at hO6 ld
    have hndp : nd.path.length < 2^30 := hn nd (by rw [← hnd]; exact List.getElem_mem _)
    refine AC_seqQ TT_ok (by simp only [go_sem, h2, f49p _ 1 1 rfl, hO6.load, Nd.ap1, as_add 9 p nd.path (by omega)] <;> rfl) ?_
    -- its pair
    have s6 := hX6.size
    refine AC_seq ?_
    refine AC_cut (fun e' H' => ∃ vl', WS H' wi vt vl' vp' t (wmeet nd p w) ∧ (∀ j, vid vl' = some j → H5.length < j ∨ vl' = vl) ∧ Ob H' H5.length 49 nd.cells ∧ H5.length < H'.length ∧ get e' 0 = .pointer (some ⟨wi, 0, none⟩) ∧ get e' 2 = S (p ++ nd.path) ∧ get e' 7 = .pointer (some ⟨H5.length, 0, none⟩) ∧ get e' 68 = .bool (decide (nd.has = true ∧ keyOf (p ++ nd.path) = none))) ?_ (fun E7 H7 _ ⟨vl7, hW7, hv7, hO7, hl7, g0, g2, g7, g68⟩ => ?_)
    · refine AC_regL ?_
      cases hhas : nd.has with
      | false =>
        refine AQ_take TT_ok 7 rfl (by simp only [go_sem, f49p _ 2 2 rfl, hO6.load, Nd.ap2, hhas] <;> rfl) ?_
        refine AQ_pass rfl ?_
        refine AQ_all TT_ok rfl (by simp only [go_sem] <;> rfl) ?_
        refine ⟨vl, ?_, fun j _ => .inr rfl, hO6, by omega, by simp only [go_sem, h0], by simp only [go_sem], by simp only [go_sem], by simp only [go_sem] <;> simp⟩
        rw [wmeet, hhas]
        exact hW6
      | true =>
        refine AQ_take TT_ok 7 rfl (by simp only [go_sem, f49p _ 2 2 rfl, f49p _ 3 3 rfl, hO6.load, Nd.ap2, Nd.ap3, hhas, h0] <;> rfl) ?_
        refine AQ_c rfl (by simp only [go_sem] <;> rfl) fok88 (by simp only [List.map_cons, List.map_nil, List.append_nil, go_sem] <;> rfl) (c88 (n := p ++ nd.path) (v := nd.value) hW6 (by simp; omega) (by have := hok.l; dsimp only; omega)) (fun j hj hm => ?_) (.inl rfl) fun r H8 hX8 ⟨hr, vl8, hW8, hv8⟩ => ?_
        · rcases hm with rfl | hm
          · exact .inr (.inl rfl)
          · exact .inr (.inr (.inl hm))
        subst hr
        refine AQ_all TT_ok rfl (by simp only [go_sem] <;> rfl) ?_
        refine ⟨vl8, ?_, fun j hj => .inl ?_, ?_, ?_, by simp only [go_sem, h0], by simp only [go_sem], by simp only [go_sem], ?_⟩
        · rw [wmeet, hhas]; exact hW8
        · have := hv8 j hj; omega
        · refine hO6.ext hX8 ?_
          rintro (h | h)
          · have := hW5.ob.lt; omega
          · have := Sl.vid_lt hW5.l.sl h; omega
        · have := hX8.size; omega
        · simp only [go_sem]
          cases keyOf (p ++ nd.path) <;> simp
    by_cases hbad : nd.has = true ∧ keyOf (p ++ nd.path) = none
    · refine AC_t g68 (decide_eq_true hbad) ?_
      refine AC_seqQ TT_ok (by simp only [go_sem] <;> rfl) ?_
      have hw : walk t (g + 1) a p w = (false, wmeet nd p w) := by
        rw [walk, dif_pos ⟨hC1, hC2, hC3⟩, hnd, if_pos hbad]
      rw [hw]
      refine AC_ret ⟨.inl rfl, _, rfl, by simp only [go_sem], vl7, vp', hW7, fun j hj => (hv7 j hj).imp (fun h => by omega) id, fun j hj => .inl ?_⟩
      have := hv4' j hj; omega
    · refine AC_f g68 (decide_eq_false hbad) (AC_skip ?_)
      have hw : walk t (g + 1) a p w = wkids (walk t g) nd.kind (p ++ nd.path) 0 nd.kids.toList (wmeet nd p w) := by
        rw [walk, dif_pos ⟨hC1, hC2, hC3⟩, hnd, if_neg hbad]
      rw [hw]
      have hok1 : Wok t (wmeet nd p w) := hok.meet hC2 _ _
      refine AC_cut (fun e' H' => ∃ w' vl' vp'', wkids (walk t g) nd.kind (p ++ nd.path) 0 nd.kids.toList (wmeet nd p w) = (true, w') ∧ WS H' wi vt vl' vp'' t w' ∧ (∀ j, vid vl' = some j → H1.length ≤ j ∨ vl' = vl) ∧ (∀ j, vid vp'' = some j → H1.length ≤ j ∨ vp'' = vp)) ?_ (fun E9 H9 _ ⟨w9, vl9, vp9, hw9, hW9, hv9, hq9⟩ => ?_)
      rotate_left
      · refine AC_seqQ TT_ok (by simp only [go_sem] <;> rfl) ?_
        rw [hw9]
        exact AC_ret ⟨.inl rfl, _, rfl, by simp only [go_sem], vl9, vp9, hW9, hv9, hq9⟩
      refine AC_seqQ TT_ok (by simp only [go_sem, g7, f49p _ 4 4 rfl, hO7.load, Nd.ap4] <;> rfl) ?_
      refine AC_block (AC_loop (fun n e' H' => ∃ (i : Nat) (w' : W) (vl' vp'' : Value), n = 16 - i ∧ i ≤ 16 ∧ WS H' wi vt vl' vp'' t w' ∧ Wok t w' ∧ w.next + 1 ≤ w'.next ∧ (∀ j, vid vl' = some j → (H1.length ≤ j ∧ j ≠ H5.length) ∨ vl' = vl) ∧ (∀ j, vid vp'' = some j → (H1.length ≤ j ∧ j ≠ H5.length)) ∧ Ob H' H5.length 49 nd.cells ∧ H5.length < H'.length ∧
        wkids (walk t g) nd.kind (p ++ nd.path) 0 nd.kids.toList (wmeet nd p w) = wkids (walk t g) nd.kind (p ++ nd.path) i (nd.kids.toList.drop i) w' ∧
        get e' 0 = .pointer (some ⟨wi, 0, none⟩) ∧ get e' 2 = S (p ++ nd.path) ∧ get e' 7 = .pointer (some ⟨H5.length, 0, none⟩) ∧ get e' 70 = .agg (nd.kids.toList.map (Value.int .i64)).toArray ∧ get e' 71 = .int .i64 (i : Nat)) 16
        ⟨0, wmeet nd p w, vl7, vp', rfl, by omega, hW7, hok1, Nat.le_refl _, ?_, ?_, hO7, hl7, rfl, by simp only [go_sem, g0], by simp only [go_sem, g2], by simp only [go_sem, g7], by simp only [go_sem], by simp only [go_sem] <;> simp⟩ ?_)
      · intro j hj
        rcases hv7 j hj with h | h
        · exact .inl ⟨by omega, by omega⟩
        · exact .inr h
      · intro j hj
        have h1 := hv4' j hj
        have h2 : j < H5.length := by have := Sl.vid_lt hB4'.sl hj; omega
        exact ⟨by omega, by omega⟩
      rintro n8 E H8 _ ⟨i, w8, vl8, vp8, hn8, hi8, hW8, hok8, hnx8, hv8, hq8, hO8, hl8, heq8, k0, k2, k7, k70, k71⟩
      refine AC_seqQ TT_ok (by simp only [go_sem, k71] <;> rfl) ?_
      refine AC_seq ?_
      by_cases hi' : i < 16
      · refine AC_t (by simp only [go_sem] <;> rfl) (decide_eq_true (by omega)) ?_
        refine AC_skip ?_
        refine AC_seq (AC_block ?_)
        refine AC_seqQ TT_ok (by simp only [go_sem, k70, k71, kids_at nd.kids i hi'] <;> rfl) ?_
        refine AC_seqQ TT_ok (by simp only [go_sem, k2] <;> rfl) ?_
        have hp16 : (p ++ nd.path).length < 2^31 := by rw [List.length_append]; omega
        refine AC_cut (fun e' H' => AExt (fun _ => False) H8 H' ∧ get e' 0 = .pointer (some ⟨wi, 0, none⟩) ∧ get e' 2 = S (p ++ nd.path) ∧ get e' 7 = .pointer (some ⟨H5.length, 0, none⟩) ∧ get e' 9 = .int .i64 nd.kids[i] ∧ get e' 10 = S (kp nd.kind (p ++ nd.path) i) ∧ get e' 70 = .agg (nd.kids.toList.map (Value.int .i64)).toArray ∧ get e' 71 = .int .i64 (i : Nat)) ?_ (fun E9 H9 _ ⟨hX9, m0, m2, m7, m9, m10, m70, m71⟩ => ?_)
        · refine AC_seqQ TT_ok (by simp only [go_sem, k7, f49p _ 0 0 rfl, hO8.load, Nd.ap0] <;> rfl) ?_
          by_cases hk3 : nd.kind = 3
          · refine AC_t (by simp only [go_sem] <;> rfl) (decide_eq_true hk3) ?_
            refine AC_regL ?_
            refine AQ_take TT_ok 3 rfl (by simp only [go_sem, k71, byte_at i hi'] <;> rfl) ?_
            refine AQ_lit TT_ok [U (UInt8.ofNat i)] TT_50 rfl TT_5 rfl (by decide) rfl (by decide) rfl (by simp only [List.map_cons, List.map_nil, go_sem, numbered]) (fun u hu => ?_) fun Ha hXa hOa hLa => ?_
            · rw [List.mem_singleton] at hu; subst hu; exact ⟨_, (One.byte _).lay, rfl⟩
            have hby : ByS Ha (.slice (some ⟨H8.length, 0, none⟩) 1 1) [UInt8.ofNat i] := hOa.sl
            refine AQ_all TT_ok rfl (by simp only [go_sem, hby.conv, as_add 9 (p ++ nd.path) [UInt8.ofNat i] (by simp at hp16 ⊢; omega)] <;> rfl) ?_
            refine ⟨hXa, by simp only [go_sem, k0], by simp only [go_sem, k2], by simp only [go_sem, k7], by simp only [go_sem], ?_, by simp only [go_sem, k70], by simp only [go_sem, k71]⟩
            rw [kp, if_pos hk3]; simp only [go_sem]
          · refine AC_f (by simp only [go_sem] <;> rfl) (decide_eq_false hk3) ?_
            refine AC_skip ⟨AExt.refl _ _, by simp only [go_sem, k0], by simp only [go_sem, k2], by simp only [go_sem, k7], by simp only [go_sem], ?_, by simp only [go_sem, k70], by simp only [go_sem, k71]⟩
            rw [kp, if_neg hk3, List.append_nil]; simp only [go_sem]
        have hW9 := hW8.keep hX9
        have hO9 := hO8.keep hX9
        have s9 := hX9.size
        have k5 := wrapN i (by omega)
        have hdrop : nd.kids.toList.drop i = nd.kids[i] :: nd.kids.toList.drop (i + 1) := by
          rw [List.drop_eq_getElem_cons (by simpa using hi')]
          simp
        rw [hdrop, wkids] at heq8
        by_cases hk0 : nd.kids[i] = 0
        · have d0 : (!decide (nd.kids[i] = 0)) = false := nd_false hk0
          rw [if_pos hk0] at heq8
          refine AC_cut (fun e' H' => H' = H9 ∧ get e' 0 = .pointer (some ⟨wi, 0, none⟩) ∧ get e' 2 = S (p ++ nd.path) ∧ get e' 7 = .pointer (some ⟨H5.length, 0, none⟩) ∧ get e' 70 = .agg (nd.kids.toList.map (Value.int .i64)).toArray ∧ get e' 71 = .int .i64 (i : Nat) ∧ get e' 93 = .bool false) ?_ (fun Ea Ha _ ⟨hHa, q0, q2, q7, q70, q71, q93⟩ => ?_)
          · refine AC_regL ?_
            refine AQ_take TT_ok 6 rfl (by simp only [go_sem, m9, d0] <;> rfl) ?_
            refine AQ_pass rfl ?_
            refine AQ_all TT_ok rfl (by simp only [go_sem] <;> rfl) ?_
            exact ⟨rfl, by simp only [go_sem, m0], by simp only [go_sem, m2], by simp only [go_sem, m7], by simp only [go_sem, m70], by simp only [go_sem, m71], by simp only [go_sem]⟩
          subst hHa
          refine AC_f q93 rfl (AC_skip ?_)
          refine AC_quiet TT_ok (by simp only [go_sem, q71, k5] <;> rfl) ?_
          exact ⟨16 - (i + 1), by omega, i + 1, w8, vl8, vp8, rfl, by omega, hW9, hok8, hnx8, hv8, hq8, hO9, by omega, heq8, by simp only [go_sem, q0], by simp only [go_sem, q2], by simp only [go_sem, q7], by simp only [go_sem, q70], by simp only [go_sem]⟩
        · have d0 : (!decide (nd.kids[i] = 0)) = true := nd_true hk0
          rw [if_neg hk0] at heq8
          have hkl : (kp nd.kind (p ++ nd.path) i).length < 2^31 := by
            rw [kp, List.length_append, List.length_append]
            split <;> simp <;> omega
          have hok10 := walk_ok t g nd.kids[i] (kp nd.kind (p ++ nd.path) i) w8 hok8
          have hnx10 := walk_next t g nd.kids[i] (kp nd.kind (p ++ nd.path) i) w8
          refine AC_cut (fun e' H' => ∃ vl' vp'', WS H' wi vt vl' vp'' t (walk t g nd.kids[i] (kp nd.kind (p ++ nd.path) i) w8).2 ∧ (∀ j, vid vl' = some j → (H1.length ≤ j ∧ j ≠ H5.length) ∨ vl' = vl) ∧ (∀ j, vid vp'' = some j → (H1.length ≤ j ∧ j ≠ H5.length)) ∧ Ob H' H5.length 49 nd.cells ∧ H5.length < H'.length ∧ get e' 0 = .pointer (some ⟨wi, 0, none⟩) ∧ get e' 2 = S (p ++ nd.path) ∧ get e' 7 = .pointer (some ⟨H5.length, 0, none⟩) ∧ get e' 70 = .agg (nd.kids.toList.map (Value.int .i64)).toArray ∧ get e' 71 = .int .i64 (i : Nat) ∧ get e' 93 = .bool (!(walk t g nd.kids[i] (kp nd.kind (p ++ nd.path) i) w8).1)) ?_ (fun Ea Ha _ ⟨vla, vpa, hWa, hva, hqa, hOa, hla, q0, q2, q7, q70, q71, q93⟩ => ?_)
          · refine AC_regL ?_
            refine AQ_take TT_ok 6 rfl (by simp only [go_sem, m0, m9, m10, d0] <;> rfl) ?_
            refine AQ_c rfl (by simp only [go_sem] <;> rfl) fok81 (by simp only [List.map_cons, List.map_nil, List.append_nil, go_sem] <;> rfl) (ih g (by omega) H9 wi vt vl8 vp8 t w8 nd.kids[i] (kp nd.kind (p ++ nd.path) i) hW9 hok8 (by omega) ht hkl hn) (fun j hj hm => ?_) (.inl rfl) fun r Hb hXb ⟨hr, vlb, vpb, hWb, hvb, hqb⟩ => ?_
            · rcases hm with rfl | hm | hm
              · exact .inr (.inl rfl)
              · rcases hv8 j hm with h | h
                · exact .inl h.1
                · subst h; exact .inr (.inr (.inl hm))
              · exact .inl (hq8 j hm).1
            subst hr
            refine AQ_all TT_ok rfl (by simp only [go_sem] <;> rfl) ?_
            refine ⟨vlb, vpb, hWb, fun j hj => ?_, fun j hj => ?_, hO9.ext hXb ?_, by have := hXb.size; omega, by simp only [go_sem, m0], by simp only [go_sem, m2], by simp only [go_sem, m7], by simp only [go_sem, m70], by simp only [go_sem, m71], by simp only [go_sem]⟩
            · rcases hvb j hj with h | h
              · exact .inl ⟨by omega, by omega⟩
              · subst h; exact hv8 j hj
            · rcases hqb j hj with h | h
              · exact ⟨by omega, by omega⟩
              · subst h; exact hq8 j hj
            · rintro (h | h | h)
              · have := hW5.ob.lt; omega
              · rcases hv8 _ h with h' | h'
                · exact h'.2 rfl
                · subst h'; have := Sl.vid_lt hW.l.sl h; omega
              · exact (hq8 _ h).2 rfl
          cases hres : (walk t g nd.kids[i] (kp nd.kind (p ++ nd.path) i) w8).1 with
          | false =>
            rw [hres] at q93 heq8
            refine AC_t q93 rfl ?_
            refine AC_seqQ TT_ok (by simp only [go_sem] <;> rfl) ?_
            rw [if_neg (by simp)] at heq8
            rw [heq8]
            exact AC_ret ⟨.inl rfl, _, rfl, by simp only [go_sem], vla, vpa, hWa, fun j hj => (hva j hj).imp (fun h => h.1) id, fun j hj => .inl (hqa j hj).1⟩
          | true =>
            rw [hres] at q93 heq8
            refine AC_f q93 rfl (AC_skip ?_)
            refine AC_quiet TT_ok (by simp only [go_sem, q71, k5] <;> rfl) ?_
            rw [if_pos rfl] at heq8
            exact ⟨16 - (i + 1), by omega, i + 1, _, vla, vpa, rfl, by omega, hWa, hok10, by omega, hva, hqa, hOa, hla, heq8, by simp only [go_sem, q0], by simp only [go_sem, q2], by simp only [go_sem, q7], by simp only [go_sem, q70], by simp only [go_sem]⟩
      · refine AC_f (by simp only [go_sem] <;> rfl) (decide_eq_false (by omega)) ?_
        have hi16 : i = 16 := by omega
        subst hi16
        rw [List.drop_eq_nil_of_le (by simp), wkids] at heq8
        exact AC_exit ⟨w8, vl8, vp8, heq8, hW8, fun j hj => (hv8 j hj).imp (fun h => h.1) id, fun j hj => .inl (hq8 j hj).1⟩
  · refine AC_t h30 (nd_true hC) ?_
    refine AC_seqQ TT_ok (by simp only [go_sem] <;> rfl) ?_
    rw [walk_no hC]
    refine AC_ret ⟨.inl rfl, _, rfl, by simp only [go_sem], vl, vp, hW, fun j _ => .inr rfl, fun j _ => .inr rfl⟩
end Go.Proofs.Ythalogdopkoidaa.Ab
