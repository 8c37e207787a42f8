/- Contract: umbelref10.maker.add. No statement of the seat's in it. -/
import Derived.Test.YthalogdopkoidaaC16
import Derived.Test.YthalogdopkoidaaC15
set_option linter.unusedVariables false
set_option linter.unusedSimpArgs false
namespace Go.Proofs.Ythalogdopkoidaa.Ab
open Go Go.RowKit

def P64 (f : Nat) : Prop := ∀ (H : AHeap) (mi : Nat) (vl vn vt vp : Value) (ps : List Pr) (t : List Nd) (q : List (List UInt8)) (a b at_ : Nat) (pre : List UInt8), MS H mi vl vn vt vp ps t q → Seg ps a b at_ → Pre ps a b at_ pre → Fu (sg ps a b at_) f → q.length = t.length → t.length + (bld f (sg ps a b at_) t.length).length < 2^30 → ps.length < 2^30 → (∀ p ∈ ps, p.key.length < 2^30) →
  ACalls Try.prog 64 [.pointer (some ⟨mi, 0, none⟩), .int .i64 (a : Nat), .int .i64 (b : Nat), .int .i64 (at_ : Nat)] H (fun i => i = mi ∨ vid vt = some i ∨ vid vp = some i) fun v H' =>
    v = .int .i64 (t.length : Nat) ∧ ∃ vt' vp', MS H' mi vl vn vt' vp' ps (t ++ bld f (sg ps a b at_) t.length) (q ++ pth f (sg ps a b at_) pre) ∧ (∀ j, vid vt' = some j → H.length ≤ j) ∧ ∀ j, vid vp' = some j → H.length ≤ j

theorem Pre.up {ps : List Pr} {a b at_ c : Nat} {pre w : List UInt8} (h : Pre ps a b at_ pre) (hw : ∀ i, a ≤ i → (h : i < b) → (h2 : i < ps.length) → ((nib (ps[i]).key).drop at_).take c = w) : Pre ps a b (at_ + c) (pre ++ w) := fun i h1 h2 h3 => by
  rw [List.take_add, h i h1 h2 h3, hw i h1 h2 h3]
theorem Pre.part {ps : List Pr} {a b at_ m e : Nat} {pre : List UInt8} (h : Pre ps a b at_ pre) (h1 : a ≤ m) (h2 : e ≤ b) : Pre ps m e at_ pre := fun i g1 g2 g3 => h i (by omega) (by omega) g3

theorem Own.nd_ptr {H : AHeap} {v : Value} {ns : List Nd} (h : NdB H v ns) (hn : ns ≠ []) : ∃ i, Own H v 49 ns.length (ns.flatMap Nd.cells) i := Buf.own h (fun e => hn (List.length_eq_zero_iff.1 e))
theorem getMid {α : Type} (t : List α) (x : α) (r : List α) (h : t.length < (t ++ x :: r).length) : (t ++ x :: r)[t.length] = x := by simp
theorem setMid {α : Type} (t : List α) (x y : α) (r : List α) : (t ++ x :: r).set t.length y = t ++ y :: r := by simp

/-- One cell of a node is written: the slice's own block. -/
theorem Own.cell {H' : AHeap} {v : Value} {t : List Nd} {k i j : Nat} {u : Value} {y : Nd} (hk : k < t.length) (hj : j < 20) (hy : y.cells = (t[k]).cells.set j u) (h : Own H' v 49 t.length (over (t.flatMap Nd.cells) (k * 20 + j) [u]) i) : Own H' v 49 (t.set k y).length ((t.set k y).flatMap Nd.cells) i := by
  have e : over (t.flatMap Nd.cells) (k * 20 + j) [u] = (t.flatMap Nd.cells).set (k * 20 + j) u := rfl
  rw [e, rows_set Nd.len t k j u y hk hj hy] at h
  rw [List.length_set]
  exact h
theorem Own.ndB {H : AHeap} {v : Value} {t : List Nd} {i : Nat} (h : Own H v 49 t.length (t.flatMap Nd.cells) i) : NdB H v t := .inr ⟨i, h⟩
theorem kidxU {H : AHeap} {v : Value} {t : List Nd} (h : NdS H v t) {i : Nat} (hi : i < t.length) {c : UInt8} (hc : c.toNat < 16) : aindex TT 47 (ep v (i * 20 + 4)) (U c) = some (ep v (i * 20 + (4 + c.toNat))) := h.kidx hi (c := c.toNat) hc

set_option maxHeartbeats 8000000 in
theorem c64 {f : Nat} (ih : P64 f) : P64 (f + 1) := by
  intro H mi vl vn vt vp ps t q a b at_ pre hM hseg hpre hfu hql hbd hpl hkl
  have hlt := hseg.lt
  have hle := hseg.le
  have hla := hseg.len a (Nat.le_refl _) hlt
  have hlb := hseg.len (b - 1) (by omega) (by omega)
  have hpa := hpre a (Nat.le_refl _) hlt (by omega)
  have hpos : 1 ≤ (bld (f + 1) (sg ps a b at_) t.length).length := by
    rcases Nat.lt_or_ge (a + 1) b with h | h
    · obtain ⟨y, r, e1, e2, e3⟩ := sg_two (at_ := at_) h hle
      rw [e2]
      by_cases hc : 0 < com ((nib (ps[a]).key).drop at_) (lst y r).1
      · rw [bld_ext _ _ _ _ _ hc]; simp
      · rw [bld_brn _ _ _ _ _ hc]; simp
    · rw [sg_cons ps a b at_ hlt hle, show a + 1 = b by omega, sg_nil, bld_one]; simp
  refine ACalls_by 231 TT_ok Try.func64 rfl rfl rfl (by simp) ?_
  refine AC_seqQ TT_ok (by simp only [go_sem] <;> rfl) ?_
  refine AC_seqQ TT_ok (by simp only [go_sem, anil_ptr, f101 _ 2 (by decide), hM.ob.load, ap4_2 _ _ _ _ 24 rfl, hM.t.sl.alen] <;> rfl) ?_
  -- the new node
  refine AC_cut (fun e' H' => ∃ vt1, MS H' mi vl vn vt1 vp ps (t ++ [zNd]) q ∧ AExt (fun i => i = mi ∨ vid vt = some i) H H' ∧ (∀ j, vid vt1 = some j → H.length ≤ j) ∧ get e' 0 = .pointer (some ⟨mi, 0, none⟩) ∧ get e' 1 = .int .i64 (a : Nat) ∧ get e' 2 = .int .i64 (b : Nat) ∧ get e' 3 = .int .i64 (at_ : Nat) ∧ get e' 9 = .int .i64 (t.length : Nat)) ?_ (fun e0 H0 _ ⟨vt1, hM0, hX0, hv1, h0, h1, h2, h3, h9⟩ => ?_)
  · refine AC_regL ?_
    refine AQ_take TT_ok 6 rfl (by simp only [go_sem, anil_ptr, f101 _ 2 (by decide), hM.ob.load, ap4_2 _ _ _ _ 24 rfl, List.map_nil, bz49] <;> rfl) ?_
    refine AQ_lit TT_ok [zNd.val] TT_24 rfl TT_49 rfl (by decide) rfl (by decide) rfl (by simp only [List.map_cons, List.map_nil, go_sem, numbered]) (fun v hv => ?_) fun H1 hX1 hO1 hL1 => ?_
    · rw [List.mem_singleton] at hv; subst hv; exact ⟨_, Lay.nd _, rfl⟩
    refine AQ_append TT_ok (v := vt) (n := t.length) (m := 1) TT_24 rfl TT_49 (by decide) (by decide) rfl (by simp only [go_sem]) (by simp only [go_sem]) (hM.keep hX1).t hO1.sl (rows_length Nd.len t) rfl (by simp; omega) (fun j hj => .inr (.inr (.inl hj))) (.inl rfl) fun vt1 H2 hX2 hB2 hv2 => ?_
    have hv2' : ∀ j, vid vt1 = some j → H1.length ≤ j := fun j hj => by
      rcases hv2 j hj with h | h
      · exact h
      · cases h.1
    have hN : NdB H2 vt1 (t ++ [zNd]) := by
      have e : t.flatMap Nd.cells ++ ([zNd.val] : List Value).flatMap (fun v => v.cells.toList) = (t ++ [zNd]).flatMap Nd.cells := by
        rw [List.flatMap_append]; rfl
      rw [e] at hB2
      rw [NdB, List.length_append]
      exact hB2
    refine AQ_take TT_ok 2 rfl (by simp only [go_sem, anil_ptr, f101 _ 2 (by decide)] <;> rfl) ?_
    have hb2 : Ob H2 mi 101 [vl, vn, vt, vp] := (hM.keep hX1).ob.ext hX2 (fun h => (hM.tl _ h).2.2.2 rfl)
    refine AQ_store TT_ok TT_24 rfl (by simp only [go_sem] <;> rfl) (by simp only [go_sem] <;> rfl) (hN.sl.one.lay) rfl hb2 (by simp) (.inr (.inl rfl)) (.inl rfl) fun H3 hX3 hO3 hL3 => ?_
    refine AQ_nil ?_
    refine ⟨vt1, (hM.keep hX1).appT hX2 hN hv2' hX3 hO3, ?_, fun j hj => by have := hv2' j hj; omega, by simp only [go_sem], by simp only [go_sem], by simp only [go_sem], by simp only [go_sem], by simp only [go_sem]⟩
    exact ((hX1.any.trans (hX2.mono fun i _ h => .inr h)).trans (hX3.mono fun i _ h => .inl h))
  -- the path
  have ka := hM0.n.index (k := .i64) (j := a) (by rw [nks_length]; omega)
  have kna : (nks ps)[a]'(by rw [nks_length]; omega) = nib (ps[a]).key := by simp [nks]
  have sl0 := aslice_S01 (l := nib (ps[a]).key) (b := at_) (k := .i64) hla
  rw [hpa] at sl0
  refine AC_cut (fun e' H' => ∃ vp1, MS H' mi vl vn vt1 vp1 ps (t ++ [zNd]) (q ++ [pre]) ∧ AExt (fun i => i = mi ∨ vid vt = some i ∨ vid vp = some i) H H' ∧ (∀ j, vid vp1 = some j → H.length ≤ j) ∧ get e' 0 = .pointer (some ⟨mi, 0, none⟩) ∧ get e' 1 = .int .i64 (a : Nat) ∧ get e' 2 = .int .i64 (b : Nat) ∧ get e' 3 = .int .i64 (at_ : Nat) ∧ get e' 9 = .int .i64 (t.length : Nat)) ?_ (fun e1 H1 _ ⟨vp1, hM1, hX1, hvp1, h0, h1, h2, h3, h9⟩ => ?_)
  · have hpm : ¬ vid vp = some mi := fun h => (hM0.pl _ h).2.2 rfl
    have oM := hM0.ob.ext (msk_ext H0 vp) hpm
    have nM := hM0.n.ext (msk_ext H0 vp) (fun j _ hj h => (hM0.pl j h).2.1 hj)
    have kb := nM.load (i := a) (by rw [nks_length]; omega)
    rw [kna] at kb
    refine AC_drawG (fun j => vid vp = some j) (msk H0 vp) [18] [(0, true), (1, true), (2, true), (3, true), (4, true), (5, true), (6, true), (7, true), (8, true), (9, true), (10, true), (11, true), (12, true), (13, true), (14, false), (15, false), (16, true), (17, true), (18, false)] mixed (by kernel_rfl) (Buf.live hM0.p) (fun j o h => msk_live h) (Nat.le_of_eq (msk_len _ _)) ?_
    refine AG_sel (σ := [(14, false), (15, false), (16, true), (17, true), (18, false)]) TT_ok [0, 1, 2, 3, 4, 5, 6, 7, 8, 9, 10, 11, 12, 13] _ (by simp only [go_sem, h0, h1, h3, anil_ptr, f101 _ 3 (by decide), f101 _ 1 (by decide), oM.load, ap4_3 _ _ _ _ 30 rfl, ap4_1 _ _ _ _ 30 rfl, ka, kb, sl0] <;> rfl) ?_
    refine AG_lit TT_ok [S pre] rfl TT_30 rfl TT_9 rfl (by decide) rfl (by decide) rfl (by simp only [List.map_cons, List.map_nil, go_sem, numbered]) (fun v hv => ?_) fun H2 hX2 hO2 hL2 => ?_
    · rw [List.mem_singleton] at hv; subst hv; exact ⟨_, (One.str _).lay, rfl⟩
    refine AG_append TT_ok (v := vp) (n := q.length) (m := 1) rfl TT_30 rfl TT_9 (by decide) (by decide) rfl (by simp only [go_sem]) (by simp only [go_sem]) (hM0.keep hX2).p hO2.sl (rows_length sCell_len _) rfl (by simp; omega) (fun j hj => .inr (.inr (.inr hj))) (fun j _ hj => hj) fun vp1 H3 hX3 hB3 hv3 => ?_
    have hv3' : ∀ j, vid vp1 = some j → H2.length ≤ j := fun j hj => by
      rcases hv3 j hj with h | h
      · exact h
      · cases h.1
    have hN : StB H3 vp1 (q ++ [pre]) := by
      have e : q.flatMap sCell ++ ([S pre] : List Value).flatMap (fun v => v.cells.toList) = (q ++ [pre]).flatMap sCell := by
        rw [List.flatMap_append]; rfl
      rw [e] at hB3
      rw [StB, List.length_append]
      exact hB3
    have hb3 : Ob H3 mi 101 [vl, vn, vt1, vp] := (hM0.keep hX2).ob.ext hX3 hpm
    refine AG_sel (σ := [(18, false)]) TT_ok [16, 17] _ (by simp only [go_sem, anil_ptr, f101 _ 3 (by decide)] <;> rfl) ?_
    refine AG_store TT_ok rfl TT_30 rfl (by simp only [go_sem] <;> rfl) (by simp only [go_sem] <;> rfl) hN.sl.one.lay rfl hb3 (by simp) (.inr (.inl rfl)) rfl fun H4 hX4 hO4 hL4 => ?_
    refine AG_nil ?_
    have s0 := hX0.size
    refine ⟨vp1, (hM0.keep hX2).appP hX3 hN hv3' hX4 hO4, ?_, fun j hj => by have := hv3' j hj; omega, by simp only [go_sem, h0], by simp only [go_sem, h1], by simp only [go_sem, h2], by simp only [go_sem, h3], by simp only [go_sem, h9]⟩
    exact (((hX0.mono fun i _ h => h.imp id .inl).trans hX2.any).trans (hX3.mono fun i _ h => .inr (.inr h))).trans (hX4.mono fun i _ h => .inl h)
  have ka := hM1.n.index (k := .i64) (j := a) (by rw [nks_length]; omega)
  have kb := hM1.n.load (i := a) (by rw [nks_length]; omega)
  rw [kna] at kb
  have wa1 := wrapN a (by omega)
  have hlen1 : t.length < (t ++ [zNd]).length := by simp
  have kx := hM1.t.sl.index (k := .i64) (j := (t.length : Int)) (by omega) (by simp; omega)
  rw [Int.toNat_natCast] at kx
  obtain ⟨ti, hO⟩ := Buf.own hM1.t (by simp)
  refine AC_seq ?_
  refine AC_seqQ TT_ok (by simp only [go_sem, h1, h2, wa1] <;> rfl) ?_
  by_cases hone : a + 1 = b
  · -- one pair: a leaf
    refine AC_t (by simp only [go_sem] <;> rfl) (decide_eq_true (by omega)) ?_
    have l1 := hM1.l.index (k := .i64) (j := (a : Int)) (by omega) (by omega)
    rw [Int.toNat_natCast] at l1
    have l2 := hM1.l.f1 (i := a) (by omega)
    have l3 := hM1.l.value (i := a) (by omega)
    refine AC_seq ?_
    refine AC_regD [24] mixed (by kernel_rfl) ?_
    refine AQ_take TT_ok 24 rfl (by simp only [go_sem, h0, h1, h3, h9, anil_ptr, f101 _ 2 (by decide), f101 _ 1 (by decide), f101 _ 0 (by decide), hM1.ob.load, ap4_2 _ _ _ _ 24 rfl, ap4_1 _ _ _ _ 30 rfl, ap4_0 _ _ _ _ 22 rfl, ka, kb, aslice_S10 hla, l1, l2, l3, List.map_cons, List.map_nil, bl49, kx] <;> rfl) ?_
    refine AQ_storeE TT_ok TT_49 rfl (by simp only [go_sem] <;> rfl) (by simp only [go_sem] <;> rfl) (Lay.nd _) rfl hO (rowsLen20 _ hlen1) (.inl (hv1 _ hO.vid)) (.inr rfl) fun H2 hX2 hO2 hL2 => ?_
    refine AQ_nil ?_
    have hN := NdB.set hlen1 rfl hO2
    rw [set_mid] at hN
    have hM2 := hM1.put hO.vid hX2 hN
    refine AC_seqQ TT_ok (by simp only [go_sem, h9] <;> rfl) ?_
    refine AC_ret ⟨.inl rfl, _, rfl, by simp only [go_sem], vt1, vp1, ?_, hv1, hvp1⟩
    rw [sg_cons ps a b at_ hlt hle, hone, sg_nil, bld_one, pth_one]
    exact hM2
  · refine AC_f (by simp only [go_sem] <;> rfl) (decide_eq_false (by omega)) ?_
    refine AC_skip ?_
    have h2b : a + 1 < b := by omega
    obtain ⟨y, r, e1, e2, e3⟩ := sg_two (at_ := at_) h2b hle
    have kc := hM1.n.index (k := .i64) (j := b - 1) (by rw [nks_length]; omega)
    have kd := hM1.n.load (i := b - 1) (by rw [nks_length]; omega)
    have knb : (nks ps)[b - 1]'(by rw [nks_length]; omega) = nib (ps[b - 1]).key := by simp [nks]
    rw [knb] at kd
    have wb1 := wrapNN (x := (b : Int) - 1) (m := b - 1) (by omega) (by omega)
    have hkla : (nib (ps[a]).key).length < 2^31 := by
      have := hkl _ (List.getElem_mem (show a < ps.length by omega)); rw [nib_length]; omega
    refine AC_cut (fun e' H' => H' = H1 ∧ get e' 0 = .pointer (some ⟨mi, 0, none⟩) ∧ get e' 1 = .int .i64 (a : Nat) ∧ get e' 2 = .int .i64 (b : Nat) ∧ get e' 3 = .int .i64 (at_ : Nat) ∧ get e' 9 = .int .i64 (t.length : Nat) ∧ get e' 10 = .int .i64 (com ((nib (ps[a]).key).drop at_) ((nib (ps[b - 1]).key).drop at_) : Nat)) ?_ (fun E2 H2 _ ⟨hH, g0, g1, g2, g3, g9, g10⟩ => ?_)
    · refine AC_regD [] mixed (by kernel_rfl) ?_
      refine AQ_take TT_ok 19 rfl (by simp only [go_sem, h0, h1, h2, h3, anil_ptr, f101 _ 1 (by decide), hM1.ob.load, ap4_1 _ _ _ _ 30 rfl, ka, kb, aslice_S10 hla, wb1, kc, kd, aslice_S10 hlb] <;> rfl) ?_
      refine AQ_c rfl (by simp only [go_sem] <;> rfl) fok76 (by simp only [List.map_cons, List.map_nil, List.append_nil, go_sem] <;> rfl) (c76 (a := (nib (ps[a]).key).drop at_) (b := (nib (ps[b - 1]).key).drop at_) (by rw [List.length_drop]; omega)) (fun _ _ h => h.elim) (.inr (.inr fun _ _ h => h)) fun v H2 hX2 ⟨hv, hH⟩ => ?_
      subst hv hH
      refine AQ_all TT_ok rfl (by simp only [go_sem] <;> rfl) ?_
      exact ⟨rfl, by simp only [go_sem, h0], by simp only [go_sem, h1], by simp only [go_sem, h2], by simp only [go_sem, h3], by simp only [go_sem, h9], by simp only [go_sem]⟩
    subst hH
    generalize hc : com ((nib (ps[a]).key).drop at_) ((nib (ps[b - 1]).key).drop at_) = c at g10
    have hcl : c ≤ (nib (ps[a]).key).length - at_ := by
      have := com_left ((nib (ps[a]).key).drop at_) ((nib (ps[b - 1]).key).drop at_)
      rw [List.length_drop] at this
      omega
    have s1 := hX1.size
    refine AC_seq ?_
    refine AC_seqQ TT_ok (by simp only [go_sem, g10] <;> rfl) ?_
    by_cases hcp : 0 < c
    · -- an Ext
      refine AC_t (by simp only [go_sem] <;> rfl) (decide_eq_true (by omega)) ?_
      have hcom : com ((nib (ps[a]).key).drop at_) (lst y r).1 = c := by rw [e3]; exact hc
      have hbx : bld (f + 1) (sg ps a b at_) t.length = ⟨2, ((nib (ps[a]).key).drop at_).take c, false, [], zk.set 0 ((t.length + 1 : Nat) : Int)⟩ :: bld f (sg ps a b (at_ + c)) (t.length + 1) := by
        rw [e2, bld_ext _ _ _ _ _ (by dsimp only; rw [hcom]; exact hcp)]
        dsimp only
        rw [hcom, ← e2, sg_cut]
      have hpx : pth (f + 1) (sg ps a b at_) pre = pre :: pth f (sg ps a b (at_ + c)) (pre ++ ((nib (ps[a]).key).drop at_).take c) := by
        rw [e2, pth_ext _ _ _ _ _ (by dsimp only; rw [hcom]; exact hcp)]
        dsimp only
        rw [hcom, ← e2, sg_cut]
      rw [hbx] at hbd
      have hseg2 := hseg.ext_ h2b hle hc.symm
      have hpre2 : Pre ps a b (at_ + c) (pre ++ ((nib (ps[a]).key).drop at_).take c) := hpre.up fun i z1 z2 z3 => by
        have hr := hseg.ris
        rw [e2] at hr
        have hcm := hr.common _ (e2 ▸ sg_in (a := a) (b := b) (at_ := at_) (i := i) hle z1 z2)
        dsimp only at hcm
        rw [hcom] at hcm
        have hl : (((nib (ps[a]).key).drop at_).take c).length = c := by rw [List.length_take, List.length_drop]; omega
        have := List.prefix_iff_eq_take.1 hcm
        rw [hl] at this
        exact this.symm
      have hfu2 : Fu (sg ps a b (at_ + c)) f := by
        rw [← sg_cut]
        intro z hz
        obtain ⟨z0, hz0, rfl⟩ := List.mem_map.1 hz
        have h1 := hfu z0 hz0
        obtain ⟨i, q1, q2, rfl⟩ := sg_mem hle hz0
        have h3 := hseg2.len i q1 q2
        simp only [cut, List.length_drop] at h1 ⊢
        omega
      have wac := wrapNN (x := (at_ : Int) + (c : Int)) (m := at_ + c) (by omega) (by omega)
      have sl := aslice_S11 (l := nib (ps[a]).key) (a := at_) (b := at_ + c) (k := .i64) (k' := .i64) (by omega) (by omega)
      have sle : ((nib (ps[a]).key).take (at_ + c)).drop at_ = ((nib (ps[a]).key).drop at_).take c := by rw [List.drop_take, Nat.add_sub_cancel_left]
      rw [sle] at sl
      refine AC_seq ?_
      refine AC_regD [19] mixed (by kernel_rfl) ?_
      refine AQ_take TT_ok 19 rfl (by simp only [go_sem, g0, g1, g3, g9, g10, anil_ptr, f101 _ 2 (by decide), f101 _ 1 (by decide), hM1.ob.load, ap4_2 _ _ _ _ 24 rfl, ap4_1 _ _ _ _ 30 rfl, ka, kb, wac, sl, List.map_cons, List.map_nil, be49, kx] <;> rfl) ?_
      refine AQ_storeE TT_ok TT_49 rfl (by simp only [go_sem] <;> rfl) (by simp only [go_sem] <;> rfl) (Lay.nd _) rfl hO (rowsLen20 _ hlen1) (.inl (hv1 _ hO.vid)) (.inr rfl) fun H3 hX3 hO3 hL3 => ?_
      refine AQ_nil ?_
      have hN := NdB.set hlen1 rfl hO3
      rw [set_mid] at hN
      have hM3 := hM1.put hO.vid hX3 hN
      have hln : (t ++ [(⟨2, ((nib (ps[a]).key).drop at_).take c, false, [], zk⟩ : Nd)]).length = t.length + 1 := by simp
      have s3 := hX3.size
      refine AC_seq ?_
      refine AC_regL ?_
      refine AQ_take TT_ok 6 rfl (by simp only [go_sem, g0, g1, g2, g3, g10, wac] <;> rfl) ?_
      refine AQ_c rfl (by simp only [go_sem] <;> rfl) fok64 (by simp only [List.map_cons, List.map_nil, List.append_nil, go_sem] <;> rfl) (ih H3 mi vl vn vt1 vp1 ps (t ++ [⟨2, ((nib (ps[a]).key).drop at_).take c, false, [], zk⟩]) (q ++ [pre]) a b (at_ + c) (pre ++ ((nib (ps[a]).key).drop at_).take c) hM3 hseg2 hpre2 hfu2 (by simp [hql]) (by rw [hln]; simp at hbd; omega) hpl hkl) (fun i hi hm => ?_) (.inl rfl) fun v H5 hX5 ⟨hv, vt5, vp5, hM5, hv5, hp5⟩ => ?_
      · rcases hm with rfl | hm | hm
        · exact .inr (.inl rfl)
        · exact .inl (hv1 i hm)
        · exact .inl (hvp1 i hm)
      rw [hln] at hM5 hv
      subst hv
      refine AQ_all TT_ok rfl (by simp only [go_sem] <;> rfl) ?_
      have s5 := hX5.size
      rw [List.append_assoc, List.singleton_append, List.append_assoc, List.singleton_append] at hM5
      have hlen5 : t.length < (t ++ (⟨2, ((nib (ps[a]).key).drop at_).take c, false, [], zk⟩ : Nd) :: bld f (sg ps a b (at_ + c)) (t.length + 1)).length := by simp
      have kx5 := hM5.t.sl.index (k := .i64) (j := (t.length : Int)) (by omega) (Int.ofNat_lt.2 hlen5)
      rw [Int.toNat_natCast] at kx5
      have f4 := NdS.f4 hM5.t.sl hlen5
      have i0 : aindex TT 47 (ep vt5 (t.length * 20 + 4)) (.int .i64 0) = some (ep vt5 (t.length * 20 + (4 + 0))) := NdS.kidx hM5.t.sl hlen5 (c := 0) (by decide)
      obtain ⟨tj, hO5⟩ := Buf.own hM5.t (by simp)
      refine AC_seq ?_
      refine AC_regL ?_
      refine AQ_take TT_ok 9 rfl (by simp only [go_sem, g0, g9, anil_ptr, f101 _ 2 (by decide), hM5.ob.load, ap4_2 _ _ _ _ 24 rfl, kx5, f4, i0] <;> rfl) ?_
      refine AQ_storeE TT_ok TT_3 rfl (by simp only [go_sem] <;> rfl) (by simp only [go_sem] <;> rfl) (One.int _ _).lay rfl hO5 (by have := rowsLen20 _ hlen5; simp only [List.length_singleton]; omega) (.inl (Nat.le_trans (by omega) (hv5 _ hO5.vid))) (.inl rfl) fun H6 hX6 hO6 hL6 => ?_
      refine AQ_nil ?_
      have hN6 := NdB.cell (k := t.length) (j := 4 + 0) (y := ⟨2, ((nib (ps[a]).key).drop at_).take c, false, [], zk.set 0 ((t.length + 1 : Nat) : Int)⟩) hlen5 (by decide) (by
        rw [getMid]
        exact (Nd.over_kid ⟨2, ((nib (ps[a]).key).drop at_).take c, false, [], zk⟩ 0 (by decide) _).symm) hO6
      rw [setMid] at hN6
      have hM6 := hM5.put hO5.vid hX6 hN6
      refine AC_seqQ TT_ok (by simp only [go_sem, g9] <;> rfl) ?_
      refine AC_ret ⟨.inl rfl, _, rfl, by simp only [go_sem], vt5, vp5, ?_, fun j hj => Nat.le_trans (by omega) (hv5 j hj), fun j hj => Nat.le_trans (by omega) (hp5 j hj)⟩
      rw [hbx, hpx]
      exact hM6
    · -- a Branch
      have hc0 : c = 0 := by omega
      subst hc0
      refine AC_f (by simp only [go_sem] <;> rfl) (decide_eq_false (by omega)) ?_
      refine AC_skip ?_
      have hcom0 : com ((nib (ps[a]).key).drop at_) (lst y r).1 = 0 := by rw [e3]; exact hc
      have hgs0 : groups (if (nib (ps[a]).key).drop at_ = [] then y :: r else ((nib (ps[a]).key).drop at_, (ps[a]).value) :: y :: r) = gs0 ps a b at_ := by
        rw [gs0, e1, e2]; rfl
      have hbx : bld (f + 1) (sg ps a b at_) t.length = nb0 f ps a b at_ (t.length + 1) :: (brn (bld f) (gs0 ps a b at_) (t.length + 1) zk).1 := by
        rw [e2, bld_brn _ _ _ _ _ (by dsimp only; omega)]
        dsimp only
        rw [hgs0, nb0, e2]
        rfl
      have hpx : pth (f + 1) (sg ps a b at_) pre = pre :: pbrn (pth f) pre (gs0 ps a b at_) := by
        rw [e2, pth_brn _ _ _ _ _ (by dsimp only; omega)]
        dsimp only
        rw [hgs0]
      have hhd : (sg ps a b at_).headD ([], []) = ((nib (ps[a]).key).drop at_, (ps[a]).value) := by rw [e2]; rfl
      rw [hbx] at hbd
      have f0 := NdS.f0 hM1.t.sl hlen1
      refine AC_seq ?_
      refine AC_regL ?_
      refine AQ_take TT_ok 7 rfl (by simp only [go_sem, g0, g9, anil_ptr, f101 _ 2 (by decide), hM1.ob.load, ap4_2 _ _ _ _ 24 rfl, kx, f0] <;> rfl) ?_
      refine AQ_storeE TT_ok TT_3 rfl (by simp only [go_sem] <;> rfl) (by simp only [go_sem] <;> rfl) (One.int _ _).lay rfl hO (by have := rowsLen20 _ hlen1; simp only [List.length_singleton]; omega) (.inl (hv1 _ hO.vid)) (.inl rfl) fun H3 hX3 hO3 hL3 => ?_
      refine AQ_nil ?_
      have hN3 := Own.cell (k := t.length) (j := 0) (y := ⟨3, [], false, [], zk⟩) hlen1 (by decide) (by
        rw [getMid]
        exact (Nd.over_kind zNd 3).symm) hO3
      rw [setMid] at hN3
      have hM3 := hM1.put hO.vid hX3 hN3.ndB
      have hlen3 : t.length < (t ++ [(⟨3, [], false, [], zk⟩ : Nd)]).length := by simp
      have s3 := hX3.size
      have ka3 := hM3.n.index (k := .i64) (j := a) (by rw [nks_length]; omega)
      have kb3 := hM3.n.load (i := a) (by rw [nks_length]; omega)
      rw [kna] at kb3
      -- the Branch's own value
      refine AC_cut (fun e' H' => ∃ a1, a ≤ a1 ∧ a1 ≤ b ∧ a1 < b ∧ (∀ i, a1 ≤ i → (h2 : i < b) → at_ < (nib (ps[i]'(by omega)).key).length) ∧ gs0 ps a b at_ = groups (sg ps a1 b at_) ∧
          MS H' mi vl vn vt1 vp1 ps (t ++ [⟨3, [], decide ((nib (ps[a]).key).drop at_ = []), if (nib (ps[a]).key).drop at_ = [] then (ps[a]).value else [], zk⟩]) (q ++ [pre]) ∧ H3.length ≤ H'.length ∧
          get e' 0 = .pointer (some ⟨mi, 0, none⟩) ∧ get e' 1 = .int .i64 (a1 : Nat) ∧ get e' 2 = .int .i64 (b : Nat) ∧ get e' 3 = .int .i64 (at_ : Nat) ∧ get e' 9 = .int .i64 (t.length : Nat)) ?_ (fun e4 H4 _ ⟨a1, ha1, ha1b, ha1b', hfull, hgs, hM4, hl4, h0, h1, h2, h3, h9⟩ => ?_)
      · refine AC_seqQ TT_ok (by simp only [go_sem, g0, g1, g3, anil_ptr, f101 _ 1 (by decide), hM3.ob.load, ap4_1 _ _ _ _ 30 rfl, ka3, kb3] <;> rfl) ?_
        by_cases he : (nib (ps[a]).key).length = at_
        · refine AC_t (by simp only [go_sem] <;> rfl) (decide_eq_true (by omega)) ?_
          have hnil : (nib (ps[a]).key).drop at_ = [] := List.drop_eq_nil_of_le (by omega)
          obtain ⟨tk, hOk⟩ := Buf.own hM3.t (by simp)
          obtain ⟨z1, z2, z3, z4⟩ := hM3.tl tk hOk.vid
          have hXm := AExt.set1 H3 tk none
          have oM := hM3.ob.ext hXm (fun h => z4 h.symm)
          have lM := hM3.l.ext hXm (fun i _ hi h => z1 (by rw [hi, h]))
          have l1 := lM.index (k := .i64) (j := (a : Int)) (by omega) (by omega)
          rw [Int.toNat_natCast] at l1
          have l2 := lM.f1 (i := a) (by omega)
          have l3 := lM.value (i := a) (by omega)
          have kx3 := hM3.t.sl.index (k := .i64) (j := (t.length : Int)) (by omega) (Int.ofNat_lt.2 hlen3)
          rw [Int.toNat_natCast] at kx3
          have f2 := NdS.f2 hM3.t.sl hlen3
          have f3 := NdS.f3 hM3.t.sl hlen3
          obtain ⟨_, _, hOb, _, _⟩ := id hOk
          refine AC_seq ?_
          refine AC_drawM tk [] _ mixed (by kernel_rfl : Dr.schedOK .any _ [] [(0, true), (1, true), (2, true), (3, true), (4, true), (5, true), (6, true), (7, true), (8, true), (9, true), (10, true), (11, true), (12, true), (13, true), (14, true), (15, true), (16, true), (17, true), (18, true), (19, true), (20, false), (21, true), (22, true), (23, false)] = true) hOb rfl ?_
          refine AM_sel (σ := [(20, false), (21, true), (22, true), (23, false)]) TT_ok [0, 1, 2, 3, 4, 5, 6, 7, 8, 9, 10, 11, 12, 13, 14, 15, 16, 17, 18, 19] _ (by simp only [go_sem, g0, g1, g9, anil_ptr, f101 _ 2 (by decide), f101 _ 0 (by decide), oM.load, ap4_2 _ _ _ _ 24 rfl, ap4_0 _ _ _ _ 22 rfl, l1, l2, l3, kx3, f2] <;> rfl) ?_
          refine AM_storeE TT_ok rfl rfl rfl TT_4 rfl (by simp only [go_sem] <;> rfl) (by simp only [go_sem] <;> rfl) (One.bool _).lay rfl hOk (by have := rowsLen20 _ hlen3; simp only [List.length_singleton]; omega) (.inl (hv1 _ hOk.vid)) fun H5 hX5 hO5 hL5 => ?_
          have hO5' := Own.cell (k := t.length) (j := 2) (y := ⟨3, [], true, [], zk⟩) hlen3 (by decide) (by
            rw [getMid]
            exact (Nd.over_has ⟨3, [], false, [], zk⟩ true).symm) hO5
          rw [setMid] at hO5'
          have hlen5 : t.length < (t ++ [(⟨3, [], true, [], zk⟩ : Nd)]).length := by simp
          refine AM_sel (σ := [(23, false)]) TT_ok [21, 22] _ (by simp only [go_sem, kx3, f3] <;> rfl) ?_
          refine AM_storeE TT_ok rfl rfl rfl TT_9 rfl (by simp only [go_sem] <;> rfl) (by simp only [go_sem] <;> rfl) (One.str _).lay rfl hO5' (by have := rowsLen20 _ hlen5; simp only [List.length_singleton]; omega) (.inl (hv1 _ hOk.vid)) fun H6 hX6 hO6 hL6 => ?_
          have hO6' := Own.cell (k := t.length) (j := 3) (y := ⟨3, [], true, (ps[a]).value, zk⟩) hlen5 (by decide) (by
            rw [getMid]
            exact (Nd.over_value ⟨3, [], true, [], zk⟩ (ps[a]).value).symm) hO6
          rw [setMid] at hO6'
          refine AM_nil ?_
          refine AC_quiet TT_ok (by simp only [go_sem, g1, wa1] <;> rfl) ?_
          have hM6 := (hM3.put hOk.vid hX5 hO5'.ndB).put hOk.vid hX6 hO6'.ndB
          refine ⟨a + 1, by omega, by omega, h2b, hseg.full1, ?_, ?_, by have := hX5.size; have := hX6.size; omega, by simp only [go_sem, g0], by simp only [go_sem], by simp only [go_sem, g2], by simp only [go_sem, g3], by simp only [go_sem, g9]⟩
          · rw [gs0, hhd]; dsimp only; rw [if_pos hnil]
          · rw [if_pos hnil, decide_eq_true hnil]; exact hM6
        · refine AC_f (by simp only [go_sem] <;> rfl) (decide_eq_false (by omega)) ?_
          have hne : (nib (ps[a]).key).drop at_ ≠ [] := fun e => by
            have := congrArg List.length e
            simp at this
            omega
          refine AC_skip ⟨a, Nat.le_refl _, by omega, hlt, hseg.full (by omega), ?_, ?_, Nat.le_refl _, by simp only [go_sem, g0], by simp only [go_sem, g1], by simp only [go_sem, g2], by simp only [go_sem, g3], by simp only [go_sem, g9]⟩
          · rw [gs0, hhd]; dsimp only; rw [if_neg hne]
          · rw [if_neg hne, decide_eq_false hne]; exact hM3
      have hnb : nb0 f ps a b at_ (t.length + 1) = ⟨3, [], decide ((nib (ps[a]).key).drop at_ = []), if (nib (ps[a]).key).drop at_ = [] then (ps[a]).value else [], (brn (bld f) (groups (sg ps a1 b at_)) (t.length + 1) zk).2⟩ := by
        rw [nb0, hhd, hgs]
      rw [hgs] at hbd hbx hpx
      rw [hnb] at hbx
      generalize hhv : decide ((nib (ps[a]).key).drop at_ = []) = hh at hM4 hbx
      generalize hvv : (if (nib (ps[a]).key).drop at_ = [] then (ps[a]).value else []) = vv at hM4 hbx
      rw [List.length_cons] at hbd
      have hfull2 : ∀ i, a1 ≤ i → (h2 : i < b) → ∃ c : UInt8, c ≤ 15 ∧ (nib (ps[i]'(by omega)).key)[at_]? = some c := fun i q1 q2 => by
        have hl := hfull i q1 q2
        exact ⟨_, nib_small _ _ (List.getElem_mem hl), List.getElem?_eq_getElem hl⟩
      refine AC_cut (fun e' H' => ∃ vt' vp', MS H' mi vl vn vt' vp' ps (t ++ ⟨3, [], hh, vv, (brn (bld f) (groups (sg ps a1 b at_)) (t.length + 1) zk).2⟩ :: (brn (bld f) (groups (sg ps a1 b at_)) (t.length + 1) zk).1) (q ++ pre :: pbrn (pth f) pre (groups (sg ps a1 b at_))) ∧ (∀ j, vid vt' = some j → H.length ≤ j) ∧ (∀ j, vid vp' = some j → H.length ≤ j) ∧ get e' 9 = .int .i64 (t.length : Nat)) ?_ (fun E5 H5 _ ⟨vt5, vp5, hM5, hv5, hp5, g9⟩ => ?_)
      rotate_left
      · refine AC_seqQ TT_ok (by simp only [go_sem, g9] <;> rfl) ?_
        refine AC_ret ⟨.inl rfl, _, rfl, by simp only [go_sem], vt5, vp5, ?_, hv5, hp5⟩
        rw [hbx, hpx]
        exact hM5
      refine AC_block (AC_loop (fun n e' H' => ∃ (i : Nat) (Y : List Nd) (Z : List (List UInt8)) (kids : Vector Int 16) (vt' vp' : Value), n = b - i ∧ a1 ≤ i ∧ i ≤ b ∧ MS H' mi vl vn vt' vp' ps (t ++ ⟨3, [], hh, vv, kids⟩ :: Y) (q ++ pre :: Z) ∧ Z.length = Y.length ∧ (∀ j, vid vt' = some j → H.length ≤ j) ∧ (∀ j, vid vp' = some j → H.length ≤ j) ∧ H.length ≤ H'.length ∧
          brn (bld f) (groups (sg ps a1 b at_)) (t.length + 1) zk = (Y ++ (brn (bld f) (groups (sg ps i b at_)) (t.length + 1 + Y.length) kids).1, (brn (bld f) (groups (sg ps i b at_)) (t.length + 1 + Y.length) kids).2) ∧
          pbrn (pth f) pre (groups (sg ps a1 b at_)) = Z ++ pbrn (pth f) pre (groups (sg ps i b at_)) ∧
          get e' 0 = .pointer (some ⟨mi, 0, none⟩) ∧ get e' 1 = .int .i64 (i : Nat) ∧ get e' 2 = .int .i64 (b : Nat) ∧ get e' 3 = .int .i64 (at_ : Nat) ∧ get e' 9 = .int .i64 (t.length : Nat)) (b - a1)
        ⟨a1, [], [], zk, vt1, vp1, rfl, Nat.le_refl _, ha1b, hM4, rfl, hv1, hvp1, by omega, by simp, by simp, h0, h1, h2, h3, h9⟩ ?_)
      rintro n E H5 _ ⟨i, Y, Z, kids, vt3, vp3, hn, hi1, hi2, hM5, hZY, hv3, hp3, hl5, heq, hpq, g0, g1, g2, g3, g9⟩
      refine AC_seq ?_
      refine AC_seqQ TT_ok (by simp only [go_sem, g1, g2] <;> rfl) ?_
      by_cases hib : i < b
      · refine AC_t (by simp only [go_sem] <;> rfl) (lt_dec hib) ?_
        refine AC_skip ?_
        refine AC_block ?_
        obtain ⟨c, hc15, hcn⟩ := hfull2 i hi1 hib
        obtain ⟨hcl', hce⟩ := List.getElem?_eq_some_iff.1 hcn
        have hc16 : c.toNat < 16 := by
          have := UInt8.le_iff_toNat_le.1 hc15
          simp at this; omega
        have ki := hM5.n.index (k := .i64) (j := i) (by rw [nks_length]; omega)
        have kl := hM5.n.load (i := i) (by rw [nks_length]; omega)
        have kni : (nks ps)[i]'(by rw [nks_length]; omega) = nib (ps[i]).key := by simp [nks]
        rw [kni] at kl
        have kc' := aget_S (k := .i64) hcl'
        rw [hce] at kc'
        refine AC_seqQ TT_ok (by simp only [go_sem, g1] <;> rfl) ?_
        refine AC_cut (fun e' H' => H' = H5 ∧ ∃ m, ∃ (q1 : i < m) (q2 : m ≤ b), (∀ j, i ≤ j → (h : j < m) → (nib (ps[j]).key)[at_]? = some c) ∧ ((h : m < b) → (nib (ps[m]).key)[at_]? ≠ some c) ∧ get e' 0 = .pointer (some ⟨mi, 0, none⟩) ∧ get e' 1 = .int .i64 (i : Nat) ∧ get e' 2 = .int .i64 (b : Nat) ∧ get e' 3 = .int .i64 (at_ : Nat) ∧ get e' 9 = .int .i64 (t.length : Nat) ∧ get e' 12 = .int .i64 (m : Nat)) ?_ (fun E6 H6 _ hK => ?_)
        · refine AC_block (AC_loop (fun n' e' H' => ∃ (m : Nat) (q1 : i ≤ m) (q2 : m ≤ b), n' = b - m ∧ (∀ j, i ≤ j → (h : j < m) → (nib (ps[j]).key)[at_]? = some c) ∧ H' = H5 ∧ get e' 0 = .pointer (some ⟨mi, 0, none⟩) ∧ get e' 1 = .int .i64 (i : Nat) ∧ get e' 2 = .int .i64 (b : Nat) ∧ get e' 3 = .int .i64 (at_ : Nat) ∧ get e' 9 = .int .i64 (t.length : Nat) ∧ get e' 12 = .int .i64 (m : Nat)) (b - i)
            ⟨i, Nat.le_refl _, hi2, rfl, fun j q1 q2 => by omega, rfl, by simp only [go_sem, g0], by simp only [go_sem, g1], by simp only [go_sem, g2], by simp only [go_sem, g3], by simp only [go_sem, g9], by simp only [go_sem]⟩ ?_)
          rintro n' E7 H7 _ ⟨m, q1, q2, hn', hall, rfl, k0, k1, k2, k3, k9, k12⟩
          refine AC_seq ?_
          by_cases hmb : m < b
          · have d1 := lt_dec hmb
            obtain ⟨cm, _, hcm⟩ := hfull2 m (by omega) hmb
            obtain ⟨hml, hme⟩ := List.getElem?_eq_some_iff.1 hcm
            have mi' := hM5.n.index (k := .i64) (j := m) (by rw [nks_length]; omega)
            have ml := hM5.n.load (i := m) (by rw [nks_length]; omega)
            have mni : (nks ps)[m]'(by rw [nks_length]; omega) = nib (ps[m]).key := by simp [nks]
            rw [mni] at ml
            have mc := aget_S (k := .i64) hml
            rw [hme] at mc
            refine AC_seqD TT_ok mixed (by kernel_rfl) (by simp only [go_sem, k0, k1, k2, k3, k12, d1, anil_ptr, f101 _ 1 (by decide), hM5.ob.load, ap4_1 _ _ _ _ 30 rfl, mi', ml, mc, ki, kl, kc'] <;> rfl) ?_
            by_cases hcc : cm = c
            · subst hcc
              refine AC_t (by simp only [go_sem] <;> rfl) (by simp) ?_
              refine AC_skip (AC_block ?_)
              have wm := wrapN m (by omega)
              refine AC_quiet TT_ok (by simp only [go_sem, k12, wm] <;> rfl) ?_
              refine ⟨b - (m + 1), by omega, m + 1, by omega, by omega, rfl, fun j z1 z2 => ?_, rfl, by simp only [go_sem, k0], by simp only [go_sem, k1], by simp only [go_sem, k2], by simp only [go_sem, k3], by simp only [go_sem, k9], by simp only [go_sem]⟩
              by_cases hj : j < m
              · exact hall j z1 hj
              · have : j = m := by omega
                subst this; exact hcm
            · refine AC_f (by simp only [go_sem] <;> rfl) (decide_eq_false hcc) ?_
              have him : i ≠ m := by
                rintro rfl
                rw [hcn] at hcm
                exact hcc (Option.some.inj hcm).symm
              refine AC_exit ⟨rfl, m, by omega, q2, hall, fun h => ?_, by simp only [go_sem, k0], by simp only [go_sem, k1], by simp only [go_sem, k2], by simp only [go_sem, k3], by simp only [go_sem, k9], by simp only [go_sem, k12]⟩
              rw [hcm]
              exact fun e => hcc (Option.some.inj e)
          · have d1 := ge_dec (a := m) (b := b) (by omega)
            refine AC_seqD TT_ok mixed (by kernel_rfl) (by simp only [go_sem, k2, k12, d1] <;> rfl) ?_
            refine AC_f (by simp only [go_sem] <;> rfl) (rfl) ?_
            exact AC_exit ⟨rfl, m, by omega, q2, hall, fun h => absurd h hmb, by simp only [go_sem, k0], by simp only [go_sem, k1], by simp only [go_sem, k2], by simp only [go_sem, k3], by simp only [go_sem, k9], by simp only [go_sem, k12]⟩
        obtain ⟨rfl, m, q1, q2, hall, hnx, k0, k1, k2, k3, k9, k12⟩ := hK
        have hgr := groups_sg (ps := ps) (a := i) (m := m) (b := b) (at_ := at_) (c := c) hle q1 q2 (fun j z1 z2 => hall j z1 z2) (fun h => ⟨hnx h, hfull m (by omega) h⟩)
        have hsegi : Seg ps i m (at_ + 1) := (hseg.part (m := i) (e := m) (by omega) q1 q2).down (fun j z1 z2 => hall j z1 z2)
        have hprei : Pre ps i m (at_ + 1) (pre ++ [c]) := (hpre.part (m := i) (e := m) (by omega) q2).up fun j z1 z2 z3 => by
          obtain ⟨hl, he⟩ := List.getElem?_eq_some_iff.1 (hall j z1 z2)
          rw [List.drop_eq_getElem_cons hl, he]; rfl
        have hfui : Fu (sg ps i m (at_ + 1)) f := by
          intro z hz
          obtain ⟨j, z1, z2, rfl⟩ := sg_mem (by omega) hz
          have h1 := hfu _ (sg_in (a := a) (b := b) (at_ := at_) (i := j) hle (by omega) (by omega))
          have h2 := hfull j (by omega) (by omega)
          simp only [List.length_drop] at h1 ⊢
          omega
        rw [hgr, brn_cons] at heq
        rw [hgr, pbrn_cons] at hpq
        have hlenY : (t ++ (⟨3, [], hh, vv, kids⟩ : Nd) :: Y).length = t.length + 1 + Y.length := by simp; omega
        have hbd2 : t.length + 1 + Y.length + (bld f (sg ps i m (at_ + 1)) (t.length + 1 + Y.length)).length < 2^30 := by
          rw [heq] at hbd
          simp only [List.length_append] at hbd
          omega
        have wat := wrapN at_ (by have := hsegi.len i (Nat.le_refl _) q1; have := hkl _ (List.getElem_mem (show i < ps.length by omega)); have := nib_length (ps[i]).key; omega)
        refine AC_seq ?_
        refine AC_regL ?_
        refine AQ_take TT_ok 5 rfl (by simp only [go_sem, k0, k1, k3, k12, wat] <;> rfl) ?_
        refine AQ_c rfl (by simp only [go_sem] <;> rfl) fok64 (by simp only [List.map_cons, List.map_nil, List.append_nil, go_sem] <;> rfl) (ih H6 mi vl vn vt3 vp3 ps (t ++ ⟨3, [], hh, vv, kids⟩ :: Y) (q ++ pre :: Z) i m (at_ + 1) (pre ++ [c]) hM5 hsegi hprei hfui (by simp [hql, hZY]) (by rw [hlenY]; exact hbd2) hpl hkl) (fun j hj hm => ?_) (.inl rfl) fun v H7 hX7 ⟨hv, vt7, vp7, hM7, hv7, hp7⟩ => ?_
        · rcases hm with rfl | hm | hm
          · exact .inr (.inl rfl)
          · exact .inl (hv3 j hm)
          · exact .inl (hp3 j hm)
        rw [hlenY] at hM7 hv
        subst hv
        refine AQ_all TT_ok rfl (by simp only [go_sem] <;> rfl) ?_
        have s7 := hX7.size
        rw [List.append_assoc, List.cons_append, List.append_assoc, List.cons_append] at hM7
        have hlen7 : t.length < (t ++ (⟨3, [], hh, vv, kids⟩ : Nd) :: (Y ++ bld f (sg ps i m (at_ + 1)) (t.length + 1 + Y.length))).length := by simp
        have kx7 := hM7.t.sl.index (k := .i64) (j := (t.length : Int)) (by omega) (Int.ofNat_lt.2 hlen7)
        rw [Int.toNat_natCast] at kx7
        have f4 := NdS.f4 hM7.t.sl hlen7
        have ix := kidxU hM7.t.sl hlen7 hc16
        obtain ⟨tj, hO7⟩ := Buf.own hM7.t (by simp)
        have ki7 := hM7.n.index (k := .i64) (j := i) (by rw [nks_length]; omega)
        have kl7 := hM7.n.load (i := i) (by rw [nks_length]; omega)
        rw [kni] at kl7
        refine AC_seq ?_
        refine AC_regD [18] mixed (by kernel_rfl) ?_
        refine AQ_take TT_ok 18 rfl (by simp only [go_sem, k0, k1, k3, k9, anil_ptr, f101 _ 2 (by decide), f101 _ 1 (by decide), hM7.ob.load, ap4_2 _ _ _ _ 24 rfl, ap4_1 _ _ _ _ 30 rfl, ki7, kl7, kc', kx7, f4, ix] <;> rfl) ?_
        refine AQ_storeE TT_ok TT_3 rfl (by simp only [go_sem] <;> rfl) (by simp only [go_sem] <;> rfl) (One.int _ _).lay rfl hO7 (by have := rowsLen20 _ hlen7; simp only [List.length_singleton]; omega) (.inl (by have := hv7 _ hO7.vid; omega)) (.inr rfl) fun H8 hX8 hO8 hL8 => ?_
        refine AQ_nil ?_
        have hN8 := Own.cell (k := t.length) (j := 4 + c.toNat) (y := ⟨3, [], hh, vv, kids.set c.toNat ((t.length + 1 + Y.length : Nat) : Int) hc16⟩) hlen7 (by omega) (by
          rw [getMid]
          exact (Nd.over_kid ⟨3, [], hh, vv, kids⟩ c.toNat hc16 _).symm) hO8
        rw [setMid] at hN8
        have hM8 := hM7.put hO7.vid hX8 hN8.ndB
        refine AC_quiet TT_ok (by simp only [go_sem, k12] <;> rfl) ?_
        have hsk : setk kids c ((t.length + 1 + Y.length : Nat) : Int) = kids.set c.toNat ((t.length + 1 + Y.length : Nat) : Int) hc16 := by rw [setk, dif_pos hc16]
        refine ⟨b - m, by omega, m, Y ++ bld f (sg ps i m (at_ + 1)) (t.length + 1 + Y.length), Z ++ pth f (sg ps i m (at_ + 1)) (pre ++ [c]), setk kids c ((t.length + 1 + Y.length : Nat) : Int), vt7, vp7, rfl, by omega, q2, ?_, ?_, fun j hj => ?_, fun j hj => ?_, by have := hX8.size; omega, ?_, ?_, by simp only [go_sem, k0], by simp only [go_sem], by simp only [go_sem, k2], by simp only [go_sem, k3], by simp only [go_sem, k9]⟩
        · rw [hsk]; exact hM8
        · rw [List.length_append, List.length_append, hZY, pth_len]
        · have := hv7 j hj; omega
        · have := hp7 j hj; omega
        · rw [heq, List.length_append, ← Nat.add_assoc, List.append_assoc]
        · rw [hpq, List.append_assoc]
      · refine AC_f (by simp only [go_sem] <;> rfl) (ge_dec (by omega)) ?_
        have : i = b := by omega
        subst this
        rw [sg_nil] at heq hpq
        have e1 : groups [] = [] := rfl
        rw [e1, brn] at heq
        rw [e1, pbrn] at hpq
        simp only [List.append_nil] at heq hpq
        refine AC_exit ⟨vt3, vp3, ?_, hv3, hp3, by simp only [go_sem, g9]⟩
        rw [heq, hpq]; exact hM5

theorem all64 : ∀ f, P64 f
  | 0 => fun H mi vl vn vt vp ps t q a b at_ pre hM hs _ hf _ _ _ _ => by
    have := hf _ (sg_in (a := a) (b := b) (at_ := at_) (i := a) hs.le (Nat.le_refl _) hs.lt)
    omega
  | f + 1 => c64 (all64 f)
end Go.Proofs.Ythalogdopkoidaa.Ab
