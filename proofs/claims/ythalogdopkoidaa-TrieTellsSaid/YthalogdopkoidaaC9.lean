/- Contracts: a Branch is built; both, in one induction. No statement of the seat's in it. -/
import Derived.Test.YthalogdopkoidaaC8
import Derived.Test.YthalogdopkoidaaB11
set_option linter.unusedVariables false
set_option linter.unusedSimpArgs false
namespace Go.Proofs.Ythalogdopkoidaa.Ab
open Go Go.RowKit

theorem Seg.full {ps : List Pr} {a b at_ : Nat} (h : Seg ps a b at_) (h0 : at_ < (nib (ps[a]'(by have := h.lt; have := h.le; omega)).key).length) : ∀ i, a ≤ i → (h2 : i < b) → at_ < (nib (ps[i]'(by have := h.le; omega)).key).length := by
  intro i g1 g2
  have hlt := h.lt
  have hle := h.le
  by_cases e : i = a
  · subst e; exact h0
  · have hr := h.ris
    rw [sg_cons ps a b at_ hlt hle] at hr
    have := hr.full _ (sg_in (a := a + 1) (b := b) (at_ := at_) (i := i) hle (by omega) g2)
    have hl := List.length_pos_iff.2 this
    rw [List.length_drop] at hl
    omega

theorem Seg.full1 {ps : List Pr} {a b at_ : Nat} (h : Seg ps a b at_) : ∀ i, a + 1 ≤ i → (h2 : i < b) → at_ < (nib (ps[i]'(by have := h.le; omega)).key).length := by
  intro i g1 g2
  have hlt := h.lt
  have hle := h.le
  have hr := h.ris
  rw [sg_cons ps a b at_ hlt hle] at hr
  have h1 := (List.pairwise_cons.1 hr).1 _ (sg_in (a := a + 1) (b := b) (at_ := at_) (i := i) hle g1 g2)
  rcases Nat.lt_or_ge at_ (nib (ps[i]'(by omega)).key).length with h | h
  · exact h
  · have : (nib (ps[i]'(by omega)).key).drop at_ = [] := List.drop_eq_nil_of_le h
    dsimp only at h1
    rw [this] at h1
    exact absurd h1 (List.not_lt_nil _)

theorem zk_eq : (zNd).cells = (TI.mk (.struct [(0, 3), (1, 9), (2, 4), (3, 9), (4, 47)]) 20 176 [.int .i64 0, .string ⟨#[]⟩, .bool false, .string ⟨#[]⟩, .int .i64 0, .int .i64 0, .int .i64 0, .int .i64 0, .int .i64 0, .int .i64 0, .int .i64 0, .int .i64 0, .int .i64 0, .int .i64 0, .int .i64 0, .int .i64 0, .int .i64 0, .int .i64 0, .int .i64 0, .int .i64 0]).zero := rfl
theorem Nd.over_has (n : Nd) (b : Bool) : over n.cells 2 [.bool b] = (Nd.mk n.kind n.path b n.value n.kids).cells := rfl
theorem Nd.over_value (n : Nd) (v : List UInt8) : over n.cells 3 [S v] = (Nd.mk n.kind n.path n.has v n.kids).cells := rfl
theorem Nd.over_kind (n : Nd) (v : Int) : over n.cells 0 [.int .i64 v] = (Nd.mk v n.path n.has n.value n.kids).cells := rfl
theorem f49p (i f off : Nat) (h : [(0, 0), (1, 1), (2, 2), (3, 3), (4, 4)].contains (f, off) = true) : afield TT 49 (.pointer (some ⟨i, 0, none⟩)) f = some (.pointer (some ⟨i, off, none⟩)) := by
  simp only [List.contains_cons, List.contains_nil, Bool.or_false, Bool.or_eq_true, beq_iff_eq, Prod.mk.injEq] at h
  rcases h with ⟨rfl, rfl⟩ | ⟨rfl, rfl⟩ | ⟨rfl, rfl⟩ | ⟨rfl, rfl⟩ | ⟨rfl, rfl⟩ <;> rfl
theorem kidp (i : Nat) (c : UInt8) (h : c ≤ 15) : aindex TT 47 (.pointer (some ⟨i, 4, none⟩)) (U c) = some (.pointer (some ⟨i, 4 + c.toNat, none⟩)) := by
  have := UInt8.le_iff_toNat_le.1 h
  simp at this
  simp only [aindex, U, TT_47, TT_3]
  rw [if_pos (by omega)]
  simp

set_option maxHeartbeats 2000000 in
theorem c80 {f : Nat} (ih : P63 f) : P80 f := by
  intro H bi vl vn vt ps t a b at_ hB hseg hfu h2b hcom hbd hpl hkl
  have hlt := hseg.lt
  have hle := hseg.le
  have hla := hseg.len a (Nat.le_refl _) hlt
  have hhd : (sg ps a b at_).headD ([], []) = ((nib (ps[a]).key).drop at_, (ps[a]).value) := by rw [sg_cons ps a b at_ hlt hle]; rfl
  refine ACalls_by 77 TT_ok Try.func80 rfl rfl rfl (by simp) ?_
  refine AC_seq ?_
  refine AC_regL ?_
  refine AQ_alloc TT_ok TT_49 rfl fun Ha hXa hOa hLa => ?_
  refine AQ_nil ?_
  refine AC_seq ?_
  refine AC_regL ?_
  refine AQ_take TT_ok 1 rfl (by simp only [go_sem, List.map_cons, List.map_nil, bb49] <;> rfl) ?_
  refine AQ_var TT_ok TT_49 rfl (by decide) (by simp only [go_sem] <;> rfl) (Lay.nd _) (Nd.len _) (.inl (by omega)) (.inl rfl) fun Hb hXb hOb hLb => ?_
  refine AQ_nil ?_
  have hLab : Hb.length = H.length + 2 := by omega
  have hXab := hXa.trans hXb
  have hB1 := hB.keep hXab
  have hR1 := hOa.keep hXb
  have ka := hB1.n.index (k := .i64) (j := a) (by rw [nks_length]; omega)
  have kb := hB1.n.load (i := a) (by rw [nks_length]; omega)
  have kna : (nks ps)[a]'(by rw [nks_length]; omega) = nib (ps[a]).key := by simp [nks]
  rw [kna] at kb
  rw [hLa] at hOb
  -- the Branch's own value
  refine AC_cut (fun e' H' => ∃ a1, ∃ (n1 : Nd), a ≤ a1 ∧ a1 ≤ b ∧ a1 < b ∧ (∀ i, a1 ≤ i → (h2 : i < b) → at_ < (nib (ps[i]'(by omega)).key).length) ∧ n1 = ⟨3, [], decide ((nib (ps[a]).key).drop at_ = []), if (nib (ps[a]).key).drop at_ = [] then (ps[a]).value else [], zk⟩ ∧
      gs0 ps a b at_ = groups (sg ps a1 b at_) ∧ BS H' bi vl vn vt ps t ∧ AExt (fun _ => False) H H' ∧ Ob H' H.length 49 zNd.cells ∧ Ob H' (H.length + 1) 49 n1.cells ∧
      get e' 0 = .pointer (some ⟨bi, 0, none⟩) ∧ get e' 1 = .int .i64 (a1 : Nat) ∧ get e' 2 = .int .i64 (b : Nat) ∧ get e' 3 = .int .i64 (at_ : Nat) ∧ get e' 8 = .pointer (some ⟨H.length, 0, none⟩) ∧ get e' 9 = .pointer (some ⟨H.length + 1, 0, none⟩)) ?_ (fun e1 H1 _ ⟨a1, n1, ha1, ha1b, ha1b', hfull, hn1, hgs, hB2, hX2, hR2, hN2, h0, h1, h2, h3, h8, h9⟩ => ?_)
  · refine AC_seqQ TT_ok (by simp only [go_sem, anil_ptr, f97 _ 1 (by decide), hB1.ob.load, ap3_1 _ _ _ 30 rfl, ka, kb, hLa] <;> rfl) ?_
    by_cases he : (nib (ps[a]).key).length = at_
    · refine AC_t (by simp only [go_sem] <;> rfl) (decide_eq_true (by omega)) ?_
      have hnil : (nib (ps[a]).key).drop at_ = [] := List.drop_eq_nil_of_le (by omega)
      have hXm := AExt.set1 Hb (H.length + 1) none
      have hBm := hB1.ext hXm (fun i _ hi => by
        subst hi
        refine ⟨fun h => ?_, fun h => ?_, fun h => ?_, fun h => ?_⟩
        · have := hB.ob.lt; omega
        · have := hB.l.vid_lt h; omega
        · have := hB.n.vid_lt h; omega
        · have := Sl.vid_lt hB.t.sl h; omega)
      have l1 := hBm.l.index (k := .i64) (j := (a : Int)) (by omega) (by omega)
      rw [Int.toNat_natCast] at l1
      have l2 := hBm.l.f1 (i := a) (by omega)
      have l3 := hBm.l.value (i := a) (by omega)
      refine AC_seq ?_
      refine AC_drawM (H.length + 1) [] _ mixed (by kernel_rfl : Dr.schedOK .any _ [] [(0, true), (1, true), (2, true), (3, true), (4, true), (5, true), (6, true), (7, true), (8, true), (9, false), (10, true), (11, false)] = true) hOb rfl ?_
      refine AM_sel (σ := [(9, false), (10, true), (11, false)]) TT_ok [0, 1, 2, 3, 4, 5, 6, 7, 8] _ (by simp only [go_sem, anil_ptr, f97 _ 0 (by decide), hBm.ob.load, ap3_0 _ _ _ 22 rfl, l1, l2, l3, f49p _ 2 2 rfl] <;> rfl) ?_
      refine AM_store TT_ok rfl rfl rfl TT_4 rfl (by simp only [go_sem] <;> rfl) (by simp only [go_sem] <;> rfl) (One.bool _).lay rfl hOb (by rw [Nd.len]; decide) (.inl (by omega)) fun H2 hX2 hO2 hL2 => ?_
      rw [Nd.over_has] at hO2
      refine AM_sel (σ := [(11, false)]) TT_ok [10] _ (by simp only [go_sem, f49p _ 3 3 rfl] <;> rfl) ?_
      refine AM_store TT_ok rfl rfl rfl TT_9 rfl (by simp only [go_sem] <;> rfl) (by simp only [go_sem] <;> rfl) (One.str _).lay rfl hO2 (by rw [Nd.len]; exact (by decide : 3 + 1 ≤ 20)) (.inl (by omega)) fun H3 hX3 hO3 hL3 => ?_
      rw [Nd.over_value] at hO3
      refine AM_nil ?_
      have wa1 := wrapN a (by omega)
      refine AC_quiet TT_ok (by simp only [go_sem, wa1] <;> rfl) ?_
      have hne : ∀ i, i < Hb.length → i = H.length + 1 → i ≠ bi ∧ vid vl ≠ some i ∧ vid vn ≠ some i ∧ vid vt ≠ some i := fun i _ hi => by
        subst hi
        refine ⟨fun h => ?_, fun h => ?_, fun h => ?_, fun h => ?_⟩
        · have := hB.ob.lt; omega
        · have := hB.l.vid_lt h; omega
        · have := hB.n.vid_lt h; omega
        · have := Sl.vid_lt hB.t.sl h; omega
      have hX23 : AExt (fun i => i = H.length + 1) Hb H3 := hX2.trans (hX3.mono (fun _ _ h => h))
      refine ⟨a + 1, _, by omega, by omega, h2b, hseg.full1, rfl, ?_, hB1.ext hX23 hne, hXab.weakF hX23 (fun i hi h => by omega), hR1.ext hX23 (by omega), ?_, by simp only [go_sem], by simp only [go_sem], by simp only [go_sem], by simp only [go_sem], by simp only [go_sem, hLa], by simp only [go_sem, hLa]⟩
      · rw [gs0, hhd]; dsimp only; rw [if_pos hnil]
      · rw [hnil, if_pos rfl, decide_eq_true rfl]; exact hO3
    · refine AC_f (by simp only [go_sem] <;> rfl) (decide_eq_false (by omega)) ?_
      have hne : (nib (ps[a]).key).drop at_ ≠ [] := fun e => by
        have := congrArg List.length e
        simp at this
        omega
      refine AC_skip ⟨a, _, Nat.le_refl _, by omega, hlt, hseg.full (by omega), rfl, ?_, hB1, hXab, hR1, ?_, by simp only [go_sem], by simp only [go_sem], by simp only [go_sem], by simp only [go_sem], by simp only [go_sem, hLa], by simp only [go_sem, hLa]⟩
      · rw [gs0, hhd]; dsimp only; rw [if_neg hne]
      · rw [if_neg hne, decide_eq_false hne]; exact hOb
  subst hn1
  have hseg1 := fun i (q1 : a1 ≤ i) (q2 : i < b) => hseg.part (m := i) (e := b) (by omega) q2 (Nat.le_refl _)
  rw [hgs] at hbd
  have hfull2 : ∀ i, a1 ≤ i → (h2 : i < b) → ∃ c : UInt8, c ≤ 15 ∧ (nib (ps[i]'(by omega)).key)[at_]? = some c := fun i q1 q2 => by
    have hl := hfull i q1 q2
    exact ⟨_, nib_small _ _ (List.getElem_mem hl), List.getElem?_eq_getElem hl⟩
  refine AC_cut (fun e' H' => ∃ vt', BS H' bi vl vn vt' ps (t ++ (brn (bld f) (groups (sg ps a1 b at_)) t.length zk).1) ∧ (∀ j, vid vt' = some j → H.length + 2 ≤ j ∨ vt' = vt) ∧ Ob H' H.length 49 zNd.cells ∧ Ob H' (H.length + 1) 49 (Nd.mk 3 [] (decide ((nib (ps[a]).key).drop at_ = [])) (if (nib (ps[a]).key).drop at_ = [] then (ps[a]).value else []) (brn (bld f) (groups (sg ps a1 b at_)) t.length zk).2).cells ∧
      get e' 8 = .pointer (some ⟨H.length, 0, none⟩) ∧ get e' 9 = .pointer (some ⟨H.length + 1, 0, none⟩)) ?_ (fun E2 H2 _ ⟨vt2, hB3, hv3, hR3, hN3, g8, g9⟩ => ?_)
  rotate_left
  · refine AC_seq ?_
    refine AC_regL ?_
    refine AQ_take TT_ok 1 rfl (by simp only [go_sem, g9, hN3.load, Nd.part] <;> rfl) ?_
    refine AQ_store TT_ok TT_49 rfl (by simp only [go_sem, g8] <;> rfl) (by simp only [go_sem] <;> rfl) (Lay.nd _) (Nd.len _) hR3 (by rw [Nd.len, Nd.len]; decide) (.inl (Nat.le_refl _)) (.inl rfl) fun H3 hX3 hO3 hL3 => ?_
    refine AQ_nil ?_
    rw [over_full (by rw [Nd.len, Nd.len])] at hO3
    refine AC_ret ⟨.inl rfl, (nb0 f ps a b at_ t.length).val, ?_, rfl, vt2, ?_, fun j hj => (hv3 j hj).imp (fun h => by omega) id⟩
    · show ares TT H3 _ [.cell 8 49] = _
      simp only [ares, List.mapM_cons, List.mapM_nil, ares1, go_sem, g8, hO3.load, Nd.part]
      rw [nb0, hhd, hgs]
      rfl
    · rw [hgs]
      refine hB3.ext hX3 (fun i _ hi => ?_)
      subst hi
      refine ⟨fun h => ?_, fun h => ?_, fun h => ?_, fun h => ?_⟩
      · have := hB.ob.lt; omega
      · have := hB.l.vid_lt h; omega
      · have := hB.n.vid_lt h; omega
      · rcases hv3 _ h with h' | h'
        · omega
        · subst h'; have := Sl.vid_lt hB.t.sl h; omega
  refine AC_block (AC_loop (fun n e' H' => ∃ (i : Nat) (Y : List Nd) (kids : Vector Int 16) (vt' : Value), n = b - i ∧ a1 ≤ i ∧ i ≤ b ∧ BS H' bi vl vn vt' ps (t ++ Y) ∧ (∀ j, vid vt' = some j → H.length + 2 ≤ j ∨ vt' = vt) ∧ H.length + 2 ≤ H'.length ∧ Ob H' H.length 49 zNd.cells ∧ Ob H' (H.length + 1) 49 (Nd.mk 3 [] (decide ((nib (ps[a]).key).drop at_ = [])) (if (nib (ps[a]).key).drop at_ = [] then (ps[a]).value else []) kids).cells ∧
      brn (bld f) (groups (sg ps a1 b at_)) t.length zk = (Y ++ (brn (bld f) (groups (sg ps i b at_)) (t.length + Y.length) kids).1, (brn (bld f) (groups (sg ps i b at_)) (t.length + Y.length) kids).2) ∧
      get e' 0 = .pointer (some ⟨bi, 0, none⟩) ∧ get e' 1 = .int .i64 (i : Nat) ∧ get e' 2 = .int .i64 (b : Nat) ∧ get e' 3 = .int .i64 (at_ : Nat) ∧ get e' 8 = .pointer (some ⟨H.length, 0, none⟩) ∧ get e' 9 = .pointer (some ⟨H.length + 1, 0, none⟩)) (b - a1)
    ⟨a1, [], zk, vt, rfl, Nat.le_refl _, ha1b, by simpa using hB2, fun j _ => .inr rfl, by have := hN2.lt; omega, hR2, hN2, by simp, h0, h1, h2, h3, h8, h9⟩ ?_)
  rintro n E H3 _ ⟨i, Y, kids, vt3, hn, hi1, hi2, hB3, hv3, hl3, hR3, hN3, heq, g0, g1, g2, g3, g8, g9⟩
  refine AC_seq ?_
  refine AC_seqQ TT_ok (by simp only [go_sem, g1, g2] <;> rfl) ?_
  by_cases hib : i < b
  · refine AC_t (by simp only [go_sem] <;> rfl) (lt_dec hib) ?_
    refine AC_skip ?_
    refine AC_block ?_
    obtain ⟨c, hc15, hcn⟩ := hfull2 i hi1 hib
    obtain ⟨hcl, hce⟩ := List.getElem?_eq_some_iff.1 hcn
    have ki := hB3.n.index (k := .i64) (j := i) (by rw [nks_length]; omega)
    have kl := hB3.n.load (i := i) (by rw [nks_length]; omega)
    have kni : (nks ps)[i]'(by rw [nks_length]; omega) = nib (ps[i]).key := by simp [nks]
    rw [kni] at kl
    have kc := aget_S (k := .i64) hcl
    rw [hce] at kc
    refine AC_seqQ TT_ok (by simp only [go_sem, g0, g1, g3, anil_ptr, f97 _ 1 (by decide), hB3.ob.load, ap3_1 _ _ _ 30 rfl, ki, kl, kc] <;> rfl) ?_
    refine AC_seqQ TT_ok (by simp only [go_sem, g1] <;> rfl) ?_
    refine AC_cut (fun e' H' => H' = H3 ∧ ∃ m, ∃ (q1 : i < m) (q2 : m ≤ b), (∀ j, i ≤ j → (h : j < m) → (nib (ps[j]).key)[at_]? = some c) ∧ ((h : m < b) → (nib (ps[m]).key)[at_]? ≠ some c) ∧ get e' 0 = .pointer (some ⟨bi, 0, none⟩) ∧ get e' 1 = .int .i64 (i : Nat) ∧ get e' 2 = .int .i64 (b : Nat) ∧ get e' 3 = .int .i64 (at_ : Nat) ∧ get e' 8 = .pointer (some ⟨H.length, 0, none⟩) ∧ get e' 9 = .pointer (some ⟨H.length + 1, 0, none⟩) ∧ get e' 10 = U c ∧ get e' 11 = .int .i64 (m : Nat)) ?_ (fun E4 H4 _ hK => ?_)
    · refine AC_block (AC_loop (fun n' e' H' => ∃ (m : Nat) (q1 : i ≤ m) (q2 : m ≤ b), n' = b - m ∧ (∀ j, i ≤ j → (h : j < m) → (nib (ps[j]).key)[at_]? = some c) ∧ H' = H3 ∧ get e' 0 = .pointer (some ⟨bi, 0, none⟩) ∧ get e' 1 = .int .i64 (i : Nat) ∧ get e' 2 = .int .i64 (b : Nat) ∧ get e' 3 = .int .i64 (at_ : Nat) ∧ get e' 8 = .pointer (some ⟨H.length, 0, none⟩) ∧ get e' 9 = .pointer (some ⟨H.length + 1, 0, none⟩) ∧ get e' 10 = U c ∧ get e' 11 = .int .i64 (m : Nat)) (b - i)
        ⟨i, Nat.le_refl _, hi2, rfl, fun j q1 q2 => by omega, rfl, by simp only [go_sem, g0], by simp only [go_sem, g1], by simp only [go_sem, g2], by simp only [go_sem, g3], by simp only [go_sem, g8], by simp only [go_sem, g9], by simp only [go_sem], by simp only [go_sem]⟩ ?_)
      rintro n' E5 H5 _ ⟨m, q1, q2, hn', hall, rfl, k0, k1, k2, k3, k8, k9, k10, k11⟩
      refine AC_seq ?_
      by_cases hmb : m < b
      · have d1 := lt_dec hmb
        obtain ⟨cm, _, hcm⟩ := hfull2 m (by omega) hmb
        obtain ⟨hml, hme⟩ := List.getElem?_eq_some_iff.1 hcm
        have mi := hB3.n.index (k := .i64) (j := m) (by rw [nks_length]; omega)
        have ml := hB3.n.load (i := m) (by rw [nks_length]; omega)
        have mni : (nks ps)[m]'(by rw [nks_length]; omega) = nib (ps[m]).key := by simp [nks]
        rw [mni] at ml
        have mc := aget_S (k := .i64) hml
        rw [hme] at mc
        refine AC_seqQ TT_ok (by simp only [go_sem, k0, k2, k3, k10, k11, d1, anil_ptr, f97 _ 1 (by decide), hB3.ob.load, ap3_1 _ _ _ 30 rfl, mi, ml, mc] <;> rfl) ?_
        by_cases hcc : cm = c
        · subst hcc
          refine AC_t (by simp only [go_sem] <;> rfl) (by simp) ?_
          refine AC_skip (AC_block ?_)
          have wm := wrapN m (by omega)
          refine AC_quiet TT_ok (by simp only [go_sem, k11, wm] <;> rfl) ?_
          refine ⟨b - (m + 1), by omega, m + 1, by omega, by omega, rfl, fun j z1 z2 => ?_, rfl, by simp only [go_sem, k0], by simp only [go_sem, k1], by simp only [go_sem, k2], by simp only [go_sem, k3], by simp only [go_sem, k8], by simp only [go_sem, k9], by simp only [go_sem, k10], by simp only [go_sem]⟩
          by_cases hj : j < m
          · exact hall j z1 hj
          · have : j = m := by omega
            subst this; exact hcm
        · refine AC_f (by simp only [go_sem] <;> rfl) (decide_eq_false hcc) ?_
          have him : i ≠ m := by
            rintro rfl
            rw [hcn] at hcm
            exact hcc (Option.some.inj hcm).symm
          refine AC_exit ⟨rfl, m, by omega, q2, hall, fun h => ?_, by simp only [go_sem, k0], by simp only [go_sem, k1], by simp only [go_sem, k2], by simp only [go_sem, k3], by simp only [go_sem, k8], by simp only [go_sem, k9], by simp only [go_sem, k10], by simp only [go_sem, k11]⟩
          rw [hcm]
          exact fun e => hcc (Option.some.inj e)
      · have d1 := ge_dec (a := m) (b := b) (by omega)
        refine AC_seqQ TT_ok (by simp only [go_sem, k2, k11, d1] <;> rfl) ?_
        refine AC_f (by simp only [go_sem] <;> rfl) (rfl) ?_
        exact AC_exit ⟨rfl, m, by omega, q2, hall, fun h => absurd h hmb, by simp only [go_sem, k0], by simp only [go_sem, k1], by simp only [go_sem, k2], by simp only [go_sem, k3], by simp only [go_sem, k8], by simp only [go_sem, k9], by simp only [go_sem, k10], by simp only [go_sem, k11]⟩
    obtain ⟨rfl, m, q1, q2, hall, hnx, k0, k1, k2, k3, k8, k9, k10, k11⟩ := hK
    have hgr := groups_sg (ps := ps) (a := i) (m := m) (b := b) (at_ := at_) (c := c) hle q1 q2 (fun j z1 z2 => hall j z1 z2) (fun h => ⟨hnx h, hfull m (by omega) h⟩)
    have hsegi : Seg ps i m (at_ + 1) := (hseg.part (m := i) (e := m) (by omega) q1 q2).down (fun j z1 z2 => hall j z1 z2)
    have hfui : Fu (sg ps i m (at_ + 1)) f := by
      intro z hz
      obtain ⟨j, z1, z2, rfl⟩ := sg_mem (by omega) hz
      have h1 := hfu _ (sg_in (a := a) (b := b) (at_ := at_) (i := j) hle (by omega) (by omega))
      have h2 := hfull j (by omega) (by omega)
      simp only [List.length_drop] at h1 ⊢
      omega
    rw [hgr, brn_cons] at heq
    have hlenY : (t ++ Y).length = t.length + Y.length := by simp
    have hbd2 : t.length + Y.length + (bld f (sg ps i m (at_ + 1)) (t.length + Y.length)).length < 2^30 := by
      rw [heq] at hbd
      simp only [List.length_append] at hbd
      omega
    have hlk := hsegi.len i (Nat.le_refl _) q1
    have hki := hkl _ (List.getElem_mem (show i < ps.length by omega))
    have hnl := nib_length (ps[i]).key
    have wat := wrapN at_ (by omega)
    refine AC_seq ?_
    refine AC_regL ?_
    refine AQ_take TT_ok 6 rfl (by simp only [go_sem, k0, k1, k3, k10, k11, wat] <;> rfl) ?_
    refine AQ_c rfl (by simp only [go_sem] <;> rfl) fok63 (by simp only [List.map_cons, List.map_nil, List.append_nil, go_sem] <;> rfl) (ih H4 bi vl vn vt3 ps (t ++ Y) i m (at_ + 1) hB3 hsegi hfui (by rw [hlenY]; exact hbd2) hpl hkl) (fun j hj hm => ?_) (.inl rfl) fun v H5 hX5 ⟨hv, vt5, hB5, hv5⟩ => ?_
    · rcases hm with rfl | hm
      · exact .inr (.inl rfl)
      · rcases hv3 j hm with h | h
        · exact .inl (by omega)
        · subst h; exact .inr (.inr hm)
    rw [hlenY] at hB5 hv
    subst hv
    have nM : ∀ j, j = H.length ∨ j = H.length + 1 → ¬ (j = bi ∨ vid vt3 = some j) := by
      rintro j hj (h | h)
      · have := hB.ob.lt; omega
      · rcases hv3 j h with h' | h'
        · omega
        · subst h'; have := Sl.vid_lt hB.t.sl h; omega
    have hR5 := hR3.ext hX5 (nM _ (.inl rfl))
    have hN5 := hN3.ext hX5 (nM _ (.inr rfl))
    refine AQ_take TT_ok 2 rfl (by simp only [go_sem, f49p _ 4 4 rfl, k9, kidp _ _ hc15] <;> rfl) ?_
    have hc16 : c.toNat < 16 := by
      have := UInt8.le_iff_toNat_le.1 hc15
      simp at this; omega
    refine AQ_store TT_ok TT_3 rfl (by simp only [go_sem] <;> rfl) (by simp only [go_sem] <;> rfl) (One.int _ _).lay rfl hN5 (by rw [Nd.len]; simp; omega) (.inl (by omega)) (.inl rfl) fun H6 hX6 hO6 hL6 => ?_
    refine AQ_nil ?_
    rw [Nd.over_kid _ c.toNat hc16] at hO6
    refine AC_quiet TT_ok (by simp only [go_sem, k11] <;> rfl) ?_
    have hsk : setk kids c ((t.length + Y.length : Nat) : Int) = kids.set c.toNat ((t.length + Y.length : Nat) : Int) hc16 := by rw [setk, dif_pos hc16]
    refine ⟨b - m, by omega, m, Y ++ bld f (sg ps i m (at_ + 1)) (t.length + Y.length), setk kids c ((t.length + Y.length : Nat) : Int), vt5, rfl, by omega, q2, ?_, fun j hj => .inl ?_, ?_, hR5.ext hX6 (by omega), ?_, ?_, by simp only [go_sem, k0], by simp only [go_sem], by simp only [go_sem, k2], by simp only [go_sem, k3], by simp only [go_sem, k8], by simp only [go_sem, k9]⟩
    · rw [← List.append_assoc]
      refine hB5.ext hX6 (fun j _ hj => ?_)
      subst hj
      refine ⟨fun h => ?_, fun h => ?_, fun h => ?_, fun h => ?_⟩
      · have := hB.ob.lt; omega
      · have := hB.l.vid_lt h; omega
      · have := hB.n.vid_lt h; omega
      · have := hv5 _ h; omega
    · have := hv5 j hj; omega
    · have := hX5.size; omega
    · rw [hsk]; exact hO6
    · rw [heq, List.length_append, ← Nat.add_assoc, List.append_assoc]
  · refine AC_f (by simp only [go_sem] <;> rfl) (ge_dec (by omega)) ?_
    have : i = b := by omega
    subst this
    rw [sg_nil] at heq
    have e1 : groups [] = [] := rfl
    rw [e1, brn] at heq
    simp only [List.append_nil] at heq
    refine AC_exit ⟨vt3, ?_, hv3, hR3, ?_, by simp only [go_sem, g8], by simp only [go_sem, g9]⟩
    · rw [heq]; exact hB3
    · rw [heq]; exact hN3
end Go.Proofs.Ythalogdopkoidaa.Ab
