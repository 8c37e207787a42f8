/- Contracts: the program's trie is built. No statement of the seat's in it. -/
import Derived.Test.YthalogdopkoidaaC7
import Derived.Test.YthalogdopkoidaaB10
set_option linter.unusedVariables false
set_option linter.unusedSimpArgs false
namespace Go.Proofs.Ythalogdopkoidaa.Ab
open Go Go.RowKit

def zNd : Nd := ⟨0, [], false, [], zk⟩
def NdB (H : AHeap) (v : Value) (t : List Nd) : Prop := Buf H v 49 t.length (t.flatMap Nd.cells)
theorem NdB.sl {H : AHeap} {v : Value} {t : List Nd} (h : NdB H v t) : NdS H v t := Buf.sl h
theorem Buf.own {H : AHeap} {v : Value} {ty n : Nat} {cs : List Value} (h : Buf H v ty n cs) (hn : n ≠ 0) : ∃ i, Own H v ty n cs i := by
  rcases h with ⟨_, h, _⟩ | h
  · exact absurd h hn
  · exact h
theorem set_mid {α : Type} (t u : List α) (z y : α) : (t ++ z :: u).set t.length y = t ++ y :: u := by
  rw [List.set_append_right _ _ (Nat.le_refl _), Nat.sub_self, List.set_cons_zero]
theorem NdB.set {H' : AHeap} {v : Value} {t : List Nd} {k i : Nat} {y : Nd} {cs : List Value} (hk : k < t.length) (hcs : cs = over (t.flatMap Nd.cells) (k * 20) y.cells) (h : Own H' v 49 t.length cs i) : NdB H' v (t.set k y) := by
  rw [hcs, rows_over Nd.len t k y hk] at h
  rw [NdB, List.length_set]
  exact .inr ⟨i, h⟩

structure BS (H : AHeap) (bi : Nat) (vl vn vt : Value) (ps : List Pr) (t : List Nd) : Prop where
  ob : Ob H bi 97 [vl, vn, vt]
  l : PrS H vl ps
  n : StS H vn (nks ps)
  t : NdB H vt t
  tl : ∀ j, vid vt = some j → vid vl ≠ some j ∧ vid vn ≠ some j ∧ j ≠ bi
  lb : vid vl ≠ some bi
  nb : vid vn ≠ some bi

theorem BS.ext {H H' : AHeap} {bi : Nat} {vl vn vt : Value} {ps : List Pr} {t : List Nd} {M : Nat → Prop} (h : BS H bi vl vn vt ps t) (hX : AExt M H H') (hM : ∀ i, i < H.length → M i → i ≠ bi ∧ vid vl ≠ some i ∧ vid vn ≠ some i ∧ vid vt ≠ some i) : BS H' bi vl vn vt ps t :=
  ⟨h.ob.ext hX (fun hm => (hM _ h.ob.lt hm).1 rfl), h.l.ext hX (fun i hi hv hm => (hM i hi hm).2.1 hv), h.n.ext hX (fun i hi hv hm => (hM i hi hm).2.2.1 hv), Buf.ext h.t hX (fun i hv hm => (hM i (Sl.vid_lt h.t.sl hv) hm).2.2.2 hv), h.tl, h.lb, h.nb⟩
theorem BS.keep {H H' : AHeap} {bi : Nat} {vl vn vt : Value} {ps : List Pr} {t : List Nd} (h : BS H bi vl vn vt ps t) (hX : AExt (fun _ => False) H H') : BS H' bi vl vn vt ps t := h.ext hX (fun _ _ h => h.elim)

/-- Behind an append and the store of what it gave. -/
theorem BS.app {H H1 H2 : AHeap} {bi : Nat} {vl vn vt vt1 : Value} {ps : List Pr} {t t1 : List Nd} (h : BS H bi vl vn vt ps t) (hX : AExt (fun j => vid vt = some j) H H1) (hT : NdB H1 vt1 t1) (hv : ∀ j, vid vt1 = some j → H.length ≤ j) (hY : AExt (fun j => j = bi) H1 H2) (hO : Ob H2 bi 97 [vl, vn, vt1]) : BS H2 bi vl vn vt1 ps t1 := by
  have hl := h.ob.lt
  refine ⟨hO, (h.l.ext hX fun i _ hi hm => (h.tl i hm).1 hi).ext hY fun i _ hi hm => h.lb (by rw [hi, hm]), (h.n.ext hX fun i _ hi hm => (h.tl i hm).2.1 hi).ext hY fun i _ hi hm => h.nb (by rw [hi, hm]), Buf.ext hT hY fun i hi hm => ?_, fun j hj => ⟨fun hh => ?_, fun hh => ?_, ?_⟩, h.lb, h.nb⟩
  · have := hv i hi; omega
  · have := h.l.vid_lt hh; have := hv j hj; omega
  · have := h.n.vid_lt hh; have := hv j hj; omega
  · have := hv j hj; omega

/-- Behind a store into a node. -/
theorem BS.put {H H' : AHeap} {bi i : Nat} {vl vn vt : Value} {ps : List Pr} {t t' : List Nd} (h : BS H bi vl vn vt ps t) (hi : vid vt = some i) (hX : AExt (fun j => j = i) H H') (hT : NdB H' vt t') : BS H' bi vl vn vt ps t' := by
  obtain ⟨g1, g2, g3⟩ := h.tl i hi
  exact ⟨h.ob.ext hX (fun e => g3 e.symm), h.l.ext hX (fun j _ hj e => g1 (by rw [hj, e])), h.n.ext hX (fun j _ hj e => g2 (by rw [hj, e])), hT, h.tl, h.lb, h.nb⟩

theorem f97 (i f : Nat) (h : f < 3) : afield TT 97 (.pointer (some ⟨i, 0, none⟩)) f = some (.pointer (some ⟨i, f, none⟩)) := by
  rcases f with _ | _ | _ | f <;> first | rfl | omega
theorem ap3_0 (a b c : Value) (t : Nat) (ht : (TT t).map (fun i => (i.d.isAgg, i.size)) = some (false, 1)) : apart TT t [a, b, c] 0 = some a := by
  obtain ⟨ti, h1, h2⟩ := Option.map_eq_some_iff.1 ht
  simp only [Prod.mk.injEq] at h2
  unfold apart; rw [h1]; dsimp only; rw [h2.1]; rfl
theorem ap3_1 (a b c : Value) (t : Nat) (ht : (TT t).map (fun i => (i.d.isAgg, i.size)) = some (false, 1)) : apart TT t [a, b, c] 1 = some b := by
  obtain ⟨ti, h1, h2⟩ := Option.map_eq_some_iff.1 ht
  simp only [Prod.mk.injEq] at h2
  unfold apart; rw [h1]; dsimp only; rw [h2.1]; rfl
theorem ap3_2 (a b c : Value) (t : Nat) (ht : (TT t).map (fun i => (i.d.isAgg, i.size)) = some (false, 1)) : apart TT t [a, b, c] 2 = some c := by
  obtain ⟨ti, h1, h2⟩ := Option.map_eq_some_iff.1 ht
  simp only [Prod.mk.injEq] at h2
  unfold apart; rw [h1]; dsimp only; rw [h2.1]; rfl
theorem bz49 : abuild TT 49 [] = some zNd.val := rfl
theorem bl49 (p v : List UInt8) : abuild TT 49 [(0, .int .i64 1), (1, S p), (2, .bool true), (3, S v)] = some (Nd.mk 1 p true v zk).val := rfl
theorem be49 (p : List UInt8) : abuild TT 49 [(0, .int .i64 2), (1, S p)] = some (Nd.mk 2 p false [] zk).val := rfl
theorem bb49 : abuild TT 49 [(0, .int .i64 3)] = some (Nd.mk 3 [] false [] zk).val := rfl

theorem Nd.over_kid (n : Nd) (c : Nat) (hc : c < 16) (k : Int) : over n.cells (4 + c) [.int .i64 k] = (Nd.mk n.kind n.path n.has n.value (n.kids.set c k hc)).cells := by
  show n.cells.set (4 + c) (.int .i64 k) = _
  have e : 4 + c = c + 1 + 1 + 1 + 1 := by omega
  rw [e]
  simp only [Nd.cells, List.set_cons_succ, Vector.toList_set, List.map_set]
theorem Nd.part (n : Nd) : apart TT 49 n.cells 0 = some n.val := by
  have h : (n.cells.drop 0).take 20 = n.cells := by rw [List.drop_zero, List.take_of_length_le (by rw [Nd.len]; decide)]
  unfold apart
  rw [TT_49]
  simp only [TD.isAgg, if_true, h]
  rw [if_pos (by rw [Nd.len]; decide)]
  rfl

def Q63 (f : Nat) (H : AHeap) (bi : Nat) (vl vn : Value) (ps : List Pr) (t : List Nd) (s : Sx) (v : Value) (H' : AHeap) : Prop :=
  v = .int .i64 (t.length : Nat) ∧ ∃ vt', BS H' bi vl vn vt' ps (t ++ bld f s t.length) ∧ ∀ j, vid vt' = some j → H.length ≤ j
def P63 (f : Nat) : Prop := ∀ (H : AHeap) (bi : Nat) (vl vn vt : Value) (ps : List Pr) (t : List Nd) (a b at_ : Nat), BS H bi vl vn vt ps t → Seg ps a b at_ → Fu (sg ps a b at_) f → t.length + (bld f (sg ps a b at_) t.length).length < 2^30 → ps.length < 2^30 → (∀ p ∈ ps, p.key.length < 2^30) →
  ACalls Try.prog 63 [.pointer (some ⟨bi, 0, none⟩), .int .i64 (a : Nat), .int .i64 (b : Nat), .int .i64 (at_ : Nat)] H (fun i => i = bi ∨ vid vt = some i) (Q63 f H bi vl vn ps t (sg ps a b at_))

def gs0 (ps : List Pr) (a b at_ : Nat) : List (UInt8 × Sx) := groups (if ((sg ps a b at_).headD ([], [])).1 = [] then sg ps (a + 1) b at_ else sg ps a b at_)
def nb0 (f : Nat) (ps : List Pr) (a b at_ k : Nat) : Nd := ⟨3, [], decide (((sg ps a b at_).headD ([], [])).1 = []), if ((sg ps a b at_).headD ([], [])).1 = [] then ((sg ps a b at_).headD ([], [])).2 else [], (brn (bld f) (gs0 ps a b at_) k zk).2⟩
def P80 (f : Nat) : Prop := ∀ (H : AHeap) (bi : Nat) (vl vn vt : Value) (ps : List Pr) (t : List Nd) (a b at_ : Nat), BS H bi vl vn vt ps t → Seg ps a b at_ → Fu (sg ps a b at_) (f + 1) → a + 1 < b → com ((nib ((ps.map (·.key)).getD a [])).drop at_) ((nib ((ps.map (·.key)).getD (b - 1) [])).drop at_) = 0 → t.length + (brn (bld f) (gs0 ps a b at_) t.length zk).1.length < 2^30 → ps.length < 2^30 → (∀ p ∈ ps, p.key.length < 2^30) →
  ACalls Try.prog 80 [.pointer (some ⟨bi, 0, none⟩), .int .i64 (a : Nat), .int .i64 (b : Nat), .int .i64 (at_ : Nat)] H (fun i => i = bi ∨ vid vt = some i) fun v H' =>
    v = (nb0 f ps a b at_ t.length).val ∧ ∃ vt', BS H' bi vl vn vt' ps (t ++ (brn (bld f) (gs0 ps a b at_) t.length zk).1) ∧ ∀ j, vid vt' = some j → H.length ≤ j ∨ vt' = vt

set_option maxHeartbeats 2000000 in
theorem c63 {f : Nat} (ih : P63 f) (ihb : P80 f) : P63 (f + 1) := by
  intro H bi vl vn vt ps t a b at_ hB hseg hfu hbd hpl hkl
  have hlt := hseg.lt
  have hle := hseg.le
  have hla := hseg.len a (Nat.le_refl _) hlt
  have hlb := hseg.len (b - 1) (by omega) (by omega)
  have hpos : 1 ≤ (bld (f + 1) (sg ps a b at_) t.length).length := by
    rcases Nat.lt_or_ge (a + 1) b with h | h
    · obtain ⟨y, r, e1, e2, e3⟩ := sg_two (at_ := at_) h hle
      rw [e2]
      by_cases hc : 0 < com ((nib (ps[a]).key).drop at_) (lst y r).1
      · rw [bld_ext _ _ _ _ _ hc]; simp
      · rw [bld_brn _ _ _ _ _ hc]; simp
    · rw [sg_cons ps a b at_ hlt hle, show a + 1 = b by omega, sg_nil, bld_one]; simp
  refine ACalls_by 107 TT_ok Try.func63 rfl rfl rfl (by simp) ?_
  refine AC_seqQ TT_ok (by simp only [go_sem] <;> rfl) ?_
  refine AC_seqQ TT_ok (by simp only [go_sem, anil_ptr, f97 _ 2 (by decide), hB.ob.load, ap3_2 _ _ _ 24 rfl, hB.t.sl.alen] <;> rfl) ?_
  -- the new node
  refine AC_cut (fun e' H' => ∃ vt1, BS H' bi vl vn vt1 ps (t ++ [zNd]) ∧ AExt (fun i => i = bi ∨ vid vt = some i) H H' ∧ (∀ j, vid vt1 = some j → H.length ≤ j) ∧ get e' 0 = .pointer (some ⟨bi, 0, none⟩) ∧ get e' 1 = .int .i64 (a : Nat) ∧ get e' 2 = .int .i64 (b : Nat) ∧ get e' 3 = .int .i64 (at_ : Nat) ∧ get e' 9 = .int .i64 (t.length : Nat)) ?_ (fun e1 H1 _ ⟨vt1, hB1, hX1, hv1, h0, h1, h2, h3, h9⟩ => ?_)
  · refine AC_regL ?_
    refine AQ_take TT_ok 6 rfl (by simp only [go_sem, anil_ptr, f97 _ 2 (by decide), hB.ob.load, ap3_2 _ _ _ 24 rfl, List.map_nil, bz49] <;> rfl) ?_
    refine AQ_lit TT_ok [zNd.val] TT_24 rfl TT_49 rfl (by decide) rfl (by decide) rfl (by simp only [List.map_cons, List.map_nil, go_sem, numbered]) (fun v hv => ?_) fun H1 hX1 hO1 hL1 => ?_
    · rw [List.mem_singleton] at hv; subst hv; exact ⟨_, Lay.nd _, rfl⟩
    refine AQ_append TT_ok (v := vt) (n := t.length) (m := 1) TT_24 rfl TT_49 (by decide) (by decide) rfl (by simp only [go_sem]) (by simp only [go_sem]) (hB.keep hX1).t hO1.sl (rows_length Nd.len t) rfl (by simp; omega) (fun j hj => .inr (.inr hj)) (.inl rfl) fun vt1 H2 hX2 hB2 hv2 => ?_
    have hv2' : ∀ j, vid vt1 = some j → H1.length ≤ j := fun j hj => by
      rcases hv2 j hj with h | h
      · exact h
      · cases h.1
    have hN : NdB H2 vt1 (t ++ [zNd]) := by
      have e : t.flatMap Nd.cells ++ ([zNd.val] : List Value).flatMap (fun v => v.cells.toList) = (t ++ [zNd]).flatMap Nd.cells := by
        rw [List.flatMap_append]; rfl
      rw [e] at hB2
      rw [NdB, List.length_append]
      exact hB2
    refine AQ_take TT_ok 2 rfl (by simp only [go_sem, anil_ptr, f97 _ 2 (by decide)] <;> rfl) ?_
    have hb2 : Ob H2 bi 97 [vl, vn, vt] := (hB.keep hX1).ob.ext hX2 (fun h => ((hB.tl _ h).2.2) rfl)
    refine AQ_store TT_ok TT_24 rfl (by simp only [go_sem] <;> rfl) (by simp only [go_sem] <;> rfl) (hN.sl.one.lay) rfl hb2 (by simp) (.inr (.inl rfl)) (.inl rfl) fun H3 hX3 hO3 hL3 => ?_
    refine AQ_nil ?_
    refine ⟨vt1, (hB.keep hX1).app hX2 hN hv2' hX3 hO3, ?_, fun j hj => by have := hv2' j hj; omega, by simp only [go_sem], by simp only [go_sem], by simp only [go_sem], by simp only [go_sem], by simp only [go_sem]⟩
    exact ((hX1.any.trans (hX2.mono fun i _ h => .inr h)).trans (hX3.mono fun i _ h => .inl h))
  have hn1 := hB1.n
  have ka := hn1.index (k := .i64) (j := a) (by rw [nks_length]; omega)
  have kb := hn1.load (i := a) (by rw [nks_length]; omega)
  have kna : (nks ps)[a]'(by rw [nks_length]; omega) = nib (ps[a]).key := by simp [nks]
  rw [kna] at kb
  refine AC_seqQ TT_ok (by simp only [go_sem, h0, h1, h3, anil_ptr, f97 _ 1 (by decide), hB1.ob.load, ap3_1 _ _ _ 30 rfl, ka, kb, aslice_S10 hla] <;> rfl) ?_
  have wba := wrapNN (x := (b : Int) - (a : Int)) (m := b - a) (by omega) (by omega)
  refine AC_seq ?_
  refine AC_seqQ TT_ok (by simp only [go_sem, h1, h2, wba] <;> rfl) ?_
  have hlen1 : t.length < (t ++ [zNd]).length := by simp
  have kx := hB1.t.sl.index (k := .i64) (j := (t.length : Int)) (by omega) (by simp; omega)
  rw [Int.toNat_natCast] at kx
  have hge1 : H.length ≤ H.length := Nat.le_refl _
  by_cases hone : a + 1 = b
  · -- one pair: a leaf
    have hd : decide (((b - a : Nat) : Int) = 1) = true := decide_eq_true (by omega)
    refine AC_t (by simp only [go_sem] <;> rfl) (hd) ?_
    have l1 := hB1.l.index (k := .i64) (j := (a : Int)) (by omega) (by omega)
    rw [Int.toNat_natCast] at l1
    have l2 := hB1.l.f1 (i := a) (by omega)
    have l3 := hB1.l.value (i := a) (by omega)
    obtain ⟨ti, hO⟩ := Buf.own hB1.t (by simp)
    refine AC_seq ?_
    refine AC_regD [16] mixed (by kernel_rfl) ?_
    refine AQ_take TT_ok 16 rfl (by simp only [go_sem, h0, h1, h9, anil_ptr, f97 _ 2 (by decide), f97 _ 0 (by decide), hB1.ob.load, ap3_2 _ _ _ 24 rfl, ap3_0 _ _ _ 22 rfl, l1, l2, l3, List.map_cons, List.map_nil, bl49, kx] <;> rfl) ?_
    refine AQ_storeE TT_ok TT_49 rfl (by simp only [go_sem] <;> rfl) (by simp only [go_sem] <;> rfl) (Lay.nd _) rfl hO (rowsLen20 _ hlen1) (.inl (hv1 _ hO.vid)) (.inr rfl) fun H2 hX2 hO2 hL2 => ?_
    refine AQ_nil ?_
    have hN := NdB.set hlen1 rfl hO2
    rw [set_mid] at hN
    have hB2 := hB1.put hO.vid hX2 hN
    refine AC_seqQ TT_ok (by simp only [go_sem, h9] <;> rfl) ?_
    refine AC_ret ⟨.inl rfl, _, rfl, by simp only [go_sem], vt1, ?_, hv1⟩
    rw [sg_cons ps a b at_ hlt hle, hone, sg_nil, bld_one]
    exact hB2
  · have hd : decide (((b - a : Nat) : Int) = 1) = false := decide_eq_false (by omega)
    refine AC_f (by simp only [go_sem] <;> rfl) (hd) ?_
    refine AC_skip ?_
    have h2b : a + 1 < b := by omega
    obtain ⟨y, r, e1, e2, e3⟩ := sg_two (at_ := at_) h2b hle
    have kc := hn1.index (k := .i64) (j := b - 1) (by rw [nks_length]; omega)
    have kd := hn1.load (i := b - 1) (by rw [nks_length]; omega)
    have knb : (nks ps)[b - 1]'(by rw [nks_length]; omega) = nib (ps[b - 1]).key := by simp [nks]
    rw [knb] at kd
    have wb1 := wrapNN (x := (b : Int) - 1) (m := b - 1) (by omega) (by omega)
    have hkla : (nib (ps[a]).key).length < 2^31 := by
      have := hkl _ (List.getElem_mem (show a < ps.length by omega)); rw [nib_length]; omega
    refine AC_seq ?_
    refine AC_cut (fun e' H' => BS H' bi vl vn vt1 ps (t ++ [zNd]) ∧ AExt (fun i => i = bi ∨ vid vt = some i) H H' ∧ get e' 0 = .pointer (some ⟨bi, 0, none⟩) ∧ get e' 1 = .int .i64 (a : Nat) ∧ get e' 2 = .int .i64 (b : Nat) ∧ get e' 3 = .int .i64 (at_ : Nat) ∧ get e' 9 = .int .i64 (t.length : Nat) ∧ get e' 10 = S ((nib (ps[a]).key).drop at_) ∧ get e' 11 = .int .i64 (com ((nib (ps[a]).key).drop at_) ((nib (ps[b - 1]).key).drop at_) : Nat)) ?_ (fun E2 H2 _ ⟨hB2, hX2, g0, g1, g2, g3, g9, g10, g11⟩ => ?_)
    · refine AC_regL ?_
      refine AQ_take TT_ok 11 rfl (by simp only [go_sem, h0, h2, h3, anil_ptr, f97 _ 1 (by decide), hB1.ob.load, ap3_1 _ _ _ 30 rfl, wb1, kc, kd, aslice_S10 hlb] <;> rfl) ?_
      refine AQ_c rfl (by simp only [go_sem] <;> rfl) fok79 (by simp only [List.map_cons, List.map_nil, List.append_nil, go_sem] <;> rfl) (c79 (a := (nib (ps[a]).key).drop at_) (b := (nib (ps[b - 1]).key).drop at_) (by rw [List.length_drop]; omega)) (fun _ _ h => h.elim) (.inl rfl) fun v H2 hX2 ⟨hv, hH⟩ => ?_
      subst hv hH
      refine AQ_all TT_ok rfl (by simp only [go_sem] <;> rfl) ?_
      exact ⟨hB1, hX1, by simp only [go_sem, h0], by simp only [go_sem, h1], by simp only [go_sem, h2], by simp only [go_sem, h3], by simp only [go_sem, h9], by simp only [go_sem], by simp only [go_sem]⟩
    generalize hc : com ((nib (ps[a]).key).drop at_) ((nib (ps[b - 1]).key).drop at_) = c at g11
    have hcl : c ≤ (nib (ps[a]).key).length - at_ := by
      have := com_left ((nib (ps[a]).key).drop at_) ((nib (ps[b - 1]).key).drop at_)
      rw [List.length_drop] at this
      omega
    refine AC_seqQ TT_ok (by simp only [go_sem, g11] <;> rfl) ?_
    have kx2 := hB2.t.sl.index (k := .i64) (j := (t.length : Int)) (by omega) (by simp; omega)
    rw [Int.toNat_natCast] at kx2
    by_cases hcp : 0 < c
    · -- an Ext
      refine AC_t (by simp only [go_sem] <;> rfl) (decide_eq_true (by omega)) ?_
      have hbx : bld (f + 1) (sg ps a b at_) t.length = ⟨2, ((nib (ps[a]).key).drop at_).take c, false, [], zk.set 0 ((t.length + 1 : Nat) : Int)⟩ :: bld f (sg ps a b (at_ + c)) (t.length + 1) := by
        have hcom : com ((nib (ps[a]).key).drop at_) (lst y r).1 = c := by rw [e3]; exact hc
        rw [e2, bld_ext _ _ _ _ _ (by dsimp only; rw [hcom]; exact hcp)]
        dsimp only
        rw [hcom, ← e2, sg_cut]
      rw [hbx] at hbd
      have hseg2 := hseg.ext_ h2b hle hc.symm
      have hfu2 : Fu (sg ps a b (at_ + c)) f := by
        rw [← sg_cut]
        intro z hz
        obtain ⟨z0, hz0, rfl⟩ := List.mem_map.1 hz
        have h1 := hfu z0 hz0
        obtain ⟨i, q1, q2, rfl⟩ := sg_mem hle hz0
        have h3 := hseg2.len i q1 q2
        simp only [cut, List.length_drop] at h1 ⊢
        omega
      refine AC_seq ?_
      refine AC_regL ?_
      have sl := aslice_S01 (l := (nib (ps[a]).key).drop at_) (b := c) (k := .i64) (by rw [List.length_drop]; omega)
      refine AQ_take TT_ok 4 rfl (by simp only [go_sem, g10, g11, sl, List.map_cons, List.map_nil, be49] <;> rfl) ?_
      refine AQ_var TT_ok TT_49 rfl (by decide) (by simp only [go_sem] <;> rfl) (Lay.nd _) (Nd.len _) (.inl hX2.size) (.inl rfl) fun H4 hX4 hO4 hL4 => ?_
      refine AQ_nil ?_
      have hB4 := hB2.keep hX4
      have wac := wrapNN (x := (at_ : Int) + (c : Int)) (m := at_ + c) (by omega) (by omega)
      have hX4' : AExt (fun i => i = bi ∨ vid vt = some i) H H4 := hX2.trans hX4.any
      refine AC_seq ?_
      refine AC_regL ?_
      refine AQ_take TT_ok 6 rfl (by simp only [go_sem, g0, g1, g2, g3, g11, wac] <;> rfl) ?_
      refine AQ_c rfl (by simp only [go_sem] <;> rfl) fok63 (by simp only [List.map_cons, List.map_nil, List.append_nil, go_sem] <;> rfl) (ih H4 bi vl vn vt1 ps (t ++ [zNd]) a b (at_ + c) hB4 hseg2 hfu2 (by simp at hbd ⊢; omega) hpl hkl) (fun i hi hm => ?_) (.inl rfl) fun v H5 hX5 ⟨hv, vt5, hB5, hv5⟩ => ?_
      · rcases hm with rfl | hm
        · exact .inr (.inl rfl)
        · exact .inl (hv1 i hm)
      subst hv
      have hln : (t ++ [zNd]).length = t.length + 1 := by simp
      rw [hln] at hB5
      have hO5 : Ob H5 H2.length 49 (Nd.mk 2 (((nib (ps[a]).key).drop at_).take c) false [] zk).cells := hO4.ext hX5 (by
        rintro (h | h)
        · have := hB2.ob.lt; omega
        · have := Sl.vid_lt hB2.t.sl h; omega)
      have f4 : afield TT 49 (.pointer (some ⟨H2.length, 0, none⟩)) 4 = some (.pointer (some ⟨H2.length, 4, none⟩)) := rfl
      have i0 : aindex TT 47 (.pointer (some ⟨H2.length, 4, none⟩)) (.int .i64 0) = some (.pointer (some ⟨H2.length, 4, none⟩)) := rfl
      refine AQ_take TT_ok 2 rfl (by simp only [go_sem, f4, i0] <;> rfl) ?_
      refine AQ_store TT_ok TT_3 rfl (by simp only [go_sem] <;> rfl) (by simp only [go_sem] <;> rfl) (One.int _ _).lay rfl hO5 (by rw [Nd.len]; exact (by decide : 4 + 1 ≤ 20)) (.inl (by have := hX2.size; omega)) (.inl rfl) fun H6 hX6 hO6 hL6 => ?_
      refine AQ_nil ?_
      have hov : over (Nd.mk 2 (((nib (ps[a]).key).drop at_).take c) false [] zk).cells 4 [.int .i64 ((t ++ [zNd]).length : Nat)] = (Nd.mk 2 (((nib (ps[a]).key).drop at_).take c) false [] (zk.set 0 ((t.length + 1 : Nat) : Int))).cells := by
        rw [hln]
        exact Nd.over_kid ⟨2, ((nib (ps[a]).key).drop at_).take c, false, [], zk⟩ 0 (by decide) _
      rw [hov] at hO6
      have hB6 := hB5.ext hX6 (fun i _ hi => by
        subst hi
        refine ⟨fun h => ?_, fun h => ?_, fun h => ?_, fun h => ?_⟩
        · have := hB2.ob.lt; omega
        · have := hB2.l.vid_lt h; omega
        · have := hB2.n.vid_lt h; omega
        · have := hv5 _ h; omega)
      have hlen6 : t.length < (t ++ [zNd] ++ bld f (sg ps a b (at_ + c)) (t.length + 1)).length := by simp
      have kx6 := hB6.t.sl.index (k := .i64) (j := (t.length : Int)) (by omega) (Int.ofNat_lt.2 hlen6)
      rw [Int.toNat_natCast] at kx6
      obtain ⟨ti, hO⟩ := Buf.own hB6.t (by simp)
      refine AC_seq ?_
      refine AC_regD [7] mixed (by kernel_rfl) ?_
      refine AQ_take TT_ok 7 rfl (by simp only [go_sem, g0, g9, anil_ptr, f97 _ 2 (by decide), hB6.ob.load, ap3_2 _ _ _ 24 rfl, kx6, hO6.load, Nd.part] <;> rfl) ?_
      refine AQ_storeE TT_ok TT_49 rfl (by simp only [go_sem] <;> rfl) (by simp only [go_sem] <;> rfl) (Lay.nd _) (Nd.len _) hO (by rw [Nd.len]; exact rowsLen20 _ hlen6) (.inl (Nat.le_trans (by have := hX2.size; omega) (hv5 _ hO.vid))) (.inr rfl) fun H7 hX7 hO7 hL7 => ?_
      refine AQ_nil ?_
      have hN := NdB.set hlen6 rfl hO7
      rw [List.append_assoc, List.singleton_append, set_mid] at hN
      have hB7 := hB6.put hO.vid hX7 hN
      refine AC_seqQ TT_ok (by simp only [go_sem, g9] <;> rfl) ?_
      refine AC_ret ⟨.inl rfl, _, rfl, by simp only [go_sem], vt5, ?_, fun j hj => Nat.le_trans (by have := hX2.size; omega) (hv5 j hj)⟩
      rw [hbx]
      exact hB7
    · -- a Branch
      have hc0 : c = 0 := by omega
      subst hc0
      refine AC_f (by simp only [go_sem] <;> rfl) (decide_eq_false (by omega)) ?_
      refine AC_skip ?_
      have hcom : com ((nib (ps[a]).key).drop at_) (lst y r).1 = 0 := by rw [e3]; exact hc
      have hgs : groups (if (nib (ps[a]).key).drop at_ = [] then y :: r else ((nib (ps[a]).key).drop at_, (ps[a]).value) :: y :: r) = gs0 ps a b at_ := by
        rw [gs0, e1, e2]; rfl
      have hbx : bld (f + 1) (sg ps a b at_) t.length = nb0 f ps a b at_ (t.length + 1) :: (brn (bld f) (gs0 ps a b at_) (t.length + 1) zk).1 := by
        rw [e2, bld_brn _ _ _ _ _ (by dsimp only; omega)]
        dsimp only
        rw [hgs, nb0, e2]
        rfl
      rw [hbx] at hbd
      have hga : ∀ i (hi : i < ps.length), (ps.map (·.key)).getD i [] = (ps[i]).key := fun i hi => by simp [List.getD_eq_getElem?_getD, hi]
      refine AC_seq ?_
      refine AC_regL ?_
      refine AQ_take TT_ok 4 rfl (by simp only [go_sem, g0, g1, g2, g3] <;> rfl) ?_
      have hln : (t ++ [zNd]).length = t.length + 1 := by simp
      refine AQ_c rfl (by simp only [go_sem] <;> rfl) fok80 (by simp only [List.map_cons, List.map_nil, List.append_nil, go_sem] <;> rfl) (ihb H2 bi vl vn vt1 ps (t ++ [zNd]) a b at_ hB2 hseg hfu h2b (by rw [hga a (by omega), hga (b - 1) (by omega)]; exact hc) (by rw [hln]; simp at hbd ⊢; omega) hpl hkl) (fun i hi hm => ?_) (.inl rfl) fun v H5 hX5 ⟨hv, vt5, hB5, hv5⟩ => ?_
      · rcases hm with rfl | hm
        · exact .inr (.inl rfl)
        · exact .inl (hv1 i hm)
      rw [hln] at hB5 hv
      subst hv
      have hv5' : ∀ j, vid vt5 = some j → H.length ≤ j := fun j hj => by
        rcases hv5 j hj with h | rfl
        · have := hX2.size; omega
        · exact hv1 j hj
      refine AQ_var TT_ok TT_49 rfl (by decide) (by simp only [go_sem] <;> rfl) (Lay.nd _) (Nd.len _) (.inl (by have := hX2.size; have := hX5.size; omega)) (.inl rfl) fun H6 hX6 hO6 hL6 => ?_
      refine AQ_nil ?_
      have hB6 := hB5.keep hX6
      have hlen6 : t.length < (t ++ [zNd] ++ (brn (bld f) (gs0 ps a b at_) (t.length + 1) zk).1).length := by simp
      have kx6 := hB6.t.sl.index (k := .i64) (j := (t.length : Int)) (by omega) (Int.ofNat_lt.2 hlen6)
      rw [Int.toNat_natCast] at kx6
      obtain ⟨ti, hO⟩ := Buf.own hB6.t (by simp)
      refine AC_seq ?_
      refine AC_regD [7] mixed (by kernel_rfl) ?_
      refine AQ_take TT_ok 7 rfl (by simp only [go_sem, g0, g9, anil_ptr, f97 _ 2 (by decide), hB6.ob.load, ap3_2 _ _ _ 24 rfl, kx6, hO6.load, Nd.part] <;> rfl) ?_
      refine AQ_storeE TT_ok TT_49 rfl (by simp only [go_sem] <;> rfl) (by simp only [go_sem] <;> rfl) (Lay.nd _) (Nd.len _) hO (by rw [Nd.len]; exact rowsLen20 _ hlen6) (.inl (hv5' _ hO.vid)) (.inr rfl) fun H7 hX7 hO7 hL7 => ?_
      refine AQ_nil ?_
      have hN := NdB.set hlen6 rfl hO7
      rw [List.append_assoc, List.singleton_append, set_mid] at hN
      have hB7 := hB6.put hO.vid hX7 hN
      refine AC_seqQ TT_ok (by simp only [go_sem, g9] <;> rfl) ?_
      refine AC_ret ⟨.inl rfl, _, rfl, by simp only [go_sem], vt5, ?_, hv5'⟩
      rw [hbx]
      exact hB7
end Go.Proofs.Ythalogdopkoidaa.Ab
