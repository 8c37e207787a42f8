/- A maker in memory; the pure paths. No statement of the seat's in it. -/
import Derived.Test.YthalogdopkoidaaC11
set_option linter.unusedVariables false
set_option linter.unusedSimpArgs false
namespace Go.Proofs.Ythalogdopkoidaa.Ab
open Go Go.RowKit

theorem pth_one (f : Nat) (x : List UInt8 × List UInt8) (p : List UInt8) : pth (f + 1) [x] p = [p] := rfl
theorem pth_ext (f : Nat) (x y : List UInt8 × List UInt8) (r : Sx) (p : List UInt8) (h : 0 < com x.1 (lst y r).1) :
    pth (f + 1) (x :: y :: r) p = p :: pth f ((x :: y :: r).map (cut (com x.1 (lst y r).1))) (p ++ x.1.take (com x.1 (lst y r).1)) := by
  rw [pth]; simp only [if_pos h]
theorem pth_brn (f : Nat) (x y : List UInt8 × List UInt8) (r : Sx) (p : List UInt8) (h : ¬ 0 < com x.1 (lst y r).1) :
    pth (f + 1) (x :: y :: r) p = p :: pbrn (pth f) p (groups (if x.1 = [] then y :: r else x :: y :: r)) := by
  rw [pth]; simp only [if_neg h]
theorem pbrn_cons (b : Sx → List UInt8 → List (List UInt8)) (p : List UInt8) (c : UInt8) (g : Sx) (gs : List (UInt8 × Sx)) : pbrn b p ((c, g) :: gs) = b g (p ++ [c]) ++ pbrn b p gs := rfl

theorem pbrn_len {b : Sx → Nat → List Nd} {b' : Sx → List UInt8 → List (List UInt8)} (h : ∀ s k p, (b' s p).length = (b s k).length) (p : List UInt8) : ∀ (gs : List (UInt8 × Sx)) (k : Nat) (kids : Vector Int 16), (pbrn b' p gs).length = (brn b gs k kids).1.length
  | [], k, kids => rfl
  | (c, g) :: gs, k, kids => by
    rw [pbrn_cons, brn_cons, List.length_append, List.length_append, h g k, pbrn_len h p gs]
theorem pth_len : ∀ (f : Nat) (s : Sx) (k : Nat) (p : List UInt8), (pth f s p).length = (bld f s k).length
  | 0, s, k, p => rfl
  | f + 1, [], k, p => rfl
  | f + 1, [x], k, p => rfl
  | f + 1, x :: y :: r, k, p => by
    by_cases h : 0 < com x.1 (lst y r).1
    · rw [pth_ext _ _ _ _ _ h, bld_ext _ _ _ _ _ h, List.length_cons, List.length_cons, pth_len f _ (k + 1)]
    · rw [pth_brn _ _ _ _ _ h, bld_brn _ _ _ _ _ h, List.length_cons, List.length_cons, pbrn_len (pth_len f)]

/-- All of a stretch begin with the same nibbles. -/
def Pre (ps : List Pr) (a b at_ : Nat) (pre : List UInt8) : Prop := ∀ i, a ≤ i → (h : i < b) → (h2 : i < ps.length) → (nib (ps[i]).key).take at_ = pre

structure MS (H : AHeap) (mi : Nat) (vl vn vt vp : Value) (ps : List Pr) (t : List Nd) (q : List (List UInt8)) : Prop where
  ob : Ob H mi 101 [vl, vn, vt, vp]
  l : PrS H vl ps
  n : StS H vn (nks ps)
  t : NdB H vt t
  p : StB H vp q
  tl : ∀ j, vid vt = some j → vid vl ≠ some j ∧ vid vn ≠ some j ∧ vid vp ≠ some j ∧ j ≠ mi
  pl : ∀ j, vid vp = some j → vid vl ≠ some j ∧ vid vn ≠ some j ∧ j ≠ mi
  lb : vid vl ≠ some mi
  nb : vid vn ≠ some mi

theorem MS.ext {H H' : AHeap} {mi : Nat} {vl vn vt vp : Value} {ps : List Pr} {t : List Nd} {q : List (List UInt8)} {M : Nat → Prop} (h : MS H mi vl vn vt vp ps t q) (hX : AExt M H H') (hM : ∀ i, i < H.length → M i → i ≠ mi ∧ vid vl ≠ some i ∧ vid vn ≠ some i ∧ vid vt ≠ some i ∧ vid vp ≠ some i) : MS H' mi vl vn vt vp ps t q :=
  ⟨h.ob.ext hX (fun hm => (hM _ h.ob.lt hm).1 rfl), h.l.ext hX (fun i hi hv hm => (hM i hi hm).2.1 hv), h.n.ext hX (fun i hi hv hm => (hM i hi hm).2.2.1 hv), Buf.ext h.t hX (fun i hv hm => (hM i (Sl.vid_lt h.t.sl hv) hm).2.2.2.1 hv), Buf.ext h.p hX (fun i hv hm => (hM i (Sl.vid_lt h.p.sl hv) hm).2.2.2.2 hv), h.tl, h.pl, h.lb, h.nb⟩
theorem MS.keep {H H' : AHeap} {mi : Nat} {vl vn vt vp : Value} {ps : List Pr} {t : List Nd} {q : List (List UInt8)} (h : MS H mi vl vn vt vp ps t q) (hX : AExt (fun _ => False) H H') : MS H' mi vl vn vt vp ps t q := h.ext hX (fun _ _ h => h.elim)

theorem MS.appT {H H1 H2 : AHeap} {mi : Nat} {vl vn vt vt1 vp : Value} {ps : List Pr} {t t1 : List Nd} {q : List (List UInt8)} (h : MS H mi vl vn vt vp ps t q) (hX : AExt (fun j => vid vt = some j) H H1) (hT : NdB H1 vt1 t1) (hv : ∀ j, vid vt1 = some j → H.length ≤ j) (hY : AExt (fun j => j = mi) H1 H2) (hO : Ob H2 mi 101 [vl, vn, vt1, vp]) : MS H2 mi vl vn vt1 vp ps t1 q := by
  have hl := h.ob.lt
  refine ⟨hO, (h.l.ext hX fun i _ hi hm => (h.tl i hm).1 hi).ext hY fun i _ hi hm => h.lb (by rw [hi, hm]), (h.n.ext hX fun i _ hi hm => (h.tl i hm).2.1 hi).ext hY fun i _ hi hm => h.nb (by rw [hi, hm]), Buf.ext hT hY fun i hi hm => ?_, (Buf.ext h.p hX fun i hi hm => (h.tl i hm).2.2.1 hi) |>.ext hY fun i hi hm => (h.pl i hi).2.2 hm, fun j hj => ⟨fun hh => ?_, fun hh => ?_, fun hh => ?_, ?_⟩, h.pl, h.lb, h.nb⟩
  · have := hv i hi; omega
  · have := h.l.vid_lt hh; have := hv j hj; omega
  · have := h.n.vid_lt hh; have := hv j hj; omega
  · have := Sl.vid_lt h.p.sl hh; have := hv j hj; omega
  · have := hv j hj; omega

theorem MS.appP {H H1 H2 : AHeap} {mi : Nat} {vl vn vt vp vp1 : Value} {ps : List Pr} {t : List Nd} {q q1 : List (List UInt8)} (h : MS H mi vl vn vt vp ps t q) (hX : AExt (fun j => vid vp = some j) H H1) (hT : StB H1 vp1 q1) (hv : ∀ j, vid vp1 = some j → H.length ≤ j) (hY : AExt (fun j => j = mi) H1 H2) (hO : Ob H2 mi 101 [vl, vn, vt, vp1]) : MS H2 mi vl vn vt vp1 ps t q1 := by
  have hl := h.ob.lt
  refine ⟨hO, (h.l.ext hX fun i _ hi hm => (h.pl i hm).1 hi).ext hY fun i _ hi hm => h.lb (by rw [hi, hm]), (h.n.ext hX fun i _ hi hm => (h.pl i hm).2.1 hi).ext hY fun i _ hi hm => h.nb (by rw [hi, hm]), (Buf.ext h.t hX fun i hi hm => (h.tl i hi).2.2.1 hm) |>.ext hY fun i hi hm => (h.tl i hi).2.2.2 hm, Buf.ext hT hY fun i hi hm => ?_, fun j hj => ⟨(h.tl j hj).1, (h.tl j hj).2.1, fun hh => ?_, (h.tl j hj).2.2.2⟩, fun j hj => ⟨fun hh => ?_, fun hh => ?_, ?_⟩, h.lb, h.nb⟩
  · have := hv i hi; omega
  · have := Sl.vid_lt h.t.sl hj; have := hv j hh; omega
  · have := h.l.vid_lt hh; have := hv j hj; omega
  · have := h.n.vid_lt hh; have := hv j hj; omega
  · have := hv j hj; omega

theorem MS.put {H H' : AHeap} {mi i : Nat} {vl vn vt vp : Value} {ps : List Pr} {t t' : List Nd} {q : List (List UInt8)} (h : MS H mi vl vn vt vp ps t q) (hi : vid vt = some i) (hX : AExt (fun j => j = i) H H') (hT : NdB H' vt t') : MS H' mi vl vn vt vp ps t' q := by
  obtain ⟨g1, g2, g3, g4⟩ := h.tl i hi
  exact ⟨h.ob.ext hX (fun e => g4 e.symm), h.l.ext hX (fun j _ hj e => g1 (by rw [hj, e])), h.n.ext hX (fun j _ hj e => g2 (by rw [hj, e])), hT, Buf.ext h.p hX (fun j hj e => g3 (by rw [hj, e])), h.tl, h.pl, h.lb, h.nb⟩

/-- One cell of a node is written. -/
theorem NdB.cell {H' : AHeap} {v : Value} {t : List Nd} {k i j : Nat} {u : Value} {y : Nd} (hk : k < t.length) (hj : j < 20) (hy : y.cells = (t[k]).cells.set j u) (h : Own H' v 49 t.length (over (t.flatMap Nd.cells) (k * 20 + j) [u]) i) : NdB H' v (t.set k y) := by
  have e : over (t.flatMap Nd.cells) (k * 20 + j) [u] = (t.flatMap Nd.cells).set (k * 20 + j) u := rfl
  rw [e, rows_set Nd.len t k j u y hk hj hy] at h
  rw [NdB, List.length_set]
  exact .inr ⟨i, h⟩

theorem f101 (i f : Nat) (h : f < 4) : afield TT 101 (.pointer (some ⟨i, 0, none⟩)) f = some (.pointer (some ⟨i, f, none⟩)) := by
  rcases f with _ | _ | _ | _ | f <;> first | rfl | omega
end Go.Proofs.Ythalogdopkoidaa.Ab
