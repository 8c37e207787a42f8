/- Elements of slices of nodes, pairs, texts, numbers: addresses and loads. No statement of the seat's in it. -/
import Derived.Test.YthalogdopkoidaaB5
set_option linter.unusedVariables false
namespace Go.Proofs.Ythalogdopkoidaa.Ab
open Go Go.RowKit

/-- A load of one cell out of a slice of rows. -/
theorem Sl.row {α : Type} {f : α → List Value} {s : Nat} (hs : ∀ x, (f x).length = s) {H : AHeap} {v : Value} {xs : List α} {ety : Nat} (h : Sl H v ety xs.length (xs.flatMap f)) {i j : Nat} (hi : i < xs.length) (hj : j < s) {t : Nat} {ti : TI} (ht : TT t = some ti) (ha : ti.d.isAgg = false) (h1 : ti.size = 1) : aload TT H t (ep v (i * s + j)) = (f xs[i])[j]? := by
  have hl : i * s + s ≤ (xs.flatMap f).length := by
    rw [rows_length hs]
    have := Nat.mul_le_mul_right s (Nat.succ_le_of_lt hi)
    rw [Nat.succ_mul] at this; exact this
  rw [Sl.load h ht (i * s + j) (by rw [h1]; omega) (by rw [h1]; decide)]
  unfold apart
  rw [ht]
  dsimp only
  rw [ha]
  simp only [Bool.false_eq_true, if_false]
  exact rows_get hs xs i j hi hj

theorem Sl.isPtr {α : Type} {f : α → List Value} {s : Nat} (hs : ∀ x, (f x).length = s) (h0 : 0 < s) {H : AHeap} {v : Value} {xs : List α} {ety : Nat} (h : Sl H v ety xs.length (xs.flatMap f)) {i : Nat} (hi : i < xs.length) : ∃ i off n m, v = .slice (some ⟨i, off, none⟩) n m := by
  obtain ⟨i, off, hv⟩ := Sl.ptr h (by
    intro e
    have := rows_length hs xs
    rw [e, List.length_nil] at this
    have h2 : 0 < xs.length * s := Nat.mul_pos (by omega) h0
    omega)
  exact ⟨i, off, _, _, hv⟩

section
variable {H : AHeap} {v : Value} {ps : List Pr}
theorem PrS.alen (h : PrS H v ps) : alen TT 22 v = some (.int .i64 ps.length) := Sl.alen h rfl
theorem PrS.index (h : PrS H v ps) {k : IntKind} {j : Int} (h0 : 0 ≤ j) (h1 : j < ps.length) : aindex TT 22 v (.int k j) = some (ep v (j.toNat * 2)) := Sl.index h rfl rfl h0 h1
theorem PrS.load (h : PrS H v ps) {i : Nat} (hi : i < ps.length) : aload TT H 52 (ep v (i * 2)) = some ps[i].val := by
  have hl : i * 2 + 2 ≤ (ps.flatMap Pr.cells).length := by rw [rows_length Pr.len]; omega
  rw [Sl.load h TT_52 (i * 2) hl (by decide)]
  unfold apart
  rw [TT_52]
  simp only [TD.isAgg, if_true]
  rw [if_pos hl, rows_at Pr.len ps i hi]
  rfl
theorem PrS.f0 (h : PrS H v ps) {i : Nat} (hi : i < ps.length) : afield TT 52 (ep v (i * 2)) 0 = some (ep v (i * 2 + 0)) := ep_field (Sl.isPtr Pr.len (by decide) h hi) rfl rfl ⟨_, TT_9, by decide⟩ _
theorem PrS.f1 (h : PrS H v ps) {i : Nat} (hi : i < ps.length) : afield TT 52 (ep v (i * 2)) 1 = some (ep v (i * 2 + 1)) := ep_field (Sl.isPtr Pr.len (by decide) h hi) rfl rfl ⟨_, TT_9, by decide⟩ _
theorem PrS.key (h : PrS H v ps) {i : Nat} (hi : i < ps.length) : aload TT H 9 (ep v (i * 2 + 0)) = some (S ps[i].key) := Sl.row Pr.len h hi (by decide) TT_9 rfl rfl
theorem PrS.value (h : PrS H v ps) {i : Nat} (hi : i < ps.length) : aload TT H 9 (ep v (i * 2 + 1)) = some (S ps[i].value) := Sl.row Pr.len h hi (by decide) TT_9 rfl rfl
end

section
variable {H : AHeap} {v : Value} {ns : List Nd}
theorem NdS.isPtr (h : NdS H v ns) {i : Nat} (hi : i < ns.length) : ∃ i off n m, v = .slice (some ⟨i, off, none⟩) n m := Sl.isPtr Nd.len (by decide) h hi
theorem NdS.f0 (h : NdS H v ns) {i : Nat} (hi : i < ns.length) : afield TT 49 (ep v (i * 20)) 0 = some (ep v (i * 20 + 0)) := ep_field (h.isPtr hi) rfl rfl ⟨_, TT_3, by decide⟩ _
theorem NdS.f1 (h : NdS H v ns) {i : Nat} (hi : i < ns.length) : afield TT 49 (ep v (i * 20)) 1 = some (ep v (i * 20 + 1)) := ep_field (h.isPtr hi) rfl rfl ⟨_, TT_9, by decide⟩ _
theorem NdS.f2 (h : NdS H v ns) {i : Nat} (hi : i < ns.length) : afield TT 49 (ep v (i * 20)) 2 = some (ep v (i * 20 + 2)) := ep_field (h.isPtr hi) rfl rfl ⟨_, TT_4, by decide⟩ _
theorem NdS.f3 (h : NdS H v ns) {i : Nat} (hi : i < ns.length) : afield TT 49 (ep v (i * 20)) 3 = some (ep v (i * 20 + 3)) := ep_field (h.isPtr hi) rfl rfl ⟨_, TT_9, by decide⟩ _
theorem NdS.f4 (h : NdS H v ns) {i : Nat} (hi : i < ns.length) : afield TT 49 (ep v (i * 20)) 4 = some (ep v (i * 20 + 4)) := ep_field (h.isPtr hi) rfl rfl ⟨_, TT_47, by decide⟩ _
theorem NdS.kidx (h : NdS H v ns) {i : Nat} (hi : i < ns.length) {k : IntKind} {c : Nat} (hc : c < 16) : aindex TT 47 (ep v (i * 20 + 4)) (.int k (c : Int)) = some (ep v (i * 20 + (4 + c))) := by
  obtain ⟨b, o, n, m, rfl⟩ := h.isPtr hi
  simp only [ep, aindex, TT_47, TT_3]
  rw [if_pos (by omega)]
  simp only [Int.toNat_natCast]
  congr 4
  omega
theorem NdS.kid (h : NdS H v ns) {i : Nat} (hi : i < ns.length) {c : Nat} (hc : c < 16) : aload TT H 3 (ep v (i * 20 + (4 + c))) = some (.int .i64 ns[i].kids[c]) := by
  rw [h.cell hi (by omega) TT_3 rfl rfl, kids_get _ c hc]
end

section
variable {H : AHeap} {v : Value}
theorem StS.alen {xs : List (List UInt8)} (h : StS H v xs) : alen TT 30 v = some (.int .i64 xs.length) := Sl.alen h rfl
theorem StS.index {xs : List (List UInt8)} (h : StS H v xs) {k : IntKind} {j : Nat} (h1 : j < xs.length) : aindex TT 30 v (.int k (j : Int)) = some (ep v (j * 1 + 0)) := by
  rw [Sl.index h rfl (s := 1) rfl (by omega) (by omega), Int.toNat_natCast]; rfl
theorem StS.load {xs : List (List UInt8)} (h : StS H v xs) {i : Nat} (hi : i < xs.length) : aload TT H 9 (ep v (i * 1 + 0)) = some (S xs[i]) := Sl.row sCell_len h hi (by decide) TT_9 rfl rfl
theorem InS.alen {xs : List Int} (h : InS H v xs) : alen TT 46 v = some (.int .i64 xs.length) := Sl.alen h rfl
theorem InS.index {xs : List Int} (h : InS H v xs) {k : IntKind} {j : Nat} (h1 : j < xs.length) : aindex TT 46 v (.int k (j : Int)) = some (ep v (j * 1 + 0)) := by
  rw [Sl.index h rfl (s := 1) rfl (by omega) (by omega), Int.toNat_natCast]; rfl
theorem InS.load {xs : List Int} (h : InS H v xs) {i : Nat} (hi : i < xs.length) : aload TT H 3 (ep v (i * 1 + 0)) = some (.int .i64 xs[i]) := Sl.row iCell_len h hi (by decide) TT_3 rfl rfl
theorem ByS.alen {xs : List UInt8} (h : ByS H v xs) : alen TT 50 v = some (.int .i64 xs.length) := Sl.alen h rfl
theorem ByS.index {xs : List UInt8} (h : ByS H v xs) {k : IntKind} {j : Nat} (h1 : j < xs.length) : aindex TT 50 v (.int k (j : Int)) = some (ep v (j * 1 + 0)) := by
  rw [Sl.index h rfl (s := 1) rfl (by omega) (by omega), Int.toNat_natCast]; rfl
theorem ByS.load {xs : List UInt8} (h : ByS H v xs) {i : Nat} (hi : i < xs.length) : aload TT H 5 (ep v (i * 1 + 0)) = some (U xs[i]) := Sl.row bCell_len h hi (by decide) TT_5 rfl rfl
theorem BoS.alen {xs : List Bool} (h : BoS H v xs) : alen TT 107 v = some (.int .i64 xs.length) := Sl.alen h rfl
theorem BoS.index {xs : List Bool} (h : BoS H v xs) {k : IntKind} {j : Nat} (h1 : j < xs.length) : aindex TT 107 v (.int k (j : Int)) = some (ep v (j * 1 + 0)) := by
  rw [Sl.index h rfl (s := 1) rfl (by omega) (by omega), Int.toNat_natCast]; rfl
theorem BoS.load {xs : List Bool} (h : BoS H v xs) {i : Nat} (hi : i < xs.length) : aload TT H 4 (ep v (i * 1 + 0)) = some (.bool xs[i]) := Sl.row oCell_len h hi (by decide) TT_4 rfl rfl

/-- The text of bytes. -/
theorem ByS.conv {xs : List UInt8} (h : ByS H v xs) : aconv TT H 50 9 v = some (S xs) := by
  rcases h with ⟨rfl, h1, h2⟩ | ⟨i, off, o, h⟩
  · have : xs = [] := List.eq_nil_of_length_eq_zero h1
    subst this
    rfl
  · rw [h.val]
    simp only [aconv, TT_50, TT_9, TT_5]
    by_cases h0 : xs.length = 0
    · have : xs = [] := List.eq_nil_of_length_eq_zero h0
      subst this
      rfl
    · have hlen : (xs.flatMap bCell).length = xs.length := by rw [rows_length bCell_len]; omega
      have hl := h.len
      rw [hlen] at hl
      have hc := h.cells
      rw [hlen] at hc
      rw [if_neg h0]
      simp only [h.obj]
      rw [if_pos hl, hc]
      have key : ∀ ys : List UInt8, (ys.flatMap bCell).mapM byteOf? = some (ys.map fun b => (b.toNat : Int)) := by
        intro ys
        induction ys with
        | nil => rfl
        | cons y ys ih =>
          simp only [List.flatMap_cons, bCell, List.cons_append, List.nil_append, List.mapM_cons, U, byteOf?] at ih ⊢
          rw [ih]
          rfl
      rw [key]
      simp only [Option.map_some, S, strOfNums, List.map_map]
      congr 4
      conv => rhs; rw [← List.map_id xs]
      apply List.map_congr_left
      intro b _
      simp
end

theorem NdS.keep {H H' : AHeap} {v : Value} {l : List Nd} (h : NdS H v l) (hX : AExt (fun _ => False) H H') : NdS H' v l := Sl.keep h hX
theorem NdS.ext {H H' : AHeap} {v : Value} {l : List Nd} {M : Nat → Prop} (h : NdS H v l) (hX : AExt M H H') (hM : ∀ i, i < H.length → vid v = some i → ¬ M i) : NdS H' v l := Sl.ext h hX (fun i hi => hM i (Sl.vid_lt h hi) hi)
theorem NdS.vid_lt {H : AHeap} {v : Value} {l : List Nd} (h : NdS H v l) {i : Nat} (hi : vid v = some i) : i < H.length := Sl.vid_lt h hi
theorem NdS.one {H : AHeap} {v : Value} {l : List Nd} (h : NdS H v l) : One v := Sl.one h
theorem PrS.keep {H H' : AHeap} {v : Value} {l : List Pr} (h : PrS H v l) (hX : AExt (fun _ => False) H H') : PrS H' v l := Sl.keep h hX
theorem PrS.ext {H H' : AHeap} {v : Value} {l : List Pr} {M : Nat → Prop} (h : PrS H v l) (hX : AExt M H H') (hM : ∀ i, i < H.length → vid v = some i → ¬ M i) : PrS H' v l := Sl.ext h hX (fun i hi => hM i (Sl.vid_lt h hi) hi)
theorem PrS.vid_lt {H : AHeap} {v : Value} {l : List Pr} (h : PrS H v l) {i : Nat} (hi : vid v = some i) : i < H.length := Sl.vid_lt h hi
theorem PrS.one {H : AHeap} {v : Value} {l : List Pr} (h : PrS H v l) : One v := Sl.one h
theorem StS.keep {H H' : AHeap} {v : Value} {l : List (List UInt8)} (h : StS H v l) (hX : AExt (fun _ => False) H H') : StS H' v l := Sl.keep h hX
theorem StS.ext {H H' : AHeap} {v : Value} {l : List (List UInt8)} {M : Nat → Prop} (h : StS H v l) (hX : AExt M H H') (hM : ∀ i, i < H.length → vid v = some i → ¬ M i) : StS H' v l := Sl.ext h hX (fun i hi => hM i (Sl.vid_lt h hi) hi)
theorem StS.vid_lt {H : AHeap} {v : Value} {l : List (List UInt8)} (h : StS H v l) {i : Nat} (hi : vid v = some i) : i < H.length := Sl.vid_lt h hi
theorem StS.one {H : AHeap} {v : Value} {l : List (List UInt8)} (h : StS H v l) : One v := Sl.one h
theorem InS.keep {H H' : AHeap} {v : Value} {l : List Int} (h : InS H v l) (hX : AExt (fun _ => False) H H') : InS H' v l := Sl.keep h hX
theorem InS.ext {H H' : AHeap} {v : Value} {l : List Int} {M : Nat → Prop} (h : InS H v l) (hX : AExt M H H') (hM : ∀ i, i < H.length → vid v = some i → ¬ M i) : InS H' v l := Sl.ext h hX (fun i hi => hM i (Sl.vid_lt h hi) hi)
theorem InS.vid_lt {H : AHeap} {v : Value} {l : List Int} (h : InS H v l) {i : Nat} (hi : vid v = some i) : i < H.length := Sl.vid_lt h hi
theorem InS.one {H : AHeap} {v : Value} {l : List Int} (h : InS H v l) : One v := Sl.one h
theorem ByS.keep {H H' : AHeap} {v : Value} {l : List UInt8} (h : ByS H v l) (hX : AExt (fun _ => False) H H') : ByS H' v l := Sl.keep h hX
theorem ByS.ext {H H' : AHeap} {v : Value} {l : List UInt8} {M : Nat → Prop} (h : ByS H v l) (hX : AExt M H H') (hM : ∀ i, i < H.length → vid v = some i → ¬ M i) : ByS H' v l := Sl.ext h hX (fun i hi => hM i (Sl.vid_lt h hi) hi)
theorem ByS.vid_lt {H : AHeap} {v : Value} {l : List UInt8} (h : ByS H v l) {i : Nat} (hi : vid v = some i) : i < H.length := Sl.vid_lt h hi
theorem ByS.one {H : AHeap} {v : Value} {l : List UInt8} (h : ByS H v l) : One v := Sl.one h
theorem BoS.keep {H H' : AHeap} {v : Value} {l : List Bool} (h : BoS H v l) (hX : AExt (fun _ => False) H H') : BoS H' v l := Sl.keep h hX
theorem BoS.ext {H H' : AHeap} {v : Value} {l : List Bool} {M : Nat → Prop} (h : BoS H v l) (hX : AExt M H H') (hM : ∀ i, i < H.length → vid v = some i → ¬ M i) : BoS H' v l := Sl.ext h hX (fun i hi => hM i (Sl.vid_lt h hi) hi)
theorem BoS.vid_lt {H : AHeap} {v : Value} {l : List Bool} (h : BoS H v l) {i : Nat} (hi : vid v = some i) : i < H.length := Sl.vid_lt h hi
theorem BoS.one {H : AHeap} {v : Value} {l : List Bool} (h : BoS H v l) : One v := Sl.one h

attribute [go_sem] Nat.zero_mul
end Go.Proofs.Ythalogdopkoidaa.Ab
