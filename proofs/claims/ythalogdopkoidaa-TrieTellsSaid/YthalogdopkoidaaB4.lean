/- Rules for the operations that make memory or write it, with what is known of the objects behind them. No statement of the seat's in it. -/
import Derived.Test.YthalogdopkoidaaB3
set_option linter.unusedVariables false
namespace Go.Proofs.Ythalogdopkoidaa.Ab
open Go Go.RowKit Go.Proofs.Ythalogdopkoidaa.Dr

/-! ### Objects of one's own -/
def Ob (H : AHeap) (i ty : Nat) (cells : List Value) : Prop := H[i]? = some (some ⟨ty, cells, true⟩)

theorem Ob.lt {H : AHeap} {i ty : Nat} {cells : List Value} (h : Ob H i ty cells) : i < H.length := (List.getElem?_eq_some_iff.1 h).1
theorem Ob.ext {H H' : AHeap} {i ty : Nat} {cells : List Value} {M : Nat → Prop} (h : Ob H i ty cells) (hX : AExt M H H') (hM : ¬ M i) : Ob H' i ty cells := hX.live h hM
theorem Ob.keep {H H' : AHeap} {i ty : Nat} {cells : List Value} (h : Ob H i ty cells) (hX : AExt (fun _ => False) H H') : Ob H' i ty cells := h.ext hX id
theorem Ob.load {H : AHeap} {i ty : Nat} {cells : List Value} (h : Ob H i ty cells) (t k : Nat) : aload TT H t (.pointer (some ⟨i, k, none⟩)) = apart TT t cells k := by
  have h' : H[i]? = some (some ⟨ty, cells, true⟩) := h
  simp only [aload, h']

/-- One cell's values. -/
structure One (v : Value) : Prop where
  known : known v = true
  cells : v.cells = #[v]
  flat : flat v = true
theorem One.int (k : IntKind) (n : Int) : One (.int k n) := ⟨rfl, rfl, rfl⟩
theorem One.bool (b : Bool) : One (.bool b) := ⟨rfl, rfl, rfl⟩
theorem One.str (s : List UInt8) : One (S s) := ⟨rfl, rfl, rfl⟩
theorem One.byte (b : UInt8) : One (U b) := ⟨rfl, rfl, rfl⟩
theorem One.slice (a : Option Addr) (n c : Nat) : One (.slice a n c) := ⟨rfl, rfl, rfl⟩
theorem One.ptr (a : Option Addr) : One (.pointer a) := ⟨rfl, rfl, rfl⟩
theorem Sl.one {H : AHeap} {v : Value} {ty n : Nat} {cs : List Value} (h : Sl H v ty n cs) : One v := by
  rcases h with ⟨rfl, _⟩ | ⟨i, off, o, h⟩
  · exact .slice _ _ _
  · rw [h.val]; exact .slice _ _ _

/-- What can be laid into cells. -/
structure Lay (v : Value) (xs : List Value) : Prop where
  known : known v = true
  cells : v.cells.toList = xs
  flat : xs.all flat = true
theorem One.lay {v : Value} (h : One v) : Lay v [v] := ⟨h.known, by rw [h.cells], by simp [h.flat]⟩
theorem Lay.nd (n : Nd) : Lay n.val n.cells := ⟨rfl, rfl, by
  simp only [Nd.cells, List.all_cons, List.all_map]
  simp [Ab.flat, S]⟩
theorem Lay.pr (n : Pr) : Lay n.val n.cells := ⟨rfl, rfl, rfl⟩
theorem Lay.agg {l : List Value} (h : ∀ v ∈ l, One v) : Lay (.agg l.toArray) l := ⟨rfl, rfl, by
  rw [List.all_eq_true]; exact fun v hv => (h v hv).flat⟩

/-- A slice that lies at the beginning of an object of one's own. -/
def Own (H : AHeap) (v : Value) (ty n : Nat) (cs : List Value) (i : Nat) : Prop := v = .slice (some ⟨i, 0, none⟩) n n ∧ ∃ cells, Ob H i ty cells ∧ cs.length ≤ cells.length ∧ cells.take cs.length = cs
def Buf (H : AHeap) (v : Value) (ty n : Nat) (cs : List Value) : Prop := (v = .slice none 0 0 ∧ n = 0 ∧ cs = []) ∨ ∃ i, Own H v ty n cs i

theorem Own.sl {H : AHeap} {v : Value} {ty n i : Nat} {cs : List Value} (h : Own H v ty n cs i) : Sl H v ty n cs := by
  obtain ⟨h1, cells, h2, h3, h4⟩ := h
  exact .inr ⟨i, 0, _, h1, h2, rfl, by simpa using h3, by simpa using h4⟩
theorem Buf.sl {H : AHeap} {v : Value} {ty n : Nat} {cs : List Value} (h : Buf H v ty n cs) : Sl H v ty n cs := by
  rcases h with h | ⟨i, h⟩
  · exact .inl h
  · exact h.sl
theorem Own.ext {H H' : AHeap} {v : Value} {ty n i : Nat} {cs : List Value} {M : Nat → Prop} (h : Own H v ty n cs i) (hX : AExt M H H') (hM : ¬ M i) : Own H' v ty n cs i := by
  obtain ⟨h1, cells, h2, h3, h4⟩ := h
  exact ⟨h1, cells, h2.ext hX hM, h3, h4⟩
theorem Buf.ext {H H' : AHeap} {v : Value} {ty n : Nat} {cs : List Value} {M : Nat → Prop} (h : Buf H v ty n cs) (hX : AExt M H H') (hM : ∀ i, vid v = some i → ¬ M i) : Buf H' v ty n cs := by
  rcases h with h | ⟨i, h⟩
  · exact .inl h
  · exact .inr ⟨i, h.ext hX (hM i (by rw [h.1]; rfl))⟩
theorem Sl.keep {H H' : AHeap} {v : Value} {ty n : Nat} {cs : List Value} (h : Sl H v ty n cs) (hX : AExt (fun _ => False) H H') : Sl H' v ty n cs := h.ext hX (fun _ _ => id)
theorem Buf.keep {H H' : AHeap} {v : Value} {ty n : Nat} {cs : List Value} (h : Buf H v ty n cs) (hX : AExt (fun _ => False) H H') : Buf H' v ty n cs := h.ext hX (fun _ _ => id)
theorem Own.vid {H : AHeap} {v : Value} {ty n i : Nat} {cs : List Value} (h : Own H v ty n cs i) : Ab.vid v = some i := by rw [h.1]; rfl
theorem Own.lt {H : AHeap} {v : Value} {ty n i : Nat} {cs : List Value} (h : Own H v ty n cs i) : i < H.length := by
  obtain ⟨_, cells, h2, _⟩ := h
  exact h2.lt
theorem Sl.vid_lt {H : AHeap} {v : Value} {ty n : Nat} {cs : List Value} (h : Sl H v ty n cs) {i : Nat} (hi : Ab.vid v = some i) : i < H.length := by
  rcases h with ⟨rfl, _⟩ | ⟨j, off, o, h⟩
  · cases hi
  · rw [h.val] at hi
    obtain rfl := Option.some.inj hi
    exact (List.getElem?_eq_some_iff.1 h.obj).1
theorem Buf.nil (H : AHeap) (ty : Nat) : Buf H (.slice none 0 0) ty 0 [] := .inl ⟨rfl, rfl, rfl⟩

theorem AExt.any {M : Nat → Prop} {H H' : AHeap} (h : AExt (fun _ => False) H H') : AExt M H H' := h.mono (fun _ _ => False.elim)

/-- The same, the objects from one number on left out. -/
theorem AExt.weak {M : Nat → Prop} {H0 H H' : AHeap} (h0 : AExt M H0 H) (h : AExt (fun i => H0.length ≤ i ∨ M i) H H') : AExt M H0 H' :=
  ⟨Nat.le_trans h0.size h.size, fun i hi hn => (h.obj i (Nat.lt_of_lt_of_le hi h0.size) (by rintro (h | h); omega; exact hn h)).trans (h0.obj i hi hn)⟩
theorem AExt.weakF {M : Nat → Prop} {H0 H H' : AHeap} (h0 : AExt (fun _ => False) H0 H) (h : AExt M H H') (hM : ∀ i, i < H.length → M i → H0.length ≤ i) : AExt (fun _ => False) H0 H' :=
  ⟨Nat.le_trans h0.size h.size, fun i hi hn => (h.obj i (Nat.lt_of_lt_of_le hi h0.size) (fun hm => by have := hM i (Nat.lt_of_lt_of_le hi h0.size) hm; omega)).trans (h0.obj i hi hn)⟩

theorem AExt.push (M : Nat → Prop) (H : AHeap) (o : Option AObj) : AExt M H (H ++ [o]) := ⟨by simp, fun i hi _ => by rw [List.getElem?_append_left hi]⟩
theorem AExt.set1 (H : AHeap) (i : Nat) (o : Option AObj) : AExt (fun j => j = i) H (H.set i o) := ⟨by simp, fun j hj hn => by rw [List.getElem?_set_ne (Ne.symm hn)]⟩

theorem numbered_aux : True := trivial
/-- Parts, numbered. -/
def numbered : Nat → List Value → List (Nat × Value)
  | _, [] => []
  | k, v :: l => (k, v) :: numbered (k + 1) l

theorem afill_numbered {s : Nat} : ∀ (vs : List Value) (k : Nat) (cells : List Value), (∀ v ∈ vs, Ab.known v = true ∧ v.cells.toList.length = s) → cells.length = (k + vs.length) * s →
    afill (fun i => some (i * s, s)) cells (numbered k vs) = some (cells.take (k * s) ++ vs.flatMap fun v => v.cells.toList)
  | [], k, cells, _, hc => by
    simp only [numbered, afill, List.flatMap_nil, List.append_nil]
    rw [List.take_of_length_le (by rw [hc]; simp)]
  | v :: vs, k, cells, hv, hc => by
    obtain ⟨h1, h2⟩ := hv v (by simp)
    have hb : k * s + s ≤ cells.length := by
      rw [hc, List.length_cons]
      have : k * s + s = (k + 1) * s := by rw [Nat.add_mul]; omega
      rw [this]; exact Nat.mul_le_mul_right _ (by omega)
    simp only [numbered, afill]
    rw [if_pos ⟨h1, by simpa using h2, hb⟩]
    rw [afill_numbered vs (k + 1) _ (fun u hu => hv u (by simp [hu])) (by rw [over_length, hc, List.length_cons]; congr 1; omega)]
    rw [over_eq _ _ _ (by rw [h2]; exact hb), h2, List.flatMap_cons]
    congr 1
    have e : (k + 1) * s = (cells.take (k * s) ++ v.cells.toList).length := by simp at h2; simp [h2, Nat.add_mul]; omega
    rw [e, List.append_assoc, ← List.append_assoc (cells.take (k * s)), List.take_left]
    simp

/-! ### Rules -/
section
variable {N : Nat} {ok : Nat → Prop} {d : Bool} {late : List Nat} {ops : List Oper} {k : Nat} {l : List Oper} {K : Env → AHeap → Prop} {e e' : Env} {H : AHeap} {Q : Exit → Env → AHeap → Prop}
  {dst : Option Nat} {ty : TypeId} {pos : String} {af : Array Edge} {gd : Option (Nat × Bool)}

theorem AQ_new {P : Program} (hT : TOK P TT) {op : Op} (hq : isq op = false) (hw : awant ops e ⟨dst, op, ty, pos, af, gd⟩ = some true) {v : Value} {t : Nat} {cells : List Value} (h : eop TT H (aev e) op = some (v, H ++ [some ⟨t, cells, true⟩], none))
    (hk : ∀ H', AExt (fun _ => False) H H' → Ob H' H.length t cells → H'.length = H.length + 1 → AQ P N ok d late ops (k + 1) l K (eput N e dst v) H') : AQ P N ok d late ops k (⟨dst, op, ty, pos, af, gd⟩ :: l) K e H :=
  AQ_e hT hq hw h (fun i hi => by cases hi) (.inr (.inr rfl)) (hk _ (AExt.push _ _ _) (by simp [Ob]) (by simp))

theorem AQ_alloc {P : Program} (hT : TOK P TT) {t : Nat} {ti : TI} (ht : TT t = some ti) (hw : awant ops e ⟨dst, .alloc t, ty, pos, af, gd⟩ = some true)
    (hk : ∀ H', AExt (fun _ => False) H H' → Ob H' H.length t ti.zero → H'.length = H.length + 1 → AQ P N ok d late ops (k + 1) l K (eput N e dst (.pointer (some ⟨H.length, 0, none⟩))) H') : AQ P N ok d late ops k (⟨dst, .alloc t, ty, pos, af, gd⟩ :: l) K e H :=
  AQ_new hT rfl hw (by simp only [eop, ealloc, ht]) hk

theorem AQ_box {P : Program} (hT : TOK P TT) {t : Nat} {ti : TI} {x : Operand} {v : Value} {xs : List Value} (ht : TT t = some ti) (hw : awant ops e ⟨dst, .box t x, ty, pos, af, gd⟩ = some true) (hx : aev e x = v) (hv : Lay v xs) (hs : xs.length = ti.size)
    (hk : ∀ H', AExt (fun _ => False) H H' → Ob H' H.length t xs → H'.length = H.length + 1 → AQ P N ok d late ops (k + 1) l K (eput N e dst (.pointer (some ⟨H.length, 0, none⟩))) H') : AQ P N ok d late ops k (⟨dst, .box t x, ty, pos, af, gd⟩ :: l) K e H :=
  AQ_new hT rfl hw (by
    simp only [eop, ebox, ht, hx]
    rw [if_pos ⟨hv.known, by rw [← hs, ← hv.cells]; simp, by rw [hv.cells]; exact hv.flat⟩, hv.cells]) hk

/-- A store into an object of one's own. -/
theorem AQ_store {P : Program} (hT : TOK P TT) {t : Nat} {ti : TI} {p x : Operand} {i off : Nat} {v : Value} {xs cells : List Value} {oty : Nat} (ht : TT t = some ti) (hw : awant ops e ⟨dst, .store t p x, ty, pos, af, gd⟩ = some true)
    (hp : aev e p = .pointer (some ⟨i, off, none⟩)) (hx : aev e x = v) (hv : Lay v xs) (hs : xs.length = ti.size) (hob : Ob H i oty cells) (hfit : off + xs.length ≤ cells.length) (hok : ok i) (hear : d = false ∨ late.contains k = true)
    (hk : ∀ H', AExt (fun j => j = i) H H' → Ob H' i oty (over cells off xs) → H'.length = H.length → AQ P N ok d late ops (k + 1) l K (eput N e dst undef) H') : AQ P N ok d late ops k (⟨dst, .store t p x, ty, pos, af, gd⟩ :: l) K e H :=
  AQ_e hT (r := (undef, H.set i (some ⟨oty, over cells off xs, true⟩), some i)) rfl hw (by
    simp only [eop, estore, hp, hx, ht, show H[i]? = some (some ⟨oty, cells, true⟩) from hob]
    rw [if_pos ⟨trivial, hv.known, by rw [← hs, ← hv.cells]; simp, by rw [← hs]; exact hfit, by rw [hv.cells]; exact hv.flat⟩, hv.cells]) (fun j hj => by obtain rfl := Option.some.inj hj; exact hok)
    (by rcases hear with h | h; exact .inl h; exact .inr (.inl h)) (hk _ (AExt.set1 _ _ _) (by simp [Ob, List.getElem?_set_self hob.lt]) (by simp))

theorem over_full {l cells : List Value} (h : l.length = cells.length) : over cells 0 l = l := by
  rw [over_eq _ _ _ (by omega)]
  simp [h]

/-- A variable: its object, and what is laid into it at once. -/
theorem AQ_var {P : Program} (hT : TOK P TT) {t dv : Nat} {ti : TI} {x : Operand} {v : Value} {xs : List Value} {ty1 ty2 : TypeId} {pos1 pos2 : String} {af1 af2 : Array Edge}
    (ht : TT t = some ti) (hz : ti.zero.length = ti.size) (hd : dv < N) (hx : aev (eput N e (some dv) (.pointer (some ⟨H.length, 0, none⟩))) x = v) (hv : Lay v xs) (hs : xs.length = ti.size) (hok : ok H.length) (hear : d = false ∨ late.contains (k + 1) = true)
    (hk : ∀ H', AExt (fun _ => False) H H' → Ob H' H.length t xs → H'.length = H.length + 1 → AQ P N ok d late ops (k + 1 + 1) l K (eput N e (some dv) (.pointer (some ⟨H.length, 0, none⟩))) H') :
    AQ P N ok d late ops k (⟨some dv, .alloc t, ty1, pos1, af1, none⟩ :: ⟨none, .store t (.tmp dv) x, ty2, pos2, af2, none⟩ :: l) K e H :=
  AQ_alloc hT ht rfl fun H1 hX1 hO1 hL1 =>
    AQ_store hT (off := 0) (i := H.length) ht rfl (by simp only [aev, eput, if_pos hd, get, if_true]) hx hv hs hO1 (by omega) hok hear fun H2 hX2 hO2 hL2 =>
      hk H2 ⟨by omega, fun i hi _ => (hX2.obj i (by omega) (by omega)).trans (hX1.obj i hi id)⟩ (by rwa [over_full (by omega)] at hO2) (by omega)

/-- A store into an element of a slice of one's own. -/
theorem AQ_storeE {P : Program} (hT : TOK P TT) {t : Nat} {ti : TI} {p x : Operand} {i off : Nat} {v u : Value} {xs cs : List Value} {ety n : Nat} (ht : TT t = some ti) (hw : awant ops e ⟨dst, .store t p x, ty, pos, af, gd⟩ = some true)
    (hp : aev e p = ep u off) (hx : aev e x = v) (hv : Lay v xs) (hs : xs.length = ti.size) (hob : Own H u ety n cs i) (hfit : off + xs.length ≤ cs.length) (hok : ok i) (hear : d = false ∨ late.contains k = true)
    (hk : ∀ H', AExt (fun j => j = i) H H' → Own H' u ety n (over cs off xs) i → H'.length = H.length → AQ P N ok d late ops (k + 1) l K (eput N e dst undef) H') : AQ P N ok d late ops k (⟨dst, .store t p x, ty, pos, af, gd⟩ :: l) K e H := by
  obtain ⟨h1, cells, h2, h3, h4⟩ := hob
  subst h1
  refine AQ_store hT ht hw (i := i) (off := off) (by rw [hp]; simp [ep]) hx hv hs h2 (by omega) hok hear fun H' g1 g2 g3 => hk H' g1 ⟨rfl, _, g2, by simp [over_length, h3], ?_⟩ g3
  rw [over_length, over_eq _ _ _ (by omega), over_eq _ _ _ (by omega)]
  have e1 : cs.take off = cells.take off := by rw [← h4, List.take_take]; congr 1; omega
  have e2 : cs.drop (off + xs.length) = (cells.drop (off + xs.length)).take (cs.length - (off + xs.length)) := by
    conv => lhs; rw [← h4]
    rw [List.drop_take]
  rw [e1, e2, List.append_assoc, List.append_assoc, List.take_append, List.take_append]
  rw [List.take_of_length_le (i := cs.length) (by simp; omega)]
  congr 1
  rw [List.take_of_length_le (by simp; omega)]
  congr 2
  simp
  omega

/-- A literal of a slice. -/
theorem AQ_lit {P : Program} (hT : TOK P TT) {t ety : Nat} {ti ei : TI} {n : Nat} {parts : List (Nat × Operand)} (vs : List Value) (ht : TT t = some ti) (hd : ti.d = .slice ety) (hei : TT ety = some ei) (hz : ei.zero.length = ei.size) (h0 : ei.size ≠ 0) (hn : vs.length = n) (hmax : n * ei.size ≤ 16777216)
    (hw : awant ops e ⟨dst, .buildSlice t n parts.toArray, ty, pos, af, gd⟩ = some true) (hp : (parts.map fun p => (p.1, aev e p.2)) = numbered 0 vs) (hv : ∀ v ∈ vs, ∃ xs, Lay v xs ∧ xs.length = ei.size)
    (hk : ∀ H', AExt (fun _ => False) H H' → Own H' (.slice (some ⟨H.length, 0, none⟩) n n) ety n (vs.flatMap fun v => v.cells.toList) H.length → H'.length = H.length + 1 → AQ P N ok d late ops (k + 1) l K (eput N e dst (.slice (some ⟨H.length, 0, none⟩) n n)) H') : AQ P N ok d late ops k (⟨dst, .buildSlice t n parts.toArray, ty, pos, af, gd⟩ :: l) K e H := by
  have hf := afill_numbered (s := ei.size) vs 0 (zeros n ei.zero) (fun v hv' => by
    obtain ⟨xs, h1, h2⟩ := hv v hv'
    exact ⟨h1.known, by rw [h1.cells]; exact h2⟩) (by rw [zeros_length, hz, ← hn]; simp)
  have hfl : (vs.flatMap fun v => v.cells.toList).all flat = true := by
    rw [List.all_eq_true]
    intro c hc
    obtain ⟨v, hv', hc'⟩ := List.mem_flatMap.1 hc
    obtain ⟨xs, h1, _⟩ := hv v hv'
    rw [h1.cells] at hc'
    exact List.all_eq_true.1 h1.flat c hc'
  refine AQ_new hT rfl hw (v := .slice (some ⟨H.length, 0, none⟩) n n) (t := ety) (cells := vs.flatMap fun v => v.cells.toList) ?_ fun H' g1 g2 g3 => hk H' g1 ⟨rfl, _, g2, Nat.le_refl _, List.take_of_length_le (Nat.le_refl _)⟩ g3
  simp only [eop, elit, ht, hd, hei, hp]
  rw [if_neg (by omega), hf]
  simp only [Nat.zero_mul, List.take_zero, List.nil_append, hfl, if_true]

theorem AQ_make {P : Program} (hT : TOK P TT) {t ety : Nat} {ti ei : TI} {a b : Operand} {m c : Int} (ht : TT t = some ti) (hd : ti.d = .slice ety) (hei : TT ety = some ei) (hz : ei.zero.length = ei.size) (h0 : ei.size ≠ 0) (hb0 : ei.bytes ≠ 0)
    (hw : awant ops e ⟨dst, .makeSlice t a b, ty, pos, af, gd⟩ = some true) (ha : aev e a = .int .i64 m) (hb : aev e b = .int .i64 c) (h1 : 0 ≤ m) (h2 : m ≤ c) (h3 : c.toNat * ei.bytes ≤ 140737488355328)
    (hk : ∀ H', AExt (fun _ => False) H H' → Own H' (.slice (some ⟨H.length, 0, none⟩) m.toNat m.toNat) ety m.toNat (zeros m.toNat ei.zero) H.length → H'.length = H.length + 1 → AQ P N ok d late ops (k + 1) l K (eput N e dst (.slice (some ⟨H.length, 0, none⟩) m.toNat m.toNat)) H') : AQ P N ok d late ops k (⟨dst, .makeSlice t a b, ty, pos, af, gd⟩ :: l) K e H := by
  have hle : m.toNat ≤ c.toNat := by omega
  refine AQ_new hT rfl hw (v := .slice (some ⟨H.length, 0, none⟩) m.toNat m.toNat) (t := ety) (cells := zeros c.toNat ei.zero) ?_ fun H' g1 g2 g3 => hk H' g1 ⟨rfl, _, g2, ?_, ?_⟩ g3
  · simp only [eop, emake, ht, ha, hb, hd, hei]
    rw [if_pos ⟨h0, hb0, h1, h2, h3⟩]
  · rw [zeros_length, zeros_length]; exact Nat.mul_le_mul_right _ hle
  · rw [zeros_length]
    have hm : m.toNat * ei.zero.length ≤ c.toNat * ei.zero.length := Nat.mul_le_mul_right _ hle
    simp only [zeros, ← List.map_take, List.take_range]
    congr 2
    omega

def eapp2 (T : Tab) (H : AHeap) (ety : Nat) (ei : TI) (v : Value) (m : Nat) (news : List Value) : Option Eff :=
  match v with
  | .slice none 0 0 =>
    if m = 0 then some (.slice none 0 0, H, none)
    else if m * ei.bytes ≤ 140737488355328 then some (.slice (some ⟨H.length, 0, none⟩) m m, H ++ [some ⟨ety, news, true⟩], none) else none
  | .slice (some ⟨i, 0, none⟩) n _ =>
    if m = 0 then some (.slice (some ⟨i, 0, none⟩) n n, H, none) else
    match H[i]? with
    | some (some o) =>
      if o.rw = true ∧ o.ty = ety ∧ n * ei.size ≤ o.cells.length ∧ (n + m) * ei.bytes ≤ 140737488355328 then
        some (.slice (some ⟨H.length, 0, none⟩) (n + m) (n + m), H.set i none ++ [some ⟨ety, o.cells.take (n * ei.size) ++ news, true⟩], some i)
      else none
    | _ => none
  | _ => none

theorem eappend_eq {H : AHeap} {ety m : Nat} {ei : TI} {s u : Value} {cx : List Value} (hei : TT ety = some ei) (h0 : ei.size ≠ 0) (hb0 : ei.bytes ≠ 0) (hu : Sl H u ety m cx) (hm : cx.length = m * ei.size) :
    eappend TT H ety s u = eapp2 TT H ety ei s m cx := by
  have hnot : ¬ (ei.size = 0 ∨ ei.bytes = 0) := by omega
  rcases hu with ⟨rfl, rfl, rfl⟩ | ⟨j, off, o, h⟩
  · simp only [eappend, hei, if_neg hnot, if_true]
    rfl
  · rw [h.val]
    simp only [eappend, hei, if_neg hnot]
    by_cases h0 : m = 0
    · subst h0
      have : cx = [] := List.eq_nil_of_length_eq_zero (by simpa using hm)
      subst this
      simp only [if_true]
      rfl
    · have hl := h.len
      simp only [if_neg h0, h.obj]
      rw [if_pos (by rw [← hm]; exact hl)]
      have e1 : (o.cells.drop off).take (m * ei.size) = cx := by rw [← hm, h.cells]
      simp only [e1, eapp2, if_neg h0]
      split <;> first | rfl | (repeat' split) <;> first | rfl | (simp_all; done)

/-- An append. -/
theorem AQ_append {P : Program} (hT : TOK P TT) {t ety : Nat} {ti ei : TI} {s x : Operand} {v u : Value} {n m : Nat} {cs cx : List Value} (ht : TT t = some ti) (hd : ti.d = .slice ety) (hei : TT ety = some ei) (h0 : ei.size ≠ 0) (hb0 : ei.bytes ≠ 0)
    (hw : awant ops e ⟨dst, .call { callee := .builtin .append, args := #[s, x], argTypes := #[t, t] }, ty, pos, af, gd⟩ = some true) (hs : aev e s = v) (hx : aev e x = u) (hv : Buf H v ety n cs) (hu : Sl H u ety m cx) (hn : cs.length = n * ei.size) (hm : cx.length = m * ei.size)
    (hsz : (n + m) * ei.bytes ≤ 140737488355328) (hok : ∀ i, vid v = some i → ok i) (hear : d = false ∨ late.contains k = true ∨ vid v = none)
    (hk : ∀ v' H', AExt (fun i => vid v = some i) H H' → Buf H' v' ety (n + m) (cs ++ cx) → (∀ i, vid v' = some i → H.length ≤ i ∨ (cx = [] ∧ v' = v)) → AQ P N ok d late ops (k + 1) l K (eput N e dst v') H') : AQ P N ok d late ops k (⟨dst, .call { callee := .builtin .append, args := #[s, x], argTypes := #[t, t] }, ty, pos, af, gd⟩ :: l) K e H := by
  have hsize : 0 < ei.size := by omega
  have hen := eappend_eq (s := v) hei h0 hb0 hu hm
  have hcx0 : m = 0 → cx = [] := fun h => List.eq_nil_of_length_eq_zero (by simp [hm, h])
  have hop : ∀ r, eapp2 TT H ety ei v m cx = some r → eop TT H (aev e) (.call { callee := .builtin .append, args := #[s, x], argTypes := #[t, t] }) = some r := fun r hr => by
    simp only [eop, ht, hd, if_true, hs, hx, hen, hr]
  have hmb : m * ei.bytes ≤ 140737488355328 := Nat.le_trans (Nat.mul_le_mul_right _ (by omega)) hsz
  rcases hv with ⟨rfl, rfl, rfl⟩ | ⟨i, rfl, cells, h2, h3, h4⟩
  · by_cases hm0 : m = 0
    · refine AQ_e hT (r := (.slice none 0 0, H, none)) rfl hw (hop _ ?_) (fun i hi => by cases hi) (.inr (.inr rfl)) (hk _ _ (AExt.refl _ _) (.inl ⟨rfl, by omega, by simp [hcx0 hm0]⟩) (fun i hi => by cases hi))
      simp only [eapp2]
      rw [if_pos hm0]
    · refine AQ_e hT (r := (.slice (some ⟨H.length, 0, none⟩) m m, H ++ [some ⟨ety, cx, true⟩], none)) rfl hw (hop _ ?_) (fun i hi => by cases hi) (.inr (.inr rfl)) (hk _ _ (AExt.push _ _ _) (.inr ⟨H.length, by simp, cx, by simp [Ob], by simp, by simp⟩) (fun i hi => by obtain rfl := Option.some.inj hi; exact .inl (Nat.le_refl _)))
      simp only [eapp2]
      rw [if_neg hm0, if_pos hmb]
  · by_cases hm0 : m = 0
    · refine AQ_e hT (r := (.slice (some ⟨i, 0, none⟩) n n, H, none)) rfl hw (hop _ ?_) (fun i hi => by cases hi) (.inr (.inr rfl)) (hk _ _ (AExt.refl _ _) (.inr ⟨i, by simp [hm0], cells, h2, by simp [hcx0 hm0, h3], by simp [hcx0 hm0, h4]⟩) (fun j hj => .inr ⟨hcx0 hm0, rfl⟩))
      simp only [eapp2]
      rw [if_pos hm0]
    · refine AQ_e hT (r := (.slice (some ⟨H.length, 0, none⟩) (n + m) (n + m), H.set i none ++ [some ⟨ety, cs ++ cx, true⟩], some i)) rfl hw (hop _ ?_) (fun j hj => by obtain rfl := Option.some.inj hj; exact hok _ rfl) (by
          rcases hear with h | h | h
          · exact .inl h
          · exact .inr (.inl h)
          · cases h) (hk _ _ ⟨by simp, fun j hj hn => ?_⟩ (.inr ⟨H.length, rfl, cs ++ cx, by simp [Ob], by simp, List.take_of_length_le (Nat.le_refl _)⟩) (fun j hj => by obtain rfl := Option.some.inj hj; exact .inl (Nat.le_refl _)))
      · simp only [eapp2]
        rw [if_neg hm0]
        simp only [show H[i]? = some (some ⟨ety, cells, true⟩) from h2]
        rw [if_pos ⟨trivial, trivial, by omega, hsz⟩, ← hn, h4]
      · have : j ≠ i := fun h => hn (by rw [h]; rfl)
        rw [List.getElem?_append_left (by simpa using hj), List.getElem?_set_ne (Ne.symm this)]
end
end Go.Proofs.Ythalogdopkoidaa.Ab
