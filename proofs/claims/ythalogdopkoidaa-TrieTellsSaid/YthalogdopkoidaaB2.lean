/- Nodes, pairs, texts as cells; slices of them. No statement of the seat's in it. -/
import Derived.Test.YthalogdopkoidaaB1
import Derived.Test.YthalogdopkoidaaA12
set_option linter.unusedVariables false
namespace Go.Proofs.Ythalogdopkoidaa.Ab
open Go Go.RowKit

/-! ### Rows of equal length -/
section
variable {α : Type} {f : α → List Value} {s : Nat}

theorem rows_length (hs : ∀ x, (f x).length = s) : ∀ xs : List α, (xs.flatMap f).length = xs.length * s
  | [] => by simp
  | x :: xs => by simp [List.flatMap_cons, rows_length hs xs, hs, Nat.add_mul]; omega

theorem rows_drop (hs : ∀ x, (f x).length = s) : ∀ (xs : List α) (i : Nat), (xs.flatMap f).drop (i * s) = (xs.drop i).flatMap f
  | xs, 0 => by simp
  | [], i + 1 => by simp
  | x :: xs, i + 1 => by
    rw [List.flatMap_cons, List.drop_succ_cons, ← rows_drop hs xs i]
    rw [show (i + 1) * s = (f x).length + i * s by rw [hs, Nat.add_mul]; omega]
    rw [← List.drop_drop, List.drop_left]

theorem rows_take (hs : ∀ x, (f x).length = s) : ∀ (xs : List α) (i : Nat), (xs.flatMap f).take (i * s) = (xs.take i).flatMap f
  | xs, 0 => by simp
  | [], i + 1 => by simp
  | x :: xs, i + 1 => by
    rw [List.flatMap_cons, List.take_succ_cons, List.flatMap_cons, ← rows_take hs xs i]
    rw [show (i + 1) * s = (f x).length + i * s by rw [hs, Nat.add_mul]; omega]
    rw [List.take_append, List.take_of_length_le (by omega)]
    simp

theorem rows_at (hs : ∀ x, (f x).length = s) (xs : List α) (i : Nat) (hi : i < xs.length) : ((xs.flatMap f).drop (i * s)).take s = f xs[i] := by
  rw [rows_drop hs, List.drop_eq_getElem_cons hi, List.flatMap_cons]
  rw [← hs xs[i], List.take_left]

theorem rows_get (hs : ∀ x, (f x).length = s) (xs : List α) (i j : Nat) (hi : i < xs.length) (hj : j < s) : (xs.flatMap f)[i * s + j]? = (f xs[i])[j]? := by
  rw [← rows_at hs xs i hi, List.getElem?_take, if_pos hj, List.getElem?_drop]

theorem rows_set (hs : ∀ x, (f x).length = s) : ∀ (xs : List α) (i j : Nat) (v : Value) (y : α) (hi : i < xs.length), j < s → f y = (f xs[i]).set j v → (xs.flatMap f).set (i * s + j) v = (xs.set i y).flatMap f
  | x :: xs, 0, j, v, y, _, hj, hy => by
    simp at hy
    rw [Nat.zero_mul, Nat.zero_add, List.flatMap_cons, List.set_append_left _ _ (by rw [hs]; exact hj)]
    simp [hy]
  | x :: xs, i + 1, j, v, y, hi, hj, hy => by
    simp at hy hi
    rw [List.flatMap_cons, List.set_append_right _ _ (by rw [hs, Nat.add_mul]; omega), hs]
    rw [show (i + 1) * s + j - s = i * s + j by rw [Nat.add_mul]; omega, rows_set hs xs i j v y (by omega) hj hy]
    simp

theorem rows_over (hs : ∀ x, (f x).length = s) (xs : List α) (i : Nat) (y : α) (hi : i < xs.length) : over (xs.flatMap f) (i * s) (f y) = (xs.set i y).flatMap f := by
  have hl := rows_length hs xs
  have hb : i * s + s ≤ xs.length * s := by
    have := Nat.mul_le_mul_right s (Nat.succ_le_of_lt hi)
    rw [Nat.succ_mul] at this; exact this
  rw [over_eq _ _ _ (by rw [hs, hl]; exact hb), hs, rows_take hs]
  rw [show i * s + s = (i + 1) * s by rw [Nat.add_mul]; omega, rows_drop hs]
  rw [List.set_eq_take_append_cons_drop, if_pos hi]
  simp
end

/-! ### The data -/
/-- A text, a byte. -/
def S (l : List UInt8) : Value := .string ⟨l.toArray⟩
def U (b : UInt8) : Value := .int .u8 b.toNat

structure Nd where
  kind : Int
  path : List UInt8
  has : Bool
  value : List UInt8
  kids : Vector Int 16
  deriving DecidableEq

def Nd.cells (n : Nd) : List Value := .int .i64 n.kind :: S n.path :: .bool n.has :: S n.value :: n.kids.toList.map (Value.int .i64)
def Nd.val (n : Nd) : Value := .agg n.cells.toArray
theorem Nd.len (n : Nd) : n.cells.length = 20 := by simp [Nd.cells]

structure Pr where
  key : List UInt8
  value : List UInt8
  deriving DecidableEq
def Pr.cells (p : Pr) : List Value := [S p.key, S p.value]
def Pr.val (p : Pr) : Value := .agg p.cells.toArray
theorem Pr.len (p : Pr) : p.cells.length = 2 := rfl

def sCell (s : List UInt8) : List Value := [S s]
theorem sCell_len (s : List UInt8) : (sCell s).length = 1 := rfl
def iCell (n : Int) : List Value := [.int .i64 n]
theorem iCell_len (n : Int) : (iCell n).length = 1 := rfl
def bCell (n : UInt8) : List Value := [U n]
theorem bCell_len (n : UInt8) : (bCell n).length = 1 := rfl
def oCell (b : Bool) : List Value := [.bool b]
theorem oCell_len (b : Bool) : (oCell b).length = 1 := rfl

/-! ### Slices -/
/-- A slice's element's address. -/
def ep (v : Value) (k : Nat) : Value :=
  match v with
  | .slice (some ⟨i, o, none⟩) _ _ => .pointer (some ⟨i, o + k, none⟩)
  | _ => undef

/-- Which object a slice lies in. -/
def vid : Value → Option Nat
  | .slice (some a) _ _ => some a.block
  | .pointer (some a) => some a.block
  | _ => none

structure Lies (H : AHeap) (v : Value) (ty n : Nat) (cs : List Value) (i off : Nat) (o : AObj) : Prop where
  val : v = .slice (some ⟨i, off, none⟩) n n
  obj : H[i]? = some (some o)
  ty : o.ty = ty
  len : off + cs.length ≤ o.cells.length
  cells : (o.cells.drop off).take cs.length = cs

/-- The slice v has n elements, their cells are cs. -/
def Sl (H : AHeap) (v : Value) (ty n : Nat) (cs : List Value) : Prop := (v = .slice none 0 0 ∧ n = 0 ∧ cs = []) ∨ ∃ i off o, Lies H v ty n cs i off o

theorem Sl.ext {H H' : AHeap} {v : Value} {ty n : Nat} {cs : List Value} {M : Nat → Prop} (h : Sl H v ty n cs) (hX : AExt M H H') (hM : ∀ i, vid v = some i → ¬ M i) : Sl H' v ty n cs := by
  rcases h with h | ⟨i, off, o, h⟩
  · exact .inl h
  · refine .inr ⟨i, off, o, h.val, ?_, h.ty, h.len, h.cells⟩
    exact hX.live h.obj (hM i (by rw [h.val]; rfl))

theorem Sl.alen {H : AHeap} {v : Value} {ty n : Nat} {cs : List Value} (h : Sl H v ty n cs) {t : Nat} (ht : (TT t).map (·.d) = some (.slice ty)) : alen TT t v = some (.int .i64 n) := by
  obtain ⟨ti, hti, hd⟩ := Option.map_eq_some_iff.1 ht
  unfold Ab.alen
  rw [hti]
  dsimp only
  rw [hd]
  rcases h with ⟨rfl, rfl, _⟩ | ⟨i, off, o, h⟩
  · rfl
  · rw [h.val]

theorem Sl.index {H : AHeap} {v : Value} {ty n : Nat} {cs : List Value} (h : Sl H v ty n cs) {t : Nat} (ht : (TT t).map (·.d) = some (.slice ty)) {s : Nat} (hs : (TT ty).map (·.size) = some s) {k : IntKind} {j : Int} (h0 : 0 ≤ j) (h1 : j < n) :
    aindex TT t v (.int k j) = some (ep v (j.toNat * s)) := by
  obtain ⟨ti, hti, hd⟩ := Option.map_eq_some_iff.1 ht
  obtain ⟨ei, hei, he⟩ := Option.map_eq_some_iff.1 hs
  unfold aindex
  rw [hti]
  dsimp only
  rw [hd]
  rcases h with ⟨rfl, rfl, _⟩ | ⟨i, off, o, h⟩
  · omega
  · rw [h.val]
    dsimp only
    rw [hei]
    dsimp only
    rw [if_pos ⟨h0, h1⟩, he]
    rfl

/-- A load out of a slice's cells. -/
theorem Sl.load {H : AHeap} {v : Value} {ty n : Nat} {cs : List Value} (h : Sl H v ty n cs) {t : Nat} {ti : TI} (ht : TT t = some ti) (k : Nat) (hk : k + ti.size ≤ cs.length) (h0 : 0 < ti.size) :
    aload TT H t (ep v k) = apart TT t cs k := by
  rcases h with ⟨_, _, rfl⟩ | ⟨i, off, o, h⟩
  · simp at hk; omega
  · rw [h.val]
    simp only [ep, aload, h.obj]
    unfold apart
    rw [ht]
    dsimp only
    have hl := h.len
    have e : (o.cells.drop (off + k)).take ti.size = (cs.drop k).take ti.size := by
      conv => rhs; rw [← h.cells]
      rw [List.drop_take, List.drop_drop, List.take_take]
      congr 1
      omega
    have e2 : o.cells[off + k]? = cs[k]? := by
      have hk' : k < cs.length := by omega
      conv => rhs; rw [← h.cells]
      rw [List.getElem?_take, if_pos hk', List.getElem?_drop]
    have b1 : off + k + ti.size ≤ o.cells.length := by omega
    simp only [hk, b1, if_true, e, e2]

theorem Sl.ptr {H : AHeap} {v : Value} {ty n : Nat} {cs : List Value} (h : Sl H v ty n cs) (hn : cs ≠ []) : ∃ i off, v = .slice (some ⟨i, off, none⟩) n n := by
  rcases h with ⟨_, _, rfl⟩ | ⟨i, off, o, h⟩
  · exact absurd rfl hn
  · exact ⟨i, off, h.val⟩

/-- A field of a slice's element. -/
theorem ep_field {v : Value} (hv : ∃ i off n m, v = .slice (some ⟨i, off, none⟩) n m) {s f off ft : Nat} {fs : List (Nat × Nat)} (hs : (TT s).map (·.d) = some (.struct fs)) (hf : fs[f]? = some (off, ft)) (hft : ∃ fi, TT ft = some fi ∧ fi.size ≠ 0) (k : Nat) :
    afield TT s (ep v k) f = some (ep v (k + off)) := by
  obtain ⟨i, o, n, m, rfl⟩ := hv
  obtain ⟨ti, hti, hd⟩ := Option.map_eq_some_iff.1 hs
  obtain ⟨fi, hfi, hz⟩ := hft
  simp only [ep, afield, hti, hd, hf, hfi, hz, if_false]
  rw [Nat.add_assoc]

/-! Nodes -/
def NdS (H : AHeap) (v : Value) (ns : List Nd) : Prop := Sl H v 49 ns.length (ns.flatMap Nd.cells)
def PrS (H : AHeap) (v : Value) (ps : List Pr) : Prop := Sl H v 52 ps.length (ps.flatMap Pr.cells)
def StS (H : AHeap) (v : Value) (ss : List (List UInt8)) : Prop := Sl H v 9 ss.length (ss.flatMap sCell)
def InS (H : AHeap) (v : Value) (xs : List Int) : Prop := Sl H v 3 xs.length (xs.flatMap iCell)
def ByS (H : AHeap) (v : Value) (xs : List UInt8) : Prop := Sl H v 5 xs.length (xs.flatMap bCell)
def BoS (H : AHeap) (v : Value) (xs : List Bool) : Prop := Sl H v 4 xs.length (xs.flatMap oCell)

section
variable {H : AHeap} {v : Value} {ns : List Nd}
theorem NdS.alen (h : NdS H v ns) : alen TT 24 v = some (.int .i64 ns.length) := Sl.alen h rfl
theorem NdS.index (h : NdS H v ns) {k : IntKind} {j : Int} (h0 : 0 ≤ j) (h1 : j < ns.length) : aindex TT 24 v (.int k j) = some (ep v (j.toNat * 20)) := Sl.index h rfl rfl h0 h1
theorem NdS.ptr (h : NdS H v ns) {i : Nat} (hi : i < ns.length) : ∃ i off n m, v = .slice (some ⟨i, off, none⟩) n m := by
  obtain ⟨i, off, hv⟩ := Sl.ptr h (by
    intro e
    have := rows_length Nd.len ns
    rw [e] at this
    simp at this
    omega)
  exact ⟨i, off, _, _, hv⟩
theorem rowsLen20 (ns : List Nd) {i : Nat} (hi : i < ns.length) : i * 20 + 20 ≤ (ns.flatMap Nd.cells).length := by
  rw [rows_length Nd.len]; omega
theorem NdS.load (h : NdS H v ns) {i : Nat} (hi : i < ns.length) : aload TT H 49 (ep v (i * 20)) = some ns[i].val := by
  have hl := rowsLen20 ns hi
  rw [Sl.load h TT_49 (i * 20) hl (by decide)]
  unfold apart
  rw [TT_49]
  simp only [TD.isAgg, if_true]
  rw [if_pos hl, rows_at Nd.len ns i hi]
  rfl
theorem NdS.cell (h : NdS H v ns) {i j : Nat} (hi : i < ns.length) (hj : j < 20) {t : Nat} {ti : TI} (ht : TT t = some ti) (ha : ti.d.isAgg = false) (h1 : ti.size = 1) : aload TT H t (ep v (i * 20 + j)) = ns[i].cells[j]? := by
  have hl := rowsLen20 ns hi
  rw [Sl.load h ht (i * 20 + j) (by rw [h1]; omega) (by rw [h1]; decide)]
  unfold apart
  rw [ht]
  dsimp only
  rw [ha]
  simp only [Bool.false_eq_true, if_false]
  exact rows_get Nd.len ns i j hi hj
theorem NdS.kind (h : NdS H v ns) {i : Nat} (hi : i < ns.length) : aload TT H 3 (ep v (i * 20 + 0)) = some (.int .i64 ns[i].kind) := h.cell hi (by decide) TT_3 rfl rfl
theorem NdS.path (h : NdS H v ns) {i : Nat} (hi : i < ns.length) : aload TT H 9 (ep v (i * 20 + 1)) = some (S ns[i].path) := h.cell hi (by decide) TT_9 rfl rfl
theorem NdS.has (h : NdS H v ns) {i : Nat} (hi : i < ns.length) : aload TT H 4 (ep v (i * 20 + 2)) = some (.bool ns[i].has) := h.cell hi (by decide) TT_4 rfl rfl
theorem NdS.value (h : NdS H v ns) {i : Nat} (hi : i < ns.length) : aload TT H 9 (ep v (i * 20 + 3)) = some (S ns[i].value) := h.cell hi (by decide) TT_9 rfl rfl
end

theorem kids_get (n : Nd) (c : Nat) (hc : c < 16) : n.cells[4 + c]? = some (.int .i64 n.kids[c]) := by
  have e : 4 + c = c + 1 + 1 + 1 + 1 := by omega
  rw [Nd.cells, e]
  simp [hc]

/-- Equality of nodes. -/
theorem aeq_int (d : Nat) (a b : Int) : aeq TT (d + 1) 3 (.int .i64 a) (.int .i64 b) = some (decide (a = b)) := by
  simp [aeq, TT_3]
theorem S_inj (a b : List UInt8) : (ByteArray.mk a.toArray = ByteArray.mk b.toArray) ↔ a = b := by
  constructor
  · intro h
    have := congrArg (fun x => x.data.toList) h
    simpa using this
  · rintro rfl; rfl
theorem aeq_str (d : Nat) (a b : List UInt8) : aeq TT (d + 1) 9 (S a) (S b) = some (decide (a = b)) := by
  simp [aeq, TT_9, S, -ByteArray.mk.injEq, S_inj]
theorem aeq_bool (d : Nat) (a b : Bool) : aeq TT (d + 1) 4 (.bool a) (.bool b) = some (decide (a = b)) := by
  simp [aeq, TT_4]
  cases a <;> cases b <;> rfl

theorem fold_all {α : Type} (l : List α) (f : α → Option Bool) (g : α → Bool) (h : ∀ x ∈ l, f x = some (g x)) :
    l.foldr (init := some true) (fun x r => match f x, r with | some p, some q => some (p && q) | _, _ => none) = some (l.all g) := by
  induction l with
  | nil => rfl
  | cons x l ih =>
    simp only [List.foldr_cons, ih (fun y hy => h y (by simp [hy])), h x (by simp)]
    simp

theorem aeq_kids (d : Nat) (a b : Vector Int 16) : aeq TT (d + 2) 47 (.agg (a.toList.map (Value.int .i64)).toArray) (.agg (b.toList.map (Value.int .i64)).toArray) = some (decide (a = b)) := by
  have get : ∀ (c : Vector Int 16) (i : Nat), i < 16 → apart TT 3 (c.toList.map (Value.int .i64)) (i * 1) = some (.int .i64 (c.toList.getD i 0)) := fun c i hi => by
    simp [apart, TT_3, TD.isAgg, hi]
  have h1 : aeq TT (d + 2) 47 (.agg (a.toList.map (Value.int .i64)).toArray) (.agg (b.toList.map (Value.int .i64)).toArray) = some ((List.range 16).all fun i => decide (a.toList.getD i 0 = b.toList.getD i 0)) := by
    rw [← fold_all (List.range 16) (fun i => some (decide (a.toList.getD i 0 = b.toList.getD i 0))) _ (fun x _ => rfl)]
    rw [aeq]
    simp only [TT_47, TT_3]
    have ext : ∀ (l : List Nat), (∀ i ∈ l, i < 16) → ∀ (F G : Nat → Option Bool → Option Bool), (∀ i r, i < 16 → F i r = G i r) → l.foldr F (some true) = l.foldr G (some true) := by
      intro l hl F G hFG
      induction l with
      | nil => rfl
      | cons i l ih =>
        rw [List.foldr_cons, List.foldr_cons, ih (fun j hj => hl j (by simp [hj])), hFG i _ (hl i (by simp))]
    refine ext (List.range 16) (fun i hi => by simpa using hi) _ _ fun i r hi' => ?_
    simp only [get a i hi', get b i hi', aeq_int]
    cases r <;> rfl
  rw [h1]
  congr 1
  rw [Bool.eq_iff_iff]
  simp only [List.all_eq_true, List.mem_range, decide_eq_true_eq]
  constructor
  · intro h
    apply Vector.ext
    intro i hi
    have := h i hi
    simpa [hi] using this
  · rintro rfl i _
    rfl

theorem aeq_nd (x y : Nd) : aeq TT 10000 49 x.val y.val = some (decide (x = y)) := by
  have p : ∀ n : Nd, apart TT 3 n.cells 0 = some (.int .i64 n.kind) ∧ apart TT 9 n.cells 1 = some (S n.path) ∧ apart TT 4 n.cells 2 = some (.bool n.has) ∧ apart TT 9 n.cells 3 = some (S n.value) ∧ apart TT 47 n.cells 4 = some (.agg (n.kids.toList.map (Value.int .i64)).toArray) := fun n => by
    refine ⟨rfl, rfl, rfl, rfl, ?_⟩
    have e : (n.kids.toList.map (Value.int .i64)).take 16 = n.kids.toList.map (Value.int .i64) := List.take_of_length_le (by simp)
    simp [apart, TT_47, TD.isAgg, Nd.cells, e]
  obtain ⟨x0, x1, x2, x3, x4⟩ := p x
  obtain ⟨y0, y1, y2, y3, y4⟩ := p y
  show aeq TT (9999 + 1) 49 x.val y.val = _
  rw [aeq]
  simp only [TT_49, Nd.val, List.foldr_cons, List.foldr_nil, x0, x1, x2, x3, x4, y0, y1, y2, y3, y4]
  have e1 := aeq_int 9998 x.kind y.kind
  have e2 := aeq_str 9998 x.path y.path
  have e3 := aeq_bool 9998 x.has y.has
  have e4 := aeq_str 9998 x.value y.value
  have e5 := aeq_kids 9997 x.kids y.kids
  simp only [Nat.reduceAdd] at e1 e2 e3 e4 e5
  simp only [e1, e2, e3, e4, e5]
  obtain ⟨k, pa, h, v, c⟩ := x
  obtain ⟨k', pa', h', v', c'⟩ := y
  simp
end Go.Proofs.Ythalogdopkoidaa.Ab
