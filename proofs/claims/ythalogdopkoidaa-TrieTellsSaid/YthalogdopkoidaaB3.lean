/- How a run of operations is worked out, step by step; rules for regions. No statement of the seat's in it. -/
import Derived.Test.YthalogdopkoidaaB2
import Derived.Sort.Walk0
set_option linter.unusedVariables false
namespace Go.Proofs.Ythalogdopkoidaa.Ab
open Go Go.RowKit Go.Proofs.Ythalogdopkoidaa.Dr

/-! ### Working out -/
theorem nrfl {α : Sort _} {a b : α} (h : a = b) : a = b := h
def qbind (x : Option Value) (f : Value → Option Env) : Option Env := x.bind f
@[congr] theorem qbind_congr {x : Option Value} {y : Unit → Option Value} {f : Value → Option Env} (h : ∀ u : Unit, x = y u) : qbind x f = qbind (y ()) f := by rw [h ()]
theorem qbind_some (v : Value) (f : Value → Option Env) : qbind (some v) f = f v := nrfl rfl
@[congr] theorem qrun_congr {T : Tab} {N : Nat} {ops : List Oper} {H : AHeap} {l : List Oper} {e : Env} {e' : Unit → Env} (h : ∀ u : Unit, e = e' u) : qrun T N ops H l e = qrun T N ops H l (e' ()) := by rw [h ()]
theorem qrun_nil {T : Tab} {N : Nat} {ops : List Oper} {H : AHeap} {e : Env} : qrun T N ops H [] e = some e := nrfl rfl
theorem qrun_cons {T : Tab} {N : Nat} {ops : List Oper} {H : AHeap} {e : Env} {d : Option Nat} {op : Op} {ty : TypeId} {pos : String} {af : Array Edge} {l : List Oper} :
    qrun T N ops H (⟨d, op, ty, pos, af, none⟩ :: l) e = qbind (qop T H (aev e) op) fun v => qrun T N ops H l (eput N e d v) := by
  simp only [qrun, q1, awant]
  cases qop T H (aev e) op <;> rfl

/-- A guard's value, looked up. -/
def qguard (v : Value) (want : Bool) (x y : Option Env) : Option Env :=
  match v with
  | .bool b => if b = want then x else y
  | .chan none => y
  | _ => none
@[congr] theorem qguard_congr {v : Value} {v' : Unit → Value} {want : Bool} {x y : Option Env} (h : ∀ u : Unit, v = v' u) : qguard v want x y = qguard (v' ()) want x y := by rw [h ()]
theorem qguard_tt (x y : Option Env) : qguard (.bool true) true x y = x := nrfl rfl
theorem qguard_ff (x y : Option Env) : qguard (.bool false) false x y = x := nrfl rfl
theorem qguard_tf (x y : Option Env) : qguard (.bool true) false x y = y := nrfl rfl
theorem qguard_v (want : Bool) (x y : Option Env) : qguard void want x y = y := nrfl rfl
theorem qguard_ft (x y : Option Env) : qguard (.bool false) true x y = y := nrfl rfl

def gget (ops : List Oper) (e : Env) (j : Nat) : Value :=
  match (ops[j]?).bind (·.dst) with
  | some t => get e t
  | none => undef
@[congr] theorem gget_congr {ops : List Oper} {e : Env} {e' : Unit → Env} {j : Nat} (h : ∀ u : Unit, e = e' u) : gget ops e j = gget ops (e' ()) j := by rw [h ()]
theorem gget_zero {e : Env} {d : Nat} {op : Op} {ty : TypeId} {pos : String} {af : Array Edge} {g : Option (Nat × Bool)} {l : List Oper} : gget (⟨some d, op, ty, pos, af, g⟩ :: l) e 0 = get e d := nrfl rfl
theorem gget_succ {e : Env} {o : Oper} {l : List Oper} {j : Nat} : gget (o :: l) e (j + 1) = gget l e j := nrfl rfl

theorem qrun_guard {T : Tab} {N : Nat} {ops : List Oper} {H : AHeap} {e : Env} {d : Option Nat} {op : Op} {ty : TypeId} {pos : String} {af : Array Edge} {l : List Oper} {j : Nat} {want : Bool} :
    qrun T N ops H (⟨d, op, ty, pos, af, some (j, want)⟩ :: l) e = qguard (gget ops e j) want (qbind (qop T H (aev e) op) fun v => qrun T N ops H l (eput N e d v)) (qrun T N ops H l (eput N e d void)) := by
  simp only [qrun, q1, awant, gget]
  cases (ops[j]?).bind (·.dst) with
  | none => rfl
  | some t =>
    dsimp only
    cases get e t <;> try rfl
    · rename_i b
      cases b <;> cases want <;> first | rfl | (cases qop T H (aev e) op <;> rfl)
    · rename_i b
      cases b <;> rfl

theorem get_nil (t : Nat) : get [] t = undef := nrfl rfl
def gif {α : Type} (b : Bool) (x y : α) : α := if b = true then x else y
@[congr] theorem gif_congr {α : Type} {b : Bool} {b' : Unit → Bool} {x y : α} (h : ∀ u : Unit, b = b' u) : gif b x y = gif (b' ()) x y := by rw [h ()]
theorem gif_t {α : Type} (x y : α) : gif true x y = x := nrfl rfl
theorem gif_f {α : Type} (x y : α) : gif false x y = y := nrfl rfl
theorem get_cons (k : Nat) (v : Value) (e : Env) (t : Nat) : get ((k, v) :: e) t = gif (t == k) v (get e t) := by
  simp only [get, gif, beq_iff_eq]
theorem eput_some (N : Nat) (e : Env) (d : Nat) (v : Value) : eput N e (some d) v = gif (decide (d < N)) ((d, v) :: e) e := by
  simp only [eput, gif, decide_eq_true_eq]
theorem eput_none (N : Nat) (e : Env) (v : Value) : eput N e none v = e := nrfl rfl
theorem aev_tmp (e : Env) (t : Nat) : aev e (.tmp t) = get e t := nrfl rfl
theorem aev_int (e : Env) (n : Int) : aev e (.const (.int .i64 n)) = .int .i64 n := nrfl rfl
theorem aev_uint (e : Env) (n : Int) : aev e (.const (.int .u64 n)) = .int .u64 n := nrfl rfl
theorem aev_byte (e : Env) (n : Int) : aev e (.const (.int .u8 n)) = .int .u8 n := nrfl rfl
theorem aev_bool (e : Env) (b : Bool) : aev e (.const (.bool b)) = .bool b := nrfl rfl
theorem aev_str (e : Env) (l : List UInt8) : aev e (.const (.string ⟨l.toArray⟩)) = S l := nrfl rfl
theorem aev_nil (e : Env) : aev e (.const (.slice none 0 0)) = .slice none 0 0 := nrfl rfl
theorem aev_nilp (e : Env) : aev e (.const (.pointer none)) = .pointer none := nrfl rfl
theorem aev_func (e : Env) (f : Nat) : aev e (.func f) = .func (.func f) #[] #[] := nrfl rfl

section
variable {T : Tab} {H : AHeap} {ev : Operand → Value}
theorem qop_move (x : Operand) : qop T H ev (.move x) = some (ev x) := nrfl rfl
theorem qop_assign (x : Operand) : qop T H ev (.assign x) = some (ev x) := nrfl rfl
theorem qop_len (x : Operand) (t : Nat) : qop T H ev (.call { callee := .builtin .len, args := #[x], argTypes := #[t] }) = alen T t (ev x) := nrfl rfl
def amin (a b : Value) : Option Value :=
  match a, b with
  | .int k a, .int _ b => some (.int k (if b < a then b else a))
  | _, _ => none
def amax (a b : Value) : Option Value :=
  match a, b with
  | .int k a, .int _ b => some (.int k (if b > a then b else a))
  | _, _ => none
theorem qop_min (x y : Operand) (ts : Array Nat) : qop T H ev (.call { callee := .builtin .min, args := #[x, y], argTypes := ts }) = amin (ev x) (ev y) := nrfl rfl
theorem qop_max (x y : Operand) (ts : Array Nat) : qop T H ev (.call { callee := .builtin .max, args := #[x, y], argTypes := ts }) = amax (ev x) (ev y) := nrfl rfl
theorem amin_int (k : IntKind) (a b : Int) : amin (.int k a) (.int k b) = some (.int k (min a b)) := by
  simp only [amin]; congr 2; omega
theorem amax_int (k : IntKind) (a b : Int) : amax (.int k a) (.int k b) = some (.int k (max a b)) := by
  simp only [amax]; congr 2; omega
theorem qop_bin (op : BinOp) (t : Nat) (x y : Operand) (u : Nat) : qop T H ev (.binOp op t x y u) = abin T op t (ev x) (ev y) := nrfl rfl
theorem qop_ixa (t : Nat) (x y : Operand) : qop T H ev (.indexAddr t x y) = aindex T t (ev x) (ev y) := nrfl rfl
theorem qop_ix (t : Nat) (x y : Operand) : qop T H ev (.index t x y) = aget T t (ev x) (ev y) := nrfl rfl
theorem qop_load (t : Nat) (x : Operand) : qop T H ev (.load t x) = aload T H t (ev x) := nrfl rfl
theorem qop_field (t : Nat) (x : Operand) (f : Nat) : qop T H ev (.fieldAddr t x f) = afield T t (ev x) f := nrfl rfl
theorem qop_fld (t : Nat) (x : Operand) (f : Nat) : qop T H ev (.field t x f) = apick T t (ev x) f := nrfl rfl
theorem qop_conv (s d : Nat) (x : Operand) : qop T H ev (.convert s d x) = aconv T H s d (ev x) := nrfl rfl
theorem qop_slice00 (t : Nat) (x : Operand) : qop T H ev (.slice t x none none none) = aslice T t (ev x) none none := nrfl rfl
theorem qop_slice10 (t : Nat) (x a : Operand) : qop T H ev (.slice t x (some a) none none) = aslice T t (ev x) (some (ev a)) none := nrfl rfl
theorem qop_slice01 (t : Nat) (x b : Operand) : qop T H ev (.slice t x none (some b) none) = aslice T t (ev x) none (some (ev b)) := nrfl rfl
theorem qop_slice11 (t : Nat) (x a b : Operand) : qop T H ev (.slice t x (some a) (some b) none) = aslice T t (ev x) (some (ev a)) (some (ev b)) := nrfl rfl
theorem qop_build (t : Nat) (l : List (Nat × Operand)) : qop T H ev (.build t l.toArray) = abuild T t (l.map fun p => (p.1, ev p.2)) := nrfl rfl
theorem qop_fn (g : Fn) (l : List Operand) : qop T H ev (.makeFunc g #[] l.toArray) = some (.func g #[] (l.map ev).toArray) := by simp [qop]
def anot : Value → Option Value
  | .bool b => some (.bool (!b))
  | _ => none
theorem qop_not (t : Nat) (x : Operand) : qop T H ev (.unOp .not t x) = anot (ev x) := nrfl rfl
theorem anot_bool (b : Bool) : anot (.bool b) = some (.bool (!b)) := nrfl rfl
def apk (c a b : Value) : Option Value :=
  match c with
  | .bool t => some (if t then a else b)
  | _ => none
theorem qop_pick (c a b : Operand) : qop T H ev (.pick c a b) = apk (ev c) (ev a) (ev b) := nrfl rfl
theorem apk_t (a b : Value) : apk (.bool true) a b = some a := nrfl rfl
theorem apk_f (a b : Value) : apk (.bool false) a b = some b := nrfl rfl
def anil : Value → Option Value
  | .pointer (some ⟨i, o, none⟩) => some (.pointer (some ⟨i, o, none⟩))
  | .func (.func f) a b => some (.func (.func f) a b)
  | _ => none
theorem qop_nil (x : Operand) : qop T H ev (.nilCheck x) = anil (ev x) := nrfl rfl
theorem anil_ptr (i o : Nat) : anil (.pointer (some ⟨i, o, none⟩)) = some (.pointer (some ⟨i, o, none⟩)) := nrfl rfl
theorem anil_fn (f : Nat) (a b : Array Value) : anil (.func (.func f) a b) = some (.func (.func f) a b) := nrfl rfl
def aext (v : Value) (i : Nat) : Option Value :=
  match v with
  | .tuple vs => vs[i]?
  | _ => none
theorem qop_ext (x : Operand) (i : Nat) : qop T H ev (.extract x i) = aext (ev x) i := nrfl rfl
theorem aext_0 (a : Value) (l : List Value) : aext (.tuple (a :: l).toArray) 0 = some a := by simp [aext]
theorem aext_1 (a b : Value) (l : List Value) : aext (.tuple (a :: b :: l).toArray) 1 = some b := by simp [aext]
theorem aext_2 (a b c : Value) (l : List Value) : aext (.tuple (a :: b :: c :: l).toArray) 2 = some c := by simp [aext]
end

theorem argEnv_nil (k : Nat) : argEnv k [] = [] := nrfl rfl
theorem argEnv_cons (k : Nat) (v : Value) (l : List Value) : argEnv k (v :: l) = (k, v) :: argEnv (k + 1) l := nrfl rfl
theorem ares_one (T : Tab) (H : AHeap) (e : Env) (t : Nat) : ares T H e [.tmp t] = some (get e t) := nrfl rfl
theorem ares_two (T : Tab) (H : AHeap) (e : Env) (t u : Nat) : ares T H e [.tmp t, .tmp u] = some (.tuple #[get e t, get e u]) := nrfl rfl
theorem ares_three (T : Tab) (H : AHeap) (e : Env) (t u x : Nat) : ares T H e [.tmp t, .tmp u, .tmp x] = some (.tuple #[get e t, get e u, get e x]) := nrfl rfl

attribute [go_sem] qguard_v qbind_some qrun_nil qrun_cons qrun_guard qguard_tt qguard_tf qguard_ft qguard_ff gget_zero gget_succ get_nil get_cons eput_some eput_none aev_tmp aev_int aev_uint aev_byte aev_bool aev_str aev_nil aev_nilp aev_func
  qop_move qop_assign qop_len qop_min qop_max amin_int amax_int qop_bin qop_ixa qop_ix qop_load qop_field qop_fld qop_conv qop_slice00 qop_slice10 qop_slice01 qop_slice11 qop_build qop_fn qop_not anot_bool qop_pick apk_t apk_f qop_nil anil_ptr anil_fn qop_ext aext_0 aext_1 aext_2
  argEnv_nil argEnv_cons ares_one ares_two ares_three Nat.reduceAdd Nat.reduceLT Nat.reduceEqDiff Nat.reduceBEq decide_true gif_t gif_f

/-! ### Numbers, texts -/
theorem abin_int (op : BinOp) (t : Nat) (k k' : IntKind) (a b : Int) : abin TT op t (.int k a) (.int k' b) = abinInt op k a k' b := nrfl rfl
section
variable (k : IntKind) (a b : Int)
theorem ai_add : abinInt .add k a k b = some (.int k (k.wrap (a + b))) := by simp [abinInt]
theorem ai_sub : abinInt .sub k a k b = some (.int k (k.wrap (a - b))) := by simp [abinInt]
theorem ai_mul : abinInt .mul k a k b = some (.int k (k.wrap (a * b))) := by simp [abinInt]
theorem ai_eql : abinInt .eql k a k b = some (.bool (decide (a = b))) := by simp [abinInt]
theorem ai_neq : abinInt .neq k a k b = some (.bool (!decide (a = b))) := by simp [abinInt]
theorem ai_lss : abinInt .lss k a k b = some (.bool (decide (a < b))) := by simp [abinInt]
theorem ai_leq : abinInt .leq k a k b = some (.bool (decide (a ≤ b))) := by simp [abinInt]
theorem ai_gtr : abinInt .gtr k a k b = some (.bool (decide (b < a))) := by simp [abinInt]
theorem ai_geq : abinInt .geq k a k b = some (.bool (decide (b ≤ a))) := by simp [abinInt]
theorem ai_quo (h : b ≠ 0) : abinInt .quo k a k b = some (.int k (k.wrap (a.tdiv b))) := by simp [abinInt, h]
theorem ai_rem (h : b ≠ 0) : abinInt .rem k a k b = some (.int k (a.tmod b)) := by simp [abinInt, h]
end
theorem wrap64 {x : Int} (h0 : -9223372036854775808 ≤ x) (h1 : x < 9223372036854775808) : IntKind.i64.wrap x = x := by
  simp [IntKind.wrap, IntKind.signed, IntKind.bits]
  omega
theorem toList_mk (l : List UInt8) : (ByteArray.mk l.toArray).toList = l := by rw [ByteArray.toList_eq]
theorem as_eql (t : Nat) (a b : List UInt8) : abin TT .eql t (S a) (S b) = some (.bool (decide (a = b))) := by
  simp only [abin, S, abinStr, S_inj]
theorem as_neq (t : Nat) (a b : List UInt8) : abin TT .neq t (S a) (S b) = some (.bool (!decide (a = b))) := by
  simp only [abin, S, abinStr, S_inj]
theorem as_lss (t : Nat) (a b : List UInt8) : abin TT .lss t (S a) (S b) = some (.bool (decide (a < b))) := by
  simp only [abin, S, abinStr, toList_mk, bytesLess_eq]
theorem not_lt_le (a b : List UInt8) : (decide (a < b) || decide (a = b)) = decide (a ≤ b) := by
  rw [Bool.eq_iff_iff]
  simp only [Bool.or_eq_true, decide_eq_true_eq]
  exact (List.le_iff_lt_or_eq).symm
theorem as_leq (t : Nat) (a b : List UInt8) : abin TT .leq t (S a) (S b) = some (.bool (decide (a ≤ b))) := by
  simp only [abin, S, abinStr, toList_mk, bytesLess_eq, S_inj, not_lt_le]
theorem as_gtr (t : Nat) (a b : List UInt8) : abin TT .gtr t (S a) (S b) = some (.bool (decide (b < a))) := by
  simp only [abin, S, abinStr, toList_mk, bytesLess_eq, S_inj, not_lt_le]
  congr 2
  rw [Bool.eq_iff_iff]; simp [List.not_le]
theorem as_geq (t : Nat) (a b : List UInt8) : abin TT .geq t (S a) (S b) = some (.bool (decide (b ≤ a))) := by
  simp only [abin, S, abinStr, toList_mk, bytesLess_eq]
  congr 2
  rw [Bool.eq_iff_iff]; simp [List.not_lt]
theorem as_add (t : Nat) (a b : List UInt8) (h : a.length + b.length ≤ 9223372036854775807) : abin TT .add t (S a) (S b) = some (S (a ++ b)) := by
  simp only [abin, S, abinStr, ByteArray.size, List.size_toArray, if_pos h]
  congr 2
theorem alen_S (l : List UInt8) : alen TT 9 (S l) = some (.int .i64 l.length) := by simp [alen, TT_9, S, ByteArray.size]
theorem abin_bool_eql (a b : Bool) : abin TT .eql 4 (.bool a) (.bool b) = some (.bool (decide (a = b))) := by
  show (aeq TT 10000 4 (.bool a) (.bool b)).map _ = _
  rw [show (10000 : Nat) = 9999 + 1 from rfl, aeq_bool]; rfl
theorem abin_bool_neq (a b : Bool) : abin TT .neq 4 (.bool a) (.bool b) = some (.bool (!decide (a = b))) := by
  show (aeq TT 10000 4 (.bool a) (.bool b)).map (fun b => Value.bool (!b)) = _
  rw [show (10000 : Nat) = 9999 + 1 from rfl, aeq_bool]; rfl
theorem abin_nd_neq (x y : Nd) : abin TT .neq 49 x.val y.val = some (.bool (!decide (x = y))) := by
  show (aeq TT 10000 49 x.val y.val).map (fun b => Value.bool (!b)) = _
  rw [aeq_nd]; rfl
theorem aeq_pr (x y : Pr) : aeq TT 10000 52 x.val y.val = some (decide (x = y)) := by
  show aeq TT (9999 + 1) 52 x.val y.val = _
  rw [aeq]
  have e1 := aeq_str 9998 x.key y.key
  have e2 := aeq_str 9998 x.value y.value
  have p : ∀ n : Pr, apart TT 9 n.cells 0 = some (S n.key) ∧ apart TT 9 n.cells 1 = some (S n.value) := fun n => ⟨rfl, rfl⟩
  obtain ⟨x0, x1⟩ := p x
  obtain ⟨y0, y1⟩ := p y
  simp only [Nat.reduceAdd] at e1 e2
  simp only [TT_52, Pr.val, List.foldr_cons, List.foldr_nil, x0, x1, y0, y1, e1, e2]
  obtain ⟨k, v⟩ := x
  obtain ⟨k', v'⟩ := y
  simp
theorem abin_pr_eql (x y : Pr) : abin TT .eql 52 x.val y.val = some (.bool (decide (x = y))) := by
  show (aeq TT 10000 52 x.val y.val).map _ = _
  rw [aeq_pr]; rfl
theorem abin_pr_neq (x y : Pr) : abin TT .neq 52 x.val y.val = some (.bool (!decide (x = y))) := by
  show (aeq TT 10000 52 x.val y.val).map (fun b => Value.bool (!b)) = _
  rw [aeq_pr]; rfl
theorem aget_S {l : List UInt8} {j : Nat} {k : IntKind} (h : j < l.length) : aget TT 9 (S l) (.int k (j : Int)) = some (U l[j]) := by
  simp only [aget, TT_9, S]
  rw [dif_pos (by simpa [ByteArray.size] using h)]
  simp only [U, Int.toNat_natCast]
  rfl
theorem extract_mk (l : List UInt8) (a b : Nat) : (ByteArray.mk l.toArray).extract a b = ByteArray.mk ((l.take b).drop a).toArray := by
  apply ByteArray.ext
  rw [ByteArray.data_extract]
  apply Array.ext'
  simp [List.drop_take]
theorem aslice_S10 {l : List UInt8} {a : Nat} {k : IntKind} (h : a ≤ l.length) : aslice TT 9 (S l) (some (.int k (a : Int))) none = some (S (l.drop a)) := by
  simp only [aslice, TT_9, S, abound, ByteArray.size, List.size_toArray]
  rw [if_pos (by omega)]
  simp only [Int.toNat_natCast, extract_mk]
  rw [List.take_of_length_le (by simp)]
theorem aslice_S01 {l : List UInt8} {b : Nat} {k : IntKind} (h : b ≤ l.length) : aslice TT 9 (S l) none (some (.int k (b : Int))) = some (S (l.take b)) := by
  simp only [aslice, TT_9, S, abound, ByteArray.size, List.size_toArray]
  rw [if_pos (by omega)]
  simp only [Int.toNat_natCast, extract_mk, List.drop_zero]
theorem aslice_S11 {l : List UInt8} {a b : Nat} {k k' : IntKind} (h : a ≤ b) (hb : b ≤ l.length) : aslice TT 9 (S l) (some (.int k (a : Int))) (some (.int k' (b : Int))) = some (S ((l.take b).drop a)) := by
  simp only [aslice, TT_9, S, abound, ByteArray.size, List.size_toArray]
  rw [if_pos (by omega)]
  dsimp only
  rw [if_pos (by omega)]
  simp only [Int.toNat_natCast, extract_mk]

attribute [go_sem] abin_int ai_add ai_sub ai_mul ai_eql ai_neq ai_lss ai_leq ai_gtr ai_geq as_eql as_neq as_lss as_leq as_gtr as_geq alen_S abin_bool_eql abin_bool_neq abin_nd_neq abin_pr_eql abin_pr_neq Int.toNat_natCast

/-! ### Code, region by region -/
section
variable {P : Program} {T : Tab} {N : Nat} {ok : Nat → Prop} {Q : Exit → Env → AHeap → Prop} {e e' : Env} {H : AHeap}
theorem AC_seqQ (hT : TOK P T) {i : Nat} {l : List Oper} {y : Code} (h : qrun T N l H l e = some e') (hk : AC P N ok y Q e' H) : AC P N ok (.seq (.region i l.toArray false) y) Q e H :=
  AC_seq (AC_quiet hT h hk)
theorem AC_seqD (hT : TOK P T) {i : Nat} {l : List Oper} {y : Code} (hm : P.follows .mixedOrders = true) (hB : schedOK .any l [] (lexS 0 l.length) = true) (h : qrun T N l H l e = some e') (hk : AC P N ok y Q e' H) : AC P N ok (.seq (.region i l.toArray true) y) Q e H :=
  AC_seq (AC_quiet_draw hT hm hB h hk)
theorem AC_t {c : Operand} {x y : Code} {b : Bool} (hc : aev e c = .bool b) (hb : b = true) (h : AC P N ok x Q e H) : AC P N ok (.cond c x y) Q e H := by subst hb; exact AC_cond hc h
theorem AC_f {c : Operand} {x y : Code} {b : Bool} (hc : aev e c = .bool b) (hb : b = false) (h : AC P N ok y Q e H) : AC P N ok (.cond c x y) Q e H := by subst hb; exact AC_cond hc h

/-- What stands between, said. -/
theorem AC_cut {x y : Code} (K : Env → AHeap → Prop) (h : AC P N ok x (thenQ K Q) e H) (hk : ∀ e' H', AExt ok H H' → K e' H' → AC P N ok y Q e' H') : AC P N ok (.seq x y) Q e H :=
  AC_seq (AC_mono h fun ex e' H' hX hq => by cases ex <;> first | exact hk e' H' hX hq | exact hq)

theorem ACalls_by {f : Nat} {fn : Func} {c : Code} {args : List Value} {M : Nat → Prop} {Q : Value → AHeap → Prop} {rs : List ResultVar} (N : Nat) (hT : TOK P T) (hf : P.funcs[f]? = some fn) (hb : fn.body = some c) (hN : fn.ntmps = N) (hr : fn.results.toList = rs) (hl : args.length ≤ N)
    (h : AC P N (fun i => H.length ≤ i ∨ M i) c (fun ex e' H' => (ex = .ret ∨ ex = .normal) ∧ ∃ v, ares T H' e' rs = some v ∧ Q v H') (argEnv 0 args) H) : ACalls P f args H M Q := by
  subst hN hr
  exact ACalls_of hT hf hb hl h
end

theorem nd_true {p : Prop} [Decidable p] (h : ¬ p) : (!decide p) = true := by simp [h]
theorem nd_false {p : Prop} [Decidable p] (h : p) : (!decide p) = false := by simp [h]

/-! ### Regions with effects, in the order of the text -/
def isq : Op → Bool
  | .alloc _ => false
  | .box _ _ => false
  | .buildSlice _ _ _ => false
  | .makeSlice _ _ _ => false
  | .store _ _ _ => false
  | .call c => match c.callee with
    | .builtin .len => true
    | .builtin .min => true
    | .builtin .max => true
    | _ => false
  | _ => true

def flags (late : List Nat) : Nat → List Oper → List (Nat × Bool)
  | _, [] => []
  | k, o :: l => (k, isq o.op && late.all (fun m => decide (k ≤ m))) :: flags late (k + 1) l

/-- What is left of a region, from its k-th operation on. -/
def AQ (P : Program) (N : Nat) (ok : Nat → Prop) (d : Bool) (late : List Nat) (ops : List Oper) (k : Nat) (l : List Oper) (K : Env → AHeap → Prop) (e : Env) (H : AHeap) : Prop :=
  (∀ j, l[j]? = ops[k + j]?) → if d = true then AS P N ok ops late (flags late k l) K e H else AL P N ok ops l K e H

section
variable {P : Program} {T : Tab} {N : Nat} {ok : Nat → Prop} {d : Bool} {late : List Nat} {ops : List Oper} {k : Nat} {l : List Oper} {K : Env → AHeap → Prop} {e e' : Env} {H : AHeap} {Q : Exit → Env → AHeap → Prop}

theorem AC_regL {i : Nat} (h : AQ P N ok false [] l 0 l (Q .normal) e H) : AC P N ok (.region i l.toArray false) Q e H :=
  AC_region (by simpa [AQ] using h (fun j => by simp))
theorem AC_regD {i : Nat} (late : List Nat) (hm : P.follows .mixedOrders = true) (hB : schedOK .any l late (flags late 0 l) = true) (h : AQ P N ok true late l 0 l (Q .normal) e H) : AC P N ok (.region i l.toArray true) Q e H :=
  AC_draw late _ hm hB (by simpa [AQ] using h (fun j => by simp))

theorem AQ_nil (h : K e H) : AQ P N ok d late ops k [] K e H := fun _ => by
  cases d
  · exact AL_nil h
  · exact AS_nil h

theorem tail_at {o : Oper} (h : ∀ j, (o :: l)[j]? = ops[k + j]?) : ops[k]? = some o ∧ ∀ j, l[j]? = ops[k + 1 + j]? :=
  ⟨by simpa using (h 0).symm, fun j => by have := h (j + 1); simpa [Nat.add_assoc, Nat.add_comm 1 j] using this⟩

theorem AQ_q1 (hT : TOK P T) {o : Oper} (hq : isq o.op = true) (h : q1 T N ops H o e = some e') (hk : AQ P N ok d late ops (k + 1) l K e' H) : AQ P N ok d late ops k (o :: l) K e H := fun hl => by
  obtain ⟨h0, h1⟩ := tail_at hl
  have hk' := hk h1
  cases d
  · exact AL_q1 hT h hk'
  · simp only [if_true, flags, hq] at hk' ⊢
    unfold q1 at h
    split at h
    · rename_i hw
      cases hqq : qop T H (aev e) o.op with
      | none => rw [hqq] at h; cases h
      | some v =>
        rw [hqq] at h
        obtain rfl := Option.some.inj h
        cases true && late.all fun m => decide (k ≤ m)
        · exact AS_only h0 hw (AStep_q hT hqq hk')
        · exact AS_take hT h0 hw hqq hk'
    · rename_i hw
      obtain rfl := Option.some.inj h
      cases true && late.all fun m => decide (k ≤ m)
      · exact AS_only_pass h0 hw hk'
      · exact AS_take_pass h0 hw hk'
    · cases h

theorem AQ_run (hT : TOK P T) : ∀ (n : Nat) (l : List Oper) (k : Nat) (e : Env), (l.take n).all (fun o => isq o.op) = true → qrun T N ops H (l.take n) e = some e' → AQ P N ok d late ops (k + n) (l.drop n) K e' H → AQ P N ok d late ops k l K e H
  | 0, l, k, e, _, h, hk => by
    obtain rfl := Option.some.inj h
    exact hk
  | n + 1, [], k, e, _, h, hk => by
    obtain rfl := Option.some.inj h
    exact fun _ => by
      have := hk (fun j => by
        rename_i h0
        have := h0 (n + 1 + j)
        simpa [Nat.add_assoc] using this)
      simpa [flags] using this
  | n + 1, o :: l, k, e, ha, h, hk => by
    simp only [List.take_succ_cons, List.all_cons, Bool.and_eq_true] at ha
    simp only [List.take_succ_cons, qrun] at h
    cases h1 : q1 T N ops H o e with
    | none => rw [h1] at h; cases h
    | some e1 =>
      rw [h1] at h
      refine AQ_q1 hT ha.1 h1 (AQ_run hT n l (k + 1) e1 ha.2 h ?_)
      rw [Nat.add_assoc, Nat.add_comm 1 n]
      exact hk

/-- All that is left, at once. -/
theorem AQ_all (hT : TOK P T) (ha : l.all (fun o => isq o.op) = true) (h : qrun T N ops H l e = some e') (hk : K e' H) : AQ P N ok d late ops k l K e H :=
  AQ_run hT l.length l k e (by simpa using ha) (by simpa using h) (by rw [List.drop_length]; exact AQ_nil hk)

theorem AQ_step {o : Oper} (hq : isq o.op = false) (hw : awant ops e o = some true) (h : AStep P N ok (d = true ∧ late.contains k = false) o (fun e' H' => AQ P N ok d late ops (k + 1) l K e' H') e H) : AQ P N ok d late ops k (o :: l) K e H := fun hl => by
  obtain ⟨h0, h1⟩ := tail_at hl
  cases d
  · simp only [Bool.false_eq_true, if_false]
    refine AL_step hw fun perm w0 β a w Qc g1 g2 g3 g4 => Oper.wp_mono (fun a' w' hp => ?_) (h perm w0 β a w Qc g1 g2 g3 g4)
    refine ⟨fun hf => hf.elim, St.mono hp.2 fun e' H' _ hK => ?_⟩
    simpa using hK h1
  · simp only [if_true, flags, hq, Bool.false_and]
    refine AS_only h0 hw fun perm w0 β a w Qc g1 g2 g3 g4 => Oper.wp_mono (fun a' w' hp => ?_) (h perm w0 β a w Qc g1 g2 g3 g4)
    refine ⟨fun hf => hp.1 ⟨rfl, hf⟩, St.mono hp.2 fun e' H' _ hK => ?_⟩
    simpa using hK h1

theorem AQ_pass {o : Oper} (hw : awant ops e o = some false) (h : AQ P N ok d late ops (k + 1) l K (eput N e o.dst void) H) : AQ P N ok d late ops k (o :: l) K e H := fun hl => by
  obtain ⟨h0, h1⟩ := tail_at hl
  have h' := h h1
  cases d
  · exact AL_pass hw h'
  · simp only [if_true, flags] at h' ⊢
    cases isq o.op && late.all fun m => decide (k ≤ m)
    · exact AS_only_pass h0 hw h'
    · exact AS_take_pass h0 hw h'

theorem AQ_e (hT : TOK P T) {o : Oper} {r : Eff} (hq : isq o.op = false) (hw : awant ops e o = some true) (h : eop T H (aev e) o.op = some r) (hok : ∀ i, r.2.2 = some i → ok i) (hear : d = false ∨ late.contains k = true ∨ r.2.2 = none) (hk : AQ P N ok d late ops (k + 1) l K (eput N e o.dst r.1) r.2.1) : AQ P N ok d late ops k (o :: l) K e H :=
  AQ_step hq hw (AStep_e hT h hok (fun hh => by
    rcases hear with h' | h' | h'
    · rw [h'] at hh; cases hh.1
    · rw [h'] at hh; cases hh.2
    · exact h') hk)

/-- The first n at once. -/
def qtake (T : Tab) (N : Nat) (ops : List Oper) (H : AHeap) (n : Nat) (l : List Oper) (e : Env) : Option Env := qrun T N ops H (l.take n) e
@[congr] theorem qtake_congr {T : Tab} {N : Nat} {ops : List Oper} {H : AHeap} {n : Nat} {l : List Oper} {e : Env} {e' : Unit → Env} (h : ∀ u : Unit, e = e' u) : qtake T N ops H n l e = qtake T N ops H n l (e' ()) := by rw [h ()]
theorem qtake_zero {T : Tab} {N : Nat} {ops : List Oper} {H : AHeap} {l : List Oper} {e : Env} : qtake T N ops H 0 l e = some e := nrfl rfl
theorem qtake_drop {T : Tab} {N : Nat} {ops : List Oper} {H : AHeap} {n m : Nat} {o : Oper} {l : List Oper} {e : Env} : qtake T N ops H n (List.drop (m + 1) (o :: l)) e = qtake T N ops H n (List.drop m l) e := nrfl rfl
theorem qtake_drop0 {T : Tab} {N : Nat} {ops : List Oper} {H : AHeap} {n : Nat} {l : List Oper} {e : Env} : qtake T N ops H n (List.drop 0 l) e = qtake T N ops H n l e := nrfl rfl
theorem qrun_drop {T : Tab} {N : Nat} {ops : List Oper} {H : AHeap} {m : Nat} {o : Oper} {l : List Oper} {e : Env} : qrun T N ops H (List.drop (m + 1) (o :: l)) e = qrun T N ops H (List.drop m l) e := nrfl rfl
theorem qrun_drop0 {T : Tab} {N : Nat} {ops : List Oper} {H : AHeap} {l : List Oper} {e : Env} : qrun T N ops H (List.drop 0 l) e = qrun T N ops H l e := nrfl rfl
theorem qtake_cons {T : Tab} {N : Nat} {ops : List Oper} {H : AHeap} {n : Nat} {e : Env} {d : Option Nat} {op : Op} {ty : TypeId} {pos : String} {af : Array Edge} {l : List Oper} :
    qtake T N ops H (n + 1) (⟨d, op, ty, pos, af, none⟩ :: l) e = qbind (qop T H (aev e) op) fun v => qtake T N ops H n l (eput N e d v) := nrfl qrun_cons
theorem qtake_guard {T : Tab} {N : Nat} {ops : List Oper} {H : AHeap} {n : Nat} {e : Env} {d : Option Nat} {op : Op} {ty : TypeId} {pos : String} {af : Array Edge} {l : List Oper} {j : Nat} {want : Bool} :
    qtake T N ops H (n + 1) (⟨d, op, ty, pos, af, some (j, want)⟩ :: l) e = qguard (gget ops e j) want (qbind (qop T H (aev e) op) fun v => qtake T N ops H n l (eput N e d v)) (qtake T N ops H n l (eput N e d void)) := nrfl qrun_guard
attribute [go_sem] qtake_drop qtake_drop0 qrun_drop qrun_drop0 qtake_zero qtake_cons qtake_guard
theorem AQ_take (hT : TOK P T) (n : Nat) (ha : (l.take n).all (fun o => isq o.op) = true) (h : qtake T N ops H n l e = some e') (hk : AQ P N ok d late ops (k + n) (l.drop n) K e' H) : AQ P N ok d late ops k l K e H := AQ_run hT n l k e ha h hk

/-- A call of a function. -/
theorem AQ_c {dst : Option Nat} {ty : TypeId} {pos : String} {af : Array Edge} {gd : Option (Nat × Bool)} {fo : Operand} {l0 : List Operand} {ts : Array Nat} {g : Nat} {cl : List Value} {args : List Value} {M : Nat → Prop} {Qc : Value → AHeap → Prop}
    (hw : awant ops e ⟨dst, .call { callee := .value fo, args := l0.toArray, argTypes := ts }, ty, pos, af, gd⟩ = some true) (hf : aev e fo = .func (.func g) #[] cl.toArray) (hg : Fok P g) (hargs : l0.map (aev e) ++ cl = args)
    (h : ACalls P g args H M Qc) (hM : ∀ i, i < H.length → M i → ok i) (hear : d = false ∨ late.contains k = true ∨ ∀ i, i < H.length → ¬ M i)
    (hk : ∀ v H', AExt M H H' → Qc v H' → AQ P N ok d late ops (k + 1) l K (eput N e dst v) H') : AQ P N ok d late ops k (⟨dst, .call { callee := .value fo, args := l0.toArray, argTypes := ts }, ty, pos, af, gd⟩ :: l) K e H :=
  AQ_step rfl hw (AStep_call rfl rfl hf hg (by simpa [hargs] using h) hM (fun hh => by
    rcases hear with h' | h' | h'
    · rw [h'] at hh; cases hh.1
    · rw [h'] at hh; cases hh.2
    · exact h') hk)
end
end Go.Proofs.Ythalogdopkoidaa.Ab
