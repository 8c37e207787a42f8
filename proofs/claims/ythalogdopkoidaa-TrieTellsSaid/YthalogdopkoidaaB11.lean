/- Rules for regions in which one object is set apart. No statement of the seat's in it. -/
import Derived.Test.YthalogdopkoidaaB10
import Derived.Test.YthalogdopkoidaaA13
set_option linter.unusedVariables false
namespace Go.Proofs.Ythalogdopkoidaa.Ab
open Go Go.RowKit Go.Proofs.Ythalogdopkoidaa.Dr

section
variable {T : Tab} {N : Nat} {ops : List Oper} {H : AHeap}
@[congr] theorem qsel_congr {is : List Nat} {e : Env} {e' : Unit → Env} (h : ∀ u : Unit, e = e' u) : qsel T N ops H is e = qsel T N ops H is (e' ()) := by rw [h ()]
@[congr] theorem qat_congr {l : List Oper} {i : Nat} {k : Env → Option Env} {e : Env} {e' : Unit → Env} (h : ∀ u : Unit, e = e' u) : qat T N ops H l i e k = qat T N ops H l i (e' ()) k := by rw [h ()]
theorem qsel_nil {e : Env} : qsel T N ops H [] e = some e := nrfl rfl
theorem qsel_cons {i : Nat} {is : List Nat} {e : Env} : qsel T N ops H (i :: is) e = qat T N ops H ops i e (qsel T N ops H is) := nrfl rfl
theorem qat_succ {o : Oper} {l : List Oper} {i : Nat} {e : Env} {k : Env → Option Env} : qat T N ops H (o :: l) (i + 1) e k = qat T N ops H l i e k := nrfl rfl
theorem qat_zero {e : Env} {d : Option Nat} {op : Op} {ty : TypeId} {pos : String} {af : Array Edge} {l : List Oper} {k : Env → Option Env} :
    qat T N ops H (⟨d, op, ty, pos, af, none⟩ :: l) 0 e k = qbind (qop T H (aev e) op) fun v => k (eput N e d v) := by
  simp only [qat, List.getElem?_cons_zero, q1, awant]
  cases qop T H (aev e) op <;> rfl
attribute [go_sem] qsel_nil qsel_cons qat_succ qat_zero

variable {ok : Nat → Prop} {late : List Nat} {σ : List (Nat × Bool)} {K : Env → AHeap → Prop} {e : Env}
/-- A store into the object set apart. -/
theorem AM_store {P : Program} (hT : TOK P TT) {o : Oper} {j t : Nat} {ti : TI} {p x : Operand} {i off : Nat} {v : Value} {xs cells : List Value} {oty : Nat} (ho : ops[j]? = some o) (hop : o.op = .store t p x) (hdst : o.dst = none) (ht : TT t = some ti) (hw : awant ops e o = some true)
    (hp : aev e p = .pointer (some ⟨i, off, none⟩)) (hx : aev e x = v) (hv : Lay v xs) (hs : xs.length = ti.size) (hob : Ob H i oty cells) (hfit : off + xs.length ≤ cells.length) (hok : ok i)
    (hk : ∀ H', AExt (fun j => j = i) H H' → Ob H' i oty (over cells off xs) → H'.length = H.length → AM P N ok i ops late σ K e H') : AM P N ok i ops late ((j, false) :: σ) K e H :=
  AM_e hT ho hw (r := (undef, H.set i (some ⟨oty, over cells off xs, true⟩), some i)) (by
    rw [hop]
    simp only [eop, estore, hp, hx, ht, show H[i]? = some (some ⟨oty, cells, true⟩) from hob]
    rw [if_pos ⟨trivial, hv.known, by rw [← hs, ← hv.cells]; simp, by rw [← hs]; exact hfit, by rw [hv.cells]; exact hv.flat⟩, hv.cells]) rfl (by simp) hok
    (by rw [hdst]; exact hk _ (AExt.set1 _ _ _) (by simp [Ob, List.getElem?_set_self hob.lt]) (by simp))

theorem AM_storeE {P : Program} (hT : TOK P TT) {o : Oper} {j t : Nat} {ti : TI} {p x : Operand} {i off : Nat} {v u : Value} {xs cs : List Value} {ety n : Nat} (ho : ops[j]? = some o) (hop : o.op = .store t p x) (hdst : o.dst = none) (ht : TT t = some ti) (hw : awant ops e o = some true)
    (hp : aev e p = ep u off) (hx : aev e x = v) (hv : Lay v xs) (hs : xs.length = ti.size) (hob : Own H u ety n cs i) (hfit : off + xs.length ≤ cs.length) (hok : ok i)
    (hk : ∀ H', AExt (fun j => j = i) H H' → Own H' u ety n (over cs off xs) i → H'.length = H.length → AM P N ok i ops late σ K e H') : AM P N ok i ops late ((j, false) :: σ) K e H := by
  obtain ⟨h1, cells, h2, h3, h4⟩ := hob
  subst h1
  refine AM_store hT ho hop hdst ht hw (i := i) (off := off) (by rw [hp]; simp [ep]) hx hv hs h2 (by omega) hok fun H' g1 g2 g3 => hk H' g1 ⟨rfl, _, g2, by simp [over_length, h3], ?_⟩ g3
  rw [over_length, over_eq _ _ _ (by omega), over_eq _ _ _ (by omega)]
  have e1 : cs.take off = cells.take off := by rw [← h4, List.take_take]; congr 1; omega
  have e2 : cs.drop (off + xs.length) = (cells.drop (off + xs.length)).take (cs.length - (off + xs.length)) := by
    conv => lhs; rw [← h4]
    rw [List.drop_take]
  rw [e1, e2, List.append_assoc, List.append_assoc, List.take_append, List.take_append]
  rw [List.take_of_length_le (i := cs.length) (by simp; omega)]
  congr 1
  rw [List.take_of_length_le (by simp; omega)]
  congr 2
  simp
  omega
end
end Go.Proofs.Ythalogdopkoidaa.Ab
