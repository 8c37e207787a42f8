/- Code over abstract memory: what it is, its rules, that the model's runs keep to it. No statement of the seat's in it. Condition: none. -/
import Derived.Orders
import Derived.Below
import Derived.Deep.MidRow
import Derived.Deep.AppendLies
import Derived.Laws.StructEq
import Derived.Laws.BytesArg
import Derived.Laws.Slices
import Derived.Laws.Entries
import Derived.Laws.Small
import Derived.Laws.CopyRow
import Derived.Deep.LoopGhost
set_option linter.unusedVariables false
namespace Go.Proofs.Ythalogdopkoidaa.Ab
open Go Go.RowKit
/-- All but the blocks that may be turned is as it was. -/
structure Fr (perm : Nat → Prop) (w w' : World) : Prop where
  os : w'.os = w.os
  tape : w'.tape = w.tape
  output : w'.output = w.output
  size : w.heap.size ≤ w'.heap.size
  block : ∀ b, b < w.heap.size → ¬ perm b → w'.heap[b]? = w.heap[b]?
theorem Fr.refl (perm : Nat → Prop) (w : World) : Fr perm w w := ⟨rfl, rfl, rfl, Nat.le_refl _, fun _ _ _ => rfl⟩
theorem Fr.trans {perm : Nat → Prop} {a b c : World} (h : Fr perm a b) (k : Fr perm b c) : Fr perm a c :=
  ⟨k.os.trans h.os, k.tape.trans h.tape, k.output.trans h.output, Nat.le_trans h.size k.size, fun i hi hn => (k.block i (Nat.lt_of_lt_of_le hi h.size) hn).trans (h.block i hi hn)⟩
theorem Fr.mono {perm perm' : Nat → Prop} {w w' : World} (h : Fr perm w w') (hp : ∀ b, b < w.heap.size → perm b → perm' b) : Fr perm' w w' :=
  ⟨h.os, h.tape, h.output, h.size, fun b hb hn => h.block b hb fun hp' => hn (hp b hb hp')⟩
theorem Fr.below {w w' : World} (h : Below w.heap.size w w') (perm : Nat → Prop) : Fr perm w w' := ⟨h.os, h.tape, h.output, h.size, fun b hb _ => h.block b hb⟩
theorem Fr.to_below {w w' : World} (h : Fr (fun _ => False) w w') : Below w.heap.size w w' := ⟨h.os, h.tape, h.output, h.size, fun b hb => h.block b hb id⟩
end Go.Proofs.Ythalogdopkoidaa.Ab
namespace Go.Proofs.Ythalogdopkoidaa.Dr
open Go Go.RowKit Go.Proofs.Ythalogdopkoidaa.Ab
section
variable {P : Program} {ops : Array Oper} {Q : Exit → Act → World → Prop} {md : Region.Mode} {B : Nat → Prop}
/-- From a world on: in every later world that leaves what was there as it was, but for the blocks B, the operation yields v. -/
def From (P : Program) (B : Nat → Prop) (ops : Array Oper) (o : Oper) (v : Value) (a : Act) (w : World) : Prop :=
  (Region.wanted o (yielded ops a.tmps) = true ∧ ∀ w', Fr B w w' → (execOp a.eval o).run P w' = .ok (.value v) w') ∨
  (Region.wanted o (yielded ops a.tmps) = false ∧ v = undef)
theorem From.later {o : Oper} {v : Value} {a : Act} {w w1 : World} (h : From P B ops o v a w) (hb : Fr B w w1) : From P B ops o v a w1 :=
  h.imp (fun ⟨hw, hv⟩ => ⟨hw, fun w' hb' => hv w' (hb.trans hb')⟩) id
theorem From.wpOp {i : Nat} {o : Oper} {v : Value} {a : Act} (hi : ops[i]? = some o) {w : World} (hy : From P B ops o v a w)
    {K : Act → World → Prop} (h : K (a.put o.dst v) w) : wpOp P ops Q i K a w := by
  unfold Go.wpOp
  simp only [hi]
  rcases hy with ⟨hw, hv⟩ | ⟨hw, rfl⟩
  · simp only [hw, if_true, Oper.wp, hv w (Fr.refl _ _), Oper.upon]; exact .inl h
  · simp only [hw, Bool.false_eq_true, if_false]; exact h
theorem From.of_same {o : Oper} {v : Value} {a a' : Act} {w : World} (hy : From P B ops o v a w) (he : execOp a'.eval o = execOp a.eval o)
    (hw : Region.wanted o (yielded ops a'.tmps) = Region.wanted o (yielded ops a.tmps)) : From P B ops o v a' w := by
  unfold From at *
  rw [he, hw]
  exact hy
/-- What an operation leaves when it yields its value early. -/
theorem wpOp_putF {j : Nat} {oi oj : Oper} {v : Value} {w0 : World} (hj : ops[j]? = some oj) (hap : oi.apart ops oj = true)
    (hsi : ∀ cs b, oi.op ≠ .select cs b) (hsj : ∀ cs b, oj.op ≠ .select cs b)
    (hQ : ∀ c a w, Q (.panic c) (a.put oi.dst v) w → Q (.panic c) a w) {K : Act → World → Prop} {a : Act} {w : World}
    (hy : From P B ops oi v a w0) (h : wpOp P ops Q j K (a.put oi.dst v) w) :
    wpOp P ops Q j (fun a' w' => From P B ops oi v a' w0 ∧ K (a'.put oi.dst v) w') a w := by
  obtain ⟨h1, h2, h3⟩ := Oper.apart_spec hap
  have keep : ∀ (a : Act), From P B ops oi v a w0 → ∀ u, From P B ops oi v (a.put oj.dst u) w0 := fun a hy u =>
    hy.of_same (execOp_put oi hsi a oj.dst u h3) (wanted_put oi a oj.dst u h3)
  have keepD : ∀ d, From P B ops oi v { a with defers := d :: a.defers } w0 := fun d => hy.of_same rfl rfl
  unfold wpOp at *
  simp only [hj] at *
  rw [wanted_put oj a oi.dst v h1] at h
  split
  · rename_i hw
    simp only [hw, if_true] at h
    rcases h with h | ⟨hasks, hlets⟩
    case inr => exact .inr ⟨by unfold Oper.asks at *; rw [execOp_put oj hsj a oi.dst v h1] at hasks; exact hasks, hlets⟩
    refine .inl ?_
    unfold Oper.wp at *
    rw [execOp_put oj hsj a oi.dst v h1] at h
    generalize (execOp a.eval oj).run P w = r at *
    cases r with
    | ok n w' =>
      cases n <;> simp only [Oper.upon] at h ⊢
      case value u => exact ⟨keep a hy u, by rw [← Act.put_comm a v u h2]; exact h⟩
      case skip => exact ⟨keep a hy _, by rw [← Act.put_comm a v undef h2]; exact h⟩
      case defer d =>
        refine ⟨keep _ (keepD d) _, ?_⟩
        rw [← Act.put_comm _ v undef h2, ← Act.put_defers]
        exact h
      case enter f args =>
        refine Calls.mono h fun e w'' he => ?_
        cases e with
        | returned u => exact ⟨keep a hy u, by rw [← Act.put_comm a v u h2]; exact he⟩
        | panicked c => exact hQ _ _ _ he
        | outgrown => exact he
      case row row args => exact Rows.mono h fun u w'' he => ⟨keep a hy u, by rw [← Act.put_comm a v u h2]; exact he⟩
    | halt x w' =>
      cases x <;> simp only [Oper.upon] at h ⊢
      case panic u => exact hQ _ _ _ h
  · rename_i hw
    simp only [hw] at h
    exact ⟨keep a hy _, by rw [← Act.put_comm a v undef h2]; exact h⟩
/-- Whatever order is picked from here on; an operation that is not late leaves what was there as it was. -/
def wpB (P : Program) (B : Nat → Prop) (md : Region.Mode) (ops : Array Oper) (Q : Exit → Act → World → Prop) (late : Nat → Bool) : Nat → Array Bool → Act → World → Prop
  | 0, listed, a, w => Region.ready md ops listed = [] ∧ Q .normal a w
  | fuel + 1, listed, a, w =>
    (Region.ready md ops listed = [] → Q .normal a w) ∧
    ∀ i ∈ Region.ready md ops listed, wpOp P ops Q i (fun a' w' => (late i = false → Fr B w w') ∧ wpB P B md ops Q late fuel (listed.setIfInBounds i true) a' w') a w
theorem wpAny_of_B {late : Nat → Bool} : ∀ (fuel : Nat) (listed : Array Bool) (a : Act) (w : World), wpB P B md ops Q late fuel listed a w → wpAny P md ops Q fuel listed a w
  | 0, _, _, _, h => h
  | fuel + 1, _, _, _, h => ⟨h.1, fun i hi => wpOp_mono (fun a' w' h' => wpAny_of_B fuel _ a' w' h'.2) (h.2 i hi)⟩
/-- What is listed is closed: whoever is listed has all listed that it waits for. -/
def Closed (md : Region.Mode) (ops : Array Oper) (listed : Array Bool) : Prop :=
  ∀ j oj, ops[j]? = some oj → listed.getD j false = true → ∀ e ∈ oj.after, Region.binds md e = true → listed.getD e.on false = true
theorem Closed.set {listed : Array Bool} {i : Nat} (hc : Closed md ops listed) (hi : i ∈ Region.ready md ops listed) : Closed md ops (listed.setIfInBounds i true) := by
  obtain ⟨_, oi, hoi, hall⟩ := mem_ready.1 hi
  intro j oj hj hl e he hb
  by_cases hij : i = j
  · subst hij
    have : oj = oi := Option.some.inj (hj.symm.trans hoi)
    subst this
    exact getD_set_true (hall e he hb)
  · rw [getD_set_ne false hij] at hl
    exact getD_set_true (hc j oj hj hl e he hb)
/-- j waits for i, straight or through others. -/
inductive Anc (md : Region.Mode) (ops : Array Oper) (i : Nat) : Nat → Prop
  | one {j : Nat} {oj : Oper} {e : Edge} : ops[j]? = some oj → e ∈ oj.after → Region.binds md e = true → e.on = i → Anc md ops i j
  | more {j : Nat} {oj : Oper} {e : Edge} : ops[j]? = some oj → e ∈ oj.after → Region.binds md e = true → Anc md ops i e.on → Anc md ops i j
theorem Anc.listed {i j : Nat} (h : Anc md ops i j) {listed : Array Bool} (hc : Closed md ops listed) (hj : listed.getD j false = true) : listed.getD i false = true := by
  induction h with
  | one hj' he hb hon => rw [← hon]; exact hc _ _ hj' hj _ he hb
  | more hj' he hb _ ih => exact ih (hc _ _ hj' hj _ he hb)
theorem Anc.ready {i j : Nat} (h : Anc md ops i j) {listed : Array Bool} (hc : Closed md ops listed) (hj : j ∈ Region.ready md ops listed) : listed.getD i false = true := by
  obtain ⟨_, oj, hoj, hall⟩ := mem_ready.1 hj
  cases h with
  | one hj' he hb hon =>
    have : oj = _ := Option.some.inj (hoj.symm.trans hj')
    subst this
    rw [← hon]; exact hall _ he hb
  | more hj' he hb h' =>
    have : oj = _ := Option.some.inj (hoj.symm.trans hj')
    subst this
    exact h'.listed hc (hall _ he hb)
/-- Take operation i first. -/
theorem wpB_first {late : Nat → Bool} {i : Nat} {oi : Oper} {v : Value} (hi : ops[i]? = some oi) (hsel : ∀ (j : Nat) (o : Oper) cs b, ops[j]? = some o → o.op ≠ .select cs b)
    (hQ : ∀ c a w, Q (.panic c) (a.put oi.dst v) w → Q (.panic c) a w)
    (hlate : ∀ j, j < ops.size → late j = true → Anc md ops i j) :
    ∀ (fuel : Nat) (listed : Array Bool) (a : Act) (w : World), Closed md ops listed →
      (∀ j oj, ops[j]? = some oj → j ≠ i → listed.getD j true = false → (∀ e ∈ oj.after, Region.binds md e = true → e.on ≠ i) → oi.apart ops oj = true) →
      i ∈ Region.ready md ops listed → From P B ops oi v a w →
      wpB P B md ops Q late fuel (listed.setIfInBounds i true) (a.put oi.dst v) w → wpB P B md ops Q late (fuel + 1) listed a w := by
  intro fuel
  induction fuel with
  | zero =>
    intro listed a w _ _ hr hy H
    refine ⟨fun h => (by rw [h] at hr; cases hr), fun j hj => ?_⟩
    by_cases hji : j = i
    · subst hji; exact hy.wpOp hi ⟨fun _ => Fr.refl _ _, H⟩
    · have := ready_mono hj hji
      rw [H.1] at this
      cases this
  | succ fuel ih =>
    intro listed a w hcl hfree hr hy H
    refine ⟨fun h => (by rw [h] at hr; cases hr), fun j hj => ?_⟩
    by_cases hji : j = i
    · subst hji; exact hy.wpOp hi ⟨fun _ => Fr.refl _ _, H⟩
    · have h1 := H.2 j (ready_mono hj hji)
      obtain ⟨hjun, oj, hoj, hall⟩ := mem_ready.1 hj
      have hiun := (mem_ready.1 hr).1
      have hiun' : listed.getD i false = false := by
        rcases Nat.lt_or_ge i listed.size with h' | h'
        · simp [h'] at hiun ⊢; exact hiun
        · simp [Array.getElem?_eq_none h']
      have hjl : late j = false := by
        cases hl : late j with
        | false => rfl
        | true =>
          have h2 := (hlate j (Array.getElem?_eq_some_iff.1 hoj).1 hl).ready hcl hj
          rw [hiun'] at h2; cases h2
      have hnot : ∀ e ∈ oj.after, Region.binds md e = true → e.on ≠ i := fun e he hb heq => by
        have h1 := hall e he hb
        rw [heq, hiun'] at h1
        cases h1
      have h2 := wpOp_putF hoj (hfree j oj hoj hji hjun hnot) (fun cs b => hsel i oi cs b hi) (fun cs b => hsel j oj cs b hoj) hQ hy h1
      have hfree' : ∀ k ok, ops[k]? = some ok → k ≠ i → (listed.setIfInBounds j true).getD k true = false →
          (∀ e ∈ ok.after, Region.binds md e = true → e.on ≠ i) → oi.apart ops ok = true := fun k ok hk hki hun hno => by
        refine hfree k ok hk hki ?_ hno
        by_cases hjk : j = k
        · subst hjk; exact hjun
        · rw [getD_set_ne true hjk] at hun; exact hun
      refine wpOp_mono (fun a' w' h3 => ⟨fun _ => h3.2.1 hjl, ih (listed.setIfInBounds j true) a' w' (hcl.set hj) hfree' (ready_mono hr (Ne.symm hji)) (h3.1.later (h3.2.1 hjl)) ?_⟩) h2
      rw [Array.setIfInBounds_comm _ _ hji]
      exact h3.2.2
/-- The ancestors of each operation, as lists; the operations behind one another. -/
def ancs (md : Region.Mode) (ops : List Oper) : List (List Nat) :=
  ops.foldl (init := []) fun acc o => acc ++ [o.after.toList.flatMap fun e => if Region.binds md e then e.on :: (acc.getD e.on []) else []]
theorem ancs_sound {l : List Oper} : ∀ (k : Nat), k ≤ l.length → ∀ j m, ((l.take k).foldl (init := ([] : List (List Nat))) fun acc o => acc ++ [o.after.toList.flatMap fun e => if Region.binds md e then e.on :: (acc.getD e.on []) else []])[j]? = some m → ∀ i ∈ m, Anc md l.toArray i j := by
  intro k
  induction k with
  | zero => intro _ j m h; simp at h
  | succ k ih =>
    intro hk j m h i hi
    have hlt : k < l.length := by omega
    rw [List.take_succ_eq_append_getElem hlt, List.foldl_append] at h
    simp only [List.foldl_cons, List.foldl_nil] at h
    have hlen : ∀ (q : List Oper) (acc : List (List Nat)), (q.foldl (init := acc) fun acc o => acc ++ [o.after.toList.flatMap fun e => if Region.binds md e then e.on :: (acc.getD e.on []) else []]).length = acc.length + q.length := by
      intro q
      induction q with
      | nil => intro acc; simp
      | cons o q ihq => intro acc; simp only [List.foldl_cons, List.length_cons]; rw [ihq]; simp; omega
    have hl := hlen (l.take k) []
    simp only [List.length_nil, List.length_take, Nat.zero_add] at hl
    generalize hacc : (l.take k).foldl (init := ([] : List (List Nat))) (fun acc o => acc ++ [o.after.toList.flatMap fun e => if Region.binds md e then e.on :: (acc.getD e.on []) else []]) = acc at *
    have hl' : acc.length = k := by omega
    by_cases hj : j < k
    · rw [List.getElem?_append_left (by omega)] at h
      exact ih (by omega) j m h i hi
    · have hjk : j = k := by
        have := (List.getElem?_eq_some_iff.1 h).1
        simp at this
        omega
      subst hjk
      rw [List.getElem?_append_right (by omega)] at h
      simp [hl'] at h
      subst h
      rw [List.mem_flatMap] at hi
      obtain ⟨e, he, hie⟩ := hi
      have he' : e ∈ (l[j]).after := by simpa using he
      have hop : l.toArray[j]? = some l[j] := by simp [hlt]
      by_cases hb : Region.binds md e = true
      · rw [if_pos hb] at hie
        rcases List.mem_cons.1 hie with hie | hie
        · exact .one hop he' hb hie.symm
        · refine .more hop he' hb ?_
          cases hg : acc[e.on]? with
          | none => rw [hg] at hie; simp at hie
          | some m' =>
            rw [hg] at hie
            exact ih (by omega) e.on m' hg i (by simpa using hie)
      · rw [if_neg hb] at hie; simp at hie
theorem ancs_anc {l : List Oper} {j : Nat} {m : List Nat} (h : (ancs md l)[j]? = some m) {i : Nat} (hi : i ∈ m) : Anc md l.toArray i j := by
  refine ancs_sound (md := md) l.length (Nat.le_refl _) j m ?_ i hi
  rw [List.take_length]
  exact h
/-- A chosen order: (number, is it taken first?). -/
def schedGo (md : Region.Mode) (ops : Array Oper) (late : List Nat) (anc : List (List Nat)) : List (Nat × Bool) → Array Bool → Bool
  | [], listed => (Region.ready md ops listed).isEmpty
  | (i, true) :: σ, listed => (Region.ready md ops listed).contains i && Region.free md ops listed i && (late.all fun j => (anc.getD j []).contains i) && schedGo md ops late anc σ (listed.setIfInBounds i true)
  | (i, false) :: σ, listed => decide (Region.ready md ops listed = [i]) && schedGo md ops late anc σ (listed.setIfInBounds i true)
def schedOK (md : Region.Mode) (ops : List Oper) (late : List Nat) (σ : List (Nat × Bool)) : Bool :=
  Region.noSelect ops.toArray && decide (σ.length = ops.length) && schedGo md ops.toArray late (ancs md ops) σ (Array.replicate ops.length false)
/-- The run along the chosen order. -/
def runS (P : Program) (B : Nat → Prop) (ops : Array Oper) (Q : Exit → Act → World → Prop) (late : List Nat) : List (Nat × Bool) → Act → World → Prop
  | [], a, w => Q .normal a w
  | (i, true) :: σ, a, w => ∃ o v, ops[i]? = some o ∧ From P B ops o v a w ∧ runS P B ops Q late σ (a.put o.dst v) w
  | (i, false) :: σ, a, w => wpOp P ops Q i (fun a' w' => (late.contains i = false → Fr B w w') ∧ runS P B ops Q late σ a' w') a w
theorem wpB_of_runS {l : List Oper} {late : List Nat} (hsel : Region.noSelect l.toArray = true) (hQ : ∀ c (a : Act) (d : Option Tmp) (v : Value) w, Q (.panic c) (a.put d v) w → Q (.panic c) a w) :
    ∀ (σ : List (Nat × Bool)) (listed : Array Bool) (a : Act) (w : World), Closed md l.toArray listed → schedGo md l.toArray late (ancs md l) σ listed = true →
      runS P B l.toArray Q late σ a w → wpB P B md l.toArray Q (late.contains ·) σ.length listed a w
  | [], listed, a, w, _, hB, h => ⟨by simpa [schedGo] using hB, h⟩
  | (i, true) :: σ, listed, a, w, hc, hB, h => by
    simp only [schedGo, Bool.and_eq_true] at hB
    obtain ⟨⟨⟨hr, hf⟩, hl⟩, hB'⟩ := hB
    obtain ⟨o, v, ho, hy, hrun⟩ := h
    have hr' : i ∈ Region.ready md l.toArray listed := by simpa using hr
    refine wpB_first ho (Region.noSelect_spec hsel) (fun c a w hh => hQ c a _ _ w hh) ?_ σ.length listed a w hc (Region.free_spec ho hf) hr' hy
      (wpB_of_runS hsel hQ σ _ _ _ (hc.set hr') hB' hrun)
    intro j hj hlj
    have h1 := List.all_eq_true.1 hl j (by simpa using hlj)
    rw [List.getD_eq_getElem?_getD] at h1
    cases hg : (ancs md l)[j]? with
    | none => rw [hg] at h1; simp at h1
    | some m => rw [hg] at h1; exact ancs_anc hg (by simpa using h1)
  | (i, false) :: σ, listed, a, w, hc, hB, h => by
    simp only [schedGo, Bool.and_eq_true, decide_eq_true_eq] at hB
    obtain ⟨hr, hB'⟩ := hB
    refine ⟨fun h1 => (by rw [hr] at h1; cases h1), fun k hk => ?_⟩
    have hmem : i ∈ Region.ready md l.toArray listed := by rw [hr]; simp
    rw [hr] at hk
    have hki : k = i := by simpa using hk
    subst hki
    exact wpOp_mono (fun a' w' h' => ⟨fun hl => h'.1 (by simpa using hl), wpB_of_runS hsel hQ σ _ a' w' (hc.set hmem) hB' h'.2⟩) h
/-- **A region that draws its order, along one order.** -/
theorem wp_region_sched {id : Nat} {l : List Oper} (late : List Nat) (σ : List (Nat × Bool)) (hm : P.follows .mixedOrders = true) (hB : schedOK .any l late σ = true)
    (hQ : ∀ c (a : Act) (d : Option Tmp) (v : Value) w, Q (.panic c) (a.put d v) w → Q (.panic c) a w) {a : Act} {w : World}
    (h : runS P B l.toArray Q late σ a { w with drawn := w.drawn + 1 }) : (Code.region id l.toArray true).wp P Q a w := by
  simp only [schedOK, Bool.and_eq_true, decide_eq_true_eq] at hB
  obtain ⟨⟨hsel, hlen⟩, hgo⟩ := hB
  refine wp_region_any hm ?_
  have hc : Closed .any l.toArray (Array.replicate l.length false) := fun j oj _ hl => by
    rcases Nat.lt_or_ge j l.length with h' | h'
    · simp [h'] at hl
    · simp [h'] at hl
  have := wpAny_of_B _ _ _ _ (wpB_of_runS (md := .any) hsel hQ σ _ a _ hc hgo h)
  simpa [hlen] using this
end
end Go.Proofs.Ythalogdopkoidaa.Dr
set_option linter.unusedVariables false
namespace Go.Proofs.Ythalogdopkoidaa.Ab
open Go Go.RowKit
/-- Where an object lies: its block, its first cell, how many elements there is room for. -/
abbrev Loc := Nat × Nat × Nat
/-- An abstract value (its addresses name objects) and a value. Of '.tuple #[]' nothing is known. -/
inductive R (β : List Loc) : Value → Value → Prop
  | junk (v : Value) : R β (.tuple #[]) v
  | void : R β (.chan none) (.tuple #[])
  | bool (b : Bool) : R β (.bool b) (.bool b)
  | int (k : IntKind) (n : Int) : R β (.int k n) (.int k n)
  | string (s : ByteArray) : R β (.string s) (.string s)
  | nilp : R β (.pointer none) (.pointer none)
  | ptr {i o b d r : Nat} (h : β[i]? = some (b, d, r)) : R β (.pointer (some ⟨i, o, none⟩)) (.pointer (some ⟨b, d + o, none⟩))
  | nils : R β (.slice none 0 0) (.slice none 0 0)
  | slice {i o n c b d r : Nat} (h : β[i]? = some (b, d, r)) (hc : n ≤ c) (ho : o = 0 → c = r) : R β (.slice (some ⟨i, o, none⟩) n n) (.slice (some ⟨b, d + o, none⟩) n c)
  | empty (a a' : Addr) : R β (.slice (some a) 0 0) (.slice (some a') 0 0)
  | func (fn : Fn) {cs cs' : Array Value} (hs : cs.size = cs'.size) (h : ∀ (j : Nat) (v v' : Value), cs[j]? = some v → cs'[j]? = some v' → R β v v') : R β (.func fn #[] cs) (.func fn #[] cs')
  | agg {cs cs' : Array Value} (hs : cs.size = cs'.size) (h : ∀ (j : Nat) (v v' : Value), cs[j]? = some v → cs'[j]? = some v' → R β v v') : R β (.agg cs) (.agg cs')
  | tuple {cs cs' : Array Value} (hs : cs.size = cs'.size) (h : ∀ (j : Nat) (v v' : Value), cs[j]? = some v → cs'[j]? = some v' → R β v v') : R β (.tuple cs) (.tuple cs')
/-- More objects. -/
theorem R.ext {β β' : List Loc} (hp : β <+: β') {v v' : Value} (h : R β v v') : R β' v v' := by
  have get : ∀ {i : Nat} {x : Loc}, β[i]? = some x → β'[i]? = some x := fun {i x} hi => by
    obtain ⟨t, rfl⟩ := hp
    rw [List.getElem?_append_left (List.getElem?_eq_some_iff.1 hi).1]
    exact hi
  induction h with
  | junk v => exact .junk v
  | void => exact .void
  | bool b => exact .bool b
  | int k n => exact .int k n
  | string s => exact .string s
  | nilp => exact .nilp
  | ptr h => exact .ptr (get h)
  | nils => exact .nils
  | slice h hc ho => exact .slice (get h) hc ho
  | empty a a' => exact .empty a a'
  | func fn hs _ ih => exact .func fn hs ih
  | agg hs _ ih => exact .agg hs ih
  | tuple hs _ ih => exact .tuple hs ih
/-- One cell, and something is known of it. -/
def flat : Value → Bool
  | .bool _ | .int _ _ | .string _ | .pointer _ | .slice _ _ _ | .func _ _ _ => true
  | _ => false
theorem R.one {β : List Loc} {v v' : Value} (h : R β v v') (hf : flat v = true) : v'.oneCell' = true := by
  cases h <;> simp_all [flat, Value.oneCell']
theorem R.cells {β : List Loc} {v v' : Value} (h : R β v v') (hf : flat v = true) : v'.cells = #[v'] ∧ v.cells = #[v] := by
  cases h <;> simp_all [flat, Value.cells]
/-- Lists, cell by cell. -/
def RL (β : List Loc) (cs cs' : List Value) : Prop := cs.length = cs'.length ∧ ∀ (j : Nat) (v v' : Value), cs[j]? = some v → cs'[j]? = some v' → R β v v'
theorem RL.ext {β β' : List Loc} (hp : β <+: β') {cs cs' : List Value} (h : RL β cs cs') : RL β' cs cs' :=
  ⟨h.1, fun j v v' h1 h2 => (h.2 j v v' h1 h2).ext hp⟩
theorem RL.nil (β : List Loc) : RL β [] [] := ⟨rfl, fun j v v' h => by simp at h⟩
theorem RL.cons {β : List Loc} {v v' : Value} {cs cs' : List Value} (h : R β v v') (hl : RL β cs cs') : RL β (v :: cs) (v' :: cs') := by
  refine ⟨by simp [hl.1], fun j u u' h1 h2 => ?_⟩
  cases j with
  | zero => simp at h1 h2; subst h1; subst h2; exact h
  | succ j => simp at h1 h2; exact hl.2 j u u' h1 h2
theorem RL.append {β : List Loc} {a a' b b' : List Value} (h : RL β a a') (k : RL β b b') : RL β (a ++ b) (a' ++ b') := by
  refine ⟨by simp [h.1, k.1], fun j v v' h1 h2 => ?_⟩
  by_cases hj : j < a.length
  · rw [List.getElem?_append_left hj] at h1
    rw [List.getElem?_append_left (by rw [← h.1]; exact hj)] at h2
    exact h.2 j v v' h1 h2
  · rw [List.getElem?_append_right (by omega)] at h1
    rw [List.getElem?_append_right (by rw [← h.1]; omega), ← h.1] at h2
    exact k.2 _ v v' h1 h2
theorem RL.take {β : List Loc} {a a' : List Value} (h : RL β a a') (n : Nat) : RL β (a.take n) (a'.take n) := by
  refine ⟨by simp [h.1], fun j v v' h1 h2 => ?_⟩
  rw [List.getElem?_take] at h1 h2
  split at h1
  · rename_i hj
    rw [if_pos hj] at h2
    exact h.2 j v v' h1 h2
  · cases h1
theorem RL.drop {β : List Loc} {a a' : List Value} (h : RL β a a') (n : Nat) : RL β (a.drop n) (a'.drop n) := by
  refine ⟨by simp [h.1], fun j v v' h1 h2 => ?_⟩
  rw [List.getElem?_drop] at h1 h2
  exact h.2 _ v v' h1 h2
theorem RL.agg {β : List Loc} {a a' : List Value} (h : RL β a a') : R β (.agg a.toArray) (.agg a'.toArray) :=
  .agg (by simp [h.1]) fun j v v' h1 h2 => h.2 j v v' (by simpa using h1) (by simpa using h2)
theorem RL.tuple {β : List Loc} {a a' : List Value} (h : RL β a a') : R β (.tuple a.toArray) (.tuple a'.toArray) :=
  .tuple (by simp [h.1]) fun j v v' h1 h2 => h.2 j v v' (by simpa using h1) (by simpa using h2)
theorem RL.of_agg {β : List Loc} {a a' : Array Value} (hs : a.size = a'.size) (h : ∀ (j : Nat) (v v' : Value), a[j]? = some v → a'[j]? = some v' → R β v v') : RL β a.toList a'.toList :=
  ⟨by simpa using hs, fun j v v' h1 h2 => h j v v' (by simpa using h1) (by simpa using h2)⟩
/-- Constants that hold no address. -/
def flatConst : Value → Bool
  | .bool _ | .int _ _ | .string _ | .pointer none | .slice none 0 0 => true
  | _ => false
theorem R.const (β : List Loc) {v : Value} (h : flatConst v = true) : R β v v := by
  unfold flatConst at h
  split at h <;> first | exact .bool _ | exact .int _ _ | exact .string _ | exact .nilp | exact .nils | (cases h)
theorem RL.const (β : List Loc) {l : List Value} (h : ∀ v ∈ l, flatConst v = true) : RL β l l :=
  ⟨rfl, fun j v v' h1 h2 => by
    rw [h1] at h2
    obtain rfl := Option.some.inj h2
    exact R.const β (h v (List.mem_of_getElem? h1))⟩
/-- An object: the type of its elements, its cells, whether it may be written. -/
structure AObj where
  ty : TypeId
  cells : List Value
  rw : Bool
/-- The objects; 'none': dead. -/
abbrev AHeap := List (Option AObj)
/-- How a world bears an object. -/
structure Bears (P : Program) (β : List Loc) (w : World) (o : AObj) (b d r : Nat) : Prop where
  lt : b < w.heap.size
  flat : ∀ v ∈ o.cells, flat v = true
  at_ : ∀ (k : Nat) (v : Value), o.cells[k]? = some v → ∃ v', w.cell? ⟨b, d + k, none⟩ = some v' ∧ R β v v'
  own : o.rw = true → d = 0 ∧ r ≤ maxLen ∧ ∃ cur i, w.heap[b]? = some (.cells cur o.ty (0, 0)) ∧ P.info? o.ty = some i ∧ cur.size = r * i.size
/-- A world bears the objects: 'ok': which objects may be turned; 'perm': which blocks. -/
structure Inv (P : Program) (ok : Nat → Prop) (perm : Nat → Prop) (H : AHeap) (β : List Loc) (w : World) : Prop where
  len : β.length = H.length
  obj : ∀ (i : Nat) (o : AObj) (b d r : Nat), H[i]? = some (some o) → β[i]? = some (b, d, r) → Bears P β w o b d r
  sep : ∀ (i j : Nat) (oi oj : AObj) (bi di ri bj dj rj : Nat), H[i]? = some (some oi) → H[j]? = some (some oj) → i ≠ j → oi.rw = true → β[i]? = some (bi, di, ri) → β[j]? = some (bj, dj, rj) → bi ≠ bj
  perm : ∀ (i : Nat) (o : AObj) (b d r : Nat), ok i → H[i]? = some (some o) → o.rw = true → β[i]? = some (b, d, r) → perm b
/-- The blocks of the live objects are as they were. -/
def Keeps (H : AHeap) (β : List Loc) (w w' : World) : Prop := ∀ (i : Nat) (o : AObj) (b d r : Nat), H[i]? = some (some o) → β[i]? = some (b, d, r) → w'.heap[b]? = w.heap[b]?
theorem Keeps.refl (H : AHeap) (β : List Loc) (w : World) : Keeps H β w w := fun _ _ _ _ _ _ _ => rfl
theorem Inv.keeps {P : Program} {ok perm : Nat → Prop} {H : AHeap} {β : List Loc} {w w' : World} (h : Inv P ok perm H β w) (hb : Below w.heap.size w w') : Keeps H β w w' := fun i o b d r h1 h2 => hb.block b (h.obj i o b d r h1 h2).lt
/-- Of the objects only those that may be turned have turned. -/
structure AExt (ok : Nat → Prop) (H H' : AHeap) : Prop where
  size : H.length ≤ H'.length
  obj : ∀ (i : Nat), i < H.length → ¬ ok i → H'[i]? = H[i]?
theorem AExt.refl (ok : Nat → Prop) (H : AHeap) : AExt ok H H := ⟨Nat.le_refl _, fun _ _ _ => rfl⟩
theorem AExt.trans {ok : Nat → Prop} {a b c : AHeap} (h : AExt ok a b) (k : AExt ok b c) : AExt ok a c :=
  ⟨Nat.le_trans h.size k.size, fun i hi hn => (k.obj i (Nat.lt_of_lt_of_le hi h.size) hn).trans (h.obj i hi hn)⟩
theorem AExt.mono {ok ok' : Nat → Prop} {a b : AHeap} (h : AExt ok a b) (hk : ∀ i, i < a.length → ok i → ok' i) : AExt ok' a b :=
  ⟨h.size, fun i hi hn => h.obj i hi fun h' => hn (hk i hi h')⟩
theorem AExt.live {ok : Nat → Prop} {H H' : AHeap} (h : AExt ok H H') {i : Nat} {o : AObj} (hi : H[i]? = some (some o)) (hn : ¬ ok i) : H'[i]? = some (some o) := by
  rw [h.obj i (List.getElem?_eq_some_iff.1 hi).1 hn]; exact hi
/-- The world goes on, the objects' blocks being as they were. -/
theorem Bears.same {P : Program} {β : List Loc} {w w' : World} {o : AObj} {b d r : Nat} (h : Bears P β w o b d r) (hs : w.heap.size ≤ w'.heap.size) (hb : w'.heap[b]? = w.heap[b]?) : Bears P β w' o b d r where
  lt := Nat.lt_of_lt_of_le h.lt hs
  flat := h.flat
  at_ := fun k v hk => by
    obtain ⟨v', h1, h2⟩ := h.at_ k v hk
    exact ⟨v', by rw [World.cell?_of_block (w := w) hb]; exact h1, h2⟩
  own := fun hr => by
    obtain ⟨h0, h1, cur, i, h2, h3, h4⟩ := h.own hr
    exact ⟨h0, h1, cur, i, by rw [hb]; exact h2, h3, h4⟩
theorem Bears.ext {P : Program} {β β' : List Loc} (hp : β <+: β') {w : World} {o : AObj} {b d r : Nat} (h : Bears P β w o b d r) : Bears P β' w o b d r where
  lt := h.lt
  flat := h.flat
  at_ := fun k v hk => by
    obtain ⟨v', h1, h2⟩ := h.at_ k v hk
    exact ⟨v', h1, h2.ext hp⟩
  own := h.own
theorem Inv.below {P : Program} {ok perm : Nat → Prop} {H : AHeap} {β : List Loc} {w w' : World} (h : Inv P ok perm H β w) (hb : Below w.heap.size w w') : Inv P ok perm H β w' where
  len := h.len
  obj := fun i o b d r hi hβ => (h.obj i o b d r hi hβ).same hb.size (hb.block b (h.obj i o b d r hi hβ).lt)
  sep := h.sep
  perm := h.perm
theorem get_ext {α : Type} {l l' : List α} (hp : l <+: l') {i : Nat} {x : α} (h : l[i]? = some x) : l'[i]? = some x := by
  obtain ⟨t, rfl⟩ := hp
  rw [List.getElem?_append_left (List.getElem?_eq_some_iff.1 h).1]
  exact h
theorem Inv.loc {P : Program} {ok perm : Nat → Prop} {H : AHeap} {β : List Loc} {w : World} (h : Inv P ok perm H β w) {i : Nat} {x : Option AObj} (hi : H[i]? = some x) : ∃ b d r, β[i]? = some (b, d, r) := by
  have hlt : i < β.length := by rw [h.len]; exact (List.getElem?_eq_some_iff.1 hi).1
  exact ⟨_, _, _, List.getElem?_eq_getElem hlt⟩
/-- A new object. -/
theorem Inv.new {P : Program} {ok perm : Nat → Prop} {H : AHeap} {β : List Loc} {w : World} (h : Inv P ok perm H β w) (hperm : perm w.heap.size)
    (o : AObj) (cur : Array Value) (r : Nat) (i : TypeInfo) (hr : r ≤ maxLen) (hi : P.info? o.ty = some i) (hc : cur.size = r * i.size)
    (hf : ∀ v ∈ o.cells, flat v = true) (hR : ∀ (k : Nat) (v : Value), o.cells[k]? = some v → ∃ v', cur[k]? = some v' ∧ R β v v') :
    Inv P ok perm (H ++ [some o]) (β ++ [(w.heap.size, 0, r)]) (w.alloc (.cells cur o.ty)) := by
  have hp : β <+: β ++ [(w.heap.size, 0, r)] := List.prefix_append _ _
  have hnew : (w.alloc (.cells cur o.ty)).heap[w.heap.size]? = some (.cells cur o.ty (0, 0)) := heap_alloc_new w _
  have hsz : (w.alloc (.cells cur o.ty)).heap.size = w.heap.size + 1 := by simp
  have hobj : ∀ (i' : Nat) (o' : AObj) (b d r' : Nat), (H ++ [some o])[i']? = some (some o') → (β ++ [(w.heap.size, 0, r)])[i']? = some (b, d, r') →
      (i' < H.length ∧ H[i']? = some (some o') ∧ β[i']? = some (b, d, r')) ∨ (i' = H.length ∧ o' = o ∧ b = w.heap.size ∧ d = 0 ∧ r' = r) := by
    intro i' o' b d r' h1 h2
    by_cases hlt : i' < H.length
    · rw [List.getElem?_append_left hlt] at h1
      rw [List.getElem?_append_left (by rw [h.len]; exact hlt)] at h2
      exact .inl ⟨hlt, h1, h2⟩
    · have hlen : i' = H.length := by
        have := (List.getElem?_eq_some_iff.1 h1).1
        simp at this
        omega
      subst hlen
      rw [List.getElem?_append_right (Nat.le_refl _)] at h1
      rw [← h.len, List.getElem?_append_right (Nat.le_refl _)] at h2
      simp at h1 h2
      exact .inr ⟨rfl, h1.symm, h2.1.symm, h2.2.1.symm, h2.2.2.symm⟩
  refine ⟨by simp [h.len], ?_, ?_, ?_⟩
  · intro i' o' b d r' h1 h2
    rcases hobj i' o' b d r' h1 h2 with ⟨_, h3, h4⟩ | ⟨_, rfl, rfl, rfl, rfl⟩
    · have hb := h.obj i' o' b d r' h3 h4
      exact (hb.ext hp).same (by rw [hsz]; omega) (heap_alloc_old w _ b hb.lt)
    · refine ⟨by rw [hsz]; omega, hf, fun k v hk => ?_, fun _ => ⟨rfl, hr, cur, i, hnew, hi, hc⟩⟩
      obtain ⟨v', hv', hRv⟩ := hR k v hk
      exact ⟨v', by rw [Nat.zero_add, cell_of_row _ _ _ _ _ _ hnew]; exact hv', hRv.ext hp⟩
  · intro i1 j1 oi oj bi di ri bj dj rj h1 h2 hne hrw h3 h4
    rcases hobj i1 oi bi di ri h1 h3 with ⟨_, h5, h6⟩ | ⟨e1, rfl, rfl, _, _⟩
    · rcases hobj j1 oj bj dj rj h2 h4 with ⟨_, h7, h8⟩ | ⟨_, _, rfl, _, _⟩
      · exact h.sep i1 j1 oi oj bi di ri bj dj rj h5 h7 hne hrw h6 h8
      · have := (h.obj i1 oi bi di ri h5 h6).lt; omega
    · rcases hobj j1 oj bj dj rj h2 h4 with ⟨_, h7, h8⟩ | ⟨e2, _, rfl, _, _⟩
      · have := (h.obj j1 oj bj dj rj h7 h8).lt; omega
      · omega
  · intro i' o' b d r' hok h1 hrw h2
    rcases hobj i' o' b d r' h1 h2 with ⟨_, h3, h4⟩ | ⟨_, rfl, rfl, _, _⟩
    · exact h.perm i' o' b d r' hok h3 hrw h4
    · exact hperm
/-- An object's block is rewritten, cells and all; the object has other cells then. -/
theorem Inv.turn {P : Program} {ok perm : Nat → Prop} {H : AHeap} {β : List Loc} {w w' : World} (h : Inv P ok perm H β w) {i b d r : Nat} {o o' : AObj}
    (hi : H[i]? = some (some o)) (hrw : o.rw = true) (hβ : β[i]? = some (b, d, r)) (hs : w.heap.size ≤ w'.heap.size) (hother : ∀ k, k < w.heap.size → k ≠ b → w'.heap[k]? = w.heap[k]?)
    (hrw' : o'.rw = true) (hb : Bears P β w' o' b d r) : Inv P ok perm (H.set i (some o')) β w' := by
  have hlt : i < H.length := (List.getElem?_eq_some_iff.1 hi).1
  have get : ∀ (j : Nat) (x : AObj), (H.set i (some o'))[j]? = some (some x) → (j = i ∧ x = o') ∨ (j ≠ i ∧ H[j]? = some (some x)) := fun j x hj => by
    by_cases e : j = i
    · subst e
      rw [List.getElem?_set_self hlt] at hj
      exact .inl ⟨rfl, by simpa using hj.symm⟩
    · rw [List.getElem?_set_ne (Ne.symm e)] at hj
      exact .inr ⟨e, hj⟩
  refine ⟨by simp [h.len], ?_, ?_, ?_⟩
  · intro j x bj dj rj h1 h2
    rcases get j x h1 with ⟨rfl, rfl⟩ | ⟨hne, h3⟩
    · rw [hβ] at h2
      obtain ⟨rfl, rfl, rfl⟩ : b = bj ∧ d = dj ∧ r = rj := by simpa using h2
      exact hb
    · have hB := h.obj j x bj dj rj h3 h2
      exact hB.same hs (hother bj hB.lt fun e => h.sep i j o x b d r bj dj rj hi h3 (Ne.symm hne) hrw hβ h2 e.symm)
  · intro j k oj ok' bj dj rj bk dk rk h1 h2 hne hr h3 h4
    have base : ∀ (m : Nat) (x : AObj), (H.set i (some o'))[m]? = some (some x) → ∃ y, H[m]? = some (some y) ∧ (x.rw = true → y.rw = true) := fun m x hm => by
      rcases get m x hm with ⟨rfl, rfl⟩ | ⟨_, h5⟩
      · exact ⟨o, hi, fun _ => hrw⟩
      · exact ⟨x, h5, id⟩
    obtain ⟨y, hy, hyr⟩ := base j oj h1
    obtain ⟨z, hz, _⟩ := base k ok' h2
    exact h.sep j k y z bj dj rj bk dk rk hy hz hne (hyr hr) h3 h4
  · intro j x bj dj rj hok h1 hr h2
    rcases get j x h1 with ⟨rfl, rfl⟩ | ⟨_, h3⟩
    · exact h.perm j o bj dj rj hok hi hrw h2
    · exact h.perm j x bj dj rj hok h3 hr h2
/-- An object dies. -/
theorem Inv.kill {P : Program} {ok perm : Nat → Prop} {H : AHeap} {β : List Loc} {w : World} (h : Inv P ok perm H β w) (i : Nat) : Inv P ok perm (H.set i none) β w := by
  have get : ∀ (j : Nat) (x : AObj), (H.set i none)[j]? = some (some x) → j ≠ i ∧ H[j]? = some (some x) := fun j x hj => by
    by_cases e : j = i
    · subst e
      by_cases hlt : j < H.length
      · rw [List.getElem?_set_self hlt] at hj; cases hj
      · rw [List.getElem?_eq_none (by simpa using hlt)] at hj; cases hj
    · rw [List.getElem?_set_ne (Ne.symm e)] at hj
      exact ⟨e, hj⟩
  exact ⟨by simp [h.len], fun j x b d r h1 h2 => h.obj j x b d r (get j x h1).2 h2,
    fun j k oj ok' bj dj rj bk dk rk h1 h2 hne hr h3 h4 => h.sep j k oj ok' bj dj rj bk dk rk (get j oj h1).2 (get k ok' h2).2 hne hr h3 h4,
    fun j x b d r hok h1 hr h2 => h.perm j x b d r hok (get j x h1).2 hr h2⟩
/-- An object dies, and another one takes its block: what 'append' does in place. -/
theorem Inv.heir {P : Program} {ok perm : Nat → Prop} {H : AHeap} {β : List Loc} {w w' : World} (h : Inv P ok perm H β w) {i b d r : Nat} {o o' : AObj}
    (hi : H[i]? = some (some o)) (hrw : o.rw = true) (hok : ok i) (hβ : β[i]? = some (b, d, r)) (hs : w.heap.size ≤ w'.heap.size) (hother : ∀ k, k < w.heap.size → k ≠ b → w'.heap[k]? = w.heap[k]?)
    (hb : Bears P β w' o' b d r) : Inv P ok perm (H.set i none ++ [some o']) (β ++ [(b, d, r)]) w' := by
  have hp : β <+: β ++ [(b, d, r)] := List.prefix_append _ _
  have hlt : i < H.length := (List.getElem?_eq_some_iff.1 hi).1
  have hobj : ∀ (j : Nat) (x : AObj) (bj dj rj : Nat), (H.set i none ++ [some o'])[j]? = some (some x) → (β ++ [(b, d, r)])[j]? = some (bj, dj, rj) →
      (j ≠ i ∧ j < H.length ∧ H[j]? = some (some x) ∧ β[j]? = some (bj, dj, rj)) ∨ (j = H.length ∧ x = o' ∧ bj = b ∧ dj = d ∧ rj = r) := by
    intro j x bj dj rj h1 h2
    by_cases hjl : j < H.length
    · rw [List.getElem?_append_left (by simpa using hjl)] at h1
      rw [List.getElem?_append_left (by rw [h.len]; exact hjl)] at h2
      by_cases e : j = i
      · subst e
        rw [List.getElem?_set_self hjl] at h1; cases h1
      · rw [List.getElem?_set_ne (Ne.symm e)] at h1
        exact .inl ⟨e, hjl, h1, h2⟩
    · have hlen : j = H.length := by
        have := (List.getElem?_eq_some_iff.1 h1).1
        simp at this
        omega
      subst hlen
      rw [List.getElem?_append_right (by simp)] at h1
      rw [← h.len, List.getElem?_append_right (Nat.le_refl _)] at h2
      simp at h1 h2
      exact .inr ⟨rfl, h1.symm, h2.1.symm, h2.2.1.symm, h2.2.2.symm⟩
  refine ⟨by simp [h.len], ?_, ?_, ?_⟩
  · intro j x bj dj rj h1 h2
    rcases hobj j x bj dj rj h1 h2 with ⟨hne, _, h3, h4⟩ | ⟨_, rfl, rfl, rfl, rfl⟩
    · have hB := h.obj j x bj dj rj h3 h4
      exact (hB.ext hp).same hs (hother bj hB.lt fun e => h.sep i j o x b d r bj dj rj hi h3 (Ne.symm hne) hrw hβ h4 e.symm)
    · exact hb.ext hp
  · intro j k oj ok' bj dj rj bk dk rk h1 h2 hne hr h3 h4
    rcases hobj j oj bj dj rj h1 h3 with ⟨hji, _, h5, h6⟩ | ⟨e1, rfl, rfl, rfl, rfl⟩
    · rcases hobj k ok' bk dk rk h2 h4 with ⟨_, _, h7, h8⟩ | ⟨_, rfl, rfl, rfl, rfl⟩
      · exact h.sep j k oj ok' bj dj rj bk dk rk h5 h7 hne hr h6 h8
      · exact fun e => h.sep i j o oj bk dk rk bj dj rj hi h5 (Ne.symm hji) hrw hβ h6 e.symm
    · rcases hobj k ok' bk dk rk h2 h4 with ⟨hki, _, h7, h8⟩ | ⟨e2, _, _, _, _⟩
      · exact h.sep i k o ok' bj dj rj bk dk rk hi h7 (Ne.symm hki) hrw hβ h8
      · omega
  · intro j x bj dj rj hokj h1 hr h2
    rcases hobj j x bj dj rj h1 h2 with ⟨_, _, h3, h4⟩ | ⟨_, rfl, rfl, rfl, rfl⟩
    · exact h.perm j x bj dj rj hokj h3 hr h4
    · exact h.perm i o bj dj rj hok hi hrw hβ
end Go.Proofs.Ythalogdopkoidaa.Ab
set_option linter.unusedVariables false
namespace Go.Proofs.Ythalogdopkoidaa.Ab
open Go Go.RowKit
/-- Types, as far as they matter. -/
inductive TD where
  | bool | int (k : IntKind) | str | ptr | slice (e : Nat) | struct (fs : List (Nat × Nat)) | arr (n e : Nat)
structure TI where
  d : TD
  size : Nat
  bytes : Nat
  zero : List Value
abbrev Tab := Nat → Option TI
def TD.isAgg : TD → Bool
  | .struct _ | .arr _ _ => true
  | _ => false
def TD.fits (P : Program) (t : TypeId) : TD → Prop
  | .bool => P.underlying t = some .bool
  | .int k => P.underlying t = some (.int k)
  | .str => P.underlying t = some .string
  | .ptr => ∃ e, P.underlying t = some (.pointer e)
  | .slice e => P.underlying t = some (.slice e)
  | .struct fs => P.stoodInHeld t = false ∧ P.eqGuardType P.depth t = false ∧ ∃ fields : Array Field, P.underlying t = some (.struct fields) ∧ (∀ f ∈ fields.toList, (f.name == "_") = false) ∧ fields.toList.map (fun f => (f.offset, f.type)) = fs
  | .arr n e => P.eqGuardType P.depth t = false ∧ P.underlying t = some (.array n e)
structure TOK (P : Program) (T : Tab) : Prop where
  fits : ∀ (t : Nat) (i : TI), T t = some i → i.d.fits P t
  info : ∀ (t : Nat) (i : TI), T t = some i → ∃ q z, P.info? t = some q ∧ q.size = i.size ∧ q.bytes = i.bytes ∧ q.zero = some z ∧ z.cells.toList = i.zero
  zlen : ∀ (t : Nat) (i : TI), T t = some i → i.zero.length = i.size
  zflat : ∀ (t : Nat) (i : TI), T t = some i → ∀ v ∈ i.zero, flatConst v = true
  one : ∀ (t : Nat) (i : TI), T t = some i → i.d.isAgg = false → i.size = 1
section
variable {P : Program} {T : Tab} (w : World)
theorem run_isAgg (hT : TOK P T) {t : Nat} {i : TI} (h : T t = some i) : (isAgg t).run P w = .ok i.d.isAgg w := by
  have hf := hT.fits t i h
  unfold isAgg
  cases hd : i.d <;> rw [hd] at hf <;> simp only [TD.fits] at hf
  case bool => simp [run_underlying hf, TD.isAgg]
  case int => simp [run_underlying hf, TD.isAgg]
  case str => simp [run_underlying hf, TD.isAgg]
  case ptr => obtain ⟨e, hf⟩ := hf; simp [run_underlying hf, TD.isAgg]
  case slice => simp [run_underlying hf, TD.isAgg]
  case struct => obtain ⟨_, _, fields, hf, _⟩ := hf; simp [run_underlying hf, TD.isAgg]
  case arr => simp [run_underlying hf.2, TD.isAgg]
theorem run_size (hT : TOK P T) {t : Nat} {i : TI} (h : T t = some i) : (sizeOf t).run P w = .ok i.size w := by
  obtain ⟨q, z, hq, h1, _⟩ := hT.info t i h
  simp [sizeOf, typeInfo, hq, h1]
theorem run_zero (hT : TOK P T) {t : Nat} {i : TI} (h : T t = some i) : ∃ z, (zeroValue t).run P w = .ok z w ∧ z.cells.toList = i.zero := by
  obtain ⟨q, z, hq, _, _, h2, h3⟩ := hT.info t i h
  exact ⟨z, by simp [zeroValue, typeInfo, hq, h2], h3⟩
end
/-- A part of an aggregate. -/
def apart (T : Tab) (t : Nat) (cs : List Value) (off : Nat) : Option Value :=
  match T t with
  | some ti => if ti.d.isAgg then (if off + ti.size ≤ cs.length then some (.agg ((cs.drop off).take ti.size).toArray) else none) else cs[off]?
  | none => none
theorem apart_sound {P : Program} {T : Tab} (hT : TOK P T) {β : List Loc} {t : Nat} {cs : List Value} {cs' : List Value} {off : Nat} {v : Value} (hR : RL β cs cs')
    (h : apart T t cs off = some v) : ∃ v', R β v v' ∧ ∀ w, (part t cs'.toArray off).run P w = .ok v' w := by
  unfold apart at h
  split at h
  · rename_i ti hti
    split at h
    · rename_i ha
      split at h
      · rename_i hl
        obtain rfl := Option.some.inj h
        refine ⟨.agg ((cs'.drop off).take ti.size).toArray, ((hR.drop off).take ti.size).agg, fun w => ?_⟩
        simp [part, run_isAgg w hT hti, ha, run_size w hT hti]
      · cases h
    · rename_i ha
      have hlt : off < cs.length := (List.getElem?_eq_some_iff.1 h).1
      have hlt' : off < cs'.length := by rw [← hR.1]; exact hlt
      refine ⟨cs'[off], hR.2 off _ _ h (List.getElem?_eq_getElem hlt'), fun w => ?_⟩
      have : (isAgg t).run P w = .ok false w := by rw [run_isAgg w hT hti]; simp [ha]
      simp [part, this, hlt']
  · cases h
/-- Loads. -/
def aload (T : Tab) (H : AHeap) (t : Nat) (v : Value) : Option Value :=
  match v with
  | .pointer (some ⟨i, off, none⟩) =>
    match H[i]? with
    | some (some o) => apart T t o.cells off
    | _ => none
  | _ => none
theorem add_loc (b o n : Nat) : (⟨b, o, none⟩ : Addr).add n = ⟨b, o + n, none⟩ := Addr.add_mid b o n
theorem Bears.range {P : Program} {β : List Loc} {w : World} {o : AObj} {b d r : Nat} (h : Bears P β w o b d r) (off n : Nat) (hn : off + n ≤ o.cells.length) :
    ∃ cs', RL β ((o.cells.drop off).take n) cs' ∧ cs'.length = n ∧ ∀ w' : World, w'.heap[b]? = w.heap[b]? → ∀ (j : Nat) (v : Value), cs'[j]? = some v → w'.cell? ⟨b, d + off + j, none⟩ = some v := by
  refine ⟨(List.range n).map fun j => (w.cell? ⟨b, d + off + j, none⟩).getD undef, ⟨by simp; omega, fun j v v' h1 h2 => ?_⟩, by simp, fun w' hb j v hj => ?_⟩
  · rw [List.getElem?_take] at h1
    split at h1
    · rename_i hj
      rw [List.getElem?_drop] at h1
      obtain ⟨u, hu, hR⟩ := h.at_ _ _ h1
      simp [hj] at h2
      rw [show d + (off + j) = d + off + j by omega] at hu
      rw [hu] at h2
      simp at h2
      subst h2
      exact hR
    · cases h1
  · have hjn : j < n := by
      have := (List.getElem?_eq_some_iff.1 hj).1
      simpa using this
    simp [hjn] at hj
    have hlt : off + j < o.cells.length := by omega
    obtain ⟨u, hu, _⟩ := h.at_ (off + j) _ (List.getElem?_eq_getElem hlt)
    rw [show d + (off + j) = d + off + j by omega] at hu
    rw [hu] at hj
    simp at hj
    subst hj
    rw [World.cell?_of_block (w := w) hb]
    exact hu
theorem aload_sound {P : Program} {T : Tab} (hT : TOK P T) {ok perm : Nat → Prop} {H : AHeap} {β : List Loc} {w : World} (hI : Inv P ok perm H β w) {t : Nat} {x x' v : Value} (hx : R β x x')
    (h : aload T H t x = some v) : ∃ v', R β v v' ∧ ∀ w', Keeps H β w w' → (Instr.loadAt t x').run P w' = .ok v' w' := by
  unfold aload at h
  split at h
  · rename_i i off
    split at h
    · rename_i o ho
      cases hx with
      | @ptr _ _ b d r hβ =>
        have hB := hI.obj i o b d r ho hβ
        unfold apart at h
        split at h
        · rename_i ti hti
          split at h
          · rename_i ha
            split at h
            · rename_i hl
              obtain rfl := Option.some.inj h
              obtain ⟨cs', h1, h2, h3⟩ := hB.range off ti.size hl
              refine ⟨.agg cs'.toArray, h1.agg, fun w' hb => ?_⟩
              have hlc := run_loadCells_list (P := P) w' ⟨b, d + off, none⟩ cs' (fun j v hj => by rw [add_loc]; exact h3 w' (hb i o b d r ho hβ) j v hj)
              rw [h2] at hlc
              simp [Instr.loadAt, Instr.sureAddr, loadVar, run_isAgg w' hT hti, ha, run_size w' hT hti, hlc]
            · cases h
          · rename_i ha
            obtain ⟨u, hu, hR⟩ := hB.at_ off _ h
            refine ⟨u, hR, fun w' hb => ?_⟩
            have hag : (isAgg t).run P w' = .ok false w' := by rw [run_isAgg w' hT hti]; simp [ha]
            have hc : w'.cell? ⟨b, d + off, none⟩ = some u := by rw [World.cell?_of_block (w := w) (hb i o b d r ho hβ)]; exact hu
            simp [Instr.loadAt, Instr.sureAddr, loadVar, hag, hc]
        · cases h
    · cases h
  · cases h
/-- Equality of values without addresses; of a slice and nil. -/
def aeq (T : Tab) : Nat → Nat → Value → Value → Option Bool
  | 0, _, _, _ => none
  | d + 1, t, x, y =>
    match T t with
    | none => none
    | some ti =>
      match ti.d, x, y with
      | .bool, .bool a, .bool b => some (a == b)
      | .int _, .int k a, .int k' b => if k = k' then some (decide (a = b)) else none
      | .str, .string a, .string b => some (decide (a = b))
      | .struct fs, .agg xs, .agg ys => fs.foldr (init := some true) fun f r =>
          match apart T f.2 xs.toList f.1, apart T f.2 ys.toList f.1 with
          | some a, some b => match aeq T d f.2 a b, r with
            | some p, some q => some (p && q)
            | _, _ => none
          | _, _ => none
      | .arr n e, .agg xs, .agg ys =>
          match T e with
          | some te => (List.range n).foldr (init := some true) fun i r =>
            match apart T e xs.toList (i * te.size), apart T e ys.toList (i * te.size) with
            | some a, some b => match aeq T d e a b, r with
              | some p, some q => some (p && q)
              | _, _ => none
            | _, _ => none
          | none => none
      | .slice _, .slice none _ _, .slice b _ _ => some b.isNone
      | .slice _, .slice (some _) _ _, .slice none _ _ => some false
      | _, _, _ => none
theorem bytes_eq (a b : ByteArray) : (a == b) = decide (a = b) := by
  by_cases h : a = b
  · subst h; rw [beq_toListBytes]; simp
  · rw [decide_eq_false h]
    rw [beq_toListBytes]
    have : a.toList ≠ b.toList := fun h' => h (by
      rw [ByteArray.toList_eq, ByteArray.toList_eq] at h'
      obtain ⟨⟨x⟩⟩ := a
      obtain ⟨⟨y⟩⟩ := b
      simp at h'
      subst h'
      rfl)
    simpa using this
theorem bytes_eq' (a b : ByteArray) : (a.toList == b.toList) = decide (a = b) := by rw [← beq_toListBytes, bytes_eq]
/-- The fields of a struct. -/
theorem eqFields_sound {P : Program} (d : Nat) (xs ys : Array Value) (w : World) (g : Field → Bool) : ∀ (fs : List Field), (∀ f ∈ fs, (f.name == "_") = false) →
    (∀ f ∈ fs, ∃ a b, (part f.type xs f.offset).run P w = .ok a w ∧ (part f.type ys f.offset).run P w = .ok b w ∧ (Op.equalIn d f.type a b).run P w = .ok (g f) w) →
    (Op.eqFields d xs ys fs).run P w = .ok (fs.all g) w
  | [], _, _ => by simp [Op.eqFields]
  | f :: fs, hn, h => by
    obtain ⟨a, b, ha, hb, he⟩ := h f (by simp)
    have hn' : f.name ≠ "_" := by simpa using hn f (by simp)
    have ih := eqFields_sound d xs ys w g fs (fun f hf => hn f (by simp [hf])) (fun f hf => h f (by simp [hf]))
    rw [Op.eqFields]
    simp only [if_pos hn', Sem.run_bind, ha, hb, he, Result.andThen_ok, List.all_cons]
    cases g f
    · simp
    · simpa using ih
theorem eqArr_sound {P : Program} (w : World) (xs ys : Array Value) (d elem size n : Nat) (g : Nat → Bool)
    (h : ∀ i, i < n → ∃ a b, (part elem xs (i * size)).run P w = .ok a w ∧ (part elem ys (i * size)).run P w = .ok b w ∧ (Op.equalIn d elem a b).run P w = .ok (g i) w) :
    (forIn (m := Sem) [0:n] ((none, ()) : Option Bool × Unit) fun i _ => do
        let a ← part elem xs (i * size)
        let b ← part elem ys (i * size)
        let r ← Op.equalIn d elem a b
        if (!r) = true then pure (ForInStep.done (some false, ())) else pure (ForInStep.yield (none, ()))).run P w = .ok (if (List.range n).all g then (none, ()) else (some false, ())) w := by
  have e : ∀ {α : Type} (f : Nat → α → Sem (ForInStep α)) (s : α), forIn (m := Sem) [0:n] s f = forIn (List.range n) s f := fun f s => by
    rw [Std.Legacy.Range.forIn_eq_forIn_range', List.range_eq_range']
    simp [Std.Legacy.Range.size]
  rw [e]
  have key : ∀ l : List Nat, (∀ i ∈ l, i < n) → (forIn (m := Sem) l ((none, ()) : Option Bool × Unit) fun i _ => do
        let a ← part elem xs (i * size)
        let b ← part elem ys (i * size)
        let r ← Op.equalIn d elem a b
        if (!r) = true then pure (ForInStep.done (some false, ())) else pure (ForInStep.yield (none, ()))).run P w = .ok (if l.all g then (none, ()) else (some false, ())) w := by
    intro l
    induction l with
    | nil => intro _; simp
    | cons i l ih =>
      intro hl
      obtain ⟨a, b, ha, hb, he⟩ := h i (hl i (by simp))
      have ih' := ih (fun j hj => hl j (by simp [hj]))
      simp only [List.forIn_cons, Sem.run_bind, ha, hb, he, Result.andThen_ok, List.all_cons] at ih' ⊢
      by_cases hgi : g i = true
      · simpa [hgi] using ih'
      · simp [hgi]
  exact key (List.range n) (fun i hi => by simpa using hi)
theorem foldr_some {α : Type} (l : List α) (f : α → Option Bool) (b : Bool)
    (h : l.foldr (init := some true) (fun x r => match f x, r with | some p, some q => some (p && q) | _, _ => none) = some b) :
    ∃ g : α → Bool, (∀ x ∈ l, f x = some (g x)) ∧ b = l.all g := by
  refine ⟨fun x => (f x).getD false, ?_⟩
  induction l generalizing b with
  | nil => simp at h; exact ⟨by simp, by simp [h]⟩
  | cons x l ih =>
    simp only [List.foldr_cons] at h
    split at h
    · rename_i p q hp hq
      obtain ⟨h1, h2⟩ := ih q hq
      obtain rfl := Option.some.inj h
      refine ⟨fun y hy => ?_, ?_⟩
      · rcases List.mem_cons.1 hy with rfl | hy
        · simp [hp]
        · exact h1 y hy
      · simp [hp, h2]
    · cases h
theorem aeq_sound {P : Program} {T : Tab} (hT : TOK P T) {β : List Loc} : ∀ (d t : Nat) (x y x' y' : Value) (b : Bool), R β x x' → R β y y' → aeq T d t x y = some b →
    ∀ w, (Op.equalIn d t x' y').run P w = .ok b w := by
  intro d
  induction d with
  | zero => intro t x y x' y' b _ _ h; simp [aeq] at h
  | succ d ih =>
    intro t x y x' y' b hx hy h w
    unfold aeq at h
    split at h
    · cases h
    · rename_i ti hti
      have hf := hT.fits t ti hti
      split at h
      · rename_i hd
        rw [hd] at hf
        obtain rfl := Option.some.inj h
        cases hx; cases hy
        exact run_equalIn_bool w d t _ _ hf
      · rename_i hd
        rw [hd] at hf
        split at h
        · rename_i hk
          subst hk
          obtain rfl := Option.some.inj h
          cases hx; cases hy
          rw [run_equalIn_int w d t _ _ _ _ hf]
          rfl
        · cases h
      · rename_i hd
        rw [hd] at hf
        obtain rfl := Option.some.inj h
        cases hx; cases hy
        rw [run_equalIn_string w d t _ _ hf, bytes_eq']
      · rename_i fs xs ys hd
        rw [hd] at hf
        obtain ⟨hst, _, fields, hu, hn, hfs⟩ := hf
        cases hx with
        | @agg _ xs' hsx hxx =>
        cases hy with
        | @agg _ ys' hsy hyy =>
        have hx2 := RL.of_agg hsx hxx
        have hy2 := RL.of_agg hsy hyy
        have hfo : P.fieldsOf t = fields := by simp [Program.fieldsOf, hu]
        rw [run_equalIn_struct (P := P) w d t xs' ys' (by rw [hfo]; exact hu) hst, hfo]
        have h' : fs.foldr (init := some true) (fun f r => match (match apart T f.2 xs.toList f.1, apart T f.2 ys.toList f.1 with | some a, some b => aeq T d f.2 a b | _, _ => none), r with | some p, some q => some (p && q) | _, _ => none) = some b := by
          rw [← h]
          congr 1
          funext f r
          split <;> split <;> simp_all
        obtain ⟨g, hg, rfl⟩ := foldr_some fs _ b h'
        rw [← hfs, List.all_map]
        refine eqFields_sound d xs' ys' w _ fields.toList hn fun f hf => ?_
        have hg' := hg (f.offset, f.type) (by rw [← hfs]; exact List.mem_map.2 ⟨f, hf, rfl⟩)
        dsimp only at hg'
        split at hg'
        · rename_i a c ha hc
          obtain ⟨a', hRa, hra⟩ := apart_sound hT hx2 ha
          obtain ⟨c', hRc, hrc⟩ := apart_sound hT hy2 hc
          exact ⟨a', c', hra w, hrc w, ih f.type a c a' c' _ hRa hRc hg' w⟩
        · cases hg'
      · rename_i n e xs ys hd
        rw [hd] at hf
        obtain ⟨_, hu⟩ := hf
        cases hx with
        | @agg _ xs' hsx hxx =>
        cases hy with
        | @agg _ ys' hsy hyy =>
        have hx2 := RL.of_agg hsx hxx
        have hy2 := RL.of_agg hsy hyy
        split at h
        · rename_i te hte
          have h' : (List.range n).foldr (init := some true) (fun i r => match (match apart T e xs.toList (i * te.size), apart T e ys.toList (i * te.size) with | some a, some b => aeq T d e a b | _, _ => none), r with | some p, some q => some (p && q) | _, _ => none) = some b := by
            rw [← h]
            congr 1
            funext i r
            split <;> split <;> simp_all
          obtain ⟨g, hg, rfl⟩ := foldr_some (List.range n) _ b h'
          have hs := run_size w hT hte
          simp only [Op.equalIn, Sem.run_bind, run_underlying hu, Result.andThen_ok, hs]
          have harr := eqArr_sound (P := P) w xs' ys' d e te.size n g fun i hi => ?_
          · rw [harr]
            simp only [Result.andThen_ok]
            rcases hall : (List.range n).all g with _ | _ <;> simp
          have hg' := hg i (by simpa using hi)
          split at hg'
          · rename_i a c ha hc
            obtain ⟨a', hRa, hra⟩ := apart_sound hT hx2 ha
            obtain ⟨c', hRc, hrc⟩ := apart_sound hT hy2 hc
            exact ⟨a', c', hra w, hrc w, ih e a c a' c' _ hRa hRc hg' w⟩
          · cases hg'
        · cases h
      · rename_i hd
        rw [hd] at hf
        obtain rfl := Option.some.inj h
        cases hx
        cases hy <;> simp [Op.equalIn, run_underlying hf]
      · rename_i hd
        rw [hd] at hf
        obtain rfl := Option.some.inj h
        cases hy
        cases hx <;> simp [Op.equalIn, run_underlying hf]
      · cases h
end Go.Proofs.Ythalogdopkoidaa.Ab
set_option linter.unusedVariables false
namespace Go.Proofs.Ythalogdopkoidaa.Ab
open Go Go.RowKit
def abinInt (op : BinOp) (k : IntKind) (a : Int) (k' : IntKind) (b : Int) : Option Value :=
  match op with
  | .shl => if 0 ≤ b then some (.int k (k.wrap (a * 2 ^ (min b.toNat k.bits)))) else none
  | .shr => if 0 ≤ b then some (.int k (a.fdiv (2 ^ (min b.toNat k.bits)))) else none
  | .add => if k = k' then some (.int k (k.wrap (a + b))) else none
  | .sub => if k = k' then some (.int k (k.wrap (a - b))) else none
  | .mul => if k = k' then some (.int k (k.wrap (a * b))) else none
  | .quo => if k = k' ∧ b ≠ 0 then some (.int k (k.wrap (a.tdiv b))) else none
  | .rem => if k = k' ∧ b ≠ 0 then some (.int k (a.tmod b)) else none
  | .and => if k = k' then some (.int k (bits .and k a b)) else none
  | .or => if k = k' then some (.int k (bits .or k a b)) else none
  | .xor => if k = k' then some (.int k (bits .xor k a b)) else none
  | .eql => if k = k' then some (.bool (decide (a = b))) else none
  | .neq => if k = k' then some (.bool (!decide (a = b))) else none
  | .lss => if k = k' then some (.bool (decide (a < b))) else none
  | .leq => if k = k' then some (.bool (decide (a ≤ b))) else none
  | .gtr => if k = k' then some (.bool (decide (b < a))) else none
  | .geq => if k = k' then some (.bool (decide (b ≤ a))) else none
  | _ => none
def abinStr (op : BinOp) (a b : ByteArray) : Option Value :=
  match op with
  | .add => if a.size + b.size ≤ 9223372036854775807 then some (.string (a ++ b)) else none
  | .eql => some (.bool (decide (a = b)))
  | .neq => some (.bool (!decide (a = b)))
  | .lss => some (.bool (Op.bytesLess a.toList b.toList))
  | .leq => some (.bool (Op.bytesLess a.toList b.toList || decide (a = b)))
  | .gtr => some (.bool (!(Op.bytesLess a.toList b.toList || decide (a = b))))
  | .geq => some (.bool (!Op.bytesLess a.toList b.toList))
  | _ => none
def abin (T : Tab) (op : BinOp) (t : Nat) (x y : Value) : Option Value :=
  match x, y with
  | .int k a, .int k' b => abinInt op k a k' b
  | .string a, .string b => abinStr op a b
  | x, y =>
    match op with
    | .eql => (aeq T 10000 t x y).map .bool
    | .neq => (aeq T 10000 t x y).map fun b => .bool (!b)
    | _ => none
theorem abinInt_sound {P : Program} {op : BinOp} {k k' : IntKind} {a b : Int} {v : Value} (t : Nat) (h : abinInt op k a k' b = some v) (w : World) :
    (binOp op t (.int k a) (.int k' b)).run P w = .ok v w := by
  unfold abinInt at h
  cases op <;> dsimp only at h <;> first
    | (cases h; done)
    | (split at h
       · rename_i hc
         obtain rfl := Option.some.inj h
         first
           | (have hb : ¬ b < 0 := by omega
              simp [binOp, Op.shift, hb]; done)
           | (obtain ⟨rfl, hb⟩ := hc
              simp [binOp, Op.intDiv, hb]; done)
           | (subst hc
              simp [binOp, Op.intArith, Op.intBits, Op.intCmp, bits]; try rfl)
       · cases h)
theorem abinStr_sound {P : Program} {op : BinOp} {a b : ByteArray} {v : Value} (t : Nat) (h : abinStr op a b = some v) (w : World) :
    (binOp op t (.string a) (.string b)).run P w = .ok v w := by
  unfold abinStr at h
  cases op <;> dsimp only at h
  case add =>
    split at h
    · rename_i hc
      obtain rfl := Option.some.inj h
      have : ¬ (((a.size + b.size : Nat) : Int) > IntKind.i64.max) := by
        simp only [IntKind.max, IntKind.signed, IntKind.bits]; simp; omega
      simp only [binOp, Op.stringOp]
      rw [if_neg this]
      rfl
    · cases h
  all_goals first
    | (cases h; done)
    | (obtain rfl := Option.some.inj h
       simp only [binOp, Op.stringOp, bytes_eq']
       rfl)
theorem abin_sound {P : Program} {T : Tab} (hT : TOK P T) {β : List Loc} {op : BinOp} {t : Nat} {x y x' y' v : Value} (ox oy : Operand) (hx : R β x x') (hy : R β y y')
    (h : abin T op t x y = some v) : R β v v ∧ ∀ w, ((do eqGuard op t ox oy x' y'; binOp op t x' y' : Sem Value)).run P w = .ok v w := by
  unfold abin at h
  split at h
  · rename_i k a k' b
    cases hx; cases hy
    have hv : flatConst v = true := by
      unfold abinInt at h
      cases op <;> dsimp only at h <;> first | (cases h; done) | (split at h <;> first | (cases h; done) | (obtain rfl := Option.some.inj h; rfl))
    refine ⟨R.const β hv, fun w => ?_⟩
    have hg : (eqGuard op t ox oy (.int k a) (.int k' b)).run P w = .ok () w := by
      cases op <;> simp [eqGuard]
    simp [hg, abinInt_sound t h w]
  · rename_i a b
    cases hx; cases hy
    have hv : flatConst v = true := by
      unfold abinStr at h
      cases op <;> dsimp only at h <;> first | (cases h; done) | (obtain rfl := Option.some.inj h; rfl) | (split at h <;> first | (cases h; done) | (obtain rfl := Option.some.inj h; rfl))
    refine ⟨R.const β hv, fun w => ?_⟩
    have hg : (eqGuard op t ox oy (.string a) (.string b)).run P w = .ok () w := by
      cases op <;> simp [eqGuard]
    simp [hg, abinStr_sound t h w]
  · rename_i hni hns
    have key : ∀ b, aeq T 10000 t x y = some b → (op = .eql ∨ op = .neq) → ∀ w, (eqGuard op t ox oy x' y').run P w = .ok () w ∧ (binOp op t x' y').run P w = .ok (.bool (if op = .eql then b else !b)) w := by
      intro b hb hop w
      have he := aeq_sound (P := P) hT 10000 t x y x' y' b hx hy hb
      have he' : ∀ w, (Op.equal t x' y').run P w = .ok b w := he
      refine ⟨?_, ?_⟩
      · have hgt : ∀ cs cs', x' = .agg cs → y' = .agg cs' → P.eqGuardType P.depth t = false := by
          rintro cs cs' rfl rfl
          unfold aeq at hb
          split at hb
          · cases hb
          · rename_i ti hti
            have hf := hT.fits t ti hti
            cases hd : ti.d <;> rw [hd] at hf hb <;> simp only [TD.fits] at hf
            case struct => exact hf.2.1
            case arr => exact hf.1
            all_goals (exfalso; cases hx <;> cases hy <;> simp at hb)
        have hnn : ¬ (x' = .nilIface ∧ y' = .nilIface) := by
          rintro ⟨rfl, rfl⟩
          cases hx
          cases hy
          unfold aeq at hb
          split at hb
          · cases hb
          · rename_i ti hti
            cases hd : ti.d <;> rw [hd] at hb <;> simp at hb
        unfold eqGuard
        rcases hop with rfl | rfl <;> (
          simp only [Bool.not_true, Bool.false_eq_true, if_false]
          split <;> first
            | (exact absurd ⟨rfl, rfl⟩ hnn)
            | (have := hgt _ _ rfl rfl; simp [this])
            | simp)
      · rcases hop with rfl | rfl
        · have : binOp .eql t x' y' = (do pure (.bool (← Op.equal t x' y'))) := by
            unfold binOp
            cases hx <;> cases hy <;> first | rfl | (exact (hni _ _ _ _ rfl rfl).elim) | (exact (hns _ _ rfl rfl).elim) | (exfalso; simp [aeq] at hb; split at hb <;> simp at hb)
          rw [this]
          simp [he' w]
        · have : binOp .neq t x' y' = (do pure (.bool (!(← Op.equal t x' y')))) := by
            unfold binOp
            cases hx <;> cases hy <;> first | rfl | (exact (hni _ _ _ _ rfl rfl).elim) | (exact (hns _ _ rfl rfl).elim) | (exfalso; simp [aeq] at hb; split at hb <;> simp at hb)
          rw [this]
          simp [he' w]
    split at h
    · cases hb : aeq T 10000 t x y with
      | none => rw [hb] at h; cases h
      | some b =>
        rw [hb] at h
        obtain rfl := Option.some.inj h
        refine ⟨.bool _, fun w => ?_⟩
        obtain ⟨h1, h2⟩ := key b hb (.inl rfl) w
        simp [h1, h2]
    · cases hb : aeq T 10000 t x y with
      | none => rw [hb] at h; cases h
      | some b =>
        rw [hb] at h
        obtain rfl := Option.some.inj h
        refine ⟨.bool _, fun w => ?_⟩
        obtain ⟨h1, h2⟩ := key b hb (.inr rfl) w
        simp [h1, h2]
    · cases h
end Go.Proofs.Ythalogdopkoidaa.Ab
set_option linter.unusedVariables false
namespace Go.Proofs.Ythalogdopkoidaa.Ab
open Go Go.RowKit
def byteOf? : Value → Option Int
  | .int .u8 n => some n
  | _ => none
def aconv (T : Tab) (H : AHeap) (s d : Nat) (x : Value) : Option Value :=
  match x with
  | .int _ n =>
    match T s, T d with
    | some si, some di => match si.d, di.d with
      | .int _, .int k => some (.int k (k.wrap n))
      | _, _ => none
    | _, _ => none
  | .slice a n _ =>
    match T s, T d with
    | some si, some di => match si.d, di.d with
      | .slice e, .str => match T e with
        | some ei => match ei.d with
          | .int .u8 =>
            match a with
            | none => if n = 0 then some (.string ByteArray.empty) else none
            | some ⟨i, off, none⟩ =>
              if n = 0 then some (.string ByteArray.empty) else
              match H[i]? with
              | some (some o) => if off + n ≤ o.cells.length then (((o.cells.drop off).take n).mapM byteOf?).map fun xs => .string (strOfNums xs) else none
              | _ => none
            | _ => none
          | _ => none
        | none => none
      | _, _ => none
    | _, _ => none
  | _ => none
theorem mapM_bytes {β : List Loc} : ∀ {cs cs' : List Value} {xs : List Int}, RL β cs cs' → cs.mapM byteOf? = some xs → cs' = xs.map (Value.int .u8)
  | [], cs', xs, hR, h => by
    simp at h; subst h
    have := hR.1
    simpa using List.eq_nil_of_length_eq_zero this.symm
  | c :: cs, cs', xs, hR, h => by
    cases cs' with
    | nil => have := hR.1; simp at this
    | cons c' cs' =>
      rw [List.mapM_cons] at h
      cases hc : byteOf? c with
      | none => rw [hc] at h; simp at h
      | some n =>
        rw [hc] at h
        cases hcs : cs.mapM byteOf? with
        | none => rw [hcs] at h; simp at h
        | some ys =>
          rw [hcs] at h
          simp at h
          subst h
          have h0 := hR.2 0 c c' rfl rfl
          unfold byteOf? at hc
          split at hc
          · obtain rfl := Option.some.inj hc
            cases h0
            have := mapM_bytes (cs := cs) (cs' := cs') (xs := ys) ⟨by have := hR.1; simpa using this, fun j v v' h1 h2 => hR.2 (j + 1) v v' (by simpa using h1) (by simpa using h2)⟩ hcs
            simp [this]
          · cases hc
theorem aconv_sound {P : Program} {T : Tab} (hT : TOK P T) {ok perm : Nat → Prop} {H : AHeap} {β : List Loc} {w : World} (hI : Inv P ok perm H β w) {s d : Nat} {x x' v : Value} (hx : R β x x')
    (h : aconv T H s d x = some v) : R β v v ∧ ∀ w', Keeps H β w w' → (convert s d x').run P w' = .ok v w' := by
  unfold aconv at h
  split at h
  · split at h
    · rename_i si di hsi hdi
      split at h
      · rename_i ks kd hs hd
        obtain rfl := Option.some.inj h
        have hfs := hT.fits s si hsi
        have hfd := hT.fits d di hdi
        rw [hs] at hfs; rw [hd] at hfd
        cases hx
        refine ⟨.int _ _, fun w' _ => ?_⟩
        simp [convert, run_underlying hfs, run_underlying hfd, Conv.intToInt]
      · cases h
    · cases h
  · rename_i aa n cc
    split at h
    · rename_i si di hsi hdi
      split at h
      · rename_i e hs hd
        have hfs := hT.fits s si hsi
        have hfd := hT.fits d di hdi
        rw [hs] at hfs; rw [hd] at hfd
        split at h
        · rename_i ei hei
          have hfe := hT.fits e ei hei
          split at h
          · rename_i he
            rw [he] at hfe
            split at h
            · split at h
              · rename_i hn
                obtain rfl := Option.some.inj h
                cases hx
                exact ⟨.string _, fun w' _ => run_convert_bytes_nil w' s e hfs hfe 0 0 d hfd⟩
              · cases h
            · rename_i i off
              split at h
              · rename_i hn
                subst hn
                obtain rfl := Option.some.inj h
                refine ⟨.string _, fun w' _ => ?_⟩
                have key : ∀ a' c, (convert s d (.slice (some a') 0 c)).run P w' = .ok (.string ByteArray.empty) w' := fun a' c => by
                  simp only [convert, Sem.run_bind, run_underlying hfs, run_underlying hfd, run_underlying hfe, Result.andThen_ok]
                  simp [Conv.bytesToString, loadCells, loadCellsFrom]
                cases hx <;> exact key _ _
              · rename_i hn0
                split at h
                · rename_i o ho
                  split at h
                  · rename_i hl
                    cases hm : ((o.cells.drop off).take _).mapM byteOf? with
                    | none => rw [hm] at h; simp at h
                    | some xs =>
                      rw [hm] at h
                      obtain rfl := Option.some.inj h
                      cases hx with
                      | @slice _ _ _ c b d' r hβ hc hoo =>
                        obtain ⟨cs', h1, h2, h3⟩ := (hI.obj i o b d' r ho hβ).range off n hl
                        have hcs := mapM_bytes h1 hm
                        refine ⟨.string _, fun w' hb => ?_⟩
                        have hlen : xs.length = n := by rw [← h2, hcs]; simp
                        refine run_convert_bytes_arg w' s e hfs hfe b (d' + off) n c xs hlen (fun j hj => ?_) d hfd
                        have hj' : j < xs.length := by omega
                        refine h3 w' (hb i o b d' r ho hβ) j _ ?_
                        rw [hcs]
                        simp [List.getElem?_eq_getElem hj', List.getD_eq_getElem?_getD]
                      | empty => exact absurd rfl hn0
                  · cases h
                · cases h
            · cases h
          · cases h
        · cases h
      · cases h
    · cases h
  · cases h
def afield (T : Tab) (s : Nat) (x : Value) (f : Nat) : Option Value :=
  match x, T s with
  | .pointer (some ⟨i, o, none⟩), some si =>
    match si.d with
    | .struct fs => match fs[f]? with
      | some (off, ft) => match T ft with
        | some fi => if fi.size = 0 then none else some (.pointer (some ⟨i, o + off, none⟩))
        | none => none
      | none => none
    | _ => none
  | _, _ => none
theorem struct_get {fields : Array Field} {fs : List (Nat × Nat)} (h : fields.toList.map (fun f => (f.offset, f.type)) = fs) {j off ft : Nat} (hj : fs[j]? = some (off, ft)) :
    ∃ f, fields[j]? = some f ∧ f.offset = off ∧ f.type = ft := by
  rw [← h, List.getElem?_map] at hj
  cases hf : fields.toList[j]? with
  | none => rw [hf] at hj; cases hj
  | some f =>
    rw [hf] at hj
    simp at hj
    exact ⟨f, by simpa using hf, hj.1, hj.2⟩
theorem afield_sound {P : Program} {T : Tab} (hT : TOK P T) {β : List Loc} {s f : Nat} {x x' v : Value} (hx : R β x x') (h : afield T s x f = some v) :
    ∃ v', R β v v' ∧ ∀ w, (Instr.fieldAt s x' f).run P w = .ok v' w := by
  unfold afield at h
  split at h
  · rename_i i o si hsi
    split at h
    · rename_i fs hd
      have hf := hT.fits s si hsi
      rw [hd] at hf
      obtain ⟨_, _, fields, hu, _, hfs⟩ := hf
      split at h
      · rename_i off ft hft
        split at h
        · rename_i fi hfi
          split at h
          · cases h
          · rename_i hsz
            obtain rfl := Option.some.inj h
            obtain ⟨fl, hfl, rfl, rfl⟩ := struct_get hfs hft
            cases hx with
            | @ptr _ _ b d r hβ =>
              refine ⟨.pointer (some ⟨b, d + (o + fl.offset), none⟩), .ptr hβ, fun w => ?_⟩
              simp [Instr.fieldAt, run_underlying hu, hfl, Instr.sureAddr, fieldPlace, run_size w hT hfi, hsz, add_loc, Nat.add_assoc]
        · cases h
      · cases h
    · cases h
  · cases h
def aindex (T : Tab) (t : Nat) (x ix : Value) : Option Value :=
  match ix with
  | .int _ j =>
    match T t with
    | some ti =>
      match ti.d, x with
      | .slice e, .slice (some ⟨i, o, none⟩) n _ => match T e with
        | some ei => if 0 ≤ j ∧ j < n then some (.pointer (some ⟨i, o + j.toNat * ei.size, none⟩)) else none
        | none => none
      | .arr n e, .pointer (some ⟨i, o, none⟩) => match T e with
        | some ei => if 0 ≤ j ∧ j < n then some (.pointer (some ⟨i, o + j.toNat * ei.size, none⟩)) else none
        | none => none
      | _, _ => none
    | none => none
  | _ => none
theorem aindex_sound {P : Program} {T : Tab} (hT : TOK P T) {β : List Loc} {t : Nat} {x x' ix ix' v : Value} (hx : R β x x') (hi : R β ix ix') (h : aindex T t x ix = some v) :
    ∃ v', R β v v' ∧ ∀ w, (Instr.indexAt t x' ix').run P w = .ok v' w := by
  unfold aindex at h
  split at h
  · rename_i k j
    cases hi
    split at h
    · rename_i ti hti
      have hf := hT.fits t ti hti
      split at h
      · rename_i e i o n c hd
        rw [hd] at hf
        split at h
        · rename_i ei hei
          split at h
          · rename_i hj
            obtain rfl := Option.some.inj h
            cases hx with
            | @slice _ _ _ c b d r hβ hc ho =>
              refine ⟨.pointer (some ⟨b, d + (o + j.toNat * ei.size), none⟩), .ptr hβ, fun w => ?_⟩
              simp [Instr.indexAt, run_underlying hf, asIntOf, hj.1, hj.2, run_size w hT hei, add_loc, Nat.add_assoc]
            | empty => exfalso; omega
          · cases h
        · cases h
      · rename_i n e i o hd
        rw [hd] at hf
        split at h
        · rename_i ei hei
          split at h
          · rename_i hj
            obtain rfl := Option.some.inj h
            cases hx with
            | @ptr _ _ b d r hβ =>
              refine ⟨.pointer (some ⟨b, d + (o + j.toNat * ei.size), none⟩), .ptr hβ, fun w => ?_⟩
              simp [Instr.indexAt, run_underlying hf.2, Instr.sureAddr, asIntOf, hj.1, hj.2, run_size w hT hei, add_loc, Nat.add_assoc]
          · cases h
        · cases h
      · cases h
    · cases h
  · cases h
def aget (T : Tab) (t : Nat) (x ix : Value) : Option Value :=
  match ix with
  | .int _ j =>
    match T t with
    | some ti =>
      match ti.d, x with
      | .str, .string s => if h : 0 ≤ j ∧ j.toNat < s.size then some (.int .u8 ((s[j.toNat]'h.2).toNat : Int)) else none
      | .arr n e, .agg cs => match T e with
        | some ei => if 0 ≤ j ∧ j < n then apart T e cs.toList (j.toNat * ei.size) else none
        | none => none
      | _, _ => none
    | none => none
  | _ => none
theorem aget_sound {P : Program} {T : Tab} (hT : TOK P T) {β : List Loc} {t : Nat} {x x' ix ix' v : Value} (hx : R β x x') (hi : R β ix ix') (h : aget T t x ix = some v) :
    ∃ v', R β v v' ∧ ∀ w, (Instr.index t x' ix').run P w = .ok v' w := by
  unfold aget at h
  split at h
  · rename_i k j
    cases hi
    split at h
    · rename_i ti hti
      have hf := hT.fits t ti hti
      split at h
      · rename_i s hd
        rw [hd] at hf
        split at h
        · rename_i hj
          obtain rfl := Option.some.inj h
          cases hx
          refine ⟨_, .int _ _, fun w => ?_⟩
          have hg : s[j.toNat]? = some s[j.toNat] := by simp [hj.2]
          simp [Instr.index, asIntOf, run_underlying hf, hj.1, hj.2]
        · cases h
      · rename_i n e cs hd
        rw [hd] at hf
        split at h
        · rename_i ei hei
          split at h
          · rename_i hj
            cases hx with
            | @agg _ cs' hs hR =>
              obtain ⟨v', h1, h2⟩ := apart_sound hT (RL.of_agg hs hR) h
              refine ⟨v', h1, fun w => ?_⟩
              have h2' := h2 w
              simp at h2'
              simp [Instr.index, asIntOf, run_underlying hf.2, hj.1, hj.2, run_size w hT hei, h2']
          · cases h
        · cases h
      · cases h
    · cases h
  · cases h
def apick (T : Tab) (t : Nat) (x : Value) (f : Nat) : Option Value :=
  match x, T t with
  | .agg cs, some ti =>
    match ti.d with
    | .struct fs => match fs[f]? with
      | some (off, ft) => apart T ft cs.toList off
      | none => none
    | _ => none
  | _, _ => none
theorem apick_sound {P : Program} {T : Tab} (hT : TOK P T) {β : List Loc} {t f : Nat} {x x' v : Value} (hx : R β x x') (h : apick T t x f = some v) :
    ∃ v', R β v v' ∧ ∀ w, (Instr.field t x' f).run P w = .ok v' w := by
  unfold apick at h
  split at h
  · rename_i cs ti hti
    have hf := hT.fits t ti hti
    split at h
    · rename_i fs hd
      rw [hd] at hf
      obtain ⟨_, _, fields, hu, _, hfs⟩ := hf
      split at h
      · rename_i off ft hft
        obtain ⟨fl, hfl, rfl, rfl⟩ := struct_get hfs hft
        cases hx with
        | @agg _ cs' hs hR =>
          obtain ⟨v', h1, h2⟩ := apart_sound hT (RL.of_agg hs hR) h
          refine ⟨v', h1, fun w => ?_⟩
          have h2' := h2 w
          simp at h2'
          simp [Instr.field, run_underlying hu, hfl, asAgg, h2']
      · cases h
    · cases h
  · cases h
/-- s[lo:hi]. -/
def abound (x : Option Value) (dflt most : Nat) : Option Nat :=
  match x with
  | none => some dflt
  | some (.int _ i) => if 0 ≤ i ∧ i ≤ most then some i.toNat else none
  | _ => none
def aslice (T : Tab) (t : Nat) (x : Value) (lo hi : Option Value) : Option Value :=
  match T t with
  | some ti =>
    match ti.d, x with
    | .str, .string s => match abound hi s.size s.size with
      | some h => match abound lo 0 h with
        | some l => some (.string (s.extract l h))
        | none => none
      | none => none
    | .slice e, .slice a n _ => match T e with
      | some ei => if ei.size = 0 then none else
        match abound hi n n with
        | some h => match abound lo 0 h with
          | some l =>
            match a with
            | none => if n = 0 then some (.slice none 0 0) else none
            | some ⟨i, o, none⟩ => some (.slice (some ⟨i, o + l * ei.size, none⟩) (h - l) (h - l))
            | _ => none
          | none => none
        | none => none
      | none => none
    | _, _ => none
  | none => none
def RO (β : List Loc) : Option Value → Option Value → Prop
  | none, none => True
  | some v, some v' => R β v v'
  | _, _ => False
theorem abound_sound {P : Program} {β : List Loc} {x x' : Option Value} {dflt most most' n : Nat} (hx : RO β x x') (h : abound x dflt most = some n) (hm : most ≤ most') (code : BoundsCode) (w : World) :
    (match x' with | some v => Instr.sliceBound v most' code | none => pure dflt : Sem Nat).run P w = .ok n w ∧ (x = none → n = dflt) ∧ (x ≠ none → n ≤ most) := by
  unfold abound at h
  split at h
  · obtain rfl := Option.some.inj h
    cases x' with
    | none => simp
    | some v => exact hx.elim
  · rename_i k i
    split at h
    · rename_i hi
      obtain rfl := Option.some.inj h
      cases x' with
      | none => exact hx.elim
      | some v =>
        have hx' : R β (.int k i) v := hx
        cases hx'
        refine ⟨?_, by simp, fun _ => by omega⟩
        have : 0 ≤ i ∧ i ≤ (most' : Int) := ⟨hi.1, by omega⟩
        simp [Instr.sliceBound, asIntOf, this.1, this.2]
    · cases h
  · cases h
theorem aslice_sound {P : Program} {T : Tab} (hT : TOK P T) {β : List Loc} {t : Nat} {x x' v : Value} {lo lo' hi hi' : Option Value} (hx : R β x x') (hlo : RO β lo lo') (hhi : RO β hi hi') (h : aslice T t x lo hi = some v) :
    ∃ v', R β v v' ∧ ∀ w, (Instr.sliceAt t x' lo' hi' none).run P w = .ok v' w := by
  unfold aslice at h
  split at h
  · rename_i ti hti
    have hf := hT.fits t ti hti
    split at h
    · rename_i s hd
      rw [hd] at hf
      split at h
      · rename_i hh hhb
        split at h
        · rename_i l hlb
          obtain rfl := Option.some.inj h
          cases hx
          refine ⟨_, .string _, fun w => ?_⟩
          obtain ⟨h1, h1n, h1s⟩ := abound_sound (P := P) hhi hhb (Nat.le_refl _) (.sliceAlen) w
          obtain ⟨h2, _, _⟩ := abound_sound (P := P) hlo hlb (Nat.le_refl _) (.sliceB) w
          have hu : (underlying t).run P w = .ok .string w := run_underlying hf w
          simp only [Instr.sliceAt, Instr.slice, Sem.run_bind, hu, Result.andThen_ok]
          cases hi' with
          | none =>
            cases hi with
            | some _ => exact hhi.elim
            | none =>
              have hhe := h1n rfl
              subst hhe
              cases lo' with
              | none =>
                simp at h2
                simp [Instr.sliceBounds, h2]
              | some lv =>
                simp only at h2
                simp [Instr.sliceBounds, h2]
          | some hv =>
            simp only at h1
            cases lo' with
            | none =>
              simp at h2
              simp [Instr.sliceBounds, h1, h2]
            | some lv =>
              simp only at h2
              simp [Instr.sliceBounds, h1, h2]
        · cases h
      · cases h
    · rename_i e a n c0 hd
      rw [hd] at hf
      split at h
      · rename_i ei hei
        split at h
        · cases h
        · rename_i hsz
          split at h
          · rename_i hh hhb
            split at h
            · rename_i l hlb
              have hlh : l ≤ hh := by
                have := (abound_sound (P := P) hlo hlb (Nat.le_refl _) (.sliceB) default).2
                cases lo with
                | none => have := this.1 rfl; omega
                | some _ => exact this.2 (by simp)
              have hhn : hh ≤ n := by
                have := (abound_sound (P := P) hhi hhb (Nat.le_refl _) (.sliceB) default).2
                cases hi with
                | none => have := this.1 rfl; omega
                | some _ => exact this.2 (by simp)
              have run : ∀ (a' : Option Addr) (c : Nat) (w : World), n ≤ c → (Instr.sliceAt t (.slice a' n c) lo' hi' none).run P w = .ok (.slice (if c = l then a' else a'.map (·.add (l * ei.size))) (hh - l) (c - l)) w := fun a' c w hc => by
                obtain ⟨h1, h1n, h1s⟩ := abound_sound (P := P) hhi hhb hc (.sliceAcap) w
                obtain ⟨h2, _, _⟩ := abound_sound (P := P) hlo hlb (Nat.le_refl _) (.sliceB) w
                have hu : (underlying t).run P w = .ok (.slice e) w := run_underlying hf w
                have hs := run_size w hT hei
                simp only [Instr.sliceAt, Instr.slice, Sem.run_bind, hu, Result.andThen_ok]
                cases hi' with
                | none =>
                  cases hi with
                  | some _ => exact hhi.elim
                  | none =>
                    have hhe := h1n rfl
                    subst hhe
                    cases lo' with
                    | none =>
                      simp at h2
                      simp [Instr.sliceBounds, h2, hs]
                    | some lv =>
                      simp only at h2
                      simp [Instr.sliceBounds, h2, hs]
                | some hv =>
                  simp only at h1
                  cases lo' with
                  | none =>
                    simp at h2
                    simp [Instr.sliceBounds, h1, h2, hs]
                  | some lv =>
                    simp only at h2
                    simp [Instr.sliceBounds, h1, h2, hs]
              split at h
              · split at h
                · rename_i hn
                  obtain rfl := Option.some.inj h
                  cases hx
                  refine ⟨_, .nils, fun w => ?_⟩
                  rw [run none 0 w (Nat.le_refl _)]
                  obtain rfl : l = 0 := by omega
                  obtain rfl : hh = 0 := by omega
                  simp
                · cases h
              · rename_i i o
                obtain rfl := Option.some.inj h
                cases hx with
                | @slice _ _ _ c b d r hβ hc ho =>
                  by_cases hcl : c = l
                  · have e1 : hh - l = 0 := by omega
                    rw [e1]
                    refine ⟨.slice (some ⟨b, d + o, none⟩) 0 0, .empty _ _, fun w => ?_⟩
                    rw [run _ c w hc, if_pos hcl, e1, hcl]
                    simp
                  · refine ⟨.slice (some ⟨b, d + (o + l * ei.size), none⟩) (hh - l) (c - l), .slice hβ (by omega) (fun h0 => ?_), fun w => ?_⟩
                    · have : o = 0 := by omega
                      have hl0 : l * ei.size = 0 := by omega
                      have : l = 0 := by
                        rcases Nat.mul_eq_zero.1 hl0 with h | h
                        · exact h
                        · exact absurd h hsz
                      have := ho (by omega)
                      omega
                    · rw [run _ c w hc, if_neg hcl]
                      simp [add_loc, Nat.add_assoc]
                | empty a a' =>
                  obtain rfl : hh = 0 := by omega
                  obtain rfl : l = 0 := by omega
                  refine ⟨.slice (some a') 0 0, .empty _ _, fun w => ?_⟩
                  rw [run _ 0 w (Nat.le_refl _)]
                  simp
              · cases h
            · cases h
          · cases h
      · cases h
    · cases h
  · cases h
end Go.Proofs.Ythalogdopkoidaa.Ab
set_option linter.unusedVariables false
namespace Go.Proofs.Ythalogdopkoidaa.Ab
open Go Go.RowKit
/-- Something is known of it. -/
def known : Value → Bool
  | .tuple _ => false
  | .chan _ => false
  | _ => true
theorem R.cellsL {β : List Loc} {v v' : Value} (h : R β v v') (hk : known v = true) : RL β v.cells.toList v'.cells.toList := by
  cases h with
  | junk => simp [known] at hk
  | void => simp [known] at hk
  | tuple => simp [known] at hk
  | agg hs h => exact RL.of_agg hs h
  | bool b => exact RL.cons (.bool b) (RL.nil β)
  | int k n => exact RL.cons (.int k n) (RL.nil β)
  | string s => exact RL.cons (.string s) (RL.nil β)
  | nilp => exact RL.cons .nilp (RL.nil β)
  | ptr h => exact RL.cons (.ptr h) (RL.nil β)
  | nils => exact RL.cons .nils (RL.nil β)
  | slice h hc ho => exact RL.cons (.slice h hc ho) (RL.nil β)
  | empty a a' => exact RL.cons (.empty a a') (RL.nil β)
  | func fn hs h => exact RL.cons (.func fn hs h) (RL.nil β)
theorem RL.set {β : List Loc} {a a' : List Value} (h : RL β a a') {v v' : Value} (hv : R β v v') (i : Nat) : RL β (a.set i v) (a'.set i v') := by
  refine ⟨by simp [h.1], fun j u u' h1 h2 => ?_⟩
  by_cases e : i = j
  · subst e
    have hlt : i < a.length := by
      have := (List.getElem?_eq_some_iff.1 h1).1
      simpa using this
    rw [List.getElem?_set_self hlt] at h1
    rw [List.getElem?_set_self (by rw [← h.1]; exact hlt)] at h2
    obtain rfl := Option.some.inj h1
    obtain rfl := Option.some.inj h2
    exact hv
  · rw [List.getElem?_set_ne e] at h1 h2
    exact h.2 j u u' h1 h2
/-- A run of cells, laid over others. -/
def over (cells : List Value) (off : Nat) : List Value → List Value
  | [] => cells
  | v :: l => over (cells.set off v) (off + 1) l
theorem over_length : ∀ (l cells : List Value) (off : Nat), (over cells off l).length = cells.length
  | [], _, _ => rfl
  | v :: l, cells, off => by rw [over, over_length l]; simp
theorem RL.over {β : List Loc} : ∀ {l l' cells cells' : List Value} {off : Nat}, RL β l l' → RL β cells cells' → RL β (over cells off l) (over cells' off l')
  | [], l', cells, cells', off, h, hc => by
    have : l' = [] := List.eq_nil_of_length_eq_zero h.1.symm
    subst this; exact hc
  | v :: l, l', cells, cells', off, h, hc => by
    cases l' with
    | nil => have := h.1; simp at this
    | cons v' l' =>
      have h0 := h.2 0 v v' rfl rfl
      exact RL.over (l := l) ⟨by have := h.1; simpa using this, fun j u u' h1 h2 => h.2 (j + 1) u u' (by simpa using h1) (by simpa using h2)⟩ (hc.set h0 off)
theorem foldl_over (off : Nat) : ∀ (l : List Value) (k : Nat) (cells : Array Value),
    ((l.zipIdx k).foldl (fun (cs : Array Value) (p : Value × Nat) => cs.setIfInBounds (off + p.2) p.1) cells).toList = over cells.toList (off + k) l
  | [], _, _ => rfl
  | v :: l, k, cells => by
    simp only [List.zipIdx_cons, List.foldl_cons, over]
    rw [foldl_over off l (k + 1)]
    simp [Nat.add_assoc]
/-- Parts laid into cells. -/
def afill (place : Nat → Option (Nat × Nat)) (cells : List Value) : List (Nat × Value) → Option (List Value)
  | [] => some cells
  | (i, v) :: rest =>
    match place i with
    | none => none
    | some (off, size) =>
      if known v = true ∧ v.cells.size = size ∧ off + size ≤ cells.length then afill place (over cells off v.cells.toList) rest else none
theorem afill_sound {β : List Loc} {place : Nat → Option (Nat × Nat)} : ∀ {parts parts' : List (Nat × Value)} {cells cells' out : List Value}, RL β cells cells' →
    (parts.length = parts'.length ∧ ∀ (j : Nat) (p p' : Nat × Value), parts[j]? = some p → parts'[j]? = some p' → p.1 = p'.1 ∧ R β p.2 p'.2) →
    afill place cells parts = some out → ∃ out' : List Value, Instr.fill place cells'.toArray parts' = some out'.toArray ∧ RL β out out'
  | [], parts', cells, cells', out, hc, hp, h => by
    have : parts' = [] := List.eq_nil_of_length_eq_zero hp.1.symm
    subst this
    simp [afill] at h
    subst h
    exact ⟨cells', by simp [Instr.fill], hc⟩
  | (i, v) :: parts, parts', cells, cells', out, hc, hp, h => by
    cases parts' with
    | nil => have := hp.1; simp at this
    | cons q parts' =>
      obtain ⟨i', v'⟩ := q
      obtain ⟨hi, hv⟩ := hp.2 0 (i, v) (i', v') rfl rfl
      dsimp only at hi hv
      subst hi
      simp only [afill] at h
      split at h
      · cases h
      · rename_i off size hpl
        split at h
        · rename_i hk
          obtain ⟨hk1, hk2, hk3⟩ := hk
          have hcl := hv.cellsL hk1
          have hsz : v'.cells.size = size := by rw [← hk2]; have := hcl.1; simpa using this.symm
          have hrec := afill_sound (parts := parts) (parts' := parts') (RL.over (off := off) hcl hc)
            ⟨by have := hp.1; simpa using this, fun j p p' h1 h2 => hp.2 (j + 1) p p' (by simpa using h1) (by simpa using h2)⟩ h
          obtain ⟨out', h1, h2⟩ := hrec
          refine ⟨out', ?_, h2⟩
          have hb : off + v'.cells.size ≤ cells'.length := by rw [hsz, ← hc.1]; exact hk3
          have hcond : (decide (v'.cells.size ≠ size) || decide (off + v'.cells.size > cells'.toArray.size)) = false := by
            simp [hsz] at hb ⊢
            omega
          simp only [Instr.fill, hpl]
          rw [if_neg (by rw [hcond]; simp)]
          rw [← h1]
          congr 1
          have := foldl_over off v'.cells.toList 0 cells'.toArray
          rw [Nat.add_zero] at this
          apply Array.ext'
          rw [← Array.foldl_toList]
          simpa using this
        · cases h
def placeOf (T : Tab) (fs : List (Nat × Nat)) (i : Nat) : Option (Nat × Nat) :=
  match fs[i]? with
  | some (off, ft) => (T ft).map fun fi => (off, fi.size)
  | none => none
def abuild (T : Tab) (t : Nat) (parts : List (Nat × Value)) : Option Value :=
  match T t with
  | some ti =>
    match ti.d with
    | .struct fs => if fs.all (fun p => (T p.2).isSome) then (afill (placeOf T fs) ti.zero parts).map fun cs => .agg cs.toArray else none
    | .arr n e => match T e with
      | some ei => (afill (fun i => some (i * ei.size, ei.size)) ti.zero parts).map fun cs => .agg cs.toArray
      | none => none
    | _ => none
  | none => none
theorem run_places {P : Program} {T : Tab} (hT : TOK P T) (w : World) : ∀ (fields : List Field), (∀ f ∈ fields, (T f.type).isSome = true) →
    (fields.mapM (m := Sem) fun f => do pure (f.offset, ← sizeOf f.type)).run P w = .ok (fields.map fun f => (f.offset, ((T f.type).map (·.size)).getD 0)) w
  | [], _ => by simp
  | f :: fields, h => by
    obtain ⟨fi, hfi⟩ := Option.isSome_iff_exists.1 (h f (by simp))
    have ih := run_places hT w fields (fun g hg => h g (by simp [hg]))
    simp only [bind_pure_comp] at ih
    simp [List.mapM_cons, run_size w hT hfi, ih, hfi]
theorem abuild_sound {P : Program} {T : Tab} (hT : TOK P T) {β : List Loc} {t : Nat} {parts parts' : List (Nat × Value)} {v : Value}
    (hp : parts.length = parts'.length ∧ ∀ (j : Nat) (p p' : Nat × Value), parts[j]? = some p → parts'[j]? = some p' → p.1 = p'.1 ∧ R β p.2 p'.2) (h : abuild T t parts = some v) :
    ∃ v', R β v v' ∧ ∀ w, (Instr.build t parts'.toArray).run P w = .ok v' w := by
  unfold abuild at h
  split at h
  · rename_i ti hti
    have hf := hT.fits t ti hti
    have hz : RL β ti.zero ti.zero := RL.const β (hT.zflat t ti hti)
    split at h
    · rename_i fs hd
      rw [hd] at hf
      obtain ⟨_, _, fields, hu, _, hfs⟩ := hf
      split at h
      · rename_i hall
        cases ha : afill (placeOf T fs) ti.zero parts with
        | none => rw [ha] at h; simp at h
        | some out =>
          rw [ha] at h
          obtain rfl := Option.some.inj h
          obtain ⟨out', h1, h2⟩ := afill_sound hz hp ha
          refine ⟨.agg out'.toArray, h2.agg, fun w => ?_⟩
          obtain ⟨z, hzr, hzc⟩ := run_zero w hT hti
          have hfall : ∀ f ∈ fields.toList, (T f.type).isSome = true := fun f hf => by
            have := List.all_eq_true.1 hall (f.offset, f.type) (by rw [← hfs]; exact List.mem_map.2 ⟨f, hf, rfl⟩)
            simpa using this
          have hpl := run_places hT w fields.toList hfall
          have hplace : (fun i : Nat => ((fields.toList.map fun f => (f.offset, ((T f.type).map (·.size)).getD 0)).toArray)[i]?) = placeOf T fs := by
            funext i
            simp only [placeOf, ← hfs, List.getElem?_toArray, List.getElem?_map]
            cases hfi : fields.toList[i]? with
            | none => simp
            | some f =>
              obtain ⟨fi, hfi'⟩ := Option.isSome_iff_exists.1 (hfall f (List.mem_of_getElem? hfi))
              simp [hfi']
          have hzc' : z.cells = ti.zero.toArray := by apply Array.ext'; simp [hzc]
          have hm : (fields.mapM (m := Sem) fun f => do pure (f.offset, ← sizeOf f.type)).run P w = .ok (fields.toList.map fun f => (f.offset, ((T f.type).map (·.size)).getD 0)).toArray w := by
            rw [Array.mapM_eq_mapM_toList]
            simp only [Sem.run_map, hpl, Result.andThen_ok]
          simp only [Instr.build, Sem.run_bind, hzr, Result.andThen_ok, run_underlying hu]
          rw [hm]
          simp only [Result.andThen_ok]
          rw [hplace, hzc', h1]
          simp
      · cases h
    · rename_i n e hd
      rw [hd] at hf
      split at h
      · rename_i ei hei
        cases ha : afill (fun i => some (i * ei.size, ei.size)) ti.zero parts with
        | none => rw [ha] at h; simp at h
        | some out =>
          rw [ha] at h
          obtain rfl := Option.some.inj h
          obtain ⟨out', h1, h2⟩ := afill_sound hz hp ha
          refine ⟨.agg out'.toArray, h2.agg, fun w => ?_⟩
          obtain ⟨z, hzr, hzc⟩ := run_zero w hT hti
          have hzc' : z.cells = ti.zero.toArray := by apply Array.ext'; simp [hzc]
          simp [Instr.build, hzr, run_underlying hf.2, run_size w hT hei, hzc', h1]
      · cases h
    · cases h
  · cases h
def alen (T : Tab) (t : Nat) (x : Value) : Option Value :=
  match T t with
  | some ti =>
    match ti.d, x with
    | .str, .string s => some (.int .i64 s.size)
    | .slice _, .slice _ n _ => some (.int .i64 n)
    | .arr n _, _ => some (.int .i64 n)
    | _, _ => none
  | none => none
theorem alen_sound {P : Program} {T : Tab} (hT : TOK P T) {β : List Loc} {t : Nat} {x x' v : Value} (hx : R β x x') (h : alen T t x = some v) :
    R β v v ∧ ∀ (ty : Nat) w, (Builtin.len_ #[t] ty #[x']).run P w = .ok v w := by
  unfold alen at h
  split at h
  · rename_i ti hti
    have hf := hT.fits t ti hti
    split at h
    · rename_i s hd
      rw [hd] at hf
      obtain rfl := Option.some.inj h
      cases hx
      exact ⟨.int _ _, fun ty w => by simp [Builtin.len_, run_underlying hf, goInt]⟩
    · rename_i e a n c hd
      rw [hd] at hf
      obtain rfl := Option.some.inj h
      refine ⟨.int _ _, fun ty w => ?_⟩
      cases hx <;> simp [Builtin.len_, run_underlying hf, goInt]
    · rename_i n e hd
      rw [hd] at hf
      obtain rfl := Option.some.inj h
      exact ⟨.int _ _, fun ty w => by simp [Builtin.len_, run_underlying hf.2, goInt]⟩
    · cases h
  · cases h
def qcall (T : Tab) (ev : Operand → Value) (c : Call) : Option Value :=
  match c.callee with
  | .builtin .len => match c.args.toList, c.argTypes.toList with
    | [x], [t] => alen T t (ev x)
    | _, _ => none
  | .builtin .min => match c.args.toList with
    | [x, y] => match ev x, ev y with
      | .int k a, .int _ b => some (.int k (if b < a then b else a))
      | _, _ => none
    | _ => none
  | .builtin .max => match c.args.toList with
    | [x, y] => match ev x, ev y with
      | .int k a, .int _ b => some (.int k (if b > a then b else a))
      | _, _ => none
    | _ => none
  | _ => none
def qop (T : Tab) (H : AHeap) (ev : Operand → Value) : Op → Option Value
  | .move x | .assign x => some (ev x)
  | .pick c a b => match ev c with
    | .bool t => some (if t then ev a else ev b)
    | _ => none
  | .nilCheck x => match ev x with
    | .pointer (some ⟨i, o, none⟩) => some (.pointer (some ⟨i, o, none⟩))
    | .func (.func f) a b => some (.func (.func f) a b)
    | _ => none
  | .binOp op t x y _ => abin T op t (ev x) (ev y)
  | .unOp .not _ x => match ev x with
    | .bool b => some (.bool (!b))
    | _ => none
  | .convert s d x => aconv T H s d (ev x)
  | .fieldAddr s x f => afield T s (ev x) f
  | .field t x f => apick T t (ev x) f
  | .indexAddr t x i => aindex T t (ev x) (ev i)
  | .index t x i => aget T t (ev x) (ev i)
  | .extract x i => match ev x with
    | .tuple vs => vs[i]?
    | _ => none
  | .slice t x lo hi none => aslice T t (ev x) (lo.map ev) (hi.map ev)
  | .load t x => aload T H t (ev x)
  | .build t parts => abuild T t (parts.toList.map fun p => (p.1, ev p.2))
  | .makeFunc fn first captured => if first.size = 0 then some (.func fn #[] (captured.map ev)) else none
  | .call c => qcall T ev c
  | _ => none
theorem qop_sound {P : Program} {T : Tab} (hT : TOK P T) {ok perm : Nat → Prop} {H : AHeap} {β : List Loc} {w : World} (hI : Inv P ok perm H β w) {ev ρ : Operand → Value} (hρ : ∀ x, R β (ev x) (ρ x))
    {o : Oper} {v : Value} (h : qop T H ev o.op = some v) : ∃ v', R β v v' ∧ ∀ w', Keeps H β w w' → (execOp ρ o).run P w' = .ok (.value v') w' := by
  have hRO : ∀ x : Option Operand, RO β (x.map ev) (x.map ρ) := fun x => by cases x <;> simp [RO, hρ]
  generalize hop : o.op = op at h
  cases op <;> simp only [qop] at h
  case move x => obtain rfl := Option.some.inj h; exact ⟨_, hρ x, fun w' _ => by simp [execOp, hop]⟩
  case assign x => obtain rfl := Option.some.inj h; exact ⟨_, hρ x, fun w' _ => by simp [execOp, hop]⟩
  case pick c a b =>
    have hc := hρ c
    generalize hec : ev c = vc at h hc
    cases vc <;> simp only at h <;> first | (cases h; done) | skip
    rename_i t
    generalize hrc : ρ c = vc' at hc
    cases hc
    obtain rfl := Option.some.inj h
    refine ⟨if t then ρ a else ρ b, by cases t; exact hρ b; exact hρ a, fun w' _ => ?_⟩
    simp [execOp, hop, hrc, asBool]
  case nilCheck x =>
    have hc := hρ x
    generalize hec : ev x = vc at h hc
    split at h
    · rename_i i off
      obtain rfl := Option.some.inj h
      generalize hrc : ρ x = vc' at hc
      cases hc with
      | ptr hβ => exact ⟨_, .ptr hβ, fun w' _ => by simp [execOp, hop, hrc]⟩
    · rename_i f a b
      obtain rfl := Option.some.inj h
      generalize hrc : ρ x = vc' at hc
      cases hc with
      | func fn hs hR => exact ⟨_, .func _ hs hR, fun w' _ => by simp [execOp, hop, hrc]⟩
    · cases h
  case binOp op t x y yt =>
    obtain ⟨h1, h2⟩ := abin_sound (P := P) hT x y (hρ x) (hρ y) h
    refine ⟨v, h1, fun w' _ => ?_⟩
    simp only [execOp, hop]
    rw [Sem.run_bind, h2 w']
    rfl
  case unOp op t x =>
    cases op <;> simp only at h <;> first | (cases h; done) | skip
    have hc := hρ x
    generalize hec : ev x = vc at h hc
    cases vc <;> simp only at h <;> first | (cases h; done) | skip
    generalize hrc : ρ x = vc' at hc
    cases hc
    obtain rfl := Option.some.inj h
    exact ⟨_, .bool _, fun w' _ => by simp [execOp, hop, hrc, Op.unary]⟩
  case convert s d x =>
    obtain ⟨h1, h2⟩ := aconv_sound hT hI (hρ x) h
    exact ⟨v, h1, fun w' hb => by simp [execOp, hop, h2 w' hb]⟩
  case fieldAddr s x f =>
    obtain ⟨v', h1, h2⟩ := afield_sound (P := P) hT (hρ x) h
    exact ⟨v', h1, fun w' _ => by simp [execOp, hop, h2 w']⟩
  case field t x f =>
    obtain ⟨v', h1, h2⟩ := apick_sound (P := P) hT (hρ x) h
    exact ⟨v', h1, fun w' _ => by simp [execOp, hop, h2 w']⟩
  case indexAddr t x i =>
    obtain ⟨v', h1, h2⟩ := aindex_sound (P := P) hT (hρ x) (hρ i) h
    exact ⟨v', h1, fun w' _ => by simp [execOp, hop, h2 w']⟩
  case index t x i =>
    obtain ⟨v', h1, h2⟩ := aget_sound (P := P) hT (hρ x) (hρ i) h
    exact ⟨v', h1, fun w' _ => by simp [execOp, hop, h2 w']⟩
  case extract x i =>
    have hc := hρ x
    generalize hec : ev x = vc at h hc
    cases vc <;> simp only at h <;> first | (cases h; done) | skip
    rename_i vs
    generalize hrc : ρ x = vc' at hc
    cases hc with
    | junk => simp at h
    | @tuple _ vs' hs hR =>
      have hlt : i < vs.size := (Array.getElem?_eq_some_iff.1 h).1
      have hlt' : i < vs'.size := by rw [← hs]; exact hlt
      refine ⟨vs'[i], hR i _ _ h (Array.getElem?_eq_getElem hlt'), fun w' _ => ?_⟩
      simp [execOp, hop, hrc, Instr.extract, hlt']
  case slice t x lo hi mx =>
    cases mx with
    | some _ => simp at h
    | none =>
      obtain ⟨v', h1, h2⟩ := aslice_sound (P := P) hT (hρ x) (hRO lo) (hRO hi) h
      exact ⟨v', h1, fun w' _ => by simp [execOp, hop, h2 w']⟩
  case load t x =>
    obtain ⟨v', h1, h2⟩ := aload_sound hT hI (hρ x) h
    exact ⟨v', h1, fun w' hb => by simp [execOp, hop, h2 w' hb]⟩
  case build t parts =>
    obtain ⟨v', h1, h2⟩ := abuild_sound (P := P) (β := β) hT (parts' := parts.toList.map fun p => (p.1, ρ p.2)) ⟨by simp, fun j p p' hp1 hp2 => by
      rw [List.getElem?_map] at hp1 hp2
      cases hj : parts.toList[j]? with
      | none => rw [hj] at hp1; cases hp1
      | some q =>
        rw [hj] at hp1 hp2
        obtain rfl := Option.some.inj hp1
        obtain rfl := Option.some.inj hp2
        exact ⟨rfl, hρ _⟩⟩ h
    refine ⟨v', h1, fun w' _ => ?_⟩
    have h2' := h2 w'
    have e : (parts.toList.map fun p => (p.1, ρ p.2)).toArray = parts.map fun (p : Nat × Operand) => (p.1, ρ p.2) := by
      apply Array.ext'; simp
    rw [e] at h2'
    simp [execOp, hop, h2']
  case makeFunc fn first captured =>
    split at h
    · rename_i hs
      obtain rfl := Option.some.inj h
      have hfe : first = #[] := Array.eq_empty_of_size_eq_zero hs
      subst hfe
      refine ⟨.func fn #[] (captured.map ρ), .func fn (by simp) (fun j u u' h1 h2 => ?_), fun w' _ => by simp [execOp, hop, Instr.makeFunc]⟩
      rw [Array.getElem?_map] at h1 h2
      cases hj : captured[j]? with
      | none => rw [hj] at h1; cases h1
      | some q =>
        rw [hj] at h1 h2
        obtain rfl := Option.some.inj h1
        obtain rfl := Option.some.inj h2
        exact hρ q
    · cases h
  case call c =>
    unfold qcall at h
    split at h
    · rename_i hcal
      split at h
      · rename_i x t ha hat
        obtain ⟨h1, h2⟩ := alen_sound (P := P) hT (hρ x) h
        have ha' : c.args = #[x] := by apply Array.ext'; simp [ha]
        have hat' : c.argTypes = #[t] := by apply Array.ext'; simp [hat]
        exact ⟨v, h1, fun w' _ => by simp [execOp, hop, resolve, invoke, builtin, hcal, ha', hat', h2]⟩
      · cases h
    · rename_i hcal
      split at h
      · rename_i x y ha
        have ha' : c.args = #[x, y] := by apply Array.ext'; simp [ha]
        split at h
        · rename_i k a k' b hx hy
          obtain rfl := Option.some.inj h
          have rx := hρ x; have ry := hρ y
          rw [hx] at rx; rw [hy] at ry
          generalize hrx : ρ x = x' at rx
          generalize hry : ρ y = y' at ry
          cases rx; cases ry
          exact ⟨_, .int _ _, fun w' _ => by simp [execOp, hop, resolve, invoke, builtin, hcal, ha', hrx, hry, Builtin.min_, Builtin.min2]⟩
        · cases h
      · cases h
    · rename_i hcal
      split at h
      · rename_i x y ha
        have ha' : c.args = #[x, y] := by apply Array.ext'; simp [ha]
        split at h
        · rename_i k a k' b hx hy
          obtain rfl := Option.some.inj h
          have rx := hρ x; have ry := hρ y
          rw [hx] at rx; rw [hy] at ry
          generalize hrx : ρ x = x' at rx
          generalize hry : ρ y = y' at ry
          cases rx; cases ry
          exact ⟨_, .int _ _, fun w' _ => by simp [execOp, hop, resolve, invoke, builtin, hcal, ha', hrx, hry, Builtin.max_, Builtin.max2]⟩
        · cases h
      · cases h
    · cases h
  all_goals (cases h)
end Go.Proofs.Ythalogdopkoidaa.Ab
set_option linter.unusedVariables false
namespace Go.Proofs.Ythalogdopkoidaa.Ab
open Go Go.RowKit
/-- n zero elements. -/
def zeros (n : Nat) (z : List Value) : List Value := (List.range (n * z.length)).map fun j => z.getD (j % z.length) undef
theorem zeros_length (n : Nat) (z : List Value) : (zeros n z).length = n * z.length := by simp [zeros]
theorem zeros_const {n : Nat} {z : List Value} (h : ∀ v ∈ z, flatConst v = true) : ∀ v ∈ zeros n z, flatConst v = true := by
  intro v hv
  simp only [zeros, List.mem_map, List.mem_range] at hv
  obtain ⟨j, hj, rfl⟩ := hv
  have hz : 0 < z.length := by
    rcases Nat.eq_zero_or_pos z.length with h0 | h0
    · rw [h0] at hj; omega
    · exact h0
  have hm : j % z.length < z.length := Nat.mod_lt _ hz
  rw [List.getD_eq_getElem?_getD, List.getElem?_eq_getElem hm]
  exact h _ (List.getElem_mem hm)
theorem zeros_made {n : Nat} {z : Array Value} (zl : List Value) (hz : z.toList = zl) : ((Array.range (n * z.size)).map (fun j => z[j % z.size]!)).toList = zeros n zl := by
  subst hz
  apply List.ext_getElem?
  intro j
  simp only [zeros, Array.toList_map, Array.toList_range, List.getElem?_map, Array.length_toList]
  by_cases hj : j < n * z.size
  · have hs : 0 < z.size := by
      rcases Nat.eq_zero_or_pos z.size with h0 | h0
      · rw [h0] at hj; omega
      · exact h0
    have hm : j % z.size < z.size := Nat.mod_lt _ hs
    rw [List.getElem?_range hj]
    simp only [Option.map_some]
    rw [getElem!_pos z _ hm, List.getD_eq_getElem?_getD]
    simp [hm]
  · rw [List.getElem?_eq_none (by simp; omega)]
    simp
theorem flatConst_flat {v : Value} (h : flatConst v = true) : flat v = true := by
  unfold flatConst at h
  split at h <;> first | rfl | cases h
/-- What an effect leaves: the value, the objects, which object was turned. -/
abbrev Eff := Value × AHeap × Option Nat
def eappend (T : Tab) (H : AHeap) (e : Nat) (s x : Value) : Option Eff :=
  match T e with
  | none => none
  | some ei =>
    if ei.size = 0 ∨ ei.bytes = 0 then none else
    match x with
    | .slice xa m _ =>
      -- what is appended
      match (match xa with
        | none => if m = 0 then some [] else none
        | some ⟨j, off, none⟩ =>
          if m = 0 then some [] else
          match H[j]? with
          | some (some o) => if off + m * ei.size ≤ o.cells.length then some ((o.cells.drop off).take (m * ei.size)) else none
          | _ => none
        | _ => none) with
      | none => none
      | some news =>
        match s with
        | .slice none 0 0 =>
          if m = 0 then some (.slice none 0 0, H, none)
          else if m * ei.bytes ≤ 140737488355328 then some (.slice (some ⟨H.length, 0, none⟩) m m, H ++ [some ⟨e, news, true⟩], none) else none
        | .slice (some ⟨i, 0, none⟩) n _ =>
          if m = 0 then some (.slice (some ⟨i, 0, none⟩) n n, H, none) else
          match H[i]? with
          | some (some o) =>
            if o.rw = true ∧ o.ty = e ∧ n * ei.size ≤ o.cells.length ∧ (n + m) * ei.bytes ≤ 140737488355328 then
              some (.slice (some ⟨H.length, 0, none⟩) (n + m) (n + m), H.set i none ++ [some ⟨e, o.cells.take (n * ei.size) ++ news, true⟩], some i)
            else none
          | _ => none
        | _ => none
    | _ => none
def estore (T : Tab) (H : AHeap) (t : Nat) (p x : Value) : Option Eff :=
  match p with
  | .pointer (some ⟨i, off, none⟩) =>
    match T t, H[i]? with
    | some ti, some (some o) =>
      if o.rw = true ∧ known x = true ∧ x.cells.size = ti.size ∧ off + ti.size ≤ o.cells.length ∧ x.cells.toList.all flat = true then
        some (undef, H.set i (some { o with cells := over o.cells off x.cells.toList }), some i)
      else none
    | _, _ => none
  | _ => none
def ebox (T : Tab) (H : AHeap) (t : Nat) (x : Value) : Option Eff :=
  match T t with
  | some ti =>
    if known x = true ∧ x.cells.size = ti.size ∧ x.cells.toList.all flat = true then
      some (.pointer (some ⟨H.length, 0, none⟩), H ++ [some ⟨t, x.cells.toList, true⟩], none)
    else none
  | none => none
def ealloc (T : Tab) (H : AHeap) (t : Nat) : Option Eff :=
  match T t with
  | some ti => some (.pointer (some ⟨H.length, 0, none⟩), H ++ [some ⟨t, ti.zero, true⟩], none)
  | none => none
def elit (T : Tab) (H : AHeap) (t len : Nat) (parts : List (Nat × Value)) : Option Eff :=
  match T t with
  | some ti =>
    match ti.d with
    | .slice e => match T e with
      | some ei =>
        if ei.size = 0 ∨ len * ei.size > 16777216 then none else
        match afill (fun i => some (i * ei.size, ei.size)) (zeros len ei.zero) parts with
        | some out => if out.all flat = true then some (.slice (some ⟨H.length, 0, none⟩) len len, H ++ [some ⟨e, out, true⟩], none) else none
        | none => none
      | none => none
    | _ => none
  | none => none
def emake (T : Tab) (H : AHeap) (t : Nat) (l c : Value) : Option Eff :=
  match T t, l, c with
  | some ti, .int _ l, .int _ c =>
    match ti.d with
    | .slice e => match T e with
      | some ei =>
        if ei.size ≠ 0 ∧ ei.bytes ≠ 0 ∧ 0 ≤ l ∧ l ≤ c ∧ c.toNat * ei.bytes ≤ 140737488355328 then
          some (.slice (some ⟨H.length, 0, none⟩) l.toNat l.toNat, H ++ [some ⟨e, zeros c.toNat ei.zero, true⟩], none)
        else none
      | none => none
    | _ => none
  | _, _, _ => none
def eop (T : Tab) (H : AHeap) (ev : Operand → Value) : Op → Option Eff
  | .alloc t => ealloc T H t
  | .box t x => ebox T H t (ev x)
  | .buildSlice t len parts => elit T H t len (parts.toList.map fun p => (p.1, ev p.2))
  | .makeSlice t l c => emake T H t (ev l) (ev c)
  | .store t p x => estore T H t (ev p) (ev x)
  | .call c =>
    match c.callee, c.args.toList, c.argTypes.toList with
    | .builtin .append, [s, x], [t, t'] =>
      match T t with
      | some ti => match ti.d with
        | .slice e => if t' = t then eappend T H e (ev s) (ev x) else none
        | _ => none
      | none => none
    | _, _, _ => none
  | _ => none
/-- What is said of an effect: the run, and what the world bears behind it. -/
def Does (P : Program) (ok perm : Nat → Prop) (H : AHeap) (β : List Loc) (w : World) (run : Result Next) (r : Eff) : Prop :=
  ∃ nx w' β' v', run = .ok nx w' ∧ (nx = .value v' ∨ (nx = .skip ∧ v' = undef)) ∧ R β' r.1 v' ∧ β <+: β' ∧ Inv P ok perm r.2.1 β' w' ∧
    Fr (fun b => ∃ i d q, r.2.2 = some i ∧ β[i]? = some (b, d, q)) w w' ∧ AExt (fun i => r.2.2 = some i) H r.2.1
theorem does_new {P : Program} {T : Tab} (hT : TOK P T) {ok perm : Nat → Prop} {H : AHeap} {β : List Loc} {w : World} (hI : Inv P ok perm H β w) (hperm : perm w.heap.size)
    {t : Nat} {ti : TI} (hti : T t = some ti) {cells : List Value} {cur : List Value} (hR : RL β cells cur) {r : Nat} (hr : r ≤ maxLen) (hlen : cells.length = r * ti.size) (hf : cells.all flat = true)
    {v : Value} {v' : Value} (hv : ∀ β' : List Loc, β'[H.length]? = some (w.heap.size, 0, r) → R β' v v') {run : Result Next} (hrun : run = .ok (.value v') (w.alloc (.cells cur.toArray t))) :
    Does P ok perm H β w run (v, H ++ [some ⟨t, cells, true⟩], none) := by
  obtain ⟨q, z, hq, hs, _⟩ := hT.info t ti hti
  refine ⟨_, _, β ++ [(w.heap.size, 0, r)], v', hrun, .inl rfl, hv _ (by rw [← hI.len]; simp), List.prefix_append _ _, ?_, ?_, ?_⟩
  · refine hI.new hperm ⟨t, cells, true⟩ cur.toArray r q hr hq (by simp [← hR.1, hlen, hs]) (fun u hu => List.all_eq_true.1 hf u hu) (fun k u hk => ?_)
    have hlt : k < cells.length := (List.getElem?_eq_some_iff.1 hk).1
    have hlt' : k < cur.length := by rw [← hR.1]; exact hlt
    exact ⟨cur[k], by simp [hlt'], hR.2 k _ _ hk (List.getElem?_eq_getElem hlt')⟩
  · exact Fr.below (below_alloc' w _) _
  · exact ⟨by simp, fun i hi _ => by rw [List.getElem?_append_left hi]⟩
where
  below_alloc' (w : World) (o : Obj) : Below w.heap.size w (w.alloc o) := (Below.refl _ _).alloc (Nat.le_refl _) o
end Go.Proofs.Ythalogdopkoidaa.Ab
set_option linter.unusedVariables false
namespace Go.Proofs.Ythalogdopkoidaa.Ab
open Go Go.RowKit
section
variable {P : Program} {T : Tab} {ok perm : Nat → Prop} {H : AHeap} {β : List Loc} {w : World}
theorem new_ptr {β' : List Loc} {i b r : Nat} (h : β'[i]? = some (b, 0, r)) : R β' (.pointer (some ⟨i, 0, none⟩)) (.pointer (some ⟨b, 0, none⟩)) := by
  have := R.ptr (β := β') (o := 0) h
  simpa using this
theorem new_slice {β' : List Loc} {i b r n : Nat} (h : β'[i]? = some (b, 0, r)) (hn : n ≤ r) : R β' (.slice (some ⟨i, 0, none⟩) n n) (.slice (some ⟨b, 0, none⟩) n r) := by
  have := R.slice (β := β') (o := 0) (n := n) (c := r) h hn (fun _ => rfl)
  simpa using this
theorem ealloc_sound (hT : TOK P T) (hI : Inv P ok perm H β w) (hperm : perm w.heap.size) {t : Nat} {r : Eff} (h : ealloc T H t = some r) :
    Does P ok perm H β w ((do pure (Next.value (← Instr.alloc t true (.tuple #[]))) : Sem Next).run P w) r := by
  unfold ealloc at h
  split at h
  · rename_i ti hti
    obtain rfl := Option.some.inj h
    obtain ⟨z, hz, hzc⟩ := run_zero w hT hti
    have hc := hT.zflat t ti hti
    refine does_new hT hI hperm hti (cur := ti.zero) (r := 1) (RL.const β hc) (by simp [maxLen]) (by rw [hT.zlen t ti hti]; omega) (List.all_eq_true.2 fun v hv => flatConst_flat (hc v hv))
      (v' := .pointer (some ⟨w.heap.size, 0, none⟩)) (fun β' hβ => new_ptr hβ) ?_
    have hzc' : z.cells = ti.zero.toArray := by apply Array.ext'; simp [hzc]
    simp [Instr.alloc, hz, newVar, newRow, newObj, hzc', Sem.run]
  · cases h
theorem ebox_sound (hT : TOK P T) (hI : Inv P ok perm H β w) (hperm : perm w.heap.size) {t : Nat} {x x' : Value} (hx : R β x x') {r : Eff} (h : ebox T H t x = some r) :
    Does P ok perm H β w ((do pure (Next.value (← Instr.box t x')) : Sem Next).run P w) r := by
  unfold ebox at h
  split at h
  · rename_i ti hti
    split at h
    · rename_i hc
      obtain ⟨hk, hs, hf⟩ := hc
      obtain rfl := Option.some.inj h
      refine does_new hT hI hperm hti (cur := x'.cells.toList) (r := 1) (hx.cellsL hk) (by simp [maxLen]) (by simp [hs]) hf
        (v' := .pointer (some ⟨w.heap.size, 0, none⟩)) (fun β' hβ => new_ptr hβ) ?_
      simp [Instr.box, newVar, newRow, newObj, Sem.run]
    · cases h
  · cases h
theorem elit_sound (hT : TOK P T) (hI : Inv P ok perm H β w) (hperm : perm w.heap.size) {t len : Nat} {parts parts' : List (Nat × Value)}
    (hp : parts.length = parts'.length ∧ ∀ (j : Nat) (p p' : Nat × Value), parts[j]? = some p → parts'[j]? = some p' → p.1 = p'.1 ∧ R β p.2 p'.2) {r : Eff} (h : elit T H t len parts = some r) :
    Does P ok perm H β w ((do pure (Next.value (← Instr.buildSlice t len parts'.toArray)) : Sem Next).run P w) r := by
  unfold elit at h
  split at h
  · rename_i ti hti
    have hft := hT.fits t ti hti
    split at h
    · rename_i e hd
      rw [hd] at hft
      split at h
      · rename_i ei hei
        split at h
        · cases h
        · rename_i hsz
          split at h
          · rename_i out hfill
            split at h
            · rename_i hf
              obtain rfl := Option.some.inj h
              have hz := hT.zflat e ei hei
              have hzl := hT.zlen e ei hei
              obtain ⟨out', h1, h2⟩ := afill_sound (RL.const β (zeros_const (n := len) hz)) hp hfill
              have hol : out.length = len * ei.size := by
                have key : ∀ (ps : List (Nat × Value)) (cs out : List Value), afill (fun i => some (i * ei.size, ei.size)) cs ps = some out → out.length = cs.length := by
                  intro ps
                  induction ps with
                  | nil => intro cs out h; simp [afill] at h; rw [h]
                  | cons p ps ih =>
                    intro cs out h
                    obtain ⟨i, v⟩ := p
                    simp only [afill] at h
                    split at h
                    · rw [ih _ _ h, over_length]
                    · cases h
                rw [key _ _ _ hfill, zeros_length, hzl]
              refine does_new hT hI hperm hei (cur := out') (r := len) h2 (by simp [maxLen]; have : 0 < ei.size := by omega
                                                                              have := Nat.le_mul_of_pos_right len this; omega) hol hf
                (v' := .slice (some ⟨w.heap.size, 0, none⟩) len len) (fun β' hβ => new_slice hβ (Nat.le_refl _)) ?_
              obtain ⟨z, hzr, hzc⟩ := run_zero w hT hei
              have hb : ¬ (len * ei.size > 2 ^ 24) := by omega
              have hzs : z.cells.size = ei.size := by rw [← hzl, ← hzc]; simp
              have hmade := zeros_made (n := len) (z := z.cells) ei.zero hzc
              rw [hzs] at hmade
              have hmade' : (Array.range (len * ei.size)).map (fun j => z.cells[j % z.cells.size]!) = (zeros len ei.zero).toArray := by
                apply Array.ext'
                rw [hzs]
                simpa using hmade
              simp only [Instr.buildSlice, Sem.run_bind, run_underlying hft, Result.andThen_ok, run_size w hT hei]
              rw [if_neg hb]
              by_cases h0 : len * ei.size = 0
              · have hl0 : len = 0 := by
                  rcases Nat.mul_eq_zero.1 h0 with h | h
                  · exact h
                  · omega
                subst hl0
                have he : zeros 0 ei.zero = [] := by simp [zeros]
                rw [he] at h1
                have h1' : Instr.fill (fun i => some (i * ei.size, ei.size)) #[] parts' = some out'.toArray := h1
                have hr : Array.range 0 = #[] := rfl
                simp [hr, h1', newRow, newObj, Sem.run]
              · rw [if_neg h0]
                simp only [Sem.run_bind, hzr, Result.andThen_ok, Sem.run_pure, hmade', h1]
                simp [newRow, newObj, Sem.run]
            · cases h
          · cases h
      · cases h
    · cases h
  · cases h
theorem wrap_in {n : Int} (h0 : 0 ≤ n) (h1 : n ≤ 9223372036854775807) : IntKind.i64.wrap n = n := by
  unfold IntKind.wrap
  simp [IntKind.bits, IntKind.signed]
  omega
theorem emake_sound (hT : TOK P T) (hI : Inv P ok perm H β w) (hperm : perm w.heap.size) {t : Nat} {l l' c c' : Value} (hl : R β l l') (hc : R β c c') {r : Eff} (h : emake T H t l c = some r) :
    Does P ok perm H β w ((do pure (Next.value (← Instr.makeSlice t l' c')) : Sem Next).run P w) r := by
  unfold emake at h
  split at h
  · rename_i ti kl ln kc cn hti
    cases hl; cases hc
    have hft := hT.fits t ti hti
    split at h
    · rename_i e hd
      rw [hd] at hft
      split at h
      · rename_i ei hei
        split at h
        · rename_i hcond
          obtain ⟨hs0, hb0, hl0, hlc, hbytes⟩ := hcond
          obtain rfl := Option.some.inj h
          have hz := hT.zflat e ei hei
          have hzl := hT.zlen e ei hei
          have hzz := zeros_const (n := cn.toNat) hz
          have hcs : cn.toNat ≤ 140737488355328 := Nat.le_trans (Nat.le_mul_of_pos_right _ (by omega)) hbytes
          refine does_new hT hI hperm hei (cur := zeros cn.toNat ei.zero) (r := cn.toNat) (RL.const β hzz) (by simp [maxLen]; omega) (by rw [zeros_length, hzl]) (List.all_eq_true.2 fun v hv => flatConst_flat (hzz v hv))
            (v' := .slice (some ⟨w.heap.size, 0, none⟩) ln.toNat cn.toNat) (fun β' hβ => new_slice hβ (by omega)) ?_
          obtain ⟨q, z, hq, hq1, hq2, hq3, hq4⟩ := hT.info e ei hei
          have hzs : z.cells.size = ei.size := by rw [← hzl, ← hq4]; simp
          have hmade := zeros_made (n := cn.toNat) (z := z.cells) ei.zero hq4
          have hwl : IntKind.i64.wrap ln = ln := wrap_in hl0 (by omega)
          have hwc : IntKind.i64.wrap cn = cn := wrap_in (by omega) (by omega)
          have hbi : ((q.bytes : Int) * cn) = ((cn.toNat * ei.bytes : Nat) : Int) := by
            rw [hq2, Int.natCast_mul, Int.toNat_of_nonneg (by omega), Int.mul_comm]
          have hbl : (ei.bytes : Int) * cn ≤ 281474976710656 := by rw [← hq2, hbi]; omega
          have hguard : (decide (cn < 0) || decide ((ei.bytes : Int) * cn > 2 ^ 48) || decide (ln < 0) || decide (ln > cn)) = false := by
            have h1 : ¬ cn < 0 := by omega
            have h2 : ¬ ((ei.bytes : Int) * cn > 2 ^ 48) := by omega
            have h3 : ¬ ln < 0 := by omega
            have h4 : ¬ ln > cn := by omega
            simp [h1, h3, h4, hbl]
          simp only [Instr.makeSlice, Sem.run_bind, run_underlying hft, Result.andThen_ok, asInt, asIntOf, Sem.run_pure, typeInfo, run_program, hq, hq2, hwl, hwc]
          rw [if_neg (by rw [hguard]; simp)]
          simp only [Sem.run_bind, run_askRoom, run_size w hT hei, Result.andThen_ok]
          by_cases h0 : cn.toNat * ei.size = 0
          · have hc0 : cn.toNat = 0 := by
              rcases Nat.mul_eq_zero.1 h0 with h | h
              · exact h
              · omega
            rw [hc0]
            have he : zeros 0 ei.zero = [] := by simp [zeros]
            rw [he]
            have hr : Array.range 0 = #[] := rfl
            simp [hr, newRow, newObj, Sem.run]
          · rw [if_neg h0]
            have hzr : (zeroValue e).run P w = .ok z w := by simp [zeroValue, typeInfo, hq, hq3]
            have hmade' : (Array.range (cn.toNat * ei.size)).map (fun j => z.cells[j % z.cells.size]!) = (zeros cn.toNat ei.zero).toArray := by
              apply Array.ext'
              rw [hzs] at hmade ⊢
              simpa using hmade
            simp only [Sem.run_bind, hzr, Result.andThen_ok, Sem.run_pure, hmade']
            simp [newRow, newObj, Sem.run]
        · cases h
      · cases h
    · cases h
  · cases h
theorem over_eq : ∀ (l cells : List Value) (off : Nat), off + l.length ≤ cells.length → over cells off l = cells.take off ++ l ++ cells.drop (off + l.length)
  | [], cells, off, _ => by simp [over]
  | v :: l, cells, off, h => by
    have hl : off < cells.length := by simp at h; omega
    rw [over, over_eq l (cells.set off v) (off + 1) (by simp at h ⊢; omega)]
    rw [List.take_set, List.drop_set]
    have h1 : ¬ (off < off + 1 + l.length) = False := by simp; omega
    rw [if_pos (by omega)]
    have h2 : (cells.take (off + 1)).set off v = cells.take off ++ [v] := by
      rw [List.take_succ_eq_append_getElem hl, List.set_append_right _ _ (by simp; omega)]
      simp [Nat.min_eq_left (Nat.le_of_lt hl)]
    rw [h2]
    simp [Nat.add_assoc, Nat.add_comm 1]
theorem over_get {cells l : List Value} {off : Nat} (h : off + l.length ≤ cells.length) (k : Nat) :
    (over cells off l)[k]? = if off ≤ k ∧ k < off + l.length then l[k - off]? else cells[k]? := by
  rw [over_eq l cells off h, List.append_assoc]
  by_cases h1 : k < off
  · rw [List.getElem?_append_left (by simp; omega), List.getElem?_take, if_pos h1, if_neg (by omega)]
  · rw [List.getElem?_append_right (by simp; omega)]
    have hm : (cells.take off).length = off := by simp; omega
    rw [hm]
    by_cases h2 : k - off < l.length
    · rw [List.getElem?_append_left h2, if_pos (by omega)]
    · rw [List.getElem?_append_right (by omega), List.getElem?_drop, if_neg (by omega)]
      congr 1
      omega
theorem estore_sound (hT : TOK P T) (hI : Inv P ok perm H β w) {t : Nat} {p p' x x' : Value} (hp : R β p p') (hx : R β x x') {r : Eff} (h : estore T H t p x = some r) :
    Does P ok perm H β w ((do Instr.storeAt t p' x'; pure Next.skip : Sem Next).run P w) r := by
  unfold estore at h
  split at h
  · rename_i i off
    split at h
    · rename_i ti o hti ho
      split at h
      · rename_i hc
        obtain ⟨hrw, hk, hs, hl, hf⟩ := hc
        obtain rfl := Option.some.inj h
        cases hp with
        | @ptr _ _ b d q hβ =>
          have hB := hI.obj i o b d q ho hβ
          obtain ⟨rfl, hq, cur, inf, hcur, hinf, hsz⟩ := hB.own hrw
          have hcl := hx.cellsL hk
          have hxl : x'.cells.toList.length = ti.size := by rw [← hcl.1]; simpa using hs
          have hone : ∀ v ∈ x'.cells.toList, v.oneCell' = true := by
            intro v hv
            obtain ⟨j, hj, rfl⟩ := List.mem_iff_getElem.1 hv
            have hj' : j < x.cells.toList.length := by rw [hcl.1]; exact hj
            exact (hcl.2 j _ _ (List.getElem?_eq_getElem hj') (List.getElem?_eq_getElem hj)).one (List.all_eq_true.1 hf _ (List.getElem_mem hj'))
          -- the cells are there
          have hcs : ∀ k, k < o.cells.length → k < cur.size := fun k hk => by
            obtain ⟨v', hv', _⟩ := hB.at_ k _ (List.getElem?_eq_getElem hk)
            rw [Nat.zero_add, cell_of_row w b k cur o.ty (0, 0) hcur] at hv'
            exact (Array.getElem?_eq_some_iff.1 hv').1
          have hfit : off + x'.cells.toList.length ≤ cur.size := by
            rw [hxl]
            rcases Nat.eq_zero_or_pos (off + ti.size) with h0 | h0
            · omega
            · have := hcs (off + ti.size - 1) (by omega); omega
          have hst := run_storeCells_at P b off o.ty x'.cells.toList 0 cur w hcur (by simpa using hfit) hone
          simp only [Nat.add_zero] at hst
          have hne : ¬ (x'.cells.size ≠ ti.size) := by simpa using hxl
          refine ⟨.skip, w.setRow b (cur.toList.take off ++ x'.cells.toList ++ cur.toList.drop (off + x'.cells.toList.length)).toArray, β, undef, ?_, .inr ⟨rfl, rfl⟩, .junk _, List.prefix_rfl, ?_, ?_, ?_⟩
          · simp only [Instr.storeAt, Instr.sureAddr, storeVar, Sem.run_bind, Sem.run_pure, Result.andThen_ok, run_size w hT hti, Nat.zero_add]
            rw [if_neg hne]
            simp only [hst, Result.andThen_ok]
          · have hrow := setRow_heap w b cur (cur.toList.take off ++ x'.cells.toList ++ cur.toList.drop (off + x'.cells.toList.length)).toArray o.ty (0, 0) hcur
            refine hI.turn ho hrw hβ (by simp) (fun k _ hk => setRow_other w b k _ hk) hrw ⟨by simpa using hB.lt, fun v hv => ?_, fun k v hk' => ?_, fun _ => ⟨rfl, hq, _, inf, hrow, hinf, ?_⟩⟩
            · obtain ⟨j, hj, rfl⟩ := List.mem_iff_getElem.1 hv
              have hg := over_get (cells := o.cells) (l := x.cells.toList) (off := off) (by rw [hcl.1, hxl]; exact hl) j
              rw [List.getElem?_eq_getElem hj] at hg
              split at hg
              · exact List.all_eq_true.1 hf _ (List.mem_of_getElem? hg.symm)
              · exact hB.flat _ (List.mem_of_getElem? hg.symm)
            · dsimp only at hk'
              rw [over_get (by rw [hcl.1, hxl]; exact hl)] at hk'
              rw [Nat.zero_add, cell_of_row _ b k _ o.ty (0, 0) hrow]
              have hg := over_get (cells := cur.toList) (l := x'.cells.toList) (off := off) (by simpa using hfit) k
              rw [over_eq _ _ _ (by simpa using hfit)] at hg
              rw [List.getElem?_toArray, hg]
              split at hk'
              · rename_i hin
                have hin' : off ≤ k ∧ k < off + x'.cells.toList.length := by rw [← hcl.1]; exact hin
                rw [if_pos hin']
                have hlt : k - off < x'.cells.toList.length := by omega
                exact ⟨_, List.getElem?_eq_getElem hlt, hcl.2 (k - off) _ _ hk' (List.getElem?_eq_getElem hlt)⟩
              · rename_i hin
                have hin' : ¬ (off ≤ k ∧ k < off + x'.cells.toList.length) := by rw [← hcl.1]; exact hin
                rw [if_neg hin']
                obtain ⟨v', hv', hRv⟩ := hB.at_ k v hk'
                rw [Nat.zero_add, cell_of_row w b k cur o.ty (0, 0) hcur] at hv'
                exact ⟨v', by simpa using hv', hRv⟩
            · rw [← hsz]
              simp only [List.size_toArray, List.length_append, List.length_take, List.length_drop, Array.length_toList] at hfit ⊢
              omega
          · exact ⟨rfl, rfl, rfl, by simp, fun k _ hk => setRow_other w b k _ fun e => hk ⟨i, 0, q, rfl, by rw [e]; exact hβ⟩⟩
          · exact ⟨by simp, fun j hj hne => by rw [List.getElem?_set_ne (fun e => hne (by rw [e]))]⟩
      · cases h
    · cases h
  · cases h
end
end Go.Proofs.Ythalogdopkoidaa.Ab
set_option linter.unusedVariables false
namespace Go.Proofs.Ythalogdopkoidaa.Ab
open Go Go.RowKit
section
variable {P : Program} {T : Tab} {ok perm : Nat → Prop} {H : AHeap} {β : List Loc} {w : World}
theorem run_append_zero {t e ty : Nat} {i : TypeInfo} (ht : P.underlying t = some (.slice e)) (hi : P.info? e = some i) (sa xa : Option Addr) (n c xc : Nat) (hn : n ≤ c) :
    (Builtin.append_ #[t, t] ty #[.slice sa n c, .slice xa 0 xc]).run P w = .ok (.slice sa n c) w := by
  cases xa <;> cases sa <;> simp [Builtin.append_, run_underlying ht, sizeOf, typeInfo, hi, Builtin.lenOf, hn, Builtin.firstCells, loadCells, loadCellsFrom, storeCells]
theorem Fr.of_drew {perm : Nat → Prop} {w w' : World} (h : Fr perm w.drew w') : Fr perm w w' := ⟨h.os, h.tape, h.output, h.size, h.block⟩
/-- An object that grew out of its block. -/
theorem grown_obj (hT : TOK P T) (hI : Inv P ok perm H β w) (hperm : perm w.heap.size) {e : Nat} {ei : TI} (hei : T e = some ei)
    {cells cur : List Value} (hR : RL β cells cur) {N cap : Nat} (hlen : cells.length = N * ei.size) (hcap : N ≤ cap) (hm : cap ≤ maxLen) (hf : ∀ v ∈ cells, flat v = true) (z : Array Value) (hz : z.size = ei.size) :
    Inv P ok perm (H ++ [some ⟨e, cells, true⟩]) (β ++ [(w.heap.size, 0, cap)]) (w.drew.alloc (.cells (cur.toArray ++ Builtin.zeroCells z (cap - N)) e)) := by
  obtain ⟨q, _, hq, hs, _⟩ := hT.info e ei hei
  have hd : Below w.heap.size w w.drew := (Below.refl _ _).drew
  refine (hI.below hd).new hperm ⟨e, cells, true⟩ _ cap q hm hq ?_ hf (fun k v hk => ?_)
  · simp only [Array.size_append, List.size_toArray, size_zeroCells, hz, hs, ← hR.1, hlen, ← Nat.add_mul]
    congr 1
    omega
  · have hlt : k < cells.length := (List.getElem?_eq_some_iff.1 hk).1
    have hlt' : k < cur.length := by rw [← hR.1]; exact hlt
    exact ⟨cur[k], by rw [Array.getElem?_append_left (by simpa using hlt')]; simp [hlt'], hR.2 k _ _ hk (List.getElem?_eq_getElem hlt')⟩
theorem eappend_sound (hT : TOK P T) (hI : Inv P ok perm H β w) (hperm : perm w.heap.size) {t e ty : Nat} {ti : TI} (hti : T t = some ti) (htd : ti.d = .slice e) {s s' x x' : Value} (hs : R β s s') (hx : R β x x')
    {r : Eff} (h : eappend T H e s x = some r) (hok : ∀ i, r.2.2 = some i → ok i) :
    Does P ok perm H β w ((do pure (Next.value (← Builtin.append_ #[t, t] ty #[s', x'])) : Sem Next).run P w) r := by
  have ht : P.underlying t = some (.slice e) := by have := hT.fits t ti hti; rw [htd] at this; exact this
  unfold eappend at h
  split at h
  · cases h
  · rename_i ei hei
    obtain ⟨q, z, hq, hq1, hq2, hq3, hq4⟩ := hT.info e ei hei
    have hzl := hT.zlen e ei hei
    have hzs : z.cells.size = ei.size := by rw [← hzl, ← hq4]; simp
    split at h
    · cases h
    · rename_i hsz
      have hsz1 : 0 < ei.size := by omega
      have hby1 : 0 < ei.bytes := by omega
      split at h
      · rename_i xa m xc
        split at h
        · cases h
        · rename_i news hnews
          -- nothing to append
          by_cases hm0 : m = 0
          · subst hm0
            obtain ⟨xa', xc', hxe⟩ : ∃ xa' xc', x' = .slice xa' 0 xc' := by cases hx <;> exact ⟨_, _, rfl⟩
            subst hxe
            have fin : ∀ v v' : Value, R β v v' → (Builtin.append_ #[t, t] ty #[s', .slice xa' 0 xc']).run P w = .ok v' w → r = (v, H, none) →
                Does P ok perm H β w ((do pure (Next.value (← Builtin.append_ #[t, t] ty #[s', .slice xa' 0 xc'])) : Sem Next).run P w) r := by
              rintro v v' hv hrun rfl
              exact ⟨.value v', w, β, v', by simp [hrun], .inl rfl, hv, List.prefix_rfl, hI, Fr.refl _ _, AExt.refl _ _⟩
            split at h
            · simp at h
              subst h
              cases hs
              exact fin _ _ .nils (run_append_zero ht hq none xa' 0 0 xc' (Nat.le_refl _)) rfl
            · rename_i i n sc
              simp at h
              subst h
              cases hs with
              | @slice _ _ _ c b d rr hβ hc ho => exact fin _ _ (.slice hβ hc ho) (run_append_zero ht hq _ xa' n c xc' hc) rfl
              | empty a a' => exact fin _ _ (.empty _ _) (run_append_zero ht hq _ xa' 0 0 xc' (Nat.le_refl _)) rfl
            · cases h
          · -- the source
            obtain ⟨ax, cx, news', hxe, hnl, hnr, hRn, hfn⟩ : ∃ (ax : Addr) (cx : Nat) (news' : List Value), x' = .slice (some ax) m cx ∧ news'.length = m * ei.size ∧
                (∀ (j : Nat) (v : Value), news'[j]? = some v → w.cell? (ax.add j) = some v) ∧ RL β news news' ∧ (∀ v ∈ news, flat v = true) := by
              split at hnews
              · first | (cases hnews; done) | (rename_i h0; simp [hm0] at hnews)
              · rename_i j off
                rw [if_neg hm0] at hnews
                split at hnews
                · rename_i o ho
                  split at hnews
                  · rename_i hl
                    obtain rfl := Option.some.inj hnews
                    cases hx with
                    | @slice _ _ _ c b d rr hβ hc hoo =>
                      have hB := hI.obj j o b d rr ho hβ
                      obtain ⟨cs', h1, h2, h3⟩ := hB.range off (m * ei.size) hl
                      refine ⟨_, _, cs', rfl, h2, fun k v hk => ?_, h1, fun v hv => hB.flat v (List.mem_of_mem_drop (List.mem_of_mem_take hv))⟩
                      rw [add_loc]
                      exact h3 w rfl k v hk
                    | empty => exact absurd rfl hm0
                  · cases hnews
                · cases hnews
              · cases hnews
            subst hxe
            have hnl' : news'.length = m * q.size := by rw [hq1]; exact hnl
            have hnr0 := hnr
            have hone : ∀ u ∈ news', u.oneCell' = true := by
              intro u hu
              obtain ⟨j, hj, rfl⟩ := List.mem_iff_getElem.1 hu
              have hj' : j < news.length := by rw [hRn.1]; exact hj
              exact (hRn.2 j _ _ (List.getElem?_eq_getElem hj') (List.getElem?_eq_getElem hj)).one (hfn _ (List.getElem_mem hj'))
            split at h
            · -- nil
              rw [if_neg hm0] at h
              split at h
              · rename_i hbytes
                obtain rfl := Option.some.inj h
                cases hs
                have hml : m ≤ 140737488355328 := Nat.le_trans (Nat.le_mul_of_pos_right _ hby1) hbytes
                have hrun := run_append_nil (P := P) w t ty e q z ht hq hq3 ax m cx news' hnl' hnr0 (by omega) (by omega) (by rw [hq2]; omega)
                have hge := grownCap_ge w m 0 e
                have hcm := grownCap_le_maxLen w m 0 e (by simp only [maxLen]; omega)
                have hnew := grown_obj hT hI hperm hei hRn (N := m) (by rw [hRn.1]; exact hnl) hge hcm hfn z.cells hzs
                refine ⟨.value _, _, _, _, by simp [hrun], .inl rfl, new_slice (r := grownCap w m 0 e) (b := w.heap.size) (by rw [← hI.len]; simp) hge, List.prefix_append _ _, hnew, ?_, ?_⟩
                · exact Fr.of_drew (Fr.below ((Below.refl _ _).alloc (Nat.le_refl _) _) _)
                · exact ⟨by simp, fun i hi _ => by rw [List.getElem?_append_left hi]⟩
              · cases h
            · rename_i i n sc
              rw [if_neg hm0] at h
              split at h
              · rename_i o ho
                split at h
                · rename_i hcond
                  obtain ⟨hrw, hty, hnl2, hbytes⟩ := hcond
                  obtain rfl := Option.some.inj h
                  have hoki := hok i rfl
                  have hNl : n + m ≤ 140737488355328 := Nat.le_trans (Nat.le_mul_of_pos_right _ hby1) hbytes
                  obtain ⟨bi, di, ri, hβi⟩ := hI.loc ho
                  have hB := hI.obj i o bi di ri ho hβi
                  have hfl : ∀ v ∈ o.cells.take (n * ei.size) ++ news, flat v = true := fun v hv => by
                    rcases List.mem_append.1 hv with hv | hv
                    · exact hB.flat v (List.mem_of_mem_take hv)
                    · exact hfn v hv
                  have hlen : (o.cells.take (n * ei.size) ++ news).length = (n + m) * ei.size := by
                    rw [List.length_append, List.length_take, Nat.min_eq_left hnl2, hRn.1, hnl, Nat.add_mul]
                  have hext : AExt (fun j => (some i : Option Nat) = some j) H (H.set i none ++ [some ⟨e, o.cells.take (n * ei.size) ++ news, true⟩]) :=
                    ⟨by simp, fun j hj hne => by rw [List.getElem?_append_left (by simpa using hj), List.getElem?_set_ne (fun e => hne (by rw [e]))]⟩
                  have hnewid : ∀ (x : Loc), (β ++ [x])[H.length]? = some x := fun x => by rw [← hI.len]; simp
                  -- it grows
                  have growing : ∀ (sa : Addr) (cap : Nat) (olds : List Value), R β (.slice (some ⟨i, 0, none⟩) n n) (.slice (some sa) n cap) → s' = .slice (some sa) n cap → cap < n + m → RL β (o.cells.take (n * ei.size)) olds →
                      (∀ (j : Nat) (v : Value), olds[j]? = some v → w.cell? (sa.add j) = some v) →
                      Does P ok perm H β w ((do pure (Next.value (← Builtin.append_ #[t, t] ty #[s', .slice (some ax) m cx])) : Sem Next).run P w) (.slice (some ⟨H.length, 0, none⟩) (n + m) (n + m), H.set i none ++ [some ⟨e, o.cells.take (n * ei.size) ++ news, true⟩], some i) := by
                    rintro sa cap olds _ rfl hcap hRo holds
                    have hlo : olds.length = n * q.size := by rw [← hRo.1, List.length_take, Nat.min_eq_left hnl2, hq1]
                    have hrun := run_append_grow (P := P) w t ty e q z ht hq hq3 sa n cap olds hlo holds ax m cx news' hnl' hnr0 hcap (by omega) (growslice_fits hcap (by rw [hq2]; exact hbytes))
                    have hge := grownCap_ge w (n + m) cap e
                    have hcm := grownCap_le_maxLen w (n + m) cap e (by simp only [maxLen]; omega)
                    have hnew := grown_obj hT (hI.kill i) hperm hei (RL.append hRo hRn) (N := n + m) hlen hge hcm hfl z.cells hzs
                    have ecat : (olds ++ news').toArray ++ Builtin.zeroCells z.cells (grownCap w (n + m) cap e - (n + m)) = olds.toArray ++ news'.toArray ++ Builtin.zeroCells z.cells (grownCap w (n + m) cap e - (n + m)) := by simp
                    rw [ecat] at hnew
                    refine ⟨.value _, _, _, _, by simp [hrun], .inl rfl, new_slice (r := grownCap w (n + m) cap e) (b := w.heap.size) (hnewid _) hge, List.prefix_append _ _, hnew, ?_, hext⟩
                    exact Fr.of_drew (Fr.below ((Below.refl _ _).alloc (Nat.le_refl _) _) _)
                  cases hs with
                  | @slice _ _ _ c b d rr hβ hc hoo =>
                    rw [hβi] at hβ
                    obtain ⟨rfl, rfl, rfl⟩ : bi = b ∧ di = d ∧ ri = rr := by simpa using hβ
                    obtain ⟨rfl, hrm, cur, inf, hcur, hinf, hcs⟩ := hB.own hrw
                    have hc0 := hoo rfl
                    subst hc0
                    rw [hty] at hcur hinf
                    rw [hq] at hinf
                    obtain rfl := Option.some.inj hinf
                    obtain ⟨cs', hr1, hr2, hr3⟩ := hB.range 0 (n * ei.size) (by omega)
                    rw [List.drop_zero] at hr1
                    by_cases hroom : n + m ≤ c
                    · have hfit : n * q.size + news'.length ≤ cur.size := by rw [hnl', hcs, ← Nat.add_mul]; exact Nat.mul_le_mul_right _ hroom
                      have hrun := run_append_room (P := P) w t ty e q ht hq bi n c cur hcur ax m cx news' hnl' hnr0 hone hroom hfit
                      have hrow := setRow_heap w bi cur (cur.toList.take (n * q.size) ++ news' ++ cur.toList.drop (n * q.size + news'.length)).toArray e (0, 0) hcur
                      have hheir := hI.heir (o' := ⟨e, o.cells.take (n * ei.size) ++ news, true⟩) ho hrw hoki hβi (w' := w.setRow bi (cur.toList.take (n * q.size) ++ news' ++ cur.toList.drop (n * q.size + news'.length)).toArray) (by simp) (fun k _ hk => setRow_other w bi k _ hk)
                        ⟨by simpa using hB.lt, hfl, fun k v hk => ?_, fun _ => ⟨rfl, hrm, _, q, hrow, hq, ?_⟩⟩
                      · refine ⟨.value _, _, _, _, by simp [hrun], .inl rfl, new_slice (r := c) (b := bi) (hnewid _) hroom, List.prefix_append _ _, hheir, ?_, hext⟩
                        exact ⟨rfl, rfl, rfl, by simp, fun k _ hk => setRow_other w bi k _ fun e => hk ⟨i, 0, c, rfl, by rw [e]; exact hβi⟩⟩
                      · -- its cells
                        have hlk : k < (n + m) * ei.size := by rw [← hlen]; exact (List.getElem?_eq_some_iff.1 hk).1
                        rw [Nat.zero_add, cell_of_row _ bi k _ e (0, 0) hrow, List.getElem?_toArray]
                        have htl : (cur.toList.take (n * q.size)).length = n * ei.size := by
                          rw [List.length_take, Array.length_toList, hcs, hq1, Nat.min_eq_left (Nat.mul_le_mul_right _ hc)]
                        by_cases hkn : k < n * ei.size
                        · rw [List.getElem?_append_left (by rw [List.length_take, Nat.min_eq_left hnl2]; exact hkn)] at hk
                          rw [List.getElem?_take, if_pos hkn] at hk
                          obtain ⟨v', hv', hRv⟩ := hB.at_ k v hk
                          rw [Nat.zero_add, cell_of_row w bi k cur e (0, 0) hcur] at hv'
                          refine ⟨v', ?_, hRv⟩
                          rw [List.append_assoc, List.getElem?_append_left (by rw [htl]; exact hkn), List.getElem?_take, if_pos (by rw [hq1]; exact hkn)]
                          simpa using hv'
                        · rw [List.getElem?_append_right (by rw [List.length_take, Nat.min_eq_left hnl2]; omega), List.length_take, Nat.min_eq_left hnl2] at hk
                          have hkm : k - n * ei.size < news'.length := by rw [hnl]; rw [Nat.add_mul] at hlk; omega
                          refine ⟨news'[k - n * ei.size], ?_, hRn.2 _ _ _ hk (List.getElem?_eq_getElem hkm)⟩
                          rw [List.append_assoc, List.getElem?_append_right (by rw [htl]; omega), htl, List.getElem?_append_left hkm]
                          exact List.getElem?_eq_getElem hkm
                      · rw [← hcs]
                        simp only [List.size_toArray, List.length_append, List.length_take, List.length_drop, Array.length_toList]
                        omega
                    · refine growing _ c cs' (.slice hβi hc hoo) rfl (by omega) hr1 (fun j v hj => ?_)
                      rw [add_loc]
                      have := hr3 w rfl j v hj
                      simpa using this
                  | empty a a' =>
                    refine growing a' 0 [] (.empty _ _) rfl (by omega) (by simp; exact RL.nil β) (fun j v hj => by simp at hj)
                · cases h
              · cases h
            · cases h
      · cases h
end
theorem eop_sound {P : Program} {T : Tab} (hT : TOK P T) {ok perm : Nat → Prop} {H : AHeap} {β : List Loc} {w : World} (hI : Inv P ok perm H β w) (hperm : perm w.heap.size) {ev ρ : Operand → Value} (hρ : ∀ x, R β (ev x) (ρ x))
    {o : Oper} {r : Eff} (h : eop T H ev o.op = some r) (hok : ∀ i, r.2.2 = some i → ok i) : Does P ok perm H β w ((execOp ρ o).run P w) r := by
  have parts : ∀ ps : Array (Nat × Operand), (ps.toList.map fun p => (p.1, ρ p.2)).toArray = ps.map fun (p : Nat × Operand) => (p.1, ρ p.2) := fun ps => by apply Array.ext'; simp
  generalize hop : o.op = op at h
  cases op <;> simp only [eop] at h <;> try (cases h; done)
  case alloc t => simpa [execOp, hop] using ealloc_sound hT hI hperm h
  case box t x => simpa [execOp, hop] using ebox_sound hT hI hperm (hρ x) h
  case buildSlice t len ps =>
    have := elit_sound (parts' := ps.toList.map fun p => (p.1, ρ p.2)) hT hI hperm ⟨by simp, fun j p p' hp1 hp2 => by
      rw [List.getElem?_map] at hp1 hp2
      cases hj : ps.toList[j]? with
      | none => rw [hj] at hp1; cases hp1
      | some q =>
        rw [hj] at hp1 hp2
        obtain rfl := Option.some.inj hp1
        obtain rfl := Option.some.inj hp2
        exact ⟨rfl, hρ _⟩⟩ h
    rw [parts] at this
    simpa [execOp, hop] using this
  case makeSlice t l c => simpa [execOp, hop] using emake_sound hT hI hperm (hρ l) (hρ c) h
  case store t p x => simpa [execOp, hop] using estore_sound hT hI (hρ p) (hρ x) h
  case call c =>
    split at h
    · rename_i s x t t' hcal ha hat
      have ha' : c.args = #[s, x] := by apply Array.ext'; simp [ha]
      have hat' : c.argTypes = #[t, t'] := by apply Array.ext'; simp [hat]
      split at h
      · rename_i ti hti
        split at h
        · rename_i e hd
          split at h
          · rename_i htt
            subst htt
            have := eappend_sound (ty := o.type) hT hI hperm hti hd (hρ s) (hρ x) h hok
            simpa [execOp, hop, resolve, invoke, builtin, hcal, ha', hat'] using this
          · cases h
        · cases h
      · cases h
    · cases h
end Go.Proofs.Ythalogdopkoidaa.Ab
set_option linter.unusedVariables false
namespace Go.Proofs.Ythalogdopkoidaa.Ab
open Go Go.RowKit Go.Proofs.Ythalogdopkoidaa.Dr
/-- The temporaries that are known. -/
abbrev Env := List (Nat × Value)
/-- What a passed operation leaves. -/
def void : Value := .chan none
def get : Env → Nat → Value
  | [], _ => undef
  | (k, v) :: e, t => if t = k then v else get e t
def eput (N : Nat) (e : Env) (dst : Option Nat) (v : Value) : Env :=
  match dst with
  | some d => if d < N then (d, v) :: e else e
  | none => e
def aev (e : Env) : Operand → Value
  | .tmp t => get e t
  | .const v => if flatConst v = true then v else undef
  | .func f => .func (.func f) #[] #[]
  | .global _ => undef
structure ER (β : List Loc) (e : Env) (a : Act) (N : Nat) : Prop where
  size : a.tmps.size = N
  defers : a.defers = []
  at_ : ∀ t, R β (get e t) (a.tmps.getD t undef)
theorem R.undef (β : List Loc) (v : Value) : R β undef v := .junk v
theorem ER.ext {β β' : List Loc} (hp : β <+: β') {e : Env} {a : Act} {N : Nat} (h : ER β e a N) : ER β' e a N := ⟨h.size, h.defers, fun t => (h.at_ t).ext hp⟩
theorem ER.eval {β : List Loc} {e : Env} {a : Act} {N : Nat} (h : ER β e a N) (x : Operand) : R β (aev e x) (a.eval x) := by
  cases x with
  | tmp t => exact h.at_ t
  | const v =>
    unfold aev Act.eval
    dsimp only
    split
    · rename_i hv; exact R.const β hv
    · exact .junk _
  | global g => exact .junk _
  | func f => exact .func _ rfl (fun j v v' hj => by simp at hj)
theorem ER.put {β : List Loc} {e : Env} {a : Act} {N : Nat} (h : ER β e a N) {v v' : Value} (hv : R β v v') (dst : Option Nat) : ER β (eput N e dst v) (a.put dst v') N := by
  cases dst with
  | none => exact h
  | some d =>
    by_cases hd : d < N
    · refine ⟨by simp [Act.put, h.size], h.defers, fun t => ?_⟩
      simp only [eput, if_pos hd, get, Act.put]
      by_cases ht : t = d
      · subst ht
        rw [if_pos rfl]
        simp [h.size, hd]
        exact hv
      · rw [if_neg ht]
        have := h.at_ t
        simpa [Array.getElem?_setIfInBounds_ne (Ne.symm ht)] using this
    · refine ⟨by simp [Act.put, h.size], h.defers, fun t => ?_⟩
      simp only [eput, if_neg hd, Act.put]
      have e1 : a.tmps.setIfInBounds d v' = a.tmps := Array.setIfInBounds_eq_of_size_le (by rw [h.size]; omega)
      rw [e1]
      exact h.at_ t
/-- Some abstract state behind. -/
def St (P : Program) (N : Nat) (ok perm : Nat → Prop) (w0 : World) (β0 : List Loc) (H0 : AHeap) (K : Env → AHeap → Prop) (a : Act) (w : World) : Prop :=
  ∃ e H β, K e H ∧ β0 <+: β ∧ Inv P ok perm H β w ∧ ER β e a N ∧ Fr perm w0 w ∧ AExt ok H0 H
theorem St.mono {P : Program} {N : Nat} {ok perm : Nat → Prop} {w0 : World} {β0 : List Loc} {H0 : AHeap} {K K' : Env → AHeap → Prop} {a : Act} {w : World} (h : St P N ok perm w0 β0 H0 K a w) (hk : ∀ e H, AExt ok H0 H → K e H → K' e H) : St P N ok perm w0 β0 H0 K' a w := by
  obtain ⟨e, H, β, h1, h2, h3, h4, h5, h6⟩ := h
  exact ⟨e, H, β, hk e H h6 h1, h2, h3, h4, h5, h6⟩
theorem St.from {P : Program} {N : Nat} {ok perm : Nat → Prop} {w0 : World} {β0 β1 : List Loc} {H0 H1 : AHeap} {K : Env → AHeap → Prop} {a : Act} {w : World} (hp : β0 <+: β1) (he : AExt ok H0 H1) (h : St P N ok perm w0 β1 H1 K a w) : St P N ok perm w0 β0 H0 K a w := by
  obtain ⟨e, H, β, h1, h2, h3, h4, h5, h6⟩ := h
  exact ⟨e, H, β, h1, hp.trans h2, h3, h4, h5, he.trans h6⟩
/-- What is asked of an exit: never a panic. -/
def Post (P : Program) (N : Nat) (ok perm : Nat → Prop) (w0 : World) (β0 : List Loc) (H0 : AHeap) (Q : Exit → Env → AHeap → Prop) : Exit → Act → World → Prop
  | .normal, a, w => St P N ok perm w0 β0 H0 (Q .normal) a w
  | .exit i, a, w => St P N ok perm w0 β0 H0 (Q (.exit i)) a w
  | .goto i, a, w => St P N ok perm w0 β0 H0 (Q (.goto i)) a w
  | .ret, a, w => St P N ok perm w0 β0 H0 (Q .ret) a w
  | .panic _, _, _ => False
  | .outgrown, _, _ => False
/-- Code, from an abstract state. -/
def AC (P : Program) (N : Nat) (ok : Nat → Prop) (c : Code) (Q : Exit → Env → AHeap → Prop) (e : Env) (H : AHeap) : Prop :=
  ∀ (perm : Nat → Prop) (w0 : World) (β : List Loc) (a : Act) (w : World), (∀ b, w0.heap.size ≤ b → perm b) → Fr perm w0 w → Inv P ok perm H β w → ER β e a N →
    c.wp P (Post P N ok perm w0 β H Q) a w
section
variable {P : Program} {N : Nat} {ok : Nat → Prop} {Q : Exit → Env → AHeap → Prop} {e : Env} {H : AHeap}
theorem St.here {perm : Nat → Prop} {w0 : World} {β : List Loc} {a : Act} {w : World} {K : Env → AHeap → Prop} (h : K e H) (hI : Inv P ok perm H β w) (hE : ER β e a N) (hF : Fr perm w0 w) : St P N ok perm w0 β H K a w :=
  ⟨e, H, β, h, List.prefix_rfl, hI, hE, hF, AExt.refl _ _⟩
theorem AC_mono {c : Code} {Q' : Exit → Env → AHeap → Prop} (h : AC P N ok c Q e H) (hq : ∀ ex e' H', AExt ok H H' → Q ex e' H' → Q' ex e' H') : AC P N ok c Q' e H := fun perm w0 β a w h1 h2 h3 h4 =>
  Code.wp_mono (fun ex a' w' hp => by
    cases ex <;> first | exact St.mono hp (fun e' H' hx hQ => hq _ e' H' hx hQ) | exact hp) (h perm w0 β a w h1 h2 h3 h4)
theorem AC_skip (h : Q .normal e H) : AC P N ok .skip Q e H := fun perm w0 β a w h1 h2 h3 h4 => wp_skip (St.here h h3 h4 h2)
theorem AC_ret (h : Q .ret e H) : AC P N ok .ret Q e H := fun perm w0 β a w h1 h2 h3 h4 => wp_ret (St.here h h3 h4 h2)
theorem AC_exit {i : Nat} (h : Q (.exit i) e H) : AC P N ok (.exit i) Q e H := fun perm w0 β a w h1 h2 h3 h4 => wp_exit (St.here h h3 h4 h2)
/-- What stands behind. -/
def thenQ (K : Env → AHeap → Prop) (Q : Exit → Env → AHeap → Prop) : Exit → Env → AHeap → Prop
  | .normal => K
  | ex => Q ex
theorem AC_seq {x y : Code} (h : AC P N ok x (thenQ (AC P N ok y Q) Q) e H) : AC P N ok (.seq x y) Q e H := fun perm w0 β a w h1 h2 h3 h4 => by
  refine wp_seq (Code.wp_mono (fun ex a' w' hp => ?_) (h perm w0 β a w h1 h2 h3 h4))
  cases ex with
  | normal =>
    obtain ⟨e', H', β', hK, hβ, hI, hE, hF, hX⟩ := hp
    refine Code.wp_mono (fun ex a'' w'' hp' => ?_) (hK perm w0 β' a' w' h1 hF hI hE)
    cases ex <;> first | exact St.from hβ hX hp' | exact hp'
  | _ => exact hp
theorem AC_cond {c : Operand} {x y : Code} {t : Bool} (hc : aev e c = .bool t) (h : AC P N ok (if t then x else y) Q e H) : AC P N ok (.cond c x y) Q e H := fun perm w0 β a w h1 h2 h3 h4 => by
  have hr := h4.eval c
  rw [hc] at hr
  generalize hv : a.eval c = v at hr
  cases hr
  exact wp_cond hv (h perm w0 β a w h1 h2 h3 h4)
def blockQ (i : Nat) (Q : Exit → Env → AHeap → Prop) : Exit → Env → AHeap → Prop
  | .exit j => if j = i then Q .normal else Q (.exit j)
  | ex => Q ex
theorem AC_block {i : Nat} {c : Code} (h : AC P N ok c (blockQ i Q) e H) : AC P N ok (.block i c) Q e H := fun perm w0 β a w h1 h2 h3 h4 => by
  refine wp_block (Code.wp_mono (fun ex a' w' hp => ?_) (h perm w0 β a w h1 h2 h3 h4))
  cases ex with
  | exit j =>
    simp only [Exit.inBlock]
    have hp' : St P N ok perm w0 β H (blockQ i Q (.exit j)) a' w' := hp
    split
    · rename_i hj
      have e1 : blockQ i Q (.exit j) = Q .normal := by simp [blockQ, hj]
      rw [e1] at hp'; exact hp'
    · rename_i hj
      have e1 : blockQ i Q (.exit j) = Q (.exit j) := by simp [blockQ, hj]
      rw [e1] at hp'; exact hp'
  | _ => exact hp
theorem AC_loop {c : Code} (I : Nat → Env → AHeap → Prop) (n0 : Nat) (h0 : I n0 e H)
    (round : ∀ n e' H', AExt ok H H' → I n e' H' → AC P N ok c (thenQ (fun e'' H'' => ∃ n', n' < n ∧ I n' e'' H'') Q) e' H') : AC P N ok (.loop c) Q e H := fun perm w0 β a w h1 h2 h3 h4 => by
  refine wp_loop_ghost (fun n a' w' => St P N ok perm w0 β H (I n) a' w') n0 (St.here h0 h3 h4 h2) fun n a' w' hst => ?_
  obtain ⟨e', H', β', hI', hβ, hI, hE, hF, hX⟩ := hst
  refine Code.wp_mono (fun ex a'' w'' hp => ?_) (round n e' H' hX hI' perm w0 β' a' w' h1 hF hI hE)
  cases ex with
  | normal =>
    obtain ⟨e'', H'', β'', ⟨n', hn, hI2⟩, h5, h6, h7, h8, h9⟩ := hp
    exact ⟨n', hn, e'', H'', β'', hI2, hβ.trans h5, h6, h7, h8, hX.trans h9⟩
  | _ => first | exact St.from hβ hX hp | exact hp
end
theorem eop_turned {T : Tab} {H : AHeap} {ev : Operand → Value} {op : Op} {r : Eff} (h : eop T H ev op = some r) {i : Nat} (hi : r.2.2 = some i) : ∃ o, H[i]? = some (some o) ∧ o.rw = true := by
  cases op <;> simp only [eop] at h <;> try (cases h; done)
  case alloc t => unfold ealloc at h; split at h <;> first | (cases h; done) | (obtain rfl := Option.some.inj h; cases hi)
  case box t x => unfold ebox at h; (repeat' split at h) <;> first | (cases h; done) | (obtain rfl := Option.some.inj h; cases hi)
  case buildSlice t l p => unfold elit at h; (repeat' split at h) <;> first | (cases h; done) | (obtain rfl := Option.some.inj h; cases hi)
  case makeSlice t l c => unfold emake at h; (repeat' split at h) <;> first | (cases h; done) | (obtain rfl := Option.some.inj h; cases hi)
  case store t p x =>
    unfold estore at h
    split at h
    · split at h
      · rename_i o _ ho
        split at h
        · rename_i hc
          obtain rfl := Option.some.inj h
          obtain rfl := Option.some.inj hi
          exact ⟨o, ho, hc.1⟩
        · cases h
      · cases h
    · cases h
  case call c =>
    (repeat' split at h) <;> try (cases h; done)
    unfold eappend at h
    split at h
    · cases h
    · split at h
      · cases h
      · split at h
        · split at h
          · cases h
          · split at h
            · split at h
              · obtain rfl := Option.some.inj h; cases hi
              · split at h
                · obtain rfl := Option.some.inj h; cases hi
                · cases h
            · split at h
              · obtain rfl := Option.some.inj h; cases hi
              · split at h
                · rename_i o ho
                  split at h
                  · rename_i hc
                    obtain rfl := Option.some.inj h
                    obtain rfl := Option.some.inj hi
                    exact ⟨o, ho, hc.1⟩
                  · cases h
                · cases h
            · cases h
        · cases h
theorem Inv.weaken {P : Program} {ok perm ok' perm' : Nat → Prop} {H : AHeap} {β : List Loc} {w : World} (h : Inv P ok perm H β w)
    (hp : ∀ (i : Nat) (o : AObj) (b d r : Nat), ok' i → H[i]? = some (some o) → o.rw = true → β[i]? = some (b, d, r) → perm' b) : Inv P ok' perm' H β w := ⟨h.len, h.obj, h.sep, hp⟩
/-- The blocks of the objects of a set that may be written. -/
def Blocks (M : Nat → Prop) (H : AHeap) (β : List Loc) (b : Nat) : Prop := ∃ i o d q, M i ∧ H[i]? = some (some o) ∧ o.rw = true ∧ β[i]? = some (b, d, q)
/-- A function's contract: 'M': which objects it may turn. -/
def ACalls (P : Program) (f : Nat) (args : List Value) (H : AHeap) (M : Nat → Prop) (Q : Value → AHeap → Prop) : Prop :=
  ∀ (w : World) (β : List Loc) (args' : List Value), RL β args args' → Inv P (fun _ => False) (fun _ => False) H β w →
    Calls P f args'.toArray w fun en w' => ∃ v v' H' β', en = .returned v' ∧ Q v H' ∧ β <+: β' ∧ R β' v v' ∧
      Inv P (fun i => H.length ≤ i ∨ M i) (fun b => w.heap.size ≤ b ∨ Blocks M H β b) H' β' w' ∧ Fr (Blocks M H β) w w' ∧ AExt M H H'
theorem ACalls.mono {P : Program} {f : Nat} {args : List Value} {H : AHeap} {M : Nat → Prop} {Q Q' : Value → AHeap → Prop} (h : ACalls P f args H M Q) (hq : ∀ v H', AExt M H H' → Q v H' → Q' v H') : ACalls P f args H M Q' :=
  fun w β args' h1 h2 => (h w β args' h1 h2).mono fun en w' ⟨v, v', H', β', h3, h4, h5, h6, h7, h8, h9⟩ => ⟨v, v', H', β', h3, hq v H' h9 h4, h5, h6, h7, h8, h9⟩
/-- A function with a body. -/
def Fok (P : Program) (f : Nat) : Prop := ∃ fn c, P.funcs[f]? = some fn ∧ (fn.name == "runtime.NumGoroutine") = false ∧ fn.body = some c
/-- One operation, wanted; 'early': it must leave all that was there as it was. -/
def AStep (P : Program) (N : Nat) (ok : Nat → Prop) (early : Prop) (o : Oper) (K : Env → AHeap → Prop) (e : Env) (H : AHeap) : Prop :=
  ∀ (perm : Nat → Prop) (w0 : World) (β : List Loc) (a : Act) (w : World) (Qc : Exit → Act → World → Prop), (∀ b, w0.heap.size ≤ b → perm b) → Fr perm w0 w → Inv P ok perm H β w → ER β e a N →
    o.wp P a w (fun a' w' => (early → Below w.heap.size w w') ∧ St P N ok perm w0 β H K a' w') Qc
section
variable {P : Program} {T : Tab} {N : Nat} {ok : Nat → Prop} {early : Prop} {o : Oper} {K : Env → AHeap → Prop} {e : Env} {H : AHeap}
theorem AStep_q (hT : TOK P T) {v : Value} (h : qop T H (aev e) o.op = some v) (hk : K (eput N e o.dst v) H) : AStep P N ok early o K e H := fun perm w0 β a w Qc h1 h2 h3 h4 => by
  obtain ⟨v', hv, hrun⟩ := qop_sound hT h3 (fun x => h4.eval x) h
  unfold Oper.wp
  rw [hrun w (Keeps.refl _ _ _), Oper.upon_value]
  exact ⟨fun _ => Below.refl _ _, St.here hk h3 (h4.put hv _) h2⟩
theorem AStep_e (hT : TOK P T) {r : Eff} (h : eop T H (aev e) o.op = some r) (hok : ∀ i, r.2.2 = some i → ok i) (hear : early → r.2.2 = none) (hk : K (eput N e o.dst r.1) r.2.1) : AStep P N ok early o K e H := fun perm w0 β a w Qc h1 h2 h3 h4 => by
  obtain ⟨nx, w', β', v', hrun, hnx, hv, hβ, hI, hF, hX⟩ := eop_sound hT h3 (h1 _ h2.size) (fun x => h4.eval x) h hok
  have hF' : Fr perm w w' := hF.mono fun b _ ⟨i, d, q, hi, hb⟩ => by
    obtain ⟨ob, hob, hrw⟩ := eop_turned h hi
    exact h3.perm i ob b d q (hok i hi) hob hrw hb
  have hB : early → Below w.heap.size w w' := fun he => by
    have : Fr (fun _ => False) w w' := hF.mono fun b _ ⟨i, d, q, hi, _⟩ => by rw [hear he] at hi; cases hi
    exact this.to_below
  have hst : ∀ u, R β' r.1 u → St P N ok perm w0 β H K (a.put o.dst u) w' := fun u hu =>
    ⟨_, _, β', hk, hβ, hI, (h4.ext hβ).put hu _, h2.trans hF', hX.mono fun i _ hi => hok i hi⟩
  unfold Oper.wp
  rw [hrun]
  rcases hnx with rfl | ⟨rfl, rfl⟩
  · rw [Oper.upon_value]; exact ⟨hB, hst _ hv⟩
  · rw [Oper.upon_skip]; exact ⟨hB, hst _ hv⟩
theorem AStep_call {c : Call} {fo : Operand} {g : Nat} {cap : Array Value} {M : Nat → Prop} {Q : Value → AHeap → Prop} (hop : o.op = .call c) (hcal : c.callee = .value fo) (hf : aev e fo = .func (.func g) #[] cap) (hg : Fok P g)
    (h : ACalls P g (c.args.toList.map (aev e) ++ cap.toList) H M Q) (hM : ∀ i, i < H.length → M i → ok i) (hear : early → ∀ i, i < H.length → ¬ M i)
    (hk : ∀ v H', AExt M H H' → Q v H' → K (eput N e o.dst v) H') : AStep P N ok early o K e H := fun perm w0 β a w Qc h1 h2 h3 h4 => by
  have hfr := h4.eval fo
  rw [hf] at hfr
  generalize hfv : a.eval fo = fv at hfr
  cases hfr with
  | @func _ _ cap' hcs hcR =>
    obtain ⟨fn, cd, hfn, hname, hbody⟩ := hg
    have hargs : RL β (c.args.toList.map (aev e) ++ cap.toList) (c.args.toList.map a.eval ++ cap'.toList) := by
      refine RL.append ⟨by simp, fun j v v' hj hj' => ?_⟩ (RL.of_agg hcs hcR)
      rw [List.getElem?_map] at hj hj'
      cases hx : c.args.toList[j]? with
      | none => rw [hx] at hj; cases hj
      | some x =>
        rw [hx] at hj hj'
        obtain rfl := Option.some.inj hj
        obtain rfl := Option.some.inj hj'
        exact h4.eval x
    have hcall := h w β _ hargs (h3.weaken (fun _ _ _ _ _ h => h.elim))
    have hrun : (execOp a.eval o).run P w = .ok (.enter g (c.args.toList.map a.eval ++ cap'.toList).toArray) w := by
      have e1 : (c.args.toList.map a.eval ++ cap'.toList).toArray = c.args.map a.eval ++ cap' := by apply Array.ext'; simp
      have hname' : ¬ fn.name = "runtime.NumGoroutine" := by simpa using hname
      rw [e1]
      simp [execOp, hop, resolve, hcal, hfv, Deferred.ofValue, invoke, callFunc, hfn, hname', hbody]
    unfold Oper.wp
    rw [hrun, Oper.upon_enter]
    refine hcall.mono fun en w' ⟨v, v', H', β', hen, hQ, hβ, hv, hI, hF, hX⟩ => ?_
    subst hen
    have hperm : ∀ b, Blocks M H β b → perm b := fun b ⟨i, ob, d, q, hMi, hob, hrw, hb⟩ => h3.perm i ob b d q (hM i (List.getElem?_eq_some_iff.1 hob).1 hMi) hob hrw hb
    have hI' : Inv P ok perm H' β' w' := hI.weaken fun i ob b d q hoki hob hrw hb => by
      by_cases hil : H.length ≤ i ∨ M i
      · rcases hI.perm i ob b d q hil hob hrw hb with hb' | hb'
        · exact h1 b (Nat.le_trans h2.size hb')
        · exact hperm b hb'
      · have hil' : i < H.length := by omega
        have hnM : ¬ M i := fun hm => hil (.inr hm)
        rw [hX.obj i hil' hnM] at hob
        obtain ⟨b2, d2, q2, hb2⟩ := h3.loc hob
        rw [get_ext hβ hb2] at hb
        obtain ⟨rfl, rfl, rfl⟩ : b2 = b ∧ d2 = d ∧ q2 = q := by simpa using hb
        exact h3.perm i ob b2 d2 q2 hoki hob hrw hb2
    refine ⟨fun he => ?_, ⟨_, H', β', hk v H' hX hQ, hβ, hI', (h4.ext hβ).put hv _, h2.trans (hF.mono fun b _ hb => hperm b hb), hX.mono fun i hi hm => hM i hi hm⟩⟩
    have : Fr (fun _ => False) w w' := hF.mono fun b _ ⟨i, ob, d, q, hMi, hob, _⟩ => hear he i (List.getElem?_eq_some_iff.1 hob).1 hMi
    exact this.to_below
end
end Go.Proofs.Ythalogdopkoidaa.Ab
set_option linter.unusedVariables false
namespace Go.Proofs.Ythalogdopkoidaa.Ab
open Go Go.RowKit Go.Proofs.Ythalogdopkoidaa.Dr
/-- Is it wanted? -/
def awant (ops : List Oper) (e : Env) (o : Oper) : Option Bool :=
  match o.guard with
  | none => some true
  | some (j, want) =>
    match (ops[j]?).bind (·.dst) with
    | some d => match get e d with
      | .bool b => some (b == want)
      | .chan none => some false
      | _ => none
    | none => none
section
variable {P : Program} {T : Tab} {N : Nat} {ok : Nat → Prop} {e : Env} {H : AHeap}
theorem awant_sound {ops : List Oper} {o : Oper} {b : Bool} (h : awant ops e o = some b) {β : List Loc} {a : Act} (hE : ER β e a N) : Region.wanted o (yielded ops.toArray a.tmps) = b := by
  unfold awant at h
  unfold Region.wanted
  split at h
  · rename_i hg
    rw [hg]
    exact Option.some.inj h
  · rename_i j want hg
    rw [hg]
    dsimp only
    split at h
    · rename_i d hd
      split at h
      · rename_i t ht
        obtain rfl := Option.some.inj h
        have hr := hE.at_ d
        rw [ht] at hr
        generalize hv : a.tmps.getD d undef = v at hr
        cases hr
        have hlt : d < a.tmps.size := by
          rcases Nat.lt_or_ge d a.tmps.size with h' | h'
          · exact h'
          · simp [Array.getElem?_eq_none h'] at hv; cases hv
        have hg2 : a.tmps[d]? = some (.bool t) := by
          rw [Array.getElem?_eq_getElem hlt]
          simp [hlt] at hv
          rw [hv]
        have hd' : (ops.toArray[j]?).bind (·.dst) = some d := by simpa using hd
        simp only [yielded, hd', Option.bind_some, hg2]
        cases t <;> cases want <;> rfl
      · rename_i ht
        obtain rfl := Option.some.inj h
        have hr := hE.at_ d
        rw [ht] at hr
        generalize hv : a.tmps.getD d undef = v at hr
        cases hr
        have hd' : (ops.toArray[j]?).bind (·.dst) = some d := by simpa using hd
        have hy : yielded ops.toArray a.tmps j = none := by
          simp only [yielded, hd', Option.bind_some]
          rcases Nat.lt_or_ge d a.tmps.size with h' | h'
          · have : a.tmps[d]? = some (.tuple #[]) := by
              rw [Array.getElem?_eq_getElem h']
              simp [h'] at hv
              rw [hv]
            rw [this]
          · rw [Array.getElem?_eq_none h']
        rw [hy]
        cases want <;> rfl
      · cases h
    · cases h
/-- The operations one behind the other. -/
def AL (P : Program) (N : Nat) (ok : Nat → Prop) (ops : List Oper) (l : List Oper) (K : Env → AHeap → Prop) (e : Env) (H : AHeap) : Prop :=
  ∀ (perm : Nat → Prop) (w0 : World) (β : List Loc) (a : Act) (w : World) (Qc : Exit → Act → World → Prop), (∀ b, w0.heap.size ≤ b → perm b) → Fr perm w0 w → Inv P ok perm H β w → ER β e a N →
    (∀ a' w', St P N ok perm w0 β H K a' w' → Qc .normal a' w') → wpList P ops.toArray Qc l a w
theorem AL_nil {ops : List Oper} {K : Env → AHeap → Prop} (h : K e H) : AL P N ok ops [] K e H := fun perm w0 β a w Qc h1 h2 h3 h4 h5 => wpList_nil (h5 _ _ (St.here h h3 h4 h2))
theorem AL_step {ops : List Oper} {o : Oper} {l : List Oper} {K : Env → AHeap → Prop} (hw : awant ops e o = some true) (h : AStep P N ok False o (fun e' H' => AL P N ok ops l K e' H') e H) : AL P N ok ops (o :: l) K e H :=
  fun perm w0 β a w Qc h1 h2 h3 h4 h5 => by
    have hw' := awant_sound hw h4
    unfold wpList
    rw [if_pos hw']
    refine .inl (Oper.wp_mono (fun a' w' hp => ?_) (h perm w0 β a w Qc h1 h2 h3 h4))
    obtain ⟨_, e', H', β', hK, hβ, hI, hE, hF, hX⟩ := hp
    exact hK perm w0 β' a' w' Qc h1 hF hI hE (fun a'' w'' hst => h5 a'' w'' (hst.from hβ hX))
theorem AL_pass {ops : List Oper} {o : Oper} {l : List Oper} {K : Env → AHeap → Prop} (hw : awant ops e o = some false) (h : AL P N ok ops l K (eput N e o.dst void) H) : AL P N ok ops (o :: l) K e H :=
  fun perm w0 β a w Qc h1 h2 h3 h4 h5 => by
    have hw' := awant_sound hw h4
    unfold wpList
    rw [if_neg (by rw [hw']; simp)]
    exact h perm w0 β _ w Qc h1 h2 h3 (h4.put (.void) _) h5
theorem AC_region {i : Nat} {l : List Oper} {Q : Exit → Env → AHeap → Prop} (h : AL P N ok l l (Q .normal) e H) : AC P N ok (.region i l.toArray false) Q e H := fun perm w0 β a w h1 h2 h3 h4 =>
  wp_region_lit (h perm w0 β a w _ h1 h2 h3 h4 (fun _ _ hst => hst))
/-- The operations in a chosen order. -/
def AS (P : Program) (N : Nat) (ok : Nat → Prop) (ops : List Oper) (late : List Nat) (σ : List (Nat × Bool)) (K : Env → AHeap → Prop) (e : Env) (H : AHeap) : Prop :=
  ∀ (perm : Nat → Prop) (w0 : World) (β : List Loc) (a : Act) (w : World) (Qc : Exit → Act → World → Prop), (∀ b, w0.heap.size ≤ b → perm b) → Fr perm w0 w → Inv P ok perm H β w → ER β e a N →
    (∀ a' w', St P N ok perm w0 β H K a' w' → Qc .normal a' w') → runS P (fun _ => False) ops.toArray Qc late σ a w
theorem AS_nil {ops : List Oper} {late : List Nat} {K : Env → AHeap → Prop} (h : K e H) : AS P N ok ops late [] K e H := fun perm w0 β a w Qc h1 h2 h3 h4 h5 => h5 _ _ (St.here h h3 h4 h2)
theorem AS_take (hT : TOK P T) {ops : List Oper} {late : List Nat} {i : Nat} {σ : List (Nat × Bool)} {o : Oper} {v : Value} {K : Env → AHeap → Prop} (ho : ops[i]? = some o) (hw : awant ops e o = some true) (hq : qop T H (aev e) o.op = some v)
    (h : AS P N ok ops late σ K (eput N e o.dst v) H) : AS P N ok ops late ((i, true) :: σ) K e H := fun perm w0 β a w Qc h1 h2 h3 h4 h5 => by
  obtain ⟨v', hv, hrun⟩ := qop_sound hT h3 (fun x => h4.eval x) hq
  exact ⟨o, v', by simpa using ho, .inl ⟨awant_sound hw h4, fun w' hb => hrun w' (h3.keeps hb.to_below)⟩, h perm w0 β _ w Qc h1 h2 h3 (h4.put hv _) h5⟩
theorem AS_take_pass {ops : List Oper} {late : List Nat} {i : Nat} {σ : List (Nat × Bool)} {o : Oper} {K : Env → AHeap → Prop} (ho : ops[i]? = some o) (hw : awant ops e o = some false)
    (h : AS P N ok ops late σ K (eput N e o.dst void) H) : AS P N ok ops late ((i, true) :: σ) K e H := fun perm w0 β a w Qc h1 h2 h3 h4 h5 =>
  ⟨o, undef, by simpa using ho, .inr ⟨awant_sound hw h4, rfl⟩, h perm w0 β _ w Qc h1 h2 h3 (h4.put (.void) _) h5⟩
theorem AS_only {ops : List Oper} {late : List Nat} {i : Nat} {σ : List (Nat × Bool)} {o : Oper} {K : Env → AHeap → Prop} (ho : ops[i]? = some o) (hw : awant ops e o = some true)
    (h : AStep P N ok (late.contains i = false) o (fun e' H' => AS P N ok ops late σ K e' H') e H) : AS P N ok ops late ((i, false) :: σ) K e H := fun perm w0 β a w Qc h1 h2 h3 h4 h5 => by
  have hw' := awant_sound hw h4
  have ho' : ops.toArray[i]? = some o := by simpa using ho
  simp only [runS, wpOp, ho']
  rw [if_pos hw']
  refine .inl (Oper.wp_mono (fun a' w' hp => ?_) (h perm w0 β a w Qc h1 h2 h3 h4))
  obtain ⟨hb, e', H', β', hK, hβ, hI, hE, hF, hX⟩ := hp
  exact ⟨fun hl => Fr.below (hb hl) _, hK perm w0 β' a' w' Qc h1 hF hI hE (fun a'' w'' hst => h5 a'' w'' (hst.from hβ hX))⟩
theorem AS_only_pass {ops : List Oper} {late : List Nat} {i : Nat} {σ : List (Nat × Bool)} {o : Oper} {K : Env → AHeap → Prop} (ho : ops[i]? = some o) (hw : awant ops e o = some false)
    (h : AS P N ok ops late σ K (eput N e o.dst void) H) : AS P N ok ops late ((i, false) :: σ) K e H := fun perm w0 β a w Qc h1 h2 h3 h4 h5 => by
  have hw' := awant_sound hw h4
  have ho' : ops.toArray[i]? = some o := by simpa using ho
  simp only [runS, wpOp, ho']
  rw [if_neg (by rw [hw']; simp)]
  exact ⟨fun _ => Fr.refl _ _, h perm w0 β _ w Qc h1 h2 h3 (h4.put (.void) _) h5⟩
theorem AC_draw {i : Nat} {l : List Oper} {Q : Exit → Env → AHeap → Prop} (late : List Nat) (σ : List (Nat × Bool)) (hm : P.follows .mixedOrders = true) (hB : schedOK .any l late σ = true)
    (h : AS P N ok l late σ (Q .normal) e H) : AC P N ok (.region i l.toArray true) Q e H := fun perm w0 β a w h1 h2 h3 h4 => by
  have hd : Below w.heap.size w { w with drawn := w.drawn + 1 } := ⟨rfl, rfl, rfl, Nat.le_refl _, fun _ _ => rfl⟩
  exact wp_region_sched late σ hm hB (fun c a d v w h => h.elim) (h perm w0 β a { w with drawn := w.drawn + 1 } _ h1 (h2.trans (Fr.below hd perm)) (h3.below hd) h4 (fun _ _ hst => hst))
def argEnv : Nat → List Value → Env
  | _, [] => []
  | k, v :: l => (k, v) :: argEnv (k + 1) l
theorem get_argEnv : ∀ (l : List Value) (k t : Nat), get (argEnv k l) t = if t < k then undef else l.getD (t - k) undef
  | [], k, t => by simp [argEnv, get]
  | v :: l, k, t => by
    rw [argEnv, get, get_argEnv l (k + 1) t]
    by_cases h1 : t = k
    · subst h1; simp
    · rw [if_neg h1]
      by_cases h2 : t < k
      · rw [if_pos (by omega), if_pos h2]
      · rw [if_neg (by omega), if_neg h2]
        have : t - k = (t - (k + 1)) + 1 := by omega
        rw [this]
        simp
def ares1 (T : Tab) (H : AHeap) (e : Env) : ResultVar → Option Value
  | .tmp t => some (get e t)
  | .cell a t => aload T H t (get e a)
def ares (T : Tab) (H : AHeap) (e : Env) (rs : List ResultVar) : Option Value :=
  match rs.mapM (ares1 T H e) with
  | some [v] => some v
  | some vs => some (.tuple vs.toArray)
  | none => none
def resOne (tmps : Array Value) : ResultVar → Sem Value
  | .tmp t => pure (tmps.getD t undef)
  | .cell a t => do loadVar t (← asAddr (tmps.getD a undef))
theorem results_eq (fn : Func) (tmps : Array Value) : results fn tmps = (do
    let vs ← fn.results.mapM (resOne tmps)
    pure (if h : vs.size = 1 then vs[0] else .tuple vs)) := by
  unfold results
  congr 2
theorem ares_sound (hT : TOK P T) {perm : Nat → Prop} {β : List Loc} {w : World} (hI : Inv P ok perm H β w) {a : Act} (hE : ER β e a N) {fn : Func} {v : Value} (h : ares T H e fn.results.toList = some v) :
    ∃ v', R β v v' ∧ (results fn a.tmps).run P w = .ok v' w := by
  have key : ∀ (rs : List ResultVar) (vs : List Value), rs.mapM (ares1 T H e) = some vs → ∃ vs', RL β vs vs' ∧ (rs.mapM (resOne a.tmps)).run P w = .ok vs' w := by
    intro rs
    induction rs with
    | nil => intro vs h; simp at h; subst h; exact ⟨[], RL.nil β, by simp⟩
    | cons r rs ih =>
      intro vs h
      rw [List.mapM_cons] at h
      cases hr : ares1 T H e r with
      | none => rw [hr] at h; simp at h
      | some u =>
        rw [hr] at h
        cases hrs : rs.mapM (ares1 T H e) with
        | none => rw [hrs] at h; simp at h
        | some us =>
          rw [hrs] at h
          simp at h
          subst h
          obtain ⟨us', h1, h2⟩ := ih us hrs
          have hone : ∃ u', R β u u' ∧ (resOne a.tmps r).run P w = .ok u' w := by
            cases r with
            | tmp t =>
              obtain rfl := Option.some.inj hr
              exact ⟨_, hE.at_ t, rfl⟩
            | cell p t =>
              obtain ⟨u', hu, hrun⟩ := aload_sound hT hI (hE.at_ p) hr
              have hrun' := hrun w (Keeps.refl _ _ _)
              refine ⟨u', hu, ?_⟩
              have hp := hE.at_ p
              simp only [ares1, aload] at hr
              split at hr
              · rename_i heq
                rw [heq] at hp
                generalize hav : a.tmps.getD p undef = av at hp hrun'
                cases hp
                simp only [Instr.loadAt, Instr.sureAddr, Sem.run_bind, Sem.run_pure, Result.andThen_ok] at hrun'
                simp only [resOne, Sem.run_bind, hav, asAddr, Sem.run_pure, Result.andThen_ok, hrun']
              · cases hr
          obtain ⟨u', hu, hrun⟩ := hone
          refine ⟨_, RL.cons hu h1, ?_⟩
          rw [List.mapM_cons]
          simp only [Sem.run_bind, Sem.run_pure, Result.andThen_ok, hrun, h2]
  unfold ares at h
  cases hm : fn.results.toList.mapM (ares1 T H e) with
  | none => rw [hm] at h; cases h
  | some vs =>
    rw [hm] at h
    obtain ⟨vs', h1, h2⟩ := key _ _ hm
    have hr : (results fn a.tmps).run P w = .ok (if h : vs'.toArray.size = 1 then vs'.toArray[0] else .tuple vs'.toArray) w := by
      rw [results_eq, Array.mapM_eq_mapM_toList]
      simp only [Sem.run_bind, Sem.run_map, h2, Result.andThen_ok, Sem.run_pure]
    have hl0 := h1.1
    match vs, vs', h1, h2, hr, h, hl0 with
    | [u], [u'], h1, h2, hr, h, _ =>
      obtain rfl := Option.some.inj h
      exact ⟨u', h1.2 0 _ _ rfl rfl, by rw [hr]; rfl⟩
    | [], [], h1, h2, hr, h, _ =>
      obtain rfl := Option.some.inj h
      exact ⟨_, h1.tuple, by rw [hr]; rfl⟩
    | x :: y :: l, x' :: y' :: l', h1, h2, hr, h, _ =>
      obtain rfl := Option.some.inj h
      refine ⟨_, h1.tuple, ?_⟩
      rw [hr, dif_neg (by simp)]
    | [], _ :: _, _, _, _, _, h0 => simp at h0
    | _ :: _, [], _, _, _, _, h0 => simp at h0
    | [_], _ :: _ :: _, _, _, _, _, h0 => simp at h0
    | _ :: _ :: _, [_], _, _, _, _, h0 => simp at h0
/-- **A contract out of the body.** -/
theorem ACalls_of {f : Nat} {fn : Func} {c : Code} {args : List Value} {M : Nat → Prop} {Q : Value → AHeap → Prop} (hT : TOK P T) (hf : P.funcs[f]? = some fn) (hb : fn.body = some c) (hN : args.length ≤ fn.ntmps)
    (h : AC P fn.ntmps (fun i => H.length ≤ i ∨ M i) c (fun ex e' H' => (ex = .ret ∨ ex = .normal) ∧ ∃ v, ares T H' e' fn.results.toList = some v ∧ Q v H') (argEnv 0 args) H) : ACalls P f args H M Q := fun w β args' hargs hI => by
  have hE : ER β (argEnv 0 args) { tmps := args'.toArray ++ Array.replicate (fn.ntmps - args'.toArray.size) undef, defers := [] } fn.ntmps := by
    refine ⟨by have := hargs.1; simp; omega, rfl, fun t => ?_⟩
    rw [get_argEnv]
    simp only [Nat.not_lt_zero, if_false, Nat.sub_zero]
    by_cases ht : t < args.length
    · have ht' : t < args'.length := by rw [← hargs.1]; exact ht
      have := hargs.2 t args[t] args'[t] (List.getElem?_eq_getElem ht) (List.getElem?_eq_getElem ht')
      simpa [Array.getElem?_append, ht, ht', List.getD_eq_getElem?_getD] using this
    · rw [List.getD_eq_getElem?_getD, List.getElem?_eq_none (by omega)]
      exact .junk _
  have hI' : Inv P (fun i => H.length ≤ i ∨ M i) (fun b => w.heap.size ≤ b ∨ Blocks M H β b) H β w := hI.weaken fun i o b d r hi ho hrw hβ => by
    rcases hi with hi | hi
    · have := (List.getElem?_eq_some_iff.1 ho).1; omega
    · exact .inr ⟨i, o, d, r, hi, ho, hrw, hβ⟩
  have hwp := h (fun b => w.heap.size ≤ b ∨ Blocks M H β b) w β _ w (fun b hb => .inl hb) (Fr.refl _ _) hI' hE
  refine calls_of_wp hf hb (Code.wp_mono (fun ex a' w' hp => ?_) hwp)
  have fin : ∀ (hx : St P fn.ntmps (fun i => H.length ≤ i ∨ M i) (fun b => w.heap.size ≤ b ∨ Blocks M H β b) w β H (fun e' H' => (ex = .ret ∨ ex = .normal) ∧ ∃ v, ares T H' e' fn.results.toList = some v ∧ Q v H') a' w'),
      (ex = .ret ∨ ex = .normal) ∧ a'.defers = [] ∧ ∃ v, (results fn a'.tmps).run P w' = .ok v w' ∧ ∃ va v' H' β', Ending.returned v = .returned v' ∧ Q va H' ∧ β <+: β' ∧ R β' va v' ∧
        Inv P (fun i => H.length ≤ i ∨ M i) (fun b => w.heap.size ≤ b ∨ Blocks M H β b) H' β' w' ∧ Fr (Blocks M H β) w w' ∧ AExt M H H' := by
    rintro ⟨e', H', β', ⟨hex, v, hv, hQ⟩, hβ, hI2, hE2, hF2, hX2⟩
    obtain ⟨v', hR, hrun⟩ := ares_sound hT hI2 hE2 hv
    refine ⟨hex, hE2.defers, v', hrun, v, v', H', β', rfl, hQ, hβ, hR, hI2, ⟨hF2.os, hF2.tape, hF2.output, hF2.size, fun b hb hn => hF2.block b hb fun hp => ?_⟩, ⟨hX2.size, fun i hi hn => hX2.obj i hi fun hp => ?_⟩⟩
    · rcases hp with hp | hp
      · omega
      · exact hn hp
    · rcases hp with hp | hp
      · omega
      · exact hn hp
  cases ex with
  | normal => obtain ⟨_, h1, v, h2, h3⟩ := fin hp; exact ⟨h1, v, h2, h3⟩
  | ret => obtain ⟨_, h1, v, h2, h3⟩ := fin hp; exact ⟨h1, v, h2, h3⟩
  | exit i => obtain ⟨h0, _⟩ := fin hp; rcases h0 with h0 | h0 <;> cases h0
  | goto i => obtain ⟨h0, _⟩ := fin hp; rcases h0 with h0 | h0 <;> cases h0
  | panic c => exact hp.elim
  | outgrown => exact hp.elim
end
end Go.Proofs.Ythalogdopkoidaa.Ab
set_option linter.unusedVariables false
namespace Go.Proofs.Ythalogdopkoidaa.Ab
open Go Go.RowKit Go.Proofs.Ythalogdopkoidaa.Dr
/-- One quiet operation, its guard looked at. -/
def q1 (T : Tab) (N : Nat) (ops : List Oper) (H : AHeap) (o : Oper) (e : Env) : Option Env :=
  match awant ops e o with
  | some true => (qop T H (aev e) o.op).map (eput N e o.dst)
  | some false => some (eput N e o.dst void)
  | none => none
def qrun (T : Tab) (N : Nat) (ops : List Oper) (H : AHeap) : List Oper → Env → Option Env
  | [], e => some e
  | o :: l, e => (q1 T N ops H o e).bind (qrun T N ops H l)
section
variable {P : Program} {T : Tab} {N : Nat} {ok : Nat → Prop} {e : Env} {H : AHeap}
theorem AL_q1 (hT : TOK P T) {ops : List Oper} {o : Oper} {l : List Oper} {e' : Env} {K : Env → AHeap → Prop} (h : q1 T N ops H o e = some e') (hk : AL P N ok ops l K e' H) : AL P N ok ops (o :: l) K e H := by
  unfold q1 at h
  split at h
  · rename_i hw
    cases hq : qop T H (aev e) o.op with
    | none => rw [hq] at h; cases h
    | some v =>
      rw [hq] at h
      obtain rfl := Option.some.inj h
      exact AL_step hw (AStep_q hT hq hk)
  · rename_i hw
    obtain rfl := Option.some.inj h
    exact AL_pass hw hk
  · cases h
theorem AL_run (hT : TOK P T) {ops : List Oper} {K : Env → AHeap → Prop} : ∀ (l l' : List Oper) (e : Env) {e' : Env}, qrun T N ops H l e = some e' → AL P N ok ops l' K e' H → AL P N ok ops (l ++ l') K e H
  | [], l', e, e', h, hk => by
    obtain rfl := Option.some.inj h
    exact hk
  | o :: l, l', e, e', h, hk => by
    simp only [qrun] at h
    cases h1 : q1 T N ops H o e with
    | none => rw [h1] at h; cases h
    | some e1 =>
      rw [h1] at h
      exact AL_q1 hT h1 (AL_run hT l l' e1 h hk)
/-- A whole region of quiet operations, its order drawn or not. -/
theorem AC_quiet (hT : TOK P T) {i : Nat} {l : List Oper} {Q : Exit → Env → AHeap → Prop} {e' : Env} (h : qrun T N l H l e = some e') (hk : Q .normal e' H) : AC P N ok (.region i l.toArray false) Q e H :=
  AC_region (by have := AL_run hT l [] e h (K := Q .normal) (ok := ok) (AL_nil hk); simpa using this)
/-- All taken, in the order of the text. -/
def lexS : Nat → Nat → List (Nat × Bool)
  | _, 0 => []
  | k, n + 1 => (k, true) :: lexS (k + 1) n
theorem AS_lex (hT : TOK P T) {ops : List Oper} {K : Env → AHeap → Prop} : ∀ (l : List Oper) (k : Nat) (e : Env) {e' : Env}, (∀ j, l[j]? = ops[k + j]?) → qrun T N ops H l e = some e' → K e' H → AS P N ok ops [] (lexS k l.length) K e H
  | [], k, e, e', _, h, hk => by
    obtain rfl := Option.some.inj h
    exact AS_nil hk
  | o :: l, k, e, e', hl, h, hk => by
    have h0 : ops[k]? = some o := by simpa using (hl 0).symm
    have hl' : ∀ j, l[j]? = ops[k + 1 + j]? := fun j => by have := hl (j + 1); simpa [Nat.add_assoc, Nat.add_comm 1 j] using this
    simp only [qrun] at h
    cases h1 : q1 T N ops H o e with
    | none => rw [h1] at h; cases h
    | some e1 =>
      rw [h1] at h
      unfold q1 at h1
      split at h1
      · rename_i hw
        cases hq : qop T H (aev e) o.op with
        | none => rw [hq] at h1; cases h1
        | some v =>
          rw [hq] at h1
          obtain rfl := Option.some.inj h1
          exact AS_take hT h0 hw hq (AS_lex hT l (k + 1) _ hl' h hk)
      · rename_i hw
        obtain rfl := Option.some.inj h1
        exact AS_take_pass h0 hw (AS_lex hT l (k + 1) _ hl' h hk)
      · cases h1
theorem AC_quiet_draw (hT : TOK P T) {i : Nat} {l : List Oper} {Q : Exit → Env → AHeap → Prop} {e' : Env} (hm : P.follows .mixedOrders = true) (hB : schedOK .any l [] (lexS 0 l.length) = true) (h : qrun T N l H l e = some e') (hk : Q .normal e' H) : AC P N ok (.region i l.toArray true) Q e H :=
  AC_draw [] (lexS 0 l.length) hm hB (AS_lex hT l 0 e (fun j => by simp) h hk)
end
end Go.Proofs.Ythalogdopkoidaa.Ab
set_option linter.unusedVariables false
namespace Go.Proofs.Ythalogdopkoidaa.Ab
open Go Go.RowKit Go.Proofs.Ythalogdopkoidaa.Dr
/-- A run of chosen operations. -/
def qat (T : Tab) (N : Nat) (ops : List Oper) (H : AHeap) (l : List Oper) (i : Nat) (e : Env) (k : Env → Option Env) : Option Env :=
  match l[i]? with
  | some o => (q1 T N ops H o e).bind k
  | none => none
def qsel (T : Tab) (N : Nat) (ops : List Oper) (H : AHeap) : List Nat → Env → Option Env
  | [], e => some e
  | i :: is, e => qat T N ops H ops i e (qsel T N ops H is)
section
variable {P : Program} {T : Tab} {N : Nat} {ok : Nat → Prop} {e : Env} {H : AHeap}
/-- In an order, the object m set apart. -/
def AM (P : Program) (N : Nat) (ok : Nat → Prop) (m : Nat) (ops : List Oper) (late : List Nat) (σ : List (Nat × Bool)) (K : Env → AHeap → Prop) (e : Env) (H : AHeap) : Prop :=
  ∀ (B : Nat → Prop) (perm : Nat → Prop) (w0 : World) (β : List Loc) (a : Act) (w : World) (Qc : Exit → Act → World → Prop), (∀ b, w0.heap.size ≤ b → perm b) → Fr perm w0 w → Inv P ok perm H β w → ER β e a N →
    (∀ (i : Nat) (o : AObj) (b d q : Nat), i ≠ m → H[i]? = some (some o) → β[i]? = some (b, d, q) → ¬ B b) → (∀ b d q, β[m]? = some (b, d, q) → B b) →
    (∀ a' w', St P N ok perm w0 β H K a' w' → Qc .normal a' w') → runS P B ops.toArray Qc late σ a w
theorem AM_nil {m : Nat} {ops : List Oper} {late : List Nat} {K : Env → AHeap → Prop} (h : K e H) : AM P N ok m ops late [] K e H := fun B perm w0 β a w Qc h1 h2 h3 h4 _ _ h5 => h5 _ _ (St.here h h3 h4 h2)
theorem Inv.masked {perm : Nat → Prop} {β : List Loc} {w : World} (h : Inv P ok perm H β w) (m : Nat) : Inv P ok perm (H.set m none) β w := by
  have get : ∀ (j : Nat) (x : AObj), (H.set m none)[j]? = some (some x) → j ≠ m ∧ H[j]? = some (some x) := fun j x hj => by
    by_cases e : j = m
    · subst e
      rw [List.getElem?_set] at hj
      simp at hj
    · rw [List.getElem?_set_ne (Ne.symm e)] at hj
      exact ⟨e, hj⟩
  exact ⟨by simp [h.len], fun i o b d r h1 h2 => h.obj i o b d r (get i o h1).2 h2, fun i j oi oj bi di ri bj dj rj h1 h2 => h.sep i j oi oj bi di ri bj dj rj (get i oi h1).2 (get j oj h2).2, fun i o b d r hok h1 => h.perm i o b d r hok (get i o h1).2⟩
theorem AM_q1 (hT : TOK P T) {m : Nat} {ops : List Oper} {late : List Nat} {i : Nat} {σ : List (Nat × Bool)} {o : Oper} {e' : Env} {K : Env → AHeap → Prop} (ho : ops[i]? = some o) (h : q1 T N ops (H.set m none) o e = some e')
    (hk : AM P N ok m ops late σ K e' H) : AM P N ok m ops late ((i, true) :: σ) K e H := fun B perm w0 β a w Qc h1 h2 h3 h4 b1 b2 h5 => by
  unfold q1 at h
  split at h
  · rename_i hw
    cases hq : qop T (H.set m none) (aev e) o.op with
    | none => rw [hq] at h; cases h
    | some v =>
      rw [hq] at h
      obtain rfl := Option.some.inj h
      obtain ⟨v', hv, hrun⟩ := qop_sound hT (h3.masked m) (fun x => h4.eval x) hq
      refine ⟨o, v', by simpa using ho, .inl ⟨awant_sound hw h4, fun w' hb => hrun w' fun j oj b d r g1 g2 => ?_⟩, hk B perm w0 β _ w Qc h1 h2 h3 (h4.put hv _) b1 b2 h5⟩
      have hj : j ≠ m ∧ H[j]? = some (some oj) := by
        by_cases e : j = m
        · subst e
          rw [List.getElem?_set] at g1
          simp at g1
        · rw [List.getElem?_set_ne (Ne.symm e)] at g1
          exact ⟨e, g1⟩
      exact hb.block b (h3.obj j oj b d r hj.2 g2).lt (b1 j oj b d r hj.1 hj.2 g2)
  · rename_i hw
    obtain rfl := Option.some.inj h
    exact ⟨o, undef, by simpa using ho, .inr ⟨awant_sound hw h4, rfl⟩, hk B perm w0 β _ w Qc h1 h2 h3 (h4.put .void _) b1 b2 h5⟩
  · cases h
theorem AM_sel (hT : TOK P T) {m : Nat} {ops : List Oper} {late : List Nat} {σ : List (Nat × Bool)} {K : Env → AHeap → Prop} : ∀ (is : List Nat) (e : Env) {e' : Env}, qsel T N ops (H.set m none) is e = some e' →
    AM P N ok m ops late σ K e' H → AM P N ok m ops late (is.map (fun i => (i, true)) ++ σ) K e H
  | [], e, e', h, hk => by
    obtain rfl := Option.some.inj h
    exact hk
  | i :: is, e, e', h, hk => by
    simp only [qsel, qat] at h
    cases ho : ops[i]? with
    | none => rw [ho] at h; cases h
    | some o =>
      rw [ho] at h
      dsimp only at h
      cases h1 : q1 T N ops (H.set m none) o e with
      | none => rw [h1] at h; cases h
      | some e1 =>
        rw [h1] at h
        exact AM_q1 hT ho h1 (AM_sel hT is e1 h hk)
/-- The object set apart is turned. -/
theorem AM_e (hT : TOK P T) {m : Nat} {ops : List Oper} {late : List Nat} {i : Nat} {σ : List (Nat × Bool)} {o : Oper} {r : Eff} {K : Env → AHeap → Prop} (ho : ops[i]? = some o) (hw : awant ops e o = some true)
    (h : eop T H (aev e) o.op = some r) (hr : r.2.2 = some m) (hlen : r.2.1.length = H.length) (hok : ok m) (hk : AM P N ok m ops late σ K (eput N e o.dst r.1) r.2.1) : AM P N ok m ops late ((i, false) :: σ) K e H :=
  fun B perm w0 β a w Qc h1 h2 h3 h4 b1 b2 h5 => by
    have hw' := awant_sound hw h4
    have ho' : ops.toArray[i]? = some o := by simpa using ho
    simp only [runS, wpOp, ho']
    rw [if_pos hw']
    refine .inl ?_
    obtain ⟨nx, w', β', v', hrun, hnx, hv, hβ, hI, hF, hX⟩ := eop_sound hT h3 (h1 _ h2.size) (fun x => h4.eval x) h (fun j hj => by rw [hr] at hj; obtain rfl := Option.some.inj hj; exact hok)
    have hββ : β' = β := by
      obtain ⟨t, rfl⟩ := hβ
      have e1 := hI.len
      have e2 := h3.len
      rw [List.length_append] at e1
      have : t = [] := List.eq_nil_of_length_eq_zero (by omega)
      simp [this]
    subst hββ
    have hF' : Fr perm w w' := hF.mono fun b _ ⟨j, d, q, hj, hb⟩ => by
      rw [hr] at hj
      obtain rfl := Option.some.inj hj
      obtain ⟨ob, hob, hrw⟩ := eop_turned h hr
      exact h3.perm _ ob b d q hok hob hrw hb
    have hFB : Fr B w w' := hF.mono fun b _ ⟨j, d, q, hj, hb⟩ => by
      rw [hr] at hj
      obtain rfl := Option.some.inj hj
      exact b2 b d q hb
    have hst : ∀ u, R β' r.1 u → runS P B ops.toArray Qc late σ (a.put o.dst u) w' := fun u hu => by
      refine hk B perm w0 β' _ w' Qc h1 (h2.trans hF') hI (h4.put hu _) (fun j oj b d q hj hob hb => ?_) b2 (fun a' w'' hs => h5 a' w'' (hs.from List.prefix_rfl (hX.mono fun j _ hj => ?_)))
      · have hlt : j < H.length := by rw [← hlen]; exact (List.getElem?_eq_some_iff.1 hob).1
        rw [hX.obj j hlt (fun hj' => by rw [hr] at hj'; exact hj (Option.some.inj hj').symm)] at hob
        exact b1 j oj b d q hj hob hb
      · rw [hr] at hj
        obtain rfl := Option.some.inj hj
        exact hok
    unfold Oper.wp
    rw [hrun]
    rcases hnx with rfl | ⟨rfl, rfl⟩
    · rw [Oper.upon_value]; exact ⟨fun _ => hFB, hst _ hv⟩
    · rw [Oper.upon_skip]; exact ⟨fun _ => hFB, hst _ hv⟩
theorem AC_drawM {i : Nat} {l : List Oper} {Q : Exit → Env → AHeap → Prop} (m : Nat) (late : List Nat) (σ : List (Nat × Bool)) (hm : P.follows .mixedOrders = true) (hB : schedOK .any l late σ = true) {om : AObj} (hom : H[m]? = some (some om)) (hrw : om.rw = true)
    (h : AM P N ok m l late σ (Q .normal) e H) : AC P N ok (.region i l.toArray true) Q e H := fun perm w0 β a w h1 h2 h3 h4 => by
  have hd : Below w.heap.size w { w with drawn := w.drawn + 1 } := ⟨rfl, rfl, rfl, Nat.le_refl _, fun _ _ => rfl⟩
  refine wp_region_sched (B := fun b => ∃ d q, β[m]? = some (b, d, q)) late σ hm hB (fun c a d v w h => h.elim) (h _ perm w0 β a { w with drawn := w.drawn + 1 } _ h1 (h2.trans (Fr.below hd perm)) (h3.below hd) h4 ?_ ?_ (fun _ _ hst => hst))
  · rintro j oj b d q hj hob hb ⟨d', q', hb'⟩
    exact h3.sep m j om oj b d' q' b d q hom hob (Ne.symm hj) hrw hb' hb rfl
  · exact fun b d q hb => ⟨d, q, hb⟩
end
end Go.Proofs.Ythalogdopkoidaa.Ab
set_option linter.unusedVariables false
namespace Go.Proofs.Ythalogdopkoidaa.Ab
open Go Go.RowKit Go.Proofs.Ythalogdopkoidaa.Dr
/-- What is known of less objects is known of more. -/
theorem aload_mono {T : Tab} {H H' : AHeap} (hH : ∀ (i : Nat) (o : AObj), H[i]? = some (some o) → H'[i]? = some (some o)) {t : Nat} {x v : Value} (h : aload T H t x = some v) : aload T H' t x = some v := by
  unfold aload at h ⊢
  split at h
  · split at h
    · rename_i o ho
      rw [hH _ _ ho]
      exact h
    · cases h
  · cases h
theorem aconv_mono {T : Tab} {H H' : AHeap} (hH : ∀ (i : Nat) (o : AObj), H[i]? = some (some o) → H'[i]? = some (some o)) {s d : Nat} {x v : Value} (h : aconv T H s d x = some v) : aconv T H' s d x = some v := by
  unfold aconv at h ⊢
  split at h
  · exact h
  · split at h
    · rename_i si di hsi hdi
      try rw [hsi, hdi]
      try dsimp only
      split at h
      · rename_i e hs hd
        try rw [hs, hd]
        try dsimp only
        split at h
        · rename_i ei hei
          try rw [hei]
          try dsimp only
          split at h
          · rename_i he
            try rw [he]
            try dsimp only
            split at h
            · exact h
            · split at h
              · rename_i hn
                rw [if_pos hn]; exact h
              · rename_i hn
                rw [if_neg hn]
                split at h
                · rename_i o ho
                  rw [hH _ _ ho]
                  exact h
                · cases h
            · cases h
          · cases h
        · cases h
      · cases h
    · cases h
  · cases h
theorem qop_mono {T : Tab} {H H' : AHeap} (hH : ∀ (i : Nat) (o : AObj), H[i]? = some (some o) → H'[i]? = some (some o)) {ev : Operand → Value} {op : Op} {v : Value} (h : qop T H ev op = some v) : qop T H' ev op = some v := by
  cases op with
  | unOp op t x => cases op <;> simp only [qop] at h ⊢ <;> first | exact h | cases h
  | slice t x lo hi mx => cases mx <;> simp only [qop] at h ⊢ <;> first | exact h | cases h
  | load t x => exact aload_mono hH h
  | convert a b x => exact aconv_mono hH h
  | _ => exact h
def pad (H : AHeap) (n : Nat) : AHeap := H ++ List.replicate (n - H.length) none
theorem pad_live {H : AHeap} {n i : Nat} {o : AObj} : (pad H n)[i]? = some (some o) ↔ H[i]? = some (some o) := by
  unfold pad
  by_cases hi : i < H.length
  · rw [List.getElem?_append_left hi]
  · rw [List.getElem?_append_right (by omega), List.getElem?_eq_none (by omega : H.length ≤ i)]
    constructor
    · intro h
      have := List.mem_of_getElem? h
      have := List.eq_of_mem_replicate this
      cases this
    · intro h; cases h
/-- Objects that no operation has turned. -/
structure Still (P : Program) (B : Nat → Prop) (Hs : AHeap) (β : List Loc) (w : World) : Prop where
  len : Hs.length ≤ β.length
  obj : ∀ (i : Nat) (o : AObj) (b d r : Nat), Hs[i]? = some (some o) → β[i]? = some (b, d, r) → Bears P β w o b d r ∧ ¬ B b
  sep : ∀ (i j : Nat) (oi oj : AObj) (bi di ri bj dj rj : Nat), Hs[i]? = some (some oi) → Hs[j]? = some (some oj) → i ≠ j → oi.rw = true → β[i]? = some (bi, di, ri) → β[j]? = some (bj, dj, rj) → bi ≠ bj
theorem Still.inv {P : Program} {B : Nat → Prop} {Hs : AHeap} {β : List Loc} {w : World} (h : Still P B Hs β w) : Inv P (fun _ => False) (fun _ => False) (pad Hs β.length) β w :=
  ⟨by have := h.len; simp [pad]; omega, fun i o b d r h1 h2 => (h.obj i o b d r (pad_live.1 h1) h2).1, fun i j oi oj bi di ri bj dj rj h1 h2 => h.sep i j oi oj bi di ri bj dj rj (pad_live.1 h1) (pad_live.1 h2), fun i o b d r hf => hf.elim⟩
theorem Still.nil {P : Program} {B : Nat → Prop} {β : List Loc} {w : World} : Still P B [] β w := ⟨by simp, fun i o b d r h => by simp at h, fun i j oi oj bi di ri bj dj rj h => by simp at h⟩
theorem Still.go {P : Program} {B : Nat → Prop} {Hs : AHeap} {β β' : List Loc} {w w' : World} (h : Still P B Hs β w) (hβ : β <+: β') (hF : Fr B w w') : Still P B Hs β' w' := by
  have back : ∀ (i : Nat) (o : AObj) (x : Loc), Hs[i]? = some (some o) → β'[i]? = some x → β[i]? = some x := fun i o x hi hx => by
    obtain ⟨t, rfl⟩ := hβ
    have := (List.getElem?_eq_some_iff.1 hi).1
    rwa [List.getElem?_append_left (by have := h.len; omega)] at hx
  refine ⟨Nat.le_trans h.len hβ.length_le, fun i o b d r h1 h2 => ?_, fun i j oi oj bi di ri bj dj rj h1 h2 hne hrw h3 h4 => h.sep i j oi oj bi di ri bj dj rj h1 h2 hne hrw (back i oi _ h1 h3) (back j oj _ h2 h4)⟩
  obtain ⟨g1, g2⟩ := h.obj i o b d r h1 (back i o _ h1 h2)
  exact ⟨(g1.ext hβ).same hF.size (hF.block b g1.lt g2), g2⟩
section
variable {P : Program} {T : Tab} {N : Nat} {ok : Nat → Prop} {e : Env} {H : AHeap} {Msk : Nat → Prop} {ops : List Oper} {late : List Nat} {σ : List (Nat × Bool)} {K : Env → AHeap → Prop} {Hs : AHeap}
/-- In an order; what is read early is read out of Hs; Msk: what may be turned meanwhile. -/
def AG (P : Program) (N : Nat) (ok : Nat → Prop) (Msk : Nat → Prop) (ops : List Oper) (late : List Nat) (σ : List (Nat × Bool)) (K : Env → AHeap → Prop) (Hs : AHeap) (e : Env) (H : AHeap) : Prop :=
  ∀ (B : Nat → Prop) (perm : Nat → Prop) (w0 : World) (β : List Loc) (a : Act) (w : World) (Qc : Exit → Act → World → Prop), (∀ b, w0.heap.size ≤ b → perm b) → Fr perm w0 w → Inv P ok perm H β w → ER β e a N →
    Still P B Hs β w → (∀ i, Msk i → i < β.length) → (∀ i b d q, Msk i → β[i]? = some (b, d, q) → B b) →
    (∀ a' w', St P N ok perm w0 β H K a' w' → Qc .normal a' w') → runS P B ops.toArray Qc late σ a w
theorem AG_nil (h : K e H) : AG P N ok Msk ops late [] K Hs e H := fun B perm w0 β a w Qc h1 h2 h3 h4 _ _ _ h5 => h5 _ _ (St.here h h3 h4 h2)
theorem AG_q1 (hT : TOK P T) {i : Nat} {o : Oper} {e' : Env} (ho : ops[i]? = some o) (h : q1 T N ops Hs o e = some e') (hk : AG P N ok Msk ops late σ K Hs e' H) : AG P N ok Msk ops late ((i, true) :: σ) K Hs e H :=
  fun B perm w0 β a w Qc h1 h2 h3 h4 hS hM b2 h5 => by
    unfold q1 at h
    split at h
    · rename_i hw
      cases hq : qop T Hs (aev e) o.op with
      | none => rw [hq] at h; cases h
      | some v =>
        rw [hq] at h
        obtain rfl := Option.some.inj h
        obtain ⟨v', hv, hrun⟩ := qop_sound hT hS.inv (fun x => h4.eval x) (qop_mono (fun i o ho => pad_live.2 ho) hq)
        refine ⟨o, v', by simpa using ho, .inl ⟨awant_sound hw h4, fun w' hb => hrun w' fun j oj b d r g1 g2 => ?_⟩, hk B perm w0 β _ w Qc h1 h2 h3 (h4.put hv _) hS hM b2 h5⟩
        obtain ⟨k1, k2⟩ := hS.obj j oj b d r (pad_live.1 g1) g2
        exact hb.block b k1.lt k2
    · rename_i hw
      obtain rfl := Option.some.inj h
      exact ⟨o, undef, by simpa using ho, .inr ⟨awant_sound hw h4, rfl⟩, hk B perm w0 β _ w Qc h1 h2 h3 (h4.put .void _) hS hM b2 h5⟩
    · cases h
theorem AG_sel (hT : TOK P T) : ∀ (is : List Nat) (e : Env) {e' : Env}, qsel T N ops Hs is e = some e' → AG P N ok Msk ops late σ K Hs e' H → AG P N ok Msk ops late (is.map (fun i => (i, true)) ++ σ) K Hs e H
  | [], e, e', h, hk => by
    obtain rfl := Option.some.inj h
    exact hk
  | i :: is, e, e', h, hk => by
    simp only [qsel, qat] at h
    cases ho : ops[i]? with
    | none => rw [ho] at h; cases h
    | some o =>
      rw [ho] at h
      dsimp only at h
      cases h1 : q1 T N ops Hs o e with
      | none => rw [h1] at h; cases h
      | some e1 =>
        rw [h1] at h
        exact AG_q1 hT ho h1 (AG_sel hT is e1 h hk)
/-- One that reads, at its turn. -/
theorem AG_only (hT : TOK P T) {i : Nat} {o : Oper} {e' : Env} (ho : ops[i]? = some o) (h : q1 T N ops H o e = some e') (hk : AG P N ok Msk ops late σ K Hs e' H) : AG P N ok Msk ops late ((i, false) :: σ) K Hs e H :=
  fun B perm w0 β a w Qc h1 h2 h3 h4 hS hM b2 h5 => by
    have ho' : ops.toArray[i]? = some o := by simpa using ho
    simp only [runS, wpOp, ho']
    unfold q1 at h
    split at h
    · rename_i hw
      cases hq : qop T H (aev e) o.op with
      | none => rw [hq] at h; cases h
      | some v =>
        rw [hq] at h
        obtain rfl := Option.some.inj h
        obtain ⟨v', hv, hrun⟩ := qop_sound hT h3 (fun x => h4.eval x) hq
        rw [if_pos (awant_sound hw h4)]
        refine .inl ?_
        unfold Oper.wp
        rw [hrun w (Keeps.refl _ _ _), Oper.upon_value]
        exact ⟨fun _ => Fr.refl _ _, hk B perm w0 β _ w Qc h1 h2 h3 (h4.put hv _) hS hM b2 h5⟩
    · rename_i hw
      obtain rfl := Option.some.inj h
      rw [if_neg (by rw [awant_sound hw h4]; simp)]
      exact ⟨fun _ => Fr.refl _ _, hk B perm w0 β _ w Qc h1 h2 h3 (h4.put .void _) hS hM b2 h5⟩
    · cases h
theorem AG_step {i : Nat} {o : Oper} {Mi : Nat → Prop} (ho : ops[i]? = some o) (hw : awant ops e o = some true) (Hs' : AHeap) (hs : Hs' = Hs ∧ (∀ j, j < H.length → Mi j → Msk j) ∨ Hs' = [] ∧ late.contains i = true)
    (h : ∀ (perm : Nat → Prop) (w0 : World) (β : List Loc) (a : Act) (w : World) (Qc : Exit → Act → World → Prop), (∀ b, w0.heap.size ≤ b → perm b) → Fr perm w0 w → Inv P ok perm H β w → ER β e a N →
      o.wp P a w (fun a' w' => Fr (Blocks Mi H β) w w' ∧ St P N ok perm w0 β H (fun e' H' => AG P N ok Msk ops late σ K Hs' e' H') a' w') Qc) : AG P N ok Msk ops late ((i, false) :: σ) K Hs e H :=
  fun B perm w0 β a w Qc h1 h2 h3 h4 hS hM b2 h5 => by
    have ho' : ops.toArray[i]? = some o := by simpa using ho
    simp only [runS, wpOp, ho']
    rw [if_pos (awant_sound hw h4)]
    refine .inl (Oper.wp_mono (fun a' w' hp => ?_) (h perm w0 β a w Qc h1 h2 h3 h4))
    obtain ⟨hF, e', H', β', hK, hβ, hI, hE, hFr, hX⟩ := hp
    have hM' : ∀ j, Msk j → j < β'.length := fun j hj => Nat.lt_of_lt_of_le (hM j hj) hβ.length_le
    have b2' : ∀ j b d q, Msk j → β'[j]? = some (b, d, q) → B b := fun j b d q hj hb => by
      obtain ⟨t, rfl⟩ := hβ
      rw [List.getElem?_append_left (hM j hj)] at hb
      exact b2 j b d q hj hb
    rcases hs with ⟨rfl, hsub⟩ | ⟨rfl, hl⟩
    · have hFB : Fr B w w' := hF.mono fun b _ ⟨j, ob, d, q, hj, hob, _, hb⟩ => b2 j b d q (hsub j (List.getElem?_eq_some_iff.1 hob).1 hj) hb
      exact ⟨fun _ => hFB, hK B perm w0 β' a' w' Qc h1 hFr hI hE (hS.go hβ hFB) hM' b2' (fun a'' w'' hst => h5 a'' w'' (hst.from hβ hX))⟩
    · exact ⟨fun hn => (by rw [hl] at hn; cases hn), hK B perm w0 β' a' w' Qc h1 hFr hI hE Still.nil hM' b2' (fun a'' w'' hst => h5 a'' w'' (hst.from hβ hX))⟩
theorem AG_e (hT : TOK P T) {i : Nat} {o : Oper} {r : Eff} (ho : ops[i]? = some o) (hw : awant ops e o = some true) (h : eop T H (aev e) o.op = some r) (hok : ∀ j, r.2.2 = some j → ok j)
    (Hs' : AHeap) (hs : Hs' = Hs ∧ (∀ j, j < H.length → r.2.2 = some j → Msk j) ∨ Hs' = [] ∧ late.contains i = true) (hk : AG P N ok Msk ops late σ K Hs' (eput N e o.dst r.1) r.2.1) : AG P N ok Msk ops late ((i, false) :: σ) K Hs e H :=
  AG_step (Mi := fun j => r.2.2 = some j) ho hw Hs' hs fun perm w0 β a w Qc h1 h2 h3 h4 => by
    obtain ⟨nx, w', β', v', hrun, hnx, hv, hβ, hI, hF, hX⟩ := eop_sound hT h3 (h1 _ h2.size) (fun x => h4.eval x) h hok
    have hFB : Fr (Blocks (fun j => r.2.2 = some j) H β) w w' := hF.mono fun b _ ⟨j, d, q, hj, hb⟩ => by
      obtain ⟨ob, hob, hrw⟩ := eop_turned h hj
      exact ⟨j, ob, d, q, hj, hob, hrw, hb⟩
    have hF' : Fr perm w w' := hFB.mono fun b _ ⟨j, ob, d, q, hj, hob, hrw, hb⟩ => h3.perm j ob b d q (hok j hj) hob hrw hb
    have hst : ∀ u, R β' r.1 u → St P N ok perm w0 β H (fun e' H' => AG P N ok Msk ops late σ K Hs' e' H') (a.put o.dst u) w' := fun u hu =>
      ⟨_, _, β', hk, hβ, hI, (h4.ext hβ).put hu _, h2.trans hF', hX.mono fun j _ hj => hok j hj⟩
    unfold Oper.wp
    rw [hrun]
    rcases hnx with rfl | ⟨rfl, rfl⟩
    · rw [Oper.upon_value]; exact ⟨hFB, hst _ hv⟩
    · rw [Oper.upon_skip]; exact ⟨hFB, hst _ hv⟩
theorem AC_drawG {i : Nat} {l : List Oper} {Q : Exit → Env → AHeap → Prop} (Msk : Nat → Prop) (Hs : AHeap) (late : List Nat) (σ : List (Nat × Bool)) (hm : P.follows .mixedOrders = true) (hB : schedOK .any l late σ = true)
    (hMsk : ∀ i, Msk i → ∃ o, H[i]? = some (some o) ∧ o.rw = true) (hHs : ∀ i o, Hs[i]? = some (some o) → H[i]? = some (some o) ∧ ¬ Msk i) (hlen : Hs.length ≤ H.length)
    (h : AG P N ok Msk l late σ (Q .normal) Hs e H) : AC P N ok (.region i l.toArray true) Q e H := fun perm w0 β a w h1 h2 h3 h4 => by
  have hd : Below w.heap.size w { w with drawn := w.drawn + 1 } := ⟨rfl, rfl, rfl, Nat.le_refl _, fun _ _ => rfl⟩
  refine wp_region_sched (B := fun b => ∃ i d q, Msk i ∧ β[i]? = some (b, d, q)) late σ hm hB (fun c a d v w h => h.elim)
    (h _ perm w0 β a { w with drawn := w.drawn + 1 } _ h1 (h2.trans (Fr.below hd perm)) (h3.below hd) h4 ⟨by rw [h3.len]; exact hlen, fun j o b d r g1 g2 => ⟨(h3.below hd).obj j o b d r (hHs j o g1).1 g2, ?_⟩, fun i j oi oj bi di ri bj dj rj g1 g2 => h3.sep i j oi oj bi di ri bj dj rj (hHs i oi g1).1 (hHs j oj g2).1⟩ (fun j hj => ?_) (fun j b d q hj hb => ⟨j, d, q, hj, hb⟩) (fun _ _ hst => hst))
  · rintro ⟨k, d', q', hk, hb'⟩
    obtain ⟨ok', hok', hrw⟩ := hMsk k hk
    have hne : k ≠ j := fun e => (hHs j o g1).2 (e ▸ hk)
    exact h3.sep k j ok' o b d' q' b d r hok' (hHs j o g1).1 hne hrw hb' g2 rfl
  · obtain ⟨o, ho, _⟩ := hMsk j hj
    rw [h3.len]
    exact (List.getElem?_eq_some_iff.1 ho).1
end
end Go.Proofs.Ythalogdopkoidaa.Ab
set_option linter.unusedVariables false
namespace Go.Proofs.Ythalogdopkoidaa.Dr
open Go Go.RowKit Go.Proofs.Ythalogdopkoidaa.Ab
section
variable {P : Program} {md : Region.Mode} {ops : Array Oper} {Q : Exit → Act → World → Prop} {B : Nat → Prop}
/-- What is listed behind operations that are taken ahead. -/
def ahead (md : Region.Mode) (ops : Array Oper) : List Nat → Array Bool → Option (Array Bool)
  | [], listed => some listed
  | i :: is, listed => if ((Region.ready md ops listed).contains i && Region.free md ops listed i) = true then ahead md ops is (listed.setIfInBounds i true) else none
def PureRun (P : Program) (B : Nat → Prop) (ops : Array Oper) : List Nat → Act → Act → Prop
  | [], a, a' => a = a'
  | i :: is, a, a' => ∃ o v, ops[i]? = some o ∧ (∀ w, From P B ops o v a w) ∧ PureRun P B ops is (a.put o.dst v) a'
def schedOKA (md : Region.Mode) (ops : List Oper) (is : List Nat) (late : List Nat) (σ : List (Nat × Bool)) : Bool :=
  Region.noSelect ops.toArray && decide (is.length + σ.length = ops.length) && (match ahead md ops.toArray is (Array.replicate ops.length false) with
    | some listed => schedGo md ops.toArray late (ancs md ops) σ listed
    | none => false)
end
end Go.Proofs.Ythalogdopkoidaa.Dr
namespace Go.Proofs.Ythalogdopkoidaa.Ab
open Go Go.RowKit Go.Proofs.Ythalogdopkoidaa.Dr
section
variable {P : Program} {T : Tab} {N : Nat} {ok : Nat → Prop} {e : Env} {H : AHeap} {Msk : Nat → Prop} {ops : List Oper} {late : List Nat} {σ : List (Nat × Bool)} {K : Env → AHeap → Prop} {Hs : AHeap}
end
end Go.Proofs.Ythalogdopkoidaa.Ab
set_option linter.unusedVariables false
namespace Go.Proofs.Ythalogdopkoidaa.Dr
open Go Go.RowKit Go.Proofs.Ythalogdopkoidaa.Ab
/-- Orders: operations one by one (is it taken first?), or two that are ready, either first. -/
inductive Tr where
  | nil
  | cons (x : Nat × Bool) (t : Tr)
  | fork (i : Nat) (t : Tr) (j : Nat) (s : Tr)
def Tr.pre : List Nat → Tr → Tr
  | [], t => t
  | i :: is, t => .cons (i, true) (Tr.pre is t)
section
variable {P : Program} {md : Region.Mode} {ops : Array Oper} {Q : Exit → Act → World → Prop} {B : Nat → Prop}
def trGo (md : Region.Mode) (ops : Array Oper) (late : List Nat) (anc : List (List Nat)) : Tr → Array Bool → Nat → Bool
  | .nil, listed, n => decide (n = 0) && (Region.ready md ops listed).isEmpty
  | .cons (i, true) t, listed, n + 1 => (Region.ready md ops listed).contains i && Region.free md ops listed i && (late.all fun j => (anc.getD j []).contains i) && trGo md ops late anc t (listed.setIfInBounds i true) n
  | .cons (i, false) t, listed, n + 1 => decide (Region.ready md ops listed = [i]) && trGo md ops late anc t (listed.setIfInBounds i true) n
  | .fork i t j s, listed, n + 1 => decide (Region.ready md ops listed = [i, j]) && trGo md ops late anc t (listed.setIfInBounds i true) n && trGo md ops late anc s (listed.setIfInBounds j true) n
  | _, _, 0 => false
def runTr (P : Program) (B : Nat → Prop) (ops : Array Oper) (Q : Exit → Act → World → Prop) (late : List Nat) : Tr → Act → World → Prop
  | .nil, a, w => Q .normal a w
  | .cons (i, true) t, a, w => ∃ o v, ops[i]? = some o ∧ From P B ops o v a w ∧ runTr P B ops Q late t (a.put o.dst v) w
  | .cons (i, false) t, a, w => wpOp P ops Q i (fun a' w' => (late.contains i = false → Fr B w w') ∧ runTr P B ops Q late t a' w') a w
  | .fork i t j s, a, w => wpOp P ops Q i (fun a' w' => (late.contains i = false → Fr B w w') ∧ runTr P B ops Q late t a' w') a w ∧ wpOp P ops Q j (fun a' w' => (late.contains j = false → Fr B w w') ∧ runTr P B ops Q late s a' w') a w
def treeOK (md : Region.Mode) (ops : List Oper) (is : List Nat) (late : List Nat) (t : Tr) : Bool :=
  Region.noSelect ops.toArray && decide (is.length ≤ ops.length) && (match ahead md ops.toArray is (Array.replicate ops.length false) with
    | some listed => trGo md ops.toArray late (ancs md ops) t listed (ops.length - is.length)
    | none => false)
end
end Go.Proofs.Ythalogdopkoidaa.Dr
namespace Go.Proofs.Ythalogdopkoidaa.Ab
open Go Go.RowKit Go.Proofs.Ythalogdopkoidaa.Dr
section
variable {P : Program} {T : Tab} {N : Nat} {ok : Nat → Prop} {e : Env} {H : AHeap} {Msk : Nat → Prop} {ops : List Oper} {late : List Nat} {σ : Tr} {K : Env → AHeap → Prop} {Hs : AHeap}
/-- In a tree of orders; what is read early is read out of Hs; Msk: what may be turned meanwhile, all that is new among it. -/
def AT (P : Program) (N : Nat) (ok : Nat → Prop) (Msk : Nat → Prop) (ops : List Oper) (late : List Nat) (σ : Tr) (K : Env → AHeap → Prop) (Hs : AHeap) (e : Env) (H : AHeap) : Prop :=
  ∀ (B : Nat → Prop) (perm : Nat → Prop) (w0 : World) (β : List Loc) (a : Act) (w : World) (Qc : Exit → Act → World → Prop), (∀ b, w0.heap.size ≤ b → perm b) → Fr perm w0 w → Inv P ok perm H β w → ER β e a N →
    Still P B Hs β w → (∀ i, H.length ≤ i → Msk i) → (∀ b, w.heap.size ≤ b → B b) → (∀ (i : Nat) (o : AObj) (b d q : Nat), Msk i → H[i]? = some (some o) → o.rw = true → β[i]? = some (b, d, q) → B b) →
    (∀ a' w', St P N ok perm w0 β H K a' w' → Qc .normal a' w') → runTr P B ops.toArray Qc late σ a w
/-- What an operation that turns only Mi leaves. -/
def Turns (P : Program) (N : Nat) (Mi : Nat → Prop) (H : AHeap) (β : List Loc) (w : World) (K : Env → AHeap → Prop) (a' : Act) (w' : World) : Prop :=
  ∃ e' H' β', K e' H' ∧ β <+: β' ∧ Inv P (fun i => H.length ≤ i ∨ Mi i) (fun b => w.heap.size ≤ b ∨ Blocks Mi H β b) H' β' w' ∧ ER β' e' a' N ∧ Fr (Blocks Mi H β) w w' ∧ AExt Mi H H'
end
end Go.Proofs.Ythalogdopkoidaa.Ab
