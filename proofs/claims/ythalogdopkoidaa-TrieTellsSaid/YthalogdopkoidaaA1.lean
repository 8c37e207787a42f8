/- One chosen order of a region that draws its order stands for all orders: the operations that only read are taken first, those that make memory come when nothing else can. Conditions: the checks of 'schedOK'. -/
import Derived.Orders
import Derived.Below
set_option linter.unusedVariables false
namespace Go.Proofs.Ythalogdopkoidaa.Ab
open Go Go.RowKit

/-- All but the blocks that may be turned is as it was. -/
structure Fr (perm : Nat → Prop) (w w' : World) : Prop where
  os : w'.os = w.os
  tape : w'.tape = w.tape
  output : w'.output = w.output
  size : w.heap.size ≤ w'.heap.size
  block : ∀ b, b < w.heap.size → ¬ perm b → w'.heap[b]? = w.heap[b]?

theorem Fr.refl (perm : Nat → Prop) (w : World) : Fr perm w w := ⟨rfl, rfl, rfl, Nat.le_refl _, fun _ _ _ => rfl⟩
theorem Fr.trans {perm : Nat → Prop} {a b c : World} (h : Fr perm a b) (k : Fr perm b c) : Fr perm a c :=
  ⟨k.os.trans h.os, k.tape.trans h.tape, k.output.trans h.output, Nat.le_trans h.size k.size, fun i hi hn => (k.block i (Nat.lt_of_lt_of_le hi h.size) hn).trans (h.block i hi hn)⟩
theorem Fr.mono {perm perm' : Nat → Prop} {w w' : World} (h : Fr perm w w') (hp : ∀ b, b < w.heap.size → perm b → perm' b) : Fr perm' w w' :=
  ⟨h.os, h.tape, h.output, h.size, fun b hb hn => h.block b hb fun hp' => hn (hp b hb hp')⟩
theorem Fr.below {w w' : World} (h : Below w.heap.size w w') (perm : Nat → Prop) : Fr perm w w' := ⟨h.os, h.tape, h.output, h.size, fun b hb _ => h.block b hb⟩
theorem Fr.to_below {w w' : World} (h : Fr (fun _ => False) w w') : Below w.heap.size w w' := ⟨h.os, h.tape, h.output, h.size, fun b hb => h.block b hb id⟩

end Go.Proofs.Ythalogdopkoidaa.Ab
namespace Go.Proofs.Ythalogdopkoidaa.Dr
open Go Go.RowKit Go.Proofs.Ythalogdopkoidaa.Ab

section
variable {P : Program} {ops : Array Oper} {Q : Exit → Act → World → Prop} {md : Region.Mode} {B : Nat → Prop}

/-- From a world on: in every later world that leaves what was there as it was, but for the blocks B, the operation yields v. -/
def From (P : Program) (B : Nat → Prop) (ops : Array Oper) (o : Oper) (v : Value) (a : Act) (w : World) : Prop :=
  (Region.wanted o (yielded ops a.tmps) = true ∧ ∀ w', Fr B w w' → (execOp a.eval o).run P w' = .ok (.value v) w') ∨
  (Region.wanted o (yielded ops a.tmps) = false ∧ v = undef)

theorem From.later {o : Oper} {v : Value} {a : Act} {w w1 : World} (h : From P B ops o v a w) (hb : Fr B w w1) : From P B ops o v a w1 :=
  h.imp (fun ⟨hw, hv⟩ => ⟨hw, fun w' hb' => hv w' (hb.trans hb')⟩) id

theorem From.wpOp {i : Nat} {o : Oper} {v : Value} {a : Act} (hi : ops[i]? = some o) {w : World} (hy : From P B ops o v a w)
    {K : Act → World → Prop} (h : K (a.put o.dst v) w) : wpOp P ops Q i K a w := by
  unfold Go.wpOp
  simp only [hi]
  rcases hy with ⟨hw, hv⟩ | ⟨hw, rfl⟩
  · simp only [hw, if_true, Oper.wp, hv w (Fr.refl _ _), Oper.upon]; exact .inl h
  · simp only [hw, Bool.false_eq_true, if_false]; exact h

theorem From.of_same {o : Oper} {v : Value} {a a' : Act} {w : World} (hy : From P B ops o v a w) (he : execOp a'.eval o = execOp a.eval o)
    (hw : Region.wanted o (yielded ops a'.tmps) = Region.wanted o (yielded ops a.tmps)) : From P B ops o v a' w := by
  unfold From at *
  rw [he, hw]
  exact hy

/-- What an operation leaves when it yields its value early. -/
theorem wpOp_putF {j : Nat} {oi oj : Oper} {v : Value} {w0 : World} (hj : ops[j]? = some oj) (hap : oi.apart ops oj = true)
    (hsi : ∀ cs b, oi.op ≠ .select cs b) (hsj : ∀ cs b, oj.op ≠ .select cs b)
    (hQ : ∀ c a w, Q (.panic c) (a.put oi.dst v) w → Q (.panic c) a w) {K : Act → World → Prop} {a : Act} {w : World}
    (hy : From P B ops oi v a w0) (h : wpOp P ops Q j K (a.put oi.dst v) w) :
    wpOp P ops Q j (fun a' w' => From P B ops oi v a' w0 ∧ K (a'.put oi.dst v) w') a w := by
  obtain ⟨h1, h2, h3⟩ := Oper.apart_spec hap
  have keep : ∀ (a : Act), From P B ops oi v a w0 → ∀ u, From P B ops oi v (a.put oj.dst u) w0 := fun a hy u =>
    hy.of_same (execOp_put oi hsi a oj.dst u h3) (wanted_put oi a oj.dst u h3)
  have keepD : ∀ d, From P B ops oi v { a with defers := d :: a.defers } w0 := fun d => hy.of_same rfl rfl
  unfold wpOp at *
  simp only [hj] at *
  rw [wanted_put oj a oi.dst v h1] at h
  split
  · rename_i hw
    simp only [hw, if_true] at h
    rcases h with h | ⟨hasks, hlets⟩
    case inr => exact .inr ⟨by unfold Oper.asks at *; rw [execOp_put oj hsj a oi.dst v h1] at hasks; exact hasks, hlets⟩
    refine .inl ?_
    unfold Oper.wp at *
    rw [execOp_put oj hsj a oi.dst v h1] at h
    generalize (execOp a.eval oj).run P w = r at *
    cases r with
    | ok n w' =>
      cases n <;> simp only [Oper.upon] at h ⊢
      case value u => exact ⟨keep a hy u, by rw [← Act.put_comm a v u h2]; exact h⟩
      case skip => exact ⟨keep a hy _, by rw [← Act.put_comm a v undef h2]; exact h⟩
      case defer d =>
        refine ⟨keep _ (keepD d) _, ?_⟩
        rw [← Act.put_comm _ v undef h2, ← Act.put_defers]
        exact h
      case enter f args =>
        refine Calls.mono h fun e w'' he => ?_
        cases e with
        | returned u => exact ⟨keep a hy u, by rw [← Act.put_comm a v u h2]; exact he⟩
        | panicked c => exact hQ _ _ _ he
        | outgrown => exact he
      case row row args => exact Rows.mono h fun u w'' he => ⟨keep a hy u, by rw [← Act.put_comm a v u h2]; exact he⟩
    | halt x w' =>
      cases x <;> simp only [Oper.upon] at h ⊢
      case panic u => exact hQ _ _ _ h
  · rename_i hw
    simp only [hw] at h
    exact ⟨keep a hy _, by rw [← Act.put_comm a v undef h2]; exact h⟩

/-- Whatever order is picked from here on; an operation that is not late leaves what was there as it was. -/
def wpB (P : Program) (B : Nat → Prop) (md : Region.Mode) (ops : Array Oper) (Q : Exit → Act → World → Prop) (late : Nat → Bool) : Nat → Array Bool → Act → World → Prop
  | 0, listed, a, w => Region.ready md ops listed = [] ∧ Q .normal a w
  | fuel + 1, listed, a, w =>
    (Region.ready md ops listed = [] → Q .normal a w) ∧
    ∀ i ∈ Region.ready md ops listed, wpOp P ops Q i (fun a' w' => (late i = false → Fr B w w') ∧ wpB P B md ops Q late fuel (listed.setIfInBounds i true) a' w') a w

theorem wpAny_of_B {late : Nat → Bool} : ∀ (fuel : Nat) (listed : Array Bool) (a : Act) (w : World), wpB P B md ops Q late fuel listed a w → wpAny P md ops Q fuel listed a w
  | 0, _, _, _, h => h
  | fuel + 1, _, _, _, h => ⟨h.1, fun i hi => wpOp_mono (fun a' w' h' => wpAny_of_B fuel _ a' w' h'.2) (h.2 i hi)⟩

/-- What is listed is closed: whoever is listed has all listed that it waits for. -/
def Closed (md : Region.Mode) (ops : Array Oper) (listed : Array Bool) : Prop :=
  ∀ j oj, ops[j]? = some oj → listed.getD j false = true → ∀ e ∈ oj.after, Region.binds md e = true → listed.getD e.on false = true

theorem Closed.set {listed : Array Bool} {i : Nat} (hc : Closed md ops listed) (hi : i ∈ Region.ready md ops listed) : Closed md ops (listed.setIfInBounds i true) := by
  obtain ⟨_, oi, hoi, hall⟩ := mem_ready.1 hi
  intro j oj hj hl e he hb
  by_cases hij : i = j
  · subst hij
    have : oj = oi := Option.some.inj (hj.symm.trans hoi)
    subst this
    exact getD_set_true (hall e he hb)
  · rw [getD_set_ne false hij] at hl
    exact getD_set_true (hc j oj hj hl e he hb)

/-- j waits for i, straight or through others. -/
inductive Anc (md : Region.Mode) (ops : Array Oper) (i : Nat) : Nat → Prop
  | one {j : Nat} {oj : Oper} {e : Edge} : ops[j]? = some oj → e ∈ oj.after → Region.binds md e = true → e.on = i → Anc md ops i j
  | more {j : Nat} {oj : Oper} {e : Edge} : ops[j]? = some oj → e ∈ oj.after → Region.binds md e = true → Anc md ops i e.on → Anc md ops i j

theorem Anc.listed {i j : Nat} (h : Anc md ops i j) {listed : Array Bool} (hc : Closed md ops listed) (hj : listed.getD j false = true) : listed.getD i false = true := by
  induction h with
  | one hj' he hb hon => rw [← hon]; exact hc _ _ hj' hj _ he hb
  | more hj' he hb _ ih => exact ih (hc _ _ hj' hj _ he hb)

theorem Anc.ready {i j : Nat} (h : Anc md ops i j) {listed : Array Bool} (hc : Closed md ops listed) (hj : j ∈ Region.ready md ops listed) : listed.getD i false = true := by
  obtain ⟨_, oj, hoj, hall⟩ := mem_ready.1 hj
  cases h with
  | one hj' he hb hon =>
    have : oj = _ := Option.some.inj (hoj.symm.trans hj')
    subst this
    rw [← hon]; exact hall _ he hb
  | more hj' he hb h' =>
    have : oj = _ := Option.some.inj (hoj.symm.trans hj')
    subst this
    exact h'.listed hc (hall _ he hb)

/-- Take operation i first. -/
theorem wpB_first {late : Nat → Bool} {i : Nat} {oi : Oper} {v : Value} (hi : ops[i]? = some oi) (hsel : ∀ (j : Nat) (o : Oper) cs b, ops[j]? = some o → o.op ≠ .select cs b)
    (hQ : ∀ c a w, Q (.panic c) (a.put oi.dst v) w → Q (.panic c) a w)
    (hlate : ∀ j, j < ops.size → late j = true → Anc md ops i j) :
    ∀ (fuel : Nat) (listed : Array Bool) (a : Act) (w : World), Closed md ops listed →
      (∀ j oj, ops[j]? = some oj → j ≠ i → listed.getD j true = false → (∀ e ∈ oj.after, Region.binds md e = true → e.on ≠ i) → oi.apart ops oj = true) →
      i ∈ Region.ready md ops listed → From P B ops oi v a w →
      wpB P B md ops Q late fuel (listed.setIfInBounds i true) (a.put oi.dst v) w → wpB P B md ops Q late (fuel + 1) listed a w := by
  intro fuel
  induction fuel with
  | zero =>
    intro listed a w _ _ hr hy H
    refine ⟨fun h => (by rw [h] at hr; cases hr), fun j hj => ?_⟩
    by_cases hji : j = i
    · subst hji; exact hy.wpOp hi ⟨fun _ => Fr.refl _ _, H⟩
    · have := ready_mono hj hji
      rw [H.1] at this
      cases this
  | succ fuel ih =>
    intro listed a w hcl hfree hr hy H
    refine ⟨fun h => (by rw [h] at hr; cases hr), fun j hj => ?_⟩
    by_cases hji : j = i
    · subst hji; exact hy.wpOp hi ⟨fun _ => Fr.refl _ _, H⟩
    · have h1 := H.2 j (ready_mono hj hji)
      obtain ⟨hjun, oj, hoj, hall⟩ := mem_ready.1 hj
      have hiun := (mem_ready.1 hr).1
      have hiun' : listed.getD i false = false := by
        rcases Nat.lt_or_ge i listed.size with h' | h'
        · simp [h'] at hiun ⊢; exact hiun
        · simp [Array.getElem?_eq_none h']
      have hjl : late j = false := by
        cases hl : late j with
        | false => rfl
        | true =>
          have h2 := (hlate j (Array.getElem?_eq_some_iff.1 hoj).1 hl).ready hcl hj
          rw [hiun'] at h2; cases h2
      have hnot : ∀ e ∈ oj.after, Region.binds md e = true → e.on ≠ i := fun e he hb heq => by
        have h1 := hall e he hb
        rw [heq, hiun'] at h1
        cases h1
      have h2 := wpOp_putF hoj (hfree j oj hoj hji hjun hnot) (fun cs b => hsel i oi cs b hi) (fun cs b => hsel j oj cs b hoj) hQ hy h1
      have hfree' : ∀ k ok, ops[k]? = some ok → k ≠ i → (listed.setIfInBounds j true).getD k true = false →
          (∀ e ∈ ok.after, Region.binds md e = true → e.on ≠ i) → oi.apart ops ok = true := fun k ok hk hki hun hno => by
        refine hfree k ok hk hki ?_ hno
        by_cases hjk : j = k
        · subst hjk; exact hjun
        · rw [getD_set_ne true hjk] at hun; exact hun
      refine wpOp_mono (fun a' w' h3 => ⟨fun _ => h3.2.1 hjl, ih (listed.setIfInBounds j true) a' w' (hcl.set hj) hfree' (ready_mono hr (Ne.symm hji)) (h3.1.later (h3.2.1 hjl)) ?_⟩) h2
      rw [Array.setIfInBounds_comm _ _ hji]
      exact h3.2.2

/-- The ancestors of each operation, as lists; the operations behind one another. -/
def ancs (md : Region.Mode) (ops : List Oper) : List (List Nat) :=
  ops.foldl (init := []) fun acc o => acc ++ [o.after.toList.flatMap fun e => if Region.binds md e then e.on :: (acc.getD e.on []) else []]

theorem ancs_sound {l : List Oper} : ∀ (k : Nat), k ≤ l.length → ∀ j m, ((l.take k).foldl (init := ([] : List (List Nat))) fun acc o => acc ++ [o.after.toList.flatMap fun e => if Region.binds md e then e.on :: (acc.getD e.on []) else []])[j]? = some m → ∀ i ∈ m, Anc md l.toArray i j := by
  intro k
  induction k with
  | zero => intro _ j m h; simp at h
  | succ k ih =>
    intro hk j m h i hi
    have hlt : k < l.length := by omega
    rw [List.take_succ_eq_append_getElem hlt, List.foldl_append] at h
    simp only [List.foldl_cons, List.foldl_nil] at h
    have hlen : ∀ (q : List Oper) (acc : List (List Nat)), (q.foldl (init := acc) fun acc o => acc ++ [o.after.toList.flatMap fun e => if Region.binds md e then e.on :: (acc.getD e.on []) else []]).length = acc.length + q.length := by
      intro q
      induction q with
      | nil => intro acc; simp
      | cons o q ihq => intro acc; simp only [List.foldl_cons, List.length_cons]; rw [ihq]; simp; omega
    have hl := hlen (l.take k) []
    simp only [List.length_nil, List.length_take, Nat.zero_add] at hl
    generalize hacc : (l.take k).foldl (init := ([] : List (List Nat))) (fun acc o => acc ++ [o.after.toList.flatMap fun e => if Region.binds md e then e.on :: (acc.getD e.on []) else []]) = acc at *
    have hl' : acc.length = k := by omega
    by_cases hj : j < k
    · rw [List.getElem?_append_left (by omega)] at h
      exact ih (by omega) j m h i hi
    · have hjk : j = k := by
        have := (List.getElem?_eq_some_iff.1 h).1
        simp at this
        omega
      subst hjk
      rw [List.getElem?_append_right (by omega)] at h
      simp [hl'] at h
      subst h
      rw [List.mem_flatMap] at hi
      obtain ⟨e, he, hie⟩ := hi
      have he' : e ∈ (l[j]).after := by simpa using he
      have hop : l.toArray[j]? = some l[j] := by simp [hlt]
      by_cases hb : Region.binds md e = true
      · rw [if_pos hb] at hie
        rcases List.mem_cons.1 hie with hie | hie
        · exact .one hop he' hb hie.symm
        · refine .more hop he' hb ?_
          cases hg : acc[e.on]? with
          | none => rw [hg] at hie; simp at hie
          | some m' =>
            rw [hg] at hie
            exact ih (by omega) e.on m' hg i (by simpa using hie)
      · rw [if_neg hb] at hie; simp at hie

theorem ancs_anc {l : List Oper} {j : Nat} {m : List Nat} (h : (ancs md l)[j]? = some m) {i : Nat} (hi : i ∈ m) : Anc md l.toArray i j := by
  refine ancs_sound (md := md) l.length (Nat.le_refl _) j m ?_ i hi
  rw [List.take_length]
  exact h

/-- A chosen order: (number, is it taken first?). -/
def schedGo (md : Region.Mode) (ops : Array Oper) (late : List Nat) (anc : List (List Nat)) : List (Nat × Bool) → Array Bool → Bool
  | [], listed => (Region.ready md ops listed).isEmpty
  | (i, true) :: σ, listed => (Region.ready md ops listed).contains i && Region.free md ops listed i && (late.all fun j => (anc.getD j []).contains i) && schedGo md ops late anc σ (listed.setIfInBounds i true)
  | (i, false) :: σ, listed => decide (Region.ready md ops listed = [i]) && schedGo md ops late anc σ (listed.setIfInBounds i true)

def schedOK (md : Region.Mode) (ops : List Oper) (late : List Nat) (σ : List (Nat × Bool)) : Bool :=
  Region.noSelect ops.toArray && decide (σ.length = ops.length) && schedGo md ops.toArray late (ancs md ops) σ (Array.replicate ops.length false)

/-- The run along the chosen order. -/
def runS (P : Program) (B : Nat → Prop) (ops : Array Oper) (Q : Exit → Act → World → Prop) (late : List Nat) : List (Nat × Bool) → Act → World → Prop
  | [], a, w => Q .normal a w
  | (i, true) :: σ, a, w => ∃ o v, ops[i]? = some o ∧ From P B ops o v a w ∧ runS P B ops Q late σ (a.put o.dst v) w
  | (i, false) :: σ, a, w => wpOp P ops Q i (fun a' w' => (late.contains i = false → Fr B w w') ∧ runS P B ops Q late σ a' w') a w

theorem wpB_of_runS {l : List Oper} {late : List Nat} (hsel : Region.noSelect l.toArray = true) (hQ : ∀ c (a : Act) (d : Option Tmp) (v : Value) w, Q (.panic c) (a.put d v) w → Q (.panic c) a w) :
    ∀ (σ : List (Nat × Bool)) (listed : Array Bool) (a : Act) (w : World), Closed md l.toArray listed → schedGo md l.toArray late (ancs md l) σ listed = true →
      runS P B l.toArray Q late σ a w → wpB P B md l.toArray Q (late.contains ·) σ.length listed a w
  | [], listed, a, w, _, hB, h => ⟨by simpa [schedGo] using hB, h⟩
  | (i, true) :: σ, listed, a, w, hc, hB, h => by
    simp only [schedGo, Bool.and_eq_true] at hB
    obtain ⟨⟨⟨hr, hf⟩, hl⟩, hB'⟩ := hB
    obtain ⟨o, v, ho, hy, hrun⟩ := h
    have hr' : i ∈ Region.ready md l.toArray listed := by simpa using hr
    refine wpB_first ho (Region.noSelect_spec hsel) (fun c a w hh => hQ c a _ _ w hh) ?_ σ.length listed a w hc (Region.free_spec ho hf) hr' hy
      (wpB_of_runS hsel hQ σ _ _ _ (hc.set hr') hB' hrun)
    intro j hj hlj
    have h1 := List.all_eq_true.1 hl j (by simpa using hlj)
    rw [List.getD_eq_getElem?_getD] at h1
    cases hg : (ancs md l)[j]? with
    | none => rw [hg] at h1; simp at h1
    | some m => rw [hg] at h1; exact ancs_anc hg (by simpa using h1)
  | (i, false) :: σ, listed, a, w, hc, hB, h => by
    simp only [schedGo, Bool.and_eq_true, decide_eq_true_eq] at hB
    obtain ⟨hr, hB'⟩ := hB
    refine ⟨fun h1 => (by rw [hr] at h1; cases h1), fun k hk => ?_⟩
    have hmem : i ∈ Region.ready md l.toArray listed := by rw [hr]; simp
    rw [hr] at hk
    have hki : k = i := by simpa using hk
    subst hki
    exact wpOp_mono (fun a' w' h' => ⟨fun hl => h'.1 (by simpa using hl), wpB_of_runS hsel hQ σ _ a' w' (hc.set hmem) hB' h'.2⟩) h

/-- **A region that draws its order, along one order.** -/
theorem wp_region_sched {id : Nat} {l : List Oper} (late : List Nat) (σ : List (Nat × Bool)) (hm : P.follows .mixedOrders = true) (hB : schedOK .any l late σ = true)
    (hQ : ∀ c (a : Act) (d : Option Tmp) (v : Value) w, Q (.panic c) (a.put d v) w → Q (.panic c) a w) {a : Act} {w : World}
    (h : runS P B l.toArray Q late σ a { w with drawn := w.drawn + 1 }) : (Code.region id l.toArray true).wp P Q a w := by
  simp only [schedOK, Bool.and_eq_true, decide_eq_true_eq] at hB
  obtain ⟨⟨hsel, hlen⟩, hgo⟩ := hB
  refine wp_region_any hm ?_
  have hc : Closed .any l.toArray (Array.replicate l.length false) := fun j oj _ hl => by
    rcases Nat.lt_or_ge j l.length with h' | h'
    · simp [h'] at hl
    · simp [h'] at hl
  have := wpAny_of_B _ _ _ _ (wpB_of_runS (md := .any) hsel hQ σ _ a _ hc hgo h)
  simpa [hlen] using this
end
end Go.Proofs.Ythalogdopkoidaa.Dr
