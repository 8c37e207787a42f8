/- Abstract memory: objects with numbers of their own in the place of blocks, no capacities; how a world bears one. No statement of the seat's in it. -/
import Derived.Below
import Derived.Test.YthalogdopkoidaaA1
import Derived.Deep.MidRow
import Derived.Deep.AppendLies
set_option linter.unusedVariables false
namespace Go.Proofs.Ythalogdopkoidaa.Ab
open Go Go.RowKit

/-- Where an object lies: its block, its first cell, how many elements there is room for. -/
abbrev Loc := Nat × Nat × Nat

/-- An abstract value (its addresses name objects) and a value. Of '.tuple #[]' nothing is known. -/
inductive R (β : List Loc) : Value → Value → Prop
  | junk (v : Value) : R β (.tuple #[]) v
  | void : R β (.chan none) (.tuple #[])
  | bool (b : Bool) : R β (.bool b) (.bool b)
  | int (k : IntKind) (n : Int) : R β (.int k n) (.int k n)
  | string (s : ByteArray) : R β (.string s) (.string s)
  | nilp : R β (.pointer none) (.pointer none)
  | ptr {i o b d r : Nat} (h : β[i]? = some (b, d, r)) : R β (.pointer (some ⟨i, o, none⟩)) (.pointer (some ⟨b, d + o, none⟩))
  | nils : R β (.slice none 0 0) (.slice none 0 0)
  | slice {i o n c b d r : Nat} (h : β[i]? = some (b, d, r)) (hc : n ≤ c) (ho : o = 0 → c = r) : R β (.slice (some ⟨i, o, none⟩) n n) (.slice (some ⟨b, d + o, none⟩) n c)
  | empty (a a' : Addr) : R β (.slice (some a) 0 0) (.slice (some a') 0 0)
  | func (fn : Fn) {cs cs' : Array Value} (hs : cs.size = cs'.size) (h : ∀ (j : Nat) (v v' : Value), cs[j]? = some v → cs'[j]? = some v' → R β v v') : R β (.func fn #[] cs) (.func fn #[] cs')
  | agg {cs cs' : Array Value} (hs : cs.size = cs'.size) (h : ∀ (j : Nat) (v v' : Value), cs[j]? = some v → cs'[j]? = some v' → R β v v') : R β (.agg cs) (.agg cs')
  | tuple {cs cs' : Array Value} (hs : cs.size = cs'.size) (h : ∀ (j : Nat) (v v' : Value), cs[j]? = some v → cs'[j]? = some v' → R β v v') : R β (.tuple cs) (.tuple cs')

/-- More objects. -/
theorem R.ext {β β' : List Loc} (hp : β <+: β') {v v' : Value} (h : R β v v') : R β' v v' := by
  have get : ∀ {i : Nat} {x : Loc}, β[i]? = some x → β'[i]? = some x := fun {i x} hi => by
    obtain ⟨t, rfl⟩ := hp
    rw [List.getElem?_append_left (List.getElem?_eq_some_iff.1 hi).1]
    exact hi
  induction h with
  | junk v => exact .junk v
  | void => exact .void
  | bool b => exact .bool b
  | int k n => exact .int k n
  | string s => exact .string s
  | nilp => exact .nilp
  | ptr h => exact .ptr (get h)
  | nils => exact .nils
  | slice h hc ho => exact .slice (get h) hc ho
  | empty a a' => exact .empty a a'
  | func fn hs _ ih => exact .func fn hs ih
  | agg hs _ ih => exact .agg hs ih
  | tuple hs _ ih => exact .tuple hs ih

/-- One cell, and something is known of it. -/
def flat : Value → Bool
  | .bool _ | .int _ _ | .string _ | .pointer _ | .slice _ _ _ | .func _ _ _ => true
  | _ => false

theorem R.one {β : List Loc} {v v' : Value} (h : R β v v') (hf : flat v = true) : v'.oneCell' = true := by
  cases h <;> simp_all [flat, Value.oneCell']

theorem R.cells {β : List Loc} {v v' : Value} (h : R β v v') (hf : flat v = true) : v'.cells = #[v'] ∧ v.cells = #[v] := by
  cases h <;> simp_all [flat, Value.cells]

/-- Lists, cell by cell. -/
def RL (β : List Loc) (cs cs' : List Value) : Prop := cs.length = cs'.length ∧ ∀ (j : Nat) (v v' : Value), cs[j]? = some v → cs'[j]? = some v' → R β v v'

theorem RL.ext {β β' : List Loc} (hp : β <+: β') {cs cs' : List Value} (h : RL β cs cs') : RL β' cs cs' :=
  ⟨h.1, fun j v v' h1 h2 => (h.2 j v v' h1 h2).ext hp⟩
theorem RL.nil (β : List Loc) : RL β [] [] := ⟨rfl, fun j v v' h => by simp at h⟩
theorem RL.cons {β : List Loc} {v v' : Value} {cs cs' : List Value} (h : R β v v') (hl : RL β cs cs') : RL β (v :: cs) (v' :: cs') := by
  refine ⟨by simp [hl.1], fun j u u' h1 h2 => ?_⟩
  cases j with
  | zero => simp at h1 h2; subst h1; subst h2; exact h
  | succ j => simp at h1 h2; exact hl.2 j u u' h1 h2
theorem RL.append {β : List Loc} {a a' b b' : List Value} (h : RL β a a') (k : RL β b b') : RL β (a ++ b) (a' ++ b') := by
  refine ⟨by simp [h.1, k.1], fun j v v' h1 h2 => ?_⟩
  by_cases hj : j < a.length
  · rw [List.getElem?_append_left hj] at h1
    rw [List.getElem?_append_left (by rw [← h.1]; exact hj)] at h2
    exact h.2 j v v' h1 h2
  · rw [List.getElem?_append_right (by omega)] at h1
    rw [List.getElem?_append_right (by rw [← h.1]; omega), ← h.1] at h2
    exact k.2 _ v v' h1 h2
theorem RL.take {β : List Loc} {a a' : List Value} (h : RL β a a') (n : Nat) : RL β (a.take n) (a'.take n) := by
  refine ⟨by simp [h.1], fun j v v' h1 h2 => ?_⟩
  rw [List.getElem?_take] at h1 h2
  split at h1
  · rename_i hj
    rw [if_pos hj] at h2
    exact h.2 j v v' h1 h2
  · cases h1
theorem RL.drop {β : List Loc} {a a' : List Value} (h : RL β a a') (n : Nat) : RL β (a.drop n) (a'.drop n) := by
  refine ⟨by simp [h.1], fun j v v' h1 h2 => ?_⟩
  rw [List.getElem?_drop] at h1 h2
  exact h.2 _ v v' h1 h2
theorem RL.agg {β : List Loc} {a a' : List Value} (h : RL β a a') : R β (.agg a.toArray) (.agg a'.toArray) :=
  .agg (by simp [h.1]) fun j v v' h1 h2 => h.2 j v v' (by simpa using h1) (by simpa using h2)
theorem RL.tuple {β : List Loc} {a a' : List Value} (h : RL β a a') : R β (.tuple a.toArray) (.tuple a'.toArray) :=
  .tuple (by simp [h.1]) fun j v v' h1 h2 => h.2 j v v' (by simpa using h1) (by simpa using h2)
theorem RL.of_agg {β : List Loc} {a a' : Array Value} (hs : a.size = a'.size) (h : ∀ (j : Nat) (v v' : Value), a[j]? = some v → a'[j]? = some v' → R β v v') : RL β a.toList a'.toList :=
  ⟨by simpa using hs, fun j v v' h1 h2 => h j v v' (by simpa using h1) (by simpa using h2)⟩

/-- Constants that hold no address. -/
def flatConst : Value → Bool
  | .bool _ | .int _ _ | .string _ | .pointer none | .slice none 0 0 => true
  | _ => false
theorem R.const (β : List Loc) {v : Value} (h : flatConst v = true) : R β v v := by
  unfold flatConst at h
  split at h <;> first | exact .bool _ | exact .int _ _ | exact .string _ | exact .nilp | exact .nils | (cases h)
theorem RL.const (β : List Loc) {l : List Value} (h : ∀ v ∈ l, flatConst v = true) : RL β l l :=
  ⟨rfl, fun j v v' h1 h2 => by
    rw [h1] at h2
    obtain rfl := Option.some.inj h2
    exact R.const β (h v (List.mem_of_getElem? h1))⟩

/-- An object: the type of its elements, its cells, whether it may be written. -/
structure AObj where
  ty : TypeId
  cells : List Value
  rw : Bool

/-- The objects; 'none': dead. -/
abbrev AHeap := List (Option AObj)

/-- How a world bears an object. -/
structure Bears (P : Program) (β : List Loc) (w : World) (o : AObj) (b d r : Nat) : Prop where
  lt : b < w.heap.size
  flat : ∀ v ∈ o.cells, flat v = true
  at_ : ∀ (k : Nat) (v : Value), o.cells[k]? = some v → ∃ v', w.cell? ⟨b, d + k, none⟩ = some v' ∧ R β v v'
  own : o.rw = true → d = 0 ∧ r ≤ maxLen ∧ ∃ cur i, w.heap[b]? = some (.cells cur o.ty (0, 0)) ∧ P.info? o.ty = some i ∧ cur.size = r * i.size

/-- A world bears the objects: 'ok': which objects may be turned; 'perm': which blocks. -/
structure Inv (P : Program) (ok : Nat → Prop) (perm : Nat → Prop) (H : AHeap) (β : List Loc) (w : World) : Prop where
  len : β.length = H.length
  obj : ∀ (i : Nat) (o : AObj) (b d r : Nat), H[i]? = some (some o) → β[i]? = some (b, d, r) → Bears P β w o b d r
  sep : ∀ (i j : Nat) (oi oj : AObj) (bi di ri bj dj rj : Nat), H[i]? = some (some oi) → H[j]? = some (some oj) → i ≠ j → oi.rw = true → β[i]? = some (bi, di, ri) → β[j]? = some (bj, dj, rj) → bi ≠ bj
  perm : ∀ (i : Nat) (o : AObj) (b d r : Nat), ok i → H[i]? = some (some o) → o.rw = true → β[i]? = some (b, d, r) → perm b

/-- The blocks of the live objects are as they were. -/
def Keeps (H : AHeap) (β : List Loc) (w w' : World) : Prop := ∀ (i : Nat) (o : AObj) (b d r : Nat), H[i]? = some (some o) → β[i]? = some (b, d, r) → w'.heap[b]? = w.heap[b]?
theorem Keeps.refl (H : AHeap) (β : List Loc) (w : World) : Keeps H β w w := fun _ _ _ _ _ _ _ => rfl
theorem Inv.keeps {P : Program} {ok perm : Nat → Prop} {H : AHeap} {β : List Loc} {w w' : World} (h : Inv P ok perm H β w) (hb : Below w.heap.size w w') : Keeps H β w w' := fun i o b d r h1 h2 => hb.block b (h.obj i o b d r h1 h2).lt

/-- Of the objects only those that may be turned have turned. -/
structure AExt (ok : Nat → Prop) (H H' : AHeap) : Prop where
  size : H.length ≤ H'.length
  obj : ∀ (i : Nat), i < H.length → ¬ ok i → H'[i]? = H[i]?

theorem AExt.refl (ok : Nat → Prop) (H : AHeap) : AExt ok H H := ⟨Nat.le_refl _, fun _ _ _ => rfl⟩
theorem AExt.trans {ok : Nat → Prop} {a b c : AHeap} (h : AExt ok a b) (k : AExt ok b c) : AExt ok a c :=
  ⟨Nat.le_trans h.size k.size, fun i hi hn => (k.obj i (Nat.lt_of_lt_of_le hi h.size) hn).trans (h.obj i hi hn)⟩
theorem AExt.mono {ok ok' : Nat → Prop} {a b : AHeap} (h : AExt ok a b) (hk : ∀ i, i < a.length → ok i → ok' i) : AExt ok' a b :=
  ⟨h.size, fun i hi hn => h.obj i hi fun h' => hn (hk i hi h')⟩
theorem AExt.live {ok : Nat → Prop} {H H' : AHeap} (h : AExt ok H H') {i : Nat} {o : AObj} (hi : H[i]? = some (some o)) (hn : ¬ ok i) : H'[i]? = some (some o) := by
  rw [h.obj i (List.getElem?_eq_some_iff.1 hi).1 hn]; exact hi

/-- The world goes on, the objects' blocks being as they were. -/
theorem Bears.same {P : Program} {β : List Loc} {w w' : World} {o : AObj} {b d r : Nat} (h : Bears P β w o b d r) (hs : w.heap.size ≤ w'.heap.size) (hb : w'.heap[b]? = w.heap[b]?) : Bears P β w' o b d r where
  lt := Nat.lt_of_lt_of_le h.lt hs
  flat := h.flat
  at_ := fun k v hk => by
    obtain ⟨v', h1, h2⟩ := h.at_ k v hk
    exact ⟨v', by rw [World.cell?_of_block (w := w) hb]; exact h1, h2⟩
  own := fun hr => by
    obtain ⟨h0, h1, cur, i, h2, h3, h4⟩ := h.own hr
    exact ⟨h0, h1, cur, i, by rw [hb]; exact h2, h3, h4⟩
theorem Bears.ext {P : Program} {β β' : List Loc} (hp : β <+: β') {w : World} {o : AObj} {b d r : Nat} (h : Bears P β w o b d r) : Bears P β' w o b d r where
  lt := h.lt
  flat := h.flat
  at_ := fun k v hk => by
    obtain ⟨v', h1, h2⟩ := h.at_ k v hk
    exact ⟨v', h1, h2.ext hp⟩
  own := h.own

theorem Inv.below {P : Program} {ok perm : Nat → Prop} {H : AHeap} {β : List Loc} {w w' : World} (h : Inv P ok perm H β w) (hb : Below w.heap.size w w') : Inv P ok perm H β w' where
  len := h.len
  obj := fun i o b d r hi hβ => (h.obj i o b d r hi hβ).same hb.size (hb.block b (h.obj i o b d r hi hβ).lt)
  sep := h.sep
  perm := h.perm

theorem get_ext {α : Type} {l l' : List α} (hp : l <+: l') {i : Nat} {x : α} (h : l[i]? = some x) : l'[i]? = some x := by
  obtain ⟨t, rfl⟩ := hp
  rw [List.getElem?_append_left (List.getElem?_eq_some_iff.1 h).1]
  exact h

theorem Inv.loc {P : Program} {ok perm : Nat → Prop} {H : AHeap} {β : List Loc} {w : World} (h : Inv P ok perm H β w) {i : Nat} {x : Option AObj} (hi : H[i]? = some x) : ∃ b d r, β[i]? = some (b, d, r) := by
  have hlt : i < β.length := by rw [h.len]; exact (List.getElem?_eq_some_iff.1 hi).1
  exact ⟨_, _, _, List.getElem?_eq_getElem hlt⟩

/-- A new object. -/
theorem Inv.new {P : Program} {ok perm : Nat → Prop} {H : AHeap} {β : List Loc} {w : World} (h : Inv P ok perm H β w) (hperm : perm w.heap.size)
    (o : AObj) (cur : Array Value) (r : Nat) (i : TypeInfo) (hr : r ≤ maxLen) (hi : P.info? o.ty = some i) (hc : cur.size = r * i.size)
    (hf : ∀ v ∈ o.cells, flat v = true) (hR : ∀ (k : Nat) (v : Value), o.cells[k]? = some v → ∃ v', cur[k]? = some v' ∧ R β v v') :
    Inv P ok perm (H ++ [some o]) (β ++ [(w.heap.size, 0, r)]) (w.alloc (.cells cur o.ty)) := by
  have hp : β <+: β ++ [(w.heap.size, 0, r)] := List.prefix_append _ _
  have hnew : (w.alloc (.cells cur o.ty)).heap[w.heap.size]? = some (.cells cur o.ty (0, 0)) := heap_alloc_new w _
  have hsz : (w.alloc (.cells cur o.ty)).heap.size = w.heap.size + 1 := by simp
  have hobj : ∀ (i' : Nat) (o' : AObj) (b d r' : Nat), (H ++ [some o])[i']? = some (some o') → (β ++ [(w.heap.size, 0, r)])[i']? = some (b, d, r') →
      (i' < H.length ∧ H[i']? = some (some o') ∧ β[i']? = some (b, d, r')) ∨ (i' = H.length ∧ o' = o ∧ b = w.heap.size ∧ d = 0 ∧ r' = r) := by
    intro i' o' b d r' h1 h2
    by_cases hlt : i' < H.length
    · rw [List.getElem?_append_left hlt] at h1
      rw [List.getElem?_append_left (by rw [h.len]; exact hlt)] at h2
      exact .inl ⟨hlt, h1, h2⟩
    · have hlen : i' = H.length := by
        have := (List.getElem?_eq_some_iff.1 h1).1
        simp at this
        omega
      subst hlen
      rw [List.getElem?_append_right (Nat.le_refl _)] at h1
      rw [← h.len, List.getElem?_append_right (Nat.le_refl _)] at h2
      simp at h1 h2
      exact .inr ⟨rfl, h1.symm, h2.1.symm, h2.2.1.symm, h2.2.2.symm⟩
  refine ⟨by simp [h.len], ?_, ?_, ?_⟩
  · intro i' o' b d r' h1 h2
    rcases hobj i' o' b d r' h1 h2 with ⟨_, h3, h4⟩ | ⟨_, rfl, rfl, rfl, rfl⟩
    · have hb := h.obj i' o' b d r' h3 h4
      exact (hb.ext hp).same (by rw [hsz]; omega) (heap_alloc_old w _ b hb.lt)
    · refine ⟨by rw [hsz]; omega, hf, fun k v hk => ?_, fun _ => ⟨rfl, hr, cur, i, hnew, hi, hc⟩⟩
      obtain ⟨v', hv', hRv⟩ := hR k v hk
      exact ⟨v', by rw [Nat.zero_add, cell_of_row _ _ _ _ _ _ hnew]; exact hv', hRv.ext hp⟩
  · intro i1 j1 oi oj bi di ri bj dj rj h1 h2 hne hrw h3 h4
    rcases hobj i1 oi bi di ri h1 h3 with ⟨_, h5, h6⟩ | ⟨e1, rfl, rfl, _, _⟩
    · rcases hobj j1 oj bj dj rj h2 h4 with ⟨_, h7, h8⟩ | ⟨_, _, rfl, _, _⟩
      · exact h.sep i1 j1 oi oj bi di ri bj dj rj h5 h7 hne hrw h6 h8
      · have := (h.obj i1 oi bi di ri h5 h6).lt; omega
    · rcases hobj j1 oj bj dj rj h2 h4 with ⟨_, h7, h8⟩ | ⟨e2, _, rfl, _, _⟩
      · have := (h.obj j1 oj bj dj rj h7 h8).lt; omega
      · omega
  · intro i' o' b d r' hok h1 hrw h2
    rcases hobj i' o' b d r' h1 h2 with ⟨_, h3, h4⟩ | ⟨_, rfl, rfl, _, _⟩
    · exact h.perm i' o' b d r' hok h3 hrw h4
    · exact hperm

/-- An object's block is rewritten, cells and all; the object has other cells then. -/
theorem Inv.turn {P : Program} {ok perm : Nat → Prop} {H : AHeap} {β : List Loc} {w w' : World} (h : Inv P ok perm H β w) {i b d r : Nat} {o o' : AObj}
    (hi : H[i]? = some (some o)) (hrw : o.rw = true) (hβ : β[i]? = some (b, d, r)) (hs : w.heap.size ≤ w'.heap.size) (hother : ∀ k, k < w.heap.size → k ≠ b → w'.heap[k]? = w.heap[k]?)
    (hrw' : o'.rw = true) (hb : Bears P β w' o' b d r) : Inv P ok perm (H.set i (some o')) β w' := by
  have hlt : i < H.length := (List.getElem?_eq_some_iff.1 hi).1
  have get : ∀ (j : Nat) (x : AObj), (H.set i (some o'))[j]? = some (some x) → (j = i ∧ x = o') ∨ (j ≠ i ∧ H[j]? = some (some x)) := fun j x hj => by
    by_cases e : j = i
    · subst e
      rw [List.getElem?_set_self hlt] at hj
      exact .inl ⟨rfl, by simpa using hj.symm⟩
    · rw [List.getElem?_set_ne (Ne.symm e)] at hj
      exact .inr ⟨e, hj⟩
  refine ⟨by simp [h.len], ?_, ?_, ?_⟩
  · intro j x bj dj rj h1 h2
    rcases get j x h1 with ⟨rfl, rfl⟩ | ⟨hne, h3⟩
    · rw [hβ] at h2
      obtain ⟨rfl, rfl, rfl⟩ : b = bj ∧ d = dj ∧ r = rj := by simpa using h2
      exact hb
    · have hB := h.obj j x bj dj rj h3 h2
      exact hB.same hs (hother bj hB.lt fun e => h.sep i j o x b d r bj dj rj hi h3 (Ne.symm hne) hrw hβ h2 e.symm)
  · intro j k oj ok' bj dj rj bk dk rk h1 h2 hne hr h3 h4
    have base : ∀ (m : Nat) (x : AObj), (H.set i (some o'))[m]? = some (some x) → ∃ y, H[m]? = some (some y) ∧ (x.rw = true → y.rw = true) := fun m x hm => by
      rcases get m x hm with ⟨rfl, rfl⟩ | ⟨_, h5⟩
      · exact ⟨o, hi, fun _ => hrw⟩
      · exact ⟨x, h5, id⟩
    obtain ⟨y, hy, hyr⟩ := base j oj h1
    obtain ⟨z, hz, _⟩ := base k ok' h2
    exact h.sep j k y z bj dj rj bk dk rk hy hz hne (hyr hr) h3 h4
  · intro j x bj dj rj hok h1 hr h2
    rcases get j x h1 with ⟨rfl, rfl⟩ | ⟨_, h3⟩
    · exact h.perm j o bj dj rj hok hi hrw h2
    · exact h.perm j x bj dj rj hok h3 hr h2

/-- An object dies. -/
theorem Inv.kill {P : Program} {ok perm : Nat → Prop} {H : AHeap} {β : List Loc} {w : World} (h : Inv P ok perm H β w) (i : Nat) : Inv P ok perm (H.set i none) β w := by
  have get : ∀ (j : Nat) (x : AObj), (H.set i none)[j]? = some (some x) → j ≠ i ∧ H[j]? = some (some x) := fun j x hj => by
    by_cases e : j = i
    · subst e
      by_cases hlt : j < H.length
      · rw [List.getElem?_set_self hlt] at hj; cases hj
      · rw [List.getElem?_eq_none (by simpa using hlt)] at hj; cases hj
    · rw [List.getElem?_set_ne (Ne.symm e)] at hj
      exact ⟨e, hj⟩
  exact ⟨by simp [h.len], fun j x b d r h1 h2 => h.obj j x b d r (get j x h1).2 h2,
    fun j k oj ok' bj dj rj bk dk rk h1 h2 hne hr h3 h4 => h.sep j k oj ok' bj dj rj bk dk rk (get j oj h1).2 (get k ok' h2).2 hne hr h3 h4,
    fun j x b d r hok h1 hr h2 => h.perm j x b d r hok (get j x h1).2 hr h2⟩

/-- An object dies, and another one takes its block: what 'append' does in place. -/
theorem Inv.heir {P : Program} {ok perm : Nat → Prop} {H : AHeap} {β : List Loc} {w w' : World} (h : Inv P ok perm H β w) {i b d r : Nat} {o o' : AObj}
    (hi : H[i]? = some (some o)) (hrw : o.rw = true) (hok : ok i) (hβ : β[i]? = some (b, d, r)) (hs : w.heap.size ≤ w'.heap.size) (hother : ∀ k, k < w.heap.size → k ≠ b → w'.heap[k]? = w.heap[k]?)
    (hb : Bears P β w' o' b d r) : Inv P ok perm (H.set i none ++ [some o']) (β ++ [(b, d, r)]) w' := by
  have hp : β <+: β ++ [(b, d, r)] := List.prefix_append _ _
  have hlt : i < H.length := (List.getElem?_eq_some_iff.1 hi).1
  have hobj : ∀ (j : Nat) (x : AObj) (bj dj rj : Nat), (H.set i none ++ [some o'])[j]? = some (some x) → (β ++ [(b, d, r)])[j]? = some (bj, dj, rj) →
      (j ≠ i ∧ j < H.length ∧ H[j]? = some (some x) ∧ β[j]? = some (bj, dj, rj)) ∨ (j = H.length ∧ x = o' ∧ bj = b ∧ dj = d ∧ rj = r) := by
    intro j x bj dj rj h1 h2
    by_cases hjl : j < H.length
    · rw [List.getElem?_append_left (by simpa using hjl)] at h1
      rw [List.getElem?_append_left (by rw [h.len]; exact hjl)] at h2
      by_cases e : j = i
      · subst e
        rw [List.getElem?_set_self hjl] at h1; cases h1
      · rw [List.getElem?_set_ne (Ne.symm e)] at h1
        exact .inl ⟨e, hjl, h1, h2⟩
    · have hlen : j = H.length := by
        have := (List.getElem?_eq_some_iff.1 h1).1
        simp at this
        omega
      subst hlen
      rw [List.getElem?_append_right (by simp)] at h1
      rw [← h.len, List.getElem?_append_right (Nat.le_refl _)] at h2
      simp at h1 h2
      exact .inr ⟨rfl, h1.symm, h2.1.symm, h2.2.1.symm, h2.2.2.symm⟩
  refine ⟨by simp [h.len], ?_, ?_, ?_⟩
  · intro j x bj dj rj h1 h2
    rcases hobj j x bj dj rj h1 h2 with ⟨hne, _, h3, h4⟩ | ⟨_, rfl, rfl, rfl, rfl⟩
    · have hB := h.obj j x bj dj rj h3 h4
      exact (hB.ext hp).same hs (hother bj hB.lt fun e => h.sep i j o x b d r bj dj rj hi h3 (Ne.symm hne) hrw hβ h4 e.symm)
    · exact hb.ext hp
  · intro j k oj ok' bj dj rj bk dk rk h1 h2 hne hr h3 h4
    rcases hobj j oj bj dj rj h1 h3 with ⟨hji, _, h5, h6⟩ | ⟨e1, rfl, rfl, rfl, rfl⟩
    · rcases hobj k ok' bk dk rk h2 h4 with ⟨_, _, h7, h8⟩ | ⟨_, rfl, rfl, rfl, rfl⟩
      · exact h.sep j k oj ok' bj dj rj bk dk rk h5 h7 hne hr h6 h8
      · exact fun e => h.sep i j o oj bk dk rk bj dj rj hi h5 (Ne.symm hji) hrw hβ h6 e.symm
    · rcases hobj k ok' bk dk rk h2 h4 with ⟨hki, _, h7, h8⟩ | ⟨e2, _, _, _, _⟩
      · exact h.sep i k o ok' bj dj rj bk dk rk hi h7 (Ne.symm hki) hrw hβ h8
      · omega
  · intro j x bj dj rj hokj h1 hr h2
    rcases hobj j x bj dj rj h1 h2 with ⟨_, _, h3, h4⟩ | ⟨_, rfl, rfl, rfl, rfl⟩
    · exact h.perm j x bj dj rj hokj h3 hr h4
    · exact h.perm i o bj dj rj hok hi hrw hβ
end Go.Proofs.Ythalogdopkoidaa.Ab
