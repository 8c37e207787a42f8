/- What the operations that only read do to abstract values; that the machine does the same. No statement of the seat's in it. -/
import Derived.Test.YthalogdopkoidaaA1
import Derived.Test.YthalogdopkoidaaA2
import Derived.Laws.StructEq
import Derived.Laws.BytesArg
import Derived.Laws.Slices
set_option linter.unusedVariables false
namespace Go.Proofs.Ythalogdopkoidaa.Ab
open Go Go.RowKit

/-- Types, as far as they matter. -/
inductive TD where
  | bool | int (k : IntKind) | str | ptr | slice (e : Nat) | struct (fs : List (Nat × Nat)) | arr (n e : Nat)
structure TI where
  d : TD
  size : Nat
  bytes : Nat
  zero : List Value
abbrev Tab := Nat → Option TI

def TD.isAgg : TD → Bool
  | .struct _ | .arr _ _ => true
  | _ => false

def TD.fits (P : Program) (t : TypeId) : TD → Prop
  | .bool => P.underlying t = some .bool
  | .int k => P.underlying t = some (.int k)
  | .str => P.underlying t = some .string
  | .ptr => ∃ e, P.underlying t = some (.pointer e)
  | .slice e => P.underlying t = some (.slice e)
  | .struct fs => P.stoodInHeld t = false ∧ P.eqGuardType P.depth t = false ∧ ∃ fields : Array Field, P.underlying t = some (.struct fields) ∧ (∀ f ∈ fields.toList, (f.name == "_") = false) ∧ fields.toList.map (fun f => (f.offset, f.type)) = fs
  | .arr n e => P.eqGuardType P.depth t = false ∧ P.underlying t = some (.array n e)

structure TOK (P : Program) (T : Tab) : Prop where
  fits : ∀ (t : Nat) (i : TI), T t = some i → i.d.fits P t
  info : ∀ (t : Nat) (i : TI), T t = some i → ∃ q z, P.info? t = some q ∧ q.size = i.size ∧ q.bytes = i.bytes ∧ q.zero = some z ∧ z.cells.toList = i.zero
  zlen : ∀ (t : Nat) (i : TI), T t = some i → i.zero.length = i.size
  zflat : ∀ (t : Nat) (i : TI), T t = some i → ∀ v ∈ i.zero, flatConst v = true
  one : ∀ (t : Nat) (i : TI), T t = some i → i.d.isAgg = false → i.size = 1

section
variable {P : Program} {T : Tab} (w : World)

theorem run_isAgg (hT : TOK P T) {t : Nat} {i : TI} (h : T t = some i) : (isAgg t).run P w = .ok i.d.isAgg w := by
  have hf := hT.fits t i h
  unfold isAgg
  cases hd : i.d <;> rw [hd] at hf <;> simp only [TD.fits] at hf
  case bool => simp [run_underlying hf, TD.isAgg]
  case int => simp [run_underlying hf, TD.isAgg]
  case str => simp [run_underlying hf, TD.isAgg]
  case ptr => obtain ⟨e, hf⟩ := hf; simp [run_underlying hf, TD.isAgg]
  case slice => simp [run_underlying hf, TD.isAgg]
  case struct => obtain ⟨_, _, fields, hf, _⟩ := hf; simp [run_underlying hf, TD.isAgg]
  case arr => simp [run_underlying hf.2, TD.isAgg]

theorem run_size (hT : TOK P T) {t : Nat} {i : TI} (h : T t = some i) : (sizeOf t).run P w = .ok i.size w := by
  obtain ⟨q, z, hq, h1, _⟩ := hT.info t i h
  simp [sizeOf, typeInfo, hq, h1]

theorem run_zero (hT : TOK P T) {t : Nat} {i : TI} (h : T t = some i) : ∃ z, (zeroValue t).run P w = .ok z w ∧ z.cells.toList = i.zero := by
  obtain ⟨q, z, hq, _, _, h2, h3⟩ := hT.info t i h
  exact ⟨z, by simp [zeroValue, typeInfo, hq, h2], h3⟩
end

/-- A part of an aggregate. -/
def apart (T : Tab) (t : Nat) (cs : List Value) (off : Nat) : Option Value :=
  match T t with
  | some ti => if ti.d.isAgg then (if off + ti.size ≤ cs.length then some (.agg ((cs.drop off).take ti.size).toArray) else none) else cs[off]?
  | none => none

theorem apart_sound {P : Program} {T : Tab} (hT : TOK P T) {β : List Loc} {t : Nat} {cs : List Value} {cs' : List Value} {off : Nat} {v : Value} (hR : RL β cs cs')
    (h : apart T t cs off = some v) : ∃ v', R β v v' ∧ ∀ w, (part t cs'.toArray off).run P w = .ok v' w := by
  unfold apart at h
  split at h
  · rename_i ti hti
    split at h
    · rename_i ha
      split at h
      · rename_i hl
        obtain rfl := Option.some.inj h
        refine ⟨.agg ((cs'.drop off).take ti.size).toArray, ((hR.drop off).take ti.size).agg, fun w => ?_⟩
        simp [part, run_isAgg w hT hti, ha, run_size w hT hti]
      · cases h
    · rename_i ha
      have hlt : off < cs.length := (List.getElem?_eq_some_iff.1 h).1
      have hlt' : off < cs'.length := by rw [← hR.1]; exact hlt
      refine ⟨cs'[off], hR.2 off _ _ h (List.getElem?_eq_getElem hlt'), fun w => ?_⟩
      have : (isAgg t).run P w = .ok false w := by rw [run_isAgg w hT hti]; simp [ha]
      simp [part, this, hlt']
  · cases h

/-- Loads. -/
def aload (T : Tab) (H : AHeap) (t : Nat) (v : Value) : Option Value :=
  match v with
  | .pointer (some ⟨i, off, none⟩) =>
    match H[i]? with
    | some (some o) => apart T t o.cells off
    | _ => none
  | _ => none

theorem add_loc (b o n : Nat) : (⟨b, o, none⟩ : Addr).add n = ⟨b, o + n, none⟩ := Addr.add_mid b o n

theorem Bears.range {P : Program} {β : List Loc} {w : World} {o : AObj} {b d r : Nat} (h : Bears P β w o b d r) (off n : Nat) (hn : off + n ≤ o.cells.length) :
    ∃ cs', RL β ((o.cells.drop off).take n) cs' ∧ cs'.length = n ∧ ∀ w' : World, w'.heap[b]? = w.heap[b]? → ∀ (j : Nat) (v : Value), cs'[j]? = some v → w'.cell? ⟨b, d + off + j, none⟩ = some v := by
  refine ⟨(List.range n).map fun j => (w.cell? ⟨b, d + off + j, none⟩).getD undef, ⟨by simp; omega, fun j v v' h1 h2 => ?_⟩, by simp, fun w' hb j v hj => ?_⟩
  · rw [List.getElem?_take] at h1
    split at h1
    · rename_i hj
      rw [List.getElem?_drop] at h1
      obtain ⟨u, hu, hR⟩ := h.at_ _ _ h1
      simp [hj] at h2
      rw [show d + (off + j) = d + off + j by omega] at hu
      rw [hu] at h2
      simp at h2
      subst h2
      exact hR
    · cases h1
  · have hjn : j < n := by
      have := (List.getElem?_eq_some_iff.1 hj).1
      simpa using this
    simp [hjn] at hj
    have hlt : off + j < o.cells.length := by omega
    obtain ⟨u, hu, _⟩ := h.at_ (off + j) _ (List.getElem?_eq_getElem hlt)
    rw [show d + (off + j) = d + off + j by omega] at hu
    rw [hu] at hj
    simp at hj
    subst hj
    rw [World.cell?_of_block (w := w) hb]
    exact hu

theorem aload_sound {P : Program} {T : Tab} (hT : TOK P T) {ok perm : Nat → Prop} {H : AHeap} {β : List Loc} {w : World} (hI : Inv P ok perm H β w) {t : Nat} {x x' v : Value} (hx : R β x x')
    (h : aload T H t x = some v) : ∃ v', R β v v' ∧ ∀ w', Keeps H β w w' → (Instr.loadAt t x').run P w' = .ok v' w' := by
  unfold aload at h
  split at h
  · rename_i i off
    split at h
    · rename_i o ho
      cases hx with
      | @ptr _ _ b d r hβ =>
        have hB := hI.obj i o b d r ho hβ
        unfold apart at h
        split at h
        · rename_i ti hti
          split at h
          · rename_i ha
            split at h
            · rename_i hl
              obtain rfl := Option.some.inj h
              obtain ⟨cs', h1, h2, h3⟩ := hB.range off ti.size hl
              refine ⟨.agg cs'.toArray, h1.agg, fun w' hb => ?_⟩
              have hlc := run_loadCells_list (P := P) w' ⟨b, d + off, none⟩ cs' (fun j v hj => by rw [add_loc]; exact h3 w' (hb i o b d r ho hβ) j v hj)
              rw [h2] at hlc
              simp [Instr.loadAt, Instr.sureAddr, loadVar, run_isAgg w' hT hti, ha, run_size w' hT hti, hlc]
            · cases h
          · rename_i ha
            obtain ⟨u, hu, hR⟩ := hB.at_ off _ h
            refine ⟨u, hR, fun w' hb => ?_⟩
            have hag : (isAgg t).run P w' = .ok false w' := by rw [run_isAgg w' hT hti]; simp [ha]
            have hc : w'.cell? ⟨b, d + off, none⟩ = some u := by rw [World.cell?_of_block (w := w) (hb i o b d r ho hβ)]; exact hu
            simp [Instr.loadAt, Instr.sureAddr, loadVar, hag, hc]
        · cases h
    · cases h
  · cases h

/-- Equality of values without addresses; of a slice and nil. -/
def aeq (T : Tab) : Nat → Nat → Value → Value → Option Bool
  | 0, _, _, _ => none
  | d + 1, t, x, y =>
    match T t with
    | none => none
    | some ti =>
      match ti.d, x, y with
      | .bool, .bool a, .bool b => some (a == b)
      | .int _, .int k a, .int k' b => if k = k' then some (decide (a = b)) else none
      | .str, .string a, .string b => some (decide (a = b))
      | .struct fs, .agg xs, .agg ys => fs.foldr (init := some true) fun f r =>
          match apart T f.2 xs.toList f.1, apart T f.2 ys.toList f.1 with
          | some a, some b => match aeq T d f.2 a b, r with
            | some p, some q => some (p && q)
            | _, _ => none
          | _, _ => none
      | .arr n e, .agg xs, .agg ys =>
          match T e with
          | some te => (List.range n).foldr (init := some true) fun i r =>
            match apart T e xs.toList (i * te.size), apart T e ys.toList (i * te.size) with
            | some a, some b => match aeq T d e a b, r with
              | some p, some q => some (p && q)
              | _, _ => none
            | _, _ => none
          | none => none
      | .slice _, .slice none _ _, .slice b _ _ => some b.isNone
      | .slice _, .slice (some _) _ _, .slice none _ _ => some false
      | _, _, _ => none

theorem bytes_eq (a b : ByteArray) : (a == b) = decide (a = b) := by
  by_cases h : a = b
  · subst h; rw [beq_toListBytes]; simp
  · rw [decide_eq_false h]
    rw [beq_toListBytes]
    have : a.toList ≠ b.toList := fun h' => h (by
      rw [ByteArray.toList_eq, ByteArray.toList_eq] at h'
      obtain ⟨⟨x⟩⟩ := a
      obtain ⟨⟨y⟩⟩ := b
      simp at h'
      subst h'
      rfl)
    simpa using this
theorem bytes_eq' (a b : ByteArray) : (a.toList == b.toList) = decide (a = b) := by rw [← beq_toListBytes, bytes_eq]

/-- The fields of a struct. -/
theorem eqFields_sound {P : Program} (d : Nat) (xs ys : Array Value) (w : World) (g : Field → Bool) : ∀ (fs : List Field), (∀ f ∈ fs, (f.name == "_") = false) →
    (∀ f ∈ fs, ∃ a b, (part f.type xs f.offset).run P w = .ok a w ∧ (part f.type ys f.offset).run P w = .ok b w ∧ (Op.equalIn d f.type a b).run P w = .ok (g f) w) →
    (Op.eqFields d xs ys fs).run P w = .ok (fs.all g) w
  | [], _, _ => by simp [Op.eqFields]
  | f :: fs, hn, h => by
    obtain ⟨a, b, ha, hb, he⟩ := h f (by simp)
    have hn' : f.name ≠ "_" := by simpa using hn f (by simp)
    have ih := eqFields_sound d xs ys w g fs (fun f hf => hn f (by simp [hf])) (fun f hf => h f (by simp [hf]))
    rw [Op.eqFields]
    simp only [if_pos hn', Sem.run_bind, ha, hb, he, Result.andThen_ok, List.all_cons]
    cases g f
    · simp
    · simpa using ih

theorem eqArr_sound {P : Program} (w : World) (xs ys : Array Value) (d elem size n : Nat) (g : Nat → Bool)
    (h : ∀ i, i < n → ∃ a b, (part elem xs (i * size)).run P w = .ok a w ∧ (part elem ys (i * size)).run P w = .ok b w ∧ (Op.equalIn d elem a b).run P w = .ok (g i) w) :
    (forIn (m := Sem) [0:n] ((none, ()) : Option Bool × Unit) fun i _ => do
        let a ← part elem xs (i * size)
        let b ← part elem ys (i * size)
        let r ← Op.equalIn d elem a b
        if (!r) = true then pure (ForInStep.done (some false, ())) else pure (ForInStep.yield (none, ()))).run P w = .ok (if (List.range n).all g then (none, ()) else (some false, ())) w := by
  have e : ∀ {α : Type} (f : Nat → α → Sem (ForInStep α)) (s : α), forIn (m := Sem) [0:n] s f = forIn (List.range n) s f := fun f s => by
    rw [Std.Legacy.Range.forIn_eq_forIn_range', List.range_eq_range']
    simp [Std.Legacy.Range.size]
  rw [e]
  have key : ∀ l : List Nat, (∀ i ∈ l, i < n) → (forIn (m := Sem) l ((none, ()) : Option Bool × Unit) fun i _ => do
        let a ← part elem xs (i * size)
        let b ← part elem ys (i * size)
        let r ← Op.equalIn d elem a b
        if (!r) = true then pure (ForInStep.done (some false, ())) else pure (ForInStep.yield (none, ()))).run P w = .ok (if l.all g then (none, ()) else (some false, ())) w := by
    intro l
    induction l with
    | nil => intro _; simp
    | cons i l ih =>
      intro hl
      obtain ⟨a, b, ha, hb, he⟩ := h i (hl i (by simp))
      have ih' := ih (fun j hj => hl j (by simp [hj]))
      simp only [List.forIn_cons, Sem.run_bind, ha, hb, he, Result.andThen_ok, List.all_cons] at ih' ⊢
      by_cases hgi : g i = true
      · simpa [hgi] using ih'
      · simp [hgi]
  exact key (List.range n) (fun i hi => by simpa using hi)

theorem foldr_some {α : Type} (l : List α) (f : α → Option Bool) (b : Bool)
    (h : l.foldr (init := some true) (fun x r => match f x, r with | some p, some q => some (p && q) | _, _ => none) = some b) :
    ∃ g : α → Bool, (∀ x ∈ l, f x = some (g x)) ∧ b = l.all g := by
  refine ⟨fun x => (f x).getD false, ?_⟩
  induction l generalizing b with
  | nil => simp at h; exact ⟨by simp, by simp [h]⟩
  | cons x l ih =>
    simp only [List.foldr_cons] at h
    split at h
    · rename_i p q hp hq
      obtain ⟨h1, h2⟩ := ih q hq
      obtain rfl := Option.some.inj h
      refine ⟨fun y hy => ?_, ?_⟩
      · rcases List.mem_cons.1 hy with rfl | hy
        · simp [hp]
        · exact h1 y hy
      · simp [hp, h2]
    · cases h

theorem aeq_sound {P : Program} {T : Tab} (hT : TOK P T) {β : List Loc} : ∀ (d t : Nat) (x y x' y' : Value) (b : Bool), R β x x' → R β y y' → aeq T d t x y = some b →
    ∀ w, (Op.equalIn d t x' y').run P w = .ok b w := by
  intro d
  induction d with
  | zero => intro t x y x' y' b _ _ h; simp [aeq] at h
  | succ d ih =>
    intro t x y x' y' b hx hy h w
    unfold aeq at h
    split at h
    · cases h
    · rename_i ti hti
      have hf := hT.fits t ti hti
      split at h
      · rename_i hd
        rw [hd] at hf
        obtain rfl := Option.some.inj h
        cases hx; cases hy
        exact run_equalIn_bool w d t _ _ hf
      · rename_i hd
        rw [hd] at hf
        split at h
        · rename_i hk
          subst hk
          obtain rfl := Option.some.inj h
          cases hx; cases hy
          rw [run_equalIn_int w d t _ _ _ _ hf]
          rfl
        · cases h
      · rename_i hd
        rw [hd] at hf
        obtain rfl := Option.some.inj h
        cases hx; cases hy
        rw [run_equalIn_string w d t _ _ hf, bytes_eq']
      · rename_i fs xs ys hd
        rw [hd] at hf
        obtain ⟨hst, _, fields, hu, hn, hfs⟩ := hf
        cases hx with
        | @agg _ xs' hsx hxx =>
        cases hy with
        | @agg _ ys' hsy hyy =>
        have hx2 := RL.of_agg hsx hxx
        have hy2 := RL.of_agg hsy hyy
        have hfo : P.fieldsOf t = fields := by simp [Program.fieldsOf, hu]
        rw [run_equalIn_struct (P := P) w d t xs' ys' (by rw [hfo]; exact hu) hst, hfo]
        have h' : fs.foldr (init := some true) (fun f r => match (match apart T f.2 xs.toList f.1, apart T f.2 ys.toList f.1 with | some a, some b => aeq T d f.2 a b | _, _ => none), r with | some p, some q => some (p && q) | _, _ => none) = some b := by
          rw [← h]
          congr 1
          funext f r
          split <;> split <;> simp_all
        obtain ⟨g, hg, rfl⟩ := foldr_some fs _ b h'
        rw [← hfs, List.all_map]
        refine eqFields_sound d xs' ys' w _ fields.toList hn fun f hf => ?_
        have hg' := hg (f.offset, f.type) (by rw [← hfs]; exact List.mem_map.2 ⟨f, hf, rfl⟩)
        dsimp only at hg'
        split at hg'
        · rename_i a c ha hc
          obtain ⟨a', hRa, hra⟩ := apart_sound hT hx2 ha
          obtain ⟨c', hRc, hrc⟩ := apart_sound hT hy2 hc
          exact ⟨a', c', hra w, hrc w, ih f.type a c a' c' _ hRa hRc hg' w⟩
        · cases hg'
      · rename_i n e xs ys hd
        rw [hd] at hf
        obtain ⟨_, hu⟩ := hf
        cases hx with
        | @agg _ xs' hsx hxx =>
        cases hy with
        | @agg _ ys' hsy hyy =>
        have hx2 := RL.of_agg hsx hxx
        have hy2 := RL.of_agg hsy hyy
        split at h
        · rename_i te hte
          have h' : (List.range n).foldr (init := some true) (fun i r => match (match apart T e xs.toList (i * te.size), apart T e ys.toList (i * te.size) with | some a, some b => aeq T d e a b | _, _ => none), r with | some p, some q => some (p && q) | _, _ => none) = some b := by
            rw [← h]
            congr 1
            funext i r
            split <;> split <;> simp_all
          obtain ⟨g, hg, rfl⟩ := foldr_some (List.range n) _ b h'
          have hs := run_size w hT hte
          simp only [Op.equalIn, Sem.run_bind, run_underlying hu, Result.andThen_ok, hs]
          have harr := eqArr_sound (P := P) w xs' ys' d e te.size n g fun i hi => ?_
          · rw [harr]
            simp only [Result.andThen_ok]
            rcases hall : (List.range n).all g with _ | _ <;> simp
          have hg' := hg i (by simpa using hi)
          split at hg'
          · rename_i a c ha hc
            obtain ⟨a', hRa, hra⟩ := apart_sound hT hx2 ha
            obtain ⟨c', hRc, hrc⟩ := apart_sound hT hy2 hc
            exact ⟨a', c', hra w, hrc w, ih e a c a' c' _ hRa hRc hg' w⟩
          · cases hg'
        · cases h
      · rename_i hd
        rw [hd] at hf
        obtain rfl := Option.some.inj h
        cases hx
        cases hy <;> simp [Op.equalIn, run_underlying hf]
      · rename_i hd
        rw [hd] at hf
        obtain rfl := Option.some.inj h
        cases hy
        cases hx <;> simp [Op.equalIn, run_underlying hf]
      · cases h
end Go.Proofs.Ythalogdopkoidaa.Ab
