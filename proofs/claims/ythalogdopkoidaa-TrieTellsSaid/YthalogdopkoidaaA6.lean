/- The operations that only read, gathered: 'qop'. No statement of the seat's in it. -/
import Derived.Test.YthalogdopkoidaaA5
set_option linter.unusedVariables false
namespace Go.Proofs.Ythalogdopkoidaa.Ab
open Go Go.RowKit

/-- Something is known of it. -/
def known : Value → Bool
  | .tuple _ => false
  | .chan _ => false
  | _ => true

theorem R.cellsL {β : List Loc} {v v' : Value} (h : R β v v') (hk : known v = true) : RL β v.cells.toList v'.cells.toList := by
  cases h with
  | junk => simp [known] at hk
  | void => simp [known] at hk
  | tuple => simp [known] at hk
  | agg hs h => exact RL.of_agg hs h
  | bool b => exact RL.cons (.bool b) (RL.nil β)
  | int k n => exact RL.cons (.int k n) (RL.nil β)
  | string s => exact RL.cons (.string s) (RL.nil β)
  | nilp => exact RL.cons .nilp (RL.nil β)
  | ptr h => exact RL.cons (.ptr h) (RL.nil β)
  | nils => exact RL.cons .nils (RL.nil β)
  | slice h hc ho => exact RL.cons (.slice h hc ho) (RL.nil β)
  | empty a a' => exact RL.cons (.empty a a') (RL.nil β)
  | func fn hs h => exact RL.cons (.func fn hs h) (RL.nil β)

theorem RL.set {β : List Loc} {a a' : List Value} (h : RL β a a') {v v' : Value} (hv : R β v v') (i : Nat) : RL β (a.set i v) (a'.set i v') := by
  refine ⟨by simp [h.1], fun j u u' h1 h2 => ?_⟩
  by_cases e : i = j
  · subst e
    have hlt : i < a.length := by
      have := (List.getElem?_eq_some_iff.1 h1).1
      simpa using this
    rw [List.getElem?_set_self hlt] at h1
    rw [List.getElem?_set_self (by rw [← h.1]; exact hlt)] at h2
    obtain rfl := Option.some.inj h1
    obtain rfl := Option.some.inj h2
    exact hv
  · rw [List.getElem?_set_ne e] at h1 h2
    exact h.2 j u u' h1 h2

/-- A run of cells, laid over others. -/
def over (cells : List Value) (off : Nat) : List Value → List Value
  | [] => cells
  | v :: l => over (cells.set off v) (off + 1) l

theorem over_length : ∀ (l cells : List Value) (off : Nat), (over cells off l).length = cells.length
  | [], _, _ => rfl
  | v :: l, cells, off => by rw [over, over_length l]; simp

theorem RL.over {β : List Loc} : ∀ {l l' cells cells' : List Value} {off : Nat}, RL β l l' → RL β cells cells' → RL β (over cells off l) (over cells' off l')
  | [], l', cells, cells', off, h, hc => by
    have : l' = [] := List.eq_nil_of_length_eq_zero h.1.symm
    subst this; exact hc
  | v :: l, l', cells, cells', off, h, hc => by
    cases l' with
    | nil => have := h.1; simp at this
    | cons v' l' =>
      have h0 := h.2 0 v v' rfl rfl
      exact RL.over (l := l) ⟨by have := h.1; simpa using this, fun j u u' h1 h2 => h.2 (j + 1) u u' (by simpa using h1) (by simpa using h2)⟩ (hc.set h0 off)

theorem foldl_over (off : Nat) : ∀ (l : List Value) (k : Nat) (cells : Array Value),
    ((l.zipIdx k).foldl (fun (cs : Array Value) (p : Value × Nat) => cs.setIfInBounds (off + p.2) p.1) cells).toList = over cells.toList (off + k) l
  | [], _, _ => rfl
  | v :: l, k, cells => by
    simp only [List.zipIdx_cons, List.foldl_cons, over]
    rw [foldl_over off l (k + 1)]
    simp [Nat.add_assoc]

/-- Parts laid into cells. -/
def afill (place : Nat → Option (Nat × Nat)) (cells : List Value) : List (Nat × Value) → Option (List Value)
  | [] => some cells
  | (i, v) :: rest =>
    match place i with
    | none => none
    | some (off, size) =>
      if known v = true ∧ v.cells.size = size ∧ off + size ≤ cells.length then afill place (over cells off v.cells.toList) rest else none

theorem afill_sound {β : List Loc} {place : Nat → Option (Nat × Nat)} : ∀ {parts parts' : List (Nat × Value)} {cells cells' out : List Value}, RL β cells cells' →
    (parts.length = parts'.length ∧ ∀ (j : Nat) (p p' : Nat × Value), parts[j]? = some p → parts'[j]? = some p' → p.1 = p'.1 ∧ R β p.2 p'.2) →
    afill place cells parts = some out → ∃ out' : List Value, Instr.fill place cells'.toArray parts' = some out'.toArray ∧ RL β out out'
  | [], parts', cells, cells', out, hc, hp, h => by
    have : parts' = [] := List.eq_nil_of_length_eq_zero hp.1.symm
    subst this
    simp [afill] at h
    subst h
    exact ⟨cells', by simp [Instr.fill], hc⟩
  | (i, v) :: parts, parts', cells, cells', out, hc, hp, h => by
    cases parts' with
    | nil => have := hp.1; simp at this
    | cons q parts' =>
      obtain ⟨i', v'⟩ := q
      obtain ⟨hi, hv⟩ := hp.2 0 (i, v) (i', v') rfl rfl
      dsimp only at hi hv
      subst hi
      simp only [afill] at h
      split at h
      · cases h
      · rename_i off size hpl
        split at h
        · rename_i hk
          obtain ⟨hk1, hk2, hk3⟩ := hk
          have hcl := hv.cellsL hk1
          have hsz : v'.cells.size = size := by rw [← hk2]; have := hcl.1; simpa using this.symm
          have hrec := afill_sound (parts := parts) (parts' := parts') (RL.over (off := off) hcl hc)
            ⟨by have := hp.1; simpa using this, fun j p p' h1 h2 => hp.2 (j + 1) p p' (by simpa using h1) (by simpa using h2)⟩ h
          obtain ⟨out', h1, h2⟩ := hrec
          refine ⟨out', ?_, h2⟩
          have hb : off + v'.cells.size ≤ cells'.length := by rw [hsz, ← hc.1]; exact hk3
          have hcond : (decide (v'.cells.size ≠ size) || decide (off + v'.cells.size > cells'.toArray.size)) = false := by
            simp [hsz] at hb ⊢
            omega
          simp only [Instr.fill, hpl]
          rw [if_neg (by rw [hcond]; simp)]
          rw [← h1]
          congr 1
          have := foldl_over off v'.cells.toList 0 cells'.toArray
          rw [Nat.add_zero] at this
          apply Array.ext'
          rw [← Array.foldl_toList]
          simpa using this
        · cases h

def placeOf (T : Tab) (fs : List (Nat × Nat)) (i : Nat) : Option (Nat × Nat) :=
  match fs[i]? with
  | some (off, ft) => (T ft).map fun fi => (off, fi.size)
  | none => none

def abuild (T : Tab) (t : Nat) (parts : List (Nat × Value)) : Option Value :=
  match T t with
  | some ti =>
    match ti.d with
    | .struct fs => if fs.all (fun p => (T p.2).isSome) then (afill (placeOf T fs) ti.zero parts).map fun cs => .agg cs.toArray else none
    | .arr n e => match T e with
      | some ei => (afill (fun i => some (i * ei.size, ei.size)) ti.zero parts).map fun cs => .agg cs.toArray
      | none => none
    | _ => none
  | none => none

theorem run_places {P : Program} {T : Tab} (hT : TOK P T) (w : World) : ∀ (fields : List Field), (∀ f ∈ fields, (T f.type).isSome = true) →
    (fields.mapM (m := Sem) fun f => do pure (f.offset, ← sizeOf f.type)).run P w = .ok (fields.map fun f => (f.offset, ((T f.type).map (·.size)).getD 0)) w
  | [], _ => by simp
  | f :: fields, h => by
    obtain ⟨fi, hfi⟩ := Option.isSome_iff_exists.1 (h f (by simp))
    have ih := run_places hT w fields (fun g hg => h g (by simp [hg]))
    simp only [bind_pure_comp] at ih
    simp [List.mapM_cons, run_size w hT hfi, ih, hfi]

theorem abuild_sound {P : Program} {T : Tab} (hT : TOK P T) {β : List Loc} {t : Nat} {parts parts' : List (Nat × Value)} {v : Value}
    (hp : parts.length = parts'.length ∧ ∀ (j : Nat) (p p' : Nat × Value), parts[j]? = some p → parts'[j]? = some p' → p.1 = p'.1 ∧ R β p.2 p'.2) (h : abuild T t parts = some v) :
    ∃ v', R β v v' ∧ ∀ w, (Instr.build t parts'.toArray).run P w = .ok v' w := by
  unfold abuild at h
  split at h
  · rename_i ti hti
    have hf := hT.fits t ti hti
    have hz : RL β ti.zero ti.zero := RL.const β (hT.zflat t ti hti)
    split at h
    · rename_i fs hd
      rw [hd] at hf
      obtain ⟨_, _, fields, hu, _, hfs⟩ := hf
      split at h
      · rename_i hall
        cases ha : afill (placeOf T fs) ti.zero parts with
        | none => rw [ha] at h; simp at h
        | some out =>
          rw [ha] at h
          obtain rfl := Option.some.inj h
          obtain ⟨out', h1, h2⟩ := afill_sound hz hp ha
          refine ⟨.agg out'.toArray, h2.agg, fun w => ?_⟩
          obtain ⟨z, hzr, hzc⟩ := run_zero w hT hti
          have hfall : ∀ f ∈ fields.toList, (T f.type).isSome = true := fun f hf => by
            have := List.all_eq_true.1 hall (f.offset, f.type) (by rw [← hfs]; exact List.mem_map.2 ⟨f, hf, rfl⟩)
            simpa using this
          have hpl := run_places hT w fields.toList hfall
          have hplace : (fun i : Nat => ((fields.toList.map fun f => (f.offset, ((T f.type).map (·.size)).getD 0)).toArray)[i]?) = placeOf T fs := by
            funext i
            simp only [placeOf, ← hfs, List.getElem?_toArray, List.getElem?_map]
            cases hfi : fields.toList[i]? with
            | none => simp
            | some f =>
              obtain ⟨fi, hfi'⟩ := Option.isSome_iff_exists.1 (hfall f (List.mem_of_getElem? hfi))
              simp [hfi']
          have hzc' : z.cells = ti.zero.toArray := by apply Array.ext'; simp [hzc]
          have hm : (fields.mapM (m := Sem) fun f => do pure (f.offset, ← sizeOf f.type)).run P w = .ok (fields.toList.map fun f => (f.offset, ((T f.type).map (·.size)).getD 0)).toArray w := by
            rw [Array.mapM_eq_mapM_toList]
            simp only [Sem.run_map, hpl, Result.andThen_ok]
          simp only [Instr.build, Sem.run_bind, hzr, Result.andThen_ok, run_underlying hu]
          rw [hm]
          simp only [Result.andThen_ok]
          rw [hplace, hzc', h1]
          simp
      · cases h
    · rename_i n e hd
      rw [hd] at hf
      split at h
      · rename_i ei hei
        cases ha : afill (fun i => some (i * ei.size, ei.size)) ti.zero parts with
        | none => rw [ha] at h; simp at h
        | some out =>
          rw [ha] at h
          obtain rfl := Option.some.inj h
          obtain ⟨out', h1, h2⟩ := afill_sound hz hp ha
          refine ⟨.agg out'.toArray, h2.agg, fun w => ?_⟩
          obtain ⟨z, hzr, hzc⟩ := run_zero w hT hti
          have hzc' : z.cells = ti.zero.toArray := by apply Array.ext'; simp [hzc]
          simp [Instr.build, hzr, run_underlying hf.2, run_size w hT hei, hzc', h1]
      · cases h
    · cases h
  · cases h

/-! ### len, min, max -/
def alen (T : Tab) (t : Nat) (x : Value) : Option Value :=
  match T t with
  | some ti =>
    match ti.d, x with
    | .str, .string s => some (.int .i64 s.size)
    | .slice _, .slice _ n _ => some (.int .i64 n)
    | .arr n _, _ => some (.int .i64 n)
    | _, _ => none
  | none => none

theorem alen_sound {P : Program} {T : Tab} (hT : TOK P T) {β : List Loc} {t : Nat} {x x' v : Value} (hx : R β x x') (h : alen T t x = some v) :
    R β v v ∧ ∀ (ty : Nat) w, (Builtin.len_ #[t] ty #[x']).run P w = .ok v w := by
  unfold alen at h
  split at h
  · rename_i ti hti
    have hf := hT.fits t ti hti
    split at h
    · rename_i s hd
      rw [hd] at hf
      obtain rfl := Option.some.inj h
      cases hx
      exact ⟨.int _ _, fun ty w => by simp [Builtin.len_, run_underlying hf, goInt]⟩
    · rename_i e a n c hd
      rw [hd] at hf
      obtain rfl := Option.some.inj h
      refine ⟨.int _ _, fun ty w => ?_⟩
      cases hx <;> simp [Builtin.len_, run_underlying hf, goInt]
    · rename_i n e hd
      rw [hd] at hf
      obtain rfl := Option.some.inj h
      exact ⟨.int _ _, fun ty w => by simp [Builtin.len_, run_underlying hf.2, goInt]⟩
    · cases h
  · cases h

/-! ### All of them -/
def qcall (T : Tab) (ev : Operand → Value) (c : Call) : Option Value :=
  match c.callee with
  | .builtin .len => match c.args.toList, c.argTypes.toList with
    | [x], [t] => alen T t (ev x)
    | _, _ => none
  | .builtin .min => match c.args.toList with
    | [x, y] => match ev x, ev y with
      | .int k a, .int _ b => some (.int k (if b < a then b else a))
      | _, _ => none
    | _ => none
  | .builtin .max => match c.args.toList with
    | [x, y] => match ev x, ev y with
      | .int k a, .int _ b => some (.int k (if b > a then b else a))
      | _, _ => none
    | _ => none
  | _ => none

def qop (T : Tab) (H : AHeap) (ev : Operand → Value) : Op → Option Value
  | .move x | .assign x => some (ev x)
  | .pick c a b => match ev c with
    | .bool t => some (if t then ev a else ev b)
    | _ => none
  | .nilCheck x => match ev x with
    | .pointer (some ⟨i, o, none⟩) => some (.pointer (some ⟨i, o, none⟩))
    | .func (.func f) a b => some (.func (.func f) a b)
    | _ => none
  | .binOp op t x y _ => abin T op t (ev x) (ev y)
  | .unOp .not _ x => match ev x with
    | .bool b => some (.bool (!b))
    | _ => none
  | .convert s d x => aconv T H s d (ev x)
  | .fieldAddr s x f => afield T s (ev x) f
  | .field t x f => apick T t (ev x) f
  | .indexAddr t x i => aindex T t (ev x) (ev i)
  | .index t x i => aget T t (ev x) (ev i)
  | .extract x i => match ev x with
    | .tuple vs => vs[i]?
    | _ => none
  | .slice t x lo hi none => aslice T t (ev x) (lo.map ev) (hi.map ev)
  | .load t x => aload T H t (ev x)
  | .build t parts => abuild T t (parts.toList.map fun p => (p.1, ev p.2))
  | .makeFunc fn first captured => if first.size = 0 then some (.func fn #[] (captured.map ev)) else none
  | .call c => qcall T ev c
  | _ => none

theorem qop_sound {P : Program} {T : Tab} (hT : TOK P T) {ok perm : Nat → Prop} {H : AHeap} {β : List Loc} {w : World} (hI : Inv P ok perm H β w) {ev ρ : Operand → Value} (hρ : ∀ x, R β (ev x) (ρ x))
    {o : Oper} {v : Value} (h : qop T H ev o.op = some v) : ∃ v', R β v v' ∧ ∀ w', Keeps H β w w' → (execOp ρ o).run P w' = .ok (.value v') w' := by
  have hRO : ∀ x : Option Operand, RO β (x.map ev) (x.map ρ) := fun x => by cases x <;> simp [RO, hρ]
  generalize hop : o.op = op at h
  cases op <;> simp only [qop] at h
  case move x => obtain rfl := Option.some.inj h; exact ⟨_, hρ x, fun w' _ => by simp [execOp, hop]⟩
  case assign x => obtain rfl := Option.some.inj h; exact ⟨_, hρ x, fun w' _ => by simp [execOp, hop]⟩
  case pick c a b =>
    have hc := hρ c
    generalize hec : ev c = vc at h hc
    cases vc <;> simp only at h <;> first | (cases h; done) | skip
    rename_i t
    generalize hrc : ρ c = vc' at hc
    cases hc
    obtain rfl := Option.some.inj h
    refine ⟨if t then ρ a else ρ b, by cases t; exact hρ b; exact hρ a, fun w' _ => ?_⟩
    simp [execOp, hop, hrc, asBool]
  case nilCheck x =>
    have hc := hρ x
    generalize hec : ev x = vc at h hc
    split at h
    · rename_i i off
      obtain rfl := Option.some.inj h
      generalize hrc : ρ x = vc' at hc
      cases hc with
      | ptr hβ => exact ⟨_, .ptr hβ, fun w' _ => by simp [execOp, hop, hrc]⟩
    · rename_i f a b
      obtain rfl := Option.some.inj h
      generalize hrc : ρ x = vc' at hc
      cases hc with
      | func fn hs hR => exact ⟨_, .func _ hs hR, fun w' _ => by simp [execOp, hop, hrc]⟩
    · cases h
  case binOp op t x y yt =>
    obtain ⟨h1, h2⟩ := abin_sound (P := P) hT x y (hρ x) (hρ y) h
    refine ⟨v, h1, fun w' _ => ?_⟩
    simp only [execOp, hop]
    rw [Sem.run_bind, h2 w']
    rfl
  case unOp op t x =>
    cases op <;> simp only at h <;> first | (cases h; done) | skip
    have hc := hρ x
    generalize hec : ev x = vc at h hc
    cases vc <;> simp only at h <;> first | (cases h; done) | skip
    generalize hrc : ρ x = vc' at hc
    cases hc
    obtain rfl := Option.some.inj h
    exact ⟨_, .bool _, fun w' _ => by simp [execOp, hop, hrc, Op.unary]⟩
  case convert s d x =>
    obtain ⟨h1, h2⟩ := aconv_sound hT hI (hρ x) h
    exact ⟨v, h1, fun w' hb => by simp [execOp, hop, h2 w' hb]⟩
  case fieldAddr s x f =>
    obtain ⟨v', h1, h2⟩ := afield_sound (P := P) hT (hρ x) h
    exact ⟨v', h1, fun w' _ => by simp [execOp, hop, h2 w']⟩
  case field t x f =>
    obtain ⟨v', h1, h2⟩ := apick_sound (P := P) hT (hρ x) h
    exact ⟨v', h1, fun w' _ => by simp [execOp, hop, h2 w']⟩
  case indexAddr t x i =>
    obtain ⟨v', h1, h2⟩ := aindex_sound (P := P) hT (hρ x) (hρ i) h
    exact ⟨v', h1, fun w' _ => by simp [execOp, hop, h2 w']⟩
  case index t x i =>
    obtain ⟨v', h1, h2⟩ := aget_sound (P := P) hT (hρ x) (hρ i) h
    exact ⟨v', h1, fun w' _ => by simp [execOp, hop, h2 w']⟩
  case extract x i =>
    have hc := hρ x
    generalize hec : ev x = vc at h hc
    cases vc <;> simp only at h <;> first | (cases h; done) | skip
    rename_i vs
    generalize hrc : ρ x = vc' at hc
    cases hc with
    | junk => simp at h
    | @tuple _ vs' hs hR =>
      have hlt : i < vs.size := (Array.getElem?_eq_some_iff.1 h).1
      have hlt' : i < vs'.size := by rw [← hs]; exact hlt
      refine ⟨vs'[i], hR i _ _ h (Array.getElem?_eq_getElem hlt'), fun w' _ => ?_⟩
      simp [execOp, hop, hrc, Instr.extract, hlt']
  case slice t x lo hi mx =>
    cases mx with
    | some _ => simp at h
    | none =>
      obtain ⟨v', h1, h2⟩ := aslice_sound (P := P) hT (hρ x) (hRO lo) (hRO hi) h
      exact ⟨v', h1, fun w' _ => by simp [execOp, hop, h2 w']⟩
  case load t x =>
    obtain ⟨v', h1, h2⟩ := aload_sound hT hI (hρ x) h
    exact ⟨v', h1, fun w' hb => by simp [execOp, hop, h2 w' hb]⟩
  case build t parts =>
    obtain ⟨v', h1, h2⟩ := abuild_sound (P := P) (β := β) hT (parts' := parts.toList.map fun p => (p.1, ρ p.2)) ⟨by simp, fun j p p' hp1 hp2 => by
      rw [List.getElem?_map] at hp1 hp2
      cases hj : parts.toList[j]? with
      | none => rw [hj] at hp1; cases hp1
      | some q =>
        rw [hj] at hp1 hp2
        obtain rfl := Option.some.inj hp1
        obtain rfl := Option.some.inj hp2
        exact ⟨rfl, hρ _⟩⟩ h
    refine ⟨v', h1, fun w' _ => ?_⟩
    have h2' := h2 w'
    have e : (parts.toList.map fun p => (p.1, ρ p.2)).toArray = parts.map fun (p : Nat × Operand) => (p.1, ρ p.2) := by
      apply Array.ext'; simp
    rw [e] at h2'
    simp [execOp, hop, h2']
  case makeFunc fn first captured =>
    split at h
    · rename_i hs
      obtain rfl := Option.some.inj h
      have hfe : first = #[] := Array.eq_empty_of_size_eq_zero hs
      subst hfe
      refine ⟨.func fn #[] (captured.map ρ), .func fn (by simp) (fun j u u' h1 h2 => ?_), fun w' _ => by simp [execOp, hop, Instr.makeFunc]⟩
      rw [Array.getElem?_map] at h1 h2
      cases hj : captured[j]? with
      | none => rw [hj] at h1; cases h1
      | some q =>
        rw [hj] at h1 h2
        obtain rfl := Option.some.inj h1
        obtain rfl := Option.some.inj h2
        exact hρ q
    · cases h
  case call c =>
    unfold qcall at h
    split at h
    · rename_i hcal
      split at h
      · rename_i x t ha hat
        obtain ⟨h1, h2⟩ := alen_sound (P := P) hT (hρ x) h
        have ha' : c.args = #[x] := by apply Array.ext'; simp [ha]
        have hat' : c.argTypes = #[t] := by apply Array.ext'; simp [hat]
        exact ⟨v, h1, fun w' _ => by simp [execOp, hop, resolve, invoke, builtin, hcal, ha', hat', h2]⟩
      · cases h
    · rename_i hcal
      split at h
      · rename_i x y ha
        have ha' : c.args = #[x, y] := by apply Array.ext'; simp [ha]
        split at h
        · rename_i k a k' b hx hy
          obtain rfl := Option.some.inj h
          have rx := hρ x; have ry := hρ y
          rw [hx] at rx; rw [hy] at ry
          generalize hrx : ρ x = x' at rx
          generalize hry : ρ y = y' at ry
          cases rx; cases ry
          exact ⟨_, .int _ _, fun w' _ => by simp [execOp, hop, resolve, invoke, builtin, hcal, ha', hrx, hry, Builtin.min_, Builtin.min2]⟩
        · cases h
      · cases h
    · rename_i hcal
      split at h
      · rename_i x y ha
        have ha' : c.args = #[x, y] := by apply Array.ext'; simp [ha]
        split at h
        · rename_i k a k' b hx hy
          obtain rfl := Option.some.inj h
          have rx := hρ x; have ry := hρ y
          rw [hx] at rx; rw [hy] at ry
          generalize hrx : ρ x = x' at rx
          generalize hry : ρ y = y' at ry
          cases rx; cases ry
          exact ⟨_, .int _ _, fun w' _ => by simp [execOp, hop, resolve, invoke, builtin, hcal, ha', hrx, hry, Builtin.max_, Builtin.max2]⟩
        · cases h
      · cases h
    · cases h
  all_goals (cases h)
end Go.Proofs.Ythalogdopkoidaa.Ab
