/- The operations that make memory or write it. No statement of the seat's in it. -/
import Derived.Test.YthalogdopkoidaaA6
import Derived.Laws.CopyRow
set_option linter.unusedVariables false
namespace Go.Proofs.Ythalogdopkoidaa.Ab
open Go Go.RowKit

/-- n zero elements. -/
def zeros (n : Nat) (z : List Value) : List Value := (List.range (n * z.length)).map fun j => z.getD (j % z.length) undef

theorem zeros_length (n : Nat) (z : List Value) : (zeros n z).length = n * z.length := by simp [zeros]

theorem zeros_const {n : Nat} {z : List Value} (h : ∀ v ∈ z, flatConst v = true) : ∀ v ∈ zeros n z, flatConst v = true := by
  intro v hv
  simp only [zeros, List.mem_map, List.mem_range] at hv
  obtain ⟨j, hj, rfl⟩ := hv
  have hz : 0 < z.length := by
    rcases Nat.eq_zero_or_pos z.length with h0 | h0
    · rw [h0] at hj; omega
    · exact h0
  have hm : j % z.length < z.length := Nat.mod_lt _ hz
  rw [List.getD_eq_getElem?_getD, List.getElem?_eq_getElem hm]
  exact h _ (List.getElem_mem hm)

theorem zeros_made {n : Nat} {z : Array Value} (zl : List Value) (hz : z.toList = zl) : ((Array.range (n * z.size)).map (fun j => z[j % z.size]!)).toList = zeros n zl := by
  subst hz
  apply List.ext_getElem?
  intro j
  simp only [zeros, Array.toList_map, Array.toList_range, List.getElem?_map, Array.length_toList]
  by_cases hj : j < n * z.size
  · have hs : 0 < z.size := by
      rcases Nat.eq_zero_or_pos z.size with h0 | h0
      · rw [h0] at hj; omega
      · exact h0
    have hm : j % z.size < z.size := Nat.mod_lt _ hs
    rw [List.getElem?_range hj]
    simp only [Option.map_some]
    rw [getElem!_pos z _ hm, List.getD_eq_getElem?_getD]
    simp [hm]
  · rw [List.getElem?_eq_none (by simp; omega)]
    simp

theorem flatConst_flat {v : Value} (h : flatConst v = true) : flat v = true := by
  unfold flatConst at h
  split at h <;> first | rfl | cases h

/-- What an effect leaves: the value, the objects, which object was turned. -/
abbrev Eff := Value × AHeap × Option Nat

def eappend (T : Tab) (H : AHeap) (e : Nat) (s x : Value) : Option Eff :=
  match T e with
  | none => none
  | some ei =>
    if ei.size = 0 ∨ ei.bytes = 0 then none else
    match x with
    | .slice xa m _ =>
      -- what is appended
      match (match xa with
        | none => if m = 0 then some [] else none
        | some ⟨j, off, none⟩ =>
          if m = 0 then some [] else
          match H[j]? with
          | some (some o) => if off + m * ei.size ≤ o.cells.length then some ((o.cells.drop off).take (m * ei.size)) else none
          | _ => none
        | _ => none) with
      | none => none
      | some news =>
        match s with
        | .slice none 0 0 =>
          if m = 0 then some (.slice none 0 0, H, none)
          else if m * ei.bytes ≤ 140737488355328 then some (.slice (some ⟨H.length, 0, none⟩) m m, H ++ [some ⟨e, news, true⟩], none) else none
        | .slice (some ⟨i, 0, none⟩) n _ =>
          if m = 0 then some (.slice (some ⟨i, 0, none⟩) n n, H, none) else
          match H[i]? with
          | some (some o) =>
            if o.rw = true ∧ o.ty = e ∧ n * ei.size ≤ o.cells.length ∧ (n + m) * ei.bytes ≤ 140737488355328 then
              some (.slice (some ⟨H.length, 0, none⟩) (n + m) (n + m), H.set i none ++ [some ⟨e, o.cells.take (n * ei.size) ++ news, true⟩], some i)
            else none
          | _ => none
        | _ => none
    | _ => none

def estore (T : Tab) (H : AHeap) (t : Nat) (p x : Value) : Option Eff :=
  match p with
  | .pointer (some ⟨i, off, none⟩) =>
    match T t, H[i]? with
    | some ti, some (some o) =>
      if o.rw = true ∧ known x = true ∧ x.cells.size = ti.size ∧ off + ti.size ≤ o.cells.length ∧ x.cells.toList.all flat = true then
        some (undef, H.set i (some { o with cells := over o.cells off x.cells.toList }), some i)
      else none
    | _, _ => none
  | _ => none

def ebox (T : Tab) (H : AHeap) (t : Nat) (x : Value) : Option Eff :=
  match T t with
  | some ti =>
    if known x = true ∧ x.cells.size = ti.size ∧ x.cells.toList.all flat = true then
      some (.pointer (some ⟨H.length, 0, none⟩), H ++ [some ⟨t, x.cells.toList, true⟩], none)
    else none
  | none => none

def ealloc (T : Tab) (H : AHeap) (t : Nat) : Option Eff :=
  match T t with
  | some ti => some (.pointer (some ⟨H.length, 0, none⟩), H ++ [some ⟨t, ti.zero, true⟩], none)
  | none => none

def elit (T : Tab) (H : AHeap) (t len : Nat) (parts : List (Nat × Value)) : Option Eff :=
  match T t with
  | some ti =>
    match ti.d with
    | .slice e => match T e with
      | some ei =>
        if ei.size = 0 ∨ len * ei.size > 16777216 then none else
        match afill (fun i => some (i * ei.size, ei.size)) (zeros len ei.zero) parts with
        | some out => if out.all flat = true then some (.slice (some ⟨H.length, 0, none⟩) len len, H ++ [some ⟨e, out, true⟩], none) else none
        | none => none
      | none => none
    | _ => none
  | none => none

def emake (T : Tab) (H : AHeap) (t : Nat) (l c : Value) : Option Eff :=
  match T t, l, c with
  | some ti, .int _ l, .int _ c =>
    match ti.d with
    | .slice e => match T e with
      | some ei =>
        if ei.size ≠ 0 ∧ ei.bytes ≠ 0 ∧ 0 ≤ l ∧ l ≤ c ∧ c.toNat * ei.bytes ≤ 140737488355328 then
          some (.slice (some ⟨H.length, 0, none⟩) l.toNat l.toNat, H ++ [some ⟨e, zeros c.toNat ei.zero, true⟩], none)
        else none
      | none => none
    | _ => none
  | _, _, _ => none

def eop (T : Tab) (H : AHeap) (ev : Operand → Value) : Op → Option Eff
  | .alloc t => ealloc T H t
  | .box t x => ebox T H t (ev x)
  | .buildSlice t len parts => elit T H t len (parts.toList.map fun p => (p.1, ev p.2))
  | .makeSlice t l c => emake T H t (ev l) (ev c)
  | .store t p x => estore T H t (ev p) (ev x)
  | .call c =>
    match c.callee, c.args.toList, c.argTypes.toList with
    | .builtin .append, [s, x], [t, t'] =>
      match T t with
      | some ti => match ti.d with
        | .slice e => if t' = t then eappend T H e (ev s) (ev x) else none
        | _ => none
      | none => none
    | _, _, _ => none
  | _ => none

/-- What is said of an effect: the run, and what the world bears behind it. -/
def Does (P : Program) (ok perm : Nat → Prop) (H : AHeap) (β : List Loc) (w : World) (run : Result Next) (r : Eff) : Prop :=
  ∃ nx w' β' v', run = .ok nx w' ∧ (nx = .value v' ∨ (nx = .skip ∧ v' = undef)) ∧ R β' r.1 v' ∧ β <+: β' ∧ Inv P ok perm r.2.1 β' w' ∧
    Fr (fun b => ∃ i d q, r.2.2 = some i ∧ β[i]? = some (b, d, q)) w w' ∧ AExt (fun i => r.2.2 = some i) H r.2.1

theorem does_new {P : Program} {T : Tab} (hT : TOK P T) {ok perm : Nat → Prop} {H : AHeap} {β : List Loc} {w : World} (hI : Inv P ok perm H β w) (hperm : perm w.heap.size)
    {t : Nat} {ti : TI} (hti : T t = some ti) {cells : List Value} {cur : List Value} (hR : RL β cells cur) {r : Nat} (hr : r ≤ maxLen) (hlen : cells.length = r * ti.size) (hf : cells.all flat = true)
    {v : Value} {v' : Value} (hv : ∀ β' : List Loc, β'[H.length]? = some (w.heap.size, 0, r) → R β' v v') {run : Result Next} (hrun : run = .ok (.value v') (w.alloc (.cells cur.toArray t))) :
    Does P ok perm H β w run (v, H ++ [some ⟨t, cells, true⟩], none) := by
  obtain ⟨q, z, hq, hs, _⟩ := hT.info t ti hti
  refine ⟨_, _, β ++ [(w.heap.size, 0, r)], v', hrun, .inl rfl, hv _ (by rw [← hI.len]; simp), List.prefix_append _ _, ?_, ?_, ?_⟩
  · refine hI.new hperm ⟨t, cells, true⟩ cur.toArray r q hr hq (by simp [← hR.1, hlen, hs]) (fun u hu => List.all_eq_true.1 hf u hu) (fun k u hk => ?_)
    have hlt : k < cells.length := (List.getElem?_eq_some_iff.1 hk).1
    have hlt' : k < cur.length := by rw [← hR.1]; exact hlt
    exact ⟨cur[k], by simp [hlt'], hR.2 k _ _ hk (List.getElem?_eq_getElem hlt')⟩
  · exact Fr.below (below_alloc' w _) _
  · exact ⟨by simp, fun i hi _ => by rw [List.getElem?_append_left hi]⟩
where
  below_alloc' (w : World) (o : Obj) : Below w.heap.size w (w.alloc o) := (Below.refl _ _).alloc (Nat.le_refl _) o
end Go.Proofs.Ythalogdopkoidaa.Ab
