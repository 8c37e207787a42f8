/- The operations that only read, all of them. No statement of the seat's in it. -/
import Derived.Test.YthalogdopkoidaaA4
set_option linter.unusedVariables false
namespace Go.Proofs.Ythalogdopkoidaa.Ab
open Go Go.RowKit

/-! ### Conversions -/
def byteOf? : Value → Option Int
  | .int .u8 n => some n
  | _ => none

def aconv (T : Tab) (H : AHeap) (s d : Nat) (x : Value) : Option Value :=
  match x with
  | .int _ n =>
    match T s, T d with
    | some si, some di => match si.d, di.d with
      | .int _, .int k => some (.int k (k.wrap n))
      | _, _ => none
    | _, _ => none
  | .slice a n _ =>
    match T s, T d with
    | some si, some di => match si.d, di.d with
      | .slice e, .str => match T e with
        | some ei => match ei.d with
          | .int .u8 =>
            match a with
            | none => if n = 0 then some (.string ByteArray.empty) else none
            | some ⟨i, off, none⟩ =>
              if n = 0 then some (.string ByteArray.empty) else
              match H[i]? with
              | some (some o) => if off + n ≤ o.cells.length then (((o.cells.drop off).take n).mapM byteOf?).map fun xs => .string (strOfNums xs) else none
              | _ => none
            | _ => none
          | _ => none
        | none => none
      | _, _ => none
    | _, _ => none
  | _ => none

theorem mapM_bytes {β : List Loc} : ∀ {cs cs' : List Value} {xs : List Int}, RL β cs cs' → cs.mapM byteOf? = some xs → cs' = xs.map (Value.int .u8)
  | [], cs', xs, hR, h => by
    simp at h; subst h
    have := hR.1
    simpa using List.eq_nil_of_length_eq_zero this.symm
  | c :: cs, cs', xs, hR, h => by
    cases cs' with
    | nil => have := hR.1; simp at this
    | cons c' cs' =>
      rw [List.mapM_cons] at h
      cases hc : byteOf? c with
      | none => rw [hc] at h; simp at h
      | some n =>
        rw [hc] at h
        cases hcs : cs.mapM byteOf? with
        | none => rw [hcs] at h; simp at h
        | some ys =>
          rw [hcs] at h
          simp at h
          subst h
          have h0 := hR.2 0 c c' rfl rfl
          unfold byteOf? at hc
          split at hc
          · obtain rfl := Option.some.inj hc
            cases h0
            have := mapM_bytes (cs := cs) (cs' := cs') (xs := ys) ⟨by have := hR.1; simpa using this, fun j v v' h1 h2 => hR.2 (j + 1) v v' (by simpa using h1) (by simpa using h2)⟩ hcs
            simp [this]
          · cases hc

theorem aconv_sound {P : Program} {T : Tab} (hT : TOK P T) {ok perm : Nat → Prop} {H : AHeap} {β : List Loc} {w : World} (hI : Inv P ok perm H β w) {s d : Nat} {x x' v : Value} (hx : R β x x')
    (h : aconv T H s d x = some v) : R β v v ∧ ∀ w', Keeps H β w w' → (convert s d x').run P w' = .ok v w' := by
  unfold aconv at h
  split at h
  · split at h
    · rename_i si di hsi hdi
      split at h
      · rename_i ks kd hs hd
        obtain rfl := Option.some.inj h
        have hfs := hT.fits s si hsi
        have hfd := hT.fits d di hdi
        rw [hs] at hfs; rw [hd] at hfd
        cases hx
        refine ⟨.int _ _, fun w' _ => ?_⟩
        simp [convert, run_underlying hfs, run_underlying hfd, Conv.intToInt]
      · cases h
    · cases h
  · rename_i aa n cc
    split at h
    · rename_i si di hsi hdi
      split at h
      · rename_i e hs hd
        have hfs := hT.fits s si hsi
        have hfd := hT.fits d di hdi
        rw [hs] at hfs; rw [hd] at hfd
        split at h
        · rename_i ei hei
          have hfe := hT.fits e ei hei
          split at h
          · rename_i he
            rw [he] at hfe
            split at h
            · split at h
              · rename_i hn
                obtain rfl := Option.some.inj h
                cases hx
                exact ⟨.string _, fun w' _ => run_convert_bytes_nil w' s e hfs hfe 0 0 d hfd⟩
              · cases h
            · rename_i i off
              split at h
              · rename_i hn
                subst hn
                obtain rfl := Option.some.inj h
                refine ⟨.string _, fun w' _ => ?_⟩
                have key : ∀ a' c, (convert s d (.slice (some a') 0 c)).run P w' = .ok (.string ByteArray.empty) w' := fun a' c => by
                  simp only [convert, Sem.run_bind, run_underlying hfs, run_underlying hfd, run_underlying hfe, Result.andThen_ok]
                  simp [Conv.bytesToString, loadCells, loadCellsFrom]
                cases hx <;> exact key _ _
              · rename_i hn0
                split at h
                · rename_i o ho
                  split at h
                  · rename_i hl
                    cases hm : ((o.cells.drop off).take _).mapM byteOf? with
                    | none => rw [hm] at h; simp at h
                    | some xs =>
                      rw [hm] at h
                      obtain rfl := Option.some.inj h
                      cases hx with
                      | @slice _ _ _ c b d' r hβ hc hoo =>
                        obtain ⟨cs', h1, h2, h3⟩ := (hI.obj i o b d' r ho hβ).range off n hl
                        have hcs := mapM_bytes h1 hm
                        refine ⟨.string _, fun w' hb => ?_⟩
                        have hlen : xs.length = n := by rw [← h2, hcs]; simp
                        refine run_convert_bytes_arg w' s e hfs hfe b (d' + off) n c xs hlen (fun j hj => ?_) d hfd
                        have hj' : j < xs.length := by omega
                        refine h3 w' (hb i o b d' r ho hβ) j _ ?_
                        rw [hcs]
                        simp [List.getElem?_eq_getElem hj', List.getD_eq_getElem?_getD]
                      | empty => exact absurd rfl hn0
                  · cases h
                · cases h
            · cases h
          · cases h
        · cases h
      · cases h
    · cases h
  · cases h

/-! ### Addresses -/
def afield (T : Tab) (s : Nat) (x : Value) (f : Nat) : Option Value :=
  match x, T s with
  | .pointer (some ⟨i, o, none⟩), some si =>
    match si.d with
    | .struct fs => match fs[f]? with
      | some (off, ft) => match T ft with
        | some fi => if fi.size = 0 then none else some (.pointer (some ⟨i, o + off, none⟩))
        | none => none
      | none => none
    | _ => none
  | _, _ => none

theorem struct_get {fields : Array Field} {fs : List (Nat × Nat)} (h : fields.toList.map (fun f => (f.offset, f.type)) = fs) {j off ft : Nat} (hj : fs[j]? = some (off, ft)) :
    ∃ f, fields[j]? = some f ∧ f.offset = off ∧ f.type = ft := by
  rw [← h, List.getElem?_map] at hj
  cases hf : fields.toList[j]? with
  | none => rw [hf] at hj; cases hj
  | some f =>
    rw [hf] at hj
    simp at hj
    exact ⟨f, by simpa using hf, hj.1, hj.2⟩

theorem afield_sound {P : Program} {T : Tab} (hT : TOK P T) {β : List Loc} {s f : Nat} {x x' v : Value} (hx : R β x x') (h : afield T s x f = some v) :
    ∃ v', R β v v' ∧ ∀ w, (Instr.fieldAt s x' f).run P w = .ok v' w := by
  unfold afield at h
  split at h
  · rename_i i o si hsi
    split at h
    · rename_i fs hd
      have hf := hT.fits s si hsi
      rw [hd] at hf
      obtain ⟨_, _, fields, hu, _, hfs⟩ := hf
      split at h
      · rename_i off ft hft
        split at h
        · rename_i fi hfi
          split at h
          · cases h
          · rename_i hsz
            obtain rfl := Option.some.inj h
            obtain ⟨fl, hfl, rfl, rfl⟩ := struct_get hfs hft
            cases hx with
            | @ptr _ _ b d r hβ =>
              refine ⟨.pointer (some ⟨b, d + (o + fl.offset), none⟩), .ptr hβ, fun w => ?_⟩
              simp [Instr.fieldAt, run_underlying hu, hfl, Instr.sureAddr, fieldPlace, run_size w hT hfi, hsz, add_loc, Nat.add_assoc]
        · cases h
      · cases h
    · cases h
  · cases h

def aindex (T : Tab) (t : Nat) (x ix : Value) : Option Value :=
  match ix with
  | .int _ j =>
    match T t with
    | some ti =>
      match ti.d, x with
      | .slice e, .slice (some ⟨i, o, none⟩) n _ => match T e with
        | some ei => if 0 ≤ j ∧ j < n then some (.pointer (some ⟨i, o + j.toNat * ei.size, none⟩)) else none
        | none => none
      | .arr n e, .pointer (some ⟨i, o, none⟩) => match T e with
        | some ei => if 0 ≤ j ∧ j < n then some (.pointer (some ⟨i, o + j.toNat * ei.size, none⟩)) else none
        | none => none
      | _, _ => none
    | none => none
  | _ => none

theorem aindex_sound {P : Program} {T : Tab} (hT : TOK P T) {β : List Loc} {t : Nat} {x x' ix ix' v : Value} (hx : R β x x') (hi : R β ix ix') (h : aindex T t x ix = some v) :
    ∃ v', R β v v' ∧ ∀ w, (Instr.indexAt t x' ix').run P w = .ok v' w := by
  unfold aindex at h
  split at h
  · rename_i k j
    cases hi
    split at h
    · rename_i ti hti
      have hf := hT.fits t ti hti
      split at h
      · rename_i e i o n c hd
        rw [hd] at hf
        split at h
        · rename_i ei hei
          split at h
          · rename_i hj
            obtain rfl := Option.some.inj h
            cases hx with
            | @slice _ _ _ c b d r hβ hc ho =>
              refine ⟨.pointer (some ⟨b, d + (o + j.toNat * ei.size), none⟩), .ptr hβ, fun w => ?_⟩
              simp [Instr.indexAt, run_underlying hf, asIntOf, hj.1, hj.2, run_size w hT hei, add_loc, Nat.add_assoc]
            | empty => exfalso; omega
          · cases h
        · cases h
      · rename_i n e i o hd
        rw [hd] at hf
        split at h
        · rename_i ei hei
          split at h
          · rename_i hj
            obtain rfl := Option.some.inj h
            cases hx with
            | @ptr _ _ b d r hβ =>
              refine ⟨.pointer (some ⟨b, d + (o + j.toNat * ei.size), none⟩), .ptr hβ, fun w => ?_⟩
              simp [Instr.indexAt, run_underlying hf.2, Instr.sureAddr, asIntOf, hj.1, hj.2, run_size w hT hei, add_loc, Nat.add_assoc]
          · cases h
        · cases h
      · cases h
    · cases h
  · cases h

/-! ### Values out of values -/
def aget (T : Tab) (t : Nat) (x ix : Value) : Option Value :=
  match ix with
  | .int _ j =>
    match T t with
    | some ti =>
      match ti.d, x with
      | .str, .string s => if h : 0 ≤ j ∧ j.toNat < s.size then some (.int .u8 ((s[j.toNat]'h.2).toNat : Int)) else none
      | .arr n e, .agg cs => match T e with
        | some ei => if 0 ≤ j ∧ j < n then apart T e cs.toList (j.toNat * ei.size) else none
        | none => none
      | _, _ => none
    | none => none
  | _ => none

theorem aget_sound {P : Program} {T : Tab} (hT : TOK P T) {β : List Loc} {t : Nat} {x x' ix ix' v : Value} (hx : R β x x') (hi : R β ix ix') (h : aget T t x ix = some v) :
    ∃ v', R β v v' ∧ ∀ w, (Instr.index t x' ix').run P w = .ok v' w := by
  unfold aget at h
  split at h
  · rename_i k j
    cases hi
    split at h
    · rename_i ti hti
      have hf := hT.fits t ti hti
      split at h
      · rename_i s hd
        rw [hd] at hf
        split at h
        · rename_i hj
          obtain rfl := Option.some.inj h
          cases hx
          refine ⟨_, .int _ _, fun w => ?_⟩
          have hg : s[j.toNat]? = some s[j.toNat] := by simp [hj.2]
          simp [Instr.index, asIntOf, run_underlying hf, hj.1, hj.2]
        · cases h
      · rename_i n e cs hd
        rw [hd] at hf
        split at h
        · rename_i ei hei
          split at h
          · rename_i hj
            cases hx with
            | @agg _ cs' hs hR =>
              obtain ⟨v', h1, h2⟩ := apart_sound hT (RL.of_agg hs hR) h
              refine ⟨v', h1, fun w => ?_⟩
              have h2' := h2 w
              simp at h2'
              simp [Instr.index, asIntOf, run_underlying hf.2, hj.1, hj.2, run_size w hT hei, h2']
          · cases h
        · cases h
      · cases h
    · cases h
  · cases h

def apick (T : Tab) (t : Nat) (x : Value) (f : Nat) : Option Value :=
  match x, T t with
  | .agg cs, some ti =>
    match ti.d with
    | .struct fs => match fs[f]? with
      | some (off, ft) => apart T ft cs.toList off
      | none => none
    | _ => none
  | _, _ => none

theorem apick_sound {P : Program} {T : Tab} (hT : TOK P T) {β : List Loc} {t f : Nat} {x x' v : Value} (hx : R β x x') (h : apick T t x f = some v) :
    ∃ v', R β v v' ∧ ∀ w, (Instr.field t x' f).run P w = .ok v' w := by
  unfold apick at h
  split at h
  · rename_i cs ti hti
    have hf := hT.fits t ti hti
    split at h
    · rename_i fs hd
      rw [hd] at hf
      obtain ⟨_, _, fields, hu, _, hfs⟩ := hf
      split at h
      · rename_i off ft hft
        obtain ⟨fl, hfl, rfl, rfl⟩ := struct_get hfs hft
        cases hx with
        | @agg _ cs' hs hR =>
          obtain ⟨v', h1, h2⟩ := apart_sound hT (RL.of_agg hs hR) h
          refine ⟨v', h1, fun w => ?_⟩
          have h2' := h2 w
          simp at h2'
          simp [Instr.field, run_underlying hu, hfl, asAgg, h2']
      · cases h
    · cases h
  · cases h

/-- s[lo:hi]. -/
def abound (x : Option Value) (dflt most : Nat) : Option Nat :=
  match x with
  | none => some dflt
  | some (.int _ i) => if 0 ≤ i ∧ i ≤ most then some i.toNat else none
  | _ => none

def aslice (T : Tab) (t : Nat) (x : Value) (lo hi : Option Value) : Option Value :=
  match T t with
  | some ti =>
    match ti.d, x with
    | .str, .string s => match abound hi s.size s.size with
      | some h => match abound lo 0 h with
        | some l => some (.string (s.extract l h))
        | none => none
      | none => none
    | .slice e, .slice a n _ => match T e with
      | some ei => if ei.size = 0 then none else
        match abound hi n n with
        | some h => match abound lo 0 h with
          | some l =>
            match a with
            | none => if n = 0 then some (.slice none 0 0) else none
            | some ⟨i, o, none⟩ => some (.slice (some ⟨i, o + l * ei.size, none⟩) (h - l) (h - l))
            | _ => none
          | none => none
        | none => none
      | none => none
    | _, _ => none
  | none => none

def RO (β : List Loc) : Option Value → Option Value → Prop
  | none, none => True
  | some v, some v' => R β v v'
  | _, _ => False

theorem abound_sound {P : Program} {β : List Loc} {x x' : Option Value} {dflt most most' n : Nat} (hx : RO β x x') (h : abound x dflt most = some n) (hm : most ≤ most') (code : BoundsCode) (w : World) :
    (match x' with | some v => Instr.sliceBound v most' code | none => pure dflt : Sem Nat).run P w = .ok n w ∧ (x = none → n = dflt) ∧ (x ≠ none → n ≤ most) := by
  unfold abound at h
  split at h
  · obtain rfl := Option.some.inj h
    cases x' with
    | none => simp
    | some v => exact hx.elim
  · rename_i k i
    split at h
    · rename_i hi
      obtain rfl := Option.some.inj h
      cases x' with
      | none => exact hx.elim
      | some v =>
        have hx' : R β (.int k i) v := hx
        cases hx'
        refine ⟨?_, by simp, fun _ => by omega⟩
        have : 0 ≤ i ∧ i ≤ (most' : Int) := ⟨hi.1, by omega⟩
        simp [Instr.sliceBound, asIntOf, this.1, this.2]
    · cases h
  · cases h

theorem aslice_sound {P : Program} {T : Tab} (hT : TOK P T) {β : List Loc} {t : Nat} {x x' v : Value} {lo lo' hi hi' : Option Value} (hx : R β x x') (hlo : RO β lo lo') (hhi : RO β hi hi') (h : aslice T t x lo hi = some v) :
    ∃ v', R β v v' ∧ ∀ w, (Instr.sliceAt t x' lo' hi' none).run P w = .ok v' w := by
  unfold aslice at h
  split at h
  · rename_i ti hti
    have hf := hT.fits t ti hti
    split at h
    · rename_i s hd
      rw [hd] at hf
      split at h
      · rename_i hh hhb
        split at h
        · rename_i l hlb
          obtain rfl := Option.some.inj h
          cases hx
          refine ⟨_, .string _, fun w => ?_⟩
          obtain ⟨h1, h1n, h1s⟩ := abound_sound (P := P) hhi hhb (Nat.le_refl _) (.sliceAlen) w
          obtain ⟨h2, _, _⟩ := abound_sound (P := P) hlo hlb (Nat.le_refl _) (.sliceB) w
          have hu : (underlying t).run P w = .ok .string w := run_underlying hf w
          simp only [Instr.sliceAt, Instr.slice, Sem.run_bind, hu, Result.andThen_ok]
          cases hi' with
          | none =>
            cases hi with
            | some _ => exact hhi.elim
            | none =>
              have hhe := h1n rfl
              subst hhe
              cases lo' with
              | none =>
                simp at h2
                simp [Instr.sliceBounds, h2]
              | some lv =>
                simp only at h2
                simp [Instr.sliceBounds, h2]
          | some hv =>
            simp only at h1
            cases lo' with
            | none =>
              simp at h2
              simp [Instr.sliceBounds, h1, h2]
            | some lv =>
              simp only at h2
              simp [Instr.sliceBounds, h1, h2]
        · cases h
      · cases h
    · rename_i e a n c0 hd
      rw [hd] at hf
      split at h
      · rename_i ei hei
        split at h
        · cases h
        · rename_i hsz
          split at h
          · rename_i hh hhb
            split at h
            · rename_i l hlb
              have hlh : l ≤ hh := by
                have := (abound_sound (P := P) hlo hlb (Nat.le_refl _) (.sliceB) default).2
                cases lo with
                | none => have := this.1 rfl; omega
                | some _ => exact this.2 (by simp)
              have hhn : hh ≤ n := by
                have := (abound_sound (P := P) hhi hhb (Nat.le_refl _) (.sliceB) default).2
                cases hi with
                | none => have := this.1 rfl; omega
                | some _ => exact this.2 (by simp)
              have run : ∀ (a' : Option Addr) (c : Nat) (w : World), n ≤ c → (Instr.sliceAt t (.slice a' n c) lo' hi' none).run P w = .ok (.slice (if c = l then a' else a'.map (·.add (l * ei.size))) (hh - l) (c - l)) w := fun a' c w hc => by
                obtain ⟨h1, h1n, h1s⟩ := abound_sound (P := P) hhi hhb hc (.sliceAcap) w
                obtain ⟨h2, _, _⟩ := abound_sound (P := P) hlo hlb (Nat.le_refl _) (.sliceB) w
                have hu : (underlying t).run P w = .ok (.slice e) w := run_underlying hf w
                have hs := run_size w hT hei
                simp only [Instr.sliceAt, Instr.slice, Sem.run_bind, hu, Result.andThen_ok]
                cases hi' with
                | none =>
                  cases hi with
                  | some _ => exact hhi.elim
                  | none =>
                    have hhe := h1n rfl
                    subst hhe
                    cases lo' with
                    | none =>
                      simp at h2
                      simp [Instr.sliceBounds, h2, hs]
                    | some lv =>
                      simp only at h2
                      simp [Instr.sliceBounds, h2, hs]
                | some hv =>
                  simp only at h1
                  cases lo' with
                  | none =>
                    simp at h2
                    simp [Instr.sliceBounds, h1, h2, hs]
                  | some lv =>
                    simp only at h2
                    simp [Instr.sliceBounds, h1, h2, hs]
              split at h
              · split at h
                · rename_i hn
                  obtain rfl := Option.some.inj h
                  cases hx
                  refine ⟨_, .nils, fun w => ?_⟩
                  rw [run none 0 w (Nat.le_refl _)]
                  obtain rfl : l = 0 := by omega
                  obtain rfl : hh = 0 := by omega
                  simp
                · cases h
              · rename_i i o
                obtain rfl := Option.some.inj h
                cases hx with
                | @slice _ _ _ c b d r hβ hc ho =>
                  by_cases hcl : c = l
                  · have e1 : hh - l = 0 := by omega
                    rw [e1]
                    refine ⟨.slice (some ⟨b, d + o, none⟩) 0 0, .empty _ _, fun w => ?_⟩
                    rw [run _ c w hc, if_pos hcl, e1, hcl]
                    simp
                  · refine ⟨.slice (some ⟨b, d + (o + l * ei.size), none⟩) (hh - l) (c - l), .slice hβ (by omega) (fun h0 => ?_), fun w => ?_⟩
                    · have : o = 0 := by omega
                      have hl0 : l * ei.size = 0 := by omega
                      have : l = 0 := by
                        rcases Nat.mul_eq_zero.1 hl0 with h | h
                        · exact h
                        · exact absurd h hsz
                      have := ho (by omega)
                      omega
                    · rw [run _ c w hc, if_neg hcl]
                      simp [add_loc, Nat.add_assoc]
                | empty a a' =>
                  obtain rfl : hh = 0 := by omega
                  obtain rfl : l = 0 := by omega
                  refine ⟨.slice (some a') 0 0, .empty _ _, fun w => ?_⟩
                  rw [run _ 0 w (Nat.le_refl _)]
                  simp
              · cases h
            · cases h
          · cases h
      · cases h
    · cases h
  · cases h
end Go.Proofs.Ythalogdopkoidaa.Ab
