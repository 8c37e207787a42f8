/- The operations that make memory or write it: that the machine does what 'eop' says. No statement of the seat's in it. -/
import Derived.Test.YthalogdopkoidaaA7
set_option linter.unusedVariables false
namespace Go.Proofs.Ythalogdopkoidaa.Ab
open Go Go.RowKit

section
variable {P : Program} {T : Tab} {ok perm : Nat → Prop} {H : AHeap} {β : List Loc} {w : World}

theorem new_ptr {β' : List Loc} {i b r : Nat} (h : β'[i]? = some (b, 0, r)) : R β' (.pointer (some ⟨i, 0, none⟩)) (.pointer (some ⟨b, 0, none⟩)) := by
  have := R.ptr (β := β') (o := 0) h
  simpa using this
theorem new_slice {β' : List Loc} {i b r n : Nat} (h : β'[i]? = some (b, 0, r)) (hn : n ≤ r) : R β' (.slice (some ⟨i, 0, none⟩) n n) (.slice (some ⟨b, 0, none⟩) n r) := by
  have := R.slice (β := β') (o := 0) (n := n) (c := r) h hn (fun _ => rfl)
  simpa using this

theorem ealloc_sound (hT : TOK P T) (hI : Inv P ok perm H β w) (hperm : perm w.heap.size) {t : Nat} {r : Eff} (h : ealloc T H t = some r) :
    Does P ok perm H β w ((do pure (Next.value (← Instr.alloc t true (.tuple #[]))) : Sem Next).run P w) r := by
  unfold ealloc at h
  split at h
  · rename_i ti hti
    obtain rfl := Option.some.inj h
    obtain ⟨z, hz, hzc⟩ := run_zero w hT hti
    have hc := hT.zflat t ti hti
    refine does_new hT hI hperm hti (cur := ti.zero) (r := 1) (RL.const β hc) (by simp [maxLen]) (by rw [hT.zlen t ti hti]; omega) (List.all_eq_true.2 fun v hv => flatConst_flat (hc v hv))
      (v' := .pointer (some ⟨w.heap.size, 0, none⟩)) (fun β' hβ => new_ptr hβ) ?_
    have hzc' : z.cells = ti.zero.toArray := by apply Array.ext'; simp [hzc]
    simp [Instr.alloc, hz, newVar, newRow, newObj, hzc', Sem.run]
  · cases h

theorem ebox_sound (hT : TOK P T) (hI : Inv P ok perm H β w) (hperm : perm w.heap.size) {t : Nat} {x x' : Value} (hx : R β x x') {r : Eff} (h : ebox T H t x = some r) :
    Does P ok perm H β w ((do pure (Next.value (← Instr.box t x')) : Sem Next).run P w) r := by
  unfold ebox at h
  split at h
  · rename_i ti hti
    split at h
    · rename_i hc
      obtain ⟨hk, hs, hf⟩ := hc
      obtain rfl := Option.some.inj h
      refine does_new hT hI hperm hti (cur := x'.cells.toList) (r := 1) (hx.cellsL hk) (by simp [maxLen]) (by simp [hs]) hf
        (v' := .pointer (some ⟨w.heap.size, 0, none⟩)) (fun β' hβ => new_ptr hβ) ?_
      simp [Instr.box, newVar, newRow, newObj, Sem.run]
    · cases h
  · cases h

theorem elit_sound (hT : TOK P T) (hI : Inv P ok perm H β w) (hperm : perm w.heap.size) {t len : Nat} {parts parts' : List (Nat × Value)}
    (hp : parts.length = parts'.length ∧ ∀ (j : Nat) (p p' : Nat × Value), parts[j]? = some p → parts'[j]? = some p' → p.1 = p'.1 ∧ R β p.2 p'.2) {r : Eff} (h : elit T H t len parts = some r) :
    Does P ok perm H β w ((do pure (Next.value (← Instr.buildSlice t len parts'.toArray)) : Sem Next).run P w) r := by
  unfold elit at h
  split at h
  · rename_i ti hti
    have hft := hT.fits t ti hti
    split at h
    · rename_i e hd
      rw [hd] at hft
      split at h
      · rename_i ei hei
        split at h
        · cases h
        · rename_i hsz
          split at h
          · rename_i out hfill
            split at h
            · rename_i hf
              obtain rfl := Option.some.inj h
              have hz := hT.zflat e ei hei
              have hzl := hT.zlen e ei hei
              obtain ⟨out', h1, h2⟩ := afill_sound (RL.const β (zeros_const (n := len) hz)) hp hfill
              have hol : out.length = len * ei.size := by
                have key : ∀ (ps : List (Nat × Value)) (cs out : List Value), afill (fun i => some (i * ei.size, ei.size)) cs ps = some out → out.length = cs.length := by
                  intro ps
                  induction ps with
                  | nil => intro cs out h; simp [afill] at h; rw [h]
                  | cons p ps ih =>
                    intro cs out h
                    obtain ⟨i, v⟩ := p
                    simp only [afill] at h
                    split at h
                    · rw [ih _ _ h, over_length]
                    · cases h
                rw [key _ _ _ hfill, zeros_length, hzl]
              refine does_new hT hI hperm hei (cur := out') (r := len) h2 (by simp [maxLen]; have : 0 < ei.size := by omega
                                                                              have := Nat.le_mul_of_pos_right len this; omega) hol hf
                (v' := .slice (some ⟨w.heap.size, 0, none⟩) len len) (fun β' hβ => new_slice hβ (Nat.le_refl _)) ?_
              obtain ⟨z, hzr, hzc⟩ := run_zero w hT hei
              have hb : ¬ (len * ei.size > 2 ^ 24) := by omega
              have hzs : z.cells.size = ei.size := by rw [← hzl, ← hzc]; simp
              have hmade := zeros_made (n := len) (z := z.cells) ei.zero hzc
              rw [hzs] at hmade
              have hmade' : (Array.range (len * ei.size)).map (fun j => z.cells[j % z.cells.size]!) = (zeros len ei.zero).toArray := by
                apply Array.ext'
                rw [hzs]
                simpa using hmade
              simp only [Instr.buildSlice, Sem.run_bind, run_underlying hft, Result.andThen_ok, run_size w hT hei]
              rw [if_neg hb]
              by_cases h0 : len * ei.size = 0
              · have hl0 : len = 0 := by
                  rcases Nat.mul_eq_zero.1 h0 with h | h
                  · exact h
                  · omega
                subst hl0
                have he : zeros 0 ei.zero = [] := by simp [zeros]
                rw [he] at h1
                have h1' : Instr.fill (fun i => some (i * ei.size, ei.size)) #[] parts' = some out'.toArray := h1
                have hr : Array.range 0 = #[] := rfl
                simp [hr, h1', newRow, newObj, Sem.run]
              · rw [if_neg h0]
                simp only [Sem.run_bind, hzr, Result.andThen_ok, Sem.run_pure, hmade', h1]
                simp [newRow, newObj, Sem.run]
            · cases h
          · cases h
      · cases h
    · cases h
  · cases h

theorem wrap_in {n : Int} (h0 : 0 ≤ n) (h1 : n ≤ 9223372036854775807) : IntKind.i64.wrap n = n := by
  unfold IntKind.wrap
  simp [IntKind.bits, IntKind.signed]
  omega

theorem emake_sound (hT : TOK P T) (hI : Inv P ok perm H β w) (hperm : perm w.heap.size) {t : Nat} {l l' c c' : Value} (hl : R β l l') (hc : R β c c') {r : Eff} (h : emake T H t l c = some r) :
    Does P ok perm H β w ((do pure (Next.value (← Instr.makeSlice t l' c')) : Sem Next).run P w) r := by
  unfold emake at h
  split at h
  · rename_i ti kl ln kc cn hti
    cases hl; cases hc
    have hft := hT.fits t ti hti
    split at h
    · rename_i e hd
      rw [hd] at hft
      split at h
      · rename_i ei hei
        split at h
        · rename_i hcond
          obtain ⟨hs0, hb0, hl0, hlc, hbytes⟩ := hcond
          obtain rfl := Option.some.inj h
          have hz := hT.zflat e ei hei
          have hzl := hT.zlen e ei hei
          have hzz := zeros_const (n := cn.toNat) hz
          have hcs : cn.toNat ≤ 140737488355328 := Nat.le_trans (Nat.le_mul_of_pos_right _ (by omega)) hbytes
          refine does_new hT hI hperm hei (cur := zeros cn.toNat ei.zero) (r := cn.toNat) (RL.const β hzz) (by simp [maxLen]; omega) (by rw [zeros_length, hzl]) (List.all_eq_true.2 fun v hv => flatConst_flat (hzz v hv))
            (v' := .slice (some ⟨w.heap.size, 0, none⟩) ln.toNat cn.toNat) (fun β' hβ => new_slice hβ (by omega)) ?_
          obtain ⟨q, z, hq, hq1, hq2, hq3, hq4⟩ := hT.info e ei hei
          have hzs : z.cells.size = ei.size := by rw [← hzl, ← hq4]; simp
          have hmade := zeros_made (n := cn.toNat) (z := z.cells) ei.zero hq4
          have hwl : IntKind.i64.wrap ln = ln := wrap_in hl0 (by omega)
          have hwc : IntKind.i64.wrap cn = cn := wrap_in (by omega) (by omega)
          have hbi : ((q.bytes : Int) * cn) = ((cn.toNat * ei.bytes : Nat) : Int) := by
            rw [hq2, Int.natCast_mul, Int.toNat_of_nonneg (by omega), Int.mul_comm]
          have hbl : (ei.bytes : Int) * cn ≤ 281474976710656 := by rw [← hq2, hbi]; omega
          have hguard : (decide (cn < 0) || decide ((ei.bytes : Int) * cn > 2 ^ 48) || decide (ln < 0) || decide (ln > cn)) = false := by
            have h1 : ¬ cn < 0 := by omega
            have h2 : ¬ ((ei.bytes : Int) * cn > 2 ^ 48) := by omega
            have h3 : ¬ ln < 0 := by omega
            have h4 : ¬ ln > cn := by omega
            simp [h1, h3, h4, hbl]
          simp only [Instr.makeSlice, Sem.run_bind, run_underlying hft, Result.andThen_ok, asInt, asIntOf, Sem.run_pure, typeInfo, run_program, hq, hq2, hwl, hwc]
          rw [if_neg (by rw [hguard]; simp)]
          simp only [Sem.run_bind, run_askRoom, run_size w hT hei, Result.andThen_ok]
          by_cases h0 : cn.toNat * ei.size = 0
          · have hc0 : cn.toNat = 0 := by
              rcases Nat.mul_eq_zero.1 h0 with h | h
              · exact h
              · omega
            rw [hc0]
            have he : zeros 0 ei.zero = [] := by simp [zeros]
            rw [he]
            have hr : Array.range 0 = #[] := rfl
            simp [hr, newRow, newObj, Sem.run]
          · rw [if_neg h0]
            have hzr : (zeroValue e).run P w = .ok z w := by simp [zeroValue, typeInfo, hq, hq3]
            have hmade' : (Array.range (cn.toNat * ei.size)).map (fun j => z.cells[j % z.cells.size]!) = (zeros cn.toNat ei.zero).toArray := by
              apply Array.ext'
              rw [hzs] at hmade ⊢
              simpa using hmade
            simp only [Sem.run_bind, hzr, Result.andThen_ok, Sem.run_pure, hmade']
            simp [newRow, newObj, Sem.run]
        · cases h
      · cases h
    · cases h
  · cases h

theorem over_eq : ∀ (l cells : List Value) (off : Nat), off + l.length ≤ cells.length → over cells off l = cells.take off ++ l ++ cells.drop (off + l.length)
  | [], cells, off, _ => by simp [over]
  | v :: l, cells, off, h => by
    have hl : off < cells.length := by simp at h; omega
    rw [over, over_eq l (cells.set off v) (off + 1) (by simp at h ⊢; omega)]
    rw [List.take_set, List.drop_set]
    have h1 : ¬ (off < off + 1 + l.length) = False := by simp; omega
    rw [if_pos (by omega)]
    have h2 : (cells.take (off + 1)).set off v = cells.take off ++ [v] := by
      rw [List.take_succ_eq_append_getElem hl, List.set_append_right _ _ (by simp; omega)]
      simp [Nat.min_eq_left (Nat.le_of_lt hl)]
    rw [h2]
    simp [Nat.add_assoc, Nat.add_comm 1]

theorem over_get {cells l : List Value} {off : Nat} (h : off + l.length ≤ cells.length) (k : Nat) :
    (over cells off l)[k]? = if off ≤ k ∧ k < off + l.length then l[k - off]? else cells[k]? := by
  rw [over_eq l cells off h, List.append_assoc]
  by_cases h1 : k < off
  · rw [List.getElem?_append_left (by simp; omega), List.getElem?_take, if_pos h1, if_neg (by omega)]
  · rw [List.getElem?_append_right (by simp; omega)]
    have hm : (cells.take off).length = off := by simp; omega
    rw [hm]
    by_cases h2 : k - off < l.length
    · rw [List.getElem?_append_left h2, if_pos (by omega)]
    · rw [List.getElem?_append_right (by omega), List.getElem?_drop, if_neg (by omega)]
      congr 1
      omega

theorem estore_sound (hT : TOK P T) (hI : Inv P ok perm H β w) {t : Nat} {p p' x x' : Value} (hp : R β p p') (hx : R β x x') {r : Eff} (h : estore T H t p x = some r) :
    Does P ok perm H β w ((do Instr.storeAt t p' x'; pure Next.skip : Sem Next).run P w) r := by
  unfold estore at h
  split at h
  · rename_i i off
    split at h
    · rename_i ti o hti ho
      split at h
      · rename_i hc
        obtain ⟨hrw, hk, hs, hl, hf⟩ := hc
        obtain rfl := Option.some.inj h
        cases hp with
        | @ptr _ _ b d q hβ =>
          have hB := hI.obj i o b d q ho hβ
          obtain ⟨rfl, hq, cur, inf, hcur, hinf, hsz⟩ := hB.own hrw
          have hcl := hx.cellsL hk
          have hxl : x'.cells.toList.length = ti.size := by rw [← hcl.1]; simpa using hs
          have hone : ∀ v ∈ x'.cells.toList, v.oneCell' = true := by
            intro v hv
            obtain ⟨j, hj, rfl⟩ := List.mem_iff_getElem.1 hv
            have hj' : j < x.cells.toList.length := by rw [hcl.1]; exact hj
            exact (hcl.2 j _ _ (List.getElem?_eq_getElem hj') (List.getElem?_eq_getElem hj)).one (List.all_eq_true.1 hf _ (List.getElem_mem hj'))
          -- the cells are there
          have hcs : ∀ k, k < o.cells.length → k < cur.size := fun k hk => by
            obtain ⟨v', hv', _⟩ := hB.at_ k _ (List.getElem?_eq_getElem hk)
            rw [Nat.zero_add, cell_of_row w b k cur o.ty (0, 0) hcur] at hv'
            exact (Array.getElem?_eq_some_iff.1 hv').1
          have hfit : off + x'.cells.toList.length ≤ cur.size := by
            rw [hxl]
            rcases Nat.eq_zero_or_pos (off + ti.size) with h0 | h0
            · omega
            · have := hcs (off + ti.size - 1) (by omega); omega
          have hst := run_storeCells_at P b off o.ty x'.cells.toList 0 cur w hcur (by simpa using hfit) hone
          simp only [Nat.add_zero] at hst
          have hne : ¬ (x'.cells.size ≠ ti.size) := by simpa using hxl
          refine ⟨.skip, w.setRow b (cur.toList.take off ++ x'.cells.toList ++ cur.toList.drop (off + x'.cells.toList.length)).toArray, β, undef, ?_, .inr ⟨rfl, rfl⟩, .junk _, List.prefix_rfl, ?_, ?_, ?_⟩
          · simp only [Instr.storeAt, Instr.sureAddr, storeVar, Sem.run_bind, Sem.run_pure, Result.andThen_ok, run_size w hT hti, Nat.zero_add]
            rw [if_neg hne]
            simp only [hst, Result.andThen_ok]
          · have hrow := setRow_heap w b cur (cur.toList.take off ++ x'.cells.toList ++ cur.toList.drop (off + x'.cells.toList.length)).toArray o.ty (0, 0) hcur
            refine hI.turn ho hrw hβ (by simp) (fun k _ hk => setRow_other w b k _ hk) hrw ⟨by simpa using hB.lt, fun v hv => ?_, fun k v hk' => ?_, fun _ => ⟨rfl, hq, _, inf, hrow, hinf, ?_⟩⟩
            · obtain ⟨j, hj, rfl⟩ := List.mem_iff_getElem.1 hv
              have hg := over_get (cells := o.cells) (l := x.cells.toList) (off := off) (by rw [hcl.1, hxl]; exact hl) j
              rw [List.getElem?_eq_getElem hj] at hg
              split at hg
              · exact List.all_eq_true.1 hf _ (List.mem_of_getElem? hg.symm)
              · exact hB.flat _ (List.mem_of_getElem? hg.symm)
            · dsimp only at hk'
              rw [over_get (by rw [hcl.1, hxl]; exact hl)] at hk'
              rw [Nat.zero_add, cell_of_row _ b k _ o.ty (0, 0) hrow]
              have hg := over_get (cells := cur.toList) (l := x'.cells.toList) (off := off) (by simpa using hfit) k
              rw [over_eq _ _ _ (by simpa using hfit)] at hg
              rw [List.getElem?_toArray, hg]
              split at hk'
              · rename_i hin
                have hin' : off ≤ k ∧ k < off + x'.cells.toList.length := by rw [← hcl.1]; exact hin
                rw [if_pos hin']
                have hlt : k - off < x'.cells.toList.length := by omega
                exact ⟨_, List.getElem?_eq_getElem hlt, hcl.2 (k - off) _ _ hk' (List.getElem?_eq_getElem hlt)⟩
              · rename_i hin
                have hin' : ¬ (off ≤ k ∧ k < off + x'.cells.toList.length) := by rw [← hcl.1]; exact hin
                rw [if_neg hin']
                obtain ⟨v', hv', hRv⟩ := hB.at_ k v hk'
                rw [Nat.zero_add, cell_of_row w b k cur o.ty (0, 0) hcur] at hv'
                exact ⟨v', by simpa using hv', hRv⟩
            · rw [← hsz]
              simp only [List.size_toArray, List.length_append, List.length_take, List.length_drop, Array.length_toList] at hfit ⊢
              omega
          · exact ⟨rfl, rfl, rfl, by simp, fun k _ hk => setRow_other w b k _ fun e => hk ⟨i, 0, q, rfl, by rw [e]; exact hβ⟩⟩
          · exact ⟨by simp, fun j hj hne => by rw [List.getElem?_set_ne (fun e => hne (by rw [e]))]⟩
      · cases h
    · cases h
  · cases h
end
end Go.Proofs.Ythalogdopkoidaa.Ab
