/- 'append', and all effects gathered. No statement of the seat's in it. -/
import Derived.Test.YthalogdopkoidaaA8
set_option linter.unusedVariables false
namespace Go.Proofs.Ythalogdopkoidaa.Ab
open Go Go.RowKit

section
variable {P : Program} {T : Tab} {ok perm : Nat → Prop} {H : AHeap} {β : List Loc} {w : World}

theorem run_append_zero {t e ty : Nat} {i : TypeInfo} (ht : P.underlying t = some (.slice e)) (hi : P.info? e = some i) (sa xa : Option Addr) (n c xc : Nat) (hn : n ≤ c) :
    (Builtin.append_ #[t, t] ty #[.slice sa n c, .slice xa 0 xc]).run P w = .ok (.slice sa n c) w := by
  cases xa <;> cases sa <;> simp [Builtin.append_, run_underlying ht, sizeOf, typeInfo, hi, Builtin.lenOf, hn, Builtin.firstCells, loadCells, loadCellsFrom, storeCells]

theorem Fr.of_drew {perm : Nat → Prop} {w w' : World} (h : Fr perm w.drew w') : Fr perm w w' := ⟨h.os, h.tape, h.output, h.size, h.block⟩

/-- An object that grew out of its block. -/
theorem grown_obj (hT : TOK P T) (hI : Inv P ok perm H β w) (hperm : perm w.heap.size) {e : Nat} {ei : TI} (hei : T e = some ei)
    {cells cur : List Value} (hR : RL β cells cur) {N cap : Nat} (hlen : cells.length = N * ei.size) (hcap : N ≤ cap) (hm : cap ≤ maxLen) (hf : ∀ v ∈ cells, flat v = true) (z : Array Value) (hz : z.size = ei.size) :
    Inv P ok perm (H ++ [some ⟨e, cells, true⟩]) (β ++ [(w.heap.size, 0, cap)]) (w.drew.alloc (.cells (cur.toArray ++ Builtin.zeroCells z (cap - N)) e)) := by
  obtain ⟨q, _, hq, hs, _⟩ := hT.info e ei hei
  have hd : Below w.heap.size w w.drew := (Below.refl _ _).drew
  refine (hI.below hd).new hperm ⟨e, cells, true⟩ _ cap q hm hq ?_ hf (fun k v hk => ?_)
  · simp only [Array.size_append, List.size_toArray, size_zeroCells, hz, hs, ← hR.1, hlen, ← Nat.add_mul]
    congr 1
    omega
  · have hlt : k < cells.length := (List.getElem?_eq_some_iff.1 hk).1
    have hlt' : k < cur.length := by rw [← hR.1]; exact hlt
    exact ⟨cur[k], by rw [Array.getElem?_append_left (by simpa using hlt')]; simp [hlt'], hR.2 k _ _ hk (List.getElem?_eq_getElem hlt')⟩

theorem eappend_sound (hT : TOK P T) (hI : Inv P ok perm H β w) (hperm : perm w.heap.size) {t e ty : Nat} {ti : TI} (hti : T t = some ti) (htd : ti.d = .slice e) {s s' x x' : Value} (hs : R β s s') (hx : R β x x')
    {r : Eff} (h : eappend T H e s x = some r) (hok : ∀ i, r.2.2 = some i → ok i) :
    Does P ok perm H β w ((do pure (Next.value (← Builtin.append_ #[t, t] ty #[s', x'])) : Sem Next).run P w) r := by
  have ht : P.underlying t = some (.slice e) := by have := hT.fits t ti hti; rw [htd] at this; exact this
  unfold eappend at h
  split at h
  · cases h
  · rename_i ei hei
    obtain ⟨q, z, hq, hq1, hq2, hq3, hq4⟩ := hT.info e ei hei
    have hzl := hT.zlen e ei hei
    have hzs : z.cells.size = ei.size := by rw [← hzl, ← hq4]; simp
    split at h
    · cases h
    · rename_i hsz
      have hsz1 : 0 < ei.size := by omega
      have hby1 : 0 < ei.bytes := by omega
      split at h
      · rename_i xa m xc
        split at h
        · cases h
        · rename_i news hnews
          -- nothing to append
          by_cases hm0 : m = 0
          · subst hm0
            obtain ⟨xa', xc', hxe⟩ : ∃ xa' xc', x' = .slice xa' 0 xc' := by cases hx <;> exact ⟨_, _, rfl⟩
            subst hxe
            have fin : ∀ v v' : Value, R β v v' → (Builtin.append_ #[t, t] ty #[s', .slice xa' 0 xc']).run P w = .ok v' w → r = (v, H, none) →
                Does P ok perm H β w ((do pure (Next.value (← Builtin.append_ #[t, t] ty #[s', .slice xa' 0 xc'])) : Sem Next).run P w) r := by
              rintro v v' hv hrun rfl
              exact ⟨.value v', w, β, v', by simp [hrun], .inl rfl, hv, List.prefix_rfl, hI, Fr.refl _ _, AExt.refl _ _⟩
            split at h
            · simp at h
              subst h
              cases hs
              exact fin _ _ .nils (run_append_zero ht hq none xa' 0 0 xc' (Nat.le_refl _)) rfl
            · rename_i i n sc
              simp at h
              subst h
              cases hs with
              | @slice _ _ _ c b d rr hβ hc ho => exact fin _ _ (.slice hβ hc ho) (run_append_zero ht hq _ xa' n c xc' hc) rfl
              | empty a a' => exact fin _ _ (.empty _ _) (run_append_zero ht hq _ xa' 0 0 xc' (Nat.le_refl _)) rfl
            · cases h
          · -- the source
            obtain ⟨ax, cx, news', hxe, hnl, hnr, hRn, hfn⟩ : ∃ (ax : Addr) (cx : Nat) (news' : List Value), x' = .slice (some ax) m cx ∧ news'.length = m * ei.size ∧
                (∀ (j : Nat) (v : Value), news'[j]? = some v → w.cell? (ax.add j) = some v) ∧ RL β news news' ∧ (∀ v ∈ news, flat v = true) := by
              split at hnews
              · first | (cases hnews; done) | (rename_i h0; simp [hm0] at hnews)
              · rename_i j off
                rw [if_neg hm0] at hnews
                split at hnews
                · rename_i o ho
                  split at hnews
                  · rename_i hl
                    obtain rfl := Option.some.inj hnews
                    cases hx with
                    | @slice _ _ _ c b d rr hβ hc hoo =>
                      have hB := hI.obj j o b d rr ho hβ
                      obtain ⟨cs', h1, h2, h3⟩ := hB.range off (m * ei.size) hl
                      refine ⟨_, _, cs', rfl, h2, fun k v hk => ?_, h1, fun v hv => hB.flat v (List.mem_of_mem_drop (List.mem_of_mem_take hv))⟩
                      rw [add_loc]
                      exact h3 w rfl k v hk
                    | empty => exact absurd rfl hm0
                  · cases hnews
                · cases hnews
              · cases hnews
            subst hxe
            have hnl' : news'.length = m * q.size := by rw [hq1]; exact hnl
            have hnr0 := hnr
            have hone : ∀ u ∈ news', u.oneCell' = true := by
              intro u hu
              obtain ⟨j, hj, rfl⟩ := List.mem_iff_getElem.1 hu
              have hj' : j < news.length := by rw [hRn.1]; exact hj
              exact (hRn.2 j _ _ (List.getElem?_eq_getElem hj') (List.getElem?_eq_getElem hj)).one (hfn _ (List.getElem_mem hj'))
            split at h
            · -- nil
              rw [if_neg hm0] at h
              split at h
              · rename_i hbytes
                obtain rfl := Option.some.inj h
                cases hs
                have hml : m ≤ 140737488355328 := Nat.le_trans (Nat.le_mul_of_pos_right _ hby1) hbytes
                have hrun := run_append_nil (P := P) w t ty e q z ht hq hq3 ax m cx news' hnl' hnr0 (by omega) (by omega) (by rw [hq2]; omega)
                have hge := grownCap_ge w m 0 e
                have hcm := grownCap_le_maxLen w m 0 e (by simp only [maxLen]; omega)
                have hnew := grown_obj hT hI hperm hei hRn (N := m) (by rw [hRn.1]; exact hnl) hge hcm hfn z.cells hzs
                refine ⟨.value _, _, _, _, by simp [hrun], .inl rfl, new_slice (r := grownCap w m 0 e) (b := w.heap.size) (by rw [← hI.len]; simp) hge, List.prefix_append _ _, hnew, ?_, ?_⟩
                · exact Fr.of_drew (Fr.below ((Below.refl _ _).alloc (Nat.le_refl _) _) _)
                · exact ⟨by simp, fun i hi _ => by rw [List.getElem?_append_left hi]⟩
              · cases h
            · rename_i i n sc
              rw [if_neg hm0] at h
              split at h
              · rename_i o ho
                split at h
                · rename_i hcond
                  obtain ⟨hrw, hty, hnl2, hbytes⟩ := hcond
                  obtain rfl := Option.some.inj h
                  have hoki := hok i rfl
                  have hNl : n + m ≤ 140737488355328 := Nat.le_trans (Nat.le_mul_of_pos_right _ hby1) hbytes
                  obtain ⟨bi, di, ri, hβi⟩ := hI.loc ho
                  have hB := hI.obj i o bi di ri ho hβi
                  have hfl : ∀ v ∈ o.cells.take (n * ei.size) ++ news, flat v = true := fun v hv => by
                    rcases List.mem_append.1 hv with hv | hv
                    · exact hB.flat v (List.mem_of_mem_take hv)
                    · exact hfn v hv
                  have hlen : (o.cells.take (n * ei.size) ++ news).length = (n + m) * ei.size := by
                    rw [List.length_append, List.length_take, Nat.min_eq_left hnl2, hRn.1, hnl, Nat.add_mul]
                  have hext : AExt (fun j => (some i : Option Nat) = some j) H (H.set i none ++ [some ⟨e, o.cells.take (n * ei.size) ++ news, true⟩]) :=
                    ⟨by simp, fun j hj hne => by rw [List.getElem?_append_left (by simpa using hj), List.getElem?_set_ne (fun e => hne (by rw [e]))]⟩
                  have hnewid : ∀ (x : Loc), (β ++ [x])[H.length]? = some x := fun x => by rw [← hI.len]; simp
                  -- it grows
                  have growing : ∀ (sa : Addr) (cap : Nat) (olds : List Value), R β (.slice (some ⟨i, 0, none⟩) n n) (.slice (some sa) n cap) → s' = .slice (some sa) n cap → cap < n + m → RL β (o.cells.take (n * ei.size)) olds →
                      (∀ (j : Nat) (v : Value), olds[j]? = some v → w.cell? (sa.add j) = some v) →
                      Does P ok perm H β w ((do pure (Next.value (← Builtin.append_ #[t, t] ty #[s', .slice (some ax) m cx])) : Sem Next).run P w) (.slice (some ⟨H.length, 0, none⟩) (n + m) (n + m), H.set i none ++ [some ⟨e, o.cells.take (n * ei.size) ++ news, true⟩], some i) := by
                    rintro sa cap olds _ rfl hcap hRo holds
                    have hlo : olds.length = n * q.size := by rw [← hRo.1, List.length_take, Nat.min_eq_left hnl2, hq1]
                    have hrun := run_append_grow (P := P) w t ty e q z ht hq hq3 sa n cap olds hlo holds ax m cx news' hnl' hnr0 hcap (by omega) (growslice_fits hcap (by rw [hq2]; exact hbytes))
                    have hge := grownCap_ge w (n + m) cap e
                    have hcm := grownCap_le_maxLen w (n + m) cap e (by simp only [maxLen]; omega)
                    have hnew := grown_obj hT (hI.kill i) hperm hei (RL.append hRo hRn) (N := n + m) hlen hge hcm hfl z.cells hzs
                    have ecat : (olds ++ news').toArray ++ Builtin.zeroCells z.cells (grownCap w (n + m) cap e - (n + m)) = olds.toArray ++ news'.toArray ++ Builtin.zeroCells z.cells (grownCap w (n + m) cap e - (n + m)) := by simp
                    rw [ecat] at hnew
                    refine ⟨.value _, _, _, _, by simp [hrun], .inl rfl, new_slice (r := grownCap w (n + m) cap e) (b := w.heap.size) (hnewid _) hge, List.prefix_append _ _, hnew, ?_, hext⟩
                    exact Fr.of_drew (Fr.below ((Below.refl _ _).alloc (Nat.le_refl _) _) _)
                  cases hs with
                  | @slice _ _ _ c b d rr hβ hc hoo =>
                    rw [hβi] at hβ
                    obtain ⟨rfl, rfl, rfl⟩ : bi = b ∧ di = d ∧ ri = rr := by simpa using hβ
                    obtain ⟨rfl, hrm, cur, inf, hcur, hinf, hcs⟩ := hB.own hrw
                    have hc0 := hoo rfl
                    subst hc0
                    rw [hty] at hcur hinf
                    rw [hq] at hinf
                    obtain rfl := Option.some.inj hinf
                    obtain ⟨cs', hr1, hr2, hr3⟩ := hB.range 0 (n * ei.size) (by omega)
                    rw [List.drop_zero] at hr1
                    by_cases hroom : n + m ≤ c
                    · have hfit : n * q.size + news'.length ≤ cur.size := by rw [hnl', hcs, ← Nat.add_mul]; exact Nat.mul_le_mul_right _ hroom
                      have hrun := run_append_room (P := P) w t ty e q ht hq bi n c cur hcur ax m cx news' hnl' hnr0 hone hroom hfit
                      have hrow := setRow_heap w bi cur (cur.toList.take (n * q.size) ++ news' ++ cur.toList.drop (n * q.size + news'.length)).toArray e (0, 0) hcur
                      have hheir := hI.heir (o' := ⟨e, o.cells.take (n * ei.size) ++ news, true⟩) ho hrw hoki hβi (w' := w.setRow bi (cur.toList.take (n * q.size) ++ news' ++ cur.toList.drop (n * q.size + news'.length)).toArray) (by simp) (fun k _ hk => setRow_other w bi k _ hk)
                        ⟨by simpa using hB.lt, hfl, fun k v hk => ?_, fun _ => ⟨rfl, hrm, _, q, hrow, hq, ?_⟩⟩
                      · refine ⟨.value _, _, _, _, by simp [hrun], .inl rfl, new_slice (r := c) (b := bi) (hnewid _) hroom, List.prefix_append _ _, hheir, ?_, hext⟩
                        exact ⟨rfl, rfl, rfl, by simp, fun k _ hk => setRow_other w bi k _ fun e => hk ⟨i, 0, c, rfl, by rw [e]; exact hβi⟩⟩
                      · -- its cells
                        have hlk : k < (n + m) * ei.size := by rw [← hlen]; exact (List.getElem?_eq_some_iff.1 hk).1
                        rw [Nat.zero_add, cell_of_row _ bi k _ e (0, 0) hrow, List.getElem?_toArray]
                        have htl : (cur.toList.take (n * q.size)).length = n * ei.size := by
                          rw [List.length_take, Array.length_toList, hcs, hq1, Nat.min_eq_left (Nat.mul_le_mul_right _ hc)]
                        by_cases hkn : k < n * ei.size
                        · rw [List.getElem?_append_left (by rw [List.length_take, Nat.min_eq_left hnl2]; exact hkn)] at hk
                          rw [List.getElem?_take, if_pos hkn] at hk
                          obtain ⟨v', hv', hRv⟩ := hB.at_ k v hk
                          rw [Nat.zero_add, cell_of_row w bi k cur e (0, 0) hcur] at hv'
                          refine ⟨v', ?_, hRv⟩
                          rw [List.append_assoc, List.getElem?_append_left (by rw [htl]; exact hkn), List.getElem?_take, if_pos (by rw [hq1]; exact hkn)]
                          simpa using hv'
                        · rw [List.getElem?_append_right (by rw [List.length_take, Nat.min_eq_left hnl2]; omega), List.length_take, Nat.min_eq_left hnl2] at hk
                          have hkm : k - n * ei.size < news'.length := by rw [hnl]; rw [Nat.add_mul] at hlk; omega
                          refine ⟨news'[k - n * ei.size], ?_, hRn.2 _ _ _ hk (List.getElem?_eq_getElem hkm)⟩
                          rw [List.append_assoc, List.getElem?_append_right (by rw [htl]; omega), htl, List.getElem?_append_left hkm]
                          exact List.getElem?_eq_getElem hkm
                      · rw [← hcs]
                        simp only [List.size_toArray, List.length_append, List.length_take, List.length_drop, Array.length_toList]
                        omega
                    · refine growing _ c cs' (.slice hβi hc hoo) rfl (by omega) hr1 (fun j v hj => ?_)
                      rw [add_loc]
                      have := hr3 w rfl j v hj
                      simpa using this
                  | empty a a' =>
                    refine growing a' 0 [] (.empty _ _) rfl (by omega) (by simp; exact RL.nil β) (fun j v hj => by simp at hj)
                · cases h
              · cases h
            · cases h
      · cases h
end

theorem eop_sound {P : Program} {T : Tab} (hT : TOK P T) {ok perm : Nat → Prop} {H : AHeap} {β : List Loc} {w : World} (hI : Inv P ok perm H β w) (hperm : perm w.heap.size) {ev ρ : Operand → Value} (hρ : ∀ x, R β (ev x) (ρ x))
    {o : Oper} {r : Eff} (h : eop T H ev o.op = some r) (hok : ∀ i, r.2.2 = some i → ok i) : Does P ok perm H β w ((execOp ρ o).run P w) r := by
  have parts : ∀ ps : Array (Nat × Operand), (ps.toList.map fun p => (p.1, ρ p.2)).toArray = ps.map fun (p : Nat × Operand) => (p.1, ρ p.2) := fun ps => by apply Array.ext'; simp
  generalize hop : o.op = op at h
  cases op <;> simp only [eop] at h <;> try (cases h; done)
  case alloc t => simpa [execOp, hop] using ealloc_sound hT hI hperm h
  case box t x => simpa [execOp, hop] using ebox_sound hT hI hperm (hρ x) h
  case buildSlice t len ps =>
    have := elit_sound (parts' := ps.toList.map fun p => (p.1, ρ p.2)) hT hI hperm ⟨by simp, fun j p p' hp1 hp2 => by
      rw [List.getElem?_map] at hp1 hp2
      cases hj : ps.toList[j]? with
      | none => rw [hj] at hp1; cases hp1
      | some q =>
        rw [hj] at hp1 hp2
        obtain rfl := Option.some.inj hp1
        obtain rfl := Option.some.inj hp2
        exact ⟨rfl, hρ _⟩⟩ h
    rw [parts] at this
    simpa [execOp, hop] using this
  case makeSlice t l c => simpa [execOp, hop] using emake_sound hT hI hperm (hρ l) (hρ c) h
  case store t p x => simpa [execOp, hop] using estore_sound hT hI (hρ p) (hρ x) h
  case call c =>
    split at h
    · rename_i s x t t' hcal ha hat
      have ha' : c.args = #[s, x] := by apply Array.ext'; simp [ha]
      have hat' : c.argTypes = #[t, t'] := by apply Array.ext'; simp [hat]
      split at h
      · rename_i ti hti
        split at h
        · rename_i e hd
          split at h
          · rename_i htt
            subst htt
            have := eappend_sound (ty := o.type) hT hI hperm hti hd (hρ s) (hρ x) h hok
            simpa [execOp, hop, resolve, invoke, builtin, hcal, ha', hat'] using this
          · cases h
        · cases h
      · cases h
    · cases h
end Go.Proofs.Ythalogdopkoidaa.Ab
