/- Contracts and plain laws: dropping, putting. No statement of the seat's in it. Condition: none. -/
import Derived.Test.YthalogdopkoidaaZB
import Derived.Test.YthalogdopkoidaaZF
set_option linter.unusedVariables false
set_option linter.unusedSimpArgs false
namespace Go.Proofs.Ythalogdopkoidaa.Ab
open Go Go.RowKit Go.Proofs.Ythalogdopkoidaa.Dr
/-- A row of cells of an object's block. -/
def rowed (cur : Array Value) (off : Nat) (xs : List Value) : Array Value := (cur.toList.take off ++ xs ++ cur.toList.drop (off + xs.length)).toArray
theorem row_turn {P : Program} {ok perm : Nat → Prop} {H : AHeap} {β : List Loc} {w : World} (hI : Inv P ok perm H β w) {i b d q : Nat} {o : AObj} (ho : H[i]? = some (some o)) (hrw : o.rw = true) (hβ : β[i]? = some (b, d, q)) {off : Nat} {xs xs' : List Value}
    (hR : RL β xs xs') (hf : xs.all flat = true) (hl : off + xs.length ≤ o.cells.length) :
    d = 0 ∧ ∃ cur, w.heap[b]? = some (.cells cur o.ty (0, 0)) ∧ off + xs'.length ≤ cur.size ∧ (∀ v ∈ xs', v.oneCell' = true) ∧
      Inv P ok perm (H.set i (some { o with cells := over o.cells off xs })) β (w.setRow b (rowed cur off xs')) := by
  have hB := hI.obj i o b d q ho hβ
  obtain ⟨rfl, hq, cur, inf, hcur, hinf, hsz⟩ := hB.own hrw
  have hone : ∀ v ∈ xs', v.oneCell' = true := by
    intro v hv
    obtain ⟨j, hj, rfl⟩ := List.mem_iff_getElem.1 hv
    have hj' : j < xs.length := by rw [hR.1]; exact hj
    exact (hR.2 j _ _ (List.getElem?_eq_getElem hj') (List.getElem?_eq_getElem hj)).one (List.all_eq_true.1 hf _ (List.getElem_mem hj'))
  have hcs : ∀ k, k < o.cells.length → k < cur.size := fun k hk => by
    obtain ⟨v', hv', _⟩ := hB.at_ k _ (List.getElem?_eq_getElem hk)
    rw [Nat.zero_add, cell_of_row w b k cur o.ty (0, 0) hcur] at hv'
    exact (Array.getElem?_eq_some_iff.1 hv').1
  have hfit : off + xs'.length ≤ cur.size := by
    rw [← hR.1]
    rcases Nat.eq_zero_or_pos (off + xs.length) with h0 | h0
    · omega
    · have := hcs (off + xs.length - 1) (by omega); omega
  refine ⟨rfl, cur, hcur, hfit, hone, ?_⟩
  have hrow := setRow_heap w b cur (rowed cur off xs') o.ty (0, 0) hcur
  refine hI.turn ho hrw hβ (by simp) (fun k _ hk => setRow_other w b k _ hk) hrw ⟨by simpa using hB.lt, fun v hv => ?_, fun k v hk' => ?_, fun _ => ⟨rfl, hq, _, inf, hrow, hinf, ?_⟩⟩
  · obtain ⟨j, hj, rfl⟩ := List.mem_iff_getElem.1 hv
    have hg := over_get (cells := o.cells) (l := xs) (off := off) hl j
    rw [List.getElem?_eq_getElem hj] at hg
    split at hg
    · exact List.all_eq_true.1 hf _ (List.mem_of_getElem? hg.symm)
    · exact hB.flat _ (List.mem_of_getElem? hg.symm)
  · dsimp only at hk'
    rw [over_get hl] at hk'
    rw [Nat.zero_add, cell_of_row _ b k _ o.ty (0, 0) hrow]
    have hg := over_get (cells := cur.toList) (l := xs') (off := off) (by simpa using hfit) k
    rw [over_eq _ _ _ (by simpa using hfit)] at hg
    unfold rowed
    rw [List.getElem?_toArray, hg]
    split at hk'
    · rename_i hin
      have hin' : off ≤ k ∧ k < off + xs'.length := by rw [← hR.1]; exact hin
      rw [if_pos hin']
      have hlt : k - off < xs'.length := by omega
      exact ⟨_, List.getElem?_eq_getElem hlt, hR.2 (k - off) _ _ hk' (List.getElem?_eq_getElem hlt)⟩
    · rename_i hin
      have hin' : ¬ (off ≤ k ∧ k < off + xs'.length) := by rw [← hR.1]; exact hin
      rw [if_neg hin']
      obtain ⟨v', hv', hRv⟩ := hB.at_ k v hk'
      rw [Nat.zero_add, cell_of_row w b k cur o.ty (0, 0) hcur] at hv'
      exact ⟨v', by simpa using hv', hRv⟩
  · rw [← hsz]
    unfold rowed
    simp only [List.size_toArray, List.length_append, List.length_take, List.length_drop, Array.length_toList] at hfit ⊢
    omega
theorem rowed_fr (w : World) (b : Nat) (c : Array Value) {perm : Nat → Prop} (hp : perm b) : Fr perm w (w.setRow b c) :=
  ⟨rfl, rfl, rfl, by simp, fun k _ hk => setRow_other w b k _ fun e => hk (by rw [e]; exact hp)⟩
section
variable {P : Program} {T : Tab} {N : Nat} {ok : Nat → Prop} {early : Prop} {o : Oper} {K : Env → AHeap → Prop} {e : Env} {H : AHeap}
/-- An operation whose run writes such a row. -/
theorem AStep_row {i oty off : Nat} {cells xs : List Value} {v : Value} (hob : H[i]? = some (some ⟨oty, cells, true⟩)) (hfl : xs.all flat = true) (hl : off + xs.length ≤ cells.length) (hok : ok i) (hear : ¬ early)
    (hrun : ∀ (β : List Loc) (w : World) (a : Act) (b q : Nat) (cur : Array Value), Inv P ok (fun _ => True) H β w → ER β e a N → β[i]? = some (b, 0, q) → w.heap[b]? = some (.cells cur oty (0, 0)) →
      (∀ xs' : List Value, RL β xs xs' → off + xs'.length ≤ cur.size) →
      ∃ xs' v', RL β xs xs' ∧ R β v v' ∧ ((∀ v ∈ xs', v.oneCell' = true) → off + xs'.length ≤ cur.size → (execOp a.eval o).run P w = .ok (.value v') (w.setRow b (rowed cur off xs'))))
    (hk : K (eput N e o.dst v) (H.set i (some ⟨oty, over cells off xs, true⟩))) : AStep P N ok early o K e H := fun perm w0 β a w Qc h1 h2 h3 h4 => by
  obtain ⟨b, d, q, hβ⟩ := h3.loc hob
  have hB := h3.obj i _ b d q hob hβ
  obtain ⟨rfl, hq, cur, inf, hcur, hinf, hsz⟩ := hB.own rfl
  have hperm : perm b := h3.perm i _ b 0 q hok hob rfl hβ
  have h3' : Inv P ok (fun _ => True) H β w := h3.weaken (fun _ _ _ _ _ _ _ _ _ => trivial)
  have hfit : ∀ xs' : List Value, RL β xs xs' → off + xs'.length ≤ cur.size := fun xs' hR => by
    obtain ⟨_, cur', hc', hf', _⟩ := row_turn h3 hob rfl hβ hR hfl hl
    rw [hcur] at hc'
    obtain rfl : cur = cur' := by simpa using hc'
    exact hf'
  obtain ⟨xs', v', hR, hv, hr⟩ := hrun β w a b q cur h3' h4 hβ hcur hfit
  obtain ⟨_, cur', hc', hf', hone, hI⟩ := row_turn h3 hob rfl hβ hR hfl hl
  rw [hcur] at hc'
  obtain rfl : cur = cur' := by simpa using hc'
  unfold Oper.wp
  rw [hr hone hf', Oper.upon_value]
  refine ⟨fun he => absurd he hear, _, _, β, hk, List.prefix_rfl, hI, h4.put hv _, h2.trans (rowed_fr w b _ hperm), ?_⟩
  exact ⟨by simp, fun j hj hn => by rw [List.getElem?_set_ne (fun e => hn (by rw [← e]; exact hok))]⟩
theorem zeroCells_eq (z : Array Value) (n : Nat) (zl : List Value) (h : z.toList = zl) : (Builtin.zeroCells z n).toList = zeros n zl := zeros_made zl h
theorem AStep_clear (hT : TOK P T) {t ety i off n oty : Nat} {ti ei : TI} {x : Operand} {cells : List Value} (hop : o.op = .call { callee := .builtin .clear, args := #[x], argTypes := #[t] }) (ht : T t = some ti) (hd : ti.d = .slice ety) (hei : T ety = some ei)
    (hx : aev e x = .slice (some ⟨i, off, none⟩) n n) (h0 : 0 < n) (hob : H[i]? = some (some ⟨oty, cells, true⟩)) (hl : off + n * ei.size ≤ cells.length) (hok : ok i) (hear : ¬ early)
    (hk : K (eput N e o.dst undef) (H.set i (some ⟨oty, over cells off (zeros n ei.zero), true⟩))) : AStep P N ok early o K e H := by
  have hz := hT.zflat ety ei hei
  have hzl := hT.zlen ety ei hei
  have hzz := zeros_const (n := n) hz
  refine AStep_row (v := undef) hob (List.all_eq_true.2 fun v hv => flatConst_flat (hzz v hv)) (by rw [zeros_length, hzl]; exact hl) hok hear (fun β w a b q cur hI hE hβ hcur hfit => ?_) hk
  refine ⟨zeros n ei.zero, .tuple #[], RL.const β hzz, .junk _, fun hone hf => ?_⟩
  have hft := hT.fits t ti ht
  rw [hd] at hft
  obtain ⟨q', z, hq, hq1, hq2, hq3, hq4⟩ := hT.info ety ei hei
  have hzr : ∀ w, (zeroValue ety).run P w = .ok z w := fun w => by simp [zeroValue, typeInfo, hq, hq3]
  have hxr := hE.eval x
  rw [hx] at hxr
  generalize hax : a.eval x = x' at hxr
  have hst := run_storeCells_at P b off oty (zeros n ei.zero) 0 cur w hcur (by simpa using hf) hone
  simp only [Nat.add_zero] at hst
  have hzc := zeroCells_eq z.cells n ei.zero hq4
  obtain ⟨m, rfl⟩ : ∃ m, n = m + 1 := ⟨n - 1, by omega⟩
  cases hxr with
  | @slice _ _ _ c b' d' r' hβ' hc ho =>
    rw [hβ] at hβ'
    obtain ⟨rfl, rfl, rfl⟩ : b = b' ∧ 0 = d' ∧ q = r' := by simpa using hβ'
    simp [execOp, hop, resolve, invoke, builtin, Builtin.clear_, run_underlying hft, hzr, hzc, hax, Nat.zero_add, hst, Result.andThen, rowed]
end
section
variable {P : Program} {N : Nat} {ok : Nat → Prop} {d : Bool} {late : List Nat} {ops : List Oper} {k : Nat} {l : List Oper} {K : Env → AHeap → Prop} {e e' : Env} {H : AHeap}
  {dst : Option Nat} {ty : TypeId} {pos : String} {af : Array Edge} {gd : Option (Nat × Bool)}
/-- 'clear' of the elements of a slice of one's own from one on. -/
theorem AQ_clear (hT : TOK P TT) {t ety i off n m : Nat} {ti ei : TI} {x : Operand} {u : Value} {cs : List Value} (ht : TT t = some ti) (hd : ti.d = .slice ety) (hei : TT ety = some ei) (hw : awant ops e ⟨dst, .call { callee := .builtin .clear, args := #[x], argTypes := #[t] }, ty, pos, af, gd⟩ = some true)
    (hx : aev e x = .slice (some ⟨i, off, none⟩) n n) (h0 : 0 < n) (hob : Own H u ety m cs i) (hl : off + n * ei.size ≤ cs.length) (hok : ok i) (hear : d = false ∨ late.contains k = true)
    (hk : ∀ H', AExt (fun j => j = i) H H' → Own H' u ety m (over cs off (zeros n ei.zero)) i → H'.length = H.length → AQ P N ok d late ops (k + 1) l K (eput N e dst undef) H') :
    AQ P N ok d late ops k (⟨dst, .call { callee := .builtin .clear, args := #[x], argTypes := #[t] }, ty, pos, af, gd⟩ :: l) K e H := by
  obtain ⟨h1, cells, h2, h3, h4⟩ := hob
  have hzl : (zeros n ei.zero).length = n * ei.size := by rw [zeros_length, hT.zlen ety ei hei]
  refine AQ_step rfl hw (AStep_clear hT rfl ht hd hei hx h0 h2 (by omega) hok (fun h => ?_) (hk _ (AExt.set1 _ _ _) ⟨h1, over cells off (zeros n ei.zero), by simp [Ob, List.getElem?_set_self h2.lt], ?_, ?_⟩ (by simp)))
  · rcases hear with h' | h'
    · rw [h'] at h; cases h.1
    · rw [h'] at h; cases h.2
  · rw [over_length, over_length]; exact h3
  · rw [over_length, over_eq _ _ _ (by omega), over_eq _ _ _ (by omega)]
    have e1 : cs.take off = cells.take off := by rw [← h4, List.take_take]; congr 1; omega
    have e2 : cs.drop (off + (zeros n ei.zero).length) = (cells.drop (off + (zeros n ei.zero).length)).take (cs.length - (off + (zeros n ei.zero).length)) := by
      conv => lhs; rw [← h4]
      rw [List.drop_take]
    rw [e1, e2, List.append_assoc, List.append_assoc, List.take_append, List.take_append]
    rw [List.take_of_length_le (i := cs.length) (by simp; omega)]
    congr 1
    rw [List.take_of_length_le (by simp; omega)]
    congr 2
    simp
    omega
end
end Go.Proofs.Ythalogdopkoidaa.Ab
set_option linter.unusedVariables false
set_option linter.unusedSimpArgs false
namespace Go.Proofs.Ythalogdopkoidaa.Ab
open Go Go.RowKit Go.Proofs.Ythalogdopkoidaa.Dr
/-- Pairs without a key. -/
def del (l : List Pr) (key : List UInt8) : List Pr := l.filter fun p => !decide (p.key = key)
theorem del_nil (key : List UInt8) : del [] key = [] := rfl
theorem del_app (a b : List Pr) (key : List UInt8) : del (a ++ b) key = del a key ++ del b key := List.filter_append ..
theorem del_len (l : List Pr) (key : List UInt8) : (del l key).length ≤ l.length := List.length_filter_le ..
theorem del_id {l : List Pr} {key : List UInt8} (h : ∀ p ∈ l, p.key ≠ key) : del l key = l := List.filter_eq_self.2 fun p hp => by rw [decide_eq_false (h p hp)]; rfl
theorem del_step {l : List Pr} {key : List UInt8} {i : Nat} (hi : i < l.length) : del (l.take (i + 1)) key = del (l.take i) key ++ if l[i].key = key then [] else [l[i]] := by
  rw [List.take_succ_eq_append_getElem hi, del_app]
  congr 1
  unfold del
  rw [List.filter_cons]
  by_cases h : l[i].key = key
  · rw [if_pos h, decide_eq_true h]; rfl
  · rw [if_neg h, decide_eq_false h]; rfl
theorem May.del {l : List Pr} (h : May l) (key : List UInt8) : May (Ab.del l key) := ⟨fun p hp => h.1 p (List.mem_filter.1 hp).1, h.2.sublist List.filter_sublist⟩
theorem f52_1 (i : Nat) : afield TT 52 (.pointer (some ⟨i, 0, none⟩)) 1 = some (.pointer (some ⟨i, 1, none⟩)) := rfl
theorem ap52_value (p : Pr) : apart TT 9 p.cells 1 = some (S p.value) := rfl
theorem ap9 (s : List UInt8) : apart TT 9 [S s] 0 = some (S s) := rfl
/-- The function that finds a key: the object in which its key lies. -/
def fk (ki : Nat) : Value := .func (.func 73) #[] #[.pointer (some ⟨ki, 0, none⟩)]
set_option maxHeartbeats 4000000 in
theorem c73 {H : AHeap} {ki : Nat} {key : List UInt8} {p : Pr} (hK : Ob H ki 9 [S key]) : ACalls Try.prog 73 [p.val, .pointer (some ⟨ki, 0, none⟩)] H (fun _ => False) fun v H' => v = .bool (decide (p.key = key)) := by
  refine ACalls_by 10 TT_ok Try.func73 rfl rfl rfl (by simp) ?_
  refine AC_seq ?_
  refine AC_regL ?_
  refine AQ_box TT_ok TT_52 rfl (by simp only [go_sem] <;> rfl) (Lay.pr p) rfl fun H1 hX1 hO1 hL1 => ?_
  have hK1 := hK.keep hX1
  refine AQ_all TT_ok rfl (by simp only [go_sem] <;> rfl) ?_
  have hd : decide (p = ⟨key, p.value⟩) = decide (p.key = key) := decide_eq_decide.2 ⟨fun h => by rw [h], fun h => by rw [← h]⟩
  refine AC_seqQ TT_ok (by simp only [go_sem, f52_1, hO1.load, hK1.load, ap52_self, ap52_value, ap9, List.map_cons, List.map_nil, bp52] <;> rfl) ?_
  exact AC_ret ⟨.inl rfl, _, rfl, by simp only [go_sem]; rw [hd]⟩
/-- Where a key stands, or that it does not. -/
def Fnd (l : List Pr) (key : List UInt8) (n : Int) : Prop := (∃ i, ∃ hi : i < l.length, n = (i : Int) ∧ l[i].key = key ∧ ∀ p ∈ l.take i, p.key ≠ key) ∨ (n = -1 ∧ ∀ p ∈ l, p.key ≠ key)
set_option maxHeartbeats 4000000 in
theorem c82 {H : AHeap} {vl : Value} {l : List Pr} {ki : Nat} {key : List UInt8} (hl : PrS H vl l) (hlen : l.length < 2^40) (hK : Ob H ki 9 [S key]) : ACalls Try.prog 82 [vl, fk ki] H (fun _ => False) fun v H' => ∃ n, v = .int .i64 n ∧ Fnd l key n := by
  refine ACalls_by 19 TT_ok Try.func82 rfl rfl rfl (by simp) ?_
  refine AC_seqQ TT_ok (by simp only [go_sem] <;> rfl) ?_
  refine AC_cut (fun e' H' => ∀ p ∈ l, p.key ≠ key) ?_ (fun e1 H1 _ hno => ?_)
  rotate_left
  · refine AC_seqQ TT_ok (by simp only [go_sem] <;> rfl) ?_
    exact AC_ret ⟨.inl rfl, _, rfl, -1, by simp only [go_sem], .inr ⟨rfl, hno⟩⟩
  refine AC_seqQ TT_ok (by simp only [go_sem, hl.alen] <;> rfl) ?_
  refine AC_block (AC_loop (fun m e' H' => ∃ i : Nat, m = l.length - i ∧ i ≤ l.length ∧ AExt (fun _ => False) H H' ∧ (∀ p ∈ l.take i, p.key ≠ key) ∧ get e' 0 = vl ∧ get e' 1 = fk ki ∧ get e' 7 = .int .i64 (l.length : Nat) ∧ get e' 8 = .int .i64 (i : Nat)) l.length ⟨0, by simp, by simp, AExt.refl _ _, by simp, by simp only [go_sem], by simp only [go_sem], by simp only [go_sem], by simp only [go_sem] <;> simp⟩ ?_)
  rintro m e1 H1 _ ⟨i, hmi, hi, hX1, hno, g0, g1, g7, g8⟩
  have k5 := wrapN i (by omega)
  have hl1 := hl.keep hX1
  have hK1 := hK.keep hX1
  refine AC_seq ?_
  refine AC_quiet TT_ok (by simp only [go_sem, g7, g8] <;> rfl) ?_
  refine AC_seq ?_
  by_cases hi' : i < l.length
  · refine AC_t (by simp only [go_sem] <;> rfl) (lt_dec hi') ?_
    refine AC_skip ?_
    have b1 := hl1.index (k := .i64) (j := (i : Int)) (by omega) (by omega)
    rw [Int.toNat_natCast] at b1
    have b2 := hl1.load hi'
    refine AC_seq (AC_block ?_)
    refine AC_seqQ TT_ok (by simp only [go_sem, g8] <;> rfl) ?_
    refine AC_seq ?_
    refine AC_regL ?_
    refine AQ_take TT_ok 5 rfl (by simp only [go_sem, g0, g1, g8, b1, b2] <;> rfl) ?_
    refine AQ_c rfl (by simp only [go_sem, fk] <;> rfl) fok73 (by simp only [List.map_cons, List.map_nil, List.append_nil, go_sem, fk] <;> rfl) (c73 (p := l[i]) hK1) (fun _ _ h => h.elim) (.inl rfl) fun r H2 hX2 hr => ?_
    subst hr
    refine AQ_all TT_ok rfl (by simp only [go_sem] <;> rfl) ?_
    cases dk : decide (l[i].key = key)
    · refine AC_f (by simp only [go_sem] <;> rfl) (rfl) ?_
      refine AC_skip ?_
      refine AC_quiet TT_ok (by simp only [go_sem, g8, k5] <;> rfl) ?_
      refine ⟨l.length - (i + 1), by omega, i + 1, rfl, by omega, hX1.trans hX2, ?_, by simp only [go_sem, g0], by simp only [go_sem, g1], by simp only [go_sem, g7], by simp only [go_sem]⟩
      intro p hp
      rw [List.take_succ_eq_append_getElem hi'] at hp
      rcases List.mem_append.1 hp with h | h
      · exact hno p h
      · rw [List.mem_singleton] at h; subst h; exact of_decide_eq_false dk
    · refine AC_t (by simp only [go_sem] <;> rfl) (rfl) ?_
      refine AC_seqQ TT_ok (by simp only [go_sem] <;> rfl) ?_
      exact AC_ret ⟨.inl rfl, _, rfl, (i : Int), by simp only [go_sem], .inl ⟨i, hi', rfl, of_decide_eq_true dk, hno⟩⟩
  · refine AC_f (by simp only [go_sem] <;> rfl) (ge_dec (by omega)) ?_
    refine AC_exit ?_
    rw [List.take_of_length_le (by omega)] at hno
    exact hno
theorem abin_nil22 {H : AHeap} {v : Value} {ty n : Nat} {cs : List Value} (h : Sl H v ty n cs) : ∃ b, abin TT .eql 22 v (.slice none 0 0) = some (.bool b) ∧ (b = true → v = .slice none 0 0 ∧ n = 0) := by
  rcases h with ⟨rfl, hn, _⟩ | ⟨i, off, o, h⟩
  · exact ⟨true, rfl, fun _ => ⟨rfl, hn⟩⟩
  · rw [h.val]; exact ⟨false, rfl, fun h => by cases h⟩
set_option maxHeartbeats 4000000 in
theorem c72 {H : AHeap} {vl : Value} {l : List Pr} (hl : PrS H vl l) (hlen : l.length < 2^40) : ACalls Try.prog 72 [vl] H (fun _ => False) fun v H' => PrB H' v l ∧ ∀ j, vid v = some j → H.length ≤ j := by
  refine ACalls_by 8 TT_ok Try.func72 rfl rfl rfl (by simp) ?_
  refine AC_seqQ TT_ok (by simp only [go_sem] <;> rfl) ?_
  obtain ⟨b, hb, hbt⟩ := abin_nil22 hl
  refine AC_seq ?_
  refine AC_seqQ TT_ok (by simp only [go_sem, hb] <;> rfl) ?_
  cases b
  rotate_left
  · refine AC_t (by simp only [go_sem] <;> rfl) (rfl) ?_
    obtain ⟨rfl, h0⟩ := hbt rfl
    have hl0 : l = [] := List.eq_nil_of_length_eq_zero h0
    subst hl0
    refine AC_seqQ TT_ok (by simp only [go_sem] <;> rfl) ?_
    exact AC_ret ⟨.inl rfl, _, rfl, by simp only [go_sem]; exact Buf.nil _ _, fun j hj => by simp only [go_sem] at hj; cases hj⟩
  refine AC_f (by simp only [go_sem] <;> rfl) (rfl) ?_
  refine AC_skip ?_
  refine AC_seq ?_
  refine AC_regL ?_
  refine AQ_lit TT_ok [] TT_22 rfl TT_52 rfl (by decide) rfl (by decide) rfl rfl (fun v hv => by cases hv) fun H2 hX2 hO2 hL2 => ?_
  refine AQ_take TT_ok 1 rfl (by simp only [go_sem] <;> rfl) ?_
  refine AQ_append TT_ok (v := .slice (some ⟨H.length, 0, none⟩) 0 0) (n := 0) (m := l.length) TT_22 rfl TT_52 (by decide) (by decide) rfl (by simp only [go_sem]) (by simp only [go_sem]) (.inr ⟨_, hO2⟩) (hl.keep hX2) rfl (rows_length Pr.len l) (by simp; omega) (fun j hj => .inl (by have e : H.length = j := Option.some.inj hj; omega)) (.inl rfl) fun vi H3 hX3 hB3 hv3 => ?_
  have hi3 : PrB H3 vi l := PrB.copy hB3
  refine AQ_all TT_ok rfl (by simp only [go_sem] <;> rfl) ?_
  refine AC_ret ⟨.inl rfl, _, rfl, by simp only [go_sem]; exact hi3, fun j hj => ?_⟩
  simp only [go_sem] at hj
  rcases hv3 j hj with h | ⟨_, h⟩
  · omega
  · subst h
    have e : H.length = j := Option.some.inj hj
    omega
theorem as_lo (b n i : Nat) (h : i ≤ n) (k : IntKind) : aslice TT 22 (.slice (some ⟨b, 0, none⟩) n n) (some (.int k (i : Int))) none = some (.slice (some ⟨b, 0 + i * 2, none⟩) (n - i) (n - i)) := by
  simp only [aslice, TT_22, TT_52, abound]
  rw [if_neg (by decide)]
  rw [if_pos (by omega)]
  simp only [Int.toNat_natCast]
theorem as_hi (b n i : Nat) (h : i ≤ n) (k : IntKind) : aslice TT 22 (.slice (some ⟨b, 0, none⟩) n n) none (some (.int k (i : Int))) = some (.slice (some ⟨b, 0, none⟩) i i) := by
  simp only [aslice, TT_22, TT_52, abound]
  rw [if_neg (by decide)]
  rw [if_pos (by omega)]
  simp
  
set_option maxRecDepth 100000 in
set_option maxHeartbeats 8000000 in
theorem c71 {H : AHeap} {vs : Value} {l : List Pr} {ki : Nat} {key : List UInt8} (hV : PrB H vs l) (hlen : l.length < 2^40) (hK : Ob H ki 9 [S key]) : ACalls Try.prog 71 [vs, fk ki] H (fun i => vid vs = some i) fun v H' => PrB H' v (del l key) ∧ ∀ j, vid v = some j → vid vs = some j := by
  refine ACalls_by 42 TT_ok Try.func71 rfl rfl rfl (by simp) ?_
  refine AC_seqQ TT_ok (by simp only [go_sem] <;> rfl) ?_
  refine AC_seq ?_
  refine AC_regL ?_
  refine AQ_take TT_ok 2 rfl (by simp only [go_sem] <;> rfl) ?_
  refine AQ_c rfl (by simp only [go_sem] <;> rfl) fok82 (by simp only [List.map_cons, List.map_nil, List.append_nil, go_sem] <;> rfl) (c82 hV.sl hlen hK) (fun _ _ h => h.elim) (.inl rfl) fun r H1 hX1 ⟨n, hr, hF⟩ => ?_
  subst hr
  refine AQ_all TT_ok rfl (by simp only [go_sem] <;> rfl) ?_
  have hV1 : PrB H1 vs l := Buf.keep hV hX1
  have hK1 := hK.keep hX1
  rcases hF with ⟨i, hi, rfl, hki, hno⟩ | ⟨rfl, hno⟩
  rotate_left
  · refine AC_seq ?_
    have d1 : decide ((-1 : Int) = -1) = true := rfl
    refine AC_seqQ TT_ok (by simp only [go_sem, d1] <;> rfl) ?_
    refine AC_t (by simp only [go_sem] <;> rfl) (rfl) ?_
    refine AC_seqQ TT_ok (by simp only [go_sem] <;> rfl) ?_
    refine AC_ret ⟨.inl rfl, _, rfl, ?_, fun j hj => ?_⟩
    · simp only [go_sem]; rw [del_id hno]; exact hV1
    · simp only [go_sem] at hj; exact hj
  have d1 : decide ((i : Int) = -1) = false := decide_eq_false (by omega)
  refine AC_seq ?_
  refine AC_seqQ TT_ok (by simp only [go_sem, d1] <;> rfl) ?_
  refine AC_f (by simp only [go_sem] <;> rfl) (rfl) ?_
  refine AC_skip ?_
  rcases hV1 with ⟨_, hl0, _⟩ | ⟨b, hV1⟩
  · omega
  have hvb := hV1.vid
  have hv := hV1.1
  have hbk : b ≠ ki := fun h => by
    obtain ⟨_, cells, h2, _, _⟩ := hV1
    rw [h] at h2
    have h3 : H1[ki]? = some (some ⟨52, cells, true⟩) := h2
    have h4 : H1[ki]? = some (some ⟨9, [S key], true⟩) := hK1
    rw [h3] at h4
    simp at h4
  have hM : ∀ H' : AHeap, AExt (fun j => j = b) H1 H' → Ob H' ki 9 [S key] := fun H' hX => hK1.ext hX (fun h => hbk h.symm)
  have hdi : del (l.take (i + 1)) key = l.take i := by
    rw [del_step hi, if_pos hki, List.append_nil, del_id hno]
  have k5 := wrapN i (by omega)
  refine AC_cut (fun e' H' => ∃ (a : Nat) (c : List Pr), a < l.length ∧ c.length = l.length ∧ c.take a = del l key ∧ Own H' vs 52 l.length (c.flatMap Pr.cells) b ∧ get e' 0 = vs ∧ get e' 5 = .int .i64 (a : Nat)) ?_ (fun e3 H3 _ ⟨a, c, ha, hcl, hca, hO, g0, g5⟩ => ?_)
  · refine AC_seqQ TT_ok (by simp only [go_sem, k5] <;> rfl) ?_
    refine AC_block (AC_loop (fun m e' H' => ∃ (j a : Nat) (c : List Pr), m = l.length - j ∧ a < j ∧ j ≤ l.length ∧ c.length = l.length ∧ c.take a = del (l.take j) key ∧ c.drop j = l.drop j ∧ AExt (fun j => j = b) H1 H' ∧ Own H' vs 52 l.length (c.flatMap Pr.cells) b ∧ get e' 0 = vs ∧ get e' 1 = fk ki ∧ get e' 5 = .int .i64 (a : Nat) ∧ get e' 6 = .int .i64 (j : Nat)) (l.length - (i + 1)) ⟨i + 1, i, l, rfl, by omega, by omega, rfl, hdi.symm, rfl, AExt.refl _ _, hV1, by simp only [go_sem], by simp only [go_sem], by simp only [go_sem], by simp only [go_sem]⟩ ?_)
    rintro m e3 H3 _ ⟨j, a, c, hmj, haj, hj, hcl, hca, hcd, hX3, hO, g0, g1, g5, g6⟩
    have k6 := wrapN j (by omega)
    have k7 := wrapN a (by omega)
    have hS : PrS H3 vs c := by
      have := hO.sl
      rw [← hcl] at this
      exact this
    have hK3 := hM H3 hX3
    refine AC_seq ?_
    refine AC_seqQ TT_ok (by simp only [go_sem, g0, g6, hS.alen] <;> rfl) ?_
    by_cases hj' : j < l.length
    rotate_left
    · refine AC_f (by simp only [go_sem] <;> rfl) (ge_dec (by omega)) ?_
      rw [List.take_of_length_le (l := l) (i := j) (by omega)] at hca
      exact AC_exit ⟨a, c, by omega, hcl, hca, hO, by simp only [go_sem, g0], by simp only [go_sem, g5]⟩
    rw [hcl]
    refine AC_t (by simp only [go_sem] <;> rfl) (lt_dec hj') ?_
    refine AC_skip ?_
    have hj'' : j < c.length := by omega
    have hcj : c[j] = l[j] := by
      have h : (c.drop j)[0]? = (l.drop j)[0]? := by rw [hcd]
      rw [List.getElem?_drop, List.getElem?_drop, Nat.add_zero, List.getElem?_eq_getElem hj'', List.getElem?_eq_getElem hj'] at h
      exact Option.some.inj h
    have b1 := hS.index (k := .i64) (j := (j : Int)) (by omega) (by omega)
    rw [Int.toNat_natCast] at b1
    have b2 := hS.load hj''
    rw [hcj] at b2
    refine AC_seq (AC_block ?_)
    refine AC_seq ?_
    refine AC_regL ?_
    refine AQ_take TT_ok 4 rfl (by simp only [go_sem, g0, g6, b1, b2] <;> rfl) ?_
    refine AQ_var TT_ok TT_52 rfl (by decide) (by simp only [go_sem] <;> rfl) (Lay.pr l[j]) rfl (.inl (by have := hX1.size; have := hX3.size; omega)) (.inl rfl) fun H4 hX4 hO4 hL4 => ?_
    refine AQ_nil ?_
    have hO5 := hO.ext hX4 id
    have hK5 := hK3.keep hX4
    refine AC_seq ?_
    refine AC_regL ?_
    refine AQ_take TT_ok 2 rfl (by simp only [go_sem, g1, hO4.load, ap52_self] <;> rfl) ?_
    refine AQ_c rfl (by simp only [go_sem, g1, fk] <;> rfl) fok73 (by simp only [List.map_cons, List.map_nil, List.append_nil, go_sem, g1, fk] <;> rfl) (c73 (p := l[j]) hK5) (fun _ _ h => h.elim) (.inl rfl) fun r H6 hX6 hr => ?_
    subst hr
    have hO7 := hO5.ext hX6 id
    have hOv := hO4.keep hX6
    have hX7 : AExt (fun j => j = b) H1 H6 := hX3.trans ((hX4.trans hX6).mono (fun _ _ h => h.elim))
    have hds := del_step (key := key) hj'
    by_cases hk : l[j].key = key
    · have dk : decide (l[j].key = key) = true := decide_eq_true hk
      rw [if_pos hk, List.append_nil] at hds
      refine AQ_all TT_ok rfl (by simp only [go_sem, dk, Bool.not_true] <;> rfl) ?_
      refine AC_f (by simp only [go_sem] <;> rfl) (rfl) ?_
      refine AC_skip ?_
      refine AC_quiet TT_ok (by simp only [go_sem, g6, k6] <;> rfl) ?_
      refine ⟨l.length - (j + 1), by omega, j + 1, a, c, rfl, by omega, by omega, hcl, by rw [hds]; exact hca, ?_, hX7, hO7, by simp only [go_sem, g0], by simp only [go_sem, g1], by simp only [go_sem, g5], by simp only [go_sem]⟩
      have e1 : c.drop (j + 1) = (c.drop j).drop 1 := by rw [List.drop_drop]
      have e2 : l.drop (j + 1) = (l.drop j).drop 1 := by rw [List.drop_drop]
      rw [e1, e2, hcd]
    · have dk : decide (l[j].key = key) = false := decide_eq_false hk
      rw [if_neg hk] at hds
      refine AQ_all TT_ok rfl (by simp only [go_sem, dk, Bool.not_false] <;> rfl) ?_
      refine AC_t (by simp only [go_sem] <;> rfl) (rfl) ?_
      have b3 : aindex TT 22 vs (.int .i64 (a : Nat)) = some (ep vs (a * 2)) := by
        have := hS.index (k := .i64) (j := (a : Int)) (by omega) (by omega)
        rwa [Int.toNat_natCast] at this
      refine AC_seq ?_
      refine AC_regL ?_
      refine AQ_take TT_ok 4 rfl (by simp only [go_sem, g0, g5, hOv.load, ap52_self, b3] <;> rfl) ?_
      refine AQ_storeE TT_ok TT_52 rfl (by simp only [go_sem] <;> rfl) (by simp only [go_sem] <;> rfl) (Lay.pr l[j]) rfl hO7 (by rw [rows_length Pr.len, Pr.len]; omega) (.inr hvb) (.inl rfl) fun H8 hX8 hO8 hL8 => ?_
      rw [rows_over Pr.len c a l[j] (by omega)] at hO8
      refine AQ_all TT_ok rfl (by simp only [go_sem] <;> rfl) ?_
      refine AC_quiet TT_ok (by simp only [go_sem, g5, k7] <;> rfl) ?_
      refine AC_quiet TT_ok (by simp only [go_sem, g6, k6] <;> rfl) ?_
      refine ⟨l.length - (j + 1), by omega, j + 1, a + 1, c.set a l[j], rfl, by omega, by omega, by rw [List.length_set]; exact hcl, ?_, ?_, hX7.trans hX8, hO8, by simp only [go_sem, g0], by simp only [go_sem, g1], by simp only [go_sem], by simp only [go_sem]⟩
      · rw [hds, ← hca, List.take_succ_eq_append_getElem (by rw [List.length_set]; omega)]
        rw [List.getElem_set_self, List.take_set_of_le (Nat.le_refl _)]
      · rw [List.drop_set_of_lt (by omega)]
        have e1 : c.drop (j + 1) = (c.drop j).drop 1 := by rw [List.drop_drop]
        have e2 : l.drop (j + 1) = (l.drop j).drop 1 := by rw [List.drop_drop]
        rw [e1, e2, hcd]
  · have hxl := as_lo b l.length a (by omega) .i64
    have hxh := as_hi b l.length a (by omega) .i64
    rw [← hv] at hxl hxh
    refine AC_seq ?_
    refine AC_regL ?_
    refine AQ_take TT_ok 3 rfl (by simp only [go_sem, g0, g5, hxl] <;> rfl) ?_
    refine AQ_clear TT_ok TT_22 rfl TT_52 rfl (by simp only [go_sem] <;> rfl) (by omega) hO (by rw [rows_length Pr.len]; show 0 + a * 2 + (l.length - a) * 2 ≤ _; omega) (.inr hvb) (.inl rfl) fun H4 hX4 hO4 hL4 => ?_
    refine AQ_nil ?_
    refine AC_seqQ TT_ok (by simp only [go_sem, g0, g5, hxh] <;> rfl) ?_
    refine AC_ret ⟨.inl rfl, _, rfl, ?_, ?_⟩
    · simp only [go_sem]
      obtain ⟨_, cells, h2, h3, h4⟩ := hO4
      have hal : (del l key).length = a := by rw [← hca, List.length_take]; omega
      have hzl : (zeros (l.length - a) [S [], S []]).length = (l.length - a) * 2 := zeros_length _ _
      refine .inr ⟨b, by rw [hal], cells, h2, ?_, ?_⟩
      · rw [over_length, rows_length Pr.len] at h3
        rw [rows_length Pr.len]
        omega
      · have hlen2 : (c.flatMap Pr.cells).length = l.length * 2 := by rw [rows_length Pr.len, hcl]
        rw [rows_length Pr.len, hal]
        have h5 := congrArg (List.take (a * 2)) h4
        rw [List.take_take, over_length, hlen2, Nat.min_eq_left (by omega)] at h5
        rw [h5, over_eq _ _ _ (by rw [hlen2]; show 0 + a * 2 + (zeros (l.length - a) [S [], S []]).length ≤ _; rw [hzl]; omega), List.append_assoc]
        rw [Nat.zero_add, List.take_append_of_le_length (by rw [List.length_take, hlen2]; omega), List.take_take, Nat.min_self, rows_take Pr.len, hca]
    · intro j hj
      simp only [go_sem] at hj
      rw [hvb]
      exact hj
end Go.Proofs.Ythalogdopkoidaa.Ab
set_option linter.unusedVariables false
set_option linter.unusedSimpArgs false
namespace Go.Proofs.Ythalogdopkoidaa.Ab
open Go Go.RowKit Go.Proofs.Ythalogdopkoidaa.Dr
/-- A trie without a key; whether that was there; an error. -/
def dropE (t : List Nd) (key : List UInt8) : List Nd × Bool × Int :=
  if Isw t then if kb key = true then (build (del (prs t) key), decide (((del (prs t) key).length : Int) < ((prs t).length : Int)), 0) else ([], false, 9) else ([], false, 1)
theorem dropE_build {l : List Pr} (h : May l) {key : List UInt8} (hk : kb key = true) : dropE (build l) key = (build (del l key), decide (((del l key).length : Int) < (l.length : Int)), 0) := by
  rw [dropE, if_pos (isw_build h), if_pos hk, prs_build h]
theorem dropE_bad {l : List Pr} (h : May l) {key : List UInt8} (hk : kb key = false) : dropE (build l) key = ([], false, 9) := by
  rw [dropE, if_pos (isw_build h), if_neg (by rw [hk]; simp)]
theorem dropE_len {t : List Nd} {key : List UInt8} : (dropE t key).1.length ≤ 17 * t.length := by
  unfold dropE
  split
  · split
    · dsimp only
      have h1 := build_len (del (prs t) key)
      have h2 := del_len (prs t) key
      have h3 := prs_len t
      have : 17 * (del (prs t) key).length ≤ 17 * t.length := Nat.mul_le_mul_left _ (by omega)
      omega
    · simp
  · simp
set_option maxRecDepth 100000 in
set_option maxHeartbeats 8000000 in
theorem c46 {H : AHeap} {vt : Value} {t : List Nd} {key : List UInt8} (hT : NdS H vt t) (ht : t.length < 2^19) (hn : ∀ n ∈ t, n.path.length < 2^30) :
    ACalls Try.prog 46 [vt, S key] H (fun _ => False) fun v H' => ∃ u, v = .tuple #[u, .bool (dropE t key).2.1, .int .i64 (dropE t key).2.2] ∧ NdB H' u (dropE t key).1 ∧ ∀ j, vid u = some j → H.length ≤ j := by
  refine ACalls_by 43 TT_ok Try.func46 rfl rfl rfl (by simp) ?_
  refine AC_seq ?_
  refine AC_regL ?_
  refine AQ_box TT_ok TT_9 rfl (by simp only [go_sem] <;> rfl) (One.str key).lay rfl fun H1 hX1 hK hL1 => ?_
  refine AQ_all TT_ok rfl (by simp only [go_sem] <;> rfl) ?_
  have hT1 := hT.keep hX1
  refine AC_seq ?_
  refine AC_regL ?_
  refine AQ_take TT_ok 1 rfl (by simp only [go_sem] <;> rfl) ?_
  refine AQ_c rfl (by simp only [go_sem] <;> rfl) fok31 (by simp only [List.map_cons, List.map_nil, List.append_nil, go_sem] <;> rfl) (c31 hT1 ht hn) (fun _ _ h => h.elim) (.inl rfl) fun r H2 hX2 ⟨u, hr, hU, hun⟩ => ?_
  subst hr
  refine AQ_all TT_ok rfl (by simp only [go_sem] <;> rfl) ?_
  have hK2 := hK.keep hX2
  have hUp : PrB H2 u (prs t) := hU
  refine AC_fixe (fun e' => get e' 3 = .pointer (some ⟨H.length, 0, none⟩) ∧ get e' 7 = u ∧ get e' 8 = .bool (decide (Isw t))) ⟨by simp only [go_sem], by simp only [go_sem], by simp only [go_sem]⟩ (fun e2 ⟨g3, g7, g8⟩ => ?_)
  refine AC_seq (AC_block ?_)
  by_cases his : Isw t
  rotate_left
  · have hd : decide (Isw t) = false := decide_eq_false his
    rw [hd] at g8
    refine AC_seqQ TT_ok (by simp only [go_sem, g8, Bool.not_false] <;> rfl) ?_
    refine AC_t (by simp only [go_sem] <;> rfl) (rfl) ?_
    refine AC_seqQ TT_ok (by simp only [go_sem] <;> rfl) ?_
    refine AC_ret ⟨.inl rfl, _, rfl, .slice none 0 0, ?_, ?_, fun j hj => by cases hj⟩
    · simp only [go_sem, dropE, if_neg his]
    · simp only [dropE, if_neg his]; exact Buf.nil _ _
  have hd : decide (Isw t) = true := decide_eq_true his
  rw [hd] at g8
  refine AC_seqQ TT_ok (by simp only [go_sem, g8, Bool.not_true] <;> rfl) ?_
  refine AC_f (by simp only [go_sem] <;> rfl) (rfl) ?_
  cases hkb : kb key
  · have hkb' : ¬ kb key = true := by rw [hkb]; simp
    refine AC_cut (fun e' H' => get e' 20 = .bool true) ?_ (fun e3 H3 _ g20 => ?_)
    · by_cases hk0 : key = []
      · have d0 : decide (key = []) = true := decide_eq_true hk0
        refine AC_quiet TT_ok (by simp only [go_sem, g3, hK2.load, ap9, d0] <;> rfl) ?_
        show get _ 20 = _
        simp only [go_sem]
      · have d0 : decide (key = []) = false := decide_eq_false hk0
        have hlp := List.length_pos_iff.2 hk0
        have d8 : decide ((8 : Int) < (key.length : Int)) = true := decide_eq_true (by
          unfold kb at hkb
          rw [decide_eq_true (by omega : 1 ≤ key.length), Bool.true_and] at hkb
          have := of_decide_eq_false hkb
          omega)
        refine AC_quiet TT_ok (by simp only [go_sem, g3, hK2.load, ap9, d0, d8] <;> rfl) ?_
        show get _ 20 = _
        simp only [go_sem]
    refine AC_t g20 rfl ?_
    refine AC_seqQ TT_ok (by simp only [go_sem] <;> rfl) ?_
    refine AC_ret ⟨.inl rfl, _, rfl, .slice none 0 0, ?_, ?_, fun j hj => by cases hj⟩
    · simp only [go_sem, dropE, if_pos his, if_neg hkb']
    · simp only [dropE, if_pos his, if_neg hkb']; exact Buf.nil _ _
  have hkl := kb_len hkb
  have hE : dropE t key = (build (del (prs t) key), decide (((del (prs t) key).length : Int) < ((prs t).length : Int)), 0) := by rw [dropE, if_pos his, if_pos hkb]
  rw [hE]
  have hlp := prs_len t
  have hmy := prs_may t
  generalize prs t = l at hUp hlp hmy
  have d0 : decide (key = []) = false := decide_eq_false (fun h => by rw [h] at hkl; simp at hkl)
  have d8 : decide ((8 : Int) < (key.length : Int)) = false := decide_eq_false (by omega)
  refine AC_seqQ TT_ok (by simp only [go_sem, g3, hK2.load, ap9, d0, d8] <;> rfl) ?_
  refine AC_f (by simp only [go_sem] <;> rfl) (rfl) ?_
  refine AC_skip ?_
  have s1 := hX1.size
  have s2 := hX2.size
  have hul : ∀ j, vid u = some j → j < H2.length := fun j hj => PrS.vid_lt hUp.sl hj
  have hdl := del_len l key
  refine AC_seq ?_
  refine AC_regL ?_
  refine AQ_take TT_ok 1 rfl (by simp only [go_sem, g7] <;> rfl) ?_
  refine AQ_c rfl (by simp only [go_sem] <;> rfl) fok72 (by simp only [List.map_cons, List.map_nil, List.append_nil, go_sem] <;> rfl) (c72 hUp.sl (by omega)) (fun _ _ h => h.elim) (.inl rfl) fun r H3 hX3 ⟨hC, hcn⟩ => ?_
  have hK3 := hK2.keep hX3
  have hU3 : PrS H3 u l := hUp.sl.keep hX3
  refine AQ_take TT_ok 1 rfl (by simp only [go_sem, g3, List.map_cons, List.map_nil] <;> rfl) ?_
  have s3 := hX3.size
  refine AQ_c rfl (by simp only [go_sem, fk] <;> rfl) fok71 (by simp only [List.map_cons, List.map_nil, List.append_nil, go_sem, fk] <;> rfl) (c71 (key := key) hC (by omega) hK3) (fun j hj hm => .inl (by have := hcn j hm; omega)) (.inl rfl) fun r4 H4 hX4 ⟨hD, hdn⟩ => ?_
  refine AQ_all TT_ok rfl (by simp only [go_sem] <;> rfl) ?_
  have hU4 : PrS H4 u l := hU3.ext hX4 (fun j hj hu hm => by have := hcn j hm; have := hul j hu; omega)
  have s4 := hX4.size
  have hD' : PrS H4 r4 (del l key) := hD.sl
  refine AC_seq ?_
  refine AC_regL ?_
  refine AQ_take TT_ok 1 rfl (by simp only [go_sem] <;> rfl) ?_
  refine AQ_c rfl (by simp only [go_sem] <;> rfl) fok29 (by simp only [List.map_cons, List.map_nil, List.append_nil, go_sem] <;> rfl) (c29 hD' (by omega)) (fun _ _ h => h.elim) (.inl rfl) fun r H5 hX5 ⟨vu, hr, hB5, hvn⟩ => ?_
  subst hr
  rw [if_pos (hmy.del key)] at hB5
  refine AQ_all TT_ok rfl (by simp only [go_sem] <;> rfl) ?_
  have hU5 : PrS H5 u l := hU4.keep hX5
  have hD5 : PrS H5 r4 (del l key) := hD'.keep hX5
  refine AC_seqQ TT_ok (by simp only [go_sem, g7, hU5.alen, hD5.alen] <;> rfl) ?_
  exact AC_ret ⟨.inl rfl, _, rfl, vu, by simp only [go_sem], hB5, fun j hj => by have := hvn j hj; omega⟩
theorem b68 {a : Value} (ha : One a) (b : Bool) : abuild TT 68 [(0, a), (1, .bool b)] = some (.agg #[a, .bool b, .int .i64 0]) := by
  have h1 : a.cells.size = 1 := by rw [ha.cells]; rfl
  simp only [abuild, TT_68]
  rw [if_pos (by decide)]
  simp only [afill, placeOf]
  simp only [List.getElem?_cons_zero, List.getElem?_cons_succ, TT_24, TT_4, Option.map_some]
  rw [if_pos ⟨ha.known, h1, by decide⟩, if_pos ⟨rfl, rfl, by rw [over_length]; decide⟩, ha.cells]
  rfl
theorem b68e (n : Int) : abuild TT 68 [(2, .int .i64 n)] = some (.agg #[.slice none 0 0, .bool false, .int .i64 n]) := rfl
theorem ap68 (a b c : Value) : apart TT 68 [a, b, c] 0 = some (.agg #[a, b, c]) := by
  unfold apart; rw [TT_68]; rfl
set_option maxRecDepth 100000 in
set_option maxHeartbeats 8000000 in
theorem c47 {H : AHeap} {vt : Value} {t : List Nd} {key : List UInt8} (hT : NdS H vt t) (ht : t.length < 2^19) (hn : ∀ n ∈ t, n.path.length < 2^30) :
    ACalls Try.prog 47 [vt, S key] H (fun _ => False) fun v H' => ∃ u, v = .agg #[u, .bool (dropE t key).2.1, .int .i64 (dropE t key).2.2] ∧ NdB H' u (dropE t key).1 ∧ ∀ j, vid u = some j → H.length ≤ j := by
  refine ACalls_by 51 TT_ok Try.func47 rfl rfl rfl (by simp) ?_
  refine AC_seq ?_
  refine AC_regL ?_
  refine AQ_alloc TT_ok TT_68 rfl fun H1 hX1 hO1 hL1 => ?_
  refine AQ_all TT_ok rfl (by simp only [go_sem] <;> rfl) ?_
  refine AC_seq ?_
  refine AC_regL ?_
  refine AQ_take TT_ok 1 rfl (by simp only [go_sem] <;> rfl) ?_
  refine AQ_c rfl (by simp only [go_sem] <;> rfl) fok32 (by simp only [List.map_cons, List.map_nil, List.append_nil, go_sem] <;> rfl) (c32 (hT.keep hX1) ht hn) (fun _ _ h => h.elim) (.inl rfl) fun r H2 hX2 ⟨u, hr, hU, hun⟩ => ?_
  subst hr
  have hu2 : PrS H2 u (prs t) := hU.sl
  refine AQ_var TT_ok TT_37 rfl (by decide) (by simp only [go_sem] <;> rfl) (Lay.two hu2.one (One.bool _)) rfl (.inl (by have := hX1.size; have := hX2.size; omega)) (.inl rfl) fun H3 hX3 hO3 hL3 => ?_
  refine AQ_nil ?_
  have hR3 := (hO1.keep hX2).keep hX3
  have hu3 := hu2.keep hX3
  have fin : ∀ {H' : AHeap} {e' : Env} {w : Value} {b : Bool} {x : Int}, Ob H' H.length 68 [w, .bool b, .int .i64 x] → get e' 4 = .pointer (some ⟨H.length, 0, none⟩) → ares TT H' e' [.cell 4 68] = some (.agg #[w, .bool b, .int .i64 x]) := fun hO h4 => by
    simp only [ares, List.mapM_cons, List.mapM_nil, ares1, h4, hO.load, ap68]
    rfl
  refine AC_fixe (fun e' => get e' 1 = S key ∧ get e' 4 = .pointer (some ⟨H.length, 0, none⟩) ∧ get e' 5 = .pointer (some ⟨H2.length, 0, none⟩)) ⟨by simp only [go_sem], by simp only [go_sem], by simp only [go_sem]⟩ (fun e2 ⟨g1, g4, g5⟩ => ?_)
  have s1 := hX1.size
  have s2 := hX2.size
  have s3 := hX3.size
  refine AC_seq ?_
  by_cases his : Isw t
  rotate_left
  · have hd : decide (Isw t) = false := decide_eq_false his
    rw [hd] at hO3
    refine AC_seqQ TT_ok (by simp only [go_sem, g5, f37_1, hO3.load, ap37_1] <;> rfl) ?_
    refine AC_t (by simp only [go_sem] <;> rfl) (rfl) ?_
    refine AC_seq ?_
    refine AC_regL ?_
    refine AQ_take TT_ok 1 rfl (by simp only [go_sem, List.map_cons, List.map_nil, b68e] <;> rfl) ?_
    refine AQ_store TT_ok TT_68 rfl (by simp only [go_sem, g4] <;> rfl) (by simp only [go_sem] <;> rfl) (Lay.three (One.slice none 0 0) (One.bool _) (One.int _ _)) rfl hR3 (by show 0 + 3 ≤ 3; decide) (.inl (by omega)) (.inl rfl) fun H4 hX4 hO4 hL4 => ?_
    refine AQ_nil ?_
    refine AC_ret ⟨.inl rfl, _, fin (w := .slice none 0 0) (b := false) (x := 1) hO4 (by simp only [go_sem, g4]), .slice none 0 0, ?_, ?_, fun j hj => by cases hj⟩
    · simp only [dropE, if_neg his]
    · simp only [dropE, if_neg his]; exact Buf.nil _ _
  have hd : decide (Isw t) = true := decide_eq_true his
  rw [hd] at hO3
  refine AC_seqQ TT_ok (by simp only [go_sem, g5, f37_1, hO3.load, ap37_1] <;> rfl) ?_
  refine AC_f (by simp only [go_sem] <;> rfl) (rfl) ?_
  refine AC_skip ?_
  refine AC_seq ?_
  refine AC_seq ?_
  refine AC_regL ?_
  refine AQ_take TT_ok 1 rfl (by simp only [go_sem, g1] <;> rfl) ?_
  refine AQ_c rfl (by simp only [go_sem] <;> rfl) fok48 (by simp only [List.map_cons, List.map_nil, List.append_nil, go_sem] <;> rfl) (c48 (k := key)) (fun _ _ h => h.elim) (.inl rfl) fun r H4 hX4 ⟨hr, hH⟩ => ?_
  have hH' := hH.symm
  subst hr hH'
  cases hkb : kb key
  · have hkb' : ¬ kb key = true := by rw [hkb]; simp
    refine AQ_all TT_ok rfl (by simp only [go_sem, Bool.not_false] <;> rfl) ?_
    refine AC_t (by simp only [go_sem] <;> rfl) (rfl) ?_
    refine AC_seq ?_
    refine AC_regL ?_
    refine AQ_take TT_ok 1 rfl (by simp only [go_sem, List.map_cons, List.map_nil, b68e] <;> rfl) ?_
    refine AQ_store TT_ok TT_68 rfl (by simp only [go_sem, g4] <;> rfl) (by simp only [go_sem] <;> rfl) (Lay.three (One.slice none 0 0) (One.bool _) (One.int _ _)) rfl hR3 (by show 0 + 3 ≤ 3; decide) (.inl (by omega)) (.inl rfl) fun H4 hX4 hO4 hL4 => ?_
    refine AQ_nil ?_
    refine AC_ret ⟨.inl rfl, _, fin (w := .slice none 0 0) (b := false) (x := 9) hO4 (by simp only [go_sem, g4]), .slice none 0 0, ?_, ?_, fun j hj => by cases hj⟩
    · simp only [dropE, if_pos his, if_neg hkb']
    · simp only [dropE, if_pos his, if_neg hkb']; exact Buf.nil _ _
  have hE : dropE t key = (build (del (prs t) key), decide (((del (prs t) key).length : Int) < ((prs t).length : Int)), 0) := by rw [dropE, if_pos his, if_pos hkb]
  rw [hE]
  refine AQ_all TT_ok rfl (by simp only [go_sem, Bool.not_true] <;> rfl) ?_
  refine AC_f (by simp only [go_sem] <;> rfl) (rfl) ?_
  refine AC_skip ?_
  have hlp := prs_len t
  have hmy := prs_may t
  have hlt : ∀ j, vid u = some j → j < H2.length := fun j hj => hu2.vid_lt hj
  generalize prs t = l at hu2 hu3 hlp hmy
  refine AC_seqQ TT_ok (by simp only [go_sem] <;> rfl) ?_
  refine AC_fixe (fun e' => get e' 1 = S key ∧ get e' 4 = .pointer (some ⟨H.length, 0, none⟩) ∧ get e' 5 = .pointer (some ⟨H2.length, 0, none⟩) ∧ get e' 6 = .slice none 0 0) ⟨by simp only [go_sem, g1], by simp only [go_sem, g4], by simp only [go_sem, g5], by simp only [go_sem]⟩ (fun e2 ⟨g1, g4, g5, g6⟩ => ?_)
  refine AC_cut (fun e' H' => ∃ v, PrB H' v (del l key) ∧ (∀ j, vid v = some j → H3.length ≤ j) ∧ H3.length ≤ H'.length ∧ PrS H' u l ∧ Ob H' H2.length 37 [u, .bool true] ∧ Ob H' H.length 68 [.slice none 0 0, .bool false, .int .i64 0] ∧ get e' 4 = .pointer (some ⟨H.length, 0, none⟩) ∧ get e' 5 = .pointer (some ⟨H2.length, 0, none⟩) ∧ get e' 6 = v) ?_ (fun e3 H4 _ ⟨v, hV, hvn, hsz, hu4, hO4, hR4, g4, g5, g6⟩ => ?_)
  · refine AC_seqQ TT_ok (by simp only [go_sem] <;> rfl) ?_
    refine AC_block (AC_loop (fun m e' H' => ∃ (i : Nat) (v : Value), m = l.length - i ∧ i ≤ l.length ∧ PrB H' v (del (l.take i) key) ∧ (∀ j, vid v = some j → H3.length ≤ j) ∧ H3.length ≤ H'.length ∧ PrS H' u l ∧ Ob H' H2.length 37 [u, .bool true] ∧ Ob H' H.length 68 [.slice none 0 0, .bool false, .int .i64 0] ∧ get e' 1 = S key ∧ get e' 4 = .pointer (some ⟨H.length, 0, none⟩) ∧ get e' 5 = .pointer (some ⟨H2.length, 0, none⟩) ∧ get e' 6 = v ∧ get e' 7 = .int .i64 (i : Nat)) l.length ⟨0, .slice none 0 0, by simp, by simp, by rw [List.take_zero, del_nil]; exact Buf.nil _ _, fun j hj => (by cases hj), Nat.le_refl _, hu3, hO3, hR3, by simp only [go_sem, g1], by simp only [go_sem, g4], by simp only [go_sem, g5], by simp only [go_sem, g6], by simp only [go_sem] <;> simp⟩ ?_)
    rintro m e3 H4 _ ⟨i, v, hmi, hi, hV, hvn, hsz, hu4, hO4, hR4, g1, g4, g5, g6, g7⟩
    have k5 := wrapN i (by omega)
    refine AC_seq ?_
    refine AC_seqQ TT_ok (by simp only [go_sem, g5, g7, f37_0, hO4.load, apf22 hu4, hu4.alen] <;> rfl) ?_
    by_cases hi' : i < l.length
    rotate_left
    · refine AC_f (by simp only [go_sem] <;> rfl) (ge_dec (by omega)) ?_
      rw [List.take_of_length_le (l := l) (i := i) (by omega)] at hV
      exact AC_exit ⟨v, hV, hvn, hsz, hu4, hO4, hR4, by simp only [go_sem, g4], by simp only [go_sem, g5], by simp only [go_sem, g6]⟩
    refine AC_t (by simp only [go_sem] <;> rfl) (lt_dec hi') ?_
    refine AC_skip ?_
    have b1 := hu4.index (k := .i64) (j := (i : Int)) (by omega) (by omega)
    rw [Int.toNat_natCast] at b1
    have b2 := hu4.f0 hi'
    have b3 := hu4.key hi'
    have b4 := hu4.load hi'
    have hds := del_step (key := key) hi'
    have hdl := del_len (l.take i) key
    rw [List.length_take] at hdl
    refine AC_seq (AC_block ?_)
    by_cases hk : l[i].key = key
    · have dk : decide (l[i].key = key) = true := decide_eq_true hk
      rw [if_pos hk, List.append_nil] at hds
      refine AC_seqQ TT_ok (by simp only [go_sem, g1, g5, g7, f37_0, hO4.load, apf22 hu4, b1, b2, b3, dk, Bool.not_true] <;> rfl) ?_
      refine AC_f (by simp only [go_sem] <;> rfl) (rfl) ?_
      refine AC_skip ?_
      refine AC_quiet TT_ok (by simp only [go_sem, g7, k5] <;> rfl) ?_
      exact ⟨l.length - (i + 1), by omega, i + 1, v, rfl, by omega, by rw [hds]; exact hV, hvn, hsz, hu4, hO4, hR4, by simp only [go_sem, g1], by simp only [go_sem, g4], by simp only [go_sem, g5], by simp only [go_sem, g6], by simp only [go_sem]⟩
    · have dk : decide (l[i].key = key) = false := decide_eq_false hk
      rw [if_neg hk] at hds
      refine AC_seqQ TT_ok (by simp only [go_sem, g1, g5, g7, f37_0, hO4.load, apf22 hu4, b1, b2, b3, dk, Bool.not_false] <;> rfl) ?_
      refine AC_t (by simp only [go_sem] <;> rfl) (rfl) ?_
      refine AC_regL ?_
      refine AQ_take TT_ok 6 rfl (by simp only [go_sem, g5, g6, g7, f37_0, hO4.load, apf22 hu4, b1, b4] <;> rfl) ?_
      refine AQ_lit TT_ok [l[i].val] TT_22 rfl TT_52 rfl (by decide) rfl (by decide) rfl (by simp only [List.map_cons, List.map_nil, go_sem, numbered]) (fun v hv => by rw [List.mem_singleton] at hv; subst hv; exact ⟨_, Lay.pr _, rfl⟩) fun H5 hX5 hO5 hL5 => ?_
      refine AQ_append TT_ok (v := v) (m := 1) TT_22 rfl TT_52 (by decide) (by decide) rfl (by simp only [go_sem]) (by simp only [go_sem]) (Buf.keep hV hX5) hO5.sl (rows_length Pr.len _) rfl (by simp; omega) (fun j hj => .inl (by have := hvn j hj; omega)) (.inl rfl) fun v6 H6 hX6 hB6 hv6 => ?_
      have hV6 : PrB H6 v6 (del (l.take (i + 1)) key) := by
        rw [hds]
        exact PrB.push hB6
      have s5 := hX5.size
      have s6 := hX6.size
      have hvn6 : ∀ j, vid v6 = some j → H3.length ≤ j := fun j hj => by
        rcases hv6 j hj with h | ⟨h, _⟩
        · omega
        · cases h
      refine AQ_all TT_ok rfl (by simp only [go_sem] <;> rfl) ?_
      refine AC_quiet TT_ok (by simp only [go_sem, g7, k5] <;> rfl) ?_
      refine ⟨l.length - (i + 1), by omega, i + 1, v6, rfl, by omega, hV6, hvn6, by omega, ?_, ?_, ?_, by simp only [go_sem, g1], by simp only [go_sem, g4], by simp only [go_sem, g5], by simp only [go_sem], by simp only [go_sem]⟩
      · exact (hu4.keep hX5).ext hX6 (fun j _ hj hv => by have := hvn j hv; have := hlt j hj; omega)
      · exact (hO4.keep hX5).ext hX6 (fun hv => by have := hvn _ hv; omega)
      · exact (hR4.keep hX5).ext hX6 (fun hv => by have := hvn _ hv; omega)
  · have hdl := del_len l key
    have hV' : PrS H4 v (del l key) := hV.sl
    refine AC_seq ?_
    refine AC_drawG (fun _ => False) H4 [10] [(0, true), (3, true), (4, true), (5, true), (6, true), (7, true), (8, true), (1, false), (2, true), (9, true), (10, false)] mixed (by kernel_rfl) (fun _ h => h.elim) (fun j o h => ⟨h, id⟩) (Nat.le_refl _) ?_
    refine AG_sel (σ := [(1, false), (2, true), (9, true), (10, false)]) TT_ok [0, 3, 4, 5, 6, 7, 8] _ (by simp only [go_sem, g5, g6, f37_0, hO4.load, apf22 hu4, hu4.alen, hV'.alen] <;> rfl) ?_
    refine AG_c rfl rfl (by simp only [go_sem] <;> rfl) fok30 (by simp only [List.map_cons, List.map_nil, List.append_nil, go_sem] <;> rfl) (c30 hV' (by omega)) fun r H5 hX5 ⟨vu, vp, hr, hT5, _, hvu, _⟩ => ?_
    subst hr
    rw [if_pos (hmy.del key)] at hT5
    have hR5 := hR4.keep hX5
    refine AG_sel (σ := [(10, false)]) TT_ok [2, 9] _ (by simp only [go_sem, (pick32 hT5.sl), List.map_cons, List.map_nil, (b68 (Sl.one hT5.sl))] <;> rfl) ?_
    have s5 := hX5.size
    refine AG_store TT_ok rfl TT_68 rfl (by simp only [go_sem, g4] <;> rfl) (by simp only [go_sem] <;> rfl) (Lay.three (Sl.one hT5.sl) (One.bool _) (One.int _ _)) rfl hR5 (by show 0 + 3 ≤ 3; decide) (.inl (by omega)) rfl fun H6 hX6 hO6 hL6 => ?_
    refine AG_nil ?_
    refine AC_ret ⟨.inl rfl, _, fin (w := vu) (b := decide (((del l key).length : Int) < (l.length : Int))) (x := 0) hO6 (by simp only [go_sem, g4]), vu, rfl, ?_, fun j hj => by have := hvu j hj; omega⟩
    exact Buf.ext hT5 hX6 (fun j hj h => by have := hvu j hj; omega)
end Go.Proofs.Ythalogdopkoidaa.Ab
set_option linter.unusedVariables false
set_option linter.unusedSimpArgs false
namespace Go.Proofs.Ythalogdopkoidaa.Ab
open Go Go.RowKit Go.Proofs.Ythalogdopkoidaa.Dr
def wq : List Pr := [⟨[97], [49]⟩, ⟨[97, 98], [50]⟩]
def wr : List Pr := [⟨[97, 98], [50]⟩]
theorem wq_may : May wq := by decide
theorem wr_may : May wr := by decide
theorem may_small {l : List Pr} (hm : May l) (h : l.length ≤ 3) : (build l).length < 2^19 ∧ ∀ n ∈ build l, n.path.length < 2^30 := by
  have := build_len l
  exact ⟨by omega, fun n hn => by have := build_path hm n hn; omega⟩
set_option maxRecDepth 100000 in
set_option maxHeartbeats 8000000 in
theorem c45 {H : AHeap} : ACalls Try.prog 45 [] H (fun _ => False) fun v H' => v = .bool true := by
  refine ACalls_by 85 TT_ok Try.func45 rfl rfl rfl (by simp) ?_
  obtain ⟨l1, n1⟩ := may_small wq_may (by decide)
  obtain ⟨l2, n2⟩ := may_small wr_may (by decide)
  have hE1 : dropE (build wq) [97] = (build wr, true, 0) := by rw [dropE_build wq_may (by decide)]; rfl
  have hE2 : dropE (build wr) [99] = (build wr, false, 0) := by rw [dropE_build wr_may (by decide)]; rfl
  have hE3 : dropE (build wr) [97, 98] = ([], true, 0) := by rw [dropE_build wr_may (by decide)]; rfl
  have hE4 : dropE (build wq) [] = ([], false, 9) := dropE_bad wq_may (by decide)
  generalize hT1 : build wq = T1 at *
  generalize hT2 : build wr = T2 at *
  refine AC_seqQ TT_ok (by simp only [go_sem] <;> rfl) ?_
  refine AC_seq ?_
  refine AC_regL ?_
  refine AQ_take TT_ok 2 rfl (by simp only [go_sem, List.map_cons, List.map_nil, bp52] <;> rfl) ?_
  refine AQ_lit TT_ok (wq.map Pr.val) TT_22 rfl TT_52 rfl (by decide) rfl (by decide) rfl (by simp only [wq, List.map_cons, List.map_nil, go_sem, numbered]) (Lay.prs _) fun H1 hX1 hO1 hL1 => ?_
  have hP1 := Own.pairs wq rfl hO1
  refine AQ_c rfl (by simp only [go_sem] <;> rfl) fok30 (by simp only [List.map_cons, List.map_nil, List.append_nil, go_sem] <;> rfl) (c30 hP1.sl (by decide)) (fun _ _ h => h.elim) (.inl rfl) fun r H2 hX2 ⟨vt, vp, hr, hA2, _, _, _⟩ => ?_
  subst hr
  rw [if_pos wq_may, hT1] at hA2
  have hA2 : NdS H2 vt T1 := hA2.sl
  refine AQ_all TT_ok rfl (by simp only [go_sem, (pick32 hA2), List.map_cons, List.map_nil] <;> rfl) ?_
  refine AC_fixe (fun e' => get e' 1 = vt) (by simp only [go_sem]) (fun e2 g1 => ?_)
  refine AC_seq ?_
  refine AC_regL ?_
  refine AQ_take TT_ok 1 rfl (by simp only [go_sem, g1] <;> rfl) ?_
  refine AQ_c rfl (by simp only [go_sem] <;> rfl) fok46 (by simp only [List.map_cons, List.map_nil, List.append_nil, go_sem] <;> rfl) (c46 (key := [97]) hA2 l1 n1) (fun _ _ h => h.elim) (.inl rfl) fun r H3 hX3 ⟨u, hr, hU, _⟩ => ?_
  rw [hE1] at hr hU
  subst hr
  refine AQ_all TT_ok rfl (by simp only [go_sem] <;> rfl) ?_
  have hU : NdS H3 u T2 := hU.sl
  have hA3 := hA2.keep hX3
  refine AC_fixe (fun e' => get e' 1 = vt ∧ get e' 2 = u ∧ get e' 3 = .bool true ∧ get e' 4 = .int .i64 0) ⟨by simp only [go_sem, g1], by simp only [go_sem], by simp only [go_sem], by simp only [go_sem]⟩ (fun e3 ⟨g1, g2, g3, g4⟩ => ?_)
  refine AC_seq ?_
  refine AC_regL ?_
  refine AQ_take TT_ok 1 rfl (by simp only [go_sem, g2] <;> rfl) ?_
  refine AQ_c rfl (by simp only [go_sem] <;> rfl) fok46 (by simp only [List.map_cons, List.map_nil, List.append_nil, go_sem] <;> rfl) (c46 (key := [99]) hU l2 n2) (fun _ _ h => h.elim) (.inl rfl) fun r H4 hX4 ⟨w, hr, hW, _⟩ => ?_
  rw [hE2] at hr hW
  subst hr
  refine AQ_all TT_ok rfl (by simp only [go_sem] <;> rfl) ?_
  have hW : NdS H4 w T2 := hW.sl
  have hA4 := hA3.keep hX4
  have hU4 := hU.keep hX4
  refine AC_fixe (fun e' => get e' 1 = vt ∧ get e' 2 = u ∧ get e' 3 = .bool true ∧ get e' 4 = .int .i64 0 ∧ get e' 5 = w ∧ get e' 6 = .bool false ∧ get e' 7 = .int .i64 0) ⟨by simp only [go_sem, g1], by simp only [go_sem, g2], by simp only [go_sem, g3], by simp only [go_sem, g4], by simp only [go_sem], by simp only [go_sem], by simp only [go_sem]⟩ (fun e4 ⟨g1, g2, g3, g4, g5, g6, g7⟩ => ?_)
  refine AC_seq ?_
  refine AC_regL ?_
  refine AQ_take TT_ok 1 rfl (by simp only [go_sem, g5] <;> rfl) ?_
  refine AQ_c rfl (by simp only [go_sem] <;> rfl) fok46 (by simp only [List.map_cons, List.map_nil, List.append_nil, go_sem] <;> rfl) (c46 (key := [97, 98]) hW l2 n2) (fun _ _ h => h.elim) (.inl rfl) fun r H5 hX5 ⟨x, hr, hY, _⟩ => ?_
  rw [hE3] at hr hY
  subst hr
  refine AQ_all TT_ok rfl (by simp only [go_sem] <;> rfl) ?_
  have hY : NdS H5 x [] := hY.sl
  have hA5 := hA4.keep hX5
  have hU5 := hU4.keep hX5
  have hW5 := hW.keep hX5
  refine AC_fixe (fun e' => get e' 1 = vt ∧ get e' 2 = u ∧ get e' 3 = .bool true ∧ get e' 4 = .int .i64 0 ∧ get e' 5 = w ∧ get e' 6 = .bool false ∧ get e' 7 = .int .i64 0 ∧ get e' 8 = x ∧ get e' 9 = .bool true ∧ get e' 10 = .int .i64 0) ⟨by simp only [go_sem, g1], by simp only [go_sem, g2], by simp only [go_sem, g3], by simp only [go_sem, g4], by simp only [go_sem, g5], by simp only [go_sem, g6], by simp only [go_sem, g7], by simp only [go_sem], by simp only [go_sem], by simp only [go_sem]⟩ (fun e5 ⟨g1, g2, g3, g4, g5, g6, g7, g8, g9, g10⟩ => ?_)
  refine AC_seq ?_
  refine AC_regL ?_
  refine AQ_take TT_ok 1 rfl (by simp only [go_sem, g1] <;> rfl) ?_
  refine AQ_c rfl (by simp only [go_sem] <;> rfl) fok46 (by simp only [List.map_cons, List.map_nil, List.append_nil, go_sem] <;> rfl) (c46 (key := []) hA5 l1 n1) (fun _ _ h => h.elim) (.inl rfl) fun r H6 hX6 ⟨y, hr, _, _⟩ => ?_
  rw [hE4] at hr
  subst hr
  refine AQ_all TT_ok rfl (by simp only [go_sem] <;> rfl) ?_
  have hU6 := hU5.keep hX6
  have hW6 := hW5.keep hX6
  have hY6 := hY.keep hX6
  refine AC_fixe (fun e' => get e' 2 = u ∧ get e' 3 = .bool true ∧ get e' 4 = .int .i64 0 ∧ get e' 5 = w ∧ get e' 6 = .bool false ∧ get e' 7 = .int .i64 0 ∧ get e' 8 = x ∧ get e' 9 = .bool true ∧ get e' 10 = .int .i64 0 ∧ get e' 13 = .int .i64 9) ⟨by simp only [go_sem, g2], by simp only [go_sem, g3], by simp only [go_sem, g4], by simp only [go_sem, g5], by simp only [go_sem, g6], by simp only [go_sem, g7], by simp only [go_sem, g8], by simp only [go_sem, g9], by simp only [go_sem, g10], by simp only [go_sem]⟩ (fun e6 ⟨g2, g3, g4, g5, g6, g7, g8, g9, g10, g13⟩ => ?_)
  have e0 : decide ((0 : Int) = 0) = true := rfl
  have e9 : decide ((9 : Int) = 9) = true := rfl
  have dT : decide (T2 = T2) = true := decide_eq_true rfl
  have lY := hY6.alen
  have d0 : decide ((([] : List Nd).length : Int) = 0) = true := rfl
  refine AC_seq ?_
  refine AC_regL ?_
  refine AQ_take TT_ok 8 rfl (by simp only [go_sem, g2, g3, g4, e0, List.map_cons, List.map_nil, bp52] <;> rfl) ?_
  refine AQ_lit TT_ok (wr.map Pr.val) TT_22 rfl TT_52 rfl (by decide) rfl (by decide) rfl (by simp only [wr, List.map_cons, List.map_nil, go_sem, numbered]) (Lay.prs _) fun Ha hXa hOa hLa => ?_
  have hPa := Own.pairs wr rfl hOa
  refine AQ_c rfl (by simp only [go_sem] <;> rfl) fok30 (by simp only [List.map_cons, List.map_nil, List.append_nil, go_sem] <;> rfl) (c30 hPa.sl (by decide)) (fun _ _ h => h.elim) (.inl rfl) fun r Hb hXb ⟨vb, vq, hr, hB, _, _, _⟩ => ?_
  subst hr
  rw [if_pos wr_may, hT2] at hB
  have hB : NdS Hb vb T2 := hB.sl
  have xb := hXa.trans hXb
  refine AQ_take TT_ok 1 rfl (by simp only [go_sem, (pick32 hB)] <;> rfl) ?_
  refine AQ_c rfl (by simp only [go_sem] <;> rfl) fok34 (by simp only [List.map_cons, List.map_nil, List.append_nil, go_sem] <;> rfl) (c34 (hU6.keep xb) hB (by omega)) (fun _ _ h => h.elim) (.inl rfl) fun r Hc hXc ⟨hr, hH⟩ => ?_
  have hH' := hH.symm
  subst hr hH'
  refine AQ_take TT_ok 12 rfl (by simp only [go_sem, g2, g5, g6, g7, e0, dT, Bool.not_false] <;> rfl) ?_
  simp only [List.drop_succ_cons, List.drop_zero]
  refine AQ_c rfl (by simp only [go_sem] <;> rfl) fok34 (by simp only [List.map_cons, List.map_nil, List.append_nil, go_sem] <;> rfl) (c34 (hU6.keep xb) (hW6.keep xb) (by omega)) (fun _ _ h => h.elim) (.inl rfl) fun r Hd hXd ⟨hr, hH⟩ => ?_
  have hH' := hH.symm
  subst hr hH'
  have lY' := (hY6.keep xb).alen
  refine AQ_all TT_ok rfl (by simp only [go_sem, g8, g9, g10, g13, e0, e9, dT, lY', d0] <;> rfl) ?_
  exact AC_ret ⟨.inl rfl, _, rfl, by simp only [go_sem]⟩
set_option maxRecDepth 100000 in
set_option maxHeartbeats 8000000 in
theorem c12 {H : AHeap} {vt : Value} {t : List Nd} {key : List UInt8} (ht : NdS H vt t) : ACalls Try.prog 12 [vt, S key] H (fun _ => False) fun v H' => v = .bool true := by
  refine ACalls_by 55 TT_ok Try.func12 rfl rfl rfl (by simp) ?_
  refine AC_seqQ TT_ok (by simp only [go_sem] <;> rfl) ?_
  refine AC_cut (fun e' H' => H' = H ∧ szN t ≤ 4000 ∧ key.length ≤ 100 ∧ get e' 0 = vt ∧ get e' 1 = S key) ?_ (fun e1 H1 _ ⟨hH, hsT, hkl, g0, g1⟩ => ?_)
  · refine AC_cut (fun e' H' => H' = H ∧ ∃ b, get e' 16 = .bool b ∧ (b = false → szN t ≤ 4000 ∧ key.length ≤ 100) ∧ get e' 0 = vt ∧ get e' 1 = S key) ?_ (fun e1 H1 _ ⟨hH, b, h20, hb, g0, g1⟩ => ?_)
    · refine AC_regL ?_
      refine AQ_take TT_ok 1 rfl (by simp only [go_sem] <;> rfl) ?_
      refine AQ_c rfl (by simp only [go_sem] <;> rfl) fok27 (by simp only [List.map_cons, List.map_nil, List.append_nil, go_sem] <;> rfl) (c27 ht) (fun _ _ h => h.elim) (.inl rfl) fun r H1 hX1 ⟨hH, b, hr, hb⟩ => ?_
      subst hr hH
      cases b
      · refine AQ_all TT_ok rfl (by simp only [go_sem] <;> rfl) ?_
        exact ⟨rfl, decide ((100 : Int) < (key.length : Int)), by simp only [go_sem], fun h => ⟨hb rfl, by have := of_decide_eq_false h; omega⟩, by simp only [go_sem], by simp only [go_sem]⟩
      · refine AQ_all TT_ok rfl (by simp only [go_sem] <;> rfl) ?_
        exact ⟨rfl, true, by simp only [go_sem], fun h => (by cases h), by simp only [go_sem], by simp only [go_sem]⟩
    subst hH
    cases b
    · exact AC_f h20 rfl (AC_skip ⟨rfl, (hb rfl).1, (hb rfl).2, g0, g1⟩)
    · refine AC_t h20 rfl ?_
      refine AC_seq ?_
      refine AC_regL ?_
      refine AQ_c rfl (by simp only [go_sem] <;> rfl) fok45 (by simp only [List.map_cons, List.map_nil, List.append_nil, go_sem] <;> rfl) (c45) (fun _ _ h => h.elim) (.inl rfl) fun r H1 hX1 hr => ?_
      subst hr
      refine AQ_all TT_ok rfl (by simp only [go_sem] <;> rfl) ?_
      exact AC_ret ⟨.inl rfl, _, rfl, by simp only [go_sem]⟩
  subst hH
  have htl := szN_len t
  have htn : ∀ n ∈ t, n.path.length < 2^30 := fun n hn => by have := szN_path t n hn; omega
  refine AC_seq ?_
  refine AC_regL ?_
  refine AQ_lit TT_ok [] TT_24 rfl TT_49 rfl (by decide) rfl (by decide) rfl rfl (fun v hv => by cases hv) fun H2 hX2 hO2 hL2 => ?_
  refine AQ_take TT_ok 1 rfl (by simp only [go_sem, g0] <;> rfl) ?_
  refine AQ_append TT_ok (v := .slice (some ⟨H1.length, 0, none⟩) 0 0) (n := 0) (m := t.length) TT_24 rfl TT_49 (by decide) (by decide) rfl (by simp only [go_sem]) (by simp only [go_sem]) (.inr ⟨_, hO2⟩) (ht.keep hX2) rfl (rows_length Nd.len t) (by simp; omega) (fun j hj => .inl (by have e : H1.length = j := Option.some.inj hj; omega)) (.inl rfl) fun vi H3 hX3 hB3 hv3 => ?_
  have hi3 := (NdB.copy hB3).sl
  have s3 : AExt (fun _ => False) H1 H3 := hX2.weakF hX3 (fun j hj h => by have e : H1.length = j := Option.some.inj h; omega)
  have ht3 := ht.keep s3
  refine AQ_all TT_ok rfl (by simp only [go_sem] <;> rfl) ?_
  refine AC_fixe (fun e' => get e' 0 = vt ∧ get e' 1 = S key ∧ get e' 5 = vi) ⟨by simp only [go_sem, g0], by simp only [go_sem, g1], by simp only [go_sem]⟩ (fun e3 ⟨g0, g1, g5⟩ => ?_)
  have hdl := dropE_len (t := t) (key := key)
  have eo : ∃ a b c, dropE t key = (a, b, c) := ⟨_, _, _, rfl⟩
  obtain ⟨T, b, x, eo⟩ := eo
  rw [eo] at hdl
  dsimp only at hdl
  refine AC_seq ?_
  refine AC_regL ?_
  refine AQ_take TT_ok 2 rfl (by simp only [go_sem, g5, g1] <;> rfl) ?_
  refine AQ_c rfl (by simp only [go_sem] <;> rfl) fok46 (by simp only [List.map_cons, List.map_nil, List.append_nil, go_sem] <;> rfl) (c46 (key := key) hi3 (by omega) htn) (fun _ _ h => h.elim) (.inl rfl) fun r H4 hX4 ⟨u, hr, hU, _⟩ => ?_
  rw [eo] at hr hU
  subst hr
  have hU : NdS H4 u T := hU.sl
  refine AQ_all TT_ok rfl (by simp only [go_sem] <;> rfl) ?_
  have hi4 := hi3.keep hX4
  have ht4 := ht3.keep hX4
  refine AC_fixe (fun e' => get e' 0 = vt ∧ get e' 1 = S key ∧ get e' 5 = vi ∧ get e' 6 = u ∧ get e' 7 = .bool b ∧ get e' 8 = .int .i64 x) ⟨by simp only [go_sem, g0], by simp only [go_sem, g1], by simp only [go_sem, g5], by simp only [go_sem], by simp only [go_sem], by simp only [go_sem]⟩ (fun e4 ⟨g0, g1, g5, g6, g7, g8⟩ => ?_)
  refine AC_seq ?_
  refine AC_regL ?_
  refine AQ_take TT_ok 2 rfl (by simp only [go_sem, g0, g1] <;> rfl) ?_
  refine AQ_c rfl (by simp only [go_sem] <;> rfl) fok47 (by simp only [List.map_cons, List.map_nil, List.append_nil, go_sem] <;> rfl) (c47 (key := key) ht4 (by omega) htn) (fun _ _ h => h.elim) (.inl rfl) fun r H5 hX5 ⟨w, hr, hW, _⟩ => ?_
  rw [eo] at hr hW
  subst hr
  have hW5 : NdS H5 w T := hW.sl
  refine AQ_var TT_ok TT_68 rfl (by decide) (by simp only [go_sem] <;> rfl) (Lay.three hW5.one (One.bool _) (One.int _ _)) rfl (.inl (by have := s3.size; have := hX4.size; have := hX5.size; omega)) (.inl rfl) fun H6 hX6 hO6 hL6 => ?_
  refine AQ_nil ?_
  have x6 := hX5.trans hX6
  have hi6 := hi4.keep x6
  have ht6 := ht4.keep x6
  have hU6 := hU.keep x6
  have hW6 := hW5.keep hX6
  refine AC_fixe (fun e' => get e' 0 = vt ∧ get e' 5 = vi ∧ get e' 6 = u ∧ get e' 7 = .bool b ∧ get e' 8 = .int .i64 x ∧ get e' 9 = .pointer (some ⟨H5.length, 0, none⟩)) ⟨by simp only [go_sem, g0], by simp only [go_sem, g5], by simp only [go_sem, g6], by simp only [go_sem, g7], by simp only [go_sem, g8], by simp only [go_sem]⟩ (fun e6 ⟨g0, g5, g6, g7, g8, g9⟩ => ?_)
  have f0 : afield TT 68 (.pointer (some ⟨H5.length, 0, none⟩)) 0 = some (.pointer (some ⟨H5.length, 0, none⟩)) := rfl
  have f1 : afield TT 68 (.pointer (some ⟨H5.length, 0, none⟩)) 1 = some (.pointer (some ⟨H5.length, 1, none⟩)) := rfl
  have f2 : afield TT 68 (.pointer (some ⟨H5.length, 0, none⟩)) 2 = some (.pointer (some ⟨H5.length, 2, none⟩)) := rfl
  have p0 : apart TT 24 [w, .bool b, .int .i64 x] 0 = some w := by
    rcases hW5 with ⟨rfl, _, _⟩ | ⟨i, o, ob, h⟩
    · rfl
    · rw [h.val]; rfl
  have p1 : apart TT 4 [w, .bool b, .int .i64 x] 1 = some (.bool b) := rfl
  have p2 : apart TT 3 [w, .bool b, .int .i64 x] 2 = some (.int .i64 x) := rfl
  have d1 : decide (T = T) = true := decide_eq_true rfl
  have d2 : decide (x = x) = true := decide_eq_true rfl
  have d3 : decide (b = b) = true := decide_eq_true rfl
  have d4 : decide (t = t) = true := decide_eq_true rfl
  refine AC_seq ?_
  refine AC_regL ?_
  refine AQ_take TT_ok 3 rfl (by simp only [go_sem, g6, g9, f0, hO6.load, p0] <;> rfl) ?_
  refine AQ_c rfl (by simp only [go_sem] <;> rfl) fok34 (by simp only [List.map_cons, List.map_nil, List.append_nil, go_sem] <;> rfl) (c34 hU6 hW6 (by omega)) (fun _ _ h => h.elim) (.inl rfl) fun r Ha hXa ⟨hr, hH⟩ => ?_
  have hH' := hH.symm
  subst hr hH'
  refine AQ_take TT_ok 15 rfl (by simp only [go_sem, g0, g5, g7, g8, g9, f1, f2, hO6.load, p1, p2, d1, d2, d3] <;> rfl) ?_
  simp only [List.drop_succ_cons, List.drop_zero]
  refine AQ_c rfl (by simp only [go_sem] <;> rfl) fok34 (by simp only [List.map_cons, List.map_nil, List.append_nil, go_sem] <;> rfl) (c34 hi6 ht6 (by omega)) (fun _ _ h => h.elim) (.inl rfl) fun r Hb hXb ⟨hr, hH⟩ => ?_
  have hH' := hH.symm
  subst hr hH'
  refine AQ_take TT_ok 2 rfl (by simp only [go_sem, d4] <;> rfl) ?_
  refine AQ_c rfl (by simp only [go_sem] <;> rfl) fok45 (by simp only [List.map_cons, List.map_nil, List.append_nil, go_sem] <;> rfl) (c45) (fun _ _ h => h.elim) (.inl rfl) fun r Hc hXc hr => ?_
  subst hr
  refine AQ_all TT_ok rfl (by simp only [go_sem] <;> rfl) ?_
  exact AC_ret ⟨.inl rfl, _, rfl, by simp only [go_sem]⟩
end Go.Proofs.Ythalogdopkoidaa.Ab
set_option linter.unusedVariables false
set_option linter.unusedSimpArgs false
namespace Go.Proofs.Ythalogdopkoidaa.Ab
open Go Go.RowKit Go.Proofs.Ythalogdopkoidaa.Dr
theorem del_lt (l : List Pr) (key : List UInt8) : decide (((del l key).length : Int) < (l.length : Int)) = l.any fun p => decide (p.key = key) := by
  induction l with
  | nil => rfl
  | cons p l ih =>
    have hl := del_len l key
    by_cases h : p.key = key
    · have e : del (p :: l) key = del l key := by unfold del; rw [List.filter_cons, decide_eq_true h]; rfl
      rw [e, List.any_cons, decide_eq_true h, Bool.true_or]
      exact decide_eq_true (by rw [List.length_cons]; omega)
    · have e : del (p :: l) key = p :: del l key := by unfold del; rw [List.filter_cons, decide_eq_false h]; rfl
      rw [e, List.any_cons, decide_eq_false h, Bool.false_or, ← ih]
      exact decide_eq_decide.2 (by rw [List.length_cons, List.length_cons]; omega)
theorem build_inj {a b : List Pr} (ha : May a) (hb : May b) (h : build a = build b) : a = b := by
  rw [← prs_build ha, h, prs_build hb]
theorem del_same {l : List Pr} (hm : May l) (key : List UInt8) : decide (build (del l key) = build l) = !(l.any fun p => decide (p.key = key)) := by
  rw [← del_lt]
  by_cases h : build (del l key) = build l
  · have e := build_inj (hm.del key) hm h
    rw [decide_eq_true h, decide_eq_false (by rw [e]; omega)]; rfl
  · rw [decide_eq_false h, decide_eq_true]
    · rfl
    · have hl := del_len l key
      rcases Nat.lt_or_ge (del l key).length l.length with h2 | h2
      · omega
      · have e : del l key = l := List.Sublist.eq_of_length_le List.filter_sublist h2
        exact absurd (by rw [e]) h
theorem dropE_nil {key : List UInt8} (hk : kb key = true) : dropE [] key = ([], false, 0) := dropE_build May.nil hk
theorem dropE_nil9 {key : List UInt8} (hk : kb key = false) : dropE [] key = ([], false, 9) := dropE_bad May.nil hk
theorem nil_nds (H : AHeap) : NdS H (.slice none 0 0) [] := .inl ⟨rfl, rfl, rfl⟩
set_option maxRecDepth 100000 in
set_option maxHeartbeats 8000000 in
theorem c14 {H : AHeap} {vl : Value} {l : List Pr} {key : List UInt8} (hl : PrS H vl l) : ACalls Try.prog 14 [vl, S key] H (fun _ => False) fun v H' => v = .bool true := by
  refine ACalls_by 120 TT_ok Try.func14 rfl rfl rfl (by simp) ?_
  refine AC_seqQ TT_ok (by simp only [go_sem] <;> rfl) ?_
  refine AC_cut (fun e' H' => H' = H ∧ szP l ≤ 3000 ∧ May l ∧ get e' 0 = vl ∧ get e' 1 = S key) ?_ (fun e1 H1 _ ⟨hH, hsP, hm, g0, g1⟩ => ?_)
  · refine AC_cut (fun e' H' => H' = H ∧ ∃ b, get e' 25 = .bool b ∧ (b = false → szP l ≤ 3000 ∧ May l) ∧ get e' 0 = vl ∧ get e' 1 = S key) ?_ (fun e1 H1 _ ⟨hH, b, hcnd, hb, g0, g1⟩ => ?_)
    · refine AC_regL ?_
      refine AQ_take TT_ok 1 rfl (by simp only [go_sem] <;> rfl) ?_
      refine AQ_c rfl (by simp only [go_sem] <;> rfl) fok26 (by simp only [List.map_cons, List.map_nil, List.append_nil, go_sem] <;> rfl) (c26 hl) (fun _ _ h => h.elim) (.inl rfl) fun r H1 hX1 ⟨hH, b, hr, hb⟩ => ?_
      subst hr hH
      cases b
      · have hs := hb rfl
        have := szP_len l
        refine AQ_take TT_ok 2 rfl (by simp only [go_sem] <;> rfl) ?_
        refine AQ_c rfl (by simp only [go_sem] <;> rfl) fok39 (by simp only [List.map_cons, List.map_nil, List.append_nil, go_sem] <;> rfl) (c39 hl (by omega)) (fun _ _ h => h.elim) (.inl rfl) fun r H1 hX1 ⟨hr, hH⟩ => ?_
        subst hr hH
        by_cases hm : May l
        · have dm : decide (May l) = true := decide_eq_true hm
          refine AQ_all TT_ok rfl (by simp only [go_sem, dm, Bool.not_true] <;> rfl) ?_
          refine ⟨rfl, decide ((100 : Int) < (key.length : Int)), by simp only [go_sem], fun h => ⟨hs, hm⟩, by simp only [go_sem], by simp only [go_sem]⟩
        · have dm : decide (May l) = false := decide_eq_false hm
          refine AQ_all TT_ok rfl (by simp only [go_sem, dm, Bool.not_false] <;> rfl) ?_
          exact ⟨rfl, true, by simp only [go_sem], fun h => (by cases h), by simp only [go_sem], by simp only [go_sem]⟩
      · refine AQ_take TT_ok 2 rfl (by simp only [go_sem] <;> rfl) ?_
        refine AQ_pass rfl ?_
        refine AQ_all TT_ok rfl (by simp only [go_sem] <;> rfl) ?_
        exact ⟨rfl, true, by simp only [go_sem], fun h => (by cases h), by simp only [go_sem], by simp only [go_sem]⟩
    subst hH
    cases b
    · exact AC_f hcnd rfl (AC_skip ⟨rfl, (hb rfl).1, (hb rfl).2, g0, g1⟩)
    · refine AC_t hcnd rfl ?_
      refine AC_seq ?_
      refine AC_regL ?_
      refine AQ_c rfl (by simp only [go_sem] <;> rfl) fok45 (by simp only [List.map_cons, List.map_nil, List.append_nil, go_sem] <;> rfl) (c45) (fun _ _ h => h.elim) (.inl rfl) fun r H1 hX1 hr => ?_
      subst hr
      refine AQ_all TT_ok rfl (by simp only [go_sem] <;> rfl) ?_
      exact AC_ret ⟨.inl rfl, _, rfl, by simp only [go_sem]⟩
  subst hH
  have hll := szP_len l
  have bl : (build l).length ≤ 17 * 3000 := by have := build_len l; omega
  have hbp := build_path hm
  have hbn : ∀ n ∈ build l, n.path.length < 2^30 := fun n hn => by have := hbp n hn; omega
  have his := isw_build hm
  have di : decide (Isw (build l)) = true := decide_eq_true his
  have hpb := prs_build hm
  refine AC_seq ?_
  refine AC_regL ?_
  refine AQ_take TT_ok 1 rfl (by simp only [go_sem, g0] <;> rfl) ?_
  refine AQ_c rfl (by simp only [go_sem] <;> rfl) fok30 (by simp only [List.map_cons, List.map_nil, List.append_nil, go_sem] <;> rfl) (c30 hl (by omega)) (fun _ _ h => h.elim) (.inl rfl) fun r H2 hX2 ⟨vt, vp, hr, hT2, _, _, _⟩ => ?_
  subst hr
  rw [if_pos hm] at hT2
  have hT2 : NdS H2 vt (build l) := hT2.sl
  have hl2 := hl.keep hX2
  refine AQ_all TT_ok rfl (by simp only [go_sem, (pick32 hT2), List.map_cons, List.map_nil] <;> rfl) ?_
  refine AC_fixe (fun e' => get e' 0 = vl ∧ get e' 1 = S key ∧ get e' 5 = vt) ⟨by simp only [go_sem, g0], by simp only [go_sem, g1], by simp only [go_sem]⟩ (fun e2 ⟨g0, g1, g5⟩ => ?_)
  have hE1 := fun h => dropE_build hm (key := key) h
  have hE2 := fun h => dropE_bad hm (key := key) h
  have hN1 := fun h => dropE_nil (key := key) h
  have hN2 := fun h => dropE_nil9 (key := key) h
  have hsm := del_same hm key
  have hlt := del_lt l key
  have bl2 : (build (del l key)).length ≤ 17 * 3000 := by have := build_len (del l key); have := del_len l key; omega
  generalize hTd : build l = T at *
  generalize hUd : build (del l key) = U at *
  have eo : ∃ a b c, dropE T key = (a, b, c) := ⟨_, _, _, rfl⟩
  obtain ⟨T2, b2, x2, eo⟩ := eo
  have en : ∃ a b c, dropE [] key = (a, b, c) := ⟨_, _, _, rfl⟩
  obtain ⟨T3, b3, x3, en⟩ := en
  refine AC_seq ?_
  refine AC_regL ?_
  refine AQ_take TT_ok 2 rfl (by simp only [go_sem, g5, g1] <;> rfl) ?_
  refine AQ_c rfl (by simp only [go_sem] <;> rfl) fok46 (by simp only [List.map_cons, List.map_nil, List.append_nil, go_sem] <;> rfl) (c46 (key := key) hT2 (by omega) hbn) (fun _ _ h => h.elim) (.inl rfl) fun r H3 hX3 ⟨u, hr, hU, _⟩ => ?_
  rw [eo] at hr hU
  subst hr
  have hU : NdS H3 u T2 := hU.sl
  refine AQ_all TT_ok rfl (by simp only [go_sem] <;> rfl) ?_
  have hT3 := hT2.keep hX3
  have hl3 := hl2.keep hX3
  refine AC_fixe (fun e' => get e' 0 = vl ∧ get e' 1 = S key ∧ get e' 5 = vt ∧ get e' 6 = u ∧ get e' 7 = .bool b2 ∧ get e' 8 = .int .i64 x2) ⟨by simp only [go_sem, g0], by simp only [go_sem, g1], by simp only [go_sem, g5], by simp only [go_sem], by simp only [go_sem], by simp only [go_sem]⟩ (fun e3 ⟨g0, g1, g5, g6, g7, g8⟩ => ?_)
  refine AC_seq ?_
  refine AC_regL ?_
  refine AQ_take TT_ok 1 rfl (by simp only [go_sem, g1] <;> rfl) ?_
  refine AQ_c rfl (by simp only [go_sem] <;> rfl) fok46 (by simp only [List.map_cons, List.map_nil, List.append_nil, go_sem] <;> rfl) (c46 (key := key) (nil_nds H3) (by decide) (by simp)) (fun _ _ h => h.elim) (.inl rfl) fun r H4 hX4 ⟨w, hr, hW, _⟩ => ?_
  rw [en] at hr hW
  subst hr
  have hW4 : NdS H4 w T3 := hW.sl
  refine AQ_all TT_ok rfl (by simp only [go_sem] <;> rfl) ?_
  have hT4 := hT3.keep hX4
  have hl4 := hl3.keep hX4
  have hU4 := hU.keep hX4
  refine AC_fixe (fun e' => get e' 0 = vl ∧ get e' 1 = S key ∧ get e' 5 = vt ∧ get e' 6 = u ∧ get e' 7 = .bool b2 ∧ get e' 8 = .int .i64 x2 ∧ get e' 9 = w ∧ get e' 10 = .bool b3 ∧ get e' 11 = .int .i64 x3) ⟨by simp only [go_sem, g0], by simp only [go_sem, g1], by simp only [go_sem, g5], by simp only [go_sem, g6], by simp only [go_sem, g7], by simp only [go_sem, g8], by simp only [go_sem], by simp only [go_sem], by simp only [go_sem]⟩ (fun e4 ⟨g0, g1, g5, g6, g7, g8, g9, g10, g11⟩ => ?_)
  refine AC_seq ?_
  refine AC_seq ?_
  refine AC_regL ?_
  refine AQ_take TT_ok 1 rfl (by simp only [go_sem, g1] <;> rfl) ?_
  refine AQ_c rfl (by simp only [go_sem] <;> rfl) fok48 (by simp only [List.map_cons, List.map_nil, List.append_nil, go_sem] <;> rfl) (c48 (k := key)) (fun _ _ h => h.elim) (.inl rfl) fun r H5 hX5 ⟨hr, hH⟩ => ?_
  have hH' := hH.symm
  subst hr hH'
  cases hkb : kb key
  · rw [hE2 hkb] at eo
    rw [hN2 hkb] at en
    obtain ⟨rfl, eo2⟩ := Prod.mk.inj eo
    obtain ⟨rfl, rfl⟩ := Prod.mk.inj eo2
    obtain ⟨rfl, en2⟩ := Prod.mk.inj en
    obtain ⟨rfl, rfl⟩ := Prod.mk.inj en2
    have e9 : decide ((9 : Int) = 9) = true := rfl
    have d0 : decide ((([] : List Nd).length : Int) = 0) = true := rfl
    refine AQ_all TT_ok rfl (by simp only [go_sem, Bool.not_false] <;> rfl) ?_
    refine AC_t (by simp only [go_sem] <;> rfl) (rfl) ?_
    refine AC_seq ?_
    refine AC_regL ?_
    refine AQ_take TT_ok 13 rfl (by simp only [go_sem, g7, g8, g10, g11, e9, Bool.not_false] <;> rfl) ?_
    simp only [List.drop_succ_cons, List.drop_zero]
    refine AQ_take TT_ok 12 rfl (by simp only [go_sem, g6, g9, hU4.alen, (NdS.alen hW4), d0] <;> rfl) ?_
    simp only [List.drop_succ_cons, List.drop_zero]
    refine AQ_c rfl (by simp only [go_sem] <;> rfl) fok45 (by simp only [List.map_cons, List.map_nil, List.append_nil, go_sem] <;> rfl) (c45) (fun _ _ h => h.elim) (.inl rfl) fun r Hc hXc hr => ?_
    subst hr
    refine AQ_all TT_ok rfl (by simp only [go_sem] <;> rfl) ?_
    exact AC_ret ⟨.inl rfl, _, rfl, by simp only [go_sem]⟩
  rw [hE1 hkb, hlt] at eo
  rw [hN1 hkb] at en
  obtain ⟨rfl, eo2⟩ := Prod.mk.inj eo
  obtain ⟨rfl, rfl⟩ := Prod.mk.inj eo2
  obtain ⟨rfl, en2⟩ := Prod.mk.inj en
  obtain ⟨rfl, rfl⟩ := Prod.mk.inj en2
  refine AQ_all TT_ok rfl (by simp only [go_sem, Bool.not_true] <;> rfl) ?_
  refine AC_f (by simp only [go_sem] <;> rfl) (rfl) ?_
  refine AC_skip ?_
  refine AC_seqQ TT_ok (by simp only [go_sem] <;> rfl) ?_
  refine AC_fixe (fun e' => get e' 0 = vl ∧ get e' 1 = S key ∧ get e' 5 = vt ∧ get e' 6 = u ∧ get e' 7 = .bool (l.any fun p => decide (p.key = key)) ∧ get e' 8 = .int .i64 0 ∧ get e' 9 = w ∧ get e' 10 = .bool false ∧ get e' 11 = .int .i64 0 ∧ get e' 12 = .bool false) ⟨by simp only [go_sem, g0], by simp only [go_sem, g1], by simp only [go_sem, g5], by simp only [go_sem, g6], by simp only [go_sem, g7], by simp only [go_sem, g8], by simp only [go_sem, g9], by simp only [go_sem, g10], by simp only [go_sem, g11], by simp only [go_sem]⟩ (fun e5 ⟨g0, g1, g5, g6, g7, g8, g9, g10, g11, g12⟩ => ?_)
  refine AC_cut (fun e' H' => H' = H4 ∧ get e' 12 = .bool (l.any fun p => decide (p.key = key)) ∧ get e' 0 = vl ∧ get e' 1 = S key ∧ get e' 5 = vt ∧ get e' 6 = u ∧ get e' 7 = .bool (l.any fun p => decide (p.key = key)) ∧ get e' 8 = .int .i64 0 ∧ get e' 9 = w ∧ get e' 10 = .bool false ∧ get e' 11 = .int .i64 0) ?_ (fun e6 H5 _ ⟨hH, g12, g0, g1, g5, g6, g7, g8, g9, g10, g11⟩ => ?_)
  · refine AC_seqQ TT_ok (by simp only [go_sem] <;> rfl) ?_
    refine AC_block (AC_loop (fun m e' H' => ∃ i : Nat, m = l.length - i ∧ i ≤ l.length ∧ H4 = H' ∧ get e' 12 = .bool ((l.take i).any fun p => decide (p.key = key)) ∧ get e' 13 = .int .i64 (i : Nat) ∧ get e' 0 = vl ∧ get e' 1 = S key ∧ get e' 5 = vt ∧ get e' 6 = u ∧ get e' 7 = .bool (l.any fun p => decide (p.key = key)) ∧ get e' 8 = .int .i64 0 ∧ get e' 9 = w ∧ get e' 10 = .bool false ∧ get e' 11 = .int .i64 0) l.length ⟨0, by simp, by simp, rfl, by simp only [go_sem, g12] <;> rfl, by simp only [go_sem] <;> simp, by simp only [go_sem, g0], by simp only [go_sem, g1], by simp only [go_sem, g5], by simp only [go_sem, g6], by simp only [go_sem, g7], by simp only [go_sem, g8], by simp only [go_sem, g9], by simp only [go_sem, g10], by simp only [go_sem, g11]⟩ ?_)
    rintro m e6 H5 _ ⟨i, hmi, hi, rfl, g12, g13, g0, g1, g5, g6, g7, g8, g9, g10, g11⟩
    have k5 := wrapN i (by omega)
    refine AC_seq ?_
    refine AC_seqQ TT_ok (by simp only [go_sem, g0, g13, hl4.alen] <;> rfl) ?_
    by_cases hi' : i < l.length
    · refine AC_t (by simp only [go_sem] <;> rfl) (lt_dec hi') ?_
      refine AC_skip ?_
      have a1 := hl4.index (k := .i64) (j := (i : Int)) (by omega) (by omega)
      rw [Int.toNat_natCast] at a1
      have a2 := hl4.f0 hi'
      have a3 := hl4.key hi'
      have hany : ((l.take (i + 1)).any fun p => decide (p.key = key)) = (((l.take i).any fun p => decide (p.key = key)) || decide (l[i].key = key)) := by
        rw [List.take_succ_eq_append_getElem hi', List.any_append]
        simp
      refine AC_seq (AC_block ?_)
      cases hb : ((l.take i).any fun p => decide (p.key = key))
      · rw [hb] at g12 hany
        refine AC_quiet TT_ok (by simp only [go_sem, g0, g1, g12, g13, a1, a2, a3] <;> rfl) ?_
        refine AC_quiet TT_ok (by simp only [go_sem, g13, k5] <;> rfl) ?_
        refine ⟨l.length - (i + 1), by omega, i + 1, rfl, by omega, rfl, ?_, by simp only [go_sem], by simp only [go_sem, g0], by simp only [go_sem, g1], by simp only [go_sem, g5], by simp only [go_sem, g6], by simp only [go_sem, g7], by simp only [go_sem, g8], by simp only [go_sem, g9], by simp only [go_sem, g10], by simp only [go_sem, g11]⟩
        rw [hany]; simp only [go_sem, Bool.false_or]
      · rw [hb] at g12 hany
        refine AC_quiet TT_ok (by simp only [go_sem, g0, g1, g12, g13, a1, a2, a3] <;> rfl) ?_
        refine AC_quiet TT_ok (by simp only [go_sem, g13, k5] <;> rfl) ?_
        refine ⟨l.length - (i + 1), by omega, i + 1, rfl, by omega, rfl, ?_, by simp only [go_sem], by simp only [go_sem, g0], by simp only [go_sem, g1], by simp only [go_sem, g5], by simp only [go_sem, g6], by simp only [go_sem, g7], by simp only [go_sem, g8], by simp only [go_sem, g9], by simp only [go_sem, g10], by simp only [go_sem, g11]⟩
        rw [hany]; simp only [go_sem, Bool.true_or]
    · refine AC_f (by simp only [go_sem] <;> rfl) (ge_dec (by omega)) ?_
      rw [List.take_of_length_le (l := l) (i := i) (by omega)] at g12
      exact AC_exit ⟨rfl, g12, g0, g1, g5, g6, g7, g8, g9, g10, g11⟩
  have hH' := hH.symm
  subst hH'
  generalize (l.any fun p => decide (p.key = key)) = b at *
  have e0 : decide ((0 : Int) = 0) = true := rfl
  have d0 : decide ((([] : List Nd).length : Int) = 0) = true := rfl
  have db : decide (b = b) = true := decide_eq_true rfl
  have dn : decide ((!b) = !b) = true := decide_eq_true rfl
  refine AC_seq ?_
  refine AC_regL ?_
  refine AQ_take TT_ok 12 rfl (by simp only [go_sem, g7, g8, g11, g12, e0, db] <;> rfl) ?_
  simp only [List.drop_succ_cons, List.drop_zero]
  refine AQ_take TT_ok 11 rfl (by simp only [go_sem, g5, g6, g9, g10, (NdS.alen hW4), d0, Bool.not_false] <;> rfl) ?_
  simp only [List.drop_succ_cons, List.drop_zero]
  refine AQ_c rfl (by simp only [go_sem] <;> rfl) fok34 (by simp only [List.map_cons, List.map_nil, List.append_nil, go_sem] <;> rfl) (c34 hU4 hT4 (by omega)) (fun _ _ h => h.elim) (.inl rfl) fun r Ha hXa ⟨hr, hH⟩ => ?_
  rw [hsm] at hr
  have hH' := hH.symm
  subst hr hH'
  refine AQ_take TT_ok 5 rfl (by simp only [go_sem, g12, dn] <;> rfl) ?_
  refine AQ_c rfl (by simp only [go_sem] <;> rfl) fok45 (by simp only [List.map_cons, List.map_nil, List.append_nil, go_sem] <;> rfl) (c45) (fun _ _ h => h.elim) (.inl rfl) fun r Hc hXc hr => ?_
  subst hr
  refine AQ_all TT_ok rfl (by simp only [go_sem] <;> rfl) ?_
  exact AC_ret ⟨.inl rfl, _, rfl, by simp only [go_sem]⟩
end Go.Proofs.Ythalogdopkoidaa.Ab
set_option linter.unusedVariables false
set_option linter.unusedSimpArgs false
namespace Go.Proofs.Ythalogdopkoidaa.Ab
open Go Go.RowKit Go.Proofs.Ythalogdopkoidaa.Dr
theorem del_at {l : List Pr} (hm : May l) {i : Nat} (hi : i < l.length) : del l l[i].key = l.take i ++ l.drop (i + 1) := by
  have h1 : ∀ p ∈ l.take i, p.key ≠ l[i].key := fun p hp e => by
    obtain ⟨j, hj, rfl⟩ := List.getElem_of_mem hp
    rw [List.length_take] at hj
    rw [List.getElem_take] at e
    have := hm.at (i := j) (j := i) (by omega) hi
    rw [e] at this
    exact List.lt_irrefl _ this
  have h2 : ∀ p ∈ l.drop (i + 1), p.key ≠ l[i].key := fun p hp e => by
    obtain ⟨j, hj, rfl⟩ := List.getElem_of_mem hp
    rw [List.length_drop] at hj
    rw [List.getElem_drop] at e
    have := hm.at (i := i) (j := i + 1 + j) (by omega) (by omega)
    rw [e] at this
    exact List.lt_irrefl _ this
  have e : l = l.take (i + 1) ++ l.drop (i + 1) := (List.take_append_drop _ _).symm
  have e2 : del l l[i].key = del (l.take (i + 1)) l[i].key ++ del (l.drop (i + 1)) l[i].key := by rw [← del_app, ← e]
  rw [e2, del_step hi, if_pos rfl, List.append_nil, del_id h1, del_id h2]
theorem May.kb_at {l : List Pr} (hm : May l) {i : Nat} (hi : i < l.length) : Ab.kb l[i].key = true := hm.kb (List.getElem_mem hi)
section
variable {N : Nat} {ok Msk : Nat → Prop} {ops : List Oper} {late : List Nat} {σ : List (Nat × Bool)} {K : Env → AHeap → Prop} {Hs : AHeap} {e : Env} {H : AHeap} {i0 : Nat}
  {dst : Option Nat} {ty : TypeId} {pos : String} {af : Array Edge} {gd : Option (Nat × Bool)}
/-- An append, late. -/
theorem AG_appendL {P : Program} (hT : TOK P TT) {t ety : Nat} {ti ei : TI} {s x : Operand} {v u : Value} {n m : Nat} {cs cx : List Value} (ho : ops[i0]? = some ⟨dst, .call { callee := .builtin .append, args := #[s, x], argTypes := #[t, t] }, ty, pos, af, gd⟩)
    (ht : TT t = some ti) (hd : ti.d = .slice ety) (hei : TT ety = some ei) (h0 : ei.size ≠ 0) (hb0 : ei.bytes ≠ 0)
    (hw : awant ops e ⟨dst, .call { callee := .builtin .append, args := #[s, x], argTypes := #[t, t] }, ty, pos, af, gd⟩ = some true) (hs : aev e s = v) (hx : aev e x = u) (hv : Buf H v ety n cs) (hu : Sl H u ety m cx) (hn : cs.length = n * ei.size) (hm : cx.length = m * ei.size)
    (hsz : (n + m) * ei.bytes ≤ 140737488355328) (hok : ∀ i, vid v = some i → ok i) (hl : late.contains i0 = true)
    (hk : ∀ v' H', AExt (fun i => vid v = some i) H H' → Buf H' v' ety (n + m) (cs ++ cx) → (∀ i, vid v' = some i → H.length ≤ i ∨ (cx = [] ∧ v' = v)) → AG P N ok Msk ops late σ K [] (eput N e dst v') H') : AG P N ok Msk ops late ((i0, false) :: σ) K Hs e H := by
  obtain ⟨r, g1, g2, g3, g4, g5⟩ := app_eff ht hd hei h0 hb0 hs hx hv hu hn hm hsz
  exact AG_e hT ho hw g1 (fun j hj => hok j (g2 j hj)) [] (.inr ⟨rfl, hl⟩) (hk _ _ g3 g4 g5)
end
theorem ByS.loadB {H : AHeap} {u : Value} {ts : List UInt8} (h : ByS H u ts) {i : Nat} (hi : i < ts.length) : aindex TT 50 u (.int .i64 (i : Int)) = some (ep u (i * 1 + 0)) ∧ aload TT H 5 (ep u (i * 1 + 0)) = some (U ts[i]) := ⟨h.index hi, h.load hi⟩
set_option maxRecDepth 100000 in
set_option maxHeartbeats 8000000 in
theorem c13 {H : AHeap} {vl vu : Value} {l : List Pr} {ts : List UInt8} (hl : PrS H vl l) (hu : ByS H vu ts) : ACalls Try.prog 13 [vl, vu] H (fun _ => False) fun v H' => v = .bool true := by
  refine ACalls_by 95 TT_ok Try.func13 rfl rfl rfl (by simp) ?_
  refine AC_seqQ TT_ok (by simp only [go_sem] <;> rfl) ?_
  refine AC_cut (fun e' H' => H' = H ∧ l.length ≤ 20 ∧ May l ∧ get e' 0 = vl ∧ get e' 1 = vu) ?_ (fun e1 H1 _ ⟨hH, hl20, hm, g0, g1⟩ => ?_)
  · refine AC_cut (fun e' H' => H' = H ∧ ∃ b, get e' 28 = .bool b ∧ (b = false → l.length ≤ 20 ∧ May l) ∧ get e' 0 = vl ∧ get e' 1 = vu) ?_ (fun e1 H1 _ ⟨hH, b, hcnd, hb, g0, g1⟩ => ?_)
    · refine AC_regL ?_
      refine AQ_take TT_ok 1 rfl (by simp only [go_sem] <;> rfl) ?_
      refine AQ_c rfl (by simp only [go_sem] <;> rfl) fok26 (by simp only [List.map_cons, List.map_nil, List.append_nil, go_sem] <;> rfl) (c26 hl) (fun _ _ h => h.elim) (.inl rfl) fun r H1 hX1 ⟨hH, b, hr, hb⟩ => ?_
      subst hr hH
      cases b
      · have hs := hb rfl
        have := szP_len l
        refine AQ_take TT_ok 2 rfl (by simp only [go_sem] <;> rfl) ?_
        refine AQ_c rfl (by simp only [go_sem] <;> rfl) fok39 (by simp only [List.map_cons, List.map_nil, List.append_nil, go_sem] <;> rfl) (c39 hl (by omega)) (fun _ _ h => h.elim) (.inl rfl) fun r H1 hX1 ⟨hr, hH⟩ => ?_
        subst hr hH
        by_cases hm : May l
        · have dm : decide (May l) = true := decide_eq_true hm
          by_cases h20 : l.length ≤ 20
          · have d20 : decide ((20 : Int) < (l.length : Int)) = false := decide_eq_false (by omega)
            refine AQ_all TT_ok rfl (by simp only [go_sem, dm, hl.alen, hu.alen, d20, Bool.not_true] <;> rfl) ?_
            refine ⟨rfl, decide ((60 : Int) < (ts.length : Int)), by simp only [go_sem], fun h => ⟨h20, hm⟩, by simp only [go_sem], by simp only [go_sem]⟩
          · have d20 : decide ((20 : Int) < (l.length : Int)) = true := decide_eq_true (by omega)
            refine AQ_all TT_ok rfl (by simp only [go_sem, dm, hl.alen, hu.alen, d20, Bool.not_true] <;> rfl) ?_
            exact ⟨rfl, true, by simp only [go_sem], fun h => (by cases h), by simp only [go_sem], by simp only [go_sem]⟩
        · have dm : decide (May l) = false := decide_eq_false hm
          refine AQ_all TT_ok rfl (by simp only [go_sem, dm, Bool.not_false] <;> rfl) ?_
          exact ⟨rfl, true, by simp only [go_sem], fun h => (by cases h), by simp only [go_sem], by simp only [go_sem]⟩
      · refine AQ_take TT_ok 2 rfl (by simp only [go_sem] <;> rfl) ?_
        refine AQ_pass rfl ?_
        refine AQ_all TT_ok rfl (by simp only [go_sem] <;> rfl) ?_
        exact ⟨rfl, true, by simp only [go_sem], fun h => (by cases h), by simp only [go_sem], by simp only [go_sem]⟩
    subst hH
    cases b
    · exact AC_f hcnd rfl (AC_skip ⟨rfl, (hb rfl).1, (hb rfl).2, g0, g1⟩)
    · refine AC_t hcnd rfl ?_
      refine AC_seq ?_
      refine AC_regL ?_
      refine AQ_c rfl (by simp only [go_sem] <;> rfl) fok45 (by simp only [List.map_cons, List.map_nil, List.append_nil, go_sem] <;> rfl) (c45) (fun _ _ h => h.elim) (.inl rfl) fun r H1 hX1 hr => ?_
      subst hr
      refine AQ_all TT_ok rfl (by simp only [go_sem] <;> rfl) ?_
      exact AC_ret ⟨.inl rfl, _, rfl, by simp only [go_sem]⟩
  subst hH
  refine AC_seq ?_
  refine AC_regL ?_
  refine AQ_take TT_ok 1 rfl (by simp only [go_sem, g0] <;> rfl) ?_
  refine AQ_c rfl (by simp only [go_sem] <;> rfl) fok30 (by simp only [List.map_cons, List.map_nil, List.append_nil, go_sem] <;> rfl) (c30 hl (by omega)) (fun _ _ h => h.elim) (.inl rfl) fun r H2 hX2 ⟨vt, vp, hr, hT2, _, _, _⟩ => ?_
  subst hr
  rw [if_pos hm] at hT2
  have hT2 : NdS H2 vt (build l) := hT2.sl
  have hl2 := hl.keep hX2
  have hu2 := hu.keep hX2
  refine AQ_all TT_ok rfl (by simp only [go_sem, (pick32 hT2), List.map_cons, List.map_nil] <;> rfl) ?_
  refine AC_fixe (fun e' => get e' 0 = vl ∧ get e' 1 = vu ∧ get e' 5 = vt) ⟨by simp only [go_sem, g0], by simp only [go_sem, g1], by simp only [go_sem]⟩ (fun e2 ⟨g0, g1, g5⟩ => ?_)
  refine AC_seq ?_
  refine AC_regL ?_
  refine AQ_lit TT_ok [] TT_22 rfl TT_52 rfl (by decide) rfl (by decide) rfl rfl (fun v hv => by cases hv) fun H3 hX3 hO3 hL3 => ?_
  refine AQ_take TT_ok 1 rfl (by simp only [go_sem, g0] <;> rfl) ?_
  refine AQ_append TT_ok (v := .slice (some ⟨H2.length, 0, none⟩) 0 0) (n := 0) (m := l.length) TT_22 rfl TT_52 (by decide) (by decide) rfl (by simp only [go_sem]) (by simp only [go_sem]) (.inr ⟨_, hO3⟩) (hl2.keep hX3) rfl (rows_length Pr.len l) (by simp; omega) (fun j hj => .inl (by have e : H2.length = j := Option.some.inj hj; have := hX2.size; omega)) (.inl rfl) fun vf H4 hX4 hB4 hv4 => ?_
  have hF4 : PrB H4 vf l := PrB.copy hB4
  have s4 : AExt (fun _ => False) H2 H4 := hX3.weakF hX4 (fun j hj h => by have e : H2.length = j := Option.some.inj h; omega)
  have hT4 := hT2.keep s4
  have hu4 := hu2.keep s4
  refine AQ_all TT_ok rfl (by simp only [go_sem] <;> rfl) ?_
  refine AC_fixe (fun e' => get e' 1 = vu ∧ get e' 5 = vt ∧ get e' 6 = vf) ⟨by simp only [go_sem, g1], by simp only [go_sem, g5], by simp only [go_sem]⟩ (fun e4 ⟨g1, g5, g6⟩ => ?_)
  have hF4' : PrS H4 vf l := hF4.sl
  have z1 := hX2.size
  have z4 := s4.size
  refine AC_cut (fun e' H' => ∃ vt, NdS H' vt [] ∧ get e' 5 = vt) ?_ (fun e5 H5 _ ⟨vt, hT, g5⟩ => ?_)
  · refine AC_seqQ TT_ok (by simp only [go_sem] <;> rfl) ?_
    refine AC_block (AC_loop (fun m e' H' => ∃ (i : Nat) (lf : List Pr) (vt vf : Value), m = lf.length ∧ May lf ∧ i + lf.length ≤ 20 ∧ NdS H' vt (build lf) ∧ PrS H' vf lf ∧ ByS H' vu ts ∧ AExt (fun j => H4.length ≤ j) H4 H' ∧ get e' 1 = vu ∧ get e' 5 = vt ∧ get e' 6 = vf ∧ get e' 7 = .int .i64 (i : Nat)) l.length ⟨0, l, vt, vf, rfl, hm, by omega, hT4, hF4', hu4, AExt.refl _ _, by simp only [go_sem, g1], by simp only [go_sem, g5], by simp only [go_sem, g6], by simp only [go_sem] <;> simp⟩ ?_)
    rintro m e5 H5 _ ⟨i, lf, vt, vf, hmi, hmf, hil, hT, hF, hU, hX5, g1, g5, g6, g7⟩
    have k5 := wrapN i (by omega)
    have z5 := hX5.size
    refine AC_seq ?_
    refine AC_seqQ TT_ok (by simp only [go_sem, g6, hF.alen] <;> rfl) ?_
    by_cases hlf : 0 < lf.length
    rotate_left
    · have d0 : decide ((0 : Int) < (lf.length : Int)) = false := decide_eq_false (by omega)
      have hl0 : lf = [] := List.eq_nil_of_length_eq_zero (by omega)
      subst hl0
      refine AC_f (by simp only [go_sem] <;> rfl) (d0) ?_
      exact AC_exit ⟨vt, hT, by simp only [go_sem, g5]⟩
    have d0 : decide ((0 : Int) < (lf.length : Int)) = true := decide_eq_true (by omega)
    refine AC_t (by simp only [go_sem] <;> rfl) (d0) ?_
    refine AC_skip ?_
    refine AC_seq (AC_block ?_)
    refine AC_seqQ TT_ok (by simp only [go_sem] <;> rfl) ?_
    refine AC_cut (fun e' H' => H' = H5 ∧ ∃ k : Nat, k < lf.length ∧ get e' 8 = .int .i64 (k : Nat) ∧ get e' 1 = vu ∧ get e' 5 = vt ∧ get e' 6 = vf ∧ get e' 7 = .int .i64 (i : Nat)) ?_ (fun e6 H6 _ ⟨hH, k, hk, g8, g1, g5, g6, g7⟩ => ?_)
    · by_cases hit : i < ts.length
      · have di : decide ((i : Int) < (ts.length : Int)) = true := decide_eq_true (by omega)
        obtain ⟨b1, b2⟩ := hU.loadB hit
        have hrm : abinInt .rem .i64 ((ts[i].toNat : Nat) : Int) .i64 (lf.length : Int) = some (.int .i64 ((ts[i].toNat % lf.length : Nat) : Int)) := by
          rw [ai_rem _ _ _ (by omega), Int.tmod_eq_emod_of_nonneg (by omega)]; rfl
        refine AC_seqQ TT_ok (by simp only [go_sem, g1, g7, hU.alen, di] <;> rfl) ?_
        refine AC_t (by simp only [go_sem] <;> rfl) (rfl) ?_
        refine AC_quiet TT_ok (by simp only [go_sem, g1, g6, g7, b1, b2, u8_int, hF.alen, hrm] <;> rfl) ?_
        exact ⟨rfl, ts[i].toNat % lf.length, Nat.mod_lt _ hlf, by simp only [go_sem], by simp only [go_sem, g1], by simp only [go_sem, g5], by simp only [go_sem, g6], by simp only [go_sem, g7]⟩
      · have di : decide ((i : Int) < (ts.length : Int)) = false := decide_eq_false (by omega)
        refine AC_seqQ TT_ok (by simp only [go_sem, g1, g7, hU.alen, di] <;> rfl) ?_
        refine AC_f (by simp only [go_sem] <;> rfl) (rfl) ?_
        exact AC_skip ⟨rfl, 0, hlf, by simp only [go_sem] <;> simp, by simp only [go_sem, g1], by simp only [go_sem, g5], by simp only [go_sem, g6], by simp only [go_sem, g7]⟩
    subst hH
    have a1 := hF.index (k := .i64) (j := (k : Int)) (by omega) (by omega)
    rw [Int.toNat_natCast] at a1
    have a2 := hF.f0 hk
    have a3 := hF.key hk
    have hE := dropE_build hmf (hmf.kb_at hk)
    have hlt := del_lt lf lf[k].key
    have hin : (lf.any fun p => decide (p.key = lf[k].key)) = true := List.any_eq_true.2 ⟨lf[k], List.getElem_mem hk, decide_eq_true rfl⟩
    rw [hlt, hin, del_at hmf hk] at hE
    have hm2 := hmf.del lf[k].key
    rw [del_at hmf hk] at hm2
    have hbl := build_len lf
    have hbp := build_path hmf
    have hll : (lf.take k ++ lf.drop (k + 1)).length = lf.length - 1 := by rw [List.length_append, List.length_take, List.length_drop]; omega
    have hbl2 := build_len (lf.take k ++ lf.drop (k + 1))
    refine AC_seq ?_
    refine AC_regL ?_
    refine AQ_take TT_ok 6 rfl (by simp only [go_sem, g5, g6, g8, a1, a2, a3] <;> rfl) ?_
    refine AQ_c rfl (by simp only [go_sem] <;> rfl) fok46 (by simp only [List.map_cons, List.map_nil, List.append_nil, go_sem] <;> rfl) (c46 (key := lf[k].key) hT (by omega) (fun n hn => by have := hbp n hn; omega)) (fun _ _ h => h.elim) (.inl rfl) fun r H7 hX7 ⟨u, hr, hW, hun⟩ => ?_
    rw [hE] at hr hW
    subst hr
    have hW : NdS H7 u (build (lf.take k ++ lf.drop (k + 1))) := hW.sl
    refine AQ_all TT_ok rfl (by simp only [go_sem] <;> rfl) ?_
    have hF7 := hF.keep hX7
    have hU7 := hU.keep hX7
    have z7 := hX7.size
    refine AC_fixe (fun e' => get e' 1 = vu ∧ get e' 6 = vf ∧ get e' 7 = .int .i64 (i : Nat) ∧ get e' 8 = .int .i64 (k : Nat) ∧ get e' 9 = u ∧ get e' 10 = .bool true ∧ get e' 11 = .int .i64 0) ⟨by simp only [go_sem, g1], by simp only [go_sem, g6], by simp only [go_sem, g7], by simp only [go_sem, g8], by simp only [go_sem], by simp only [go_sem], by simp only [go_sem]⟩ (fun e7 ⟨g1, g6, g7, g8, g9, g10, g11⟩ => ?_)
    have k8 := wrapN k (by omega)
    obtain ⟨v1, _, _, p1, hS1, hd1⟩ := Sl.part Pr.len hF7 TT_22 rfl TT_52 rfl (by decide) (lo := 0) (hi := k) (by omega) (by omega)
    obtain ⟨v2, _, p2, _, hS2, hd2⟩ := Sl.part Pr.len hF7 TT_22 rfl TT_52 rfl (by decide) (lo := k + 1) (hi := lf.length) (by omega) (by omega)
    have p1 := p1 rfl .i64
    have p2 := p2 rfl .i64
    have hS1 : PrS H7 v1 (lf.take k) := by rw [List.drop_zero] at hS1; exact hS1
    have hS2 : PrS H7 v2 (lf.drop (k + 1)) := by rw [List.take_of_length_le (Nat.le_refl _)] at hS2; exact hS2
    have hvf : ∀ j, vid vf = some j → j < H7.length := fun j hj => by have := hF.vid_lt hj; omega
    refine AC_seq ?_
    refine AC_drawA TT_ok [1, 2, 3, 5, 6, 7, 8] (fun _ => False) H7 [4, 9] [(0, false), (4, false), (9, false), (10, false)] mixed (by kernel_rfl) (fun _ h => h.elim) (fun j o h => ⟨h, id⟩) (Nat.le_refl _) (by simp only [go_sem, g6, g8, p1, p2, k8] <;> rfl) ?_
    refine AG_lit TT_ok [] rfl TT_22 rfl TT_52 rfl (by decide) rfl (by decide) rfl rfl (fun v hv => by cases hv) fun H8 hX8 hO8 hL8 => ?_
    refine AG_appendL TT_ok (v := .slice (some ⟨H7.length, 0, none⟩) 0 0) (n := 0) (m := (lf.take k).length) rfl TT_22 rfl TT_52 (by decide) (by decide) rfl (by simp only [go_sem]) (by simp only [go_sem]) (.inr ⟨_, hO8⟩) (hS1.keep hX8) rfl (rows_length Pr.len _) (by rw [List.length_take]; show (0 + _) * 32 ≤ _; omega) (fun j hj => .inl (by have e : H7.length = j := Option.some.inj hj; omega)) rfl fun v9 H9 hX9 hB9 hv9 => ?_
    have hB9' : PrB H9 v9 (lf.take k) := PrB.copy hB9
    have s9 : AExt (fun _ => False) H7 H9 := hX8.weakF hX9 (fun j hj h => by have e : H7.length = j := Option.some.inj h; omega)
    have hv9' : ∀ j, vid v9 = some j → H7.length ≤ j := fun j hj => by
      rcases hv9 j hj with h | ⟨_, h⟩
      · omega
      · subst h
        have e : H7.length = j := Option.some.inj hj
        omega
    refine AG_appendL TT_ok (v := v9) (n := (lf.take k).length) (m := (lf.drop (k + 1)).length) rfl TT_22 rfl TT_52 (by decide) (by decide) rfl (by simp only [go_sem]) (by simp only [go_sem]) hB9' (hS2.keep s9) (rows_length Pr.len _) (rows_length Pr.len _) (by rw [List.length_take, List.length_drop]; show (_ + _) * 32 ≤ _; omega) (fun j hj => .inl (by have := hv9' j hj; omega)) rfl fun va Ha hXa hBa hva => ?_
    have hBa' : PrS Ha va (lf.take k ++ lf.drop (k + 1)) := by
      have := hBa.sl
      rw [← List.length_append, ← List.flatMap_append] at this
      exact this
    have xa : AExt (fun _ => False) H7 Ha := s9.weakF hXa (fun j hj h => hv9' j h)
    have hWa := hW.keep xa
    have hUa := hU7.keep xa
    have za := xa.size
    refine AG_one TT_ok 10 (by simp only [go_sem] <;> rfl) ?_
    refine AG_nil ?_
    generalize lf.take k ++ lf.drop (k + 1) = lg at *
    refine AC_fixe (fun e' => get e' 1 = vu ∧ get e' 6 = va ∧ get e' 7 = .int .i64 (i : Nat) ∧ get e' 9 = u ∧ get e' 10 = .bool true ∧ get e' 11 = .int .i64 0) ⟨by simp only [go_sem, g1], by simp only [go_sem], by simp only [go_sem, g7], by simp only [go_sem, g9], by simp only [go_sem, g10], by simp only [go_sem, g11]⟩ (fun ea ⟨g1, g6, g7, g9, g10, g11⟩ => ?_)
    have e0 : decide ((0 : Int) = 0) = true := rfl
    have dT : decide (build lg = build lg) = true := decide_eq_true rfl
    have hXz : AExt (fun j => H4.length ≤ j) H4 Ha := hX5.trans ((hX7.trans xa).mono fun _ _ h => h.elim)
    refine AC_seq ?_
    refine AC_seq ?_
    refine AC_regL ?_
    refine AQ_take TT_ok 9 rfl (by simp only [go_sem, g6, g9, g10, g11, e0, Bool.not_true] <;> rfl) ?_
    simp only [List.drop_succ_cons, List.drop_zero]
    refine AQ_c rfl (by simp only [go_sem] <;> rfl) fok30 (by simp only [List.map_cons, List.map_nil, List.append_nil, go_sem] <;> rfl) (c30 hBa' (by omega)) (fun _ _ h => h.elim) (.inl rfl) fun r Hb hXb ⟨vb, vp, hr, hTb, _, _, _⟩ => ?_
    subst hr
    rw [if_pos hm2] at hTb
    have hTb : NdS Hb vb (build lg) := hTb.sl
    refine AQ_take TT_ok 1 rfl (by simp only [go_sem, (pick32 hTb)] <;> rfl) ?_
    refine AQ_c rfl (by simp only [go_sem] <;> rfl) fok34 (by simp only [List.map_cons, List.map_nil, List.append_nil, go_sem] <;> rfl) (c34 (hWa.keep hXb) hTb (by omega)) (fun _ _ h => h.elim) (.inl rfl) fun r Hc hXc ⟨hr, hH⟩ => ?_
    have hH' := hH.symm
    subst hr hH'
    refine AQ_all TT_ok rfl (by simp only [go_sem, dT, Bool.not_true] <;> rfl) ?_
    refine AC_f (by simp only [go_sem] <;> rfl) (rfl) ?_
    refine AC_skip ?_
    refine AC_quiet TT_ok (by simp only [go_sem, g9] <;> rfl) ?_
    refine AC_quiet TT_ok (by simp only [go_sem, g7, k5] <;> rfl) ?_
    exact ⟨lg.length, by omega, i + 1, lg, u, va, rfl, hm2, by omega, hWa.keep hXb, hBa'.keep hXb, hUa.keep hXb, hXz.trans (hXb.mono fun _ _ h => h.elim), by simp only [go_sem, g1], by simp only [go_sem], by simp only [go_sem, g6], by simp only [go_sem]⟩
  · have d0 : decide ((([] : List Nd).length : Int) = 0) = true := rfl
    refine AC_seq ?_
    refine AC_regL ?_
    refine AQ_take TT_ok 4 rfl (by simp only [go_sem, g5, (NdS.alen hT), d0] <;> rfl) ?_
    refine AQ_c rfl (by simp only [go_sem] <;> rfl) fok45 (by simp only [List.map_cons, List.map_nil, List.append_nil, go_sem] <;> rfl) (c45) (fun _ _ h => h.elim) (.inl rfl) fun r Hc hXc hr => ?_
    subst hr
    refine AQ_all TT_ok rfl (by simp only [go_sem] <;> rfl) ?_
    exact AC_ret ⟨.inl rfl, _, rfl, by simp only [go_sem]⟩
end Go.Proofs.Ythalogdopkoidaa.Ab
