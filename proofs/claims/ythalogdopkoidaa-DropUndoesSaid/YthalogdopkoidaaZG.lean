/- Contracts and plain laws: dropping, putting. No statement of the seat's in it. Condition: none. -/
import Derived.Test.YthalogdopkoidaaZB
import Derived.Test.YthalogdopkoidaaZF
import Derived.Shelf.RegionOpenPlain
import Derived.WalkKit
import Derived.Lib.Walk
import Derived.Lib.SliceRun
import Derived.Lib.AppendZeros
import Derived.Lib.AppendZerosOnto
import Derived.Lib.Overlaps
import Derived.Laws.Externs
import Derived.Laws.IdiomCopy
import Derived.Laws.NewBlocks
set_option linter.unusedVariables false
set_option linter.unusedSimpArgs false
namespace Go.Proofs.Ythalogdopkoidaa.Ab
open Go Go.RowKit Go.Proofs.Ythalogdopkoidaa.Dr
/-- A row of cells of an object's block. -/
def rowed (cur : Array Value) (off : Nat) (xs : List Value) : Array Value := (cur.toList.take off ++ xs ++ cur.toList.drop (off + xs.length)).toArray
theorem row_turn {P : Program} {ok perm : Nat → Prop} {H : AHeap} {β : List Loc} {w : World} (hI : Inv P ok perm H β w) {i b d q : Nat} {o : AObj} (ho : H[i]? = some (some o)) (hrw : o.rw = true) (hβ : β[i]? = some (b, d, q)) {off : Nat} {xs xs' : List Value}
    (hR : RL β xs xs') (hf : xs.all flat = true) (hl : off + xs.length ≤ o.cells.length) :
    d = 0 ∧ ∃ cur, w.heap[b]? = some (.cells cur o.ty (0, 0)) ∧ off + xs'.length ≤ cur.size ∧ (∀ v ∈ xs', v.oneCell' = true) ∧
      Inv P ok perm (H.set i (some { o with cells := over o.cells off xs })) β (w.setRow b (rowed cur off xs')) := by
  have hB := hI.obj i o b d q ho hβ
  obtain ⟨rfl, hq, cur, inf, hcur, hinf, hsz⟩ := hB.own hrw
  have hone : ∀ v ∈ xs', v.oneCell' = true := by
    intro v hv
    obtain ⟨j, hj, rfl⟩ := List.mem_iff_getElem.1 hv
    have hj' : j < xs.length := by rw [hR.1]; exact hj
    exact (hR.2 j _ _ (List.getElem?_eq_getElem hj') (List.getElem?_eq_getElem hj)).one (List.all_eq_true.1 hf _ (List.getElem_mem hj'))
  have hcs : ∀ k, k < o.cells.length → k < cur.size := fun k hk => by
    obtain ⟨v', hv', _⟩ := hB.at_ k _ (List.getElem?_eq_getElem hk)
    rw [Nat.zero_add, cell_of_row w b k cur o.ty (0, 0) hcur] at hv'
    exact (Array.getElem?_eq_some_iff.1 hv').1
  have hfit : off + xs'.length ≤ cur.size := by
    rw [← hR.1]
    rcases Nat.eq_zero_or_pos (off + xs.length) with h0 | h0
    · omega
    · have := hcs (off + xs.length - 1) (by omega); omega
  refine ⟨rfl, cur, hcur, hfit, hone, ?_⟩
  have hrow := setRow_heap w b cur (rowed cur off xs') o.ty (0, 0) hcur
  refine hI.turn ho hrw hβ (by simp) (fun k _ hk => setRow_other w b k _ hk) hrw ⟨by simpa using hB.lt, fun v hv => ?_, fun k v hk' => ?_, fun _ => ⟨rfl, hq, _, inf, hrow, hinf, ?_⟩⟩
  · obtain ⟨j, hj, rfl⟩ := List.mem_iff_getElem.1 hv
    have hg := over_get (cells := o.cells) (l := xs) (off := off) hl j
    rw [List.getElem?_eq_getElem hj] at hg
    split at hg
    · exact List.all_eq_true.1 hf _ (List.mem_of_getElem? hg.symm)
    · exact hB.flat _ (List.mem_of_getElem? hg.symm)
  · dsimp only at hk'
    rw [over_get hl] at hk'
    rw [Nat.zero_add, cell_of_row _ b k _ o.ty (0, 0) hrow]
    have hg := over_get (cells := cur.toList) (l := xs') (off := off) (by simpa using hfit) k
    rw [over_eq _ _ _ (by simpa using hfit)] at hg
    unfold rowed
    rw [List.getElem?_toArray, hg]
    split at hk'
    · rename_i hin
      have hin' : off ≤ k ∧ k < off + xs'.length := by rw [← hR.1]; exact hin
      rw [if_pos hin']
      have hlt : k - off < xs'.length := by omega
      exact ⟨_, List.getElem?_eq_getElem hlt, hR.2 (k - off) _ _ hk' (List.getElem?_eq_getElem hlt)⟩
    · rename_i hin
      have hin' : ¬ (off ≤ k ∧ k < off + xs'.length) := by rw [← hR.1]; exact hin
      rw [if_neg hin']
      obtain ⟨v', hv', hRv⟩ := hB.at_ k v hk'
      rw [Nat.zero_add, cell_of_row w b k cur o.ty (0, 0) hcur] at hv'
      exact ⟨v', by simpa using hv', hRv⟩
  · rw [← hsz]
    unfold rowed
    simp only [List.size_toArray, List.length_append, List.length_take, List.length_drop, Array.length_toList] at hfit ⊢
    omega
theorem rowed_fr (w : World) (b : Nat) (c : Array Value) {perm : Nat → Prop} (hp : perm b) : Fr perm w (w.setRow b c) :=
  ⟨rfl, rfl, rfl, by simp, fun k _ hk => setRow_other w b k _ fun e => hk (by rw [e]; exact hp)⟩
section
variable {P : Program} {T : Tab} {N : Nat} {ok : Nat → Prop} {early : Prop} {o : Oper} {K : Env → AHeap → Prop} {e : Env} {H : AHeap}
/-- An operation whose run writes such a row. -/
theorem AStep_row {i oty off : Nat} {cells xs : List Value} {v : Value} (hob : H[i]? = some (some ⟨oty, cells, true⟩)) (hfl : xs.all flat = true) (hl : off + xs.length ≤ cells.length) (hok : ok i) (hear : ¬ early)
    (hrun : ∀ (β : List Loc) (w : World) (a : Act) (b q : Nat) (cur : Array Value), Inv P ok (fun _ => True) H β w → ER β e a N → β[i]? = some (b, 0, q) → w.heap[b]? = some (.cells cur oty (0, 0)) →
      (∀ xs' : List Value, RL β xs xs' → off + xs'.length ≤ cur.size) →
      ∃ xs' v', RL β xs xs' ∧ R β v v' ∧ ((∀ v ∈ xs', v.oneCell' = true) → off + xs'.length ≤ cur.size → (execOp a.eval o).run P w = .ok (.value v') (w.setRow b (rowed cur off xs'))))
    (hk : K (eput N e o.dst v) (H.set i (some ⟨oty, over cells off xs, true⟩))) : AStep P N ok early o K e H := fun perm w0 β a w Qc h1 h2 h3 h4 => by
  obtain ⟨b, d, q, hβ⟩ := h3.loc hob
  have hB := h3.obj i _ b d q hob hβ
  obtain ⟨rfl, hq, cur, inf, hcur, hinf, hsz⟩ := hB.own rfl
  have hperm : perm b := h3.perm i _ b 0 q hok hob rfl hβ
  have h3' : Inv P ok (fun _ => True) H β w := h3.weaken (fun _ _ _ _ _ _ _ _ _ => trivial)
  have hfit : ∀ xs' : List Value, RL β xs xs' → off + xs'.length ≤ cur.size := fun xs' hR => by
    obtain ⟨_, cur', hc', hf', _⟩ := row_turn h3 hob rfl hβ hR hfl hl
    rw [hcur] at hc'
    obtain rfl : cur = cur' := by simpa using hc'
    exact hf'
  obtain ⟨xs', v', hR, hv, hr⟩ := hrun β w a b q cur h3' h4 hβ hcur hfit
  obtain ⟨_, cur', hc', hf', hone, hI⟩ := row_turn h3 hob rfl hβ hR hfl hl
  rw [hcur] at hc'
  obtain rfl : cur = cur' := by simpa using hc'
  unfold Oper.wp
  rw [hr hone hf', Oper.upon_value]
  refine ⟨fun he => absurd he hear, _, _, β, hk, List.prefix_rfl, hI, h4.put hv _, h2.trans (rowed_fr w b _ hperm), ?_⟩
  exact ⟨by simp, fun j hj hn => by rw [List.getElem?_set_ne (fun e => hn (by rw [← e]; exact hok))]⟩
theorem zeroCells_eq (z : Array Value) (n : Nat) (zl : List Value) (h : z.toList = zl) : (Builtin.zeroCells z n).toList = zeros n zl := zeros_made zl h
theorem AStep_clear (hT : TOK P T) {t ety i off n oty : Nat} {ti ei : TI} {x : Operand} {cells : List Value} (hop : o.op = .call { callee := .builtin .clear, args := #[x], argTypes := #[t] }) (ht : T t = some ti) (hd : ti.d = .slice ety) (hei : T ety = some ei)
    (hx : aev e x = .slice (some ⟨i, off, none⟩) n n) (h0 : 0 < n) (hob : H[i]? = some (some ⟨oty, cells, true⟩)) (hl : off + n * ei.size ≤ cells.length) (hok : ok i) (hear : ¬ early)
    (hk : K (eput N e o.dst undef) (H.set i (some ⟨oty, over cells off (zeros n ei.zero), true⟩))) : AStep P N ok early o K e H := by
  have hz := hT.zflat ety ei hei
  have hzl := hT.zlen ety ei hei
  have hzz := zeros_const (n := n) hz
  refine AStep_row (v := undef) hob (List.all_eq_true.2 fun v hv => flatConst_flat (hzz v hv)) (by rw [zeros_length, hzl]; exact hl) hok hear (fun β w a b q cur hI hE hβ hcur hfit => ?_) hk
  refine ⟨zeros n ei.zero, .tuple #[], RL.const β hzz, .junk _, fun hone hf => ?_⟩
  have hft := hT.fits t ti ht
  rw [hd] at hft
  obtain ⟨q', z, hq, hq1, hq2, hq3, hq4⟩ := hT.info ety ei hei
  have hzr : ∀ w, (zeroValue ety).run P w = .ok z w := fun w => by simp [zeroValue, typeInfo, hq, hq3]
  have hxr := hE.eval x
  rw [hx] at hxr
  generalize hax : a.eval x = x' at hxr
  have hst := run_storeCells_at P b off oty (zeros n ei.zero) 0 cur w hcur (by simpa using hf) hone
  simp only [Nat.add_zero] at hst
  have hzc := zeroCells_eq z.cells n ei.zero hq4
  obtain ⟨m, rfl⟩ : ∃ m, n = m + 1 := ⟨n - 1, by omega⟩
  cases hxr with
  | @slice _ _ _ c b' d' r' hβ' hc ho =>
    rw [hβ] at hβ'
    obtain ⟨rfl, rfl, rfl⟩ : b = b' ∧ 0 = d' ∧ q = r' := by simpa using hβ'
    simp [execOp, hop, resolve, invoke, builtin, Builtin.clear_, run_underlying hft, hzr, hzc, hax, Nat.zero_add, hst, Result.andThen, rowed]
end
section
variable {P : Program} {N : Nat} {ok : Nat → Prop} {d : Bool} {late : List Nat} {ops : List Oper} {k : Nat} {l : List Oper} {K : Env → AHeap → Prop} {e e' : Env} {H : AHeap}
  {dst : Option Nat} {ty : TypeId} {pos : String} {af : Array Edge} {gd : Option (Nat × Bool)}
/-- 'clear' of the elements of a slice of one's own from one on. -/
theorem AQ_clear (hT : TOK P TT) {t ety i off n m : Nat} {ti ei : TI} {x : Operand} {u : Value} {cs : List Value} (ht : TT t = some ti) (hd : ti.d = .slice ety) (hei : TT ety = some ei) (hw : awant ops e ⟨dst, .call { callee := .builtin .clear, args := #[x], argTypes := #[t] }, ty, pos, af, gd⟩ = some true)
    (hx : aev e x = .slice (some ⟨i, off, none⟩) n n) (h0 : 0 < n) (hob : Own H u ety m cs i) (hl : off + n * ei.size ≤ cs.length) (hok : ok i) (hear : d = false ∨ late.contains k = true)
    (hk : ∀ H', AExt (fun j => j = i) H H' → Own H' u ety m (over cs off (zeros n ei.zero)) i → H'.length = H.length → AQ P N ok d late ops (k + 1) l K (eput N e dst undef) H') :
    AQ P N ok d late ops k (⟨dst, .call { callee := .builtin .clear, args := #[x], argTypes := #[t] }, ty, pos, af, gd⟩ :: l) K e H := by
  obtain ⟨h1, cells, h2, h3, h4⟩ := hob
  have hzl : (zeros n ei.zero).length = n * ei.size := by rw [zeros_length, hT.zlen ety ei hei]
  refine AQ_step rfl hw (AStep_clear hT rfl ht hd hei hx h0 h2 (by omega) hok (fun h => ?_) (hk _ (AExt.set1 _ _ _) ⟨h1, over cells off (zeros n ei.zero), by simp [Ob, List.getElem?_set_self h2.lt], ?_, ?_⟩ (by simp)))
  · rcases hear with h' | h'
    · rw [h'] at h; cases h.1
    · rw [h'] at h; cases h.2
  · rw [over_length, over_length]; exact h3
  · rw [over_length, over_eq _ _ _ (by omega), over_eq _ _ _ (by omega)]
    have e1 : cs.take off = cells.take off := by rw [← h4, List.take_take]; congr 1; omega
    have e2 : cs.drop (off + (zeros n ei.zero).length) = (cells.drop (off + (zeros n ei.zero).length)).take (cs.length - (off + (zeros n ei.zero).length)) := by
      conv => lhs; rw [← h4]
      rw [List.drop_take]
    rw [e1, e2, List.append_assoc, List.append_assoc, List.take_append, List.take_append]
    rw [List.take_of_length_le (i := cs.length) (by simp; omega)]
    congr 1
    rw [List.take_of_length_le (by simp; omega)]
    congr 2
    simp
    omega
end
end Go.Proofs.Ythalogdopkoidaa.Ab
set_option linter.unusedVariables false
set_option linter.unusedSimpArgs false
namespace Go.Proofs.Ythalogdopkoidaa.Ab
open Go Go.RowKit Go.Proofs.Ythalogdopkoidaa.Dr
/-- Pairs without a key. -/
def del (l : List Pr) (key : List UInt8) : List Pr := l.filter fun p => !decide (p.key = key)
theorem del_app (a b : List Pr) (key : List UInt8) : del (a ++ b) key = del a key ++ del b key := List.filter_append ..
theorem del_len (l : List Pr) (key : List UInt8) : (del l key).length ≤ l.length := List.length_filter_le ..
theorem del_id {l : List Pr} {key : List UInt8} (h : ∀ p ∈ l, p.key ≠ key) : del l key = l := List.filter_eq_self.2 fun p hp => by rw [decide_eq_false (h p hp)]; rfl
theorem del_step {l : List Pr} {key : List UInt8} {i : Nat} (hi : i < l.length) : del (l.take (i + 1)) key = del (l.take i) key ++ if l[i].key = key then [] else [l[i]] := by
  rw [List.take_succ_eq_append_getElem hi, del_app]
  congr 1
  unfold del
  rw [List.filter_cons]
  by_cases h : l[i].key = key
  · rw [if_pos h, decide_eq_true h]; rfl
  · rw [if_neg h, decide_eq_false h]; rfl
theorem May.del {l : List Pr} (h : May l) (key : List UInt8) : May (Ab.del l key) := ⟨fun p hp => h.1 p (List.mem_filter.1 hp).1, h.2.sublist List.filter_sublist⟩
theorem f52_1 (i : Nat) : afield TT 52 (.pointer (some ⟨i, 0, none⟩)) 1 = some (.pointer (some ⟨i, 1, none⟩)) := rfl
theorem ap52_value (p : Pr) : apart TT 9 p.cells 1 = some (S p.value) := rfl
theorem ap9 (s : List UInt8) : apart TT 9 [S s] 0 = some (S s) := rfl
/-- The function that finds a key: the object in which its key lies. -/
def fk (ki : Nat) : Value := .func (.func 73) #[] #[.pointer (some ⟨ki, 0, none⟩)]
set_option maxHeartbeats 4000000 in
theorem c73 {H : AHeap} {ki : Nat} {key : List UInt8} {p : Pr} (hK : Ob H ki 9 [S key]) : ACalls Try.prog 73 [p.val, .pointer (some ⟨ki, 0, none⟩)] H (fun _ => False) fun v H' => v = .bool (decide (p.key = key)) := by
  refine ACalls_by 10 TT_ok Try.func73 rfl rfl rfl (by simp) ?_
  refine AC_seq ?_
  refine AC_regL ?_
  refine AQ_box TT_ok TT_52 rfl (by simp only [go_sem] <;> rfl) (Lay.pr p) rfl fun H1 hX1 hO1 hL1 => ?_
  have hK1 := hK.keep hX1
  refine AQ_all TT_ok rfl (by simp only [go_sem] <;> rfl) ?_
  have hd : decide (p = ⟨key, p.value⟩) = decide (p.key = key) := decide_eq_decide.2 ⟨fun h => by rw [h], fun h => by rw [← h]⟩
  refine AC_seqQ TT_ok (by simp only [go_sem, f52_1, hO1.load, hK1.load, ap52_self, ap52_value, ap9, List.map_cons, List.map_nil, bp52] <;> rfl) ?_
  exact AC_ret ⟨.inl rfl, _, rfl, by simp only [go_sem]; rw [hd]⟩
/-- Where a key stands, or that it does not. -/
def Fnd (l : List Pr) (key : List UInt8) (n : Int) : Prop := (∃ i, ∃ hi : i < l.length, n = (i : Int) ∧ l[i].key = key ∧ ∀ p ∈ l.take i, p.key ≠ key) ∨ (n = -1 ∧ ∀ p ∈ l, p.key ≠ key)
set_option maxHeartbeats 4000000 in
theorem c82 {H : AHeap} {vl : Value} {l : List Pr} {ki : Nat} {key : List UInt8} (hl : PrS H vl l) (hlen : l.length < 2^40) (hK : Ob H ki 9 [S key]) : ACalls Try.prog 82 [vl, fk ki] H (fun _ => False) fun v H' => ∃ n, v = .int .i64 n ∧ Fnd l key n := by
  refine ACalls_by 19 TT_ok Try.func82 rfl rfl rfl (by simp) ?_
  refine AC_seqQ TT_ok (by simp only [go_sem] <;> rfl) ?_
  refine AC_cut (fun e' H' => ∀ p ∈ l, p.key ≠ key) ?_ (fun e1 H1 _ hno => ?_)
  rotate_left
  · refine AC_seqQ TT_ok (by simp only [go_sem] <;> rfl) ?_
    exact AC_ret ⟨.inl rfl, _, rfl, -1, by simp only [go_sem], .inr ⟨rfl, hno⟩⟩
  refine AC_seqQ TT_ok (by simp only [go_sem, hl.alen] <;> rfl) ?_
  refine AC_block (AC_loop (fun m e' H' => ∃ i : Nat, m = l.length - i ∧ i ≤ l.length ∧ AExt (fun _ => False) H H' ∧ (∀ p ∈ l.take i, p.key ≠ key) ∧ get e' 0 = vl ∧ get e' 1 = fk ki ∧ get e' 7 = .int .i64 (l.length : Nat) ∧ get e' 8 = .int .i64 (i : Nat)) l.length ⟨0, by simp, by simp, AExt.refl _ _, by simp, by simp only [go_sem], by simp only [go_sem], by simp only [go_sem], by simp only [go_sem] <;> simp⟩ ?_)
  rintro m e1 H1 _ ⟨i, hmi, hi, hX1, hno, g0, g1, g7, g8⟩
  have k5 := wrapN i (by omega)
  have hl1 := hl.keep hX1
  have hK1 := hK.keep hX1
  refine AC_seq ?_
  refine AC_quiet TT_ok (by simp only [go_sem, g7, g8] <;> rfl) ?_
  refine AC_seq ?_
  by_cases hi' : i < l.length
  · refine AC_t (by simp only [go_sem] <;> rfl) (lt_dec hi') ?_
    refine AC_skip ?_
    have b1 := hl1.index (k := .i64) (j := (i : Int)) (by omega) (by omega)
    rw [Int.toNat_natCast] at b1
    have b2 := hl1.load hi'
    refine AC_seq (AC_block ?_)
    refine AC_seqQ TT_ok (by simp only [go_sem, g8] <;> rfl) ?_
    refine AC_seq ?_
    refine AC_regL ?_
    refine AQ_take TT_ok 5 rfl (by simp only [go_sem, g0, g1, g8, b1, b2] <;> rfl) ?_
    refine AQ_c rfl (by simp only [go_sem, fk] <;> rfl) fok73 (by simp only [List.map_cons, List.map_nil, List.append_nil, go_sem, fk] <;> rfl) (c73 (p := l[i]) hK1) (fun _ _ h => h.elim) (.inl rfl) fun r H2 hX2 hr => ?_
    subst hr
    refine AQ_all TT_ok rfl (by simp only [go_sem] <;> rfl) ?_
    cases dk : decide (l[i].key = key)
    · refine AC_f (by simp only [go_sem] <;> rfl) (rfl) ?_
      refine AC_skip ?_
      refine AC_quiet TT_ok (by simp only [go_sem, g8, k5] <;> rfl) ?_
      refine ⟨l.length - (i + 1), by omega, i + 1, rfl, by omega, hX1.trans hX2, ?_, by simp only [go_sem, g0], by simp only [go_sem, g1], by simp only [go_sem, g7], by simp only [go_sem]⟩
      intro p hp
      rw [List.take_succ_eq_append_getElem hi'] at hp
      rcases List.mem_append.1 hp with h | h
      · exact hno p h
      · rw [List.mem_singleton] at h; subst h; exact of_decide_eq_false dk
    · refine AC_t (by simp only [go_sem] <;> rfl) (rfl) ?_
      refine AC_seqQ TT_ok (by simp only [go_sem] <;> rfl) ?_
      exact AC_ret ⟨.inl rfl, _, rfl, (i : Int), by simp only [go_sem], .inl ⟨i, hi', rfl, of_decide_eq_true dk, hno⟩⟩
  · refine AC_f (by simp only [go_sem] <;> rfl) (ge_dec (by omega)) ?_
    refine AC_exit ?_
    rw [List.take_of_length_le (by omega)] at hno
    exact hno
theorem abin_nil22 {H : AHeap} {v : Value} {ty n : Nat} {cs : List Value} (h : Sl H v ty n cs) : ∃ b, abin TT .eql 22 v (.slice none 0 0) = some (.bool b) ∧ (b = true → v = .slice none 0 0 ∧ n = 0) := by
  rcases h with ⟨rfl, hn, _⟩ | ⟨i, off, o, h⟩
  · exact ⟨true, rfl, fun _ => ⟨rfl, hn⟩⟩
  · rw [h.val]; exact ⟨false, rfl, fun h => by cases h⟩
set_option maxHeartbeats 4000000 in
theorem c72 {H : AHeap} {vl : Value} {l : List Pr} (hl : PrS H vl l) (hlen : l.length < 2^40) : ACalls Try.prog 72 [vl] H (fun _ => False) fun v H' => PrB H' v l ∧ ∀ j, vid v = some j → H.length ≤ j := by
  refine ACalls_by 8 TT_ok Try.func72 rfl rfl rfl (by simp) ?_
  refine AC_seqQ TT_ok (by simp only [go_sem] <;> rfl) ?_
  obtain ⟨b, hb, hbt⟩ := abin_nil22 hl
  refine AC_seq ?_
  refine AC_seqQ TT_ok (by simp only [go_sem, hb] <;> rfl) ?_
  cases b
  rotate_left
  · refine AC_t (by simp only [go_sem] <;> rfl) (rfl) ?_
    obtain ⟨rfl, h0⟩ := hbt rfl
    have hl0 : l = [] := List.eq_nil_of_length_eq_zero h0
    subst hl0
    refine AC_seqQ TT_ok (by simp only [go_sem] <;> rfl) ?_
    exact AC_ret ⟨.inl rfl, _, rfl, by simp only [go_sem]; exact Buf.nil _ _, fun j hj => by simp only [go_sem] at hj; cases hj⟩
  refine AC_f (by simp only [go_sem] <;> rfl) (rfl) ?_
  refine AC_skip ?_
  refine AC_seq ?_
  refine AC_regL ?_
  refine AQ_lit TT_ok [] TT_22 rfl TT_52 rfl (by decide) rfl (by decide) rfl rfl (fun v hv => by cases hv) fun H2 hX2 hO2 hL2 => ?_
  refine AQ_take TT_ok 1 rfl (by simp only [go_sem] <;> rfl) ?_
  refine AQ_append TT_ok (v := .slice (some ⟨H.length, 0, none⟩) 0 0) (n := 0) (m := l.length) TT_22 rfl TT_52 (by decide) (by decide) rfl (by simp only [go_sem]) (by simp only [go_sem]) (.inr ⟨_, hO2⟩) (hl.keep hX2) rfl (rows_length Pr.len l) (by simp; omega) (fun j hj => .inl (by have e : H.length = j := Option.some.inj hj; omega)) (.inl rfl) fun vi H3 hX3 hB3 hv3 => ?_
  have hi3 : PrB H3 vi l := PrB.copy hB3
  refine AQ_all TT_ok rfl (by simp only [go_sem] <;> rfl) ?_
  refine AC_ret ⟨.inl rfl, _, rfl, by simp only [go_sem]; exact hi3, fun j hj => ?_⟩
  simp only [go_sem] at hj
  rcases hv3 j hj with h | ⟨_, h⟩
  · omega
  · subst h
    have e : H.length = j := Option.some.inj hj
    omega
theorem as_lo (b n i : Nat) (h : i ≤ n) (k : IntKind) : aslice TT 22 (.slice (some ⟨b, 0, none⟩) n n) (some (.int k (i : Int))) none = some (.slice (some ⟨b, 0 + i * 2, none⟩) (n - i) (n - i)) := by
  simp only [aslice, TT_22, TT_52, abound]
  rw [if_neg (by decide)]
  rw [if_pos (by omega)]
  simp only [Int.toNat_natCast]
theorem as_hi (b n i : Nat) (h : i ≤ n) (k : IntKind) : aslice TT 22 (.slice (some ⟨b, 0, none⟩) n n) none (some (.int k (i : Int))) = some (.slice (some ⟨b, 0, none⟩) i i) := by
  simp only [aslice, TT_22, TT_52, abound]
  rw [if_neg (by decide)]
  rw [if_pos (by omega)]
  simp
  
set_option maxRecDepth 100000 in
set_option maxHeartbeats 8000000 in
theorem c71 {H : AHeap} {vs : Value} {l : List Pr} {ki : Nat} {key : List UInt8} (hV : PrB H vs l) (hlen : l.length < 2^40) (hK : Ob H ki 9 [S key]) : ACalls Try.prog 71 [vs, fk ki] H (fun i => vid vs = some i) fun v H' => PrB H' v (del l key) ∧ ∀ j, vid v = some j → vid vs = some j := by
  refine ACalls_by 42 TT_ok Try.func71 rfl rfl rfl (by simp) ?_
  refine AC_seqQ TT_ok (by simp only [go_sem] <;> rfl) ?_
  refine AC_seq ?_
  refine AC_regL ?_
  refine AQ_take TT_ok 2 rfl (by simp only [go_sem] <;> rfl) ?_
  refine AQ_c rfl (by simp only [go_sem] <;> rfl) fok82 (by simp only [List.map_cons, List.map_nil, List.append_nil, go_sem] <;> rfl) (c82 hV.sl hlen hK) (fun _ _ h => h.elim) (.inl rfl) fun r H1 hX1 ⟨n, hr, hF⟩ => ?_
  subst hr
  refine AQ_all TT_ok rfl (by simp only [go_sem] <;> rfl) ?_
  have hV1 : PrB H1 vs l := Buf.keep hV hX1
  have hK1 := hK.keep hX1
  rcases hF with ⟨i, hi, rfl, hki, hno⟩ | ⟨rfl, hno⟩
  rotate_left
  · refine AC_seq ?_
    have d1 : decide ((-1 : Int) = -1) = true := rfl
    refine AC_seqQ TT_ok (by simp only [go_sem, d1] <;> rfl) ?_
    refine AC_t (by simp only [go_sem] <;> rfl) (rfl) ?_
    refine AC_seqQ TT_ok (by simp only [go_sem] <;> rfl) ?_
    refine AC_ret ⟨.inl rfl, _, rfl, ?_, fun j hj => ?_⟩
    · simp only [go_sem]; rw [del_id hno]; exact hV1
    · simp only [go_sem] at hj; exact hj
  have d1 : decide ((i : Int) = -1) = false := decide_eq_false (by omega)
  refine AC_seq ?_
  refine AC_seqQ TT_ok (by simp only [go_sem, d1] <;> rfl) ?_
  refine AC_f (by simp only [go_sem] <;> rfl) (rfl) ?_
  refine AC_skip ?_
  rcases hV1 with ⟨_, hl0, _⟩ | ⟨b, hV1⟩
  · omega
  have hvb := hV1.vid
  have hv := hV1.1
  have hbk : b ≠ ki := fun h => by
    obtain ⟨_, cells, h2, _, _⟩ := hV1
    rw [h] at h2
    have h3 : H1[ki]? = some (some ⟨52, cells, true⟩) := h2
    have h4 : H1[ki]? = some (some ⟨9, [S key], true⟩) := hK1
    rw [h3] at h4
    simp at h4
  have hM : ∀ H' : AHeap, AExt (fun j => j = b) H1 H' → Ob H' ki 9 [S key] := fun H' hX => hK1.ext hX (fun h => hbk h.symm)
  have hdi : del (l.take (i + 1)) key = l.take i := by
    rw [del_step hi, if_pos hki, List.append_nil, del_id hno]
  have k5 := wrapN i (by omega)
  refine AC_cut (fun e' H' => ∃ (a : Nat) (c : List Pr), a < l.length ∧ c.length = l.length ∧ c.take a = del l key ∧ Own H' vs 52 l.length (c.flatMap Pr.cells) b ∧ get e' 0 = vs ∧ get e' 5 = .int .i64 (a : Nat)) ?_ (fun e3 H3 _ ⟨a, c, ha, hcl, hca, hO, g0, g5⟩ => ?_)
  · refine AC_seqQ TT_ok (by simp only [go_sem, k5] <;> rfl) ?_
    refine AC_block (AC_loop (fun m e' H' => ∃ (j a : Nat) (c : List Pr), m = l.length - j ∧ a < j ∧ j ≤ l.length ∧ c.length = l.length ∧ c.take a = del (l.take j) key ∧ c.drop j = l.drop j ∧ AExt (fun j => j = b) H1 H' ∧ Own H' vs 52 l.length (c.flatMap Pr.cells) b ∧ get e' 0 = vs ∧ get e' 1 = fk ki ∧ get e' 5 = .int .i64 (a : Nat) ∧ get e' 6 = .int .i64 (j : Nat)) (l.length - (i + 1)) ⟨i + 1, i, l, rfl, by omega, by omega, rfl, hdi.symm, rfl, AExt.refl _ _, hV1, by simp only [go_sem], by simp only [go_sem], by simp only [go_sem], by simp only [go_sem]⟩ ?_)
    rintro m e3 H3 _ ⟨j, a, c, hmj, haj, hj, hcl, hca, hcd, hX3, hO, g0, g1, g5, g6⟩
    have k6 := wrapN j (by omega)
    have k7 := wrapN a (by omega)
    have hS : PrS H3 vs c := by
      have := hO.sl
      rw [← hcl] at this
      exact this
    have hK3 := hM H3 hX3
    refine AC_seq ?_
    refine AC_seqQ TT_ok (by simp only [go_sem, g0, g6, hS.alen] <;> rfl) ?_
    by_cases hj' : j < l.length
    rotate_left
    · refine AC_f (by simp only [go_sem] <;> rfl) (ge_dec (by omega)) ?_
      rw [List.take_of_length_le (l := l) (i := j) (by omega)] at hca
      exact AC_exit ⟨a, c, by omega, hcl, hca, hO, by simp only [go_sem, g0], by simp only [go_sem, g5]⟩
    rw [hcl]
    refine AC_t (by simp only [go_sem] <;> rfl) (lt_dec hj') ?_
    refine AC_skip ?_
    have hj'' : j < c.length := by omega
    have hcj : c[j] = l[j] := by
      have h : (c.drop j)[0]? = (l.drop j)[0]? := by rw [hcd]
      rw [List.getElem?_drop, List.getElem?_drop, Nat.add_zero, List.getElem?_eq_getElem hj'', List.getElem?_eq_getElem hj'] at h
      exact Option.some.inj h
    have b1 := hS.index (k := .i64) (j := (j : Int)) (by omega) (by omega)
    rw [Int.toNat_natCast] at b1
    have b2 := hS.load hj''
    rw [hcj] at b2
    refine AC_seq (AC_block ?_)
    refine AC_seq ?_
    refine AC_regL ?_
    refine AQ_take TT_ok 4 rfl (by simp only [go_sem, g0, g6, b1, b2] <;> rfl) ?_
    refine AQ_var TT_ok TT_52 rfl (by decide) (by simp only [go_sem] <;> rfl) (Lay.pr l[j]) rfl (.inl (by have := hX1.size; have := hX3.size; omega)) (.inl rfl) fun H4 hX4 hO4 hL4 => ?_
    refine AQ_nil ?_
    have hO5 := hO.ext hX4 id
    have hK5 := hK3.keep hX4
    refine AC_seq ?_
    refine AC_regL ?_
    refine AQ_take TT_ok 2 rfl (by simp only [go_sem, g1, hO4.load, ap52_self] <;> rfl) ?_
    refine AQ_c rfl (by simp only [go_sem, g1, fk] <;> rfl) fok73 (by simp only [List.map_cons, List.map_nil, List.append_nil, go_sem, g1, fk] <;> rfl) (c73 (p := l[j]) hK5) (fun _ _ h => h.elim) (.inl rfl) fun r H6 hX6 hr => ?_
    subst hr
    have hO7 := hO5.ext hX6 id
    have hOv := hO4.keep hX6
    have hX7 : AExt (fun j => j = b) H1 H6 := hX3.trans ((hX4.trans hX6).mono (fun _ _ h => h.elim))
    have hds := del_step (key := key) hj'
    by_cases hk : l[j].key = key
    · have dk : decide (l[j].key = key) = true := decide_eq_true hk
      rw [if_pos hk, List.append_nil] at hds
      refine AQ_all TT_ok rfl (by simp only [go_sem, dk, Bool.not_true] <;> rfl) ?_
      refine AC_f (by simp only [go_sem] <;> rfl) (rfl) ?_
      refine AC_skip ?_
      refine AC_quiet TT_ok (by simp only [go_sem, g6, k6] <;> rfl) ?_
      refine ⟨l.length - (j + 1), by omega, j + 1, a, c, rfl, by omega, by omega, hcl, by rw [hds]; exact hca, ?_, hX7, hO7, by simp only [go_sem, g0], by simp only [go_sem, g1], by simp only [go_sem, g5], by simp only [go_sem]⟩
      have e1 : c.drop (j + 1) = (c.drop j).drop 1 := by rw [List.drop_drop]
      have e2 : l.drop (j + 1) = (l.drop j).drop 1 := by rw [List.drop_drop]
      rw [e1, e2, hcd]
    · have dk : decide (l[j].key = key) = false := decide_eq_false hk
      rw [if_neg hk] at hds
      refine AQ_all TT_ok rfl (by simp only [go_sem, dk, Bool.not_false] <;> rfl) ?_
      refine AC_t (by simp only [go_sem] <;> rfl) (rfl) ?_
      have b3 : aindex TT 22 vs (.int .i64 (a : Nat)) = some (ep vs (a * 2)) := by
        have := hS.index (k := .i64) (j := (a : Int)) (by omega) (by omega)
        rwa [Int.toNat_natCast] at this
      refine AC_seq ?_
      refine AC_regL ?_
      refine AQ_take TT_ok 4 rfl (by simp only [go_sem, g0, g5, hOv.load, ap52_self, b3] <;> rfl) ?_
      refine AQ_storeE TT_ok TT_52 rfl (by simp only [go_sem] <;> rfl) (by simp only [go_sem] <;> rfl) (Lay.pr l[j]) rfl hO7 (by rw [rows_length Pr.len, Pr.len]; omega) (.inr hvb) (.inl rfl) fun H8 hX8 hO8 hL8 => ?_
      rw [rows_over Pr.len c a l[j] (by omega)] at hO8
      refine AQ_all TT_ok rfl (by simp only [go_sem] <;> rfl) ?_
      refine AC_quiet TT_ok (by simp only [go_sem, g5, k7] <;> rfl) ?_
      refine AC_quiet TT_ok (by simp only [go_sem, g6, k6] <;> rfl) ?_
      refine ⟨l.length - (j + 1), by omega, j + 1, a + 1, c.set a l[j], rfl, by omega, by omega, by rw [List.length_set]; exact hcl, ?_, ?_, hX7.trans hX8, hO8, by simp only [go_sem, g0], by simp only [go_sem, g1], by simp only [go_sem], by simp only [go_sem]⟩
      · rw [hds, ← hca, List.take_succ_eq_append_getElem (by rw [List.length_set]; omega)]
        rw [List.getElem_set_self, List.take_set_of_le (Nat.le_refl _)]
      · rw [List.drop_set_of_lt (by omega)]
        have e1 : c.drop (j + 1) = (c.drop j).drop 1 := by rw [List.drop_drop]
        have e2 : l.drop (j + 1) = (l.drop j).drop 1 := by rw [List.drop_drop]
        rw [e1, e2, hcd]
  · have hxl := as_lo b l.length a (by omega) .i64
    have hxh := as_hi b l.length a (by omega) .i64
    rw [← hv] at hxl hxh
    refine AC_seq ?_
    refine AC_regL ?_
    refine AQ_take TT_ok 3 rfl (by simp only [go_sem, g0, g5, hxl] <;> rfl) ?_
    refine AQ_clear TT_ok TT_22 rfl TT_52 rfl (by simp only [go_sem] <;> rfl) (by omega) hO (by rw [rows_length Pr.len]; show 0 + a * 2 + (l.length - a) * 2 ≤ _; omega) (.inr hvb) (.inl rfl) fun H4 hX4 hO4 hL4 => ?_
    refine AQ_nil ?_
    refine AC_seqQ TT_ok (by simp only [go_sem, g0, g5, hxh] <;> rfl) ?_
    refine AC_ret ⟨.inl rfl, _, rfl, ?_, ?_⟩
    · simp only [go_sem]
      obtain ⟨_, cells, h2, h3, h4⟩ := hO4
      have hal : (del l key).length = a := by rw [← hca, List.length_take]; omega
      have hzl : (zeros (l.length - a) [S [], S []]).length = (l.length - a) * 2 := zeros_length _ _
      refine .inr ⟨b, by rw [hal], cells, h2, ?_, ?_⟩
      · rw [over_length, rows_length Pr.len] at h3
        rw [rows_length Pr.len]
        omega
      · have hlen2 : (c.flatMap Pr.cells).length = l.length * 2 := by rw [rows_length Pr.len, hcl]
        rw [rows_length Pr.len, hal]
        have h5 := congrArg (List.take (a * 2)) h4
        rw [List.take_take, over_length, hlen2, Nat.min_eq_left (by omega)] at h5
        rw [h5, over_eq _ _ _ (by rw [hlen2]; show 0 + a * 2 + (zeros (l.length - a) [S [], S []]).length ≤ _; rw [hzl]; omega), List.append_assoc]
        rw [Nat.zero_add, List.take_append_of_le_length (by rw [List.length_take, hlen2]; omega), List.take_take, Nat.min_self, rows_take Pr.len, hca]
    · intro j hj
      simp only [go_sem] at hj
      rw [hvb]
      exact hj
end Go.Proofs.Ythalogdopkoidaa.Ab
set_option linter.unusedVariables false
set_option linter.unusedSimpArgs false
namespace Go.Proofs.Ythalogdopkoidaa.Ab
open Go Go.RowKit Go.Proofs.Ythalogdopkoidaa.Dr
/-- A trie without a key; whether that was there; an error. -/
def dropE (t : List Nd) (key : List UInt8) : List Nd × Bool × Int :=
  if Isw t then if kb key = true then (build (del (prs t) key), decide (((del (prs t) key).length : Int) < ((prs t).length : Int)), 0) else ([], false, 9) else ([], false, 1)
theorem dropE_build {l : List Pr} (h : May l) {key : List UInt8} (hk : kb key = true) : dropE (build l) key = (build (del l key), decide (((del l key).length : Int) < (l.length : Int)), 0) := by
  rw [dropE, if_pos (isw_build h), if_pos hk, prs_build h]
theorem dropE_bad {l : List Pr} (h : May l) {key : List UInt8} (hk : kb key = false) : dropE (build l) key = ([], false, 9) := by
  rw [dropE, if_pos (isw_build h), if_neg (by rw [hk]; simp)]
set_option maxRecDepth 100000 in
set_option maxHeartbeats 8000000 in
theorem c46 {H : AHeap} {vt : Value} {t : List Nd} {key : List UInt8} (hT : NdS H vt t) (ht : t.length < 2^19) (hn : ∀ n ∈ t, n.path.length < 2^30) :
    ACalls Try.prog 46 [vt, S key] H (fun _ => False) fun v H' => ∃ u, v = .tuple #[u, .bool (dropE t key).2.1, .int .i64 (dropE t key).2.2] ∧ NdB H' u (dropE t key).1 ∧ ∀ j, vid u = some j → H.length ≤ j := by
  refine ACalls_by 43 TT_ok Try.func46 rfl rfl rfl (by simp) ?_
  refine AC_seq ?_
  refine AC_regL ?_
  refine AQ_box TT_ok TT_9 rfl (by simp only [go_sem] <;> rfl) (One.str key).lay rfl fun H1 hX1 hK hL1 => ?_
  refine AQ_all TT_ok rfl (by simp only [go_sem] <;> rfl) ?_
  have hT1 := hT.keep hX1
  refine AC_seq ?_
  refine AC_regL ?_
  refine AQ_take TT_ok 1 rfl (by simp only [go_sem] <;> rfl) ?_
  refine AQ_c rfl (by simp only [go_sem] <;> rfl) fok31 (by simp only [List.map_cons, List.map_nil, List.append_nil, go_sem] <;> rfl) (c31 hT1 ht hn) (fun _ _ h => h.elim) (.inl rfl) fun r H2 hX2 ⟨u, hr, hU, hun⟩ => ?_
  subst hr
  refine AQ_all TT_ok rfl (by simp only [go_sem] <;> rfl) ?_
  have hK2 := hK.keep hX2
  have hUp : PrB H2 u (prs t) := hU
  refine AC_fixe (fun e' => get e' 3 = .pointer (some ⟨H.length, 0, none⟩) ∧ get e' 7 = u ∧ get e' 8 = .bool (decide (Isw t))) ⟨by simp only [go_sem], by simp only [go_sem], by simp only [go_sem]⟩ (fun e2 ⟨g3, g7, g8⟩ => ?_)
  refine AC_seq (AC_block ?_)
  by_cases his : Isw t
  rotate_left
  · have hd : decide (Isw t) = false := decide_eq_false his
    rw [hd] at g8
    refine AC_seqQ TT_ok (by simp only [go_sem, g8, Bool.not_false] <;> rfl) ?_
    refine AC_t (by simp only [go_sem] <;> rfl) (rfl) ?_
    refine AC_seqQ TT_ok (by simp only [go_sem] <;> rfl) ?_
    refine AC_ret ⟨.inl rfl, _, rfl, .slice none 0 0, ?_, ?_, fun j hj => by cases hj⟩
    · simp only [go_sem, dropE, if_neg his]
    · simp only [dropE, if_neg his]; exact Buf.nil _ _
  have hd : decide (Isw t) = true := decide_eq_true his
  rw [hd] at g8
  refine AC_seqQ TT_ok (by simp only [go_sem, g8, Bool.not_true] <;> rfl) ?_
  refine AC_f (by simp only [go_sem] <;> rfl) (rfl) ?_
  cases hkb : kb key
  · have hkb' : ¬ kb key = true := by rw [hkb]; simp
    refine AC_cut (fun e' H' => get e' 20 = .bool true) ?_ (fun e3 H3 _ g20 => ?_)
    · by_cases hk0 : key = []
      · have d0 : decide (key = []) = true := decide_eq_true hk0
        refine AC_quiet TT_ok (by simp only [go_sem, g3, hK2.load, ap9, d0] <;> rfl) ?_
        show get _ 20 = _
        simp only [go_sem]
      · have d0 : decide (key = []) = false := decide_eq_false hk0
        have hlp := List.length_pos_iff.2 hk0
        have d8 : decide ((8 : Int) < (key.length : Int)) = true := decide_eq_true (by
          unfold kb at hkb
          rw [decide_eq_true (by omega : 1 ≤ key.length), Bool.true_and] at hkb
          have := of_decide_eq_false hkb
          omega)
        refine AC_quiet TT_ok (by simp only [go_sem, g3, hK2.load, ap9, d0, d8] <;> rfl) ?_
        show get _ 20 = _
        simp only [go_sem]
    refine AC_t g20 rfl ?_
    refine AC_seqQ TT_ok (by simp only [go_sem] <;> rfl) ?_
    refine AC_ret ⟨.inl rfl, _, rfl, .slice none 0 0, ?_, ?_, fun j hj => by cases hj⟩
    · simp only [go_sem, dropE, if_pos his, if_neg hkb']
    · simp only [dropE, if_pos his, if_neg hkb']; exact Buf.nil _ _
  have hkl := kb_len hkb
  have hE : dropE t key = (build (del (prs t) key), decide (((del (prs t) key).length : Int) < ((prs t).length : Int)), 0) := by rw [dropE, if_pos his, if_pos hkb]
  rw [hE]
  have hlp := prs_len t
  have hmy := prs_may t
  generalize prs t = l at hUp hlp hmy
  have d0 : decide (key = []) = false := decide_eq_false (fun h => by rw [h] at hkl; simp at hkl)
  have d8 : decide ((8 : Int) < (key.length : Int)) = false := decide_eq_false (by omega)
  refine AC_seqQ TT_ok (by simp only [go_sem, g3, hK2.load, ap9, d0, d8] <;> rfl) ?_
  refine AC_f (by simp only [go_sem] <;> rfl) (rfl) ?_
  refine AC_skip ?_
  have s1 := hX1.size
  have s2 := hX2.size
  have hul : ∀ j, vid u = some j → j < H2.length := fun j hj => PrS.vid_lt hUp.sl hj
  have hdl := del_len l key
  refine AC_seq ?_
  refine AC_regL ?_
  refine AQ_take TT_ok 1 rfl (by simp only [go_sem, g7] <;> rfl) ?_
  refine AQ_c rfl (by simp only [go_sem] <;> rfl) fok72 (by simp only [List.map_cons, List.map_nil, List.append_nil, go_sem] <;> rfl) (c72 hUp.sl (by omega)) (fun _ _ h => h.elim) (.inl rfl) fun r H3 hX3 ⟨hC, hcn⟩ => ?_
  have hK3 := hK2.keep hX3
  have hU3 : PrS H3 u l := hUp.sl.keep hX3
  refine AQ_take TT_ok 1 rfl (by simp only [go_sem, g3, List.map_cons, List.map_nil] <;> rfl) ?_
  have s3 := hX3.size
  refine AQ_c rfl (by simp only [go_sem, fk] <;> rfl) fok71 (by simp only [List.map_cons, List.map_nil, List.append_nil, go_sem, fk] <;> rfl) (c71 (key := key) hC (by omega) hK3) (fun j hj hm => .inl (by have := hcn j hm; omega)) (.inl rfl) fun r4 H4 hX4 ⟨hD, hdn⟩ => ?_
  refine AQ_all TT_ok rfl (by simp only [go_sem] <;> rfl) ?_
  have hU4 : PrS H4 u l := hU3.ext hX4 (fun j hj hu hm => by have := hcn j hm; have := hul j hu; omega)
  have s4 := hX4.size
  have hD' : PrS H4 r4 (del l key) := hD.sl
  refine AC_seq ?_
  refine AC_regL ?_
  refine AQ_take TT_ok 1 rfl (by simp only [go_sem] <;> rfl) ?_
  refine AQ_c rfl (by simp only [go_sem] <;> rfl) fok29 (by simp only [List.map_cons, List.map_nil, List.append_nil, go_sem] <;> rfl) (c29 hD' (by omega)) (fun _ _ h => h.elim) (.inl rfl) fun r H5 hX5 ⟨vu, hr, hB5, hvn⟩ => ?_
  subst hr
  rw [if_pos (hmy.del key)] at hB5
  refine AQ_all TT_ok rfl (by simp only [go_sem] <;> rfl) ?_
  have hU5 : PrS H5 u l := hU4.keep hX5
  have hD5 : PrS H5 r4 (del l key) := hD'.keep hX5
  refine AC_seqQ TT_ok (by simp only [go_sem, g7, hU5.alen, hD5.alen] <;> rfl) ?_
  exact AC_ret ⟨.inl rfl, _, rfl, vu, by simp only [go_sem], hB5, fun j hj => by have := hvn j hj; omega⟩
end Go.Proofs.Ythalogdopkoidaa.Ab
set_option linter.unusedVariables false
set_option linter.unusedSimpArgs false
namespace Go.Proofs.Ythalogdopkoidaa.Ab
open Go Go.RowKit Go.Proofs.Ythalogdopkoidaa.Dr
def wq : List Pr := [⟨[97], [49]⟩, ⟨[97, 98], [50]⟩]
def wr : List Pr := [⟨[97, 98], [50]⟩]
theorem wq_may : May wq := by decide
theorem wr_may : May wr := by decide
theorem may_small {l : List Pr} (hm : May l) (h : l.length ≤ 3) : (build l).length < 2^19 ∧ ∀ n ∈ build l, n.path.length < 2^30 := by
  have := build_len l
  exact ⟨by omega, fun n hn => by have := build_path hm n hn; omega⟩
set_option maxRecDepth 100000 in
set_option maxHeartbeats 8000000 in
theorem c45 {H : AHeap} : ACalls Try.prog 45 [] H (fun _ => False) fun v H' => v = .bool true := by
  refine ACalls_by 85 TT_ok Try.func45 rfl rfl rfl (by simp) ?_
  obtain ⟨l1, n1⟩ := may_small wq_may (by decide)
  obtain ⟨l2, n2⟩ := may_small wr_may (by decide)
  have hE1 : dropE (build wq) [97] = (build wr, true, 0) := by rw [dropE_build wq_may (by decide)]; rfl
  have hE2 : dropE (build wr) [99] = (build wr, false, 0) := by rw [dropE_build wr_may (by decide)]; rfl
  have hE3 : dropE (build wr) [97, 98] = ([], true, 0) := by rw [dropE_build wr_may (by decide)]; rfl
  have hE4 : dropE (build wq) [] = ([], false, 9) := dropE_bad wq_may (by decide)
  generalize hT1 : build wq = T1 at *
  generalize hT2 : build wr = T2 at *
  refine AC_seqQ TT_ok (by simp only [go_sem] <;> rfl) ?_
  refine AC_seq ?_
  refine AC_regL ?_
  refine AQ_take TT_ok 2 rfl (by simp only [go_sem, List.map_cons, List.map_nil, bp52] <;> rfl) ?_
  refine AQ_lit TT_ok (wq.map Pr.val) TT_22 rfl TT_52 rfl (by decide) rfl (by decide) rfl (by simp only [wq, List.map_cons, List.map_nil, go_sem, numbered]) (Lay.prs _) fun H1 hX1 hO1 hL1 => ?_
  have hP1 := Own.pairs wq rfl hO1
  refine AQ_c rfl (by simp only [go_sem] <;> rfl) fok30 (by simp only [List.map_cons, List.map_nil, List.append_nil, go_sem] <;> rfl) (c30 hP1.sl (by decide)) (fun _ _ h => h.elim) (.inl rfl) fun r H2 hX2 ⟨vt, vp, hr, hA2, _, _, _⟩ => ?_
  subst hr
  rw [if_pos wq_may, hT1] at hA2
  have hA2 : NdS H2 vt T1 := hA2.sl
  refine AQ_all TT_ok rfl (by simp only [go_sem, (pick32 hA2), List.map_cons, List.map_nil] <;> rfl) ?_
  refine AC_fixe (fun e' => get e' 1 = vt) (by simp only [go_sem]) (fun e2 g1 => ?_)
  refine AC_seq ?_
  refine AC_regL ?_
  refine AQ_take TT_ok 1 rfl (by simp only [go_sem, g1] <;> rfl) ?_
  refine AQ_c rfl (by simp only [go_sem] <;> rfl) fok46 (by simp only [List.map_cons, List.map_nil, List.append_nil, go_sem] <;> rfl) (c46 (key := [97]) hA2 l1 n1) (fun _ _ h => h.elim) (.inl rfl) fun r H3 hX3 ⟨u, hr, hU, _⟩ => ?_
  rw [hE1] at hr hU
  subst hr
  refine AQ_all TT_ok rfl (by simp only [go_sem] <;> rfl) ?_
  have hU : NdS H3 u T2 := hU.sl
  have hA3 := hA2.keep hX3
  refine AC_fixe (fun e' => get e' 1 = vt ∧ get e' 2 = u ∧ get e' 3 = .bool true ∧ get e' 4 = .int .i64 0) ⟨by simp only [go_sem, g1], by simp only [go_sem], by simp only [go_sem], by simp only [go_sem]⟩ (fun e3 ⟨g1, g2, g3, g4⟩ => ?_)
  refine AC_seq ?_
  refine AC_regL ?_
  refine AQ_take TT_ok 1 rfl (by simp only [go_sem, g2] <;> rfl) ?_
  refine AQ_c rfl (by simp only [go_sem] <;> rfl) fok46 (by simp only [List.map_cons, List.map_nil, List.append_nil, go_sem] <;> rfl) (c46 (key := [99]) hU l2 n2) (fun _ _ h => h.elim) (.inl rfl) fun r H4 hX4 ⟨w, hr, hW, _⟩ => ?_
  rw [hE2] at hr hW
  subst hr
  refine AQ_all TT_ok rfl (by simp only [go_sem] <;> rfl) ?_
  have hW : NdS H4 w T2 := hW.sl
  have hA4 := hA3.keep hX4
  have hU4 := hU.keep hX4
  refine AC_fixe (fun e' => get e' 1 = vt ∧ get e' 2 = u ∧ get e' 3 = .bool true ∧ get e' 4 = .int .i64 0 ∧ get e' 5 = w ∧ get e' 6 = .bool false ∧ get e' 7 = .int .i64 0) ⟨by simp only [go_sem, g1], by simp only [go_sem, g2], by simp only [go_sem, g3], by simp only [go_sem, g4], by simp only [go_sem], by simp only [go_sem], by simp only [go_sem]⟩ (fun e4 ⟨g1, g2, g3, g4, g5, g6, g7⟩ => ?_)
  refine AC_seq ?_
  refine AC_regL ?_
  refine AQ_take TT_ok 1 rfl (by simp only [go_sem, g5] <;> rfl) ?_
  refine AQ_c rfl (by simp only [go_sem] <;> rfl) fok46 (by simp only [List.map_cons, List.map_nil, List.append_nil, go_sem] <;> rfl) (c46 (key := [97, 98]) hW l2 n2) (fun _ _ h => h.elim) (.inl rfl) fun r H5 hX5 ⟨x, hr, hY, _⟩ => ?_
  rw [hE3] at hr hY
  subst hr
  refine AQ_all TT_ok rfl (by simp only [go_sem] <;> rfl) ?_
  have hY : NdS H5 x [] := hY.sl
  have hA5 := hA4.keep hX5
  have hU5 := hU4.keep hX5
  have hW5 := hW.keep hX5
  refine AC_fixe (fun e' => get e' 1 = vt ∧ get e' 2 = u ∧ get e' 3 = .bool true ∧ get e' 4 = .int .i64 0 ∧ get e' 5 = w ∧ get e' 6 = .bool false ∧ get e' 7 = .int .i64 0 ∧ get e' 8 = x ∧ get e' 9 = .bool true ∧ get e' 10 = .int .i64 0) ⟨by simp only [go_sem, g1], by simp only [go_sem, g2], by simp only [go_sem, g3], by simp only [go_sem, g4], by simp only [go_sem, g5], by simp only [go_sem, g6], by simp only [go_sem, g7], by simp only [go_sem], by simp only [go_sem], by simp only [go_sem]⟩ (fun e5 ⟨g1, g2, g3, g4, g5, g6, g7, g8, g9, g10⟩ => ?_)
  refine AC_seq ?_
  refine AC_regL ?_
  refine AQ_take TT_ok 1 rfl (by simp only [go_sem, g1] <;> rfl) ?_
  refine AQ_c rfl (by simp only [go_sem] <;> rfl) fok46 (by simp only [List.map_cons, List.map_nil, List.append_nil, go_sem] <;> rfl) (c46 (key := []) hA5 l1 n1) (fun _ _ h => h.elim) (.inl rfl) fun r H6 hX6 ⟨y, hr, _, _⟩ => ?_
  rw [hE4] at hr
  subst hr
  refine AQ_all TT_ok rfl (by simp only [go_sem] <;> rfl) ?_
  have hU6 := hU5.keep hX6
  have hW6 := hW5.keep hX6
  have hY6 := hY.keep hX6
  refine AC_fixe (fun e' => get e' 2 = u ∧ get e' 3 = .bool true ∧ get e' 4 = .int .i64 0 ∧ get e' 5 = w ∧ get e' 6 = .bool false ∧ get e' 7 = .int .i64 0 ∧ get e' 8 = x ∧ get e' 9 = .bool true ∧ get e' 10 = .int .i64 0 ∧ get e' 13 = .int .i64 9) ⟨by simp only [go_sem, g2], by simp only [go_sem, g3], by simp only [go_sem, g4], by simp only [go_sem, g5], by simp only [go_sem, g6], by simp only [go_sem, g7], by simp only [go_sem, g8], by simp only [go_sem, g9], by simp only [go_sem, g10], by simp only [go_sem]⟩ (fun e6 ⟨g2, g3, g4, g5, g6, g7, g8, g9, g10, g13⟩ => ?_)
  have e0 : decide ((0 : Int) = 0) = true := rfl
  have e9 : decide ((9 : Int) = 9) = true := rfl
  have dT : decide (T2 = T2) = true := decide_eq_true rfl
  have lY := hY6.alen
  have d0 : decide ((([] : List Nd).length : Int) = 0) = true := rfl
  refine AC_seq ?_
  refine AC_regL ?_
  refine AQ_take TT_ok 8 rfl (by simp only [go_sem, g2, g3, g4, e0, List.map_cons, List.map_nil, bp52] <;> rfl) ?_
  refine AQ_lit TT_ok (wr.map Pr.val) TT_22 rfl TT_52 rfl (by decide) rfl (by decide) rfl (by simp only [wr, List.map_cons, List.map_nil, go_sem, numbered]) (Lay.prs _) fun Ha hXa hOa hLa => ?_
  have hPa := Own.pairs wr rfl hOa
  refine AQ_c rfl (by simp only [go_sem] <;> rfl) fok30 (by simp only [List.map_cons, List.map_nil, List.append_nil, go_sem] <;> rfl) (c30 hPa.sl (by decide)) (fun _ _ h => h.elim) (.inl rfl) fun r Hb hXb ⟨vb, vq, hr, hB, _, _, _⟩ => ?_
  subst hr
  rw [if_pos wr_may, hT2] at hB
  have hB : NdS Hb vb T2 := hB.sl
  have xb := hXa.trans hXb
  refine AQ_take TT_ok 1 rfl (by simp only [go_sem, (pick32 hB)] <;> rfl) ?_
  refine AQ_c rfl (by simp only [go_sem] <;> rfl) fok34 (by simp only [List.map_cons, List.map_nil, List.append_nil, go_sem] <;> rfl) (c34 (hU6.keep xb) hB (by omega)) (fun _ _ h => h.elim) (.inl rfl) fun r Hc hXc ⟨hr, hH⟩ => ?_
  have hH' := hH.symm
  subst hr hH'
  refine AQ_take TT_ok 12 rfl (by simp only [go_sem, g2, g5, g6, g7, e0, dT, Bool.not_false] <;> rfl) ?_
  simp only [List.drop_succ_cons, List.drop_zero]
  refine AQ_c rfl (by simp only [go_sem] <;> rfl) fok34 (by simp only [List.map_cons, List.map_nil, List.append_nil, go_sem] <;> rfl) (c34 (hU6.keep xb) (hW6.keep xb) (by omega)) (fun _ _ h => h.elim) (.inl rfl) fun r Hd hXd ⟨hr, hH⟩ => ?_
  have hH' := hH.symm
  subst hr hH'
  have lY' := (hY6.keep xb).alen
  refine AQ_all TT_ok rfl (by simp only [go_sem, g8, g9, g10, g13, e0, e9, dT, lY', d0] <;> rfl) ?_
  exact AC_ret ⟨.inl rfl, _, rfl, by simp only [go_sem]⟩
end Go.Proofs.Ythalogdopkoidaa.Ab
set_option linter.unusedVariables false
set_option linter.unusedSimpArgs false
namespace Go.Proofs.Ythalogdopkoidaa.Ab
open Go Go.RowKit Go.Proofs.Ythalogdopkoidaa.Dr
theorem del_lt (l : List Pr) (key : List UInt8) : decide (((del l key).length : Int) < (l.length : Int)) = l.any fun p => decide (p.key = key) := by
  induction l with
  | nil => rfl
  | cons p l ih =>
    have hl := del_len l key
    by_cases h : p.key = key
    · have e : del (p :: l) key = del l key := by unfold del; rw [List.filter_cons, decide_eq_true h]; rfl
      rw [e, List.any_cons, decide_eq_true h, Bool.true_or]
      exact decide_eq_true (by rw [List.length_cons]; omega)
    · have e : del (p :: l) key = p :: del l key := by unfold del; rw [List.filter_cons, decide_eq_false h]; rfl
      rw [e, List.any_cons, decide_eq_false h, Bool.false_or, ← ih]
      exact decide_eq_decide.2 (by rw [List.length_cons, List.length_cons]; omega)
theorem build_inj {a b : List Pr} (ha : May a) (hb : May b) (h : build a = build b) : a = b := by
  rw [← prs_build ha, h, prs_build hb]
theorem del_same {l : List Pr} (hm : May l) (key : List UInt8) : decide (build (del l key) = build l) = !(l.any fun p => decide (p.key = key)) := by
  rw [← del_lt]
  by_cases h : build (del l key) = build l
  · have e := build_inj (hm.del key) hm h
    rw [decide_eq_true h, decide_eq_false (by rw [e]; omega)]; rfl
  · rw [decide_eq_false h, decide_eq_true]
    · rfl
    · have hl := del_len l key
      rcases Nat.lt_or_ge (del l key).length l.length with h2 | h2
      · omega
      · have e : del l key = l := List.Sublist.eq_of_length_le List.filter_sublist h2
        exact absurd (by rw [e]) h
theorem nil_nds (H : AHeap) : NdS H (.slice none 0 0) [] := .inl ⟨rfl, rfl, rfl⟩
end Go.Proofs.Ythalogdopkoidaa.Ab
set_option linter.unusedVariables false
set_option linter.unusedSimpArgs false
namespace Go.Proofs.Ythalogdopkoidaa.Ab
open Go Go.RowKit Go.Proofs.Ythalogdopkoidaa.Dr
section
variable {N : Nat} {ok Msk : Nat → Prop} {ops : List Oper} {late : List Nat} {σ : List (Nat × Bool)} {K : Env → AHeap → Prop} {Hs : AHeap} {e : Env} {H : AHeap} {i0 : Nat}
  {dst : Option Nat} {ty : TypeId} {pos : String} {af : Array Edge} {gd : Option (Nat × Bool)}
end
theorem ByS.loadB {H : AHeap} {u : Value} {ts : List UInt8} (h : ByS H u ts) {i : Nat} (hi : i < ts.length) : aindex TT 50 u (.int .i64 (i : Int)) = some (ep u (i * 1 + 0)) ∧ aload TT H 5 (ep u (i * 1 + 0)) = some (U ts[i]) := ⟨h.index hi, h.load hi⟩
end Go.Proofs.Ythalogdopkoidaa.Ab
set_option linter.unusedVariables false
set_option linter.unusedSimpArgs false
namespace Go.Proofs.Ythalogdopkoidaa.Ab
open Go Go.RowKit Go.Proofs.Ythalogdopkoidaa.Dr
def ins (l : List Pr) (p : Pr) : List Pr := (l.filter fun x => decide (x.key < p.key)) ++ p :: l.filter fun x => decide (p.key < x.key)
theorem ins_app (a b : List Pr) (p : Pr) : ins (a ++ b) p = (a.filter fun x => decide (x.key < p.key)) ++ (b.filter fun x => decide (x.key < p.key)) ++ p :: ((a.filter fun x => decide (p.key < x.key)) ++ b.filter fun x => decide (p.key < x.key)) := by
  simp only [ins, List.filter_append]
theorem key_irr (k : List UInt8) : ¬ k < k := List.lt_irrefl k
theorem key_asym {a b : List UInt8} (h : a < b) : ¬ b < a := fun h2 => List.lt_irrefl _ (List.lt_trans h h2)
theorem key_tri (a b : List UInt8) : a < b ∨ a = b ∨ b < a := by
  rcases List.le_total a b with h | h
  · rcases List.le_iff_lt_or_eq.1 h with h | h
    · exact .inl h
    · exact .inr (.inl h)
  · rcases List.le_iff_lt_or_eq.1 h with h | h
    · exact .inr (.inr h)
    · exact .inr (.inl h.symm)
theorem filt_all {l : List Pr} {q : Pr → Bool} (h : ∀ x ∈ l, q x = true) : l.filter q = l := List.filter_eq_self.2 h
theorem filt_none {l : List Pr} {q : Pr → Bool} (h : ∀ x ∈ l, q x = false) : l.filter q = [] := List.filter_eq_nil_iff.2 fun x hx => by rw [h x hx]; simp
theorem ins_at {a b : List Pr} {p : Pr} (h1 : ∀ x ∈ a, x.key < p.key) (h2 : ∀ x ∈ b, p.key < x.key) : ins (a ++ b) p = a ++ p :: b := by
  rw [ins_app, filt_all (fun x hx => decide_eq_true (h1 x hx)), filt_none (fun x hx => decide_eq_false (key_asym (h2 x hx))), filt_none (fun x hx => decide_eq_false (key_asym (h1 x hx))), filt_all (fun x hx => decide_eq_true (h2 x hx))]
  simp
theorem ins_mid {a b : List Pr} {x p : Pr} (h1 : ∀ x ∈ a, x.key < p.key) (he : x.key = p.key) (h2 : ∀ x ∈ b, p.key < x.key) : ins (a ++ x :: b) p = a ++ p :: b := by
  have e1 : decide (x.key < p.key) = false := decide_eq_false (by rw [he]; exact key_irr _)
  have e2 : decide (p.key < x.key) = false := decide_eq_false (by rw [he]; exact key_irr _)
  rw [ins_app, List.filter_cons, List.filter_cons, e1, e2, filt_all (fun x hx => decide_eq_true (h1 x hx)), filt_none (fun x hx => decide_eq_false (key_asym (h2 x hx))), filt_none (fun x hx => decide_eq_false (key_asym (h1 x hx))), filt_all (fun x hx => decide_eq_true (h2 x hx))]
  simp
theorem ins_gt {a : List Pr} {x p : Pr} (h : p.key < x.key) : ins (a ++ [x]) p = ins a p ++ [x] := by
  rw [ins_app, List.filter_cons, List.filter_cons, decide_eq_false (key_asym h), decide_eq_true h]
  simp [ins]
theorem ins_eq {a : List Pr} {x p : Pr} (h : x.key = p.key) : ins (a ++ [x]) p = ins a p := by
  rw [ins_app, List.filter_cons, List.filter_cons, decide_eq_false (by rw [h]; exact key_irr _), decide_eq_false (by rw [h]; exact key_irr _)]
  simp [ins]
theorem ins_end {a : List Pr} {p : Pr} (h : ∀ x ∈ a, x.key < p.key) : ins a p = a ++ [p] := by
  have := ins_at (b := []) h (by simp)
  rwa [List.append_nil] at this
theorem ins_len (l : List Pr) (p : Pr) : (ins l p).length ≤ l.length + 1 := by
  unfold ins
  rw [List.length_append, List.length_cons]
  have : ∀ l : List Pr, (l.filter fun x => decide (x.key < p.key)).length + (l.filter fun x => decide (p.key < x.key)).length ≤ l.length := by
    intro l
    induction l with
    | nil => simp
    | cons x l ih =>
      rw [List.filter_cons, List.filter_cons]
      by_cases h1 : x.key < p.key
      · rw [decide_eq_true h1, decide_eq_false (key_asym h1)]; simp; omega
      · rw [decide_eq_false h1]
        cases decide (p.key < x.key) <;> simp <;> omega
  have := this l
  omega
theorem ins_mem {l : List Pr} {p x : Pr} : x ∈ ins l p ↔ x = p ∨ (x ∈ l ∧ x.key ≠ p.key) := by
  unfold ins
  rw [List.mem_append, List.mem_cons, List.mem_filter, List.mem_filter]
  simp only [decide_eq_true_eq]
  constructor
  · rintro (⟨h1, h2⟩ | h | ⟨h1, h2⟩)
    · exact .inr ⟨h1, fun e => by rw [e] at h2; exact key_irr _ h2⟩
    · exact .inl h
    · exact .inr ⟨h1, fun e => by rw [e] at h2; exact key_irr _ h2⟩
  · rintro (h | ⟨h1, h2⟩)
    · exact .inr (.inl h)
    · rcases key_tri x.key p.key with h | h | h
      · exact .inl ⟨h1, h⟩
      · exact absurd h h2
      · exact .inr (.inr ⟨h1, h⟩)
theorem May.ins {l : List Pr} (hm : May l) {p : Pr} (hp : Pok p) : May (Ab.ins l p) := by
  constructor
  · intro x hx
    rcases ins_mem.1 hx with rfl | ⟨h, _⟩
    · exact hp
    · exact hm.1 x h
  · unfold Ab.ins
    rw [List.pairwise_append, List.pairwise_cons]
    refine ⟨hm.2.sublist List.filter_sublist, ⟨fun y hy => ?_, hm.2.sublist List.filter_sublist⟩, fun x hx y hy => ?_⟩
    · have := (List.mem_filter.1 hy).2
      exact of_decide_eq_true this
    · have h1 := of_decide_eq_true (List.mem_filter.1 hx).2
      rcases List.mem_cons.1 hy with rfl | hy
      · exact h1
      · exact List.lt_trans h1 (of_decide_eq_true (List.mem_filter.1 hy).2)
theorem c90 {H : AHeap} {a : List UInt8} : ACalls Try.prog 90 [S a] H (fun _ => False) fun v H' => v = .bool false ∧ H' = H := by
  refine ACalls_by 6 TT_ok Try.func90 rfl rfl rfl (by simp) ?_
  have d : decide (a = a) = true := decide_eq_true rfl
  refine AC_seqQ TT_ok (by simp only [go_sem] <;> rfl) ?_
  refine AC_seqQ TT_ok (by simp only [go_sem, d, Bool.not_true] <;> rfl) ?_
  exact AC_ret ⟨.inl rfl, _, rfl, by simp only [go_sem], rfl⟩
def cmpk (a b : List UInt8) : Int := if a < b then -1 else if b < a then 1 else 0
theorem cmpk_neg (a b : List UInt8) : decide (cmpk a b < 0) = decide (a < b) := by
  unfold cmpk
  by_cases h : a < b
  · rw [if_pos h, decide_eq_true h]; rfl
  · rw [if_neg h, decide_eq_false h]
    split <;> rfl
theorem cmpk_zero (a b : List UInt8) : decide (cmpk a b = 0) = decide (a = b) := by
  unfold cmpk
  rcases key_tri a b with h | h | h
  · rw [if_pos h]
    exact (decide_eq_false (p := a = b) (fun e => by rw [e] at h; exact key_irr _ h)).symm
  · subst h
    rw [if_neg (key_irr _), if_neg (key_irr _)]
    exact (decide_eq_true (p := a = a) rfl).symm
  · rw [if_neg (key_asym h), if_pos h]
    exact (decide_eq_false (p := a = b) (fun e => by rw [e] at h; exact key_irr _ h)).symm
set_option maxHeartbeats 4000000 in
theorem c86 {H : AHeap} {a b : List UInt8} : ACalls Try.prog 86 [S a, S b] H (fun _ => False) fun v H' => v = .int .i64 (cmpk a b) ∧ H' = H := by
  refine ACalls_by 20 TT_ok Try.func86 rfl rfl rfl (by simp) ?_
  refine AC_seqQ TT_ok (by simp only [go_sem] <;> rfl) ?_
  refine AC_seq ?_
  refine AC_regL ?_
  refine AQ_take TT_ok 1 rfl (by simp only [go_sem] <;> rfl) ?_
  refine AQ_c rfl (by simp only [go_sem] <;> rfl) fok90 (by simp only [List.map_cons, List.map_nil, List.append_nil, go_sem] <;> rfl) (c90) (fun _ _ h => h.elim) (.inl rfl) fun r H1 hX1 ⟨hr, hH⟩ => ?_
  subst hr hH
  refine AQ_all TT_ok rfl (by simp only [go_sem] <;> rfl) ?_
  refine AC_seq ?_
  refine AC_regL ?_
  refine AQ_take TT_ok 1 rfl (by simp only [go_sem] <;> rfl) ?_
  refine AQ_c rfl (by simp only [go_sem] <;> rfl) fok90 (by simp only [List.map_cons, List.map_nil, List.append_nil, go_sem] <;> rfl) (c90) (fun _ _ h => h.elim) (.inl rfl) fun r H1 hX1 ⟨hr, hH⟩ => ?_
  subst hr hH
  refine AQ_all TT_ok rfl (by simp only [go_sem] <;> rfl) ?_
  refine AC_seq ?_
  refine AC_seqQ TT_ok (by simp only [go_sem] <;> rfl) ?_
  refine AC_f (by simp only [go_sem] <;> rfl) (rfl) ?_
  refine AC_skip ?_
  refine AC_seq ?_
  refine AC_seqQ TT_ok (by simp only [go_sem] <;> rfl) ?_
  refine AC_f (by simp only [go_sem] <;> rfl) (rfl) ?_
  refine AC_skip ?_
  unfold cmpk
  by_cases h1 : a < b
  · have d1 : decide (a < b) = true := decide_eq_true h1
    refine AC_seq ?_
    refine AC_seqQ TT_ok (by simp only [go_sem, d1] <;> rfl) ?_
    refine AC_t (by simp only [go_sem] <;> rfl) (rfl) ?_
    refine AC_seqQ TT_ok (by simp only [go_sem] <;> rfl) ?_
    exact AC_ret ⟨.inl rfl, _, rfl, by simp only [go_sem, if_pos h1], rfl⟩
  · have d1 : decide (a < b) = false := decide_eq_false h1
    refine AC_seq ?_
    refine AC_seqQ TT_ok (by simp only [go_sem, d1] <;> rfl) ?_
    refine AC_f (by simp only [go_sem] <;> rfl) (rfl) ?_
    refine AC_skip ?_
    by_cases h2 : b < a
    · have d2 : decide (b < a) = true := decide_eq_true h2
      refine AC_seq ?_
      refine AC_seqQ TT_ok (by simp only [go_sem, d2] <;> rfl) ?_
      refine AC_t (by simp only [go_sem] <;> rfl) (rfl) ?_
      refine AC_seqQ TT_ok (by simp only [go_sem] <;> rfl) ?_
      exact AC_ret ⟨.inl rfl, _, rfl, by simp only [go_sem, if_neg h1, if_pos h2], rfl⟩
    · have d2 : decide (b < a) = false := decide_eq_false h2
      refine AC_seq ?_
      refine AC_seqQ TT_ok (by simp only [go_sem, d2] <;> rfl) ?_
      refine AC_f (by simp only [go_sem] <;> rfl) (rfl) ?_
      refine AC_skip ?_
      refine AC_seqQ TT_ok (by simp only [go_sem] <;> rfl) ?_
      exact AC_ret ⟨.inl rfl, _, rfl, by simp only [go_sem, if_neg h1, if_neg h2], rfl⟩
set_option maxHeartbeats 4000000 in
theorem c85 {H : AHeap} {p : Pr} {b : List UInt8} : ACalls Try.prog 85 [p.val, S b] H (fun _ => False) fun v H' => v = .int .i64 (cmpk p.key b) := by
  refine ACalls_by 9 TT_ok Try.func85 rfl rfl rfl (by simp) ?_
  refine AC_seq ?_
  refine AC_regL ?_
  refine AQ_box TT_ok TT_52 rfl (by simp only [go_sem] <;> rfl) (Lay.pr p) rfl fun H1 hX1 hO1 hL1 => ?_
  refine AQ_all TT_ok rfl (by simp only [go_sem] <;> rfl) ?_
  refine AC_seq ?_
  refine AC_regL ?_
  refine AQ_take TT_ok 3 rfl (by simp only [go_sem, f52_0, hO1.load, ap52_key] <;> rfl) ?_
  refine AQ_c rfl (by simp only [go_sem] <;> rfl) fok86 (by simp only [List.map_cons, List.map_nil, List.append_nil, go_sem] <;> rfl) (c86 (a := p.key) (b := b)) (fun _ _ h => h.elim) (.inl rfl) fun r H2 hX2 ⟨hr, hH⟩ => ?_
  subst hr
  refine AQ_all TT_ok rfl (by simp only [go_sem] <;> rfl) ?_
  exact AC_ret ⟨.inl rfl, _, rfl, by simp only [go_sem]⟩
/-- Where a key stands among rising ones, or would stand. -/
structure Spot (l : List Pr) (key : List UInt8) (i : Nat) : Prop where
  le : i ≤ l.length
  lo : ∀ j (hj : j < l.length), j < i → l[j].key < key
  hi : ∀ j (hj : j < l.length), i ≤ j → ¬ l[j].key < key
theorem u64_back {j : Nat} (hj : j < 2^62) (H : AHeap) : aconv TT H 53 3 (.int .u64 (j : Int)) = some (.int .i64 (j : Int)) := by
  simp only [aconv, TT_3, TT_53]
  rw [wrap64 (by omega) (by omega)]
theorem shr1 (n : Nat) : abinInt .shr .u64 (n : Int) .u64 1 = some (.int .u64 ((n / 2 : Nat) : Int)) := by
  simp only [abinInt]
  rw [if_pos (by omega)]
  show some (Value.int .u64 ((n : Int).fdiv 2)) = _
  rw [Int.fdiv_eq_ediv_of_nonneg _ (by omega)]
  rfl
set_option maxRecDepth 100000 in
set_option maxHeartbeats 8000000 in
theorem c84 {H : AHeap} {vl : Value} {l : List Pr} {key : List UInt8} (hl : PrS H vl l) (hlen : l.length < 2^40) (hm : May l) :
    ACalls Try.prog 84 [vl, S key, .func (.func 85) #[] #[]] H (fun _ => False) fun v H' => ∃ i, Spot l key i ∧ v = .tuple #[.int .i64 (i : Nat), .bool (decide (∃ h : i < l.length, l[i].key = key))] := by
  refine ACalls_by 49 TT_ok Try.func84 rfl rfl rfl (by simp) ?_
  refine AC_seqQ TT_ok (by simp only [go_sem] <;> rfl) ?_
  refine AC_seqQ TT_ok (by simp only [go_sem, hl.alen] <;> rfl) ?_
  refine AC_seqQ TT_ok (by simp only [go_sem] <;> rfl) ?_
  refine AC_cut (fun e' H' => ∃ i, Spot l key i ∧ AExt (fun _ => False) H H' ∧ get e' 0 = vl ∧ get e' 1 = S key ∧ get e' 2 = .func (.func 85) #[] #[] ∧ get e' 8 = .int .i64 (l.length : Nat) ∧ get e' 9 = .int .i64 (i : Nat)) ?_ (fun e1 H1 _ ⟨i, hsp, hX1, g0, g1, g2, g8, g9⟩ => ?_)
  · refine AC_block (AC_loop (fun m e' H' => ∃ i j : Nat, m = j - i ∧ i ≤ j ∧ j ≤ l.length ∧ (∀ x (hx : x < l.length), x < i → l[x].key < key) ∧ (∀ x (hx : x < l.length), j ≤ x → ¬ l[x].key < key) ∧ AExt (fun _ => False) H H' ∧ get e' 0 = vl ∧ get e' 1 = S key ∧ get e' 2 = .func (.func 85) #[] #[] ∧ get e' 8 = .int .i64 (l.length : Nat) ∧ get e' 9 = .int .i64 (i : Nat) ∧ get e' 10 = .int .i64 (j : Nat)) l.length ⟨0, l.length, rfl, by omega, by omega, fun x hx h => by omega, fun x hx h => by omega, AExt.refl _ _, by simp only [go_sem], by simp only [go_sem], by simp only [go_sem], by simp only [go_sem], by simp only [go_sem] <;> simp, by simp only [go_sem]⟩ ?_)
    rintro m e1 H1 _ ⟨i, j, hmi, hij, hjl, hlo, hhi, hX1, g0, g1, g2, g8, g9, g10⟩
    have hl1 := hl.keep hX1
    refine AC_seq ?_
    refine AC_seqQ TT_ok (by simp only [go_sem, g9, g10] <;> rfl) ?_
    by_cases hij' : i < j
    rotate_left
    · refine AC_f (by simp only [go_sem] <;> rfl) (ge_dec (by omega)) ?_
      have hej : i = j := by omega
      subst hej
      exact AC_exit ⟨i, ⟨hjl, hlo, hhi⟩, hX1, by simp only [go_sem, g0], by simp only [go_sem, g1], by simp only [go_sem, g2], by simp only [go_sem, g8], by simp only [go_sem, g9]⟩
    refine AC_t (by simp only [go_sem] <;> rfl) (lt_dec hij') ?_
    refine AC_skip ?_
    have w1 := wrapNN (x := (i : Int) + (j : Int)) (m := i + j) (by omega) (by omega)
    refine AC_block ?_
    refine AC_seqQ TT_ok (by simp only [go_sem, g9, g10, w1, u64_at (j := i + j) (by omega) H1, shr1, u64_back (j := (i + j) / 2) (by omega) H1] <;> rfl) ?_
    have hh1 : i ≤ (i + j) / 2 := by omega
    have hh2 : (i + j) / 2 < j := by omega
    generalize (i + j) / 2 = h at *
    have hhl : h < l.length := by omega
    have a1 := hl1.index (k := .i64) (j := (h : Int)) (by omega) (by omega)
    rw [Int.toNat_natCast] at a1
    have a2 := hl1.load hhl
    have k5 := wrapN h (by omega)
    refine AC_seq ?_
    refine AC_regL ?_
    refine AQ_take TT_ok 6 rfl (by simp only [go_sem, g0, g1, g2, a1, a2] <;> rfl) ?_
    refine AQ_c rfl (by simp only [go_sem] <;> rfl) fok85 (by simp only [List.map_cons, List.map_nil, List.append_nil, go_sem] <;> rfl) (c85 (p := l[h]) (b := key)) (fun _ _ h => h.elim) (.inl rfl) fun r H2 hX2 hr => ?_
    subst hr
    have hcn := cmpk_neg l[h].key key
    by_cases hk : l[h].key < key
    · rw [decide_eq_true hk] at hcn
      refine AQ_all TT_ok rfl (by simp only [go_sem, hcn] <;> rfl) ?_
      refine AC_t (by simp only [go_sem] <;> rfl) (rfl) ?_
      refine AC_quiet TT_ok (by simp only [go_sem, k5] <;> rfl) ?_
      refine ⟨j - (h + 1), by omega, h + 1, j, rfl, by omega, hjl, fun x hx hxh => ?_, hhi, hX1.trans hX2, by simp only [go_sem, g0], by simp only [go_sem, g1], by simp only [go_sem, g2], by simp only [go_sem, g8], by simp only [go_sem], by simp only [go_sem, g10]⟩
      rcases Nat.lt_or_ge x h with h1 | h1
      · exact List.lt_trans (hm.at h1 hhl) hk
      · have : x = h := by omega
        subst this; exact hk
    · rw [decide_eq_false hk] at hcn
      refine AQ_all TT_ok rfl (by simp only [go_sem, hcn] <;> rfl) ?_
      refine AC_f (by simp only [go_sem] <;> rfl) (rfl) ?_
      refine AC_quiet TT_ok (by simp only [go_sem] <;> rfl) ?_
      refine ⟨h - i, by omega, i, h, rfl, hh1, by omega, hlo, fun x hx hxh => ?_, hX1.trans hX2, by simp only [go_sem, g0], by simp only [go_sem, g1], by simp only [go_sem, g2], by simp only [go_sem, g8], by simp only [go_sem, g9], by simp only [go_sem]⟩
      rcases Nat.lt_or_ge h x with h1 | h1
      · exact fun h2 => hk (List.lt_trans (hm.at h1 hx) h2)
      · have : x = h := by omega
        subst this; exact hk
  · have hl1 := hl.keep hX1
    have hle := hsp.le
    by_cases hi : i < l.length
    · have di : decide ((i : Int) < (l.length : Int)) = true := decide_eq_true (by omega)
      have a1 := hl1.index (k := .i64) (j := (i : Int)) (by omega) (by omega)
      rw [Int.toNat_natCast] at a1
      have a2 := hl1.load hi
      have hcz := cmpk_zero l[i].key key
      have hde : decide (∃ h : i < l.length, l[i].key = key) = decide (l[i].key = key) := decide_eq_decide.2 ⟨fun ⟨_, h⟩ => h, fun h => ⟨hi, h⟩⟩
      refine AC_seq ?_
      refine AC_regL ?_
      refine AQ_take TT_ok 11 rfl (by simp only [go_sem, g0, g1, g2, g8, g9, di, a1, a2] <;> rfl) ?_
      refine AQ_c rfl (by simp only [go_sem] <;> rfl) fok85 (by simp only [List.map_cons, List.map_nil, List.append_nil, go_sem] <;> rfl) (c85 (p := l[i]) (b := key)) (fun _ _ h => h.elim) (.inl rfl) fun r H2 hX2 hr => ?_
      subst hr
      refine AQ_all TT_ok rfl (by simp only [go_sem, hcz] <;> rfl) ?_
      exact AC_ret ⟨.inl rfl, _, rfl, i, hsp, by simp only [go_sem]; rw [hde]⟩
    · have di : decide ((i : Int) < (l.length : Int)) = false := decide_eq_false (by omega)
      have hde : decide (∃ h : i < l.length, l[i].key = key) = false := decide_eq_false (fun ⟨h, _⟩ => hi h)
      refine AC_seq ?_
      refine AC_regL ?_
      refine AQ_take TT_ok 11 rfl (by simp only [go_sem, g0, g1, g2, g8, g9, di] <;> rfl) ?_
      refine AQ_pass rfl ?_
      refine AQ_all TT_ok rfl (by simp only [go_sem] <;> rfl) ?_
      exact AC_ret ⟨.inl rfl, _, rfl, i, hsp, by simp only [go_sem]; rw [hde]⟩
set_option maxRecDepth 100000 in
set_option maxHeartbeats 8000000 in
theorem c77 {H : AHeap} {vl : Value} {l : List Pr} {p : Pr} (hl : PrS H vl l) (hlen : l.length < 2^30) (hm : May l) :
    ACalls Try.prog 77 [vl, S p.key, S p.value] H (fun _ => False) fun v H' => PrB H' v (ins l p) ∧ ∀ j, vid v = some j → H.length ≤ j := by
  refine ACalls_by 56 TT_ok Try.func77 rfl rfl rfl (by simp) ?_
  refine AC_seqQ TT_ok (by simp only [go_sem] <;> rfl) ?_
  refine AC_seqQ TT_ok (by simp only [go_sem] <;> rfl) ?_
  refine AC_seqQ TT_ok (by simp only [go_sem] <;> rfl) ?_
  have hvl : ∀ j, vid vl = some j → j < H.length := fun j hj => hl.vid_lt hj
  refine AC_cut (fun e' H' => ∃ (d : Bool) (o : List Pr) (v : Value), (if d = true then o else o ++ [p]) = ins l p ∧ o.length ≤ l.length + 1 ∧ PrB H' v o ∧ (∀ j, vid v = some j → H.length ≤ j) ∧ H.length ≤ H'.length ∧ get e' 1 = S p.key ∧ get e' 2 = S p.value ∧ get e' 7 = v ∧ get e' 8 = .bool d) ?_ (fun e1 H1 _ ⟨d, o, v, hio, hol, hV, hvn, hsz, g1, g2, g7, g8⟩ => ?_)
  · refine AC_seqQ TT_ok (by simp only [go_sem] <;> rfl) ?_
    refine AC_block (AC_loop (fun m e' H' => ∃ (i : Nat) (d : Bool) (o : List Pr) (v : Value), m = l.length - i ∧ i ≤ l.length ∧ (d = false → o = l.take i ∧ ∀ x ∈ l.take i, x.key < p.key) ∧ (d = true → o = ins (l.take i) p ∧ ∀ j (hj : j < l.length), i ≤ j → p.key < l[j].key) ∧ PrB H' v o ∧ (∀ j, vid v = some j → H.length ≤ j) ∧ H.length ≤ H'.length ∧ PrS H' vl l ∧ get e' 0 = vl ∧ get e' 1 = S p.key ∧ get e' 2 = S p.value ∧ get e' 7 = v ∧ get e' 8 = .bool d ∧ get e' 9 = .int .i64 (i : Nat)) l.length ⟨0, false, [], .slice none 0 0, by simp, by simp, fun _ => ⟨rfl, by simp⟩, fun h => (by cases h), Buf.nil _ _, fun j hj => (by cases hj), Nat.le_refl _, hl, by simp only [go_sem], by simp only [go_sem], by simp only [go_sem], by simp only [go_sem], by simp only [go_sem], by simp only [go_sem] <;> simp⟩ ?_)
    rintro m e1 H1 _ ⟨i, d, o, v, hmi, hi, hd0, hd1, hV, hvn, hsz, hl1, g0, g1, g2, g7, g8, g9⟩
    have k5 := wrapN i (by omega)
    have hol : o.length ≤ l.length + 1 := by
      cases d
      · rw [(hd0 rfl).1, List.length_take]; omega
      · rw [(hd1 rfl).1]
        have := ins_len (l.take i) p
        rw [List.length_take] at this
        omega
    refine AC_seq ?_
    refine AC_seqQ TT_ok (by simp only [go_sem, g0, g9, hl1.alen] <;> rfl) ?_
    by_cases hi' : i < l.length
    rotate_left
    · refine AC_f (by simp only [go_sem] <;> rfl) (ge_dec (by omega)) ?_
      refine AC_exit ⟨d, o, v, ?_, hol, hV, hvn, hsz, by simp only [go_sem, g1], by simp only [go_sem, g2], by simp only [go_sem, g7], by simp only [go_sem, g8]⟩
      have ht : l.take i = l := List.take_of_length_le (by omega)
      cases d
      · obtain ⟨h1, h2⟩ := hd0 rfl
        rw [ht] at h1 h2
        rw [h1, ins_end h2]; rfl
      · obtain ⟨h1, _⟩ := hd1 rfl
        rw [ht] at h1
        rw [h1]; rfl
    refine AC_t (by simp only [go_sem] <;> rfl) (lt_dec hi') ?_
    refine AC_skip ?_
    refine AC_seq (AC_block ?_)
    have a1 := hl1.index (k := .i64) (j := (i : Int)) (by omega) (by omega)
    rw [Int.toNat_natCast] at a1
    have a2 := hl1.f0 hi'
    have a3 := hl1.key hi'
    have a4 := hl1.load hi'
    have hts := List.take_succ_eq_append_getElem hi'
    -- the new pair ahead of this one
    refine AC_cut (fun e' H' => ∃ (d : Bool) (o : List Pr) (v : Value), o.length ≤ l.length + 2 ∧ ((d = false ∧ l[i].key < p.key ∧ o = l.take i ∧ ∀ x ∈ l.take i, x.key < p.key) ∨ (d = true ∧ (if l[i].key = p.key then o else o ++ [l[i]]) = ins (l.take (i + 1)) p ∧ ¬ l[i].key < p.key)) ∧ PrB H' v o ∧ (∀ j, vid v = some j → H.length ≤ j) ∧ H.length ≤ H'.length ∧ PrS H' vl l ∧ get e' 0 = vl ∧ get e' 1 = S p.key ∧ get e' 2 = S p.value ∧ get e' 7 = v ∧ get e' 8 = .bool d ∧ get e' 9 = .int .i64 (i : Nat)) ?_ (fun e2 H2 _ ⟨d, o, v, hol, hdd, hV, hvn, hsz, hl2, g0, g1, g2, g7, g8, g9⟩ => ?_)
    · cases d
      · obtain ⟨h1, h2⟩ := hd0 rfl
        by_cases hk : l[i].key < p.key
        · have dk : decide (p.key ≤ l[i].key) = false := decide_eq_false (fun h => absurd hk (List.not_lt.2 h))
          refine AC_seqQ TT_ok (by simp only [go_sem, g0, g1, g8, g9, a1, a2, a3, dk, Bool.not_false] <;> rfl) ?_
          refine AC_f (by simp only [go_sem] <;> rfl) (rfl) ?_
          exact AC_skip ⟨false, o, v, by omega, .inl ⟨rfl, hk, h1, h2⟩, hV, hvn, hsz, hl1, by simp only [go_sem, g0], by simp only [go_sem, g1], by simp only [go_sem, g2], by simp only [go_sem, g7], by simp only [go_sem, g8], by simp only [go_sem, g9]⟩
        · have dk : decide (p.key ≤ l[i].key) = true := decide_eq_true (List.not_lt.1 hk)
          refine AC_seqQ TT_ok (by simp only [go_sem, g0, g1, g8, g9, a1, a2, a3, dk, Bool.not_false] <;> rfl) ?_
          refine AC_t (by simp only [go_sem] <;> rfl) (rfl) ?_
          refine AC_regL ?_
          refine AQ_take TT_ok 4 rfl (by simp only [go_sem, g1, g2, g7, List.map_cons, List.map_nil, bp52] <;> rfl) ?_
          refine AQ_lit TT_ok [p.val] TT_22 rfl TT_52 rfl (by decide) rfl (by decide) rfl (by simp only [List.map_cons, List.map_nil, go_sem, numbered] <;> rfl) (fun v hv => by rw [List.mem_singleton] at hv; subst hv; exact ⟨_, Lay.pr _, rfl⟩) fun H5 hX5 hO5 hL5 => ?_
          refine AQ_append TT_ok (v := v) (m := 1) TT_22 rfl TT_52 (by decide) (by decide) rfl (by simp only [go_sem]) (by simp only [go_sem]) (Buf.keep hV hX5) hO5.sl (rows_length Pr.len _) rfl (by simp; omega) (fun j hj => .inl (by have := hvn j hj; omega)) (.inl rfl) fun v6 H6 hX6 hB6 hv6 => ?_
          have hV6 : PrB H6 v6 (o ++ [p]) := PrB.push hB6
          have s5 := hX5.size
          have s6 := hX6.size
          have hvn6 : ∀ j, vid v6 = some j → H.length ≤ j := fun j hj => by
            rcases hv6 j hj with h | ⟨h, _⟩
            · omega
            · cases h
          refine AQ_all TT_ok rfl (by simp only [go_sem] <;> rfl) ?_
          refine ⟨true, o ++ [p], v6, by simp; omega, .inr ⟨rfl, ?_, hk⟩, hV6, hvn6, by omega, (hl1.keep hX5).ext hX6 (fun j _ hj hv => by have := hvn j hv; have := hvl j hj; omega), by simp only [go_sem, g0], by simp only [go_sem, g1], by simp only [go_sem, g2], by simp only [go_sem], by simp only [go_sem], by simp only [go_sem, g9]⟩
          rw [hts, h1]
          split
          · rename_i he
            rw [ins_eq he, ins_end h2]
          · rename_i hne
            have hgt : p.key < l[i].key := by
              rcases key_tri l[i].key p.key with h | h | h
              · exact absurd h hk
              · exact absurd h hne
              · exact h
            rw [ins_gt hgt, ins_end h2]
      · obtain ⟨h1, h2⟩ := hd1 rfl
        have hgt := h2 i hi' (Nat.le_refl _)
        have hne : ¬ l[i].key = p.key := fun e => by rw [e] at hgt; exact key_irr _ hgt
        refine AC_seqQ TT_ok (by simp only [go_sem, g0, g1, g8, g9, Bool.not_true] <;> rfl) ?_
        refine AC_f (by simp only [go_sem] <;> rfl) (rfl) ?_
        exact AC_skip ⟨true, o, v, by omega, .inr ⟨rfl, by rw [if_neg hne, hts, ins_gt hgt, h1], key_asym hgt⟩, hV, hvn, hsz, hl1, by simp only [go_sem, g0], by simp only [go_sem, g1], by simp only [go_sem, g2], by simp only [go_sem, g7], by simp only [go_sem, g8], by simp only [go_sem, g9]⟩
    -- this one
    have b1 := hl2.index (k := .i64) (j := (i : Int)) (by omega) (by omega)
    rw [Int.toNat_natCast] at b1
    have b2 := hl2.f0 hi'
    have b3 := hl2.key hi'
    have b4 := hl2.load hi'
    have hnext : ¬ l[i].key < p.key → ∀ j (hj : j < l.length), i + 1 ≤ j → p.key < l[j].key := fun h j hj hij => by
      have h1 := hm.at (i := i) (j := j) (by omega) hj
      rcases key_tri l[i].key p.key with h2 | h2 | h2
      · exact absurd h2 h
      · rw [← h2]; exact h1
      · exact List.lt_trans h2 h1
    by_cases hke : l[i].key = p.key
    · have dk : decide (l[i].key = p.key) = true := decide_eq_true hke
      have hnl : ¬ l[i].key < p.key := by rw [hke]; exact key_irr _
      rcases hdd with ⟨_, h, _⟩ | ⟨rfl, hio, _⟩
      · exact absurd h hnl
      rw [if_pos hke] at hio
      refine AC_seqQ TT_ok (by simp only [go_sem, g0, g1, g9, b1, b2, b3, dk, Bool.not_true] <;> rfl) ?_
      refine AC_f (by simp only [go_sem] <;> rfl) (rfl) ?_
      refine AC_skip ?_
      refine AC_quiet TT_ok (by simp only [go_sem, g9, k5] <;> rfl) ?_
      exact ⟨l.length - (i + 1), by omega, i + 1, true, o, v, rfl, by omega, fun h => (by cases h), fun _ => ⟨hio, hnext hnl⟩, hV, hvn, hsz, hl2, by simp only [go_sem, g0], by simp only [go_sem, g1], by simp only [go_sem, g2], by simp only [go_sem, g7], by simp only [go_sem, g8], by simp only [go_sem]⟩
    · have dk : decide (l[i].key = p.key) = false := decide_eq_false hke
      refine AC_seqQ TT_ok (by simp only [go_sem, g0, g1, g9, b1, b2, b3, dk, Bool.not_false] <;> rfl) ?_
      refine AC_t (by simp only [go_sem] <;> rfl) (rfl) ?_
      refine AC_regL ?_
      refine AQ_take TT_ok 5 rfl (by simp only [go_sem, g0, g7, g9, b1, b4] <;> rfl) ?_
      refine AQ_lit TT_ok [l[i].val] TT_22 rfl TT_52 rfl (by decide) rfl (by decide) rfl (by simp only [List.map_cons, List.map_nil, go_sem, numbered]) (fun v hv => by rw [List.mem_singleton] at hv; subst hv; exact ⟨_, Lay.pr _, rfl⟩) fun H5 hX5 hO5 hL5 => ?_
      refine AQ_append TT_ok (v := v) (m := 1) TT_22 rfl TT_52 (by decide) (by decide) rfl (by simp only [go_sem]) (by simp only [go_sem]) (Buf.keep hV hX5) hO5.sl (rows_length Pr.len _) rfl (by simp; omega) (fun j hj => .inl (by have := hvn j hj; omega)) (.inl rfl) fun v6 H6 hX6 hB6 hv6 => ?_
      have hV6 : PrB H6 v6 (o ++ [l[i]]) := PrB.push hB6
      have s5 := hX5.size
      have s6 := hX6.size
      have hvn6 : ∀ j, vid v6 = some j → H.length ≤ j := fun j hj => by
        rcases hv6 j hj with h | ⟨h, _⟩
        · omega
        · cases h
      have hl6 : PrS H6 vl l := (hl2.keep hX5).ext hX6 (fun j _ hj hv => by have := hvn j hv; have := hvl j hj; omega)
      refine AQ_all TT_ok rfl (by simp only [go_sem] <;> rfl) ?_
      refine AC_quiet TT_ok (by simp only [go_sem, g9, k5] <;> rfl) ?_
      rcases hdd with ⟨rfl, hlt, h1, h2⟩ | ⟨rfl, hio, hnl⟩
      · refine ⟨l.length - (i + 1), by omega, i + 1, false, o ++ [l[i]], v6, rfl, by omega, fun _ => ⟨by rw [hts, h1], ?_⟩, fun h => (by cases h), hV6, hvn6, by omega, hl6, by simp only [go_sem, g0], by simp only [go_sem, g1], by simp only [go_sem, g2], by simp only [go_sem], by simp only [go_sem, g8], by simp only [go_sem]⟩
        intro x hx
        rw [hts] at hx
        rcases List.mem_append.1 hx with h | h
        · exact h2 x h
        · rw [List.mem_singleton] at h; subst h; exact hlt
      · rw [if_neg hke] at hio
        exact ⟨l.length - (i + 1), by omega, i + 1, true, o ++ [l[i]], v6, rfl, by omega, fun h => (by cases h), fun _ => ⟨hio, hnext hnl⟩, hV6, hvn6, by omega, hl6, by simp only [go_sem, g0], by simp only [go_sem, g1], by simp only [go_sem, g2], by simp only [go_sem], by simp only [go_sem, g8], by simp only [go_sem]⟩
  · cases d
    · have hio : o ++ [p] = ins l p := hio
      refine AC_seq ?_
      refine AC_seqQ TT_ok (by simp only [go_sem, g8, Bool.not_false] <;> rfl) ?_
      refine AC_t (by simp only [go_sem] <;> rfl) (rfl) ?_
      refine AC_regL ?_
      refine AQ_take TT_ok 4 rfl (by simp only [go_sem, g1, g2, g7, List.map_cons, List.map_nil, bp52] <;> rfl) ?_
      refine AQ_lit TT_ok [p.val] TT_22 rfl TT_52 rfl (by decide) rfl (by decide) rfl (by simp only [List.map_cons, List.map_nil, go_sem, numbered] <;> rfl) (fun v hv => by rw [List.mem_singleton] at hv; subst hv; exact ⟨_, Lay.pr _, rfl⟩) fun H5 hX5 hO5 hL5 => ?_
      refine AQ_append TT_ok (v := v) (m := 1) TT_22 rfl TT_52 (by decide) (by decide) rfl (by simp only [go_sem]) (by simp only [go_sem]) (Buf.keep hV hX5) hO5.sl (rows_length Pr.len _) rfl (by simp; omega) (fun j hj => .inl (by have := hvn j hj; omega)) (.inl rfl) fun v6 H6 hX6 hB6 hv6 => ?_
      have hV6 : PrB H6 v6 (o ++ [p]) := PrB.push hB6
      have s5 := hX5.size
      have hvn6 : ∀ j, vid v6 = some j → H.length ≤ j := fun j hj => by
        rcases hv6 j hj with h | ⟨h, _⟩
        · omega
        · cases h
      refine AQ_all TT_ok rfl (by simp only [go_sem] <;> rfl) ?_
      refine AC_seqQ TT_ok (by simp only [go_sem] <;> rfl) ?_
      rw [hio] at hV6
      exact AC_ret ⟨.inl rfl, _, rfl, by simp only [go_sem]; exact hV6, fun j hj => by simp only [go_sem] at hj; exact hvn6 j hj⟩
    · have hio : o = ins l p := hio
      refine AC_seq ?_
      refine AC_seqQ TT_ok (by simp only [go_sem, g8, Bool.not_true] <;> rfl) ?_
      refine AC_f (by simp only [go_sem] <;> rfl) (rfl) ?_
      refine AC_skip ?_
      refine AC_seqQ TT_ok (by simp only [go_sem, g7] <;> rfl) ?_
      rw [hio] at hV
      exact AC_ret ⟨.inl rfl, _, rfl, by simp only [go_sem]; exact hV, fun j hj => by simp only [go_sem] at hj; exact hvn j hj⟩
end Go.Proofs.Ythalogdopkoidaa.Ab
set_option linter.unusedVariables false
set_option linter.unusedSimpArgs false
namespace Go.Proofs.Ythalogdopkoidaa.Ab
open Go Go.RowKit Go.Lib Go.Proofs
theorem run_copy_rowk {P : Program} (w : World) (dT sT ty elem : TypeId) (g o dLen dCap k : Nat) (a : Addr) (sLen sCap : Nat) (cur : Array Value) (t : TypeId) (cs : List Value)
    (hu : P.underlying dT = some (.slice elem)) (hs : (P.info? elem).map (·.size) = some k)
    (hg : w.heap[g]? = some (.cells cur t (0, 0))) (hn : cs.length = Nat.min sLen dLen * k)
    (hsrc : ∀ j v, cs[j]? = some v → w.cell? (a.add j) = some v) (hfit : o + cs.length ≤ cur.size) (h1 : ∀ v ∈ cs, v.oneCell' = true) :
    (Builtin.copy_ #[dT, sT] ty #[.slice (some ⟨g, o, none⟩) dLen dCap, .slice (some a) sLen sCap]).run P w =
      .ok (goInt (Nat.min sLen dLen)) (w.setRow g (rowed cur o cs)) := by
  have hl := run_loadCells_list (P := P) w a cs hsrc
  have hst := run_storeCells_at P g o t cs 0 cur w hg (by simpa using hfit) h1
  cases hq : P.info? elem with
  | none => simp [hq] at hs
  | some i =>
    have hi : i.size = k := by simpa [hq] using hs
    simp [Builtin.copy_, run_underlying hu, Builtin.lenOf, Builtin.firstCells, sizeOf, typeInfo, hq, hi, ← hn, hl, hst, rowed]
/-- The operation 'copy(d, s)', its run known. -/
theorem wpList_copyk {P : Program} (w : World) {ops : Array Oper} {rest : List Oper} {o : Oper} {a : Act} {Q : Exit → Act → World → Prop} (hgd : o.guard = none) (d s : Operand) (t t' : TypeId)
    (ho : o.op = .call { callee := .builtin .copy, args := #[d, s], argTypes := #[t, t'] }) (v u : Value) (hd : a.eval d = v) (hs : a.eval s = u) {v' : Value} {w' : World}
    (hr : (Builtin.copy_ #[t, t'] o.type #[v, u]).run P w = .ok v' w') (h : wpList P ops Q rest (a.put o.dst v') w') : wpList P ops Q (o :: rest) a w :=
  wpList_plain hgd fun _ hK => by
    unfold Oper.wp execOp
    simp only [ho, resolve, invoke, builtin, Sem.run_bind, Sem.run_pure, Result.andThen_ok, List.map_toArray, List.map_cons, List.map_nil, hd, hs, hr]
    exact hK _ _ h
theorem step_copyk {P : Program} {ops : Array Oper} {o : Oper} {a : Act} {w : World} {K : Act → World → Prop} {Q : Exit → Act → World → Prop} {E : Prop}
    (hg : o.guard = none) (d x : Operand) (dT sT : TypeId) (hop : o.op = Op.call { callee := Callee.builtin Builtin.copy, args := #[d, x], argTypes := #[dT, sT] })
    (v u : Value) (hd : a.eval d = v) (hx : a.eval x = u) {v' : Value} {w' : World} (hr : (Builtin.copy_ #[dT, sT] o.type #[v, u]).run P w = .ok v' w') (hK : K (a.put o.dst v') w') :
    if Region.wanted o (yielded ops a.tmps) = true then Oper.wp P o a w K Q else E := by
  have hw : Region.wanted o (yielded ops a.tmps) = true := by simp [Region.wanted, hg]
  rw [if_pos hw]
  unfold Oper.wp
  simp [execOp, hop, resolve, invoke, builtin, hd, hx, hr, Result.andThen]
  exact hK
theorem overlaps_no (w : World) {b vb o vc lb cb : Nat} {cur curv : Array Value} (hne : vb ≠ b) (hg : w.heap[b]? = some (.cells cur 52 (0, 0))) (h0 : cur.size ≠ 0) (hgv : w.heap[vb]? = some (.cells curv 52 (0, 0))) :
    (callFunc 91 #[.slice (some ⟨vb, 0, none⟩) 1 vc, .slice (some ⟨b, o, none⟩) lb cb]).run Try.prog w = .ok (.value (.bool false)) w := by
  rw [run_callFunc_extern Try.func91 (by kernel_rfl) (by kernel_rfl) (by kernel_rfl) (e := Extern.SlicesOverlaps.overlaps #[22, 22] #[4]) (by kernel_rfl),
    run_overlaps_apart w 22 4 52 Try.underlying22 2 Try.sizeOf52 ⟨vb, 0, none⟩ ⟨b, o, none⟩ 1 vc lb cb hne 52 52 curv.size cur.size (by simp [World.shape?, hgv]) (by simp [World.shape?, hg]) h0 (by simp [World.frozen?, hgv]) (by simp [World.frozen?, hgv])]
  rfl
set_option maxHeartbeats 4000000 in
set_option maxRecDepth 100000 in
/-- There is room. -/
theorem insert_room (b n c i vb vc : Nat) (w : World) (hi : i < n) (hn : n < 1073741824) (hroom : n + 1 ≤ c) (hc63 : c ≤ 9223372036854775807) (R1 R2 : Array Value) (m1 m2 : Int)
    (hov : ∀ lb cb o, (callFunc 91 #[.slice (some ⟨vb, 0, none⟩) 1 vc, .slice (some ⟨b, o, none⟩) lb cb]).run Try.prog w = .ok (.value (.bool false)) w)
    (hcp1 : ∀ ty dc sc, (Builtin.copy_ #[22, 22] ty #[.slice (some ⟨b, (i + 1) * 2, none⟩) (n - i) dc, .slice (some ⟨b, i * 2, none⟩) (n + 1 - i) sc]).run Try.prog w.drew = .ok (.int .i64 m1) (w.drew.setRow b R1))
    (hcp2 : ∀ ty dc, (Builtin.copy_ #[22, 22] ty #[.slice (some ⟨b, i * 2, none⟩) (n + 1 - i) dc, .slice (some ⟨vb, 0, none⟩) 1 vc]).run Try.prog (w.drew.setRow b R1) = .ok (.int .i64 m2) ((w.drew.setRow b R1).setRow b R2)) :
    Calls Try.prog 87 #[.slice (some ⟨b, 0, none⟩) n c, .int .i64 i, .slice (some ⟨vb, 0, none⟩) 1 vc] w fun e w' => e = .returned (.slice (some ⟨b, 0, none⟩) (n + 1) c) ∧ w' = (w.drew.setRow b R1).setRow b R2 := by
  have hz2 : ¬ ((i : Int) = (n : Int)) := by omega
  have hw1 : IntKind.i64.wrap ((i : Int) + 1) = (i : Int) + 1 := by rw [IntKind.wrap_i64]; omega
  have hw2 : IntKind.i64.wrap ((n : Int) + 1) = (n : Int) + 1 := by rw [IntKind.wrap_i64]; omega
  have hb1 : (0 : Int) ≤ (i : Int) + 1 := by omega
  have hin : i ≤ n := by omega
  have htn : ((i : Int) + 1).toNat = i + 1 := by omega
  have htm : ((n : Int) + 1).toNat = n + 1 := by omega
  have hb2 : ¬ (c = i + 1) := by omega
  have hb3 : (i : Int) ≤ (n : Int) + 1 := by omega
  have hb4 : ¬ (c = i) := by omega
  have mixed := Go.Proofs.Ythalogdopkoidaa.Ab.mixed
  go_enter Try.func87, Try.ntmps87
  go_wp2_with (simp only [hov])
  go_region_law_o (refine step_copyk rfl _ _ 22 22 rfl _ _ (by simp [Act.eval, Act.put]) (by simp [Act.eval, Act.put]) (hcp1 _ _ _) ?_)
  go_wp2_with (at_builtin; refine wpList_copyk _ rfl _ _ 22 22 rfl _ _ rfl rfl (hcp2 _ _) ?_)
  go_ret
  exact ⟨rfl, rfl⟩
set_option maxHeartbeats 4000000 in
set_option maxRecDepth 100000 in
/-- There is none. -/
theorem insert_grow (b n c i vb vc nb G : Nat) (w W1 W2 W3 : World) (hi : i < n) (hn : n < 1073741824) (hnc : n ≤ c) (hroom : c < n + 1) (hG : n + 1 ≤ G) (hG63 : G ≤ 9223372036854775807) (m1 m2 : Int)
    (hrz : ∀ ty, (Builtin.append_ #[22, 3] ty #[.slice (some ⟨b, 0, none⟩) i c, .int .i64 ((n : Int) + 1 - (i : Int))]).run Try.prog w = .ok (.slice (some ⟨nb, 0, none⟩) (n + 1) G) W1)
    (hcpA : ∀ ty dc, (Builtin.copy_ #[22, 22] ty #[.slice (some ⟨nb, i * 2, none⟩) (n + 1 - i) dc, .slice (some ⟨vb, 0, none⟩) 1 vc]).run Try.prog W1 = .ok (.int .i64 m1) W2)
    (hcpB : ∀ ty dc sc, (Builtin.copy_ #[22, 22] ty #[.slice (some ⟨nb, (i + 1) * 2, none⟩) (n - i) dc, .slice (some ⟨b, i * 2, none⟩) (n - i) sc]).run Try.prog W2.drew = .ok (.int .i64 m2) W3) :
    Calls Try.prog 87 #[.slice (some ⟨b, 0, none⟩) n c, .int .i64 i, .slice (some ⟨vb, 0, none⟩) 1 vc] w fun e w' => e = .returned (.slice (some ⟨nb, 0, none⟩) (n + 1) G) ∧ w' = W3 := by
  have hz2 : ¬ ((i : Int) = (n : Int)) := by omega
  have hz3 : (c : Int) < (n : Int) + 1 := by omega
  have hw1 : IntKind.i64.wrap ((i : Int) + 1) = (i : Int) + 1 := by rw [IntKind.wrap_i64]; omega
  have hw2 : IntKind.i64.wrap ((n : Int) + 1) = (n : Int) + 1 := by rw [IntKind.wrap_i64]; omega
  have hw3 : IntKind.i64.wrap ((n : Int) + 1 - (i : Int)) = (n : Int) + 1 - (i : Int) := by rw [IntKind.wrap_i64]; omega
  have hb1 : (0 : Int) ≤ (i : Int) + 1 := by omega
  have hin : i ≤ n := by omega
  have htn : ((i : Int) + 1).toNat = i + 1 := by omega
  have htm : ((n : Int) + 1).toNat = n + 1 := by omega
  have hb3 : (i : Int) ≤ (n : Int) := by omega
  have hGi : ¬ (G = i) := by omega
  have hGim : ¬ (G = i + 1) := by omega
  have hci : ¬ (c = i) := by omega
  have mixed := Go.Proofs.Ythalogdopkoidaa.Ab.mixed
  go_enter Try.func87, Try.ntmps87
  go_wp2_with (first
    | (at_builtin; refine Lib.wpList_append_run _ rfl _ _ _ _ rfl _ _ rfl rfl _ _ (hrz _) ?_)
    | (at_builtin; refine wpList_copyk _ rfl _ _ 22 22 rfl _ _ rfl rfl (hcpA _ _) ?_))
  go_region_law_o (refine step_copyk rfl _ _ 22 22 rfl _ _ (by simp [Act.eval, Act.put]) (by simp [Act.eval, Act.put]) (hcpB _ _ _) ?_)
  go_wp2
  go_ret
  exact ⟨rfl, rfl⟩
end Go.Proofs.Ythalogdopkoidaa.Ab
set_option linter.unusedVariables false
set_option linter.unusedSimpArgs false
namespace Go.Proofs.Ythalogdopkoidaa.Ab
open Go Go.RowKit Go.Lib Go.Proofs Go.Proofs.Ythalogdopkoidaa.Dr
theorem setRow_alloc (w : World) (c c' : Array Value) (t : TypeId) : (w.alloc (.cells c t)).setRow w.heap.size c' = w.alloc (.cells c' t) := by
  unfold World.setRow World.alloc
  dsimp only
  congr 1
  apply Array.ext_getElem?
  intro k
  rw [Array.getElem?_modify, Array.getElem?_push, Array.getElem?_push]
  by_cases hk : w.heap.size = k
  · subst hk; simp
  · rw [if_neg hk, if_neg (Ne.symm hk), if_neg (Ne.symm hk)]
theorem drew_alloc (w : World) (o : Obj) : (w.alloc o).drew = w.drew.alloc o := rfl
theorem rowed_list (cur : Array Value) (off : Nat) (xs : List Value) : (rowed cur off xs).toList = cur.toList.take off ++ xs ++ cur.toList.drop (off + xs.length) := rfl
theorem rowed_size {cur : Array Value} {off : Nat} {xs : List Value} (h : off + xs.length ≤ cur.size) : (rowed cur off xs).size = cur.size := by
  have : (rowed cur off xs).toList.length = cur.toList.length := by
    rw [rowed_list, List.length_append, List.length_append, List.length_take, List.length_drop]
    simp only [Array.length_toList]
    omega
  simpa using this
theorem cell_row {w : World} {g : Nat} {cur : Array Value} {t : TypeId} (hg : w.heap[g]? = some (.cells cur t (0, 0))) (o : Nat) {xs : List Value} (h : ∀ j v, xs[j]? = some v → cur[o + j]? = some v) : ∀ j v, xs[j]? = some v → w.cell? ((⟨g, o, none⟩ : Addr).add j) = some v := fun j v hj => by
  have e : (⟨g, o, none⟩ : Addr).add j = ⟨g, o + j, none⟩ := Addr.add_lit ..
  rw [e, cell_of_row w g (o + j) cur t (0, 0) hg]
  exact h j v hj
theorem RL.sub {β : List Loc} {a : List Value} {cur : List Value} (h : ∀ (k : Nat) (v : Value), a[k]? = some v → ∃ v', cur[k]? = some v' ∧ R β v v') : RL β a (cur.take a.length) := by
  have hle : a.length ≤ cur.length := by
    rcases Nat.eq_zero_or_pos a.length with h0 | h0
    · omega
    · obtain ⟨v', hv, _⟩ := h (a.length - 1) _ (List.getElem?_eq_getElem (by omega))
      have := (List.getElem?_eq_some_iff.1 hv).1
      omega
  refine ⟨by rw [List.length_take]; omega, fun j v v' h1 h2 => ?_⟩
  obtain ⟨u, hu, hR⟩ := h j v h1
  rw [List.getElem?_take] at h2
  split at h2
  · rw [hu] at h2
    obtain rfl := Option.some.inj h2
    exact hR
  · cases h2
theorem RL.one {β : List Loc} {a a' : List Value} (h : RL β a a') (hf : ∀ v ∈ a, Ab.flat v = true) : ∀ v ∈ a', v.oneCell' = true := fun v hv => by
  obtain ⟨j, hj, rfl⟩ := List.mem_iff_getElem.1 hv
  have hj' : j < a.length := by rw [h.1]; exact hj
  exact (h.2 j _ _ (List.getElem?_eq_getElem hj') (List.getElem?_eq_getElem hj)).one (hf _ (List.getElem_mem hj'))
theorem pr_flat (l : List Pr) : ∀ v ∈ l.flatMap Pr.cells, Ab.flat v = true := fun v hv => by
  obtain ⟨p, _, hp⟩ := List.mem_flatMap.1 hv
  simp only [Pr.cells, List.mem_cons, List.not_mem_nil, or_false] at hp
  rcases hp with rfl | rfl <;> rfl
set_option maxRecDepth 100000 in
set_option maxHeartbeats 8000000 in
/-- Ahead of one that is there. -/
theorem c87_in {H : AHeap} {l : List Pr} {i ib iv : Nat} {p : Pr} {v : Value} (hV : Own H v 52 l.length (l.flatMap Pr.cells) ib) (hi : i < l.length) (hlen : l.length < 1073741824) {vv : Value} (hP : Own H vv 52 1 p.cells iv) (hne : ib ≠ iv) :
    ACalls Try.prog 87 [v, .int .i64 (i : Nat), vv] H (fun j => vid v = some j) fun r H' => PrB H' r (l.take i ++ p :: l.drop i) ∧ ∀ j, vid r = some j → H.length ≤ j := by
  intro w β args' hR hI
  have hvid := hV.vid
  obtain ⟨rfl, cells, hob, hcl, hct⟩ := hV
  obtain ⟨rfl, cellv, hov, hvl, hvt⟩ := hP
  -- the arguments
  have hal : args'.length = 3 := by rw [← hR.1]; rfl
  obtain ⟨s', i', v', rfl⟩ : ∃ a b c, args' = [a, b, c] := by
    match args', hal with
    | [a, b, c], _ => exact ⟨a, b, c, rfl⟩
  have hs := hR.2 0 _ _ rfl rfl
  have hii := hR.2 1 _ _ rfl rfl
  have hvv := hR.2 2 _ _ rfl rfl
  cases hii
  generalize hn : l.length = n at *
  obtain ⟨b, d, r, hβ⟩ := hI.loc hob
  obtain ⟨vb, dv, rv, hβv⟩ := hI.loc hov
  have hB := hI.obj ib _ b d r hob hβ
  have hBv := hI.obj iv _ vb dv rv hov hβv
  obtain ⟨rfl, hr63, cur, inf, hcur, hinf, hsz⟩ := hB.own rfl
  obtain ⟨rfl, _, curv, _, hcurv, _, _⟩ := hBv.own rfl
  have hbv : b ≠ vb := hI.sep ib iv _ _ b 0 r vb 0 rv hob hov hne rfl hβ hβv
  have hi2 : inf.size = 2 := by
    obtain ⟨q, z, hq, hq1, _⟩ := TT_ok.info 52 _ TT_52
    rw [hinf] at hq
    rw [Option.some.inj hq, hq1]
  rw [hi2] at hsz
  obtain ⟨vc, rfl⟩ : ∃ vc, v' = .slice (some ⟨vb, 0, none⟩) 1 vc := by
    cases hvv with
    | @slice _ _ _ c b' d' r' h' hc ho =>
      rw [hβv] at h'
      obtain ⟨rfl, rfl, rfl⟩ : vb = b' ∧ 0 = d' ∧ rv = r' := by simpa using h'
      exact ⟨c, rfl⟩
  obtain ⟨hnr, rfl⟩ : n ≤ r ∧ s' = .slice (some ⟨b, 0, none⟩) n r := by
    cases hs with
    | @slice _ _ _ c b' d' r' h' hc ho =>
      rw [hβ] at h'
      obtain ⟨rfl, rfl, rfl⟩ : b = b' ∧ 0 = d' ∧ r = r' := by simpa using h'
      have := ho rfl
      subst this
      exact ⟨hc, rfl⟩
    | empty a a' => omega
  -- what lies there
  have hlc : (l.flatMap Pr.cells).length = n * 2 := by rw [rows_length Pr.len, hn]
  have hat : ∀ (k : Nat) (v : Value), (l.flatMap Pr.cells)[k]? = some v → ∃ v', cur.toList[k]? = some v' ∧ R β v v' := fun k v hk => by
    have hk' : cells[k]? = some v := by
      have : (cells.take (l.flatMap Pr.cells).length)[k]? = some v := by rw [hct]; exact hk
      rw [List.getElem?_take] at this
      split at this
      · exact this
      · cases this
    obtain ⟨v', h1, h2⟩ := hB.at_ k v hk'
    rw [Nat.zero_add, cell_of_row w b k cur 52 (0, 0) hcur] at h1
    exact ⟨v', by simpa using h1, h2⟩
  have hRL := RL.sub hat
  rw [hlc] at hRL
  have hone := RL.one hRL (pr_flat l)
  have hatv : ∀ (k : Nat) (v : Value), p.cells[k]? = some v → ∃ v', curv.toList[k]? = some v' ∧ R β v v' := fun k v hk => by
    have hk' : cellv[k]? = some v := by
      have : (cellv.take p.cells.length)[k]? = some v := by rw [hvt]; exact hk
      rw [List.getElem?_take] at this
      split at this
      · exact this
      · cases this
    obtain ⟨v', h1, h2⟩ := hBv.at_ k v hk'
    rw [Nat.zero_add, cell_of_row w vb k curv 52 (0, 0) hcurv] at h1
    exact ⟨v', by simpa using h1, h2⟩
  have hRLv := RL.sub hatv
  have hpl : p.cells.length = 2 := rfl
  rw [hpl] at hRLv
  have honev := RL.one hRLv (fun v hv => pr_flat [p] v (by simpa using hv))
  obtain ⟨xs, hxs⟩ : ∃ xs, xs = curv.toList.take 2 := ⟨_, rfl⟩
  rw [← hxs] at hRLv honev
  have hxl : xs.length = 2 := by rw [← hRLv.1]; rfl
  have hxc : ∀ j v, xs[j]? = some v → curv[0 + j]? = some v := fun j v hj => by
    rw [hxs, List.getElem?_take] at hj
    rw [Nat.zero_add]
    split at hj
    · simpa using hj
    · cases hj
  have hcs : n * 2 ≤ cur.size := by rw [hsz]; omega
  -- what is moved
  obtain ⟨ms, hms⟩ : ∃ ms, ms = (cur.toList.take (n * 2)).drop (i * 2) := ⟨_, rfl⟩
  have hml : ms.length = (n - i) * 2 := by rw [hms, List.length_drop, List.length_take]; simp only [Array.length_toList]; omega
  have hmone : ∀ v ∈ ms, v.oneCell' = true := fun v hv => hone v (by rw [hms] at hv; exact List.mem_of_mem_drop hv)
  have hmc : ∀ j v, ms[j]? = some v → cur[i * 2 + j]? = some v := fun j v hj => by
    rw [hms, List.getElem?_drop, List.getElem?_take] at hj
    split at hj
    · simpa using hj
    · cases hj
  have hinfo : (Try.prog.info? 52).map (·.size) = some 2 := by rw [hinf]; simp [hi2]
  -- the row behind it
  have hnew : (l.take i ++ p :: l.drop i).flatMap Pr.cells = (l.flatMap Pr.cells).take (i * 2) ++ p.cells ++ (l.flatMap Pr.cells).drop (i * 2) := by
    rw [rows_take Pr.len, rows_drop Pr.len, List.flatMap_append, List.flatMap_cons, List.append_assoc]
  have hRLn : RL β ((l.take i ++ p :: l.drop i).flatMap Pr.cells) (cur.toList.take (i * 2) ++ xs ++ ms) := by
    rw [hnew]
    refine RL.append (RL.append ?_ hRLv) ?_
    · have := hRL.take (i * 2)
      rw [List.take_take, Nat.min_eq_left (by omega)] at this
      exact this
    · rw [hms]; exact hRL.drop (i * 2)
  have hnl : (cur.toList.take (i * 2) ++ xs ++ ms).length = (n + 1) * 2 := by
    rw [List.length_append, List.length_append, List.length_take, hxl, hml]
    simp only [Array.length_toList]
    omega
  have hnlen : (l.take i ++ p :: l.drop i).length = n + 1 := by
    rw [List.length_append, List.length_cons, List.length_take, List.length_drop]; omega
  have fin : ∀ R2 : Array Value, (∃ t, R2.toList = cur.toList.take (i * 2) ++ xs ++ ms ++ t) → ∀ (k : Nat) (v : Value), ((l.take i ++ p :: l.drop i).flatMap Pr.cells)[k]? = some v → ∃ v', R2[k]? = some v' ∧ R β v v' := fun R2 ⟨t, ht⟩ k v hk => by
    have hk2 : k < (cur.toList.take (i * 2) ++ xs ++ ms).length := by rw [← hRLn.1]; exact (List.getElem?_eq_some_iff.1 hk).1
    refine ⟨_, ?_, hRLn.2 k v _ hk (List.getElem?_eq_getElem hk2)⟩
    have : R2.toList[k]? = some (cur.toList.take (i * 2) ++ xs ++ ms)[k] := by
      rw [ht, List.getElem?_append_left hk2]; exact List.getElem?_eq_getElem hk2
    simpa using this
  have hflat := pr_flat (l.take i ++ p :: l.drop i)
  by_cases hroom : n + 1 ≤ r
  · -- in place
    have hr2 : (n + 1) * 2 ≤ cur.size := by rw [hsz]; omega
    have f1 : (i + 1) * 2 + ms.length ≤ cur.size := by rw [hml]; omega
    have s1 : (rowed cur ((i + 1) * 2) ms).size = cur.size := rowed_size f1
    have f2 : i * 2 + xs.length ≤ (rowed cur ((i + 1) * 2) ms).size := by rw [hxl, s1]; omega
    have hcd : w.drew.heap[b]? = some (.cells cur 52 (0, 0)) := hcur
    have hc1 : (w.drew.setRow b (rowed cur ((i + 1) * 2) ms)).heap[b]? = some (.cells (rowed cur ((i + 1) * 2) ms) 52 (0, 0)) := setRow_heap _ _ _ _ _ _ hcd
    have hcv1 : (w.drew.setRow b (rowed cur ((i + 1) * 2) ms)).heap[vb]? = some (.cells curv 52 (0, 0)) := by rw [setRow_other _ _ _ _ (Ne.symm hbv)]; exact hcurv
    have hmin1 : Nat.min (n + 1 - i) (n - i) = n - i := by simp only [Nat.min_def]; split <;> omega
    have hmin2 : Nat.min 1 (n + 1 - i) = 1 := by simp only [Nat.min_def]; split <;> omega
    have key := insert_room b n r i vb vc w hi (by omega) hroom (by unfold maxLen at hr63; omega) (rowed cur ((i + 1) * 2) ms) (rowed (rowed cur ((i + 1) * 2) ms) (i * 2) xs) _ _
      (fun lb cb o => overlaps_no w (Ne.symm hbv) hcur (by omega) hcurv)
      (fun ty dc sc => by
        have h := run_copy_rowk (P := Try.prog) w.drew 22 22 ty 52 b ((i + 1) * 2) (n - i) dc 2 ⟨b, i * 2, none⟩ (n + 1 - i) sc cur 52 ms Try.underlying22 hinfo hcd (by rw [hmin1, hml]) (cell_row hcd (i * 2) hmc) f1 hmone
        exact h)
      (fun ty dc => by
        have h := run_copy_rowk (P := Try.prog) (w.drew.setRow b (rowed cur ((i + 1) * 2) ms)) 22 22 ty 52 b (i * 2) (n + 1 - i) dc 2 ⟨vb, 0, none⟩ 1 vc (rowed cur ((i + 1) * 2) ms) 52 xs Try.underlying22 hinfo hc1 (by rw [hmin2, hxl]) (cell_row hcv1 0 hxc) f2 honev
        exact h)
    refine key.mono fun en w' ⟨he, hw'⟩ => ?_
    have hw2 : w' = w.drew.setRow b (rowed (rowed cur ((i + 1) * 2) ms) (i * 2) xs) := by rw [hw', setRow_setRow]
    have hR2 : ∃ t, (rowed (rowed cur ((i + 1) * 2) ms) (i * 2) xs).toList = cur.toList.take (i * 2) ++ xs ++ ms ++ t := by
      refine ⟨cur.toList.drop ((i + 1) * 2 + ms.length), ?_⟩
      rw [rowed_list, rowed_list, hxl]
      have e1 : (cur.toList.take ((i + 1) * 2) ++ ms ++ cur.toList.drop ((i + 1) * 2 + ms.length)).take (i * 2) = cur.toList.take (i * 2) := by
        rw [List.append_assoc, List.take_append_of_le_length (by rw [List.length_take]; simp only [Array.length_toList]; omega), List.take_take, Nat.min_eq_left (by omega)]
      have e2 : (cur.toList.take ((i + 1) * 2) ++ ms ++ cur.toList.drop ((i + 1) * 2 + ms.length)).drop (i * 2 + 2) = ms ++ cur.toList.drop ((i + 1) * 2 + ms.length) := by
        have : i * 2 + 2 = (cur.toList.take ((i + 1) * 2)).length := by rw [List.length_take]; simp only [Array.length_toList]; omega
        rw [this, List.append_assoc, List.drop_left]
      rw [e1, e2, List.append_assoc, List.append_assoc, List.append_assoc]
    have hrow : w'.heap[b]? = some (.cells (rowed (rowed cur ((i + 1) * 2) ms) (i * 2) xs) 52 (0, 0)) := by rw [hw2]; exact setRow_heap _ _ _ _ _ _ hcd
    have hsz2 : w'.heap.size = w.heap.size := by rw [hw2, setRow_size]; rfl
    have hoth : ∀ k, k < w.heap.size → k ≠ b → w'.heap[k]? = w.heap[k]? := fun k _ hk => by rw [hw2, setRow_other _ _ _ _ hk]; rfl
    have hI1 : Inv Try.prog (fun j => H.length ≤ j ∨ (vid (.slice (some ⟨ib, 0, none⟩) n n) = some j)) (fun q => w.heap.size ≤ q ∨ Blocks (fun j => vid (.slice (some ⟨ib, 0, none⟩) n n) = some j) H β q) H β w := hI.weaken fun j ob bj dj qj hj hobj hrw hbj => by
      rcases hj with h | h
      · have := (List.getElem?_eq_some_iff.1 hobj).1; omega
      · exact .inr ⟨j, ob, dj, qj, h, hobj, hrw, hbj⟩
    have hI2 := hI1.heir (o' := ⟨52, (l.take i ++ p :: l.drop i).flatMap Pr.cells, true⟩) hob rfl (.inr rfl) hβ (by omega) hoth
      ⟨by rw [hsz2]; exact hB.lt, hflat, fun k v hk => by
        obtain ⟨v', h1, h2⟩ := fin _ hR2 k v hk
        exact ⟨v', by rw [Nat.zero_add, cell_of_row w' b k _ 52 (0, 0) hrow]; exact h1, h2⟩, fun _ => ⟨rfl, hr63, _, inf, hrow, hinf, by rw [rowed_size f2, s1, hsz, hi2]⟩⟩
    refine ⟨.slice (some ⟨H.length, 0, none⟩) (n + 1) (n + 1), .slice (some ⟨b, 0, none⟩) (n + 1) r, _, _, he, ⟨?_, fun j hj => ?_⟩, List.prefix_append _ _, ?_, hI2, ?_, ?_⟩
    · refine .inr ⟨H.length, by rw [hnlen], (l.take i ++ p :: l.drop i).flatMap Pr.cells, by simp [Ob], Nat.le_refl _, List.take_of_length_le (Nat.le_refl _)⟩
    · have e : H.length = j := Option.some.inj hj
      omega
    · refine R.slice (o := 0) (d := 0) (r := r) ?_ hroom (fun _ => rfl)
      rw [← hI.len]; simp
    · have hb : Blocks (fun j => vid (.slice (some ⟨ib, 0, none⟩) n n) = some j) H β b := ⟨ib, _, 0, r, rfl, hob, rfl, hβ⟩
      rw [hw2]
      exact Fr.of_drew (rowed_fr w.drew b _ hb)
    · refine ⟨by simp, fun j hj hn => ?_⟩
      rw [List.getElem?_append_left (by simpa using hj), List.getElem?_set_ne (fun e => hn (by rw [← e]; rfl))]
  · -- a new row
    have hrn : r = n := by omega
    obtain ⟨q, z, hq, hq1, hq2, hq3, hq4⟩ := TT_ok.info 52 _ TT_52
    rw [hinf] at hq
    obtain rfl := Option.some.inj hq
    have hzs : z.cells.size = 2 := by
      have := congrArg List.length hq4
      simpa using this
    have hby : inf.bytes = 32 := hq2
    obtain ⟨G, hG⟩ : ∃ G, G = grownCap w (n + 1) r 52 := ⟨_, rfl⟩
    have hGn : n + 1 ≤ G := by rw [hG]; exact grownCap_ge w _ _ _
    have hGm : G ≤ maxLen := by rw [hG]; exact grownCap_le_maxLen w (n + 1) r 52 (by unfold maxLen; omega)
    have holds : (Builtin.firstCells inf.size i (.slice (some ⟨b, 0, none⟩) i r)).run Try.prog w.drew = .ok (cur.toList.take (i * 2)).toArray w.drew := by
      have h := run_loadCells_list (P := Try.prog) w.drew ⟨b, 0, none⟩ (cur.toList.take (i * 2)) (cell_row (w := w.drew) hcur 0 fun j v hj => by
        rw [List.getElem?_take] at hj
        rw [Nat.zero_add]
        split at hj
        · simpa using hj
        · cases hj)
      have hl : (cur.toList.take (i * 2)).length = i * 2 := by rw [List.length_take]; simp only [Array.length_toList]; omega
      rw [hl] at h
      simp only [Builtin.firstCells, hi2]
      exact h
    have hk : i + (n + 1 - i) = n + 1 := by omega
    have happ := fun ty => run_append_grow_zeros (P := Try.prog) w 22 3 ty 52 inf z .i64 .i64 Try.underlying22 Try.underlying3 hinf hq3 (some ⟨b, 0, none⟩) i r (cur.toList.take (i * 2)) holds (n + 1 - i) (by omega) (by omega) (by omega) (by omega) (by rw [hby]; omega) (by rw [hby, hk]; exact growslice_fits (by omega) (by omega))
    rw [hk, ← hG] at happ
    have hkc : ((n + 1 - i : Nat) : Int) = (n : Int) + 1 - (i : Int) := by omega
    rw [hkc] at happ
    obtain ⟨ROW, hROW⟩ : ∃ ROW : Array Value, ROW = (cur.toList.take (i * 2)).toArray ++ Builtin.zeroCells z.cells (n + 1 - i) ++ Builtin.zeroCells z.cells (G - (n + 1)) := ⟨_, rfl⟩
    rw [← hROW] at happ
    have hRs : ROW.size = G * 2 := by
      rw [hROW]
      simp only [Array.size_append, List.size_toArray, List.length_take, Array.length_toList, size_zeroCells, hzs]
      omega
    have hRt : ROW.toList.take (i * 2) = cur.toList.take (i * 2) := by
      rw [hROW]
      simp only [Array.toList_append, List.append_assoc]
      rw [List.take_append_of_le_length (by simp only [List.length_take, Array.length_toList]; omega), List.take_take, Nat.min_self]
    have hbsz : b < w.heap.size := hB.lt
    have hvsz : vb < w.heap.size := hBv.lt
    have hA0 : (w.drew.alloc (.cells ROW 52)).heap[w.heap.size]? = some (.cells ROW 52 (0, 0)) := heap_alloc_new w.drew _
    have hAv : (w.drew.alloc (.cells ROW 52)).heap[vb]? = some (.cells curv 52 (0, 0)) := by rw [heap_alloc_old w.drew _ hvsz]; exact hcurv
    have fA : i * 2 + xs.length ≤ ROW.size := by rw [hxl, hRs]; omega
    have sA : (rowed ROW (i * 2) xs).size = ROW.size := rowed_size fA
    have fB : (i + 1) * 2 + ms.length ≤ (rowed ROW (i * 2) xs).size := by rw [hml, sA, hRs]; omega
    have hW2 : (w.drew.alloc (.cells ROW 52)).setRow w.heap.size (rowed ROW (i * 2) xs) = w.drew.alloc (.cells (rowed ROW (i * 2) xs) 52) := setRow_alloc w.drew _ _ _
    have hB0 : (w.drew.alloc (.cells (rowed ROW (i * 2) xs) 52)).drew.heap[w.heap.size]? = some (.cells (rowed ROW (i * 2) xs) 52 (0, 0)) := heap_alloc_new w.drew _
    have hBb : (w.drew.alloc (.cells (rowed ROW (i * 2) xs) 52)).drew.heap[b]? = some (.cells cur 52 (0, 0)) := by
      show (w.drew.alloc (.cells (rowed ROW (i * 2) xs) 52)).heap[b]? = _
      rw [heap_alloc_old w.drew _ hbsz]; exact hcur
    have hmin2 : Nat.min 1 (n + 1 - i) = 1 := by simp only [Nat.min_def]; split <;> omega
    have hmin3 : Nat.min (n - i) (n - i) = n - i := by simp only [Nat.min_def]; split <;> omega
    have key := insert_grow b n r i vb vc w.heap.size G w (w.drew.alloc (.cells ROW 52)) (w.drew.alloc (.cells (rowed ROW (i * 2) xs) 52)) ((w.drew.alloc (.cells (rowed ROW (i * 2) xs) 52)).drew.setRow w.heap.size (rowed (rowed ROW (i * 2) xs) ((i + 1) * 2) ms)) hi (by omega) hnr (by omega) hGn (by unfold maxLen at hGm; omega) _ _
      happ
      (fun ty dc => by
        have h := run_copy_rowk (P := Try.prog) (w.drew.alloc (.cells ROW 52)) 22 22 ty 52 w.heap.size (i * 2) (n + 1 - i) dc 2 ⟨vb, 0, none⟩ 1 vc ROW 52 xs Try.underlying22 hinfo hA0 (by rw [hmin2, hxl]) (cell_row hAv 0 hxc) fA honev
        rw [hW2] at h
        exact h)
      (fun ty dc sc => by
        have h := run_copy_rowk (P := Try.prog) (w.drew.alloc (.cells (rowed ROW (i * 2) xs) 52)).drew 22 22 ty 52 w.heap.size ((i + 1) * 2) (n - i) dc 2 ⟨b, i * 2, none⟩ (n - i) sc (rowed ROW (i * 2) xs) 52 ms Try.underlying22 hinfo hB0 (by rw [hmin3, hml]) (cell_row hBb (i * 2) hmc) fB hmone
        exact h)
    refine key.mono fun en w' ⟨he, hw'⟩ => ?_
    have hw2 : w' = w.drew.drew.alloc (.cells (rowed (rowed ROW (i * 2) xs) ((i + 1) * 2) ms) 52) := by
      rw [hw', drew_alloc]
      exact setRow_alloc w.drew.drew _ _ _
    have hR2 : ∃ t, (rowed (rowed ROW (i * 2) xs) ((i + 1) * 2) ms).toList = cur.toList.take (i * 2) ++ xs ++ ms ++ t := by
      refine ⟨(rowed ROW (i * 2) xs).toList.drop ((i + 1) * 2 + ms.length), ?_⟩
      rw [rowed_list]
      have e1 : (rowed ROW (i * 2) xs).toList.take ((i + 1) * 2) = cur.toList.take (i * 2) ++ xs := by
        rw [rowed_list, hRt]
        have : (i + 1) * 2 = (cur.toList.take (i * 2) ++ xs).length := by rw [List.length_append, List.length_take, hxl]; simp only [Array.length_toList]; omega
        rw [this, List.take_left]
      rw [e1]
    have hd : Below w.heap.size w w.drew.drew := ((Below.refl _ _).drew).drew
    have hb2 : Below w.heap.size w w' := by
      rw [hw2]
      exact hd.alloc (Nat.le_refl _) _
    have hI1 : Inv Try.prog (fun j => H.length ≤ j ∨ (vid (.slice (some ⟨ib, 0, none⟩) n n) = some j)) (fun q => w.heap.size ≤ q ∨ Blocks (fun j => vid (.slice (some ⟨ib, 0, none⟩) n n) = some j) H β q) H β w.drew.drew := (hI.weaken fun j ob bj dj qj hj hobj hrw hbj => by
      rcases hj with h | h
      · have := (List.getElem?_eq_some_iff.1 hobj).1; omega
      · exact .inr ⟨j, ob, dj, qj, h, hobj, hrw, hbj⟩).below hd
    have hI2 := hI1.new (.inl (Nat.le_refl _)) ⟨52, (l.take i ++ p :: l.drop i).flatMap Pr.cells, true⟩ (rowed (rowed ROW (i * 2) xs) ((i + 1) * 2) ms) G inf hGm hinf (by rw [rowed_size fB, sA, hRs, hi2]) hflat (fin _ hR2)
    rw [← hw2] at hI2
    refine ⟨.slice (some ⟨H.length, 0, none⟩) (n + 1) (n + 1), .slice (some ⟨w.heap.size, 0, none⟩) (n + 1) G, _, _, he, ⟨?_, fun j hj => ?_⟩, List.prefix_append _ _, ?_, hI2, Fr.below hb2 _, ?_⟩
    · refine .inr ⟨H.length, by rw [hnlen], (l.take i ++ p :: l.drop i).flatMap Pr.cells, by simp [Ob], Nat.le_refl _, List.take_of_length_le (Nat.le_refl _)⟩
    · have e : H.length = j := Option.some.inj hj
      omega
    · refine R.slice (o := 0) (d := 0) (r := G) ?_ hGn (fun _ => rfl)
      rw [← hI.len]
      show (β ++ [(w.heap.size, 0, G)])[β.length]? = _
      simp
    · exact ⟨by simp, fun j hj _ => by rw [List.getElem?_append_left hj]⟩
end Go.Proofs.Ythalogdopkoidaa.Ab
set_option linter.unusedVariables false
set_option linter.unusedSimpArgs false
namespace Go.Proofs.Ythalogdopkoidaa.Ab
open Go Go.RowKit Go.Proofs.Ythalogdopkoidaa.Dr
set_option maxHeartbeats 4000000 in
theorem c87_end {H : AHeap} {l : List Pr} {p : Pr} {v vv : Value} (hV : PrB H v l) (hlen : l.length < 1073741824) (hP : PrS H vv [p]) :
    ACalls Try.prog 87 [v, .int .i64 (l.length : Nat), vv] H (fun j => vid v = some j) fun r H' => PrB H' r (l ++ [p]) ∧ ∀ j, vid r = some j → H.length ≤ j := by
  refine ACalls_by 95 TT_ok Try.func87 rfl rfl rfl (by simp) ?_
  have hl : PrS H v l := hV.sl
  obtain ⟨v1, _, p2, _, _, _⟩ := Sl.part Pr.len hl TT_22 rfl TT_52 rfl (by decide) (lo := l.length) (hi := l.length) (by omega) (by omega)
  have p2 := p2 rfl .i64
  have d1 : decide ((([p] : List Pr).length : Int) = 0) = false := rfl
  have d2 : decide ((l.length : Int) = (l.length : Int)) = true := decide_eq_true rfl
  refine AC_seqQ TT_ok (by simp only [go_sem] <;> rfl) ?_
  refine AC_seqQ TT_ok (by simp only [go_sem, p2] <;> rfl) ?_
  refine AC_seqQ TT_ok (by simp only [go_sem, (PrS.alen hP)] <;> rfl) ?_
  refine AC_seq ?_
  refine AC_seqQ TT_ok (by simp only [go_sem, d1] <;> rfl) ?_
  refine AC_f (by simp only [go_sem] <;> rfl) (rfl) ?_
  refine AC_skip ?_
  refine AC_seqQ TT_ok (by simp only [go_sem, hl.alen] <;> rfl) ?_
  refine AC_seq ?_
  refine AC_seqQ TT_ok (by simp only [go_sem, d2] <;> rfl) ?_
  refine AC_t (by simp only [go_sem] <;> rfl) (rfl) ?_
  refine AC_seq ?_
  refine AC_regL ?_
  refine AQ_take TT_ok 2 rfl (by simp only [go_sem] <;> rfl) ?_
  refine AQ_append TT_ok (v := v) (n := l.length) (m := ([p] : List Pr).length) TT_22 rfl TT_52 (by decide) (by decide) rfl (by simp only [go_sem]) (by simp only [go_sem]) hV hP (rows_length Pr.len _) (rows_length Pr.len _) (by show (l.length + 1) * 32 ≤ _; omega) (fun j hj => .inr hj) (.inl rfl) fun v6 H6 hX6 hB6 hv6 => ?_
  refine AQ_all TT_ok rfl (by simp only [go_sem] <;> rfl) ?_
  refine AC_ret ⟨.inl rfl, _, rfl, ?_, fun j hj => ?_⟩
  · simp only [go_sem]
    rw [PrB, List.length_append, List.flatMap_append]
    exact hB6
  · simp only [go_sem] at hj
    rcases hv6 j hj with h | ⟨h, _⟩
    · exact h
    · cases h
theorem c87 {H : AHeap} {l : List Pr} {p : Pr} {i iv : Nat} {v vv : Value} (hV : PrB H v l) (hlen : l.length < 1073741824) (hi : i ≤ l.length) (hP : Own H vv 52 1 p.cells iv) (hne : vid v ≠ some iv) :
    ACalls Try.prog 87 [v, .int .i64 (i : Nat), vv] H (fun j => vid v = some j) fun r H' => PrB H' r (l.take i ++ p :: l.drop i) ∧ ∀ j, vid r = some j → H.length ≤ j := by
  rcases Nat.lt_or_ge i l.length with h | h
  · rcases hV with ⟨_, h0, _⟩ | ⟨b, hO⟩
    · omega
    · exact c87_in hO h hlen hP (fun e => hne (by rw [hO.vid, e]))
  · have hie : i = l.length := by omega
    subst hie
    have hP' : PrS H vv [p] := hP.sl
    have := c87_end hV hlen hP'
    rw [List.take_of_length_le (Nat.le_refl _), List.drop_eq_nil_of_le (Nat.le_refl _)]
    exact this
theorem Spot.no {l : List Pr} (hm : May l) {p : Pr} {i : Nat} (h : Spot l p.key i) (hn : ¬ ∃ h : i < l.length, l[i].key = p.key) : l.take i ++ p :: l.drop i = ins l p := by
  have e : ins l p = ins (l.take i ++ l.drop i) p := by rw [List.take_append_drop]
  rw [e]
  refine (ins_at (fun x hx => ?_) (fun x hx => ?_)).symm
  · obtain ⟨j, hj, rfl⟩ := List.getElem_of_mem hx
    rw [List.length_take] at hj
    rw [List.getElem_take]
    exact h.lo j (by omega) (by omega)
  · obtain ⟨j, hj, rfl⟩ := List.getElem_of_mem hx
    rw [List.length_drop] at hj
    rw [List.getElem_drop]
    have h1 := h.hi (i + j) (by omega) (by omega)
    rcases key_tri l[i + j].key p.key with h2 | h2 | h2
    · exact absurd h2 h1
    · exfalso
      rcases Nat.eq_zero_or_pos j with h0 | h0
      · subst h0
        exact hn ⟨by omega, h2⟩
      · have h3 := hm.at (i := i) (j := i + j) (by omega) (by omega)
        rw [h2] at h3
        exact h.hi i (by omega) (Nat.le_refl _) h3
    · exact h2
theorem Spot.yes {l : List Pr} (hm : May l) {p : Pr} {i : Nat} (h : Spot l p.key i) (hi : i < l.length) (he : l[i].key = p.key) : l.set i p = ins l p := by
  have e : ins l p = ins (l.take i ++ l[i] :: l.drop (i + 1)) p := by rw [List.getElem_cons_drop, List.take_append_drop]
  rw [e, ins_mid (fun x hx => ?_) he (fun x hx => ?_), List.set_eq_take_append_cons_drop, if_pos hi]
  · obtain ⟨j, hj, rfl⟩ := List.getElem_of_mem hx
    rw [List.length_take] at hj
    rw [List.getElem_take]
    exact h.lo j (by omega) (by omega)
  · obtain ⟨j, hj, rfl⟩ := List.getElem_of_mem hx
    rw [List.length_drop] at hj
    rw [List.getElem_drop, ← he]
    exact hm.at (by omega) (by omega)
set_option maxRecDepth 100000 in
set_option maxHeartbeats 8000000 in
theorem c78 {H : AHeap} {vl : Value} {l : List Pr} {p : Pr} (hV : PrB H vl l) (hlen : l.length < 1073741824) (hm : May l) :
    ACalls Try.prog 78 [vl, p.val] H (fun j => vid vl = some j) fun v H' => PrB H' v (ins l p) ∧ ∀ j, vid v = some j → vid vl = some j ∨ H.length ≤ j := by
  refine ACalls_by 34 TT_ok Try.func78 rfl rfl rfl (by simp) ?_
  refine AC_seq ?_
  refine AC_regL ?_
  refine AQ_box TT_ok TT_52 rfl (by simp only [go_sem] <;> rfl) (Lay.pr p) rfl fun H1 hX1 hO1 hL1 => ?_
  refine AQ_all TT_ok rfl (by simp only [go_sem] <;> rfl) ?_
  have hV1 : PrB H1 vl l := Buf.keep hV hX1
  have hvl : ∀ j, vid vl = some j → j < H.length := fun j hj => PrS.vid_lt hV.sl hj
  refine AC_seq ?_
  refine AC_regL ?_
  refine AQ_take TT_ok 3 rfl (by simp only [go_sem, f52_0, hO1.load, ap52_key] <;> rfl) ?_
  refine AQ_c rfl (by simp only [go_sem] <;> rfl) fok84 (by simp only [List.map_cons, List.map_nil, List.append_nil, go_sem] <;> rfl) (c84 (key := p.key) hV1.sl (by omega) hm) (fun _ _ h => h.elim) (.inl rfl) fun r H2 hX2 ⟨i, hsp, hr⟩ => ?_
  subst hr
  have hV2 : PrB H2 vl l := Buf.keep hV1 hX2
  have hO2 := hO1.keep hX2
  have z1 := hX1.size
  have z2 := hX2.size
  have hle := hsp.le
  refine AQ_all TT_ok rfl (by simp only [go_sem] <;> rfl) ?_
  refine AC_seq (AC_block ?_)
  by_cases hth : ∃ h : i < l.length, l[i].key = p.key
  · obtain ⟨hi, hke⟩ := hth
    have dth : decide (∃ h : i < l.length, l[i].key = p.key) = true := decide_eq_true ⟨hi, hke⟩
    have hset := hsp.yes hm hi hke
    have hl2 : PrS H2 vl l := hV2.sl
    have a1 := hl2.index (k := .i64) (j := (i : Int)) (by omega) (by omega)
    rw [Int.toNat_natCast] at a1
    have a2 := hl2.load hi
    refine AC_seqQ TT_ok (by simp only [go_sem, dth, Bool.not_true] <;> rfl) ?_
    refine AC_f (by simp only [go_sem] <;> rfl) (rfl) ?_
    by_cases hpe : l[i] = p
    · have dpe : decide (l[i] = p) = true := decide_eq_true hpe
      refine AC_seqD TT_ok mixed (by kernel_rfl) (by simp only [go_sem, a1, a2, hO2.load, ap52_self, dpe, Bool.not_true] <;> rfl) ?_
      refine AC_f (by simp only [go_sem] <;> rfl) (rfl) ?_
      refine AC_skip ?_
      refine AC_seqQ TT_ok (by simp only [go_sem] <;> rfl) ?_
      refine AC_ret ⟨.inl rfl, _, rfl, ?_, fun j hj => .inl (by simp only [go_sem] at hj; exact hj)⟩
      simp only [go_sem]
      have : ins l p = l := by
        rw [← hset]
        apply List.ext_getElem
        · rw [List.length_set]
        · intro j h1 h2
          by_cases hj : i = j
          · subst hj; rw [List.getElem_set_self, hpe]
          · rw [List.getElem_set_ne hj]
      rw [this]
      exact hV2
    · have dpe : decide (l[i] = p) = false := decide_eq_false hpe
      refine AC_seqD TT_ok mixed (by kernel_rfl) (by simp only [go_sem, a1, a2, hO2.load, ap52_self, dpe, Bool.not_false] <;> rfl) ?_
      refine AC_t (by simp only [go_sem] <;> rfl) (rfl) ?_
      rcases hV2 with ⟨_, h0, _⟩ | ⟨b, hO⟩
      · omega
      have hvb := hO.vid
      refine AC_regL ?_
      refine AQ_take TT_ok 4 rfl (by simp only [go_sem, a1, hO2.load, ap52_self] <;> rfl) ?_
      refine AQ_storeE TT_ok TT_52 rfl (by simp only [go_sem] <;> rfl) (by simp only [go_sem] <;> rfl) (Lay.pr p) rfl hO (by rw [rows_length Pr.len, Pr.len]; omega) (.inr hvb) (.inl rfl) fun H8 hX8 hO8 hL8 => ?_
      rw [rows_over Pr.len l i p hi, hset] at hO8
      refine AQ_nil ?_
      refine AC_seqQ TT_ok (by simp only [go_sem] <;> rfl) ?_
      refine AC_ret ⟨.inl rfl, _, rfl, ?_, fun j hj => .inl (by simp only [go_sem] at hj; exact hj)⟩
      simp only [go_sem]
      have hil : (ins l p).length = l.length := by rw [← hset, List.length_set]
      refine .inr ⟨b, ?_⟩
      rw [hil]
      exact hO8
  · have dth : decide (∃ h : i < l.length, l[i].key = p.key) = false := decide_eq_false hth
    have hno := hsp.no hm hth
    refine AC_seqQ TT_ok (by simp only [go_sem, dth, Bool.not_false] <;> rfl) ?_
    refine AC_t (by simp only [go_sem] <;> rfl) (rfl) ?_
    refine AC_seq ?_
    refine AC_regL ?_
    refine AQ_take TT_ok 3 rfl (by simp only [go_sem, hO2.load, ap52_self] <;> rfl) ?_
    refine AQ_lit TT_ok [p.val] TT_22 rfl TT_52 rfl (by decide) rfl (by decide) rfl (by simp only [List.map_cons, List.map_nil, go_sem, numbered]) (fun v hv => by rw [List.mem_singleton] at hv; subst hv; exact ⟨_, Lay.pr _, rfl⟩) fun H3 hX3 hO3 hL3 => ?_
    have hV3 : PrB H3 vl l := Buf.keep hV2 hX3
    have hO3' : Own H3 (.slice (some ⟨H2.length, 0, none⟩) 1 1) 52 1 p.cells H2.length := hO3
    refine AQ_c rfl (by simp only [go_sem] <;> rfl) fok87 (by simp only [List.map_cons, List.map_nil, List.append_nil, go_sem] <;> rfl) (c87 (p := p) hV3 hlen hle hO3' (fun h => by have := hvl _ h; omega)) (fun j hj hM => .inr hM) (.inl rfl) fun r4 H4 hX4 ⟨hB4, hn4⟩ => ?_
    refine AQ_all TT_ok rfl (by simp only [go_sem] <;> rfl) ?_
    refine AC_ret ⟨.inl rfl, _, rfl, ?_, fun j hj => .inr ?_⟩
    · simp only [go_sem]; rw [← hno]; exact hB4
    · simp only [go_sem] at hj
      have := hn4 j hj
      omega
def perr (p : Pr) : Int := if kb p.key = true then if p.value.length ≤ 16 then 0 else 10 else 9
def pall : List Pr → List Pr → List Pr × Int
  | l, [] => (l, 0)
  | l, p :: ps => if perr p = 0 then pall (ins l p) ps else ([], perr p)
def allE (t : List Nd) (ps : List Pr) : List Nd × Int := if Isw t then (if (pall (prs t) ps).2 = 0 then (build (pall (prs t) ps).1, 0) else ([], (pall (prs t) ps).2)) else ([], 1)
theorem perr_ok {p : Pr} (h : perr p = 0) : Pok p := by
  unfold perr at h
  split at h
  · rename_i hk
    split at h
    · rename_i hv
      exact ⟨(kb_len hk).1, (kb_len hk).2, hv⟩
    · cases h
  · cases h
theorem perr_of {p : Pr} (h : Pok p) : perr p = 0 := by
  unfold perr kb
  rw [decide_eq_true h.1, decide_eq_true h.2.1]
  rw [Bool.and_self, if_pos rfl, if_pos h.2.2]
theorem pall_may : ∀ (ps l : List Pr), May l → May (pall l ps).1
  | [], l, h => h
  | p :: ps, l, h => by
    unfold pall
    split
    · rename_i hp
      exact pall_may ps _ (h.ins (perr_ok hp))
    · exact May.nil
theorem pall_len : ∀ (ps l : List Pr), (pall l ps).1.length ≤ l.length + ps.length
  | [], l => by simp [pall]
  | p :: ps, l => by
    unfold pall
    split
    · have h1 := pall_len ps (ins l p)
      have h2 := ins_len l p
      rw [List.length_cons]
      omega
    · simp
theorem pall_drop {l : List Pr} {ps : List Pr} {i : Nat} (hi : i < ps.length) : pall l (ps.drop i) = if perr ps[i] = 0 then pall (ins l ps[i]) (ps.drop (i + 1)) else ([], perr ps[i]) := by
  rw [List.drop_eq_getElem_cons hi, pall]
theorem allE_build {l : List Pr} (hm : May l) (ps : List Pr) : allE (build l) ps = if (pall l ps).2 = 0 then (build (pall l ps).1, 0) else ([], (pall l ps).2) := by
  rw [allE, if_pos (isw_build hm), prs_build hm]
theorem allE_len {t : List Nd} {ps : List Pr} : (allE t ps).1.length ≤ 17 * (t.length + ps.length) := by
  unfold allE
  split
  · split
    · dsimp only
      have h1 := build_len (pall (prs t) ps).1
      have h2 := pall_len ps (prs t)
      have h3 := prs_len t
      have : 17 * (pall (prs t) ps).1.length ≤ 17 * (t.length + ps.length) := Nat.mul_le_mul_left _ (by omega)
      omega
    · simp
  · simp
set_option maxRecDepth 100000 in
set_option maxHeartbeats 8000000 in
theorem c59 {H : AHeap} {vt vp : Value} {t : List Nd} {ps : List Pr} (hT : NdS H vt t) (ht : t.length < 2^19) (hn : ∀ n ∈ t, n.path.length < 2^30) (hP : PrS H vp ps) (hpl : ps.length < 2^18) :
    ACalls Try.prog 59 [vt, vp] H (fun _ => False) fun v H' => ∃ u, v = .tuple #[u, .int .i64 (allE t ps).2] ∧ NdB H' u (allE t ps).1 ∧ ∀ j, vid u = some j → H.length ≤ j := by
  refine ACalls_by 50 TT_ok Try.func59 rfl rfl rfl (by simp) ?_
  refine AC_seqQ TT_ok (by simp only [go_sem] <;> rfl) ?_
  refine AC_seq ?_
  refine AC_regL ?_
  refine AQ_take TT_ok 1 rfl (by simp only [go_sem] <;> rfl) ?_
  refine AQ_c rfl (by simp only [go_sem] <;> rfl) fok31 (by simp only [List.map_cons, List.map_nil, List.append_nil, go_sem] <;> rfl) (c31 hT ht hn) (fun _ _ h => h.elim) (.inl rfl) fun r H2 hX2 ⟨u, hr, hU, hun⟩ => ?_
  subst hr
  have hU : PrB H2 u (prs t) := hU
  refine AQ_all TT_ok rfl (by simp only [go_sem] <;> rfl) ?_
  have z2 := hX2.size
  have hP2 := hP.keep hX2
  have hpv : ∀ j, vid vp = some j → j < H.length := fun j hj => hP.vid_lt hj
  refine AC_seq ?_
  by_cases his : Isw t
  rotate_left
  · have hd : decide (Isw t) = false := decide_eq_false his
    refine AC_seqQ TT_ok (by simp only [go_sem, hd, Bool.not_false] <;> rfl) ?_
    refine AC_t (by simp only [go_sem] <;> rfl) (rfl) ?_
    refine AC_seqQ TT_ok (by simp only [go_sem] <;> rfl) ?_
    refine AC_ret ⟨.inl rfl, _, rfl, .slice none 0 0, ?_, ?_, fun j hj => by cases hj⟩
    · simp only [go_sem, allE, if_neg his]
    · simp only [allE, if_neg his]; exact Buf.nil _ _
  have hd : decide (Isw t) = true := decide_eq_true his
  refine AC_seqQ TT_ok (by simp only [go_sem, hd, Bool.not_true] <;> rfl) ?_
  refine AC_f (by simp only [go_sem] <;> rfl) (rfl) ?_
  refine AC_skip ?_
  have hlp := prs_len t
  have hE : ∀ l0, prs t = l0 → allE t ps = if (pall l0 ps).2 = 0 then (build (pall l0 ps).1, 0) else ([], (pall l0 ps).2) := fun l0 h => by rw [allE, if_pos his, h]
  have hE := hE _ rfl
  have hmy := prs_may t
  generalize prs t = l at hU hlp hE hmy
  refine AC_fixe (fun e' => get e' 1 = vp ∧ get e' 6 = u) ⟨by simp only [go_sem], by simp only [go_sem]⟩ (fun e2 ⟨g1, g6⟩ => ?_)
  refine AC_cut (fun e' H' => ∃ v, PrB H' v (pall l ps).1 ∧ (pall l ps).2 = 0 ∧ H.length ≤ H'.length ∧ get e' 6 = v) ?_ (fun e3 H3 _ ⟨v, hV, hp0, hsz, g6⟩ => ?_)
  · refine AC_seqQ TT_ok (by simp only [go_sem, g1, hP2.alen] <;> rfl) ?_
    refine AC_block (AC_loop (fun m e' H' => ∃ (i : Nat) (l' : List Pr) (v : Value), m = ps.length - i ∧ i ≤ ps.length ∧ pall l' (ps.drop i) = pall l ps ∧ May l' ∧ l'.length ≤ l.length + i ∧ PrB H' v l' ∧ (∀ j, vid v = some j → H.length ≤ j) ∧ H.length ≤ H'.length ∧ PrS H' vp ps ∧ get e' 6 = v ∧ get e' 19 = vp ∧ get e' 20 = .int .i64 (ps.length : Nat) ∧ get e' 21 = .int .i64 (i : Nat)) ps.length ⟨0, l, u, by simp, by simp, by simp, hmy, by simp, hU, hun, z2, hP2, by simp only [go_sem, g6], by simp only [go_sem, g1], by simp only [go_sem], by simp only [go_sem] <;> simp⟩ ?_)
    rintro m e3 H3 _ ⟨i, l', v, hmi, hi, hpa, hm', hl', hV, hvn, hsz, hP3, g6, g19, g20, g21⟩
    have k5 := wrapN i (by omega)
    refine AC_seq ?_
    refine AC_quiet TT_ok (by simp only [go_sem, g20, g21] <;> rfl) ?_
    refine AC_seq ?_
    by_cases hi' : i < ps.length
    rotate_left
    · refine AC_f (by simp only [go_sem] <;> rfl) (ge_dec (by omega)) ?_
      rw [List.drop_eq_nil_of_le (by omega), pall] at hpa
      refine AC_exit ⟨v, ?_, ?_, hsz, by simp only [go_sem, g6]⟩
      · rw [← hpa]; exact hV
      · rw [← hpa]
    refine AC_t (by simp only [go_sem] <;> rfl) (lt_dec hi') ?_
    refine AC_skip ?_
    rw [pall_drop hi'] at hpa
    have a1 := hP3.index (k := .i64) (j := (i : Int)) (by omega) (by omega)
    rw [Int.toNat_natCast] at a1
    have a2 := hP3.load hi'
    refine AC_seq (AC_block ?_)
    refine AC_seq ?_
    refine AC_regL ?_
    refine AQ_take TT_ok 2 rfl (by simp only [go_sem, g19, g21, a1, a2] <;> rfl) ?_
    refine AQ_var TT_ok TT_52 rfl (by decide) (by simp only [go_sem] <;> rfl) (Lay.pr ps[i]) rfl (.inl (by omega)) (.inl rfl) fun H4 hX4 hO4 hL4 => ?_
    refine AQ_nil ?_
    have hV4 : PrB H4 v l' := Buf.keep hV hX4
    have hP4 := hP3.keep hX4
    have z4 := hX4.size
    generalize ps[i] = p at *
    refine AC_fixe (fun e' => get e' 6 = v ∧ get e' 9 = .pointer (some ⟨H3.length, 0, none⟩) ∧ get e' 19 = vp ∧ get e' 20 = .int .i64 (ps.length : Nat) ∧ get e' 21 = .int .i64 (i : Nat)) ⟨by simp only [go_sem, g6], by simp only [go_sem], by simp only [go_sem, g19], by simp only [go_sem, g20], by simp only [go_sem, g21]⟩ (fun e4 ⟨g6, g9, g19, g20, g21⟩ => ?_)
    refine AC_seq (AC_block ?_)
    refine AC_cut (fun e' H' => H' = H4 ∧ get e' 25 = .bool (!kb p.key) ∧ get e' 6 = v ∧ get e' 9 = .pointer (some ⟨H3.length, 0, none⟩) ∧ get e' 19 = vp ∧ get e' 20 = .int .i64 (ps.length : Nat) ∧ get e' 21 = .int .i64 (i : Nat)) ?_ (fun e5 H5 _ ⟨hH, g25, g6, g9, g19, g20, g21⟩ => ?_)
    · by_cases hk0 : p.key = []
      · have d0 : decide (p.key = []) = true := decide_eq_true hk0
        have hkf : kb p.key = false := by rw [hk0]; rfl
        refine AC_quiet TT_ok (by simp only [go_sem, g9, f52_0, hO4.load, ap52_key, d0] <;> rfl) ?_
        refine ⟨rfl, ?_, by simp only [go_sem, g6], by simp only [go_sem, g9], by simp only [go_sem, g19], by simp only [go_sem, g20], by simp only [go_sem, g21]⟩
        simp only [go_sem, hkf, Bool.not_false]
      · have d0 : decide (p.key = []) = false := decide_eq_false hk0
        have hlp := List.length_pos_iff.2 hk0
        have hkd : decide ((8 : Int) < (p.key.length : Int)) = !kb p.key := by
          unfold kb
          rw [decide_eq_true (show 1 ≤ p.key.length by omega), Bool.true_and]
          by_cases h : p.key.length ≤ 8
          · rw [decide_eq_true h, decide_eq_false (by omega)]; rfl
          · rw [decide_eq_false h, decide_eq_true (by omega)]; rfl
        refine AC_quiet TT_ok (by simp only [go_sem, g9, f52_0, hO4.load, ap52_key, d0] <;> rfl) ?_
        refine ⟨rfl, ?_, by simp only [go_sem, g6], by simp only [go_sem, g9], by simp only [go_sem, g19], by simp only [go_sem, g20], by simp only [go_sem, g21]⟩
        simp only [go_sem, hkd]
    have hH' := hH.symm
    subst hH'
    cases hkb : kb p.key
    · rw [hkb] at g25
      have hpe : perr p = 9 := by unfold perr; rw [if_neg (by rw [hkb]; simp)]
      rw [hpe, if_neg (by decide)] at hpa
      rw [← hpa, if_neg (by decide)] at hE
      refine AC_t g25 rfl ?_
      refine AC_seqQ TT_ok (by simp only [go_sem] <;> rfl) ?_
      refine AC_ret ⟨.inl rfl, _, rfl, .slice none 0 0, ?_, ?_, fun j hj => by cases hj⟩
      · simp only [go_sem]; rw [hE]
      · rw [hE]; exact Buf.nil _ _
    rw [hkb] at g25
    refine AC_f g25 rfl ?_
    by_cases hv : p.value.length ≤ 16
    rotate_left
    · have dv : decide ((16 : Int) < (p.value.length : Int)) = true := decide_eq_true (by omega)
      have hpe : perr p = 10 := by unfold perr; rw [if_pos hkb, if_neg hv]
      rw [hpe, if_neg (by decide)] at hpa
      rw [← hpa, if_neg (by decide)] at hE
      refine AC_seqQ TT_ok (by simp only [go_sem, g9, f52_1, hO4.load, ap52_value, dv] <;> rfl) ?_
      refine AC_t (by simp only [go_sem] <;> rfl) (rfl) ?_
      refine AC_seqQ TT_ok (by simp only [go_sem] <;> rfl) ?_
      refine AC_ret ⟨.inl rfl, _, rfl, .slice none 0 0, ?_, ?_, fun j hj => by cases hj⟩
      · simp only [go_sem]; rw [hE]
      · rw [hE]; exact Buf.nil _ _
    have dv : decide ((16 : Int) < (p.value.length : Int)) = false := decide_eq_false (by omega)
    have hpe : perr p = 0 := by unfold perr; rw [if_pos hkb, if_pos hv]
    rw [hpe, if_pos rfl] at hpa
    refine AC_seqQ TT_ok (by simp only [go_sem, g9, f52_1, hO4.load, ap52_value, dv] <;> rfl) ?_
    refine AC_f (by simp only [go_sem] <;> rfl) (rfl) ?_
    refine AC_skip ?_
    have hil := ins_len l' p
    refine AC_regL ?_
    refine AQ_take TT_ok 2 rfl (by simp only [go_sem, g6, g9, hO4.load, ap52_self] <;> rfl) ?_
    refine AQ_c rfl (by simp only [go_sem] <;> rfl) fok78 (by simp only [List.map_cons, List.map_nil, List.append_nil, go_sem] <;> rfl) (c78 (p := p) hV4 (by omega) hm') (fun j hj hM => .inl (hvn j hM)) (.inl rfl) fun r6 H6 hX6 ⟨hV6, hn6⟩ => ?_
    refine AQ_all TT_ok rfl (by simp only [go_sem] <;> rfl) ?_
    have z6 := hX6.size
    refine AC_quiet TT_ok (by simp only [go_sem, g21, k5] <;> rfl) ?_
    refine ⟨ps.length - (i + 1), by omega, i + 1, ins l' p, r6, rfl, by omega, hpa, hm'.ins (perr_ok hpe), by omega, hV6, fun j hj => ?_, by omega, hP4.ext hX6 (fun j _ hj hv => by have := hvn j hv; have := hpv j hj; omega), by simp only [go_sem], by simp only [go_sem, g19], by simp only [go_sem, g20], by simp only [go_sem]⟩
    rcases hn6 j hj with h | h
    · exact hvn j h
    · omega
  · rw [if_pos hp0] at hE
    rw [hE]
    have hpm := pall_may ps l hmy
    have hpn := pall_len ps l
    have hV' : PrS H3 v (pall l ps).1 := hV.sl
    generalize (pall l ps).1 = l2 at *
    refine AC_seq ?_
    refine AC_regL ?_
    refine AQ_take TT_ok 1 rfl (by simp only [go_sem, g6] <;> rfl) ?_
    refine AQ_c rfl (by simp only [go_sem] <;> rfl) fok29 (by simp only [List.map_cons, List.map_nil, List.append_nil, go_sem] <;> rfl) (c29 hV' (by omega)) (fun _ _ h => h.elim) (.inl rfl) fun r H5 hX5 ⟨vu, hr, hB5, hvn⟩ => ?_
    subst hr
    rw [if_pos hpm] at hB5
    refine AQ_all TT_ok rfl (by simp only [go_sem] <;> rfl) ?_
    refine AC_seqQ TT_ok (by simp only [go_sem] <;> rfl) ?_
    exact AC_ret ⟨.inl rfl, _, rfl, vu, by simp only [go_sem], hB5, fun j hj => by have := hvn j hj; omega⟩
set_option maxHeartbeats 4000000 in
theorem c57 {H : AHeap} {vt : Value} {t : List Nd} {p : Pr} (hT : NdS H vt t) (ht : t.length < 2^19) (hn : ∀ n ∈ t, n.path.length < 2^30) :
    ACalls Try.prog 57 [vt, S p.key, S p.value] H (fun _ => False) fun v H' => ∃ u, v = .tuple #[u, .int .i64 (allE t [p]).2] ∧ NdB H' u (allE t [p]).1 ∧ ∀ j, vid u = some j → H.length ≤ j := by
  refine ACalls_by 16 TT_ok Try.func57 rfl rfl rfl (by simp) ?_
  refine AC_seqQ TT_ok (by simp only [go_sem] <;> rfl) ?_
  refine AC_seq ?_
  refine AC_regL ?_
  refine AQ_take TT_ok 4 rfl (by simp only [go_sem, List.map_cons, List.map_nil, bp52] <;> rfl) ?_
  refine AQ_lit TT_ok [p.val] TT_22 rfl TT_52 rfl (by decide) rfl (by decide) rfl (by simp only [List.map_cons, List.map_nil, go_sem, numbered] <;> rfl) (fun v hv => by rw [List.mem_singleton] at hv; subst hv; exact ⟨_, Lay.pr _, rfl⟩) fun H3 hX3 hO3 hL3 => ?_
  have hP3 : PrS H3 (.slice (some ⟨H.length, 0, none⟩) 1 1) [p] := hO3.sl
  refine AQ_c rfl (by simp only [go_sem] <;> rfl) fok59 (by simp only [List.map_cons, List.map_nil, List.append_nil, go_sem] <;> rfl) (c59 (hT.keep hX3) ht hn hP3 (by simp)) (fun _ _ h => h.elim) (.inl rfl) fun r H4 hX4 ⟨u, hr, hU, hun⟩ => ?_
  subst hr
  have z3 := hX3.size
  refine AQ_all TT_ok rfl (by simp only [go_sem] <;> rfl) ?_
  exact AC_ret ⟨.inl rfl, _, rfl, u, by simp only [go_sem], hU, fun j hj => by have := hun j hj; omega⟩
end Go.Proofs.Ythalogdopkoidaa.Ab
set_option linter.unusedVariables false
set_option linter.unusedSimpArgs false
namespace Go.Proofs.Ythalogdopkoidaa.Ab
open Go Go.RowKit Go.Proofs.Ythalogdopkoidaa.Dr
theorem allE_step {l : List Pr} (hm : May l) (p : Pr) : allE (build l) [p] = if perr p = 0 then (build (ins l p), 0) else ([], perr p) := by
  rw [allE_build hm]
  simp only [pall]
  by_cases h : perr p = 0
  · simp only [if_pos h, if_true]
  · simp only [if_neg h]
set_option maxRecDepth 100000 in
set_option maxHeartbeats 8000000 in
theorem c58 {H : AHeap} {vt : Value} {t : List Nd} {p : Pr} (hT : NdS H vt t) (ht : t.length < 2^19) (hn : ∀ n ∈ t, n.path.length < 2^30) :
    ACalls Try.prog 58 [vt, S p.key, S p.value] H (fun _ => False) fun v H' => ∃ u, v = .tuple #[u, .int .i64 (allE t [p]).2] ∧ NdB H' u (allE t [p]).1 ∧ ∀ j, vid u = some j → H.length ≤ j := by
  refine ACalls_by 30 TT_ok Try.func58 rfl rfl rfl (by simp) ?_
  refine AC_seqQ TT_ok (by simp only [go_sem] <;> rfl) ?_
  refine AC_seq ?_
  refine AC_regL ?_
  refine AQ_take TT_ok 1 rfl (by simp only [go_sem] <;> rfl) ?_
  refine AQ_c rfl (by simp only [go_sem] <;> rfl) fok32 (by simp only [List.map_cons, List.map_nil, List.append_nil, go_sem] <;> rfl) (c32 hT ht hn) (fun _ _ h => h.elim) (.inl rfl) fun r H2 hX2 ⟨u, hr, hU, hun⟩ => ?_
  subst hr
  have hu2 : PrS H2 u (prs t) := hU.sl
  refine AQ_var TT_ok TT_37 rfl (by decide) (by simp only [go_sem] <;> rfl) (Lay.two hu2.one (One.bool _)) rfl (.inl (by have := hX2.size; omega)) (.inl rfl) fun H3 hX3 hO3 hL3 => ?_
  refine AQ_nil ?_
  have hu3 := hu2.keep hX3
  have z2 := hX2.size
  have z3 := hX3.size
  refine AC_fixe (fun e' => get e' 1 = S p.key ∧ get e' 2 = S p.value ∧ get e' 8 = .pointer (some ⟨H2.length, 0, none⟩)) ⟨by simp only [go_sem], by simp only [go_sem], by simp only [go_sem]⟩ (fun e2 ⟨g1, g2, g8⟩ => ?_)
  refine AC_seq (AC_block ?_)
  by_cases his : Isw t
  rotate_left
  · have hd : decide (Isw t) = false := decide_eq_false his
    rw [hd] at hO3
    refine AC_seqQ TT_ok (by simp only [go_sem, g8, f37_1, hO3.load, ap37_1, Bool.not_false] <;> rfl) ?_
    refine AC_t (by simp only [go_sem] <;> rfl) (rfl) ?_
    refine AC_seqQ TT_ok (by simp only [go_sem] <;> rfl) ?_
    refine AC_ret ⟨.inl rfl, _, rfl, .slice none 0 0, ?_, ?_, fun j hj => by cases hj⟩
    · simp only [go_sem, allE, if_neg his]
    · simp only [allE, if_neg his]; exact Buf.nil _ _
  have hd : decide (Isw t) = true := decide_eq_true his
  rw [hd] at hO3
  refine AC_seqQ TT_ok (by simp only [go_sem, g8, f37_1, hO3.load, ap37_1, Bool.not_true] <;> rfl) ?_
  refine AC_f (by simp only [go_sem] <;> rfl) (rfl) ?_
  have hlp := prs_len t
  have hmy := prs_may t
  have hE : allE t [p] = if perr p = 0 then (build (ins (prs t) p), 0) else ([], perr p) := by
    have h := allE_step hmy p
    rwa [← isw_prs his] at h
  generalize prs t = l at hu2 hu3 hlp hE hmy
  refine AC_seq ?_
  refine AC_regL ?_
  refine AQ_take TT_ok 1 rfl (by simp only [go_sem, g1] <;> rfl) ?_
  refine AQ_c rfl (by simp only [go_sem] <;> rfl) fok48 (by simp only [List.map_cons, List.map_nil, List.append_nil, go_sem] <;> rfl) (c48 (k := p.key)) (fun _ _ h => h.elim) (.inl rfl) fun r H4 hX4 ⟨hr, hH⟩ => ?_
  have hH' := hH.symm
  subst hr hH'
  cases hkb : kb p.key
  · have hpe : perr p = 9 := by unfold perr; rw [if_neg (by rw [hkb]; simp)]
    rw [hpe, if_neg (by decide)] at hE
    refine AQ_all TT_ok rfl (by simp only [go_sem, Bool.not_false] <;> rfl) ?_
    refine AC_t (by simp only [go_sem] <;> rfl) (rfl) ?_
    refine AC_seqQ TT_ok (by simp only [go_sem] <;> rfl) ?_
    refine AC_ret ⟨.inl rfl, _, rfl, .slice none 0 0, ?_, ?_, fun j hj => by cases hj⟩
    · simp only [go_sem]; rw [hE]
    · rw [hE]; exact Buf.nil _ _
  refine AQ_all TT_ok rfl (by simp only [go_sem, Bool.not_true] <;> rfl) ?_
  refine AC_f (by simp only [go_sem] <;> rfl) (rfl) ?_
  by_cases hv : p.value.length ≤ 16
  rotate_left
  · have dv : decide ((16 : Int) < (p.value.length : Int)) = true := decide_eq_true (by omega)
    have hpe : perr p = 10 := by unfold perr; rw [if_pos hkb, if_neg hv]
    rw [hpe, if_neg (by decide)] at hE
    refine AC_seqQ TT_ok (by simp only [go_sem, g2, dv] <;> rfl) ?_
    refine AC_t (by simp only [go_sem] <;> rfl) (rfl) ?_
    refine AC_seqQ TT_ok (by simp only [go_sem] <;> rfl) ?_
    refine AC_ret ⟨.inl rfl, _, rfl, .slice none 0 0, ?_, ?_, fun j hj => by cases hj⟩
    · simp only [go_sem]; rw [hE]
    · rw [hE]; exact Buf.nil _ _
  have dv : decide ((16 : Int) < (p.value.length : Int)) = false := decide_eq_false (by omega)
  have hpe : perr p = 0 := by unfold perr; rw [if_pos hkb, if_pos hv]
  rw [hpe, if_pos rfl] at hE
  rw [hE]
  refine AC_seqQ TT_ok (by simp only [go_sem, g2, dv] <;> rfl) ?_
  refine AC_f (by simp only [go_sem] <;> rfl) (rfl) ?_
  refine AC_skip ?_
  have hil := ins_len l p
  refine AC_seq ?_
  refine AC_regL ?_
  refine AQ_take TT_ok 4 rfl (by simp only [go_sem, g1, g2, g8, f37_0, hO3.load, apf22 hu3] <;> rfl) ?_
  refine AQ_c rfl (by simp only [go_sem] <;> rfl) fok77 (by simp only [List.map_cons, List.map_nil, List.append_nil, go_sem] <;> rfl) (c77 (p := p) hu3 (by omega) hmy) (fun _ _ h => h.elim) (.inl rfl) fun r5 H5 hX5 ⟨hV5, hn5⟩ => ?_
  refine AQ_c rfl (by simp only [go_sem] <;> rfl) fok30 (by simp only [List.map_cons, List.map_nil, List.append_nil, go_sem] <;> rfl) (c30 hV5.sl (by omega)) (fun _ _ h => h.elim) (.inl rfl) fun r H6 hX6 ⟨vu, vq, hr, hT6, _, hvu, _⟩ => ?_
  subst hr
  rw [if_pos (hmy.ins (perr_ok hpe))] at hT6
  have z5 := hX5.size
  refine AQ_all TT_ok rfl (by simp only [go_sem, (pick32 hT6.sl), List.map_cons, List.map_nil] <;> rfl) ?_
  exact AC_ret ⟨.inl rfl, _, rfl, vu, by simp only [go_sem], hT6, fun j hj => by have := hvu j hj; omega⟩
set_option maxRecDepth 100000 in
set_option maxHeartbeats 8000000 in
theorem c60 {H : AHeap} {vt vp : Value} {t : List Nd} {ps : List Pr} (hT : NdS H vt t) (ht : t.length < 2^16) (hn : ∀ n ∈ t, n.path.length < 2^30) (hP : PrS H vp ps) (hpl : ps.length ≤ 3000) (htl : (prs t).length ≤ 4000) :
    ACalls Try.prog 60 [vt, vp] H (fun _ => False) fun v H' => ∃ u, v = .tuple #[u, .int .i64 (allE t ps).2] ∧ NdS H' u (allE t ps).1 := by
  refine ACalls_by 38 TT_ok Try.func60 rfl rfl rfl (by simp) ?_
  refine AC_seqQ TT_ok (by simp only [go_sem] <;> rfl) ?_
  refine AC_seq ?_
  refine AC_seq ?_
  refine AC_regL ?_
  refine AQ_take TT_ok 1 rfl (by simp only [go_sem] <;> rfl) ?_
  refine AQ_c rfl (by simp only [go_sem] <;> rfl) fok75 (by simp only [List.map_cons, List.map_nil, List.append_nil, go_sem] <;> rfl) (c75 hT (by omega) hn) (fun _ _ h => h.elim) (.inl rfl) fun r H2 hX2 hr => ?_
  subst hr
  by_cases his : Isw t
  rotate_left
  · have hd : decide (Isw t) = false := decide_eq_false his
    refine AQ_all TT_ok rfl (by simp only [go_sem, hd, Bool.not_false] <;> rfl) ?_
    refine AC_t (by simp only [go_sem] <;> rfl) (rfl) ?_
    refine AC_seqQ TT_ok (by simp only [go_sem] <;> rfl) ?_
    refine AC_ret ⟨.inl rfl, _, rfl, .slice none 0 0, ?_, ?_⟩
    · simp only [go_sem, allE, if_neg his]
    · simp only [allE, if_neg his]; exact .inl ⟨rfl, rfl, rfl⟩
  have hd : decide (Isw t) = true := decide_eq_true his
  refine AQ_all TT_ok rfl (by simp only [go_sem, hd, Bool.not_true] <;> rfl) ?_
  refine AC_f (by simp only [go_sem] <;> rfl) (rfl) ?_
  refine AC_skip ?_
  have hmy := prs_may t
  have hE : ∀ l0, prs t = l0 → allE t ps = if (pall l0 ps).2 = 0 then (build (pall l0 ps).1, 0) else ([], (pall l0 ps).2) := fun l0 h => by rw [allE, if_pos his, h]
  have hE := hE _ rfl
  have htb := isw_prs his
  generalize prs t = l at hE hmy htl htb
  subst htb
  have hT2 := hT.keep hX2
  have hP2 := hP.keep hX2
  refine AC_fixe (fun e' => get e' 0 = vt ∧ get e' 1 = vp) ⟨by simp only [go_sem], by simp only [go_sem]⟩ (fun e2 ⟨g0, g1⟩ => ?_)
  refine AC_cut (fun e' H' => ∃ v, NdS H' v (build (pall l ps).1) ∧ (pall l ps).2 = 0 ∧ get e' 0 = v) ?_ (fun e3 H3 _ ⟨v, hV, hp0, g0⟩ => ?_)
  · refine AC_seqQ TT_ok (by simp only [go_sem] <;> rfl) ?_
    refine AC_block (AC_loop (fun m e' H' => ∃ (i : Nat) (l' : List Pr) (v : Value), m = ps.length - i ∧ i ≤ ps.length ∧ pall l' (ps.drop i) = pall l ps ∧ May l' ∧ l'.length ≤ l.length + i ∧ NdS H' v (build l') ∧ PrS H' vp ps ∧ get e' 0 = v ∧ get e' 1 = vp ∧ get e' 6 = .int .i64 (i : Nat)) ps.length ⟨0, l, vt, by simp, by simp, by simp, hmy, by simp, hT2, hP2, by simp only [go_sem, g0], by simp only [go_sem, g1], by simp only [go_sem] <;> simp⟩ ?_)
    rintro m e3 H3 _ ⟨i, l', v, hmi, hi, hpa, hm', hl', hV, hP3, g0, g1, g6⟩
    have k5 := wrapN i (by omega)
    refine AC_seq ?_
    refine AC_seqQ TT_ok (by simp only [go_sem, g1, g6, hP3.alen] <;> rfl) ?_
    by_cases hi' : i < ps.length
    rotate_left
    · refine AC_f (by simp only [go_sem] <;> rfl) (ge_dec (by omega)) ?_
      rw [List.drop_eq_nil_of_le (by omega), pall] at hpa
      refine AC_exit ⟨v, ?_, ?_, by simp only [go_sem, g0]⟩
      · rw [← hpa]; exact hV
      · rw [← hpa]
    refine AC_t (by simp only [go_sem] <;> rfl) (lt_dec hi') ?_
    refine AC_skip ?_
    rw [pall_drop hi'] at hpa
    have a1 := hP3.index (k := .i64) (j := (i : Int)) (by omega) (by omega)
    rw [Int.toNat_natCast] at a1
    have a2 := hP3.f0 hi'
    have a3 := hP3.key hi'
    have a4 := hP3.f1 hi'
    have a5 := hP3.value hi'
    have hbl := build_len l'
    have hbp := build_path hm'
    have hst := allE_step hm' ps[i]
    refine AC_seq (AC_block ?_)
    generalize ps[i] = p at *
    refine AC_seq ?_
    refine AC_regD [] mixed (by kernel_rfl) ?_
    refine AQ_take TT_ok 11 rfl (by simp only [go_sem, g0, g1, g6, a1, a2, a3, a4, a5] <;> rfl) ?_
    refine AQ_c rfl (by simp only [go_sem] <;> rfl) fok58 (by simp only [List.map_cons, List.map_nil, List.append_nil, go_sem] <;> rfl) (c58 (p := p) hV (by omega) (fun n hn => by have := hbp n hn; omega)) (fun _ _ h => h.elim) (.inr (.inr fun _ _ h => h)) fun r H4 hX4 ⟨u, hr, hU, _⟩ => ?_
    rw [hst] at hr hU
    subst hr
    refine AQ_all TT_ok rfl (by simp only [go_sem] <;> rfl) ?_
    have hP4 := hP3.keep hX4
    by_cases hpe : perr p = 0
    · rw [if_pos hpe] at hpa hU
      have hU : NdS H4 u (build (ins l' p)) := hU.sl
      have he0 : (if perr p = 0 then (build (ins l' p), (0 : Int)) else ([], perr p)).2 = 0 := by rw [if_pos hpe]
      have hil := ins_len l' p
      have d0 : decide ((0 : Int) = 0) = true := rfl
      refine AC_seq ?_
      refine AC_seqQ TT_ok (by simp only [go_sem, he0, d0, Bool.not_true] <;> rfl) ?_
      refine AC_f (by simp only [go_sem] <;> rfl) (rfl) ?_
      refine AC_skip ?_
      refine AC_quiet TT_ok (by simp only [go_sem] <;> rfl) ?_
      refine AC_quiet TT_ok (by simp only [go_sem, g6, k5] <;> rfl) ?_
      exact ⟨ps.length - (i + 1), by omega, i + 1, ins l' p, u, rfl, by omega, hpa, hm'.ins (perr_ok hpe), by omega, hU, hP4, by simp only [go_sem], by simp only [go_sem, g1], by simp only [go_sem]⟩
    · rw [if_neg hpe] at hpa hU
      have he0 : (if perr p = 0 then (build (ins l' p), (0 : Int)) else ([], perr p)).2 = perr p := by rw [if_neg hpe]
      have d0 : decide (perr p = 0) = false := decide_eq_false hpe
      rw [← hpa, if_neg hpe] at hE
      refine AC_seq ?_
      refine AC_seqQ TT_ok (by simp only [go_sem, he0, d0, Bool.not_false] <;> rfl) ?_
      refine AC_t (by simp only [go_sem] <;> rfl) (rfl) ?_
      refine AC_seqQ TT_ok (by simp only [go_sem, he0] <;> rfl) ?_
      refine AC_ret ⟨.inl rfl, _, rfl, .slice none 0 0, ?_, ?_⟩
      · simp only [go_sem]; rw [hE]
      · rw [hE]; exact .inl ⟨rfl, rfl, rfl⟩
  · rw [if_pos hp0] at hE
    rw [hE]
    refine AC_seqQ TT_ok (by simp only [go_sem, g0] <;> rfl) ?_
    exact AC_ret ⟨.inl rfl, _, rfl, v, by simp only [go_sem], hV⟩
def pa1 : List Pr := [⟨[97], [49]⟩]
def pa3 : List Pr := [⟨[97, 98], [50]⟩, ⟨[98], []⟩, ⟨[97], [51]⟩]
def paz : List Pr := [⟨[97], [51]⟩, ⟨[97, 98], [50]⟩, ⟨[98], []⟩]
theorem pa1_may : May pa1 := by decide
theorem paz_may : May paz := by decide
def lv : List UInt8 := [48, 49, 50, 51, 52, 53, 54, 55, 56, 57, 97, 98, 99, 100, 101, 102, 103]
set_option maxRecDepth 100000 in
set_option maxHeartbeats 8000000 in
theorem c56 {H : AHeap} : ACalls Try.prog 56 [] H (fun _ => False) fun v H' => v = .bool true := by
  refine ACalls_by 61 TT_ok Try.func56 rfl rfl rfl (by simp) ?_
  obtain ⟨l1, n1⟩ := may_small pa1_may (by decide)
  obtain ⟨l2, n2⟩ := may_small paz_may (by decide)
  have hb1 : (build pa1).length = 1 := by decide +kernel
  have hE1 : allE [] [⟨[97], [49]⟩] = (build pa1, 0) := by
    have : ([] : List Nd) = build [] := rfl
    rw [this, allE_build May.nil]; rfl
  have hE2 : allE (build pa1) pa3 = (build paz, 0) := by
    rw [allE_build pa1_may]
    have : pall pa1 pa3 = (paz, 0) := by decide +kernel
    rw [this]; rfl
  have hE3 : allE (build pa1) [⟨[], [49]⟩] = ([], 9) := by
    rw [allE_build pa1_may]
    have : pall pa1 [⟨[], [49]⟩] = ([], 9) := by decide +kernel
    rw [this]; rfl
  have hE4 : allE (build pa1) [⟨[97], lv⟩] = ([], 10) := by
    rw [allE_build pa1_may]
    have : pall pa1 [⟨[97], lv⟩] = ([], 10) := by decide +kernel
    rw [this]; rfl
  generalize hT1 : build pa1 = T1 at *
  generalize hT2 : build paz = T2 at *
  refine AC_seqQ TT_ok (by simp only [go_sem] <;> rfl) ?_
  refine AC_seq ?_
  refine AC_regL ?_
  refine AQ_c rfl (by simp only [go_sem] <;> rfl) fok57 (by simp only [List.map_cons, List.map_nil, List.append_nil, go_sem] <;> rfl) (c57 (p := ⟨[97], [49]⟩) (nil_nds H) (by decide) (by simp)) (fun _ _ h => h.elim) (.inl rfl) fun r H2 hX2 ⟨vt, hr, hA, _⟩ => ?_
  rw [hE1] at hr hA
  subst hr
  have hA2 : NdS H2 vt T1 := hA.sl
  refine AQ_all TT_ok rfl (by simp only [go_sem] <;> rfl) ?_
  refine AC_fixe (fun e' => get e' 1 = vt ∧ get e' 2 = .int .i64 0) ⟨by simp only [go_sem], by simp only [go_sem]⟩ (fun e2 ⟨g1, g2⟩ => ?_)
  refine AC_seq ?_
  refine AC_regL ?_
  refine AQ_take TT_ok 4 rfl (by simp only [go_sem, g1, List.map_cons, List.map_nil, bp52, bp52a] <;> rfl) ?_
  refine AQ_lit TT_ok (pa3.map Pr.val) TT_22 rfl TT_52 rfl (by decide) rfl (by decide) rfl (by simp only [pa3, List.map_cons, List.map_nil, go_sem, numbered]) (Lay.prs _) fun H3 hX3 hO3 hL3 => ?_
  have hP3 := Own.pairs pa3 rfl hO3
  have hA3 := hA2.keep hX3
  refine AQ_c rfl (by simp only [go_sem] <;> rfl) fok59 (by simp only [List.map_cons, List.map_nil, List.append_nil, go_sem] <;> rfl) (c59 hA3 l1 n1 hP3.sl (by decide)) (fun _ _ h => h.elim) (.inl rfl) fun r H4 hX4 ⟨vu, hr, hU, _⟩ => ?_
  rw [hE2] at hr hU
  subst hr
  have hU4 : NdS H4 vu T2 := hU.sl
  have hA4 := hA3.keep hX4
  refine AQ_all TT_ok rfl (by simp only [go_sem] <;> rfl) ?_
  refine AC_fixe (fun e' => get e' 1 = vt ∧ get e' 2 = .int .i64 0 ∧ get e' 3 = vu ∧ get e' 4 = .int .i64 0) ⟨by simp only [go_sem, g1], by simp only [go_sem, g2], by simp only [go_sem], by simp only [go_sem]⟩ (fun e4 ⟨g1, g2, g3, g4⟩ => ?_)
  refine AC_seq ?_
  refine AC_regL ?_
  refine AQ_take TT_ok 1 rfl (by simp only [go_sem, g1] <;> rfl) ?_
  refine AQ_c rfl (by simp only [go_sem] <;> rfl) fok57 (by simp only [List.map_cons, List.map_nil, List.append_nil, go_sem] <;> rfl) (c57 (p := ⟨[], [49]⟩) hA4 l1 n1) (fun _ _ h => h.elim) (.inl rfl) fun r H5 hX5 ⟨v5, hr, _, _⟩ => ?_
  rw [hE3] at hr
  subst hr
  have hA5 := hA4.keep hX5
  have hU5 := hU4.keep hX5
  refine AQ_all TT_ok rfl (by simp only [go_sem] <;> rfl) ?_
  refine AC_fixe (fun e' => get e' 1 = vt ∧ get e' 2 = .int .i64 0 ∧ get e' 3 = vu ∧ get e' 4 = .int .i64 0 ∧ get e' 6 = .int .i64 9) ⟨by simp only [go_sem, g1], by simp only [go_sem, g2], by simp only [go_sem, g3], by simp only [go_sem, g4], by simp only [go_sem]⟩ (fun e5 ⟨g1, g2, g3, g4, g6⟩ => ?_)
  refine AC_seq ?_
  refine AC_regL ?_
  refine AQ_take TT_ok 1 rfl (by simp only [go_sem, g1] <;> rfl) ?_
  refine AQ_c rfl (by simp only [go_sem] <;> rfl) fok57 (by simp only [List.map_cons, List.map_nil, List.append_nil, go_sem] <;> rfl) (c57 (p := ⟨[97], lv⟩) hA5 l1 n1) (fun _ _ h => h.elim) (.inl rfl) fun r H6 hX6 ⟨v6, hr, _, _⟩ => ?_
  rw [hE4] at hr
  subst hr
  have hA6 := hA5.keep hX6
  have hU6 := hU5.keep hX6
  refine AQ_all TT_ok rfl (by simp only [go_sem] <;> rfl) ?_
  refine AC_fixe (fun e' => get e' 1 = vt ∧ get e' 2 = .int .i64 0 ∧ get e' 3 = vu ∧ get e' 4 = .int .i64 0 ∧ get e' 6 = .int .i64 9 ∧ get e' 8 = .int .i64 10) ⟨by simp only [go_sem, g1], by simp only [go_sem, g2], by simp only [go_sem, g3], by simp only [go_sem, g4], by simp only [go_sem, g6], by simp only [go_sem]⟩ (fun e6 ⟨g1, g2, g3, g4, g6, g8⟩ => ?_)
  have e0 : decide ((0 : Int) = 0) = true := rfl
  have e9 : decide ((9 : Int) = 9) = true := rfl
  have e10 : decide ((10 : Int) = 10) = true := rfl
  have dl : decide ((T1.length : Int) = 1) = true := decide_eq_true (by rw [hb1]; rfl)
  have dT : decide (T2 = T2) = true := decide_eq_true rfl
  refine AC_seq ?_
  refine AC_regL ?_
  refine AQ_take TT_ok 8 rfl (by simp only [go_sem, g1, g2, hA6.alen, dl, e0] <;> rfl) ?_
  simp only [List.drop_succ_cons, List.drop_zero]
  refine AQ_take TT_ok 8 rfl (by simp only [go_sem, g3, g4, e0, List.map_cons, List.map_nil, bp52, bp52a] <;> rfl) ?_
  simp only [List.drop_succ_cons, List.drop_zero]
  refine AQ_lit TT_ok (paz.map Pr.val) TT_22 rfl TT_52 rfl (by decide) rfl (by decide) rfl (by simp only [paz, List.map_cons, List.map_nil, go_sem, numbered]) (Lay.prs _) fun H7 hX7 hO7 hL7 => ?_
  have hP7 := Own.pairs paz rfl hO7
  refine AQ_c rfl (by simp only [go_sem] <;> rfl) fok30 (by simp only [List.map_cons, List.map_nil, List.append_nil, go_sem] <;> rfl) (c30 hP7.sl (by decide)) (fun _ _ h => h.elim) (.inl rfl) fun r H8 hX8 ⟨vb, vq, hr, hB, _, _, _⟩ => ?_
  subst hr
  rw [if_pos paz_may, hT2] at hB
  have hB : NdS H8 vb T2 := hB.sl
  refine AQ_take TT_ok 1 rfl (by simp only [go_sem, (pick32 hB)] <;> rfl) ?_
  refine AQ_c rfl (by simp only [go_sem] <;> rfl) fok34 (by simp only [List.map_cons, List.map_nil, List.append_nil, go_sem] <;> rfl) (c34 ((hU6.keep hX7).keep hX8) hB (by omega)) (fun _ _ h => h.elim) (.inl rfl) fun r Hc hXc ⟨hr, hH⟩ => ?_
  have hH' := hH.symm
  subst hr hH'
  refine AQ_all TT_ok rfl (by simp only [go_sem, g6, g8, e9, e10, dT] <;> rfl) ?_
  exact AC_ret ⟨.inl rfl, _, rfl, by simp only [go_sem]⟩
end Go.Proofs.Ythalogdopkoidaa.Ab
set_option linter.unusedVariables false
set_option linter.unusedSimpArgs false
namespace Go.Proofs.Ythalogdopkoidaa.Ab
open Go Go.RowKit Go.Proofs.Ythalogdopkoidaa.Dr
set_option maxRecDepth 100000 in
set_option maxHeartbeats 16000000 in
theorem c20 {H : AHeap} {vt vl : Value} {t : List Nd} {l : List Pr} {p : Pr} (ht : NdS H vt t) (hl : PrS H vl l) : ACalls Try.prog 20 [vt, p.val, vl] H (fun _ => False) fun v H' => v = .bool true := by
  refine ACalls_by 106 TT_ok Try.func20 rfl rfl rfl (by simp) ?_
  refine AC_seq ?_
  refine AC_regL ?_
  refine AQ_box TT_ok TT_52 rfl (by simp only [go_sem] <;> rfl) (Lay.pr p) rfl fun H1 hX1 hO1 hL1 => ?_
  refine AQ_all TT_ok rfl (by simp only [go_sem] <;> rfl) ?_
  have ht := ht.keep hX1
  have hl := hl.keep hX1
  have z1 := hX1.size
  refine AC_cut (fun e' H' => H1 = H' ∧ szN t ≤ 4000 ∧ szP l ≤ 3000 ∧ get e' 0 = vt ∧ get e' 2 = vl ∧ get e' 4 = .pointer (some ⟨H.length, 0, none⟩)) ?_ (fun e1 H2 _ ⟨hH, hsT, hsP, g0, g2, g4⟩ => ?_)
  · refine AC_cut (fun e' H' => H1 = H' ∧ ∃ b, get e' 37 = .bool b ∧ (b = false → szN t ≤ 4000 ∧ szP l ≤ 3000) ∧ get e' 0 = vt ∧ get e' 2 = vl ∧ get e' 4 = .pointer (some ⟨H.length, 0, none⟩)) ?_ (fun e1 H2 _ ⟨hH, b, hcnd, hb, g0, g2, g4⟩ => ?_)
    · refine AC_regL ?_
      refine AQ_take TT_ok 1 rfl (by simp only [go_sem] <;> rfl) ?_
      refine AQ_c rfl (by simp only [go_sem] <;> rfl) fok27 (by simp only [List.map_cons, List.map_nil, List.append_nil, go_sem] <;> rfl) (c27 ht) (fun _ _ h => h.elim) (.inl rfl) fun r H2 hX2 ⟨hH, b1, hr, hb1⟩ => ?_
      subst hr hH
      cases b1
      · refine AQ_take TT_ok 2 rfl (by simp only [go_sem] <;> rfl) ?_
        refine AQ_c rfl (by simp only [go_sem] <;> rfl) fok26 (by simp only [List.map_cons, List.map_nil, List.append_nil, go_sem] <;> rfl) (c26 hl) (fun _ _ h => h.elim) (.inl rfl) fun r H2 hX2 ⟨hH, b2, hr, hb2⟩ => ?_
        subst hr hH
        cases b2
        · obtain ⟨d, hd⟩ : ∃ d, decide ((500 : Int) < IntKind.i64.wrap ((p.key.length : Int) + (p.value.length : Int))) = d := ⟨_, rfl⟩
          cases d
          · refine AQ_all TT_ok rfl (by simp only [go_sem, f52_0, f52_1, hO1.load, ap52_key, ap52_value, hd, hl.alen] <;> rfl) ?_
            exact ⟨rfl, decide ((40 : Int) < (l.length : Int)), by simp only [go_sem], fun h => ⟨hb1 rfl, hb2 rfl⟩, by simp only [go_sem], by simp only [go_sem], by simp only [go_sem]⟩
          · refine AQ_all TT_ok rfl (by simp only [go_sem, f52_0, f52_1, hO1.load, ap52_key, ap52_value, hd] <;> rfl) ?_
            exact ⟨rfl, true, by simp only [go_sem], fun h => (by cases h), by simp only [go_sem], by simp only [go_sem], by simp only [go_sem]⟩
        · refine AQ_all TT_ok rfl (by simp only [go_sem] <;> rfl) ?_
          exact ⟨rfl, true, by simp only [go_sem], fun h => (by cases h), by simp only [go_sem], by simp only [go_sem], by simp only [go_sem]⟩
      · refine AQ_take TT_ok 2 rfl (by simp only [go_sem] <;> rfl) ?_
        refine AQ_pass rfl ?_
        refine AQ_all TT_ok rfl (by simp only [go_sem] <;> rfl) ?_
        exact ⟨rfl, true, by simp only [go_sem], fun h => (by cases h), by simp only [go_sem], by simp only [go_sem], by simp only [go_sem]⟩
    subst hH
    cases b
    · exact AC_f hcnd rfl (AC_skip ⟨rfl, (hb rfl).1, (hb rfl).2, g0, g2, g4⟩)
    · refine AC_t hcnd rfl ?_
      refine AC_seq ?_
      refine AC_regL ?_
      refine AQ_c rfl (by simp only [go_sem] <;> rfl) fok56 (by simp only [List.map_cons, List.map_nil, List.append_nil, go_sem] <;> rfl) (c56) (fun _ _ h => h.elim) (.inl rfl) fun r H2 hX2 hr => ?_
      subst hr
      refine AQ_all TT_ok rfl (by simp only [go_sem] <;> rfl) ?_
      exact AC_ret ⟨.inl rfl, _, rfl, by simp only [go_sem]⟩
  subst hH
  have htl := szN_len t
  have hpl := szP_len l
  have htn : ∀ n ∈ t, n.path.length < 2^30 := fun n hn => by have := szN_path t n hn; omega
  have hprs := prs_len t
  refine AC_seq ?_
  refine AC_regL ?_
  refine AQ_lit TT_ok [] TT_24 rfl TT_49 rfl (by decide) rfl (by decide) rfl rfl (fun v hv => by cases hv) fun H2 hX2 hO2 hL2 => ?_
  refine AQ_take TT_ok 1 rfl (by simp only [go_sem, g0] <;> rfl) ?_
  refine AQ_append TT_ok (v := .slice (some ⟨H1.length, 0, none⟩) 0 0) (n := 0) (m := t.length) TT_24 rfl TT_49 (by decide) (by decide) rfl (by simp only [go_sem]) (by simp only [go_sem]) (.inr ⟨_, hO2⟩) (ht.keep hX2) rfl (rows_length Nd.len t) (by simp; omega) (fun j hj => .inl (by have e : H1.length = j := Option.some.inj hj; omega)) (.inl rfl) fun vi H3 hX3 hB3 hv3 => ?_
  have hi3 : NdB H3 vi t := NdB.copy hB3
  have s3 : AExt (fun _ => False) H1 H3 := hX2.weakF hX3 (fun j hj h => by have e : H1.length = j := Option.some.inj h; omega)
  have ht3 := ht.keep s3
  have hl3 := hl.keep s3
  have hvi : ∀ j, vid vi = some j → j < H3.length := fun j hj => NdS.vid_lt hi3.sl hj
  have z3 := s3.size
  refine AQ_lit TT_ok [] TT_22 rfl TT_52 rfl (by decide) rfl (by decide) rfl rfl (fun v hv => by cases hv) fun H4 hX4 hO4 hL4 => ?_
  refine AQ_take TT_ok 1 rfl (by simp only [go_sem, g2] <;> rfl) ?_
  refine AQ_append TT_ok (v := .slice (some ⟨H3.length, 0, none⟩) 0 0) (n := 0) (m := l.length) TT_22 rfl TT_52 (by decide) (by decide) rfl (by simp only [go_sem]) (by simp only [go_sem]) (.inr ⟨_, hO4⟩) (hl3.keep hX4) rfl (rows_length Pr.len l) (by simp; omega) (fun j hj => .inl (by have e : H3.length = j := Option.some.inj hj; omega)) (.inl rfl) fun va H5 hX5 hB5 hv5 => ?_
  have ha5 : PrS H5 va l := (PrB.copy hB5).sl
  have s5 : AExt (fun _ => False) H3 H5 := hX4.weakF hX5 (fun j hj h => by have e : H3.length = j := Option.some.inj h; omega)
  have hi5 : NdS H5 vi t := hi3.sl.keep s5
  have ht5 := ht3.keep s5
  have hl5 := hl3.keep s5
  have hO5 := (hO1.keep s3).keep s5
  refine AQ_all TT_ok rfl (by simp only [go_sem] <;> rfl) ?_
  refine AC_fixe (fun e' => get e' 0 = vt ∧ get e' 2 = vl ∧ get e' 4 = .pointer (some ⟨H.length, 0, none⟩) ∧ get e' 7 = vi ∧ get e' 8 = va) ⟨by simp only [go_sem, g0], by simp only [go_sem, g2], by simp only [go_sem, g4], by simp only [go_sem], by simp only [go_sem]⟩ (fun e5 ⟨g0, g2, g4, g7, g8⟩ => ?_)
  have e1 : ∃ a b, allE t [p] = (a, b) := ⟨_, _, rfl⟩
  obtain ⟨T1, x1, e1⟩ := e1
  have e2 : ∃ a b, allE t l = (a, b) := ⟨_, _, rfl⟩
  obtain ⟨T2, x2, e2⟩ := e2
  have L1 : T1.length < 2^62 := by
    have := allE_len (t := t) (ps := [p])
    rw [e1] at this
    simp only [List.length_cons, List.length_nil] at this
    omega
  have L2 : T2.length < 2^62 := by
    have := allE_len (t := t) (ps := l)
    rw [e2] at this
    dsimp only at this
    omega
  refine AC_seq ?_
  refine AC_regL ?_
  refine AQ_take TT_ok 5 rfl (by simp only [go_sem, g4, g7, f52_0, f52_1, hO5.load, ap52_key, ap52_value] <;> rfl) ?_
  refine AQ_c rfl (by simp only [go_sem] <;> rfl) fok57 (by simp only [List.map_cons, List.map_nil, List.append_nil, go_sem] <;> rfl) (c57 (p := p) hi5 (by omega) htn) (fun _ _ h => h.elim) (.inl rfl) fun r H6 hX6 ⟨u1, hr, hU1, _⟩ => ?_
  rw [e1] at hr hU1
  subst hr
  have hU1 : NdS H6 u1 T1 := hU1.sl
  refine AQ_all TT_ok rfl (by simp only [go_sem] <;> rfl) ?_
  have hO6 := hO5.keep hX6
  have hi6 := hi5.keep hX6
  have ha6 := ha5.keep hX6
  have ht6 := ht5.keep hX6
  have hl6 := hl5.keep hX6
  refine AC_fixe (fun e' => get e' 0 = vt ∧ get e' 2 = vl ∧ get e' 4 = .pointer (some ⟨H.length, 0, none⟩) ∧ get e' 7 = vi ∧ get e' 8 = va ∧ get e' 9 = u1 ∧ get e' 10 = .int .i64 x1) ⟨by simp only [go_sem, g0], by simp only [go_sem, g2], by simp only [go_sem, g4], by simp only [go_sem, g7], by simp only [go_sem, g8], by simp only [go_sem], by simp only [go_sem]⟩ (fun e6 ⟨g0, g2, g4, g7, g8, g9, g10⟩ => ?_)
  refine AC_seq ?_
  refine AC_regL ?_
  refine AQ_take TT_ok 5 rfl (by simp only [go_sem, g0, g4, f52_0, f52_1, hO6.load, ap52_key, ap52_value] <;> rfl) ?_
  refine AQ_c rfl (by simp only [go_sem] <;> rfl) fok58 (by simp only [List.map_cons, List.map_nil, List.append_nil, go_sem] <;> rfl) (c58 (p := p) ht6 (by omega) htn) (fun _ _ h => h.elim) (.inl rfl) fun r H7 hX7 ⟨u2, hr, hU2, _⟩ => ?_
  rw [e1] at hr hU2
  subst hr
  have hU2 : NdS H7 u2 T1 := hU2.sl
  refine AQ_all TT_ok rfl (by simp only [go_sem] <;> rfl) ?_
  have hU1 := hU1.keep hX7
  have hi7 := hi6.keep hX7
  have ha7 := ha6.keep hX7
  have ht7 := ht6.keep hX7
  have hl7 := hl6.keep hX7
  refine AC_fixe (fun e' => get e' 0 = vt ∧ get e' 2 = vl ∧ get e' 7 = vi ∧ get e' 8 = va ∧ get e' 9 = u1 ∧ get e' 10 = .int .i64 x1 ∧ get e' 11 = u2 ∧ get e' 12 = .int .i64 x1) ⟨by simp only [go_sem, g0], by simp only [go_sem, g2], by simp only [go_sem, g7], by simp only [go_sem, g8], by simp only [go_sem, g9], by simp only [go_sem, g10], by simp only [go_sem], by simp only [go_sem]⟩ (fun e7 ⟨g0, g2, g7, g8, g9, g10, g11, g12⟩ => ?_)
  refine AC_seq ?_
  refine AC_regL ?_
  refine AQ_take TT_ok 2 rfl (by simp only [go_sem, g7, g8] <;> rfl) ?_
  refine AQ_c rfl (by simp only [go_sem] <;> rfl) fok59 (by simp only [List.map_cons, List.map_nil, List.append_nil, go_sem] <;> rfl) (c59 hi7 (by omega) htn ha7 (by omega)) (fun _ _ h => h.elim) (.inl rfl) fun r H8 hX8 ⟨u3, hr, hU3, _⟩ => ?_
  rw [e2] at hr hU3
  subst hr
  have hU3 : NdS H8 u3 T2 := hU3.sl
  refine AQ_all TT_ok rfl (by simp only [go_sem] <;> rfl) ?_
  have hU1 := hU1.keep hX8
  have hU2 := hU2.keep hX8
  have hi8 := hi7.keep hX8
  have ha8 := ha7.keep hX8
  have ht8 := ht7.keep hX8
  have hl8 := hl7.keep hX8
  refine AC_fixe (fun e' => get e' 0 = vt ∧ get e' 2 = vl ∧ get e' 7 = vi ∧ get e' 8 = va ∧ get e' 9 = u1 ∧ get e' 10 = .int .i64 x1 ∧ get e' 11 = u2 ∧ get e' 12 = .int .i64 x1 ∧ get e' 13 = u3 ∧ get e' 14 = .int .i64 x2) ⟨by simp only [go_sem, g0], by simp only [go_sem, g2], by simp only [go_sem, g7], by simp only [go_sem, g8], by simp only [go_sem, g9], by simp only [go_sem, g10], by simp only [go_sem, g11], by simp only [go_sem, g12], by simp only [go_sem], by simp only [go_sem]⟩ (fun e8 ⟨g0, g2, g7, g8, g9, g10, g11, g12, g13, g14⟩ => ?_)
  refine AC_seq ?_
  refine AC_regL ?_
  refine AQ_take TT_ok 2 rfl (by simp only [go_sem, g0, g2] <;> rfl) ?_
  refine AQ_c rfl (by simp only [go_sem] <;> rfl) fok60 (by simp only [List.map_cons, List.map_nil, List.append_nil, go_sem] <;> rfl) (c60 ht8 (by omega) htn hl8 (by omega) (by omega)) (fun _ _ h => h.elim) (.inl rfl) fun r H9 hX9 ⟨u4, hr, hU4⟩ => ?_
  rw [e2] at hr hU4
  subst hr
  have hU4 : NdS H9 u4 T2 := hU4
  refine AQ_all TT_ok rfl (by simp only [go_sem] <;> rfl) ?_
  have hU1 := hU1.keep hX9
  have hU2 := hU2.keep hX9
  have hU3 := hU3.keep hX9
  have hi9 := hi8.keep hX9
  have ha9 := ha8.keep hX9
  have ht9 := ht8.keep hX9
  have hl9 := hl8.keep hX9
  refine AC_fixe (fun e' => get e' 0 = vt ∧ get e' 2 = vl ∧ get e' 7 = vi ∧ get e' 8 = va ∧ get e' 9 = u1 ∧ get e' 10 = .int .i64 x1 ∧ get e' 11 = u2 ∧ get e' 12 = .int .i64 x1 ∧ get e' 13 = u3 ∧ get e' 14 = .int .i64 x2 ∧ get e' 15 = u4 ∧ get e' 16 = .int .i64 x2) ⟨by simp only [go_sem, g0], by simp only [go_sem, g2], by simp only [go_sem, g7], by simp only [go_sem, g8], by simp only [go_sem, g9], by simp only [go_sem, g10], by simp only [go_sem, g11], by simp only [go_sem, g12], by simp only [go_sem, g13], by simp only [go_sem, g14], by simp only [go_sem], by simp only [go_sem]⟩ (fun e9 ⟨g0, g2, g7, g8, g9, g10, g11, g12, g13, g14, g15, g16⟩ => ?_)
  have d1 : decide (T1 = T1) = true := decide_eq_true rfl
  have d2 : decide (T2 = T2) = true := decide_eq_true rfl
  have d3 : decide (x1 = x1) = true := decide_eq_true rfl
  have d4 : decide (x2 = x2) = true := decide_eq_true rfl
  have d5 : decide (t = t) = true := decide_eq_true rfl
  have d6 : decide (l = l) = true := decide_eq_true rfl
  refine AC_seq ?_
  refine AC_regL ?_
  refine AQ_take TT_ok 2 rfl (by simp only [go_sem, g9, g11] <;> rfl) ?_
  refine AQ_c rfl (by simp only [go_sem] <;> rfl) fok34 (by simp only [List.map_cons, List.map_nil, List.append_nil, go_sem] <;> rfl) (c34 hU1 hU2 L1) (fun _ _ h => h.elim) (.inl rfl) fun r Ha hXa ⟨hr, hH⟩ => ?_
  have hH' := hH.symm
  subst hr hH'
  refine AQ_take TT_ok 8 rfl (by simp only [go_sem, g10, g12, g13, g15, d1, d3] <;> rfl) ?_
  simp only [List.drop_succ_cons, List.drop_zero]
  refine AQ_c rfl (by simp only [go_sem] <;> rfl) fok34 (by simp only [List.map_cons, List.map_nil, List.append_nil, go_sem] <;> rfl) (c34 hU3 hU4 L2) (fun _ _ h => h.elim) (.inl rfl) fun r Ha hXa ⟨hr, hH⟩ => ?_
  have hH' := hH.symm
  subst hr hH'
  refine AQ_take TT_ok 9 rfl (by simp only [go_sem, g14, g16, g7, g0, d2, d4] <;> rfl) ?_
  simp only [List.drop_succ_cons, List.drop_zero]
  refine AQ_c rfl (by simp only [go_sem] <;> rfl) fok34 (by simp only [List.map_cons, List.map_nil, List.append_nil, go_sem] <;> rfl) (c34 hi9 ht9 (by omega)) (fun _ _ h => h.elim) (.inl rfl) fun r Ha hXa ⟨hr, hH⟩ => ?_
  have hH' := hH.symm
  subst hr hH'
  refine AQ_take TT_ok 4 rfl (by simp only [go_sem, g8, g2, d5] <;> rfl) ?_
  refine AQ_c rfl (by simp only [go_sem] <;> rfl) fok35 (by simp only [List.map_cons, List.map_nil, List.append_nil, go_sem] <;> rfl) (c35 ha9 hl9 (by omega)) (fun _ _ h => h.elim) (.inl rfl) fun r Ha hXa ⟨hr, hH⟩ => ?_
  have hH' := hH.symm
  subst hr hH'
  refine AQ_take TT_ok 2 rfl (by simp only [go_sem, d6] <;> rfl) ?_
  refine AQ_c rfl (by simp only [go_sem] <;> rfl) fok56 (by simp only [List.map_cons, List.map_nil, List.append_nil, go_sem] <;> rfl) (c56) (fun _ _ h => h.elim) (.inl rfl) fun r Hc hXc hr => ?_
  subst hr
  refine AQ_all TT_ok rfl (by simp only [go_sem] <;> rfl) ?_
  exact AC_ret ⟨.inl rfl, _, rfl, by simp only [go_sem]⟩
end Go.Proofs.Ythalogdopkoidaa.Ab
set_option linter.unusedVariables false
set_option linter.unusedSimpArgs false
namespace Go.Proofs.Ythalogdopkoidaa.Ab
open Go Go.RowKit Go.Proofs.Ythalogdopkoidaa.Dr
/-- Rising pairs are told by which they are. -/
theorem rise_ext : ∀ {a b : List Pr}, a.Pairwise (fun p q => p.key < q.key) → b.Pairwise (fun p q => p.key < q.key) → (∀ x, x ∈ a ↔ x ∈ b) → a = b
  | [], [], _, _, _ => rfl
  | [], y :: b, _, _, h => absurd ((h y).2 (by simp)) (by simp)
  | x :: a, [], _, _, h => absurd ((h x).1 (by simp)) (by simp)
  | x :: a, y :: b, ha, hb, h => by
    obtain ⟨h1, h2⟩ := List.pairwise_cons.1 ha
    obtain ⟨h3, h4⟩ := List.pairwise_cons.1 hb
    have hxy : x = y := by
      have hx := (h x).1 (by simp)
      have hy := (h y).2 (by simp)
      rcases List.mem_cons.1 hx with h5 | h5
      · exact h5
      · rcases List.mem_cons.1 hy with h6 | h6
        · exact h6.symm
        · exact absurd (h3 x h5) (key_asym (h1 y h6))
    subst hxy
    congr 1
    refine rise_ext h2 h4 fun z => ?_
    constructor
    · intro hz
      rcases List.mem_cons.1 ((h z).1 (by simp [hz])) with h5 | h5
      · subst h5; exact absurd (h1 z hz) (key_irr _)
      · exact h5
    · intro hz
      rcases List.mem_cons.1 ((h z).2 (by simp [hz])) with h5 | h5
      · subst h5; exact absurd (h3 z hz) (key_irr _)
      · exact h5
theorem May.ext {a b : List Pr} (ha : May a) (hb : May b) (h : ∀ x, x ∈ a ↔ x ∈ b) : a = b := rise_ext ha.2 hb.2 h
theorem May.nodup {l : List Pr} (h : May l) : (l.map Pr.key).Nodup := by
  unfold List.Nodup
  rw [List.pairwise_map]
  exact h.2.imp fun hlt he => by rw [he] at hlt; exact key_irr _ hlt
/-- Put one by one, no two of one key, none of them there. -/
theorem pall_all : ∀ (m acc : List Pr), May acc → (∀ p ∈ m, Pok p) → (m.map Pr.key).Nodup → (∀ p ∈ m, ∀ x ∈ acc, x.key ≠ p.key) → ∃ r, pall acc m = (r, 0) ∧ May r ∧ ∀ x, x ∈ r ↔ x ∈ acc ∨ x ∈ m
  | [], acc, ha, _, _, _ => ⟨acc, rfl, ha, by simp⟩
  | p :: m, acc, ha, hp, hn, hd => by
    have hpok := hp p (by simp)
    rw [List.map_cons, List.nodup_cons] at hn
    have hmem : ∀ x, x ∈ ins acc p ↔ x ∈ acc ∨ x = p := fun x => by
      rw [ins_mem]
      constructor
      · rintro (h | ⟨h, _⟩)
        · exact .inr h
        · exact .inl h
      · rintro (h | h)
        · exact .inr ⟨h, hd p (by simp) x h⟩
        · exact .inl h
    obtain ⟨r, h1, h2, h3⟩ := pall_all m (ins acc p) (ha.ins hpok) (fun q hq => hp q (by simp [hq])) hn.2 (fun q hq x hx e => by
      rcases (hmem x).1 hx with h | h
      · exact hd q (by simp [hq]) x h e
      · subst h
        exact hn.1 (List.mem_map.2 ⟨q, hq, e.symm⟩))
    refine ⟨r, ?_, h2, fun x => ?_⟩
    · rw [pall, if_pos (perr_of hpok)]; exact h1
    · rw [h3, hmem, List.mem_cons]
      constructor
      · rintro ((h | h) | h)
        · exact .inl h
        · exact .inr (.inl h)
        · exact .inr (.inr h)
      · rintro (h | h | h)
        · exact .inl (.inl h)
        · exact .inl (.inr h)
        · exact .inr h
theorem pall_perm {l m : List Pr} (hm : May l) (hp : m.Perm l) : pall [] m = (l, 0) := by
  obtain ⟨r, h1, h2, h3⟩ := pall_all m [] May.nil (fun p h => hm.1 p (hp.mem_iff.1 h)) ((hp.map Pr.key).nodup_iff.2 hm.nodup) (by simp)
  have : r = l := h2.ext hm fun x => by rw [h3, ← hp.mem_iff]; simp
  rw [h1, this]
theorem allE_nil {l m : List Pr} (hm : May l) (hp : m.Perm l) : allE [] m = (build l, 0) := by
  have h := allE_build May.nil m
  rw [pall_perm hm hp] at h
  exact h
set_option maxRecDepth 100000 in
set_option maxHeartbeats 8000000 in
theorem c21 {H : AHeap} {vl vu : Value} {l : List Pr} {ts : List UInt8} (hl : PrS H vl l) (hu : ByS H vu ts) : ACalls Try.prog 21 [vl, vu] H (fun _ => False) fun v H' => v = .bool true := by
  refine ACalls_by 102 TT_ok Try.func21 rfl rfl rfl (by simp) ?_
  refine AC_seqQ TT_ok (by simp only [go_sem] <;> rfl) ?_
  refine AC_cut (fun e' H' => H' = H ∧ l.length ≤ 30 ∧ ts.length ≤ 100 ∧ May l ∧ get e' 0 = vl ∧ get e' 1 = vu) ?_ (fun e1 H1 _ ⟨hH, hl30, ht100, hm, g0, g1⟩ => ?_)
  · refine AC_cut (fun e' H' => H' = H ∧ ∃ b, get e' 29 = .bool b ∧ (b = false → l.length ≤ 30 ∧ ts.length ≤ 100 ∧ May l) ∧ get e' 0 = vl ∧ get e' 1 = vu) ?_ (fun e1 H1 _ ⟨hH, b, hcnd, hb, g0, g1⟩ => ?_)
    · refine AC_regL ?_
      refine AQ_take TT_ok 1 rfl (by simp only [go_sem] <;> rfl) ?_
      refine AQ_c rfl (by simp only [go_sem] <;> rfl) fok26 (by simp only [List.map_cons, List.map_nil, List.append_nil, go_sem] <;> rfl) (c26 hl) (fun _ _ h => h.elim) (.inl rfl) fun r H1 hX1 ⟨hH, b, hr, hb⟩ => ?_
      subst hr hH
      cases b
      · have hs := hb rfl
        have := szP_len l
        refine AQ_take TT_ok 2 rfl (by simp only [go_sem] <;> rfl) ?_
        refine AQ_c rfl (by simp only [go_sem] <;> rfl) fok39 (by simp only [List.map_cons, List.map_nil, List.append_nil, go_sem] <;> rfl) (c39 hl (by omega)) (fun _ _ h => h.elim) (.inl rfl) fun r H1 hX1 ⟨hr, hH⟩ => ?_
        subst hr hH
        by_cases hm : May l
        · have dm : decide (May l) = true := decide_eq_true hm
          by_cases h20 : l.length ≤ 30
          · have d20 : decide ((30 : Int) < (l.length : Int)) = false := decide_eq_false (by omega)
            refine AQ_all TT_ok rfl (by simp only [go_sem, dm, hl.alen, hu.alen, d20, Bool.not_true] <;> rfl) ?_
            refine ⟨rfl, decide ((100 : Int) < (ts.length : Int)), by simp only [go_sem], fun h => ⟨h20, by have := of_decide_eq_false h; omega, hm⟩, by simp only [go_sem], by simp only [go_sem]⟩
          · have d20 : decide ((30 : Int) < (l.length : Int)) = true := decide_eq_true (by omega)
            refine AQ_all TT_ok rfl (by simp only [go_sem, dm, hl.alen, hu.alen, d20, Bool.not_true] <;> rfl) ?_
            exact ⟨rfl, true, by simp only [go_sem], fun h => (by cases h), by simp only [go_sem], by simp only [go_sem]⟩
        · have dm : decide (May l) = false := decide_eq_false hm
          refine AQ_all TT_ok rfl (by simp only [go_sem, dm, Bool.not_false] <;> rfl) ?_
          exact ⟨rfl, true, by simp only [go_sem], fun h => (by cases h), by simp only [go_sem], by simp only [go_sem]⟩
      · refine AQ_take TT_ok 2 rfl (by simp only [go_sem] <;> rfl) ?_
        refine AQ_pass rfl ?_
        refine AQ_all TT_ok rfl (by simp only [go_sem] <;> rfl) ?_
        exact ⟨rfl, true, by simp only [go_sem], fun h => (by cases h), by simp only [go_sem], by simp only [go_sem]⟩
    subst hH
    cases b
    · exact AC_f hcnd rfl (AC_skip ⟨rfl, (hb rfl).1, (hb rfl).2.1, (hb rfl).2.2, g0, g1⟩)
    · refine AC_t hcnd rfl ?_
      refine AC_seq ?_
      refine AC_regL ?_
      refine AQ_c rfl (by simp only [go_sem] <;> rfl) fok56 (by simp only [List.map_cons, List.map_nil, List.append_nil, go_sem] <;> rfl) (c56) (fun _ _ h => h.elim) (.inl rfl) fun r H1 hX1 hr => ?_
      subst hr
      refine AQ_all TT_ok rfl (by simp only [go_sem] <;> rfl) ?_
      exact AC_ret ⟨.inl rfl, _, rfl, by simp only [go_sem]⟩
  subst hH
  refine AC_seq ?_
  refine AC_regL ?_
  refine AQ_lit TT_ok [] TT_22 rfl TT_52 rfl (by decide) rfl (by decide) rfl rfl (fun v hv => by cases hv) fun H3 hX3 hO3 hL3 => ?_
  refine AQ_take TT_ok 1 rfl (by simp only [go_sem, g0] <;> rfl) ?_
  refine AQ_append TT_ok (v := .slice (some ⟨H1.length, 0, none⟩) 0 0) (n := 0) (m := l.length) TT_22 rfl TT_52 (by decide) (by decide) rfl (by simp only [go_sem]) (by simp only [go_sem]) (.inr ⟨_, hO3⟩) (hl.keep hX3) rfl (rows_length Pr.len l) (by simp; omega) (fun j hj => .inl (by have e : H1.length = j := Option.some.inj hj; omega)) (.inl rfl) fun vm H4 hX4 hB4 hv4 => ?_
  have hM4 : PrB H4 vm l := PrB.copy hB4
  have s4 : AExt (fun _ => False) H1 H4 := hX3.weakF hX4 (fun j hj h => by have e : H1.length = j := Option.some.inj h; omega)
  have hl4 := hl.keep s4
  have hu4 := hu.keep s4
  have z4 := s4.size
  have hvm : ∀ j, vid vm = some j → H1.length ≤ j := fun j hj => by
    rcases hv4 j hj with h | ⟨_, h⟩
    · omega
    · subst h
      have e : H1.length = j := Option.some.inj hj
      omega
  have hlv : ∀ j, vid vl = some j → j < H1.length := fun j hj => hl.vid_lt hj
  have huv : ∀ j, vid vu = some j → j < H1.length := fun j hj => hu.vid_lt hj
  refine AQ_all TT_ok rfl (by simp only [go_sem] <;> rfl) ?_
  refine AC_fixe (fun e' => get e' 0 = vl ∧ get e' 1 = vu ∧ get e' 5 = vm) ⟨by simp only [go_sem, g0], by simp only [go_sem, g1], by simp only [go_sem]⟩ (fun e4 ⟨g0, g1, g5⟩ => ?_)
  refine AC_cut (fun e' H' => ∃ m : List Pr, m.Perm l ∧ PrB H' vm m ∧ PrS H' vl l ∧ get e' 0 = vl ∧ get e' 5 = vm) ?_ (fun e5 H5 _ ⟨m, hml, hM, hl5, g0, g5⟩ => ?_)
  · refine AC_seqQ TT_ok (by simp only [go_sem] <;> rfl) ?_
    refine AC_block (AC_loop (fun q e' H' => ∃ (i : Nat) (m : List Pr), q = ts.length - i ∧ i ≤ ts.length ∧ m.Perm l ∧ PrB H' vm m ∧ PrS H' vl l ∧ ByS H' vu ts ∧ get e' 0 = vl ∧ get e' 1 = vu ∧ get e' 5 = vm ∧ get e' 6 = .int .i64 (i : Nat)) ts.length ⟨0, l, by simp, by simp, List.Perm.refl l, hM4, hl4, hu4, by simp only [go_sem, g0], by simp only [go_sem, g1], by simp only [go_sem, g5], by simp only [go_sem] <;> simp⟩ ?_)
    rintro q e5 H5 _ ⟨i, m, hqi, hi, hml, hM, hl5, hu5, g0, g1, g5, g6⟩
    have k5 := wrapN i (by omega)
    have hS : PrS H5 vm m := hM.sl
    have hmlen := hml.length_eq
    refine AC_seq ?_
    by_cases hi' : i < ts.length
    rotate_left
    · have di : decide ((i : Int) < (ts.length : Int)) = false := decide_eq_false (by omega)
      refine AC_seqQ TT_ok (by simp only [go_sem, g1, g6, hu5.alen, di] <;> rfl) ?_
      refine AC_f (by simp only [go_sem] <;> rfl) (rfl) ?_
      exact AC_exit ⟨m, hml, hM, hl5, by simp only [go_sem, g0], by simp only [go_sem, g5]⟩
    have di : decide ((i : Int) < (ts.length : Int)) = true := decide_eq_true (by omega)
    by_cases hmp : 0 < m.length
    rotate_left
    · have dm : decide ((0 : Int) < (m.length : Int)) = false := decide_eq_false (by omega)
      refine AC_seqQ TT_ok (by simp only [go_sem, g1, g5, g6, hu5.alen, di, hS.alen, dm] <;> rfl) ?_
      refine AC_f (by simp only [go_sem] <;> rfl) (rfl) ?_
      exact AC_exit ⟨m, hml, hM, hl5, by simp only [go_sem, g0], by simp only [go_sem, g5]⟩
    have dm : decide ((0 : Int) < (m.length : Int)) = true := decide_eq_true (by omega)
    refine AC_seqQ TT_ok (by simp only [go_sem, g1, g5, g6, hu5.alen, di, hS.alen, dm] <;> rfl) ?_
    refine AC_t (by simp only [go_sem] <;> rfl) (rfl) ?_
    refine AC_skip ?_
    refine AC_seq (AC_block ?_)
    obtain ⟨b1, b2⟩ := hu5.loadB hi'
    have hr1 : abinInt .rem .i64 (i : Int) .i64 (m.length : Int) = some (.int .i64 ((i % m.length : Nat) : Int)) := by
      rw [ai_rem _ _ _ (by omega), Int.tmod_eq_emod_of_nonneg (by omega)]; rfl
    have hr2 : abinInt .rem .i64 ((ts[i].toNat : Nat) : Int) .i64 (m.length : Int) = some (.int .i64 ((ts[i].toNat % m.length : Nat) : Int)) := by
      rw [ai_rem _ _ _ (by omega), Int.tmod_eq_emod_of_nonneg (by omega)]; rfl
    have ha := Nat.mod_lt i hmp
    have hb := Nat.mod_lt ts[i].toNat hmp
    refine AC_seqD TT_ok mixed (by kernel_rfl) (by simp only [go_sem, g1, g5, g6, b1, b2, u8_int, hS.alen, hr1, hr2] <;> rfl) ?_
    generalize i % m.length = a at *
    generalize ts[i].toNat % m.length = b at *
    rcases hM with ⟨_, h0, _⟩ | ⟨bi, hO⟩
    · omega
    have hvb := hO.vid
    have hbn := hvm bi hvb
    have c1 := hS.index (k := .i64) (j := (a : Int)) (by omega) (by omega)
    have c2 := hS.index (k := .i64) (j := (b : Int)) (by omega) (by omega)
    rw [Int.toNat_natCast] at c1 c2
    have c3 := hS.load ha
    have c4 := hS.load hb
    refine AC_drawA TT_ok [0, 1, 2, 3, 4, 5, 6, 8, 9, 10] (fun _ => False) H5 [13, 15] [(7, true), (11, true), (12, true), (13, false), (14, false), (15, false)] mixed (by kernel_rfl) (fun _ h => h.elim) (fun j o h => ⟨h, id⟩) (Nat.le_refl _) (by simp only [go_sem, g5, c1, c2] <;> rfl) ?_
    refine AG_sel (σ := [(13, false), (14, false), (15, false)]) TT_ok [7, 11, 12] _ (by simp only [go_sem, c1, c3, c4] <;> rfl) ?_
    refine AG_storeE TT_ok rfl TT_52 rfl (by simp only [go_sem] <;> rfl) (by simp only [go_sem] <;> rfl) (Lay.pr m[b]) rfl hO (by rw [rows_length Pr.len, Pr.len]; omega) (.inl hbn) rfl fun H6 hX6 hO6 hL6 => ?_
    rw [rows_over Pr.len m a m[b] ha] at hO6
    refine AG_one TT_ok 14 (by simp only [go_sem, c2] <;> rfl) ?_
    refine AG_storeE TT_ok rfl TT_52 rfl (by simp only [go_sem] <;> rfl) (by simp only [go_sem] <;> rfl) (Lay.pr m[a]) rfl hO6 (by rw [rows_length Pr.len, Pr.len, List.length_set]; omega) (.inl hbn) rfl fun H7 hX7 hO7 hL7 => ?_
    rw [rows_over Pr.len (m.set a m[b]) b m[a] (by rw [List.length_set]; exact hb)] at hO7
    refine AG_nil ?_
    have hp2 : ((m.set a m[b]).set b m[a]).Perm l := (List.set_set_perm ha hb).trans hml
    have hX57 : AExt (fun j => j = bi) H5 H7 := hX6.trans hX7
    refine AC_quiet TT_ok (by simp only [go_sem, g6, k5] <;> rfl) ?_
    refine ⟨ts.length - (i + 1), by omega, i + 1, _, rfl, by omega, hp2, .inr ⟨bi, ?_⟩, hl5.ext hX57 (fun j _ hj h => by have := hlv j hj; omega), hu5.ext hX57 (fun j _ hj h => by have := huv j hj; omega), by simp only [go_sem, g0], by simp only [go_sem, g1], by simp only [go_sem, g5], by simp only [go_sem]⟩
    rw [List.length_set, List.length_set]
    exact hO7
  have hM5 : PrS H5 vm m := hM.sl
  have hml2 := hml.length_eq
  have hE1 := allE_nil hm (List.Perm.refl l)
  have hE2 := allE_nil hm hml
  have hbl := build_len l
  generalize hTd : build l = T at *
  refine AC_seq ?_
  refine AC_regL ?_
  refine AQ_take TT_ok 1 rfl (by simp only [go_sem, g0] <;> rfl) ?_
  refine AQ_c rfl (by simp only [go_sem] <;> rfl) fok59 (by simp only [List.map_cons, List.map_nil, List.append_nil, go_sem] <;> rfl) (c59 (nil_nds H5) (by decide) (by simp) hl5 (by omega)) (fun _ _ h => h.elim) (.inl rfl) fun r H6 hX6 ⟨u1, hr, hU1, _⟩ => ?_
  rw [hE1] at hr hU1
  subst hr
  have hU1 : NdS H6 u1 T := hU1.sl
  refine AQ_all TT_ok rfl (by simp only [go_sem] <;> rfl) ?_
  have hl6 := hl5.keep hX6
  have hM6 := hM5.keep hX6
  refine AC_fixe (fun e' => get e' 0 = vl ∧ get e' 5 = vm ∧ get e' 9 = u1 ∧ get e' 10 = .int .i64 0) ⟨by simp only [go_sem, g0], by simp only [go_sem, g5], by simp only [go_sem], by simp only [go_sem]⟩ (fun e6 ⟨g0, g5, g9, g10⟩ => ?_)
  refine AC_seq ?_
  refine AC_regL ?_
  refine AQ_take TT_ok 1 rfl (by simp only [go_sem, g5] <;> rfl) ?_
  refine AQ_c rfl (by simp only [go_sem] <;> rfl) fok59 (by simp only [List.map_cons, List.map_nil, List.append_nil, go_sem] <;> rfl) (c59 (nil_nds H6) (by decide) (by simp) hM6 (by omega)) (fun _ _ h => h.elim) (.inl rfl) fun r H7 hX7 ⟨u2, hr, hU2, _⟩ => ?_
  rw [hE2] at hr hU2
  subst hr
  have hU2 : NdS H7 u2 T := hU2.sl
  refine AQ_all TT_ok rfl (by simp only [go_sem] <;> rfl) ?_
  have hl7 := hl6.keep hX7
  have hU1 := hU1.keep hX7
  refine AC_fixe (fun e' => get e' 0 = vl ∧ get e' 9 = u1 ∧ get e' 10 = .int .i64 0 ∧ get e' 11 = u2 ∧ get e' 12 = .int .i64 0) ⟨by simp only [go_sem, g0], by simp only [go_sem, g9], by simp only [go_sem, g10], by simp only [go_sem], by simp only [go_sem]⟩ (fun e7 ⟨g0, g9, g10, g11, g12⟩ => ?_)
  have e0 : decide ((0 : Int) = 0) = true := rfl
  have dT : decide (T = T) = true := decide_eq_true rfl
  refine AC_seq ?_
  refine AC_regL ?_
  refine AQ_take TT_ok 9 rfl (by simp only [go_sem, g9, g10, g11, g12, e0] <;> rfl) ?_
  simp only [List.drop_succ_cons, List.drop_zero]
  refine AQ_c rfl (by simp only [go_sem] <;> rfl) fok34 (by simp only [List.map_cons, List.map_nil, List.append_nil, go_sem] <;> rfl) (c34 hU1 hU2 (by omega)) (fun _ _ h => h.elim) (.inl rfl) fun r Ha hXa ⟨hr, hH⟩ => ?_
  have hH' := hH.symm
  subst hr hH'
  refine AQ_take TT_ok 4 rfl (by simp only [go_sem, g9, g0, dT] <;> rfl) ?_
  refine AQ_c rfl (by simp only [go_sem] <;> rfl) fok30 (by simp only [List.map_cons, List.map_nil, List.append_nil, go_sem] <;> rfl) (c30 hl7 (by omega)) (fun _ _ h => h.elim) (.inl rfl) fun r Hb hXb ⟨vb, vq, hr, hB, _, _, _⟩ => ?_
  subst hr
  rw [if_pos hm, hTd] at hB
  have hB : NdS Hb vb T := hB.sl
  refine AQ_take TT_ok 1 rfl (by simp only [go_sem, (pick32 hB)] <;> rfl) ?_
  refine AQ_c rfl (by simp only [go_sem] <;> rfl) fok34 (by simp only [List.map_cons, List.map_nil, List.append_nil, go_sem] <;> rfl) (c34 (hU1.keep hXb) hB (by omega)) (fun _ _ h => h.elim) (.inl rfl) fun r Hc hXc ⟨hr, hH⟩ => ?_
  have hH' := hH.symm
  subst hr hH'
  refine AQ_take TT_ok 2 rfl (by simp only [go_sem, dT] <;> rfl) ?_
  refine AQ_c rfl (by simp only [go_sem] <;> rfl) fok56 (by simp only [List.map_cons, List.map_nil, List.append_nil, go_sem] <;> rfl) (c56) (fun _ _ h => h.elim) (.inl rfl) fun r Hd hXd hr => ?_
  subst hr
  refine AQ_all TT_ok rfl (by simp only [go_sem] <;> rfl) ?_
  exact AC_ret ⟨.inl rfl, _, rfl, by simp only [go_sem]⟩
end Go.Proofs.Ythalogdopkoidaa.Ab
set_option linter.unusedVariables false
set_option linter.unusedSimpArgs false
namespace Go.Proofs.Ythalogdopkoidaa.Ab
open Go Go.RowKit Go.Proofs.Ythalogdopkoidaa.Dr
theorem pall_app {r : List Pr} {b : List Pr} : ∀ (a acc : List Pr), pall acc a = (r, 0) → pall acc (a ++ b) = pall r b
  | [], acc, h => by
    have : acc = r := (Prod.mk.inj h).1
    rw [this, List.nil_append]
  | p :: a, acc, h => by
    rw [List.cons_append, pall]
    rw [pall] at h
    by_cases hp : perr p = 0
    · rw [if_pos hp] at h ⊢
      exact pall_app a _ h
    · rw [if_neg hp] at h
      exact absurd (Prod.mk.inj h).2 hp
theorem allE_snoc {l : List Pr} (hm : May l) (p : Pr) : allE [] (l ++ [p]) = allE (build l) [p] := by
  have h := allE_build May.nil (l ++ [p])
  rw [pall_app l [] (pall_perm hm (List.Perm.refl l))] at h
  rw [allE_build hm]
  exact h
theorem build_pos {l : List Pr} (hm : May l) (hn : l ≠ []) : 0 < (build l).length := by
  rw [build, if_neg hn]
  exact bld_pos (Bok.all hm hn) 0
theorem ins_ne (l : List Pr) (p : Pr) : ins l p ≠ [] := fun h => by
  have : p ∈ ins l p := ins_mem.2 (.inl rfl)
  rw [h] at this
  cases this
set_option maxRecDepth 100000 in
set_option maxHeartbeats 16000000 in
theorem c22 {H : AHeap} {vl : Value} {l : List Pr} {p : Pr} (hl : PrS H vl l) : ACalls Try.prog 22 [vl, p.val] H (fun _ => False) fun v H' => v = .bool true := by
  refine ACalls_by 88 TT_ok Try.func22 rfl rfl rfl (by simp) ?_
  refine AC_seq ?_
  refine AC_regL ?_
  refine AQ_box TT_ok TT_52 rfl (by simp only [go_sem] <;> rfl) (Lay.pr p) rfl fun H1 hX1 hO1 hL1 => ?_
  refine AQ_all TT_ok rfl (by simp only [go_sem] <;> rfl) ?_
  have hl := hl.keep hX1
  have z1 := hX1.size
  refine AC_cut (fun e' H' => H1 = H' ∧ szP l ≤ 3000 ∧ May l ∧ get e' 0 = vl ∧ get e' 3 = .pointer (some ⟨H.length, 0, none⟩)) ?_ (fun e1 H2 _ ⟨hH, hsP, hm, g0, g3⟩ => ?_)
  · refine AC_cut (fun e' H' => H1 = H' ∧ ∃ b, get e' 32 = .bool b ∧ (b = false → szP l ≤ 3000 ∧ May l) ∧ get e' 0 = vl ∧ get e' 3 = .pointer (some ⟨H.length, 0, none⟩)) ?_ (fun e1 H2 _ ⟨hH, b, hcnd, hb, g0, g3⟩ => ?_)
    · refine AC_regL ?_
      refine AQ_take TT_ok 1 rfl (by simp only [go_sem] <;> rfl) ?_
      refine AQ_c rfl (by simp only [go_sem] <;> rfl) fok26 (by simp only [List.map_cons, List.map_nil, List.append_nil, go_sem] <;> rfl) (c26 hl) (fun _ _ h => h.elim) (.inl rfl) fun r H2 hX2 ⟨hH, b, hr, hb⟩ => ?_
      subst hr hH
      cases b
      · have hs := hb rfl
        have := szP_len l
        refine AQ_take TT_ok 2 rfl (by simp only [go_sem] <;> rfl) ?_
        refine AQ_c rfl (by simp only [go_sem] <;> rfl) fok39 (by simp only [List.map_cons, List.map_nil, List.append_nil, go_sem] <;> rfl) (c39 hl (by omega)) (fun _ _ h => h.elim) (.inl rfl) fun r H2 hX2 ⟨hr, hH⟩ => ?_
        subst hr hH
        by_cases hm : May l
        · have dm : decide (May l) = true := decide_eq_true hm
          by_cases h20 : l.length ≤ 30
          · have d20 : decide ((30 : Int) < (l.length : Int)) = false := decide_eq_false (by omega)
            refine AQ_all TT_ok rfl (by simp only [go_sem, f52_0, f52_1, hO1.load, ap52_key, ap52_value, dm, hl.alen, d20, Bool.not_true] <;> rfl) ?_
            exact ⟨rfl, decide ((300 : Int) < IntKind.i64.wrap ((p.key.length : Int) + (p.value.length : Int))), by simp only [go_sem], fun h => ⟨hs, hm⟩, by simp only [go_sem], by simp only [go_sem]⟩
          · have d20 : decide ((30 : Int) < (l.length : Int)) = true := decide_eq_true (by omega)
            refine AQ_all TT_ok rfl (by simp only [go_sem, dm, hl.alen, d20, Bool.not_true] <;> rfl) ?_
            exact ⟨rfl, true, by simp only [go_sem], fun h => (by cases h), by simp only [go_sem], by simp only [go_sem]⟩
        · have dm : decide (May l) = false := decide_eq_false hm
          refine AQ_all TT_ok rfl (by simp only [go_sem, dm, Bool.not_false] <;> rfl) ?_
          exact ⟨rfl, true, by simp only [go_sem], fun h => (by cases h), by simp only [go_sem], by simp only [go_sem]⟩
      · refine AQ_take TT_ok 2 rfl (by simp only [go_sem] <;> rfl) ?_
        refine AQ_pass rfl ?_
        refine AQ_all TT_ok rfl (by simp only [go_sem] <;> rfl) ?_
        exact ⟨rfl, true, by simp only [go_sem], fun h => (by cases h), by simp only [go_sem], by simp only [go_sem]⟩
    subst hH
    cases b
    · exact AC_f hcnd rfl (AC_skip ⟨rfl, (hb rfl).1, (hb rfl).2, g0, g3⟩)
    · refine AC_t hcnd rfl ?_
      refine AC_seq ?_
      refine AC_regL ?_
      refine AQ_c rfl (by simp only [go_sem] <;> rfl) fok56 (by simp only [List.map_cons, List.map_nil, List.append_nil, go_sem] <;> rfl) (c56) (fun _ _ h => h.elim) (.inl rfl) fun r H2 hX2 hr => ?_
      subst hr
      refine AQ_all TT_ok rfl (by simp only [go_sem] <;> rfl) ?_
      exact AC_ret ⟨.inl rfl, _, rfl, by simp only [go_sem]⟩
  subst hH
  have hll := szP_len l
  refine AC_seqQ TT_ok (by simp only [go_sem] <;> rfl) ?_
  -- what is to be told
  refine AC_cut (fun e' H' => H1 = H' ∧ get e' 5 = .int .i64 (perr p) ∧ get e' 0 = vl ∧ get e' 3 = .pointer (some ⟨H.length, 0, none⟩)) ?_ (fun e1 H2 _ ⟨hH, g5, g0, g3⟩ => ?_)
  · refine AC_seq ?_
    refine AC_regL ?_
    refine AQ_take TT_ok 2 rfl (by simp only [go_sem, g3, f52_0, hO1.load, ap52_key] <;> rfl) ?_
    refine AQ_c rfl (by simp only [go_sem] <;> rfl) fok48 (by simp only [List.map_cons, List.map_nil, List.append_nil, go_sem] <;> rfl) (c48 (k := p.key)) (fun _ _ h => h.elim) (.inl rfl) fun r H2 hX2 ⟨hr, hH⟩ => ?_
    have hH' := hH.symm
    subst hr hH'
    cases hkb : kb p.key
    · have hpe : perr p = 9 := by unfold perr; rw [if_neg (by rw [hkb]; simp)]
      refine AQ_all TT_ok rfl (by simp only [go_sem, Bool.not_false] <;> rfl) ?_
      refine AC_t (by simp only [go_sem] <;> rfl) (rfl) ?_
      refine AC_quiet TT_ok (by simp only [go_sem] <;> rfl) ?_
      exact ⟨rfl, by simp only [go_sem]; rw [hpe], by simp only [go_sem, g0], by simp only [go_sem, g3]⟩
    · refine AQ_all TT_ok rfl (by simp only [go_sem, Bool.not_true] <;> rfl) ?_
      refine AC_f (by simp only [go_sem] <;> rfl) (rfl) ?_
      by_cases hv : p.value.length ≤ 16
      · have dv : decide ((16 : Int) < (p.value.length : Int)) = false := decide_eq_false (by omega)
        have hpe : perr p = 0 := by unfold perr; rw [if_pos hkb, if_pos hv]
        refine AC_seqQ TT_ok (by simp only [go_sem, g3, f52_1, hO1.load, ap52_value, dv] <;> rfl) ?_
        refine AC_f (by simp only [go_sem] <;> rfl) (rfl) ?_
        exact AC_skip ⟨rfl, by simp only [go_sem]; rw [hpe], by simp only [go_sem, g0], by simp only [go_sem, g3]⟩
      · have dv : decide ((16 : Int) < (p.value.length : Int)) = true := decide_eq_true (by omega)
        have hpe : perr p = 10 := by unfold perr; rw [if_pos hkb, if_neg hv]
        refine AC_seqQ TT_ok (by simp only [go_sem, g3, f52_1, hO1.load, ap52_value, dv] <;> rfl) ?_
        refine AC_t (by simp only [go_sem] <;> rfl) (rfl) ?_
        refine AC_quiet TT_ok (by simp only [go_sem] <;> rfl) ?_
        exact ⟨rfl, by simp only [go_sem]; rw [hpe], by simp only [go_sem, g0], by simp only [go_sem, g3]⟩
  subst hH
  refine AC_seq ?_
  refine AC_regL ?_
  refine AQ_take TT_ok 1 rfl (by simp only [go_sem, g0] <;> rfl) ?_
  refine AQ_c rfl (by simp only [go_sem] <;> rfl) fok30 (by simp only [List.map_cons, List.map_nil, List.append_nil, go_sem] <;> rfl) (c30 hl (by omega)) (fun _ _ h => h.elim) (.inl rfl) fun r H2 hX2 ⟨vt, vp, hr, hT2, _, _, _⟩ => ?_
  subst hr
  rw [if_pos hm] at hT2
  have hT2 : NdS H2 vt (build l) := hT2.sl
  have hl2 := hl.keep hX2
  have hO2 := hO1.keep hX2
  refine AQ_all TT_ok rfl (by simp only [go_sem, (pick32 hT2), List.map_cons, List.map_nil] <;> rfl) ?_
  refine AC_fixe (fun e' => get e' 0 = vl ∧ get e' 3 = .pointer (some ⟨H.length, 0, none⟩) ∧ get e' 5 = .int .i64 (perr p) ∧ get e' 6 = vt) ⟨by simp only [go_sem, g0], by simp only [go_sem, g3], by simp only [go_sem, g5], by simp only [go_sem]⟩ (fun e2 ⟨g0, g3, g5, g6⟩ => ?_)
  have hbl := build_len l
  have hbp := build_path hm
  have hbn : ∀ n ∈ build l, n.path.length < 2^30 := fun n hn => by have := hbp n hn; omega
  have hE0 := allE_step hm p
  have hE1 := allE_snoc hm p
  have hpos : perr p = 0 → 0 < (build (ins l p)).length := fun h => build_pos (hm.ins (perr_ok h)) (ins_ne l p)
  have hbl2 : (build (ins l p)).length < 2^62 := by have := build_len (ins l p); have := ins_len l p; omega
  generalize hTd : build l = T at *
  have e1 : ∃ a b, allE T [p] = (a, b) := ⟨_, _, rfl⟩
  obtain ⟨T1, x1, e1⟩ := e1
  rw [e1] at hE1 hE0
  refine AC_seq ?_
  refine AC_regL ?_
  refine AQ_take TT_ok 5 rfl (by simp only [go_sem, g3, g6, f52_0, f52_1, hO2.load, ap52_key, ap52_value] <;> rfl) ?_
  refine AQ_c rfl (by simp only [go_sem] <;> rfl) fok57 (by simp only [List.map_cons, List.map_nil, List.append_nil, go_sem] <;> rfl) (c57 (p := p) hT2 (by omega) hbn) (fun _ _ h => h.elim) (.inl rfl) fun r H5 hX5 ⟨u1, hr, hU1, _⟩ => ?_
  rw [e1] at hr hU1
  subst hr
  have hU1 : NdS H5 u1 T1 := hU1.sl
  refine AQ_all TT_ok rfl (by simp only [go_sem] <;> rfl) ?_
  have hl5 := hl2.keep hX5
  have hO5 := hO2.keep hX5
  have z2 := hX2.size
  have z5 := hX5.size
  refine AC_fixe (fun e' => get e' 0 = vl ∧ get e' 3 = .pointer (some ⟨H.length, 0, none⟩) ∧ get e' 5 = .int .i64 (perr p) ∧ get e' 7 = u1 ∧ get e' 8 = .int .i64 x1) ⟨by simp only [go_sem, g0], by simp only [go_sem, g3], by simp only [go_sem, g5], by simp only [go_sem], by simp only [go_sem]⟩ (fun e5 ⟨g0, g3, g5, g7, g8⟩ => ?_)
  refine AC_cut (fun e' H' => ∃ u2, NdS H' u1 T1 ∧ NdS H' u2 T1 ∧ get e' 5 = .int .i64 (perr p) ∧ get e' 7 = u1 ∧ get e' 8 = .int .i64 x1 ∧ get e' 9 = u2 ∧ get e' 10 = .int .i64 x1) ?_ (fun e6 H6 _ ⟨u2, hW1, hW2, g5, g7, g8, g9, g10⟩ => ?_)
  · refine AC_drawT TT_ok [1] (fun _ => False) H5 [] (Tr.pre [3] (.fork 0 (.fork 2 (.cons (4, false) (.cons (5, false) (.cons (6, false) (Tr.pre [7, 8, 9, 10, 11] .nil)))) 4 (.cons (2, false) (.cons (5, false) (.cons (6, false) (Tr.pre [7, 8, 9, 10, 11] .nil))))) 4 (.cons (0, false) (.cons (2, false) (.cons (5, false) (.cons (6, false) (Tr.pre [7, 8, 9, 10, 11] .nil))))))) mixed (by kernel_rfl) (fun j o h => ⟨h, id⟩) (Nat.le_refl _) (by simp only [go_sem, g0] <;> rfl) ?_
    refine AT_sel TT_ok [3] _ (by simp only [go_sem, g3, hO5.load, ap52_self] <;> rfl) ?_
    have h52 : ∀ q ∈ ([p.val] : List Value), ∃ xs, Lay q xs ∧ xs.length = 2 := fun v hv => by
      rw [List.mem_singleton] at hv; subst hv; exact ⟨_, Lay.pr _, rfl⟩
    have hcl : ([] ++ l.flatMap Pr.cells).length = (0 + l.length) * 2 := by rw [List.nil_append, rows_length Pr.len]; omega
    have e0 : (([] : List Value).flatMap fun v => v.cells.toList) = [] := rfl
    refine AT_fork (AT_lit TT_ok [] rfl TT_22 rfl TT_52 rfl (by decide) rfl (by decide) rfl rfl (fun v hv => by cases hv) fun Ha hXa hOa hLa => ?_) (AT_lit TT_ok [p.val] rfl TT_22 rfl TT_52 rfl (by decide) rfl (by decide) rfl (by simp only [List.map_cons, List.map_nil, go_sem, numbered]) h52 fun Ha hXa hOa hLa => ?_)
    · refine AT_fork ?_ ?_
      · refine AT_append TT_ok (n := 0) (m := l.length) rfl TT_22 rfl TT_52 (by decide) (by decide) rfl (by simp only [go_sem]) (by simp only [go_sem, g0]) (.inr ⟨_, hOa⟩) (hl5.keep hXa) rfl (rows_length Pr.len l) (by simp; omega) (fun j hj => .inl (by have e : H5.length = j := Option.some.inj hj; omega)) (fun j _ hj => .inr (by have e : H5.length = j := Option.some.inj hj; omega)) fun vc Hb hXb hBb hvb => ?_
        have hnv : ∀ j, vid vc = some j → H5.length ≤ j := fun j hj => by
          rcases hvb j hj with h | ⟨_, h⟩
          · omega
          · rw [h] at hj
            have e : H5.length = j := Option.some.inj hj
            omega
        have hXab := hXa.weakF hXb (fun j hj h => by have e : H5.length = j := Option.some.inj h; omega)
        have sab := hXab.size
        refine AT_lit TT_ok [p.val] rfl TT_22 rfl TT_52 rfl (by decide) rfl (by decide) rfl (by simp only [List.map_cons, List.map_nil, go_sem, numbered]) h52 fun Hc hXc hOc hLc => ?_
        refine AT_append TT_ok (n := 0 + l.length) (m := 1) rfl TT_22 rfl TT_52 (by decide) (by decide) rfl (by simp only [go_sem]) (by simp only [go_sem]) (hBb.keep hXc) hOc.sl hcl rfl (by simp; omega) (fun j hj => .inl (by have := hnv j hj; omega)) (fun j _ hj => .inr (hnv j hj)) fun vf Hf hXf hBf hvf => ?_
        have hBf' : PrB Hf vf (l ++ [p]) := by
          have e : ([] ++ l.flatMap Pr.cells) ++ ([p.val] : List Value).flatMap (fun v => v.cells.toList) = (l ++ [p]).flatMap Pr.cells := by
            rw [List.nil_append, List.flatMap_append]; rfl
          rw [e0, e] at hBf
          rw [PrB, List.length_append]
          simpa using hBf
        have hXf5 := ((hXab.trans hXc)).weakF hXf (fun j _ hj => by have := hnv j hj; omega)
        refine AT_c rfl rfl (by simp only [go_sem] <;> rfl) fok59 (by simp only [List.map_cons, List.map_nil, List.append_nil, go_sem] <;> rfl) (c59 (nil_nds Hf) (by decide) (by simp) hBf'.sl (by simp; omega)) (fun _ _ h => h.elim) (fun _ _ h => h.elim) fun r Hg hXg ⟨u2, hr, hU2, _⟩ => ?_
        rw [hE1] at hr hU2
        subst hr
        refine AT_sel TT_ok [7, 8, 9, 10, 11] _ (by simp only [go_sem] <;> rfl) ?_
        exact AT_nil ⟨u2, (hU1.keep hXf5).keep hXg, hU2.sl, by simp only [go_sem, g5], by simp only [go_sem, g7], by simp only [go_sem, g8], by simp only [go_sem], by simp only [go_sem]⟩
      · refine AT_lit TT_ok [p.val] rfl TT_22 rfl TT_52 rfl (by decide) rfl (by decide) rfl (by simp only [List.map_cons, List.map_nil, go_sem, numbered]) h52 fun Hb hXb hOb' hLb' => ?_
        have hXab := hXa.trans hXb
        refine AT_append TT_ok (n := 0) (m := l.length) rfl TT_22 rfl TT_52 (by decide) (by decide) rfl (by simp only [go_sem]) (by simp only [go_sem, g0]) (.inr ⟨_, hOa.ext hXb id⟩) (hl5.keep hXab) rfl (rows_length Pr.len l) (by simp; omega) (fun j hj => .inl (by have e : H5.length = j := Option.some.inj hj; omega)) (fun j _ hj => .inr (by have e : H5.length = j := Option.some.inj hj; omega)) fun vc Hc hXc hBc hvb => ?_
        have hnv : ∀ j, vid vc = some j → H5.length ≤ j := fun j hj => by
          rcases hvb j hj with h | ⟨_, h⟩
          · omega
          · rw [h] at hj
            have e : H5.length = j := Option.some.inj hj
            omega
        have hXac := hXab.weakF hXc (fun j hj h => by have e : H5.length = j := Option.some.inj h; omega)
        have sac := hXac.size
        refine AT_append TT_ok (n := 0 + l.length) (m := 1) rfl TT_22 rfl TT_52 (by decide) (by decide) rfl (by simp only [go_sem]) (by simp only [go_sem]) hBc (hOb'.sl.ext hXc (fun j hj h => by have e1 : Ha.length = j := Option.some.inj hj; have e2 : H5.length = j := Option.some.inj h; omega)) hcl rfl (by simp; omega) (fun j hj => .inl (by have := hnv j hj; omega)) (fun j _ hj => .inr (hnv j hj)) fun vf Hf hXf hBf hvf => ?_
        have hBf' : PrB Hf vf (l ++ [p]) := by
          have e : ([] ++ l.flatMap Pr.cells) ++ ([p.val] : List Value).flatMap (fun v => v.cells.toList) = (l ++ [p]).flatMap Pr.cells := by
            rw [List.nil_append, List.flatMap_append]; rfl
          rw [e0, e] at hBf
          rw [PrB, List.length_append]
          simpa using hBf
        have hXf5 := (hXac).weakF hXf (fun j _ hj => by have := hnv j hj; omega)
        refine AT_c rfl rfl (by simp only [go_sem] <;> rfl) fok59 (by simp only [List.map_cons, List.map_nil, List.append_nil, go_sem] <;> rfl) (c59 (nil_nds Hf) (by decide) (by simp) hBf'.sl (by simp; omega)) (fun _ _ h => h.elim) (fun _ _ h => h.elim) fun r Hg hXg ⟨u2, hr, hU2, _⟩ => ?_
        rw [hE1] at hr hU2
        subst hr
        refine AT_sel TT_ok [7, 8, 9, 10, 11] _ (by simp only [go_sem] <;> rfl) ?_
        exact AT_nil ⟨u2, (hU1.keep hXf5).keep hXg, hU2.sl, by simp only [go_sem, g5], by simp only [go_sem, g7], by simp only [go_sem, g8], by simp only [go_sem], by simp only [go_sem]⟩
    · refine AT_lit TT_ok [] rfl TT_22 rfl TT_52 rfl (by decide) rfl (by decide) rfl rfl (fun v hv => by cases hv) fun Hb hXb hOb' hLb' => ?_
      have hXab := hXa.trans hXb
      refine AT_append TT_ok (n := 0) (m := l.length) rfl TT_22 rfl TT_52 (by decide) (by decide) rfl (by simp only [go_sem]) (by simp only [go_sem, g0]) (.inr ⟨_, hOb'⟩) (hl5.keep hXab) rfl (rows_length Pr.len l) (by simp; omega) (fun j hj => .inl (by have e : Ha.length = j := Option.some.inj hj; omega)) (fun j _ hj => .inr (by have e : Ha.length = j := Option.some.inj hj; omega)) fun vc Hc hXc hBc hvb => ?_
      have hnv : ∀ j, vid vc = some j → H5.length ≤ j := fun j hj => by
        rcases hvb j hj with h | ⟨_, h⟩
        · omega
        · rw [h] at hj
          have e : Ha.length = j := Option.some.inj hj
          omega
      have hXac := hXab.weakF hXc (fun j hj h => by have e : Ha.length = j := Option.some.inj h; omega)
      have sac := hXac.size
      refine AT_append TT_ok (n := 0 + l.length) (m := 1) rfl TT_22 rfl TT_52 (by decide) (by decide) rfl (by simp only [go_sem]) (by simp only [go_sem]) hBc ((hOa.ext hXb id).sl.ext hXc (fun j hj h => by have e1 : H5.length = j := Option.some.inj hj; have e2 : Ha.length = j := Option.some.inj h; omega)) hcl rfl (by simp; omega) (fun j hj => .inl (by have := hnv j hj; omega)) (fun j _ hj => .inr (hnv j hj)) fun vf Hf hXf hBf hvf => ?_
      have hBf' : PrB Hf vf (l ++ [p]) := by
        have e : ([] ++ l.flatMap Pr.cells) ++ ([p.val] : List Value).flatMap (fun v => v.cells.toList) = (l ++ [p]).flatMap Pr.cells := by
          rw [List.nil_append, List.flatMap_append]; rfl
        rw [e0, e] at hBf
        rw [PrB, List.length_append]
        simpa using hBf
      have hXf5 := (hXac).weakF hXf (fun j _ hj => by have := hnv j hj; omega)
      refine AT_c rfl rfl (by simp only [go_sem] <;> rfl) fok59 (by simp only [List.map_cons, List.map_nil, List.append_nil, go_sem] <;> rfl) (c59 (nil_nds Hf) (by decide) (by simp) hBf'.sl (by simp; omega)) (fun _ _ h => h.elim) (fun _ _ h => h.elim) fun r Hg hXg ⟨u2, hr, hU2, _⟩ => ?_
      rw [hE1] at hr hU2
      subst hr
      refine AT_sel TT_ok [7, 8, 9, 10, 11] _ (by simp only [go_sem] <;> rfl) ?_
      exact AT_nil ⟨u2, (hU1.keep hXf5).keep hXg, hU2.sl, by simp only [go_sem, g5], by simp only [go_sem, g7], by simp only [go_sem, g8], by simp only [go_sem], by simp only [go_sem]⟩
  have dT : decide (T1 = T1) = true := decide_eq_true rfl
  by_cases hp0 : perr p = 0
  · rw [if_pos hp0] at hE0
    obtain ⟨rfl, rfl⟩ := Prod.mk.inj hE0
    rw [hp0] at g5
    have d0 : decide ((0 : Int) = 0) = true := rfl
    have dl : decide ((0 : Int) < ((build (ins l p)).length : Int)) = true := decide_eq_true (by have := hpos hp0; omega)
    have dd : decide (true = true) = true := rfl
    refine AC_seq ?_
    refine AC_regL ?_
    refine AQ_take TT_ok 10 rfl (by simp only [go_sem, g5, g8, g10, d0] <;> rfl) ?_
    simp only [List.drop_succ_cons, List.drop_zero]
    refine AQ_take TT_ok 9 rfl (by simp only [go_sem, g5, g7, g9, (NdS.alen hW1), d0, dl, dd] <;> rfl) ?_
    simp only [List.drop_succ_cons, List.drop_zero]
    refine AQ_c rfl (by simp only [go_sem] <;> rfl) fok34 (by simp only [List.map_cons, List.map_nil, List.append_nil, go_sem] <;> rfl) (c34 hW1 hW2 hbl2) (fun _ _ h => h.elim) (.inl rfl) fun r Ha hXa ⟨hr, hH⟩ => ?_
    have hH' := hH.symm
    subst hr hH'
    refine AQ_take TT_ok 2 rfl (by simp only [go_sem, dT] <;> rfl) ?_
    refine AQ_c rfl (by simp only [go_sem] <;> rfl) fok56 (by simp only [List.map_cons, List.map_nil, List.append_nil, go_sem] <;> rfl) (c56) (fun _ _ h => h.elim) (.inl rfl) fun r Hd hXd hr => ?_
    subst hr
    refine AQ_all TT_ok rfl (by simp only [go_sem] <;> rfl) ?_
    exact AC_ret ⟨.inl rfl, _, rfl, by simp only [go_sem]⟩
  · rw [if_neg hp0] at hE0
    obtain ⟨rfl, rfl⟩ := Prod.mk.inj hE0
    have d1 : decide (perr p = perr p) = true := decide_eq_true rfl
    have d0 : decide (perr p = 0) = false := decide_eq_false hp0
    have dl : decide ((0 : Int) < ((([] : List Nd).length : Nat) : Int)) = false := rfl
    have dd : decide (false = false) = true := rfl
    refine AC_seq ?_
    refine AC_regL ?_
    refine AQ_take TT_ok 10 rfl (by simp only [go_sem, g5, g8, g10, d0, d1] <;> rfl) ?_
    simp only [List.drop_succ_cons, List.drop_zero]
    refine AQ_take TT_ok 9 rfl (by simp only [go_sem, g5, g7, g9, (NdS.alen hW1), d0, dl, dd] <;> rfl) ?_
    simp only [List.drop_succ_cons, List.drop_zero]
    refine AQ_c rfl (by simp only [go_sem] <;> rfl) fok34 (by simp only [List.map_cons, List.map_nil, List.append_nil, go_sem] <;> rfl) (c34 hW1 hW2 (by simp)) (fun _ _ h => h.elim) (.inl rfl) fun r Ha hXa ⟨hr, hH⟩ => ?_
    have hH' := hH.symm
    subst hr hH'
    refine AQ_take TT_ok 2 rfl (by simp only [go_sem, dT] <;> rfl) ?_
    refine AQ_c rfl (by simp only [go_sem] <;> rfl) fok56 (by simp only [List.map_cons, List.map_nil, List.append_nil, go_sem] <;> rfl) (c56) (fun _ _ h => h.elim) (.inl rfl) fun r Hd hXd hr => ?_
    subst hr
    refine AQ_all TT_ok rfl (by simp only [go_sem] <;> rfl) ?_
    exact AC_ret ⟨.inl rfl, _, rfl, by simp only [go_sem]⟩
end Go.Proofs.Ythalogdopkoidaa.Ab
set_option linter.unusedVariables false
set_option linter.unusedSimpArgs false
namespace Go.Proofs.Ythalogdopkoidaa.Ab
open Go Go.RowKit Go.Proofs.Ythalogdopkoidaa.Dr
theorem ins_idem {l : List Pr} (hm : May l) {p : Pr} (hp : Pok p) : ins (ins l p) p = ins l p := by
  refine ((hm.ins hp).ins hp).ext (hm.ins hp) fun x => ?_
  rw [ins_mem, ins_mem]
  constructor
  · rintro (h | ⟨h, _⟩)
    · exact .inl h
    · exact h
  · rintro (h | ⟨h1, h2⟩)
    · exact .inl h
    · exact .inr ⟨.inr ⟨h1, h2⟩, h2⟩
theorem opt_ext {α : Type} {a b : Option α} (h : ∀ x, a = some x ↔ b = some x) : a = b := by
  cases a with
  | none =>
    cases b with
    | none => rfl
    | some y => exact ((h y).2 rfl)
  | some x => exact ((h x).1 rfl).symm
theorem fnd_ins {l : List Pr} (hm : May l) {p : Pr} (hp : Pok p) : fnd (ins l p) p.key = some p.value := (hm.ins hp).fnd.2 (ins_mem.2 (.inl rfl))
theorem fnd_ins_ne {l : List Pr} (hm : May l) {p : Pr} (hp : Pok p) {k : List UInt8} (hk : k ≠ p.key) : fnd (ins l p) k = fnd l k := by
  refine opt_ext fun v => ?_
  rw [(hm.ins hp).fnd, hm.fnd, ins_mem]
  constructor
  · rintro (h | ⟨h, _⟩)
    · exact absurd (congrArg Pr.key h) hk
    · exact h
  · exact fun h => .inr ⟨h, hk⟩
theorem perr_pok {p : Pr} (hp : Pok p) : kb p.key = true := by
  unfold kb
  rw [decide_eq_true hp.1, decide_eq_true hp.2.1]; rfl
set_option maxRecDepth 100000 in
set_option maxHeartbeats 16000000 in
theorem c23 {H : AHeap} {vl : Value} {l : List Pr} {p : Pr} {key : List UInt8} (hl : PrS H vl l) : ACalls Try.prog 23 [vl, p.val, S key] H (fun _ => False) fun v H' => v = .bool true := by
  refine ACalls_by 131 TT_ok Try.func23 rfl rfl rfl (by simp) ?_
  refine AC_seq ?_
  refine AC_regL ?_
  refine AQ_box TT_ok TT_52 rfl (by simp only [go_sem] <;> rfl) (Lay.pr p) rfl fun H1 hX1 hO1 hL1 => ?_
  refine AQ_all TT_ok rfl (by simp only [go_sem] <;> rfl) ?_
  have hl := hl.keep hX1
  have z1 := hX1.size
  refine AC_cut (fun e' H' => H1 = H' ∧ szP l ≤ 3000 ∧ May l ∧ Pok p ∧ kb key = true ∧ get e' 0 = vl ∧ get e' 2 = S key ∧ get e' 4 = .pointer (some ⟨H.length, 0, none⟩)) ?_ (fun e1 H2 _ ⟨hH, hsP, hm, hpok, hkk, g0, g2, g4⟩ => ?_)
  · refine AC_cut (fun e' H' => H1 = H' ∧ ∃ b, get e' 41 = .bool b ∧ (b = false → szP l ≤ 3000 ∧ May l ∧ Pok p ∧ kb key = true) ∧ get e' 0 = vl ∧ get e' 2 = S key ∧ get e' 4 = .pointer (some ⟨H.length, 0, none⟩)) ?_ (fun e1 H2 _ ⟨hH, b, hcnd, hb, g0, g2, g4⟩ => ?_)
    · refine AC_regL ?_
      refine AQ_take TT_ok 1 rfl (by simp only [go_sem] <;> rfl) ?_
      refine AQ_c rfl (by simp only [go_sem] <;> rfl) fok26 (by simp only [List.map_cons, List.map_nil, List.append_nil, go_sem] <;> rfl) (c26 hl) (fun _ _ h => h.elim) (.inl rfl) fun r H2 hX2 ⟨hH, b, hr, hb⟩ => ?_
      subst hr hH
      cases b
      · have hs := hb rfl
        have := szP_len l
        refine AQ_take TT_ok 2 rfl (by simp only [go_sem] <;> rfl) ?_
        refine AQ_c rfl (by simp only [go_sem] <;> rfl) fok39 (by simp only [List.map_cons, List.map_nil, List.append_nil, go_sem] <;> rfl) (c39 hl (by omega)) (fun _ _ h => h.elim) (.inl rfl) fun r H2 hX2 ⟨hr, hH⟩ => ?_
        have hH' := hH.symm
        subst hr hH'
        by_cases hm : May l
        · have dm : decide (May l) = true := decide_eq_true hm
          refine AQ_take TT_ok 5 rfl (by simp only [go_sem, f52_0, hO1.load, ap52_key, dm, Bool.not_true] <;> rfl) ?_
          refine AQ_c rfl (by simp only [go_sem] <;> rfl) fok48 (by simp only [List.map_cons, List.map_nil, List.append_nil, go_sem] <;> rfl) (c48 (k := p.key)) (fun _ _ h => h.elim) (.inl rfl) fun r H2 hX2 ⟨hr, hH⟩ => ?_
          have hH' := hH.symm
          subst hr hH'
          cases hkb : kb p.key
          · refine AQ_take TT_ok 10 rfl (by simp only [go_sem, Bool.not_false] <;> rfl) ?_
            simp only [List.drop_succ_cons, List.drop_zero]
            refine AQ_pass rfl ?_
            refine AQ_all TT_ok rfl (by simp only [go_sem] <;> rfl) ?_
            exact ⟨rfl, true, by simp only [go_sem], fun h => (by cases h), by simp only [go_sem], by simp only [go_sem], by simp only [go_sem]⟩
          · by_cases hv : p.value.length ≤ 16
            · have dv : decide ((16 : Int) < (p.value.length : Int)) = false := decide_eq_false (by omega)
              have hp : Pok p := ⟨(kb_len hkb).1, (kb_len hkb).2, hv⟩
              refine AQ_take TT_ok 10 rfl (by simp only [go_sem, f52_1, hO1.load, ap52_value, dv, Bool.not_true] <;> rfl) ?_
              simp only [List.drop_succ_cons, List.drop_zero]
              refine AQ_c rfl (by simp only [go_sem] <;> rfl) fok48 (by simp only [List.map_cons, List.map_nil, List.append_nil, go_sem] <;> rfl) (c48 (k := key)) (fun _ _ h => h.elim) (.inl rfl) fun r H2 hX2 ⟨hr, hH⟩ => ?_
              have hH' := hH.symm
              subst hr hH'
              refine AQ_all TT_ok rfl (by simp only [go_sem] <;> rfl) ?_
              exact ⟨rfl, !kb key, by simp only [go_sem], fun h => ⟨hs, hm, hp, by simpa using h⟩, by simp only [go_sem], by simp only [go_sem], by simp only [go_sem]⟩
            · have dv : decide ((16 : Int) < (p.value.length : Int)) = true := decide_eq_true (by omega)
              refine AQ_take TT_ok 10 rfl (by simp only [go_sem, f52_1, hO1.load, ap52_value, dv, Bool.not_true] <;> rfl) ?_
              simp only [List.drop_succ_cons, List.drop_zero]
              refine AQ_pass rfl ?_
              refine AQ_all TT_ok rfl (by simp only [go_sem] <;> rfl) ?_
              exact ⟨rfl, true, by simp only [go_sem], fun h => (by cases h), by simp only [go_sem], by simp only [go_sem], by simp only [go_sem]⟩
        · have dm : decide (May l) = false := decide_eq_false hm
          refine AQ_take TT_ok 5 rfl (by simp only [go_sem, dm, Bool.not_false] <;> rfl) ?_
          refine AQ_pass rfl ?_
          refine AQ_take TT_ok 10 rfl (by simp only [go_sem] <;> rfl) ?_
          simp only [List.drop_succ_cons, List.drop_zero]
          refine AQ_pass rfl ?_
          refine AQ_all TT_ok rfl (by simp only [go_sem] <;> rfl) ?_
          exact ⟨rfl, true, by simp only [go_sem], fun h => (by cases h), by simp only [go_sem], by simp only [go_sem], by simp only [go_sem]⟩
      · refine AQ_take TT_ok 2 rfl (by simp only [go_sem] <;> rfl) ?_
        refine AQ_pass rfl ?_
        refine AQ_take TT_ok 5 rfl (by simp only [go_sem] <;> rfl) ?_
        refine AQ_pass rfl ?_
        refine AQ_take TT_ok 10 rfl (by simp only [go_sem] <;> rfl) ?_
        simp only [List.drop_succ_cons, List.drop_zero]
        refine AQ_pass rfl ?_
        refine AQ_all TT_ok rfl (by simp only [go_sem] <;> rfl) ?_
        exact ⟨rfl, true, by simp only [go_sem], fun h => (by cases h), by simp only [go_sem], by simp only [go_sem], by simp only [go_sem]⟩
    subst hH
    cases b
    · exact AC_f hcnd rfl (AC_skip ⟨rfl, (hb rfl).1, (hb rfl).2.1, (hb rfl).2.2.1, (hb rfl).2.2.2, g0, g2, g4⟩)
    · refine AC_t hcnd rfl ?_
      refine AC_seq ?_
      refine AC_regL ?_
      refine AQ_c rfl (by simp only [go_sem] <;> rfl) fok56 (by simp only [List.map_cons, List.map_nil, List.append_nil, go_sem] <;> rfl) (c56) (fun _ _ h => h.elim) (.inl rfl) fun r H2 hX2 hr => ?_
      subst hr
      refine AQ_all TT_ok rfl (by simp only [go_sem] <;> rfl) ?_
      exact AC_ret ⟨.inl rfl, _, rfl, by simp only [go_sem]⟩
  subst hH
  have hll := szP_len l
  refine AC_seq ?_
  refine AC_regL ?_
  refine AQ_take TT_ok 1 rfl (by simp only [go_sem, g0] <;> rfl) ?_
  refine AQ_c rfl (by simp only [go_sem] <;> rfl) fok30 (by simp only [List.map_cons, List.map_nil, List.append_nil, go_sem] <;> rfl) (c30 hl (by omega)) (fun _ _ h => h.elim) (.inl rfl) fun r H2 hX2 ⟨vt, vp, hr, hT2, _, _, _⟩ => ?_
  subst hr
  rw [if_pos hm] at hT2
  have hT2 : NdS H2 vt (build l) := hT2.sl
  have hl2 := hl.keep hX2
  have hO2 := hO1.keep hX2
  refine AQ_all TT_ok rfl (by simp only [go_sem, (pick32 hT2), List.map_cons, List.map_nil] <;> rfl) ?_
  refine AC_fixe (fun e' => get e' 2 = S key ∧ get e' 4 = .pointer (some ⟨H.length, 0, none⟩) ∧ get e' 7 = vt) ⟨by simp only [go_sem, g2], by simp only [go_sem, g4], by simp only [go_sem]⟩ (fun e2 ⟨g2, g4, g7⟩ => ?_)
  have hbl := build_len l
  have hbp := build_path hm
  have hbn : ∀ n ∈ build l, n.path.length < 2^30 := fun n hn => by have := hbp n hn; omega
  have hmi := hm.ins hpok
  have hbp2 := build_path hmi
  have hbn2 : ∀ n ∈ build (ins l p), n.path.length < 2^30 := fun n hn => by have := hbp2 n hn; omega
  have hbl2 : (build (ins l p)).length < 2^18 := by have := build_len (ins l p); have := ins_len l p; omega
  have hE1 := allE_step hm p
  have hE2 := allE_step hmi p
  rw [if_pos (perr_of hpok)] at hE1 hE2
  rw [ins_idem hm hpok] at hE2
  have hG1 := of_build hmi (perr_pok hpok)
  rw [fnd_ins hm hpok] at hG1
  have hG2 := of_build hmi hkk
  have hG3 := of_build hm hkk
  have hgk : key ≠ p.key → fnd (ins l p) key = fnd l key := fun h => fnd_ins_ne hm hpok h
  have his := isw_build hmi
  generalize fnd (ins l p) key = o2 at *
  generalize fnd l key = o3 at *
  generalize hUd : build (ins l p) = U at *
  generalize hTd : build l = T at *
  refine AC_seq ?_
  refine AC_regL ?_
  refine AQ_take TT_ok 5 rfl (by simp only [go_sem, g4, g7, f52_0, f52_1, hO2.load, ap52_key, ap52_value] <;> rfl) ?_
  refine AQ_c rfl (by simp only [go_sem] <;> rfl) fok57 (by simp only [List.map_cons, List.map_nil, List.append_nil, go_sem] <;> rfl) (c57 (p := p) hT2 (by omega) hbn) (fun _ _ h => h.elim) (.inl rfl) fun r H3 hX3 ⟨u1, hr, hU1, _⟩ => ?_
  rw [hE1] at hr hU1
  subst hr
  have hU1 : NdS H3 u1 U := hU1.sl
  refine AQ_all TT_ok rfl (by simp only [go_sem] <;> rfl) ?_
  have hT3 := hT2.keep hX3
  have hO3 := hO2.keep hX3
  refine AC_fixe (fun e' => get e' 2 = S key ∧ get e' 4 = .pointer (some ⟨H.length, 0, none⟩) ∧ get e' 7 = vt ∧ get e' 8 = u1 ∧ get e' 9 = .int .i64 0) ⟨by simp only [go_sem, g2], by simp only [go_sem, g4], by simp only [go_sem, g7], by simp only [go_sem], by simp only [go_sem]⟩ (fun e3 ⟨g2, g4, g7, g8, g9⟩ => ?_)
  refine AC_seq ?_
  refine AC_regL ?_
  refine AQ_take TT_ok 5 rfl (by simp only [go_sem, g4, g8, f52_0, f52_1, hO3.load, ap52_key, ap52_value] <;> rfl) ?_
  refine AQ_c rfl (by simp only [go_sem] <;> rfl) fok57 (by simp only [List.map_cons, List.map_nil, List.append_nil, go_sem] <;> rfl) (c57 (p := p) hU1 (by omega) hbn2) (fun _ _ h => h.elim) (.inl rfl) fun r H4 hX4 ⟨u2, hr, hU2, _⟩ => ?_
  rw [hE2] at hr hU2
  subst hr
  have hU2 : NdS H4 u2 U := hU2.sl
  refine AQ_all TT_ok rfl (by simp only [go_sem] <;> rfl) ?_
  have hT4 := hT3.keep hX4
  have hU1 := hU1.keep hX4
  have hO4 := hO3.keep hX4
  have z4 := ((hX2.trans hX3).trans hX4).size
  refine AC_fixe (fun e' => get e' 2 = S key ∧ get e' 4 = .pointer (some ⟨H.length, 0, none⟩) ∧ get e' 7 = vt ∧ get e' 8 = u1 ∧ get e' 9 = .int .i64 0 ∧ get e' 10 = u2 ∧ get e' 11 = .int .i64 0) ⟨by simp only [go_sem, g2], by simp only [go_sem, g4], by simp only [go_sem, g7], by simp only [go_sem, g8], by simp only [go_sem, g9], by simp only [go_sem], by simp only [go_sem]⟩ (fun e4 ⟨g2, g4, g7, g8, g9, g10, g11⟩ => ?_)
  refine AC_seq ?_
  refine AC_regL ?_
  refine AQ_take TT_ok 3 rfl (by simp only [go_sem, g4, g8, f52_0, hO4.load, ap52_key] <;> rfl) ?_
  refine AQ_c rfl (by simp only [go_sem] <;> rfl) fok50 (by simp only [List.map_cons, List.map_nil, List.append_nil, go_sem] <;> rfl) (c50 (key := p.key) hU1 (by omega) hbn2) (fun _ _ h => h.elim) (.inl rfl) fun r H5 hX5 hr => ?_
  rw [hG1] at hr
  subst hr
  refine AQ_take TT_ok 3 rfl (by simp only [go_sem] <;> rfl) ?_
  refine AQ_var TT_ok TT_74 rfl (by decide) (by simp only [go_sem] <;> rfl) (Lay.a74 (some p.value)) rfl (.inl (by have := hX5.size; omega)) (.inl rfl) fun H6 hX6 hA6 hL6 => ?_
  refine AQ_all TT_ok rfl (by simp only [go_sem] <;> rfl) ?_
  have x6 := hX5.trans hX6
  have hT6 := hT4.keep x6
  have hU1 := hU1.keep x6
  have hU2 := hU2.keep x6
  have hO6 := hO4.keep x6
  have z6 := x6.size
  refine AC_fixe (fun e' => get e' 2 = S key ∧ get e' 4 = .pointer (some ⟨H.length, 0, none⟩) ∧ get e' 7 = vt ∧ get e' 8 = u1 ∧ get e' 9 = .int .i64 0 ∧ get e' 10 = u2 ∧ get e' 11 = .int .i64 0 ∧ get e' 12 = .pointer (some ⟨H5.length, 0, none⟩) ∧ get e' 13 = .int .i64 0) ⟨by simp only [go_sem, g2], by simp only [go_sem, g4], by simp only [go_sem, g7], by simp only [go_sem, g8], by simp only [go_sem, g9], by simp only [go_sem, g10], by simp only [go_sem, g11], by simp only [go_sem], by simp only [go_sem]⟩ (fun e6 ⟨g2, g4, g7, g8, g9, g10, g11, g12, g13⟩ => ?_)
  refine AC_seq ?_
  refine AC_regL ?_
  refine AQ_take TT_ok 2 rfl (by simp only [go_sem, g2, g8] <;> rfl) ?_
  refine AQ_c rfl (by simp only [go_sem] <;> rfl) fok50 (by simp only [List.map_cons, List.map_nil, List.append_nil, go_sem] <;> rfl) (c50 (key := key) hU1 (by omega) hbn2) (fun _ _ h => h.elim) (.inl rfl) fun r H7 hX7 hr => ?_
  rw [hG2] at hr
  subst hr
  refine AQ_take TT_ok 3 rfl (by simp only [go_sem] <;> rfl) ?_
  refine AQ_var TT_ok TT_74 rfl (by decide) (by simp only [go_sem] <;> rfl) (Lay.a74 o2) rfl (.inl (by have := hX7.size; omega)) (.inl rfl) fun H8 hX8 hB8 hL8 => ?_
  refine AQ_all TT_ok rfl (by simp only [go_sem] <;> rfl) ?_
  have x8 := hX7.trans hX8
  have hT8 := hT6.keep x8
  have hU1 := hU1.keep x8
  have hU2 := hU2.keep x8
  have hO8 := hO6.keep x8
  have hA8 := hA6.keep x8
  have z8 := x8.size
  refine AC_fixe (fun e' => get e' 2 = S key ∧ get e' 4 = .pointer (some ⟨H.length, 0, none⟩) ∧ get e' 7 = vt ∧ get e' 8 = u1 ∧ get e' 9 = .int .i64 0 ∧ get e' 10 = u2 ∧ get e' 11 = .int .i64 0 ∧ get e' 12 = .pointer (some ⟨H5.length, 0, none⟩) ∧ get e' 13 = .int .i64 0 ∧ get e' 14 = .pointer (some ⟨H7.length, 0, none⟩) ∧ get e' 15 = .int .i64 0) ⟨by simp only [go_sem, g2], by simp only [go_sem, g4], by simp only [go_sem, g7], by simp only [go_sem, g8], by simp only [go_sem, g9], by simp only [go_sem, g10], by simp only [go_sem, g11], by simp only [go_sem, g12], by simp only [go_sem, g13], by simp only [go_sem], by simp only [go_sem]⟩ (fun e8 ⟨g2, g4, g7, g8, g9, g10, g11, g12, g13, g14, g15⟩ => ?_)
  refine AC_seq ?_
  refine AC_regL ?_
  refine AQ_take TT_ok 2 rfl (by simp only [go_sem, g2, g7] <;> rfl) ?_
  refine AQ_c rfl (by simp only [go_sem] <;> rfl) fok50 (by simp only [List.map_cons, List.map_nil, List.append_nil, go_sem] <;> rfl) (c50 (key := key) hT8 (by omega) hbn) (fun _ _ h => h.elim) (.inl rfl) fun r H9 hX9 hr => ?_
  rw [hG3] at hr
  subst hr
  refine AQ_take TT_ok 3 rfl (by simp only [go_sem] <;> rfl) ?_
  refine AQ_var TT_ok TT_74 rfl (by decide) (by simp only [go_sem] <;> rfl) (Lay.a74 o3) rfl (.inl (by have := hX9.size; omega)) (.inl rfl) fun Ha hXa hCa hLa => ?_
  refine AQ_all TT_ok rfl (by simp only [go_sem] <;> rfl) ?_
  have xa := hX9.trans hXa
  have hU1 := hU1.keep xa
  have hU2 := hU2.keep xa
  have hOa := hO8.keep xa
  have hAa := hA8.keep xa
  have hBa := hB8.keep xa
  refine AC_fixe (fun e' => get e' 2 = S key ∧ get e' 4 = .pointer (some ⟨H.length, 0, none⟩) ∧ get e' 8 = u1 ∧ get e' 9 = .int .i64 0 ∧ get e' 10 = u2 ∧ get e' 11 = .int .i64 0 ∧ get e' 12 = .pointer (some ⟨H5.length, 0, none⟩) ∧ get e' 13 = .int .i64 0 ∧ get e' 14 = .pointer (some ⟨H7.length, 0, none⟩) ∧ get e' 15 = .int .i64 0 ∧ get e' 16 = .pointer (some ⟨H9.length, 0, none⟩) ∧ get e' 17 = .int .i64 0) ⟨by simp only [go_sem, g2], by simp only [go_sem, g4], by simp only [go_sem, g8], by simp only [go_sem, g9], by simp only [go_sem, g10], by simp only [go_sem, g11], by simp only [go_sem, g12], by simp only [go_sem, g13], by simp only [go_sem, g14], by simp only [go_sem, g15], by simp only [go_sem], by simp only [go_sem]⟩ (fun ea ⟨g2, g4, g8, g9, g10, g11, g12, g13, g14, g15, g16, g17⟩ => ?_)
  have e0 : decide ((0 : Int) = 0) = true := rfl
  have di : decide (Isw U) = true := decide_eq_true his
  have dU : decide (U = U) = true := decide_eq_true rfl
  refine AC_seq ?_
  refine AC_seq ?_
  refine AC_regL ?_
  refine AQ_take TT_ok 10 rfl (by simp only [go_sem, g9, g11, g13, e0, Bool.not_true] <;> rfl) ?_
  simp only [List.drop_succ_cons, List.drop_zero]
  refine AQ_take TT_ok 10 rfl (by simp only [go_sem, g8, g15, g17, e0, Bool.not_true] <;> rfl) ?_
  simp only [List.drop_succ_cons, List.drop_zero]
  refine AQ_c rfl (by simp only [go_sem] <;> rfl) fok37 (by simp only [List.map_cons, List.map_nil, List.append_nil, go_sem] <;> rfl) (c37 hU1 (by omega) hbn2) (fun _ _ h => h.elim) (.inl rfl) fun r Hb hXb hr => ?_
  subst hr
  refine AQ_take TT_ok 5 rfl (by simp only [go_sem, di, g8, g10, Bool.not_true] <;> rfl) ?_
  refine AQ_c rfl (by simp only [go_sem] <;> rfl) fok34 (by simp only [List.map_cons, List.map_nil, List.append_nil, go_sem] <;> rfl) (c34 (hU1.keep hXb) (hU2.keep hXb) (by omega)) (fun _ _ h => h.elim) (.inl rfl) fun r Hc hXc ⟨hr, hH⟩ => ?_
  have hH' := hH.symm
  subst hr hH'
  have hOb := hOa.keep hXb
  have hAb := hAa.keep hXb
  have hBb := hBa.keep hXb
  have hCb := hCa.keep hXb
  have lA : aload TT Hb 74 (.pointer (some ⟨H5.length, 0, none⟩)) = some (a74 (some p.value)) := by rw [hAb.load]; exact ap74 _ _
  have lB : aload TT Hb 74 (.pointer (some ⟨H7.length, 0, none⟩)) = some (a74 o2) := by rw [hBb.load]; exact ap74 _ _
  have lC : aload TT Hb 74 (.pointer (some ⟨H9.length, 0, none⟩)) = some (a74 o3) := by rw [hCb.load]; exact ap74 _ _
  have dA : decide (some p.value = some p.value) = true := decide_eq_true rfl
  refine AQ_all TT_ok rfl (by simp only [go_sem, dU, Bool.not_true] <;> rfl) ?_
  refine AC_f (by simp only [go_sem] <;> rfl) (rfl) ?_
  refine AC_skip ?_
  refine AC_seq ?_
  refine AC_regL ?_
  by_cases hkp : key = p.key
  · have dk : decide (key = p.key) = true := decide_eq_true hkp
    refine AQ_take TT_ok 8 rfl (by simp only [go_sem, g2, g4, g12, f52_1, lA, hOb.load, ap52_value, List.map_cons, List.map_nil, b74, abin_a74, dA, f52_0] <;> rfl) ?_
    simp only [List.drop_succ_cons, List.drop_zero]
    refine AQ_take TT_ok 9 rfl (by simp only [go_sem, ap52_key, hOb.load, dk] <;> rfl) ?_
    simp only [List.drop_succ_cons, List.drop_zero]
    refine AQ_c rfl (by simp only [go_sem] <;> rfl) fok56 (by simp only [List.map_cons, List.map_nil, List.append_nil, go_sem] <;> rfl) (c56) (fun _ _ h => h.elim) (.inl rfl) fun r Hd hXd hr => ?_
    subst hr
    refine AQ_all TT_ok rfl (by simp only [go_sem] <;> rfl) ?_
    exact AC_ret ⟨.inl rfl, _, rfl, by simp only [go_sem]⟩
  · have dk : decide (key = p.key) = false := decide_eq_false hkp
    have dO : decide (o2 = o3) = true := decide_eq_true (hgk hkp)
    refine AQ_take TT_ok 8 rfl (by simp only [go_sem, g2, g4, g12, f52_1, lA, hOb.load, ap52_value, List.map_cons, List.map_nil, b74, abin_a74, dA, f52_0] <;> rfl) ?_
    simp only [List.drop_succ_cons, List.drop_zero]
    refine AQ_take TT_ok 9 rfl (by simp only [go_sem, g14, g16, lB, lC, ap52_key, hOb.load, abin_a74, dk, dO] <;> rfl) ?_
    simp only [List.drop_succ_cons, List.drop_zero]
    refine AQ_c rfl (by simp only [go_sem] <;> rfl) fok56 (by simp only [List.map_cons, List.map_nil, List.append_nil, go_sem] <;> rfl) (c56) (fun _ _ h => h.elim) (.inl rfl) fun r Hd hXd hr => ?_
    subst hr
    refine AQ_all TT_ok rfl (by simp only [go_sem] <;> rfl) ?_
    exact AC_ret ⟨.inl rfl, _, rfl, by simp only [go_sem]⟩
end Go.Proofs.Ythalogdopkoidaa.Ab
set_option linter.unusedVariables false
set_option linter.unusedSimpArgs false
namespace Go.Proofs.Ythalogdopkoidaa.Ab
open Go Go.RowKit Go.Proofs.Ythalogdopkoidaa.Dr
theorem del_mem {l : List Pr} {k : List UInt8} {x : Pr} : x ∈ del l k ↔ x ∈ l ∧ x.key ≠ k := by
  unfold del
  rw [List.mem_filter]
  simp
theorem del_ins {l : List Pr} (hm : May l) {p : Pr} (hp : Pok p) : del (ins l p) p.key = del l p.key := by
  refine ((hm.ins hp).del p.key).ext (hm.del p.key) fun x => ?_
  rw [del_mem, del_mem, ins_mem]
  constructor
  · rintro ⟨h | h, h2⟩
    · exact absurd (congrArg Pr.key h) h2
    · exact h
  · rintro ⟨h1, h2⟩
    exact ⟨.inr ⟨h1, h2⟩, h2⟩
theorem del_del (l : List Pr) (k : List UInt8) : del (del l k) k = del l k := del_id fun x hx => (del_mem.1 hx).2
theorem any_ins (l : List Pr) (p : Pr) : ((ins l p).any fun x => decide (x.key = p.key)) = true := List.any_eq_true.2 ⟨p, ins_mem.2 (.inl rfl), decide_eq_true rfl⟩
theorem any_del (l : List Pr) (k : List UInt8) : ((del l k).any fun x => decide (x.key = k)) = false := by
  cases h : (del l k).any fun x => decide (x.key = k)
  · rfl
  · obtain ⟨x, hx, he⟩ := List.any_eq_true.1 h
    exact absurd (of_decide_eq_true he) (del_mem.1 hx).2
theorem fnd_del {l : List Pr} (hm : May l) (k : List UInt8) : fnd (del l k) k = none := (hm.del k).fnd_none fun x hx => (del_mem.1 hx).2
theorem fnd_del_ne {l : List Pr} (hm : May l) {k k' : List UInt8} (hk : k' ≠ k) : fnd (del l k) k' = fnd l k' := by
  refine opt_ext fun v => ?_
  rw [(hm.del k).fnd, hm.fnd, del_mem]
  exact ⟨fun h => h.1, fun h => ⟨h, hk⟩⟩
set_option maxRecDepth 100000 in
set_option maxHeartbeats 16000000 in
theorem c25 {H : AHeap} {vl : Value} {l : List Pr} {p : Pr} {key : List UInt8} (hl : PrS H vl l) : ACalls Try.prog 25 [vl, p.val, S key] H (fun _ => False) fun v H' => v = .bool true := by
  refine ACalls_by 153 TT_ok Try.func25 rfl rfl rfl (by simp) ?_
  refine AC_seq ?_
  refine AC_regL ?_
  refine AQ_box TT_ok TT_52 rfl (by simp only [go_sem] <;> rfl) (Lay.pr p) rfl fun H1 hX1 hO1 hL1 => ?_
  refine AQ_all TT_ok rfl (by simp only [go_sem] <;> rfl) ?_
  have hl := hl.keep hX1
  have z1 := hX1.size
  refine AC_cut (fun e' H' => H1 = H' ∧ szP l ≤ 3000 ∧ May l ∧ Pok p ∧ kb key = true ∧ get e' 0 = vl ∧ get e' 2 = S key ∧ get e' 4 = .pointer (some ⟨H.length, 0, none⟩)) ?_ (fun e1 H2 _ ⟨hH, hsP, hm, hpok, hkk, g0, g2, g4⟩ => ?_)
  · refine AC_cut (fun e' H' => H1 = H' ∧ ∃ b, get e' 45 = .bool b ∧ (b = false → szP l ≤ 3000 ∧ May l ∧ Pok p ∧ kb key = true) ∧ get e' 0 = vl ∧ get e' 2 = S key ∧ get e' 4 = .pointer (some ⟨H.length, 0, none⟩)) ?_ (fun e1 H2 _ ⟨hH, b, hcnd, hb, g0, g2, g4⟩ => ?_)
    · refine AC_regL ?_
      refine AQ_take TT_ok 1 rfl (by simp only [go_sem] <;> rfl) ?_
      refine AQ_c rfl (by simp only [go_sem] <;> rfl) fok26 (by simp only [List.map_cons, List.map_nil, List.append_nil, go_sem] <;> rfl) (c26 hl) (fun _ _ h => h.elim) (.inl rfl) fun r H2 hX2 ⟨hH, b, hr, hb⟩ => ?_
      subst hr hH
      cases b
      · have hs := hb rfl
        have := szP_len l
        refine AQ_take TT_ok 2 rfl (by simp only [go_sem] <;> rfl) ?_
        refine AQ_c rfl (by simp only [go_sem] <;> rfl) fok39 (by simp only [List.map_cons, List.map_nil, List.append_nil, go_sem] <;> rfl) (c39 hl (by omega)) (fun _ _ h => h.elim) (.inl rfl) fun r H2 hX2 ⟨hr, hH⟩ => ?_
        have hH' := hH.symm
        subst hr hH'
        by_cases hm : May l
        · have dm : decide (May l) = true := decide_eq_true hm
          refine AQ_take TT_ok 5 rfl (by simp only [go_sem, f52_0, hO1.load, ap52_key, dm, Bool.not_true] <;> rfl) ?_
          refine AQ_c rfl (by simp only [go_sem] <;> rfl) fok48 (by simp only [List.map_cons, List.map_nil, List.append_nil, go_sem] <;> rfl) (c48 (k := p.key)) (fun _ _ h => h.elim) (.inl rfl) fun r H2 hX2 ⟨hr, hH⟩ => ?_
          have hH' := hH.symm
          subst hr hH'
          cases hkb : kb p.key
          · refine AQ_take TT_ok 10 rfl (by simp only [go_sem, Bool.not_false] <;> rfl) ?_
            simp only [List.drop_succ_cons, List.drop_zero]
            refine AQ_pass rfl ?_
            refine AQ_all TT_ok rfl (by simp only [go_sem] <;> rfl) ?_
            exact ⟨rfl, true, by simp only [go_sem], fun h => (by cases h), by simp only [go_sem], by simp only [go_sem], by simp only [go_sem]⟩
          · by_cases hv : p.value.length ≤ 16
            · have dv : decide ((16 : Int) < (p.value.length : Int)) = false := decide_eq_false (by omega)
              have hp : Pok p := ⟨(kb_len hkb).1, (kb_len hkb).2, hv⟩
              refine AQ_take TT_ok 10 rfl (by simp only [go_sem, f52_1, hO1.load, ap52_value, dv, Bool.not_true] <;> rfl) ?_
              simp only [List.drop_succ_cons, List.drop_zero]
              refine AQ_c rfl (by simp only [go_sem] <;> rfl) fok48 (by simp only [List.map_cons, List.map_nil, List.append_nil, go_sem] <;> rfl) (c48 (k := key)) (fun _ _ h => h.elim) (.inl rfl) fun r H2 hX2 ⟨hr, hH⟩ => ?_
              have hH' := hH.symm
              subst hr hH'
              refine AQ_all TT_ok rfl (by simp only [go_sem] <;> rfl) ?_
              exact ⟨rfl, !kb key, by simp only [go_sem], fun h => ⟨hs, hm, hp, by simpa using h⟩, by simp only [go_sem], by simp only [go_sem], by simp only [go_sem]⟩
            · have dv : decide ((16 : Int) < (p.value.length : Int)) = true := decide_eq_true (by omega)
              refine AQ_take TT_ok 10 rfl (by simp only [go_sem, f52_1, hO1.load, ap52_value, dv, Bool.not_true] <;> rfl) ?_
              simp only [List.drop_succ_cons, List.drop_zero]
              refine AQ_pass rfl ?_
              refine AQ_all TT_ok rfl (by simp only [go_sem] <;> rfl) ?_
              exact ⟨rfl, true, by simp only [go_sem], fun h => (by cases h), by simp only [go_sem], by simp only [go_sem], by simp only [go_sem]⟩
        · have dm : decide (May l) = false := decide_eq_false hm
          refine AQ_take TT_ok 5 rfl (by simp only [go_sem, dm, Bool.not_false] <;> rfl) ?_
          refine AQ_pass rfl ?_
          refine AQ_take TT_ok 10 rfl (by simp only [go_sem] <;> rfl) ?_
          simp only [List.drop_succ_cons, List.drop_zero]
          refine AQ_pass rfl ?_
          refine AQ_all TT_ok rfl (by simp only [go_sem] <;> rfl) ?_
          exact ⟨rfl, true, by simp only [go_sem], fun h => (by cases h), by simp only [go_sem], by simp only [go_sem], by simp only [go_sem]⟩
      · refine AQ_take TT_ok 2 rfl (by simp only [go_sem] <;> rfl) ?_
        refine AQ_pass rfl ?_
        refine AQ_take TT_ok 5 rfl (by simp only [go_sem] <;> rfl) ?_
        refine AQ_pass rfl ?_
        refine AQ_take TT_ok 10 rfl (by simp only [go_sem] <;> rfl) ?_
        simp only [List.drop_succ_cons, List.drop_zero]
        refine AQ_pass rfl ?_
        refine AQ_all TT_ok rfl (by simp only [go_sem] <;> rfl) ?_
        exact ⟨rfl, true, by simp only [go_sem], fun h => (by cases h), by simp only [go_sem], by simp only [go_sem], by simp only [go_sem]⟩
    subst hH
    cases b
    · exact AC_f hcnd rfl (AC_skip ⟨rfl, (hb rfl).1, (hb rfl).2.1, (hb rfl).2.2.1, (hb rfl).2.2.2, g0, g2, g4⟩)
    · refine AC_t hcnd rfl ?_
      refine AC_seq ?_
      refine AC_regL ?_
      refine AQ_c rfl (by simp only [go_sem] <;> rfl) fok45 (by simp only [List.map_cons, List.map_nil, List.append_nil, go_sem] <;> rfl) (c45) (fun _ _ h => h.elim) (.inl rfl) fun r H2 hX2 hr => ?_
      subst hr
      refine AQ_all TT_ok rfl (by simp only [go_sem] <;> rfl) ?_
      exact AC_ret ⟨.inl rfl, _, rfl, by simp only [go_sem]⟩
  subst hH
  have hll := szP_len l
  refine AC_seq ?_
  refine AC_regL ?_
  refine AQ_take TT_ok 1 rfl (by simp only [go_sem, g0] <;> rfl) ?_
  refine AQ_c rfl (by simp only [go_sem] <;> rfl) fok30 (by simp only [List.map_cons, List.map_nil, List.append_nil, go_sem] <;> rfl) (c30 hl (by omega)) (fun _ _ h => h.elim) (.inl rfl) fun r H2 hX2 ⟨vt, vp, hr, hT2, _, _, _⟩ => ?_
  subst hr
  rw [if_pos hm] at hT2
  have hT2 : NdS H2 vt (build l) := hT2.sl
  have hl2 := hl.keep hX2
  have hO2 := hO1.keep hX2
  refine AQ_all TT_ok rfl (by simp only [go_sem, (pick32 hT2), List.map_cons, List.map_nil] <;> rfl) ?_
  refine AC_fixe (fun e' => get e' 2 = S key ∧ get e' 4 = .pointer (some ⟨H.length, 0, none⟩) ∧ get e' 7 = vt) ⟨by simp only [go_sem, g2], by simp only [go_sem, g4], by simp only [go_sem]⟩ (fun e2 ⟨g2, g4, g7⟩ => ?_)
  have hpk := perr_pok hpok
  have hmi := hm.ins hpok
  have hmd := hm.del p.key
  have hbl := build_len l
  have hbp := build_path hm
  have hbn : ∀ n ∈ build l, n.path.length < 2^30 := fun n hn => by have := hbp n hn; omega
  have hbp2 := build_path hmi
  have hbn2 : ∀ n ∈ build (ins l p), n.path.length < 2^30 := fun n hn => by have := hbp2 n hn; omega
  have hbl2 : (build (ins l p)).length < 2^18 := by have := build_len (ins l p); have := ins_len l p; omega
  have hbp3 := build_path hmd
  have hbn3 : ∀ n ∈ build (del l p.key), n.path.length < 2^30 := fun n hn => by have := hbp3 n hn; omega
  have hbl3 : (build (del l p.key)).length < 2^18 := by have := build_len (del l p.key); have := del_len l p.key; omega
  have hE1 := allE_step hm p
  rw [if_pos (perr_of hpok)] at hE1
  have hD1 := dropE_build hmi hpk
  rw [del_lt, any_ins, del_ins hm hpok] at hD1
  have hD2 := dropE_build hmd hpk
  rw [del_lt, any_del, del_del] at hD2
  have hG0 := of_build hm hpk
  have hG1 := of_build hmd hkk
  have hG2 := of_build hm hkk
  have hge : key = p.key → fnd (del l p.key) key = none := fun h => by rw [h]; exact fnd_del hm p.key
  have hgn : key ≠ p.key → fnd (del l p.key) key = fnd l key := fun h => fnd_del_ne hm h
  have hsm := del_same hm p.key
  rw [← fnd_any] at hsm
  have his := isw_build hmd
  generalize fnd l p.key = o0 at *
  generalize fnd (del l p.key) key = o1 at *
  generalize fnd l key = o2 at *
  generalize hUd : build (ins l p) = U at *
  generalize hVd : build (del l p.key) = V at *
  generalize hTd : build l = T at *
  refine AC_seq ?_
  refine AC_regL ?_
  refine AQ_take TT_ok 3 rfl (by simp only [go_sem, g4, g7, f52_0, hO2.load, ap52_key] <;> rfl) ?_
  refine AQ_c rfl (by simp only [go_sem] <;> rfl) fok50 (by simp only [List.map_cons, List.map_nil, List.append_nil, go_sem] <;> rfl) (c50 (key := p.key) hT2 (by omega) hbn) (fun _ _ h => h.elim) (.inl rfl) fun r H3 hX3 hr => ?_
  rw [hG0] at hr
  subst hr
  refine AQ_take TT_ok 3 rfl (by simp only [go_sem] <;> rfl) ?_
  refine AQ_var TT_ok TT_74 rfl (by decide) (by simp only [go_sem] <;> rfl) (Lay.a74 o0) rfl (.inl (by have := hX2.size; have := hX3.size; omega)) (.inl rfl) fun H4 hX4 hA4 hL4 => ?_
  refine AQ_all TT_ok rfl (by simp only [go_sem] <;> rfl) ?_
  have x4 := hX3.trans hX4
  have hT4 := hT2.keep x4
  have hO4 := hO2.keep x4
  have z4 := (hX2.trans x4).size
  refine AC_fixe (fun e' => get e' 2 = S key ∧ get e' 4 = .pointer (some ⟨H.length, 0, none⟩) ∧ get e' 7 = vt ∧ get e' 8 = .pointer (some ⟨H3.length, 0, none⟩) ∧ get e' 9 = .int .i64 0) ⟨by simp only [go_sem, g2], by simp only [go_sem, g4], by simp only [go_sem, g7], by simp only [go_sem], by simp only [go_sem]⟩ (fun e4 ⟨g2, g4, g7, g8, g9⟩ => ?_)
  refine AC_seq ?_
  refine AC_regL ?_
  refine AQ_take TT_ok 5 rfl (by simp only [go_sem, g4, g7, f52_0, f52_1, hO4.load, ap52_key, ap52_value] <;> rfl) ?_
  refine AQ_c rfl (by simp only [go_sem] <;> rfl) fok57 (by simp only [List.map_cons, List.map_nil, List.append_nil, go_sem] <;> rfl) (c57 (p := p) hT4 (by omega) hbn) (fun _ _ h => h.elim) (.inl rfl) fun r H5 hX5 ⟨u1, hr, hU1, _⟩ => ?_
  rw [hE1] at hr hU1
  subst hr
  have hU1 : NdS H5 u1 U := hU1.sl
  refine AQ_all TT_ok rfl (by simp only [go_sem] <;> rfl) ?_
  have hT5 := hT4.keep hX5
  have hO5 := hO4.keep hX5
  have hA5 := hA4.keep hX5
  refine AC_fixe (fun e' => get e' 2 = S key ∧ get e' 4 = .pointer (some ⟨H.length, 0, none⟩) ∧ get e' 7 = vt ∧ get e' 8 = .pointer (some ⟨H3.length, 0, none⟩) ∧ get e' 9 = .int .i64 0 ∧ get e' 10 = u1 ∧ get e' 11 = .int .i64 0) ⟨by simp only [go_sem, g2], by simp only [go_sem, g4], by simp only [go_sem, g7], by simp only [go_sem, g8], by simp only [go_sem, g9], by simp only [go_sem], by simp only [go_sem]⟩ (fun e5 ⟨g2, g4, g7, g8, g9, g10, g11⟩ => ?_)
  refine AC_seq ?_
  refine AC_regL ?_
  refine AQ_take TT_ok 3 rfl (by simp only [go_sem, g4, g10, f52_0, hO5.load, ap52_key] <;> rfl) ?_
  refine AQ_c rfl (by simp only [go_sem] <;> rfl) fok46 (by simp only [List.map_cons, List.map_nil, List.append_nil, go_sem] <;> rfl) (c46 (key := p.key) hU1 (by omega) hbn2) (fun _ _ h => h.elim) (.inl rfl) fun r H6 hX6 ⟨u2, hr, hV1, _⟩ => ?_
  rw [hD1] at hr hV1
  subst hr
  have hV1 : NdS H6 u2 V := hV1.sl
  refine AQ_all TT_ok rfl (by simp only [go_sem] <;> rfl) ?_
  have hT6 := hT5.keep hX6
  have hO6 := hO5.keep hX6
  have hA6 := hA5.keep hX6
  refine AC_fixe (fun e' => get e' 2 = S key ∧ get e' 4 = .pointer (some ⟨H.length, 0, none⟩) ∧ get e' 7 = vt ∧ get e' 8 = .pointer (some ⟨H3.length, 0, none⟩) ∧ get e' 9 = .int .i64 0 ∧ get e' 11 = .int .i64 0 ∧ get e' 12 = u2 ∧ get e' 13 = .bool true ∧ get e' 14 = .int .i64 0) ⟨by simp only [go_sem, g2], by simp only [go_sem, g4], by simp only [go_sem, g7], by simp only [go_sem, g8], by simp only [go_sem, g9], by simp only [go_sem, g11], by simp only [go_sem], by simp only [go_sem], by simp only [go_sem]⟩ (fun e6 ⟨g2, g4, g7, g8, g9, g11, g12, g13, g14⟩ => ?_)
  refine AC_seq ?_
  refine AC_regL ?_
  refine AQ_take TT_ok 3 rfl (by simp only [go_sem, g4, g12, f52_0, hO6.load, ap52_key] <;> rfl) ?_
  refine AQ_c rfl (by simp only [go_sem] <;> rfl) fok46 (by simp only [List.map_cons, List.map_nil, List.append_nil, go_sem] <;> rfl) (c46 (key := p.key) hV1 (by omega) hbn3) (fun _ _ h => h.elim) (.inl rfl) fun r H7 hX7 ⟨u3, hr, hV2, _⟩ => ?_
  rw [hD2] at hr hV2
  subst hr
  have hV2 : NdS H7 u3 V := hV2.sl
  refine AQ_all TT_ok rfl (by simp only [go_sem] <;> rfl) ?_
  have hT7 := hT6.keep hX7
  have hV1 := hV1.keep hX7
  have hO7 := hO6.keep hX7
  have hA7 := hA6.keep hX7
  have z7 := ((hX5.trans hX6).trans hX7).size
  refine AC_fixe (fun e' => get e' 2 = S key ∧ get e' 4 = .pointer (some ⟨H.length, 0, none⟩) ∧ get e' 7 = vt ∧ get e' 8 = .pointer (some ⟨H3.length, 0, none⟩) ∧ get e' 9 = .int .i64 0 ∧ get e' 11 = .int .i64 0 ∧ get e' 12 = u2 ∧ get e' 13 = .bool true ∧ get e' 14 = .int .i64 0 ∧ get e' 15 = u3 ∧ get e' 16 = .bool false ∧ get e' 17 = .int .i64 0) ⟨by simp only [go_sem, g2], by simp only [go_sem, g4], by simp only [go_sem, g7], by simp only [go_sem, g8], by simp only [go_sem, g9], by simp only [go_sem, g11], by simp only [go_sem, g12], by simp only [go_sem, g13], by simp only [go_sem, g14], by simp only [go_sem], by simp only [go_sem], by simp only [go_sem]⟩ (fun e7 ⟨g2, g4, g7, g8, g9, g11, g12, g13, g14, g15, g16, g17⟩ => ?_)
  refine AC_seq ?_
  refine AC_regL ?_
  refine AQ_take TT_ok 2 rfl (by simp only [go_sem, g2, g12] <;> rfl) ?_
  refine AQ_c rfl (by simp only [go_sem] <;> rfl) fok50 (by simp only [List.map_cons, List.map_nil, List.append_nil, go_sem] <;> rfl) (c50 (key := key) hV1 (by omega) hbn3) (fun _ _ h => h.elim) (.inl rfl) fun r H8 hX8 hr => ?_
  rw [hG1] at hr
  subst hr
  refine AQ_take TT_ok 3 rfl (by simp only [go_sem] <;> rfl) ?_
  refine AQ_var TT_ok TT_74 rfl (by decide) (by simp only [go_sem] <;> rfl) (Lay.a74 o1) rfl (.inl (by have := hX8.size; omega)) (.inl rfl) fun H9 hX9 hB9 hL9 => ?_
  refine AQ_all TT_ok rfl (by simp only [go_sem] <;> rfl) ?_
  have x9 := hX8.trans hX9
  have hT9 := hT7.keep x9
  have hV1 := hV1.keep x9
  have hV2 := hV2.keep x9
  have hO9 := hO7.keep x9
  have hA9 := hA7.keep x9
  have z9 := x9.size
  refine AC_fixe (fun e' => get e' 2 = S key ∧ get e' 4 = .pointer (some ⟨H.length, 0, none⟩) ∧ get e' 7 = vt ∧ get e' 8 = .pointer (some ⟨H3.length, 0, none⟩) ∧ get e' 9 = .int .i64 0 ∧ get e' 11 = .int .i64 0 ∧ get e' 12 = u2 ∧ get e' 13 = .bool true ∧ get e' 14 = .int .i64 0 ∧ get e' 15 = u3 ∧ get e' 16 = .bool false ∧ get e' 17 = .int .i64 0 ∧ get e' 18 = .pointer (some ⟨H8.length, 0, none⟩) ∧ get e' 19 = .int .i64 0) ⟨by simp only [go_sem, g2], by simp only [go_sem, g4], by simp only [go_sem, g7], by simp only [go_sem, g8], by simp only [go_sem, g9], by simp only [go_sem, g11], by simp only [go_sem, g12], by simp only [go_sem, g13], by simp only [go_sem, g14], by simp only [go_sem, g15], by simp only [go_sem, g16], by simp only [go_sem, g17], by simp only [go_sem], by simp only [go_sem]⟩ (fun e9 ⟨g2, g4, g7, g8, g9, g11, g12, g13, g14, g15, g16, g17, g18, g19⟩ => ?_)
  refine AC_seq ?_
  refine AC_regL ?_
  refine AQ_take TT_ok 2 rfl (by simp only [go_sem, g2, g7] <;> rfl) ?_
  refine AQ_c rfl (by simp only [go_sem] <;> rfl) fok50 (by simp only [List.map_cons, List.map_nil, List.append_nil, go_sem] <;> rfl) (c50 (key := key) hT9 (by omega) hbn) (fun _ _ h => h.elim) (.inl rfl) fun r Ha hXa hr => ?_
  rw [hG2] at hr
  subst hr
  refine AQ_take TT_ok 3 rfl (by simp only [go_sem] <;> rfl) ?_
  refine AQ_var TT_ok TT_74 rfl (by decide) (by simp only [go_sem] <;> rfl) (Lay.a74 o2) rfl (.inl (by have := hXa.size; omega)) (.inl rfl) fun Hb hXb hCb hLb => ?_
  refine AQ_all TT_ok rfl (by simp only [go_sem] <;> rfl) ?_
  have xb := hXa.trans hXb
  have hTb := hT9.keep xb
  have hV1 := hV1.keep xb
  have hV2 := hV2.keep xb
  have hOb := hO9.keep xb
  have hAb := hA9.keep xb
  have hBb := hB9.keep xb
  refine AC_fixe (fun e' => get e' 2 = S key ∧ get e' 4 = .pointer (some ⟨H.length, 0, none⟩) ∧ get e' 7 = vt ∧ get e' 8 = .pointer (some ⟨H3.length, 0, none⟩) ∧ get e' 9 = .int .i64 0 ∧ get e' 11 = .int .i64 0 ∧ get e' 12 = u2 ∧ get e' 13 = .bool true ∧ get e' 14 = .int .i64 0 ∧ get e' 15 = u3 ∧ get e' 16 = .bool false ∧ get e' 17 = .int .i64 0 ∧ get e' 18 = .pointer (some ⟨H8.length, 0, none⟩) ∧ get e' 19 = .int .i64 0 ∧ get e' 20 = .pointer (some ⟨Ha.length, 0, none⟩) ∧ get e' 21 = .int .i64 0) ⟨by simp only [go_sem, g2], by simp only [go_sem, g4], by simp only [go_sem, g7], by simp only [go_sem, g8], by simp only [go_sem, g9], by simp only [go_sem, g11], by simp only [go_sem, g12], by simp only [go_sem, g13], by simp only [go_sem, g14], by simp only [go_sem, g15], by simp only [go_sem, g16], by simp only [go_sem, g17], by simp only [go_sem, g18], by simp only [go_sem, g19], by simp only [go_sem], by simp only [go_sem]⟩ (fun eb ⟨g2, g4, g7, g8, g9, g11, g12, g13, g14, g15, g16, g17, g18, g19, g20, g21⟩ => ?_)
  have e0 : decide ((0 : Int) = 0) = true := rfl
  have di : decide (Isw V) = true := decide_eq_true his
  have dV : decide (V = V) = true := decide_eq_true rfl
  refine AC_seq ?_
  refine AC_seq ?_
  refine AC_regL ?_
  refine AQ_take TT_ok 10 rfl (by simp only [go_sem, g9, g11, g14, e0, Bool.not_true] <;> rfl) ?_
  simp only [List.drop_succ_cons, List.drop_zero]
  refine AQ_take TT_ok 12 rfl (by simp only [go_sem, g17, g19, g21, e0, Bool.not_true] <;> rfl) ?_
  simp only [List.drop_succ_cons, List.drop_zero]
  refine AQ_take TT_ok 9 rfl (by simp only [go_sem, g12, g13, g16, Bool.not_true] <;> rfl) ?_
  simp only [List.drop_succ_cons, List.drop_zero]
  refine AQ_c rfl (by simp only [go_sem] <;> rfl) fok37 (by simp only [List.map_cons, List.map_nil, List.append_nil, go_sem] <;> rfl) (c37 hV1 (by omega) hbn3) (fun _ _ h => h.elim) (.inl rfl) fun r Hc hXc hr => ?_
  subst hr
  refine AQ_take TT_ok 5 rfl (by simp only [go_sem, di, g12, g15, Bool.not_true] <;> rfl) ?_
  refine AQ_c rfl (by simp only [go_sem] <;> rfl) fok34 (by simp only [List.map_cons, List.map_nil, List.append_nil, go_sem] <;> rfl) (c34 (hV1.keep hXc) (hV2.keep hXc) (by omega)) (fun _ _ h => h.elim) (.inl rfl) fun r Hd hXd ⟨hr, hH⟩ => ?_
  have hH' := hH.symm
  subst hr hH'
  have hTc := hTb.keep hXc
  have hV1 := hV1.keep hXc
  have hOc := hOb.keep hXc
  have hAc := hAb.keep hXc
  have hBc := hBb.keep hXc
  have hCc := hCb.keep hXc
  have lA0 : aload TT Hc 4 (.pointer (some ⟨H3.length, 0, none⟩)) = some (.bool o0.isSome) := by rw [hAc.load]; rfl
  have lB : aload TT Hc 74 (.pointer (some ⟨H8.length, 0, none⟩)) = some (a74 o1) := by rw [hBc.load]; exact ap74 _ _
  have lB0 : aload TT Hc 4 (.pointer (some ⟨H8.length, 0, none⟩)) = some (.bool o1.isSome) := by rw [hBc.load]; rfl
  have lC : aload TT Hc 74 (.pointer (some ⟨Ha.length, 0, none⟩)) = some (a74 o2) := by rw [hCc.load]; exact ap74 _ _
  refine AQ_all TT_ok rfl (by simp only [go_sem, dV, Bool.not_true] <;> rfl) ?_
  refine AC_f (by simp only [go_sem] <;> rfl) (rfl) ?_
  refine AC_skip ?_
  refine AC_cut (fun e' H' => H' = Hc ∧ get e' 7 = vt ∧ get e' 8 = .pointer (some ⟨H3.length, 0, none⟩) ∧ get e' 12 = u2) ?_ (fun ec He _ ⟨hH, g7, g8, g12⟩ => ?_)
  · by_cases hkp : key = p.key
    · have dk : decide (key = p.key) = true := decide_eq_true hkp
      have ho := hge hkp
      subst ho
      refine AC_seqQ TT_ok (by simp only [go_sem, g2, g4, f52_0, hOc.load, ap52_key, dk] <;> rfl) ?_
      refine AC_t (by simp only [go_sem] <;> rfl) (rfl) ?_
      refine AC_seqQ TT_ok (by simp only [go_sem, g18, f74_0, lB0, Option.isSome_none] <;> rfl) ?_
      refine AC_f (by simp only [go_sem] <;> rfl) (rfl) ?_
      exact AC_skip ⟨rfl, by simp only [go_sem, g7], by simp only [go_sem, g8], by simp only [go_sem, g12]⟩
    · have dk : decide (key = p.key) = false := decide_eq_false hkp
      have dO : decide (o1 = o2) = true := decide_eq_true (hgn hkp)
      refine AC_seqQ TT_ok (by simp only [go_sem, g2, g4, f52_0, hOc.load, ap52_key, dk] <;> rfl) ?_
      refine AC_f (by simp only [go_sem] <;> rfl) (rfl) ?_
      refine AC_seqQ TT_ok (by simp only [go_sem, g18, g20, lB, lC, abin_a74n, dO, Bool.not_true] <;> rfl) ?_
      refine AC_f (by simp only [go_sem] <;> rfl) (rfl) ?_
      exact AC_skip ⟨rfl, by simp only [go_sem, g7], by simp only [go_sem, g8], by simp only [go_sem, g12]⟩
  subst hH
  refine AC_seq ?_
  refine AC_regL ?_
  cases hs : o0.isSome
  · rw [hs] at lA0 hsm
    refine AQ_take TT_ok 5 rfl (by simp only [go_sem, g7, g8, g12, f74_0, lA0] <;> rfl) ?_
    refine AQ_c rfl (by simp only [go_sem] <;> rfl) fok34 (by simp only [List.map_cons, List.map_nil, List.append_nil, go_sem] <;> rfl) (c34 hV1 hTc (by omega)) (fun _ _ h => h.elim) (.inl rfl) fun r Hf hXf ⟨hr, hH⟩ => ?_
    rw [hsm] at hr
    have hH' := hH.symm
    subst hr hH'
    refine AQ_take TT_ok 2 rfl (by simp only [go_sem, Bool.not_false] <;> rfl) ?_
    refine AQ_c rfl (by simp only [go_sem] <;> rfl) fok45 (by simp only [List.map_cons, List.map_nil, List.append_nil, go_sem] <;> rfl) (c45) (fun _ _ h => h.elim) (.inl rfl) fun r Hg hXg hr => ?_
    subst hr
    refine AQ_all TT_ok rfl (by simp only [go_sem] <;> rfl) ?_
    exact AC_ret ⟨.inl rfl, _, rfl, by simp only [go_sem]⟩
  · rw [hs] at lA0
    refine AQ_take TT_ok 5 rfl (by simp only [go_sem, g8, f74_0, lA0] <;> rfl) ?_
    refine AQ_pass rfl ?_
    refine AQ_take TT_ok 2 rfl (by simp only [go_sem] <;> rfl) ?_
    refine AQ_c rfl (by simp only [go_sem] <;> rfl) fok45 (by simp only [List.map_cons, List.map_nil, List.append_nil, go_sem] <;> rfl) (c45) (fun _ _ h => h.elim) (.inl rfl) fun r Hg hXg hr => ?_
    subst hr
    refine AQ_all TT_ok rfl (by simp only [go_sem] <;> rfl) ?_
    exact AC_ret ⟨.inl rfl, _, rfl, by simp only [go_sem]⟩
end Go.Proofs.Ythalogdopkoidaa.Ab
