/- Code over abstract memory: what holds behind it, rule by rule; functions' contracts. No statement of the seat's in it. -/
import Derived.Test.YthalogdopkoidaaA9
import Derived.Deep.LoopGhost
set_option linter.unusedVariables false
namespace Go.Proofs.Ythalogdopkoidaa.Ab
open Go Go.RowKit Go.Proofs.Ythalogdopkoidaa.Dr

/-- The temporaries that are known. -/
abbrev Env := List (Nat × Value)

/-- What a passed operation leaves. -/
def void : Value := .chan none

def get : Env → Nat → Value
  | [], _ => undef
  | (k, v) :: e, t => if t = k then v else get e t

def eput (N : Nat) (e : Env) (dst : Option Nat) (v : Value) : Env :=
  match dst with
  | some d => if d < N then (d, v) :: e else e
  | none => e

def aev (e : Env) : Operand → Value
  | .tmp t => get e t
  | .const v => if flatConst v = true then v else undef
  | .func f => .func (.func f) #[] #[]
  | .global _ => undef

structure ER (β : List Loc) (e : Env) (a : Act) (N : Nat) : Prop where
  size : a.tmps.size = N
  defers : a.defers = []
  at_ : ∀ t, R β (get e t) (a.tmps.getD t undef)

theorem R.undef (β : List Loc) (v : Value) : R β undef v := .junk v

theorem ER.ext {β β' : List Loc} (hp : β <+: β') {e : Env} {a : Act} {N : Nat} (h : ER β e a N) : ER β' e a N := ⟨h.size, h.defers, fun t => (h.at_ t).ext hp⟩

theorem ER.eval {β : List Loc} {e : Env} {a : Act} {N : Nat} (h : ER β e a N) (x : Operand) : R β (aev e x) (a.eval x) := by
  cases x with
  | tmp t => exact h.at_ t
  | const v =>
    unfold aev Act.eval
    dsimp only
    split
    · rename_i hv; exact R.const β hv
    · exact .junk _
  | global g => exact .junk _
  | func f => exact .func _ rfl (fun j v v' hj => by simp at hj)

theorem ER.put {β : List Loc} {e : Env} {a : Act} {N : Nat} (h : ER β e a N) {v v' : Value} (hv : R β v v') (dst : Option Nat) : ER β (eput N e dst v) (a.put dst v') N := by
  cases dst with
  | none => exact h
  | some d =>
    by_cases hd : d < N
    · refine ⟨by simp [Act.put, h.size], h.defers, fun t => ?_⟩
      simp only [eput, if_pos hd, get, Act.put]
      by_cases ht : t = d
      · subst ht
        rw [if_pos rfl]
        simp [h.size, hd]
        exact hv
      · rw [if_neg ht]
        have := h.at_ t
        simpa [Array.getElem?_setIfInBounds_ne (Ne.symm ht)] using this
    · refine ⟨by simp [Act.put, h.size], h.defers, fun t => ?_⟩
      simp only [eput, if_neg hd, Act.put]
      have e1 : a.tmps.setIfInBounds d v' = a.tmps := Array.setIfInBounds_eq_of_size_le (by rw [h.size]; omega)
      rw [e1]
      exact h.at_ t

/-- Some abstract state behind. -/
def St (P : Program) (N : Nat) (ok perm : Nat → Prop) (w0 : World) (β0 : List Loc) (H0 : AHeap) (K : Env → AHeap → Prop) (a : Act) (w : World) : Prop :=
  ∃ e H β, K e H ∧ β0 <+: β ∧ Inv P ok perm H β w ∧ ER β e a N ∧ Fr perm w0 w ∧ AExt ok H0 H

theorem St.mono {P : Program} {N : Nat} {ok perm : Nat → Prop} {w0 : World} {β0 : List Loc} {H0 : AHeap} {K K' : Env → AHeap → Prop} {a : Act} {w : World} (h : St P N ok perm w0 β0 H0 K a w) (hk : ∀ e H, AExt ok H0 H → K e H → K' e H) : St P N ok perm w0 β0 H0 K' a w := by
  obtain ⟨e, H, β, h1, h2, h3, h4, h5, h6⟩ := h
  exact ⟨e, H, β, hk e H h6 h1, h2, h3, h4, h5, h6⟩

theorem St.from {P : Program} {N : Nat} {ok perm : Nat → Prop} {w0 : World} {β0 β1 : List Loc} {H0 H1 : AHeap} {K : Env → AHeap → Prop} {a : Act} {w : World} (hp : β0 <+: β1) (he : AExt ok H0 H1) (h : St P N ok perm w0 β1 H1 K a w) : St P N ok perm w0 β0 H0 K a w := by
  obtain ⟨e, H, β, h1, h2, h3, h4, h5, h6⟩ := h
  exact ⟨e, H, β, h1, hp.trans h2, h3, h4, h5, he.trans h6⟩

/-- What is asked of an exit: never a panic. -/
def Post (P : Program) (N : Nat) (ok perm : Nat → Prop) (w0 : World) (β0 : List Loc) (H0 : AHeap) (Q : Exit → Env → AHeap → Prop) : Exit → Act → World → Prop
  | .normal, a, w => St P N ok perm w0 β0 H0 (Q .normal) a w
  | .exit i, a, w => St P N ok perm w0 β0 H0 (Q (.exit i)) a w
  | .goto i, a, w => St P N ok perm w0 β0 H0 (Q (.goto i)) a w
  | .ret, a, w => St P N ok perm w0 β0 H0 (Q .ret) a w
  | .panic _, _, _ => False
  | .outgrown, _, _ => False

/-- Code, from an abstract state. -/
def AC (P : Program) (N : Nat) (ok : Nat → Prop) (c : Code) (Q : Exit → Env → AHeap → Prop) (e : Env) (H : AHeap) : Prop :=
  ∀ (perm : Nat → Prop) (w0 : World) (β : List Loc) (a : Act) (w : World), (∀ b, w0.heap.size ≤ b → perm b) → Fr perm w0 w → Inv P ok perm H β w → ER β e a N →
    c.wp P (Post P N ok perm w0 β H Q) a w

section
variable {P : Program} {N : Nat} {ok : Nat → Prop} {Q : Exit → Env → AHeap → Prop} {e : Env} {H : AHeap}

theorem St.here {perm : Nat → Prop} {w0 : World} {β : List Loc} {a : Act} {w : World} {K : Env → AHeap → Prop} (h : K e H) (hI : Inv P ok perm H β w) (hE : ER β e a N) (hF : Fr perm w0 w) : St P N ok perm w0 β H K a w :=
  ⟨e, H, β, h, List.prefix_rfl, hI, hE, hF, AExt.refl _ _⟩

theorem AC_mono {c : Code} {Q' : Exit → Env → AHeap → Prop} (h : AC P N ok c Q e H) (hq : ∀ ex e' H', AExt ok H H' → Q ex e' H' → Q' ex e' H') : AC P N ok c Q' e H := fun perm w0 β a w h1 h2 h3 h4 =>
  Code.wp_mono (fun ex a' w' hp => by
    cases ex <;> first | exact St.mono hp (fun e' H' hx hQ => hq _ e' H' hx hQ) | exact hp) (h perm w0 β a w h1 h2 h3 h4)

theorem AC_skip (h : Q .normal e H) : AC P N ok .skip Q e H := fun perm w0 β a w h1 h2 h3 h4 => wp_skip (St.here h h3 h4 h2)
theorem AC_ret (h : Q .ret e H) : AC P N ok .ret Q e H := fun perm w0 β a w h1 h2 h3 h4 => wp_ret (St.here h h3 h4 h2)
theorem AC_exit {i : Nat} (h : Q (.exit i) e H) : AC P N ok (.exit i) Q e H := fun perm w0 β a w h1 h2 h3 h4 => wp_exit (St.here h h3 h4 h2)

/-- What stands behind. -/
def thenQ (K : Env → AHeap → Prop) (Q : Exit → Env → AHeap → Prop) : Exit → Env → AHeap → Prop
  | .normal => K
  | ex => Q ex

theorem AC_seq {x y : Code} (h : AC P N ok x (thenQ (AC P N ok y Q) Q) e H) : AC P N ok (.seq x y) Q e H := fun perm w0 β a w h1 h2 h3 h4 => by
  refine wp_seq (Code.wp_mono (fun ex a' w' hp => ?_) (h perm w0 β a w h1 h2 h3 h4))
  cases ex with
  | normal =>
    obtain ⟨e', H', β', hK, hβ, hI, hE, hF, hX⟩ := hp
    refine Code.wp_mono (fun ex a'' w'' hp' => ?_) (hK perm w0 β' a' w' h1 hF hI hE)
    cases ex <;> first | exact St.from hβ hX hp' | exact hp'
  | _ => exact hp

theorem AC_cond {c : Operand} {x y : Code} {t : Bool} (hc : aev e c = .bool t) (h : AC P N ok (if t then x else y) Q e H) : AC P N ok (.cond c x y) Q e H := fun perm w0 β a w h1 h2 h3 h4 => by
  have hr := h4.eval c
  rw [hc] at hr
  generalize hv : a.eval c = v at hr
  cases hr
  exact wp_cond hv (h perm w0 β a w h1 h2 h3 h4)

def blockQ (i : Nat) (Q : Exit → Env → AHeap → Prop) : Exit → Env → AHeap → Prop
  | .exit j => if j = i then Q .normal else Q (.exit j)
  | ex => Q ex

theorem AC_block {i : Nat} {c : Code} (h : AC P N ok c (blockQ i Q) e H) : AC P N ok (.block i c) Q e H := fun perm w0 β a w h1 h2 h3 h4 => by
  refine wp_block (Code.wp_mono (fun ex a' w' hp => ?_) (h perm w0 β a w h1 h2 h3 h4))
  cases ex with
  | exit j =>
    simp only [Exit.inBlock]
    have hp' : St P N ok perm w0 β H (blockQ i Q (.exit j)) a' w' := hp
    split
    · rename_i hj
      have e1 : blockQ i Q (.exit j) = Q .normal := by simp [blockQ, hj]
      rw [e1] at hp'; exact hp'
    · rename_i hj
      have e1 : blockQ i Q (.exit j) = Q (.exit j) := by simp [blockQ, hj]
      rw [e1] at hp'; exact hp'
  | _ => exact hp

theorem AC_loop {c : Code} (I : Nat → Env → AHeap → Prop) (n0 : Nat) (h0 : I n0 e H)
    (round : ∀ n e' H', AExt ok H H' → I n e' H' → AC P N ok c (thenQ (fun e'' H'' => ∃ n', n' < n ∧ I n' e'' H'') Q) e' H') : AC P N ok (.loop c) Q e H := fun perm w0 β a w h1 h2 h3 h4 => by
  refine wp_loop_ghost (fun n a' w' => St P N ok perm w0 β H (I n) a' w') n0 (St.here h0 h3 h4 h2) fun n a' w' hst => ?_
  obtain ⟨e', H', β', hI', hβ, hI, hE, hF, hX⟩ := hst
  refine Code.wp_mono (fun ex a'' w'' hp => ?_) (round n e' H' hX hI' perm w0 β' a' w' h1 hF hI hE)
  cases ex with
  | normal =>
    obtain ⟨e'', H'', β'', ⟨n', hn, hI2⟩, h5, h6, h7, h8, h9⟩ := hp
    exact ⟨n', hn, e'', H'', β'', hI2, hβ.trans h5, h6, h7, h8, hX.trans h9⟩
  | _ => first | exact St.from hβ hX hp | exact hp

/-- Less is known. -/
theorem AC_forget {c : Code} (e' : Env) (he : ∀ t, get e' t = get e t ∨ get e' t = undef) (h : AC P N ok c Q e' H) : AC P N ok c Q e H := fun perm w0 β a w h1 h2 h3 h4 =>
  h perm w0 β a w h1 h2 h3 ⟨h4.size, h4.defers, fun t => by rcases he t with h | h <;> rw [h]; exact h4.at_ t; exact .junk _⟩
end

/-! ### One operation -/
theorem eop_turned {T : Tab} {H : AHeap} {ev : Operand → Value} {op : Op} {r : Eff} (h : eop T H ev op = some r) {i : Nat} (hi : r.2.2 = some i) : ∃ o, H[i]? = some (some o) ∧ o.rw = true := by
  cases op <;> simp only [eop] at h <;> try (cases h; done)
  case alloc t => unfold ealloc at h; split at h <;> first | (cases h; done) | (obtain rfl := Option.some.inj h; cases hi)
  case box t x => unfold ebox at h; (repeat' split at h) <;> first | (cases h; done) | (obtain rfl := Option.some.inj h; cases hi)
  case buildSlice t l p => unfold elit at h; (repeat' split at h) <;> first | (cases h; done) | (obtain rfl := Option.some.inj h; cases hi)
  case makeSlice t l c => unfold emake at h; (repeat' split at h) <;> first | (cases h; done) | (obtain rfl := Option.some.inj h; cases hi)
  case store t p x =>
    unfold estore at h
    split at h
    · split at h
      · rename_i o _ ho
        split at h
        · rename_i hc
          obtain rfl := Option.some.inj h
          obtain rfl := Option.some.inj hi
          exact ⟨o, ho, hc.1⟩
        · cases h
      · cases h
    · cases h
  case call c =>
    (repeat' split at h) <;> try (cases h; done)
    unfold eappend at h
    split at h
    · cases h
    · split at h
      · cases h
      · split at h
        · split at h
          · cases h
          · split at h
            · split at h
              · obtain rfl := Option.some.inj h; cases hi
              · split at h
                · obtain rfl := Option.some.inj h; cases hi
                · cases h
            · split at h
              · obtain rfl := Option.some.inj h; cases hi
              · split at h
                · rename_i o ho
                  split at h
                  · rename_i hc
                    obtain rfl := Option.some.inj h
                    obtain rfl := Option.some.inj hi
                    exact ⟨o, ho, hc.1⟩
                  · cases h
                · cases h
            · cases h
        · cases h

theorem Inv.weaken {P : Program} {ok perm ok' perm' : Nat → Prop} {H : AHeap} {β : List Loc} {w : World} (h : Inv P ok perm H β w)
    (hp : ∀ (i : Nat) (o : AObj) (b d r : Nat), ok' i → H[i]? = some (some o) → o.rw = true → β[i]? = some (b, d, r) → perm' b) : Inv P ok' perm' H β w := ⟨h.len, h.obj, h.sep, hp⟩

/-- The blocks of the objects of a set that may be written. -/
def Blocks (M : Nat → Prop) (H : AHeap) (β : List Loc) (b : Nat) : Prop := ∃ i o d q, M i ∧ H[i]? = some (some o) ∧ o.rw = true ∧ β[i]? = some (b, d, q)

/-- A function's contract: 'M': which objects it may turn. -/
def ACalls (P : Program) (f : Nat) (args : List Value) (H : AHeap) (M : Nat → Prop) (Q : Value → AHeap → Prop) : Prop :=
  ∀ (w : World) (β : List Loc) (args' : List Value), RL β args args' → Inv P (fun _ => False) (fun _ => False) H β w →
    Calls P f args'.toArray w fun en w' => ∃ v v' H' β', en = .returned v' ∧ Q v H' ∧ β <+: β' ∧ R β' v v' ∧
      Inv P (fun i => H.length ≤ i ∨ M i) (fun b => w.heap.size ≤ b ∨ Blocks M H β b) H' β' w' ∧ Fr (Blocks M H β) w w' ∧ AExt M H H'

theorem ACalls.mono {P : Program} {f : Nat} {args : List Value} {H : AHeap} {M : Nat → Prop} {Q Q' : Value → AHeap → Prop} (h : ACalls P f args H M Q) (hq : ∀ v H', AExt M H H' → Q v H' → Q' v H') : ACalls P f args H M Q' :=
  fun w β args' h1 h2 => (h w β args' h1 h2).mono fun en w' ⟨v, v', H', β', h3, h4, h5, h6, h7, h8, h9⟩ => ⟨v, v', H', β', h3, hq v H' h9 h4, h5, h6, h7, h8, h9⟩

/-- A function with a body. -/
def Fok (P : Program) (f : Nat) : Prop := ∃ fn c, P.funcs[f]? = some fn ∧ (fn.name == "runtime.NumGoroutine") = false ∧ fn.body = some c

/-- One operation, wanted; 'early': it must leave all that was there as it was. -/
def AStep (P : Program) (N : Nat) (ok : Nat → Prop) (early : Prop) (o : Oper) (K : Env → AHeap → Prop) (e : Env) (H : AHeap) : Prop :=
  ∀ (perm : Nat → Prop) (w0 : World) (β : List Loc) (a : Act) (w : World) (Qc : Exit → Act → World → Prop), (∀ b, w0.heap.size ≤ b → perm b) → Fr perm w0 w → Inv P ok perm H β w → ER β e a N →
    o.wp P a w (fun a' w' => (early → Below w.heap.size w w') ∧ St P N ok perm w0 β H K a' w') Qc

section
variable {P : Program} {T : Tab} {N : Nat} {ok : Nat → Prop} {early : Prop} {o : Oper} {K : Env → AHeap → Prop} {e : Env} {H : AHeap}

theorem AStep_q (hT : TOK P T) {v : Value} (h : qop T H (aev e) o.op = some v) (hk : K (eput N e o.dst v) H) : AStep P N ok early o K e H := fun perm w0 β a w Qc h1 h2 h3 h4 => by
  obtain ⟨v', hv, hrun⟩ := qop_sound hT h3 (fun x => h4.eval x) h
  unfold Oper.wp
  rw [hrun w (Keeps.refl _ _ _), Oper.upon_value]
  exact ⟨fun _ => Below.refl _ _, St.here hk h3 (h4.put hv _) h2⟩

theorem AStep_e (hT : TOK P T) {r : Eff} (h : eop T H (aev e) o.op = some r) (hok : ∀ i, r.2.2 = some i → ok i) (hear : early → r.2.2 = none) (hk : K (eput N e o.dst r.1) r.2.1) : AStep P N ok early o K e H := fun perm w0 β a w Qc h1 h2 h3 h4 => by
  obtain ⟨nx, w', β', v', hrun, hnx, hv, hβ, hI, hF, hX⟩ := eop_sound hT h3 (h1 _ h2.size) (fun x => h4.eval x) h hok
  have hF' : Fr perm w w' := hF.mono fun b _ ⟨i, d, q, hi, hb⟩ => by
    obtain ⟨ob, hob, hrw⟩ := eop_turned h hi
    exact h3.perm i ob b d q (hok i hi) hob hrw hb
  have hB : early → Below w.heap.size w w' := fun he => by
    have : Fr (fun _ => False) w w' := hF.mono fun b _ ⟨i, d, q, hi, _⟩ => by rw [hear he] at hi; cases hi
    exact this.to_below
  have hst : ∀ u, R β' r.1 u → St P N ok perm w0 β H K (a.put o.dst u) w' := fun u hu =>
    ⟨_, _, β', hk, hβ, hI, (h4.ext hβ).put hu _, h2.trans hF', hX.mono fun i _ hi => hok i hi⟩
  unfold Oper.wp
  rw [hrun]
  rcases hnx with rfl | ⟨rfl, rfl⟩
  · rw [Oper.upon_value]; exact ⟨hB, hst _ hv⟩
  · rw [Oper.upon_skip]; exact ⟨hB, hst _ hv⟩

theorem AStep_call {c : Call} {fo : Operand} {g : Nat} {cap : Array Value} {M : Nat → Prop} {Q : Value → AHeap → Prop} (hop : o.op = .call c) (hcal : c.callee = .value fo) (hf : aev e fo = .func (.func g) #[] cap) (hg : Fok P g)
    (h : ACalls P g (c.args.toList.map (aev e) ++ cap.toList) H M Q) (hM : ∀ i, i < H.length → M i → ok i) (hear : early → ∀ i, i < H.length → ¬ M i)
    (hk : ∀ v H', AExt M H H' → Q v H' → K (eput N e o.dst v) H') : AStep P N ok early o K e H := fun perm w0 β a w Qc h1 h2 h3 h4 => by
  have hfr := h4.eval fo
  rw [hf] at hfr
  generalize hfv : a.eval fo = fv at hfr
  cases hfr with
  | @func _ _ cap' hcs hcR =>
    obtain ⟨fn, cd, hfn, hname, hbody⟩ := hg
    have hargs : RL β (c.args.toList.map (aev e) ++ cap.toList) (c.args.toList.map a.eval ++ cap'.toList) := by
      refine RL.append ⟨by simp, fun j v v' hj hj' => ?_⟩ (RL.of_agg hcs hcR)
      rw [List.getElem?_map] at hj hj'
      cases hx : c.args.toList[j]? with
      | none => rw [hx] at hj; cases hj
      | some x =>
        rw [hx] at hj hj'
        obtain rfl := Option.some.inj hj
        obtain rfl := Option.some.inj hj'
        exact h4.eval x
    have hcall := h w β _ hargs (h3.weaken (fun _ _ _ _ _ h => h.elim))
    have hrun : (execOp a.eval o).run P w = .ok (.enter g (c.args.toList.map a.eval ++ cap'.toList).toArray) w := by
      have e1 : (c.args.toList.map a.eval ++ cap'.toList).toArray = c.args.map a.eval ++ cap' := by apply Array.ext'; simp
      have hname' : ¬ fn.name = "runtime.NumGoroutine" := by simpa using hname
      rw [e1]
      simp [execOp, hop, resolve, hcal, hfv, Deferred.ofValue, invoke, callFunc, hfn, hname', hbody]
    unfold Oper.wp
    rw [hrun, Oper.upon_enter]
    refine hcall.mono fun en w' ⟨v, v', H', β', hen, hQ, hβ, hv, hI, hF, hX⟩ => ?_
    subst hen
    have hperm : ∀ b, Blocks M H β b → perm b := fun b ⟨i, ob, d, q, hMi, hob, hrw, hb⟩ => h3.perm i ob b d q (hM i (List.getElem?_eq_some_iff.1 hob).1 hMi) hob hrw hb
    have hI' : Inv P ok perm H' β' w' := hI.weaken fun i ob b d q hoki hob hrw hb => by
      by_cases hil : H.length ≤ i ∨ M i
      · rcases hI.perm i ob b d q hil hob hrw hb with hb' | hb'
        · exact h1 b (Nat.le_trans h2.size hb')
        · exact hperm b hb'
      · have hil' : i < H.length := by omega
        have hnM : ¬ M i := fun hm => hil (.inr hm)
        rw [hX.obj i hil' hnM] at hob
        obtain ⟨b2, d2, q2, hb2⟩ := h3.loc hob
        rw [get_ext hβ hb2] at hb
        obtain ⟨rfl, rfl, rfl⟩ : b2 = b ∧ d2 = d ∧ q2 = q := by simpa using hb
        exact h3.perm i ob b2 d2 q2 hoki hob hrw hb2
    refine ⟨fun he => ?_, ⟨_, H', β', hk v H' hX hQ, hβ, hI', (h4.ext hβ).put hv _, h2.trans (hF.mono fun b _ hb => hperm b hb), hX.mono fun i hi hm => hM i hi hm⟩⟩
    have : Fr (fun _ => False) w w' := hF.mono fun b _ ⟨i, ob, d, q, hMi, hob, _⟩ => hear he i (List.getElem?_eq_some_iff.1 hob).1 hMi
    exact this.to_below
end
end Go.Proofs.Ythalogdopkoidaa.Ab
