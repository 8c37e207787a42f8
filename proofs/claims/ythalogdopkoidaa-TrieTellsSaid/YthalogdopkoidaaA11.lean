/- Regions of operations over abstract memory; a function's contract out of its body. No statement of the seat's in it. -/
import Derived.Test.YthalogdopkoidaaA10
set_option linter.unusedVariables false
namespace Go.Proofs.Ythalogdopkoidaa.Ab
open Go Go.RowKit Go.Proofs.Ythalogdopkoidaa.Dr

/-- Is it wanted? -/
def awant (ops : List Oper) (e : Env) (o : Oper) : Option Bool :=
  match o.guard with
  | none => some true
  | some (j, want) =>
    match (ops[j]?).bind (·.dst) with
    | some d => match get e d with
      | .bool b => some (b == want)
      | .chan none => some false
      | _ => none
    | none => none

section
variable {P : Program} {T : Tab} {N : Nat} {ok : Nat → Prop} {e : Env} {H : AHeap}

theorem awant_sound {ops : List Oper} {o : Oper} {b : Bool} (h : awant ops e o = some b) {β : List Loc} {a : Act} (hE : ER β e a N) : Region.wanted o (yielded ops.toArray a.tmps) = b := by
  unfold awant at h
  unfold Region.wanted
  split at h
  · rename_i hg
    rw [hg]
    exact Option.some.inj h
  · rename_i j want hg
    rw [hg]
    dsimp only
    split at h
    · rename_i d hd
      split at h
      · rename_i t ht
        obtain rfl := Option.some.inj h
        have hr := hE.at_ d
        rw [ht] at hr
        generalize hv : a.tmps.getD d undef = v at hr
        cases hr
        have hlt : d < a.tmps.size := by
          rcases Nat.lt_or_ge d a.tmps.size with h' | h'
          · exact h'
          · simp [Array.getElem?_eq_none h'] at hv; cases hv
        have hg2 : a.tmps[d]? = some (.bool t) := by
          rw [Array.getElem?_eq_getElem hlt]
          simp [hlt] at hv
          rw [hv]
        have hd' : (ops.toArray[j]?).bind (·.dst) = some d := by simpa using hd
        simp only [yielded, hd', Option.bind_some, hg2]
        cases t <;> cases want <;> rfl
      · rename_i ht
        obtain rfl := Option.some.inj h
        have hr := hE.at_ d
        rw [ht] at hr
        generalize hv : a.tmps.getD d undef = v at hr
        cases hr
        have hd' : (ops.toArray[j]?).bind (·.dst) = some d := by simpa using hd
        have hy : yielded ops.toArray a.tmps j = none := by
          simp only [yielded, hd', Option.bind_some]
          rcases Nat.lt_or_ge d a.tmps.size with h' | h'
          · have : a.tmps[d]? = some (.tuple #[]) := by
              rw [Array.getElem?_eq_getElem h']
              simp [h'] at hv
              rw [hv]
            rw [this]
          · rw [Array.getElem?_eq_none h']
        rw [hy]
        cases want <;> rfl
      · cases h
    · cases h

/-- The operations one behind the other. -/
def AL (P : Program) (N : Nat) (ok : Nat → Prop) (ops : List Oper) (l : List Oper) (K : Env → AHeap → Prop) (e : Env) (H : AHeap) : Prop :=
  ∀ (perm : Nat → Prop) (w0 : World) (β : List Loc) (a : Act) (w : World) (Qc : Exit → Act → World → Prop), (∀ b, w0.heap.size ≤ b → perm b) → Fr perm w0 w → Inv P ok perm H β w → ER β e a N →
    (∀ a' w', St P N ok perm w0 β H K a' w' → Qc .normal a' w') → wpList P ops.toArray Qc l a w

theorem AL_nil {ops : List Oper} {K : Env → AHeap → Prop} (h : K e H) : AL P N ok ops [] K e H := fun perm w0 β a w Qc h1 h2 h3 h4 h5 => wpList_nil (h5 _ _ (St.here h h3 h4 h2))

theorem AL_step {ops : List Oper} {o : Oper} {l : List Oper} {K : Env → AHeap → Prop} (hw : awant ops e o = some true) (h : AStep P N ok False o (fun e' H' => AL P N ok ops l K e' H') e H) : AL P N ok ops (o :: l) K e H :=
  fun perm w0 β a w Qc h1 h2 h3 h4 h5 => by
    have hw' := awant_sound hw h4
    unfold wpList
    rw [if_pos hw']
    refine .inl (Oper.wp_mono (fun a' w' hp => ?_) (h perm w0 β a w Qc h1 h2 h3 h4))
    obtain ⟨_, e', H', β', hK, hβ, hI, hE, hF, hX⟩ := hp
    exact hK perm w0 β' a' w' Qc h1 hF hI hE (fun a'' w'' hst => h5 a'' w'' (hst.from hβ hX))

theorem AL_pass {ops : List Oper} {o : Oper} {l : List Oper} {K : Env → AHeap → Prop} (hw : awant ops e o = some false) (h : AL P N ok ops l K (eput N e o.dst void) H) : AL P N ok ops (o :: l) K e H :=
  fun perm w0 β a w Qc h1 h2 h3 h4 h5 => by
    have hw' := awant_sound hw h4
    unfold wpList
    rw [if_neg (by rw [hw']; simp)]
    exact h perm w0 β _ w Qc h1 h2 h3 (h4.put (.void) _) h5

theorem AC_region {i : Nat} {l : List Oper} {Q : Exit → Env → AHeap → Prop} (h : AL P N ok l l (Q .normal) e H) : AC P N ok (.region i l.toArray false) Q e H := fun perm w0 β a w h1 h2 h3 h4 =>
  wp_region_lit (h perm w0 β a w _ h1 h2 h3 h4 (fun _ _ hst => hst))

/-- The operations in a chosen order. -/
def AS (P : Program) (N : Nat) (ok : Nat → Prop) (ops : List Oper) (late : List Nat) (σ : List (Nat × Bool)) (K : Env → AHeap → Prop) (e : Env) (H : AHeap) : Prop :=
  ∀ (perm : Nat → Prop) (w0 : World) (β : List Loc) (a : Act) (w : World) (Qc : Exit → Act → World → Prop), (∀ b, w0.heap.size ≤ b → perm b) → Fr perm w0 w → Inv P ok perm H β w → ER β e a N →
    (∀ a' w', St P N ok perm w0 β H K a' w' → Qc .normal a' w') → runS P (fun _ => False) ops.toArray Qc late σ a w

theorem AS_nil {ops : List Oper} {late : List Nat} {K : Env → AHeap → Prop} (h : K e H) : AS P N ok ops late [] K e H := fun perm w0 β a w Qc h1 h2 h3 h4 h5 => h5 _ _ (St.here h h3 h4 h2)

theorem AS_take (hT : TOK P T) {ops : List Oper} {late : List Nat} {i : Nat} {σ : List (Nat × Bool)} {o : Oper} {v : Value} {K : Env → AHeap → Prop} (ho : ops[i]? = some o) (hw : awant ops e o = some true) (hq : qop T H (aev e) o.op = some v)
    (h : AS P N ok ops late σ K (eput N e o.dst v) H) : AS P N ok ops late ((i, true) :: σ) K e H := fun perm w0 β a w Qc h1 h2 h3 h4 h5 => by
  obtain ⟨v', hv, hrun⟩ := qop_sound hT h3 (fun x => h4.eval x) hq
  exact ⟨o, v', by simpa using ho, .inl ⟨awant_sound hw h4, fun w' hb => hrun w' (h3.keeps hb.to_below)⟩, h perm w0 β _ w Qc h1 h2 h3 (h4.put hv _) h5⟩

theorem AS_take_pass {ops : List Oper} {late : List Nat} {i : Nat} {σ : List (Nat × Bool)} {o : Oper} {K : Env → AHeap → Prop} (ho : ops[i]? = some o) (hw : awant ops e o = some false)
    (h : AS P N ok ops late σ K (eput N e o.dst void) H) : AS P N ok ops late ((i, true) :: σ) K e H := fun perm w0 β a w Qc h1 h2 h3 h4 h5 =>
  ⟨o, undef, by simpa using ho, .inr ⟨awant_sound hw h4, rfl⟩, h perm w0 β _ w Qc h1 h2 h3 (h4.put (.void) _) h5⟩

theorem AS_only {ops : List Oper} {late : List Nat} {i : Nat} {σ : List (Nat × Bool)} {o : Oper} {K : Env → AHeap → Prop} (ho : ops[i]? = some o) (hw : awant ops e o = some true)
    (h : AStep P N ok (late.contains i = false) o (fun e' H' => AS P N ok ops late σ K e' H') e H) : AS P N ok ops late ((i, false) :: σ) K e H := fun perm w0 β a w Qc h1 h2 h3 h4 h5 => by
  have hw' := awant_sound hw h4
  have ho' : ops.toArray[i]? = some o := by simpa using ho
  simp only [runS, wpOp, ho']
  rw [if_pos hw']
  refine .inl (Oper.wp_mono (fun a' w' hp => ?_) (h perm w0 β a w Qc h1 h2 h3 h4))
  obtain ⟨hb, e', H', β', hK, hβ, hI, hE, hF, hX⟩ := hp
  exact ⟨fun hl => Fr.below (hb hl) _, hK perm w0 β' a' w' Qc h1 hF hI hE (fun a'' w'' hst => h5 a'' w'' (hst.from hβ hX))⟩

theorem AS_only_pass {ops : List Oper} {late : List Nat} {i : Nat} {σ : List (Nat × Bool)} {o : Oper} {K : Env → AHeap → Prop} (ho : ops[i]? = some o) (hw : awant ops e o = some false)
    (h : AS P N ok ops late σ K (eput N e o.dst void) H) : AS P N ok ops late ((i, false) :: σ) K e H := fun perm w0 β a w Qc h1 h2 h3 h4 h5 => by
  have hw' := awant_sound hw h4
  have ho' : ops.toArray[i]? = some o := by simpa using ho
  simp only [runS, wpOp, ho']
  rw [if_neg (by rw [hw']; simp)]
  exact ⟨fun _ => Fr.refl _ _, h perm w0 β _ w Qc h1 h2 h3 (h4.put (.void) _) h5⟩

theorem AC_draw {i : Nat} {l : List Oper} {Q : Exit → Env → AHeap → Prop} (late : List Nat) (σ : List (Nat × Bool)) (hm : P.follows .mixedOrders = true) (hB : schedOK .any l late σ = true)
    (h : AS P N ok l late σ (Q .normal) e H) : AC P N ok (.region i l.toArray true) Q e H := fun perm w0 β a w h1 h2 h3 h4 => by
  have hd : Below w.heap.size w { w with drawn := w.drawn + 1 } := ⟨rfl, rfl, rfl, Nat.le_refl _, fun _ _ => rfl⟩
  exact wp_region_sched late σ hm hB (fun c a d v w h => h.elim) (h perm w0 β a { w with drawn := w.drawn + 1 } _ h1 (h2.trans (Fr.below hd perm)) (h3.below hd) h4 (fun _ _ hst => hst))

/-! ### Functions -/
def argEnv : Nat → List Value → Env
  | _, [] => []
  | k, v :: l => (k, v) :: argEnv (k + 1) l

theorem get_argEnv : ∀ (l : List Value) (k t : Nat), get (argEnv k l) t = if t < k then undef else l.getD (t - k) undef
  | [], k, t => by simp [argEnv, get]
  | v :: l, k, t => by
    rw [argEnv, get, get_argEnv l (k + 1) t]
    by_cases h1 : t = k
    · subst h1; simp
    · rw [if_neg h1]
      by_cases h2 : t < k
      · rw [if_pos (by omega), if_pos h2]
      · rw [if_neg (by omega), if_neg h2]
        have : t - k = (t - (k + 1)) + 1 := by omega
        rw [this]
        simp

def ares1 (T : Tab) (H : AHeap) (e : Env) : ResultVar → Option Value
  | .tmp t => some (get e t)
  | .cell a t => aload T H t (get e a)

def ares (T : Tab) (H : AHeap) (e : Env) (rs : List ResultVar) : Option Value :=
  match rs.mapM (ares1 T H e) with
  | some [v] => some v
  | some vs => some (.tuple vs.toArray)
  | none => none

def resOne (tmps : Array Value) : ResultVar → Sem Value
  | .tmp t => pure (tmps.getD t undef)
  | .cell a t => do loadVar t (← asAddr (tmps.getD a undef))

theorem results_eq (fn : Func) (tmps : Array Value) : results fn tmps = (do
    let vs ← fn.results.mapM (resOne tmps)
    pure (if h : vs.size = 1 then vs[0] else .tuple vs)) := by
  unfold results
  congr 2

theorem ares_sound (hT : TOK P T) {perm : Nat → Prop} {β : List Loc} {w : World} (hI : Inv P ok perm H β w) {a : Act} (hE : ER β e a N) {fn : Func} {v : Value} (h : ares T H e fn.results.toList = some v) :
    ∃ v', R β v v' ∧ (results fn a.tmps).run P w = .ok v' w := by
  have key : ∀ (rs : List ResultVar) (vs : List Value), rs.mapM (ares1 T H e) = some vs → ∃ vs', RL β vs vs' ∧ (rs.mapM (resOne a.tmps)).run P w = .ok vs' w := by
    intro rs
    induction rs with
    | nil => intro vs h; simp at h; subst h; exact ⟨[], RL.nil β, by simp⟩
    | cons r rs ih =>
      intro vs h
      rw [List.mapM_cons] at h
      cases hr : ares1 T H e r with
      | none => rw [hr] at h; simp at h
      | some u =>
        rw [hr] at h
        cases hrs : rs.mapM (ares1 T H e) with
        | none => rw [hrs] at h; simp at h
        | some us =>
          rw [hrs] at h
          simp at h
          subst h
          obtain ⟨us', h1, h2⟩ := ih us hrs
          have hone : ∃ u', R β u u' ∧ (resOne a.tmps r).run P w = .ok u' w := by
            cases r with
            | tmp t =>
              obtain rfl := Option.some.inj hr
              exact ⟨_, hE.at_ t, rfl⟩
            | cell p t =>
              obtain ⟨u', hu, hrun⟩ := aload_sound hT hI (hE.at_ p) hr
              have hrun' := hrun w (Keeps.refl _ _ _)
              refine ⟨u', hu, ?_⟩
              have hp := hE.at_ p
              simp only [ares1, aload] at hr
              split at hr
              · rename_i heq
                rw [heq] at hp
                generalize hav : a.tmps.getD p undef = av at hp hrun'
                cases hp
                simp only [Instr.loadAt, Instr.sureAddr, Sem.run_bind, Sem.run_pure, Result.andThen_ok] at hrun'
                simp only [resOne, Sem.run_bind, hav, asAddr, Sem.run_pure, Result.andThen_ok, hrun']
              · cases hr
          obtain ⟨u', hu, hrun⟩ := hone
          refine ⟨_, RL.cons hu h1, ?_⟩
          rw [List.mapM_cons]
          simp only [Sem.run_bind, Sem.run_pure, Result.andThen_ok, hrun, h2]
  unfold ares at h
  cases hm : fn.results.toList.mapM (ares1 T H e) with
  | none => rw [hm] at h; cases h
  | some vs =>
    rw [hm] at h
    obtain ⟨vs', h1, h2⟩ := key _ _ hm
    have hr : (results fn a.tmps).run P w = .ok (if h : vs'.toArray.size = 1 then vs'.toArray[0] else .tuple vs'.toArray) w := by
      rw [results_eq, Array.mapM_eq_mapM_toList]
      simp only [Sem.run_bind, Sem.run_map, h2, Result.andThen_ok, Sem.run_pure]
    have hl0 := h1.1
    match vs, vs', h1, h2, hr, h, hl0 with
    | [u], [u'], h1, h2, hr, h, _ =>
      obtain rfl := Option.some.inj h
      exact ⟨u', h1.2 0 _ _ rfl rfl, by rw [hr]; rfl⟩
    | [], [], h1, h2, hr, h, _ =>
      obtain rfl := Option.some.inj h
      exact ⟨_, h1.tuple, by rw [hr]; rfl⟩
    | x :: y :: l, x' :: y' :: l', h1, h2, hr, h, _ =>
      obtain rfl := Option.some.inj h
      refine ⟨_, h1.tuple, ?_⟩
      rw [hr, dif_neg (by simp)]
    | [], _ :: _, _, _, _, _, h0 => simp at h0
    | _ :: _, [], _, _, _, _, h0 => simp at h0
    | [_], _ :: _ :: _, _, _, _, _, h0 => simp at h0
    | _ :: _ :: _, [_], _, _, _, _, h0 => simp at h0

/-- **A contract out of the body.** -/
theorem ACalls_of {f : Nat} {fn : Func} {c : Code} {args : List Value} {M : Nat → Prop} {Q : Value → AHeap → Prop} (hT : TOK P T) (hf : P.funcs[f]? = some fn) (hb : fn.body = some c) (hN : args.length ≤ fn.ntmps)
    (h : AC P fn.ntmps (fun i => H.length ≤ i ∨ M i) c (fun ex e' H' => (ex = .ret ∨ ex = .normal) ∧ ∃ v, ares T H' e' fn.results.toList = some v ∧ Q v H') (argEnv 0 args) H) : ACalls P f args H M Q := fun w β args' hargs hI => by
  have hE : ER β (argEnv 0 args) { tmps := args'.toArray ++ Array.replicate (fn.ntmps - args'.toArray.size) undef, defers := [] } fn.ntmps := by
    refine ⟨by have := hargs.1; simp; omega, rfl, fun t => ?_⟩
    rw [get_argEnv]
    simp only [Nat.not_lt_zero, if_false, Nat.sub_zero]
    by_cases ht : t < args.length
    · have ht' : t < args'.length := by rw [← hargs.1]; exact ht
      have := hargs.2 t args[t] args'[t] (List.getElem?_eq_getElem ht) (List.getElem?_eq_getElem ht')
      simpa [Array.getElem?_append, ht, ht', List.getD_eq_getElem?_getD] using this
    · rw [List.getD_eq_getElem?_getD, List.getElem?_eq_none (by omega)]
      exact .junk _
  have hI' : Inv P (fun i => H.length ≤ i ∨ M i) (fun b => w.heap.size ≤ b ∨ Blocks M H β b) H β w := hI.weaken fun i o b d r hi ho hrw hβ => by
    rcases hi with hi | hi
    · have := (List.getElem?_eq_some_iff.1 ho).1; omega
    · exact .inr ⟨i, o, d, r, hi, ho, hrw, hβ⟩
  have hwp := h (fun b => w.heap.size ≤ b ∨ Blocks M H β b) w β _ w (fun b hb => .inl hb) (Fr.refl _ _) hI' hE
  refine calls_of_wp hf hb (Code.wp_mono (fun ex a' w' hp => ?_) hwp)
  have fin : ∀ (hx : St P fn.ntmps (fun i => H.length ≤ i ∨ M i) (fun b => w.heap.size ≤ b ∨ Blocks M H β b) w β H (fun e' H' => (ex = .ret ∨ ex = .normal) ∧ ∃ v, ares T H' e' fn.results.toList = some v ∧ Q v H') a' w'),
      (ex = .ret ∨ ex = .normal) ∧ a'.defers = [] ∧ ∃ v, (results fn a'.tmps).run P w' = .ok v w' ∧ ∃ va v' H' β', Ending.returned v = .returned v' ∧ Q va H' ∧ β <+: β' ∧ R β' va v' ∧
        Inv P (fun i => H.length ≤ i ∨ M i) (fun b => w.heap.size ≤ b ∨ Blocks M H β b) H' β' w' ∧ Fr (Blocks M H β) w w' ∧ AExt M H H' := by
    rintro ⟨e', H', β', ⟨hex, v, hv, hQ⟩, hβ, hI2, hE2, hF2, hX2⟩
    obtain ⟨v', hR, hrun⟩ := ares_sound hT hI2 hE2 hv
    refine ⟨hex, hE2.defers, v', hrun, v, v', H', β', rfl, hQ, hβ, hR, hI2, ⟨hF2.os, hF2.tape, hF2.output, hF2.size, fun b hb hn => hF2.block b hb fun hp => ?_⟩, ⟨hX2.size, fun i hi hn => hX2.obj i hi fun hp => ?_⟩⟩
    · rcases hp with hp | hp
      · omega
      · exact hn hp
    · rcases hp with hp | hp
      · omega
      · exact hn hp
  cases ex with
  | normal => obtain ⟨_, h1, v, h2, h3⟩ := fin hp; exact ⟨h1, v, h2, h3⟩
  | ret => obtain ⟨_, h1, v, h2, h3⟩ := fin hp; exact ⟨h1, v, h2, h3⟩
  | exit i => obtain ⟨h0, _⟩ := fin hp; rcases h0 with h0 | h0 <;> cases h0
  | goto i => obtain ⟨h0, _⟩ := fin hp; rcases h0 with h0 | h0 <;> cases h0
  | panic c => exact hp.elim
  | outgrown => exact hp.elim
end
end Go.Proofs.Ythalogdopkoidaa.Ab
