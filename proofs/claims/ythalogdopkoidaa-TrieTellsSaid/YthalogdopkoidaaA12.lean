/- Runs of quiet operations at once. No statement of the seat's in it. -/
import Derived.Test.YthalogdopkoidaaA11
set_option linter.unusedVariables false
namespace Go.Proofs.Ythalogdopkoidaa.Ab
open Go Go.RowKit Go.Proofs.Ythalogdopkoidaa.Dr

/-- One quiet operation, its guard looked at. -/
def q1 (T : Tab) (N : Nat) (ops : List Oper) (H : AHeap) (o : Oper) (e : Env) : Option Env :=
  match awant ops e o with
  | some true => (qop T H (aev e) o.op).map (eput N e o.dst)
  | some false => some (eput N e o.dst void)
  | none => none

def qrun (T : Tab) (N : Nat) (ops : List Oper) (H : AHeap) : List Oper → Env → Option Env
  | [], e => some e
  | o :: l, e => (q1 T N ops H o e).bind (qrun T N ops H l)

section
variable {P : Program} {T : Tab} {N : Nat} {ok : Nat → Prop} {e : Env} {H : AHeap}

theorem AL_q1 (hT : TOK P T) {ops : List Oper} {o : Oper} {l : List Oper} {e' : Env} {K : Env → AHeap → Prop} (h : q1 T N ops H o e = some e') (hk : AL P N ok ops l K e' H) : AL P N ok ops (o :: l) K e H := by
  unfold q1 at h
  split at h
  · rename_i hw
    cases hq : qop T H (aev e) o.op with
    | none => rw [hq] at h; cases h
    | some v =>
      rw [hq] at h
      obtain rfl := Option.some.inj h
      exact AL_step hw (AStep_q hT hq hk)
  · rename_i hw
    obtain rfl := Option.some.inj h
    exact AL_pass hw hk
  · cases h

theorem AL_run (hT : TOK P T) {ops : List Oper} {K : Env → AHeap → Prop} : ∀ (l l' : List Oper) (e : Env) {e' : Env}, qrun T N ops H l e = some e' → AL P N ok ops l' K e' H → AL P N ok ops (l ++ l') K e H
  | [], l', e, e', h, hk => by
    obtain rfl := Option.some.inj h
    exact hk
  | o :: l, l', e, e', h, hk => by
    simp only [qrun] at h
    cases h1 : q1 T N ops H o e with
    | none => rw [h1] at h; cases h
    | some e1 =>
      rw [h1] at h
      exact AL_q1 hT h1 (AL_run hT l l' e1 h hk)

/-- A whole region of quiet operations, its order drawn or not. -/
theorem AC_quiet (hT : TOK P T) {i : Nat} {l : List Oper} {Q : Exit → Env → AHeap → Prop} {e' : Env} (h : qrun T N l H l e = some e') (hk : Q .normal e' H) : AC P N ok (.region i l.toArray false) Q e H :=
  AC_region (by have := AL_run hT l [] e h (K := Q .normal) (ok := ok) (AL_nil hk); simpa using this)

/-- All taken, in the order of the text. -/
def lexS : Nat → Nat → List (Nat × Bool)
  | _, 0 => []
  | k, n + 1 => (k, true) :: lexS (k + 1) n

theorem AS_lex (hT : TOK P T) {ops : List Oper} {K : Env → AHeap → Prop} : ∀ (l : List Oper) (k : Nat) (e : Env) {e' : Env}, (∀ j, l[j]? = ops[k + j]?) → qrun T N ops H l e = some e' → K e' H → AS P N ok ops [] (lexS k l.length) K e H
  | [], k, e, e', _, h, hk => by
    obtain rfl := Option.some.inj h
    exact AS_nil hk
  | o :: l, k, e, e', hl, h, hk => by
    have h0 : ops[k]? = some o := by simpa using (hl 0).symm
    have hl' : ∀ j, l[j]? = ops[k + 1 + j]? := fun j => by have := hl (j + 1); simpa [Nat.add_assoc, Nat.add_comm 1 j] using this
    simp only [qrun] at h
    cases h1 : q1 T N ops H o e with
    | none => rw [h1] at h; cases h
    | some e1 =>
      rw [h1] at h
      unfold q1 at h1
      split at h1
      · rename_i hw
        cases hq : qop T H (aev e) o.op with
        | none => rw [hq] at h1; cases h1
        | some v =>
          rw [hq] at h1
          obtain rfl := Option.some.inj h1
          exact AS_take hT h0 hw hq (AS_lex hT l (k + 1) _ hl' h hk)
      · rename_i hw
        obtain rfl := Option.some.inj h1
        exact AS_take_pass h0 hw (AS_lex hT l (k + 1) _ hl' h hk)
      · cases h1

theorem AC_quiet_draw (hT : TOK P T) {i : Nat} {l : List Oper} {Q : Exit → Env → AHeap → Prop} {e' : Env} (hm : P.follows .mixedOrders = true) (hB : schedOK .any l [] (lexS 0 l.length) = true) (h : qrun T N l H l e = some e') (hk : Q .normal e' H) : AC P N ok (.region i l.toArray true) Q e H :=
  AC_draw [] (lexS 0 l.length) hm hB (AS_lex hT l 0 e (fun j => by simp) h hk)
end
end Go.Proofs.Ythalogdopkoidaa.Ab
