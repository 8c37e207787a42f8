/- The operations that only read: what each does to abstract values, and that the machine does the same in every later world. No statement of the seat's in it. -/
import Derived.Test.YthalogdopkoidaaA3
import Derived.Laws.Entries
import Derived.Laws.Small
set_option linter.unusedVariables false
namespace Go.Proofs.Ythalogdopkoidaa.Ab
open Go Go.RowKit

/-! ### Two operands -/
def abinInt (op : BinOp) (k : IntKind) (a : Int) (k' : IntKind) (b : Int) : Option Value :=
  match op with
  | .shl => if 0 ≤ b then some (.int k (k.wrap (a * 2 ^ (min b.toNat k.bits)))) else none
  | .shr => if 0 ≤ b then some (.int k (a.fdiv (2 ^ (min b.toNat k.bits)))) else none
  | .add => if k = k' then some (.int k (k.wrap (a + b))) else none
  | .sub => if k = k' then some (.int k (k.wrap (a - b))) else none
  | .mul => if k = k' then some (.int k (k.wrap (a * b))) else none
  | .quo => if k = k' ∧ b ≠ 0 then some (.int k (k.wrap (a.tdiv b))) else none
  | .rem => if k = k' ∧ b ≠ 0 then some (.int k (a.tmod b)) else none
  | .and => if k = k' then some (.int k (bits .and k a b)) else none
  | .or => if k = k' then some (.int k (bits .or k a b)) else none
  | .xor => if k = k' then some (.int k (bits .xor k a b)) else none
  | .eql => if k = k' then some (.bool (decide (a = b))) else none
  | .neq => if k = k' then some (.bool (!decide (a = b))) else none
  | .lss => if k = k' then some (.bool (decide (a < b))) else none
  | .leq => if k = k' then some (.bool (decide (a ≤ b))) else none
  | .gtr => if k = k' then some (.bool (decide (b < a))) else none
  | .geq => if k = k' then some (.bool (decide (b ≤ a))) else none
  | _ => none

def abinStr (op : BinOp) (a b : ByteArray) : Option Value :=
  match op with
  | .add => if a.size + b.size ≤ 9223372036854775807 then some (.string (a ++ b)) else none
  | .eql => some (.bool (decide (a = b)))
  | .neq => some (.bool (!decide (a = b)))
  | .lss => some (.bool (Op.bytesLess a.toList b.toList))
  | .leq => some (.bool (Op.bytesLess a.toList b.toList || decide (a = b)))
  | .gtr => some (.bool (!(Op.bytesLess a.toList b.toList || decide (a = b))))
  | .geq => some (.bool (!Op.bytesLess a.toList b.toList))
  | _ => none

def abin (T : Tab) (op : BinOp) (t : Nat) (x y : Value) : Option Value :=
  match x, y with
  | .int k a, .int k' b => abinInt op k a k' b
  | .string a, .string b => abinStr op a b
  | x, y =>
    match op with
    | .eql => (aeq T 10000 t x y).map .bool
    | .neq => (aeq T 10000 t x y).map fun b => .bool (!b)
    | _ => none

theorem abinInt_sound {P : Program} {op : BinOp} {k k' : IntKind} {a b : Int} {v : Value} (t : Nat) (h : abinInt op k a k' b = some v) (w : World) :
    (binOp op t (.int k a) (.int k' b)).run P w = .ok v w := by
  unfold abinInt at h
  cases op <;> dsimp only at h <;> first
    | (cases h; done)
    | (split at h
       · rename_i hc
         obtain rfl := Option.some.inj h
         first
           | (have hb : ¬ b < 0 := by omega
              simp [binOp, Op.shift, hb]; done)
           | (obtain ⟨rfl, hb⟩ := hc
              simp [binOp, Op.intDiv, hb]; done)
           | (subst hc
              simp [binOp, Op.intArith, Op.intBits, Op.intCmp, bits]; try rfl)
       · cases h)

theorem abinStr_sound {P : Program} {op : BinOp} {a b : ByteArray} {v : Value} (t : Nat) (h : abinStr op a b = some v) (w : World) :
    (binOp op t (.string a) (.string b)).run P w = .ok v w := by
  unfold abinStr at h
  cases op <;> dsimp only at h
  case add =>
    split at h
    · rename_i hc
      obtain rfl := Option.some.inj h
      have : ¬ (((a.size + b.size : Nat) : Int) > IntKind.i64.max) := by
        simp only [IntKind.max, IntKind.signed, IntKind.bits]; simp; omega
      simp only [binOp, Op.stringOp]
      rw [if_neg this]
      rfl
    · cases h
  all_goals first
    | (cases h; done)
    | (obtain rfl := Option.some.inj h
       simp only [binOp, Op.stringOp, bytes_eq']
       rfl)

theorem abin_sound {P : Program} {T : Tab} (hT : TOK P T) {β : List Loc} {op : BinOp} {t : Nat} {x y x' y' v : Value} (ox oy : Operand) (hx : R β x x') (hy : R β y y')
    (h : abin T op t x y = some v) : R β v v ∧ ∀ w, ((do eqGuard op t ox oy x' y'; binOp op t x' y' : Sem Value)).run P w = .ok v w := by
  unfold abin at h
  split at h
  · rename_i k a k' b
    cases hx; cases hy
    have hv : flatConst v = true := by
      unfold abinInt at h
      cases op <;> dsimp only at h <;> first | (cases h; done) | (split at h <;> first | (cases h; done) | (obtain rfl := Option.some.inj h; rfl))
    refine ⟨R.const β hv, fun w => ?_⟩
    have hg : (eqGuard op t ox oy (.int k a) (.int k' b)).run P w = .ok () w := by
      cases op <;> simp [eqGuard]
    simp [hg, abinInt_sound t h w]
  · rename_i a b
    cases hx; cases hy
    have hv : flatConst v = true := by
      unfold abinStr at h
      cases op <;> dsimp only at h <;> first | (cases h; done) | (obtain rfl := Option.some.inj h; rfl) | (split at h <;> first | (cases h; done) | (obtain rfl := Option.some.inj h; rfl))
    refine ⟨R.const β hv, fun w => ?_⟩
    have hg : (eqGuard op t ox oy (.string a) (.string b)).run P w = .ok () w := by
      cases op <;> simp [eqGuard]
    simp [hg, abinStr_sound t h w]
  · rename_i hni hns
    have key : ∀ b, aeq T 10000 t x y = some b → (op = .eql ∨ op = .neq) → ∀ w, (eqGuard op t ox oy x' y').run P w = .ok () w ∧ (binOp op t x' y').run P w = .ok (.bool (if op = .eql then b else !b)) w := by
      intro b hb hop w
      have he := aeq_sound (P := P) hT 10000 t x y x' y' b hx hy hb
      have he' : ∀ w, (Op.equal t x' y').run P w = .ok b w := he
      refine ⟨?_, ?_⟩
      · have hgt : ∀ cs cs', x' = .agg cs → y' = .agg cs' → P.eqGuardType P.depth t = false := by
          rintro cs cs' rfl rfl
          unfold aeq at hb
          split at hb
          · cases hb
          · rename_i ti hti
            have hf := hT.fits t ti hti
            cases hd : ti.d <;> rw [hd] at hf hb <;> simp only [TD.fits] at hf
            case struct => exact hf.2.1
            case arr => exact hf.1
            all_goals (exfalso; cases hx <;> cases hy <;> simp at hb)
        have hnn : ¬ (x' = .nilIface ∧ y' = .nilIface) := by
          rintro ⟨rfl, rfl⟩
          cases hx
          cases hy
          unfold aeq at hb
          split at hb
          · cases hb
          · rename_i ti hti
            cases hd : ti.d <;> rw [hd] at hb <;> simp at hb
        unfold eqGuard
        rcases hop with rfl | rfl <;> (
          simp only [Bool.not_true, Bool.false_eq_true, if_false]
          split <;> first
            | (exact absurd ⟨rfl, rfl⟩ hnn)
            | (have := hgt _ _ rfl rfl; simp [this])
            | simp)
      · rcases hop with rfl | rfl
        · have : binOp .eql t x' y' = (do pure (.bool (← Op.equal t x' y'))) := by
            unfold binOp
            cases hx <;> cases hy <;> first | rfl | (exact (hni _ _ _ _ rfl rfl).elim) | (exact (hns _ _ rfl rfl).elim) | (exfalso; simp [aeq] at hb; split at hb <;> simp at hb)
          rw [this]
          simp [he' w]
        · have : binOp .neq t x' y' = (do pure (.bool (!(← Op.equal t x' y')))) := by
            unfold binOp
            cases hx <;> cases hy <;> first | rfl | (exact (hni _ _ _ _ rfl rfl).elim) | (exact (hns _ _ rfl rfl).elim) | (exfalso; simp [aeq] at hb; split at hb <;> simp at hb)
          rw [this]
          simp [he' w]
    split at h
    · cases hb : aeq T 10000 t x y with
      | none => rw [hb] at h; cases h
      | some b =>
        rw [hb] at h
        obtain rfl := Option.some.inj h
        refine ⟨.bool _, fun w => ?_⟩
        obtain ⟨h1, h2⟩ := key b hb (.inl rfl) w
        simp [h1, h2]
    · cases hb : aeq T 10000 t x y with
      | none => rw [hb] at h; cases h
      | some b =>
        rw [hb] at h
        obtain rfl := Option.some.inj h
        refine ⟨.bool _, fun w => ?_⟩
        obtain ⟨h1, h2⟩ := key b hb (.inr rfl) w
        simp [h1, h2]
    · cases h
end Go.Proofs.Ythalogdopkoidaa.Ab
