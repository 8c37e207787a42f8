/- Bytes: what the program's operations do to them; nibbles. No statement of the seat's in it. -/
import Derived.Test.YthalogdopkoidaaB6
set_option linter.unusedVariables false
namespace Go.Proofs.Ythalogdopkoidaa.Ab
open Go Go.RowKit

theorem allBytes {p : UInt8 → Prop} (h : ∀ n : Fin 256, p (UInt8.ofNat n.val)) (b : UInt8) : p b := by
  have := h ⟨b.toNat, b.toNat_lt⟩
  simpa using this

theorem U_shr (b : UInt8) (t : Nat) : abin TT .shr t (U b) (.int .u64 4) = some (U (b / 16)) := by
  have h : (b.toNat : Int).fdiv 16 = ((b / 16).toNat : Int) := by
    rw [UInt8.toNat_div, Int.fdiv_eq_ediv_of_nonneg _ (by omega)]
    simp
  show abinInt .shr .u8 b.toNat .u64 4 = _
  simp only [abinInt]
  rw [if_pos (by omega)]
  show some (Value.int .u8 ((b.toNat : Int).fdiv 16)) = _
  rw [h]; rfl

theorem U_quo (b : UInt8) (t : Nat) : abin TT .quo t (U b) (.int .u8 16) = some (U (b / 16)) := by
  have h : IntKind.u8.wrap ((b.toNat : Int).tdiv 16) = ((b / 16).toNat : Int) := by
    have := b.toNat_lt
    rw [UInt8.toNat_div, Int.tdiv_eq_ediv_of_nonneg (by omega)]
    simp [IntKind.wrap, IntKind.signed, IntKind.bits]
    omega
  show abinInt .quo .u8 b.toNat .u8 16 = _
  simp only [abinInt]
  rw [if_pos ⟨trivial, by omega⟩, h]; rfl

theorem U_rem (b : UInt8) (t : Nat) : abin TT .rem t (U b) (.int .u8 16) = some (U (b % 16)) := by
  have h : (b.toNat : Int).tmod 16 = ((b % 16).toNat : Int) := by
    rw [UInt8.toNat_mod, Int.tmod_eq_emod_of_nonneg (by omega)]
    simp
  show abinInt .rem .u8 b.toNat .u8 16 = _
  simp only [abinInt]
  rw [if_pos ⟨trivial, by omega⟩, h]; rfl

theorem U_and (b : UInt8) (t : Nat) : abin TT .and t (U b) (.int .u8 15) = some (U (b % 16)) := by
  have h : ∀ b : UInt8, bits .and .u8 b.toNat 15 = ((b % 16).toNat : Int) := allBytes (by decide +kernel)
  show abinInt .and .u8 b.toNat .u8 15 = _
  simp only [abinInt]
  rw [if_pos trivial, h]; rfl

theorem U_eql (a b : UInt8) (t : Nat) : abin TT .eql t (U a) (U b) = some (.bool (decide (a = b))) := by
  show abinInt .eql .u8 a.toNat .u8 b.toNat = _
  simp only [abinInt, if_true]
  congr 2
  rw [Bool.eq_iff_iff, decide_eq_true_eq, decide_eq_true_eq]
  constructor
  · intro h; exact UInt8.toNat_inj.1 (by omega)
  · rintro rfl; rfl

theorem U_gtr (a : UInt8) (t : Nat) : abin TT .gtr t (U a) (.int .u8 15) = some (.bool (decide (15 < a))) := by
  show abinInt .gtr .u8 a.toNat .u8 15 = _
  simp only [abinInt, if_true]
  congr 2
  rw [Bool.eq_iff_iff, decide_eq_true_eq, decide_eq_true_eq, UInt8.lt_iff_toNat_lt]
  show (15 : Int) < _ ↔ 15 < a.toNat
  omega

theorem U_mul (b : UInt8) (t : Nat) : abin TT .mul t (U b) (.int .u8 16) = some (U (b * 16)) := by
  have h : IntKind.u8.wrap ((b.toNat : Int) * 16) = ((b * 16).toNat : Int) := by
    rw [UInt8.toNat_mul]
    simp [IntKind.wrap, IntKind.signed, IntKind.bits]
  show abinInt .mul .u8 b.toNat .u8 16 = _
  simp only [abinInt]
  rw [if_pos trivial, h]; rfl

theorem U_add (a b : UInt8) (t : Nat) : abin TT .add t (U a) (U b) = some (U (a + b)) := by
  have h : IntKind.u8.wrap ((a.toNat : Int) + b.toNat) = ((a + b).toNat : Int) := by
    rw [UInt8.toNat_add]
    simp [IntKind.wrap, IntKind.signed, IntKind.bits]
  show abinInt .add .u8 a.toNat .u8 b.toNat = _
  simp only [abinInt]
  rw [if_pos trivial, h]; rfl

theorem U_shl4 (b : UInt8) (t : Nat) : abin TT .shl t (U b) (.int .i64 4) = some (U (b * 16)) := by
  have h : IntKind.u8.wrap ((b.toNat : Int) * 16) = ((b * 16).toNat : Int) := by
    rw [UInt8.toNat_mul]
    simp [IntKind.wrap, IntKind.signed, IntKind.bits]
  show abinInt .shl .u8 b.toNat .i64 4 = _
  simp only [abinInt]
  rw [if_pos (by omega)]
  show some (Value.int .u8 (IntKind.u8.wrap ((b.toNat : Int) * 16))) = _
  rw [h]; rfl

theorem U_shl0 (b : UInt8) (t : Nat) : abin TT .shl t (U b) (.int .i64 0) = some (U b) := by
  have h : IntKind.u8.wrap ((b.toNat : Int) * 1) = (b.toNat : Int) := by
    have := b.toNat_lt
    simp [IntKind.wrap, IntKind.signed, IntKind.bits]
    omega
  show abinInt .shl .u8 b.toNat .i64 0 = _
  simp only [abinInt]
  rw [if_pos (by omega)]
  show some (Value.int .u8 (IntKind.u8.wrap ((b.toNat : Int) * 1))) = _
  rw [h]; rfl

theorem U_or (a b : UInt8) (t : Nat) : abin TT .or t (U a) (U b) = some (U (a ||| b)) := by
  have h : bits .or .u8 a.toNat b.toNat = ((a ||| b).toNat : Int) := by
    have ha := a.toNat_lt
    have hb := b.toNat_lt
    have e1 : BitVec.ofInt 8 (a.toNat : Int) = a.toBitVec := by
      apply BitVec.eq_of_toNat_eq
      rw [BitVec.toNat_ofInt]
      simp
      omega
    have e2 : BitVec.ofInt 8 (b.toNat : Int) = b.toBitVec := by
      apply BitVec.eq_of_toNat_eq
      rw [BitVec.toNat_ofInt]
      simp
      omega
    have hw : ∀ c : UInt8, IntKind.u8.wrap (c.toNat : Int) = c.toNat := fun c => by
      have := c.toNat_lt
      simp [IntKind.wrap, IntKind.signed, IntKind.bits]
      omega
    show IntKind.u8.wrap ((BitVec.ofInt 8 (a.toNat : Int) ||| BitVec.ofInt 8 (b.toNat : Int)).toNat : Int) = _
    rw [e1, e2, ← hw (a ||| b)]
    rfl
  show abinInt .or .u8 a.toNat .u8 b.toNat = _
  simp only [abinInt]
  rw [if_pos trivial, h]; rfl

attribute [go_sem] U_shr U_quo U_rem U_and U_eql U_gtr U_mul U_add U_shl4 U_shl0 U_or

/-! ### Nibbles -/
def nib (s : List UInt8) : List UInt8 := s.flatMap fun b => [b / 16, b % 16]

theorem tk {α : Type} {l : List α} {i : Nat} (h : i < l.length) : l.take (i + 1) = l.take i ++ [l[i]] := by
  rw [List.take_add_one, List.getElem?_eq_getElem h]; rfl

theorem nib_nil : nib [] = [] := rfl
theorem nib_cons (b : UInt8) (s : List UInt8) : nib (b :: s) = b / 16 :: b % 16 :: nib s := rfl
theorem nib_append (a b : List UInt8) : nib (a ++ b) = nib a ++ nib b := by simp [nib]
theorem nib_length : ∀ s : List UInt8, (nib s).length = 2 * s.length
  | [] => rfl
  | b :: s => by rw [nib_cons]; simp [nib_length s]; omega

/-- How many elements two have in common, from the beginning on. -/
def com : List UInt8 → List UInt8 → Nat
  | a :: x, b :: y => if a = b then com x y + 1 else 0
  | _, _ => 0

theorem com_left : ∀ a b : List UInt8, com a b ≤ a.length
  | [], _ => by simp [com]
  | _ :: _, [] => by simp [com]
  | a :: x, b :: y => by
    simp only [com]
    split
    · have := com_left x y; simp; omega
    · simp
theorem com_right : ∀ a b : List UInt8, com a b ≤ b.length
  | [], b => by simp [com]
  | _ :: _, [] => by simp [com]
  | a :: x, b :: y => by
    simp only [com]
    split
    · have := com_right x y; simp; omega
    · simp
theorem com_take : ∀ a b : List UInt8, a.take (com a b) = b.take (com a b)
  | [], b => by simp [com]
  | _ :: _, [] => by simp [com]
  | a :: x, b :: y => by
    simp only [com]
    split
    · rename_i h; subst h
      simp [com_take x y]
    · simp
theorem com_at : ∀ (a b : List UInt8) (i : Nat), i < com a b → a[i]? = b[i]?
  | [], b, i, h => by simp [com] at h
  | _ :: _, [], i, h => by simp [com] at h
  | a :: x, b :: y, i, h => by
    simp only [com] at h
    split at h
    · rename_i e; subst e
      cases i with
      | zero => rfl
      | succ i => simpa using com_at x y i (by omega)
    · omega
/-- That many, if the next ones differ or there are none. -/
theorem com_eq : ∀ (a b : List UInt8) (i : Nat), i ≤ a.length → i ≤ b.length → (∀ j, j < i → a[j]? = b[j]?) → (a.length ≤ i ∨ b.length ≤ i ∨ a[i]? ≠ b[i]?) → com a b = i
  | [], b, i, h1, h2, h3, h4 => by simp at h1; simp [com, h1]
  | a :: x, [], i, h1, h2, h3, h4 => by simp at h2; simp [com, h2]
  | a :: x, b :: y, 0, h1, h2, h3, h4 => by
    simp only [com]
    simp at h4
    rw [if_neg h4]
  | a :: x, b :: y, i + 1, h1, h2, h3, h4 => by
    have h0 := h3 0 (by omega)
    simp at h0
    simp only [com, if_pos h0]
    rw [com_eq x y i (by simpa using h1) (by simpa using h2) (fun j hj => by simpa using h3 (j + 1) (by omega)) (by simpa using h4)]

/-- The texts of nibbles: two by two. -/
def two : List UInt8 → List UInt8
  | a :: b :: l => (a * 16 ||| b) :: two l
  | [a] => [a * 16]
  | [] => []
def unn : List UInt8 → List UInt8
  | a :: b :: l => (a * 16 + b) :: unn l
  | _ => []

theorem two_length : ∀ l : List UInt8, (two l).length = (l.length + 1) / 2
  | a :: b :: l => by simp [two, two_length l]; omega
  | [a] => by simp [two]
  | [] => rfl
theorem two_one : ∀ (l : List UInt8) (a : UInt8), l.length % 2 = 0 → two (l ++ [a]) = two l ++ [a * 16]
  | x :: y :: l, a, h => by
    have := two_one l a (by simp at h; omega)
    simp [two, this]
  | [x], a, h => by simp at h
  | [], a, h => rfl
theorem two_two : ∀ (l : List UInt8) (a b : UInt8), l.length % 2 = 0 → two (l ++ [a, b]) = two l ++ [a * 16 ||| b]
  | x :: y :: l, a, b, h => by
    have := two_two l a b (by simp at h; omega)
    simp [two, this]
  | [x], a, b, h => by simp at h
  | [], a, b, h => rfl
theorem unn_two : ∀ (l : List UInt8) (a b : UInt8), l.length % 2 = 0 → unn (l ++ [a, b]) = unn l ++ [a * 16 + b]
  | x :: y :: l, a, b, h => by
    have := unn_two l a b (by simp at h; omega)
    simp [unn, this]
  | [x], a, b, h => by simp at h
  | [], a, b, h => rfl
theorem unn_one : ∀ (l : List UInt8) (a : UInt8), l.length % 2 = 0 → unn (l ++ [a]) = unn l
  | x :: y :: l, a, h => by
    have := unn_one l a (by simp at h; omega)
    simp [unn, this]
  | [x], a, h => by simp at h
  | [], a, h => rfl
theorem unn_length : ∀ l : List UInt8, (unn l).length = l.length / 2
  | a :: b :: l => by simp [unn, unn_length l]; omega
  | [a] => by simp [unn]
  | [] => rfl

theorem or_add (a b : UInt8) (h : b ≤ 15) : a * 16 ||| b = a * 16 + b := by
  have : ∀ a : UInt8, ∀ m : Fin 16, a * 16 ||| UInt8.ofNat m.val = a * 16 + UInt8.ofNat m.val := allBytes (by decide +kernel)
  have hb : b.toNat < 16 := by
    have := UInt8.le_iff_toNat_le.1 h
    simp at this; omega
  have h2 := this a ⟨b.toNat, hb⟩
  simpa using h2
theorem two_unn : ∀ l : List UInt8, l.length % 2 = 0 → (∀ b ∈ l, b ≤ 15) → two l = unn l
  | a :: b :: l, h, hb => by
    rw [two, unn, or_add a b (hb b (by simp)), two_unn l (by simp at h; omega) (fun c hc => hb c (by simp [hc]))]
  | [a], h, _ => by simp at h
  | [], _, _ => rfl
theorem unn_nib : ∀ s : List UInt8, unn (nib s) = s
  | [] => rfl
  | b :: s => by
    have : ∀ b : UInt8, b / 16 * 16 + b % 16 = b := allBytes (by decide +kernel)
    rw [nib_cons, unn, this, unn_nib s]
theorem nib_small (s : List UInt8) : ∀ b ∈ nib s, b ≤ 15 := by
  have : ∀ b : UInt8, b / 16 ≤ 15 ∧ b % 16 ≤ 15 := allBytes (by decide +kernel)
  intro c hc
  obtain ⟨b, _, hb⟩ := List.mem_flatMap.1 hc
  simp at hb
  rcases hb with rfl | rfl
  · exact (this b).1
  · exact (this b).2
/-- Nibbles' text, if there is one. -/
def keyOf (n : List UInt8) : Option (List UInt8) := if n.length % 2 = 0 ∧ ∀ b ∈ n, b ≤ 15 then some (unn n) else none
theorem keyOf_nib (s : List UInt8) : keyOf (nib s) = some s := by
  rw [keyOf, if_pos ⟨by rw [nib_length]; omega, nib_small s⟩, unn_nib]
end Go.Proofs.Ythalogdopkoidaa.Ab
