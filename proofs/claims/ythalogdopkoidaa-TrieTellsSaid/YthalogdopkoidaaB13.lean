/- The walk through nodes, as a function. No statement of the seat's in it. -/
import Derived.Test.YthalogdopkoidaaB12
set_option linter.unusedVariables false
namespace Go.Proofs.Ythalogdopkoidaa.Ab
open Go Go.RowKit

/-- What a walker has met. -/
structure W where
  next : Nat
  l : List Pr
  paths : List (List UInt8)

/-- The path to a child. -/
def kp (k : Int) (p : List UInt8) (i : Nat) : List UInt8 := p ++ if k = 3 then [UInt8.ofNat i] else []

def wkids (wk : Int → List UInt8 → W → Bool × W) (k : Int) (p : List UInt8) : Nat → List Int → W → Bool × W
  | _, [], w => (true, w)
  | i, c :: cs, w =>
    if c = 0 then wkids wk k p (i + 1) cs w
    else if (wk c (kp k p i) w).1 = true then wkids wk k p (i + 1) cs (wk c (kp k p i) w).2
    else (false, (wk c (kp k p i) w).2)

/-- A node met: its path, its pair. -/
def wmeet (n : Nd) (p : List UInt8) (w : W) : W :=
  { next := w.next + 1, paths := w.paths ++ [p], l := if n.has = true then w.l ++ [⟨(keyOf (p ++ n.path)).getD [], n.value⟩] else w.l }

def walk (t : List Nd) : Nat → Int → List UInt8 → W → Bool × W
  | 0, _, _, w => (false, w)
  | f + 1, a, p, w =>
    if h : a = (w.next : Int) ∧ w.next < t.length ∧ p.length ≤ 16 then
      if (t[w.next]'h.2.1).has = true ∧ keyOf (p ++ (t[w.next]'h.2.1).path) = none then (false, wmeet (t[w.next]'h.2.1) p w)
      else wkids (walk t f) (t[w.next]'h.2.1).kind (p ++ (t[w.next]'h.2.1).path) 0 (t[w.next]'h.2.1).kids.toList (wmeet (t[w.next]'h.2.1) p w)
    else (false, w)

/-- The number goes up alone. -/
theorem wkids_next {wk : Int → List UInt8 → W → Bool × W} (hk : ∀ a p w, w.next ≤ (wk a p w).2.next) (k : Int) (p : List UInt8) : ∀ (cs : List Int) (i : Nat) (w : W), w.next ≤ (wkids wk k p i cs w).2.next
  | [], i, w => Nat.le_refl _
  | c :: cs, i, w => by
    rw [wkids]
    split
    · exact wkids_next hk k p cs (i + 1) w
    · split
      · exact Nat.le_trans (hk _ _ _) (wkids_next hk k p cs (i + 1) _)
      · exact hk _ _ _
theorem walk_next (t : List Nd) : ∀ (f : Nat) (a : Int) (p : List UInt8) (w : W), w.next ≤ (walk t f a p w).2.next
  | 0, a, p, w => Nat.le_refl _
  | f + 1, a, p, w => by
    rw [walk]
    split
    · split
      · exact Nat.le_succ _
      · have := wkids_next (walk_next t f) (t[w.next]).kind (p ++ (t[w.next]).path) (t[w.next]).kids.toList 0 (wmeet t[w.next] p w)
        simp only [wmeet] at this
        exact Nat.le_trans (Nat.le_succ w.next) this
    · exact Nat.le_refl _

/-- All of a trie's nodes. -/
def walkAll (t : List Nd) : Bool × W := if t = [] then (true, ⟨0, [], []⟩) else walk t (t.length + 1) 0 [] ⟨0, [], []⟩
end Go.Proofs.Ythalogdopkoidaa.Ab
