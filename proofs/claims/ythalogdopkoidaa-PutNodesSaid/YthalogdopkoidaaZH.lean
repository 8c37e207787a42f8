/- Contracts and plain laws: the cursor. No statement of the seat's in it. Condition: none. -/
import Derived.Test.YthalogdopkoidaaZD
import Derived.Test.YthalogdopkoidaaZB
set_option linter.unusedVariables false
set_option linter.unusedSimpArgs false
namespace Go.Proofs.Ythalogdopkoidaa.Ab
open Go Go.RowKit Go.Proofs.Ythalogdopkoidaa.Dr
/-- The pairs of which nodes are the trie; of others none. -/
def prs (t : List Nd) : List Pr := if Isw t then (walkAll t).2.l else []
theorem prs_build {l : List Pr} (h : May l) : prs (build l) = l := by
  rw [prs, if_pos (isw_build h), walkAll_build h]
theorem prs_may (t : List Nd) : May (prs t) := by
  unfold prs
  split
  · rename_i h; exact h.2.1
  · exact May.nil
theorem prs_len (t : List Nd) : (prs t).length ≤ t.length := by
  unfold prs
  split
  · have h := walkAll_ok t
    exact Nat.le_trans h.l h.n
  · exact Nat.zero_le _
theorem isw_prs {t : List Nd} (h : Isw t) : t = build (prs t) := by
  rw [prs, if_pos h]; exact h.2.2
theorem f52_0 (i : Nat) : afield TT 52 (.pointer (some ⟨i, 0, none⟩)) 0 = some (.pointer (some ⟨i, 0, none⟩)) := rfl
theorem ap52_self (p : Pr) : apart TT 52 p.cells 0 = some p.val := rfl
theorem ap52_key (p : Pr) : apart TT 9 p.cells 0 = some (S p.key) := rfl
/-- What a closure tells of a text, whatever is made meanwhile. -/
def Tells (g : Nat) (pv : Value) (q : List UInt8 → Bool) (n : Nat) (H : AHeap) : Prop :=
  ∀ H', AExt (fun i => n ≤ i) H H' → ∀ k, ACalls Try.prog g [S k, pv] H' (fun _ => False) fun v H'' => v = .bool (q k) ∧ H'' = H'
/-- The first of pairs that is such; the zero pair, and false: there is none. -/
def ans (o : Option Pr) : Value := .tuple #[(o.getD ⟨[], []⟩).val, .bool o.isSome]
end Go.Proofs.Ythalogdopkoidaa.Ab
set_option linter.unusedVariables false
set_option linter.unusedSimpArgs false
namespace Go.Proofs.Ythalogdopkoidaa.Ab
open Go Go.RowKit Go.Proofs.Ythalogdopkoidaa.Dr
/-- The first so many that are such. -/
def some1 (l : List Pr) (q : List UInt8 → Bool) (n : Int) : List Pr := (l.filter fun x => q x.key).take n.toNat
theorem PrB.push {H : AHeap} {v : Value} {l : List Pr} {x : Pr} (h : Buf H v 52 (l.length + 1) (l.flatMap Pr.cells ++ ([x.val] : List Value).flatMap fun v => v.cells.toList)) : PrB H v (l ++ [x]) := by
  rw [PrB, List.length_append, List.flatMap_append]
  exact h
/-- What the document's List asks of a text. -/
def lq (key : List UInt8) (above : Bool) (k : List UInt8) : Bool := decide (key < k) || (decide (k = key) && !above)
end Go.Proofs.Ythalogdopkoidaa.Ab
set_option linter.unusedVariables false
set_option linter.unusedSimpArgs false
namespace Go.Proofs.Ythalogdopkoidaa.Ab
open Go Go.RowKit Go.Proofs.Ythalogdopkoidaa.Dr
theorem pick32 {H : AHeap} {u : Value} {ty n : Nat} {cs : List Value} (h : Sl H u ty n cs) (b c : Value) : apick TT 32 (.agg #[u, b, c]) 0 = some u := by
  rcases h with ⟨rfl, _, _⟩ | ⟨i, o, ob, h⟩
  · rfl
  · rw [h.val]; rfl
def nd9 : Nd := ⟨9, [], false, [], zk⟩
theorem Own.nodes {H : AHeap} {v : Value} {i n : Nat} (l : List Nd) (hn : l.length = n) (h : Own H v 49 n ((l.map Nd.val).flatMap fun v => v.cells.toList) i) : NdB H v l := by
  subst hn
  have e : ((l.map Nd.val).flatMap fun v => v.cells.toList) = l.flatMap Nd.cells := by
    rw [List.flatMap_map]; rfl
  rw [e] at h
  exact .inr ⟨i, h⟩
end Go.Proofs.Ythalogdopkoidaa.Ab
set_option linter.unusedVariables false
set_option linter.unusedSimpArgs false
namespace Go.Proofs.Ythalogdopkoidaa.Ab
open Go Go.RowKit Go.Proofs.Ythalogdopkoidaa.Dr
end Go.Proofs.Ythalogdopkoidaa.Ab
set_option linter.unusedVariables false
set_option linter.unusedSimpArgs false
namespace Go.Proofs.Ythalogdopkoidaa.Ab
open Go Go.RowKit Go.Proofs.Ythalogdopkoidaa.Dr
end Go.Proofs.Ythalogdopkoidaa.Ab
set_option linter.unusedVariables false
set_option linter.unusedSimpArgs false
namespace Go.Proofs.Ythalogdopkoidaa.Ab
open Go Go.RowKit Go.Proofs.Ythalogdopkoidaa.Dr
end Go.Proofs.Ythalogdopkoidaa.Ab
set_option linter.unusedVariables false
set_option linter.unusedSimpArgs false
namespace Go.Proofs.Ythalogdopkoidaa.Ab
open Go Go.RowKit Go.Proofs.Ythalogdopkoidaa.Dr
theorem first_at {l : List Pr} {q : List UInt8 → Bool} {i : Nat} (hi : i < l.length) (hlt : ∀ j (hj : j < i), q (l[j]'(by omega)).key = false) (hq : q l[i].key = true) : (l.find? fun x => q x.key) = some l[i] := by
  rw [List.find?_eq_some_iff_getElem]
  exact ⟨hq, i, hi, rfl, fun j hj => by simp [hlt j hj]⟩
/-- The key ahead of number i. -/
def ahead1 (l : List Pr) (i : Nat) : List UInt8 := ((l.take i).getLast?.map Pr.key).getD []
end Go.Proofs.Ythalogdopkoidaa.Ab
