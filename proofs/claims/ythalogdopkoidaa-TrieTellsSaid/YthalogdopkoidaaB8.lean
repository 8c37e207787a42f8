/- Pairs that may be. No statement of the seat's in it. -/
import Derived.Test.YthalogdopkoidaaB7
set_option linter.unusedVariables false
namespace Go.Proofs.Ythalogdopkoidaa.Ab
open Go Go.RowKit

def Pok (p : Pr) : Prop := 1 ≤ p.key.length ∧ p.key.length ≤ 8 ∧ p.value.length ≤ 16
instance (p : Pr) : Decidable (Pok p) := inferInstanceAs (Decidable (_ ∧ _))
def May (l : List Pr) : Prop := (∀ p ∈ l, Pok p) ∧ l.Pairwise (fun p q => p.key < q.key)
instance (l : List Pr) : Decidable (May l) := inferInstanceAs (Decidable (_ ∧ _))

theorem May.nil : May [] := ⟨by simp, by simp⟩
theorem lt_tr {a b c : List UInt8} (h : a < b) (k : b < c) : a < c := List.lt_trans h k
theorem May.take {l : List Pr} (h : May l) (i : Nat) : May (l.take i) := ⟨fun p hp => h.1 p (List.mem_of_mem_take hp), h.2.sublist (List.take_sublist i l)⟩
theorem May.drop {l : List Pr} (h : May l) (i : Nat) : May (l.drop i) := ⟨fun p hp => h.1 p (List.mem_of_mem_drop hp), h.2.sublist (List.drop_sublist i l)⟩
theorem May.at {l : List Pr} (h : May l) {i j : Nat} (hij : i < j) (hj : j < l.length) : l[i].key < l[j].key := List.pairwise_iff_getElem.1 h.2 i j (by omega) hj hij

/-- The next pair may be, behind the ones ahead. -/
def Nxt (l : List Pr) (i : Nat) (hi : i < l.length) : Prop := Pok l[i] ∧ ∀ h : 0 < i, l[i - 1].key < l[i].key

theorem May.nxt {l : List Pr} (h : May l) (i : Nat) (hi : i < l.length) : Nxt l i hi := ⟨h.1 _ (List.getElem_mem hi), fun h0 => h.at (by omega) hi⟩
theorem May.step {l : List Pr} {i : Nat} (hi : i < l.length) (h : May (l.take i)) (hn : Nxt l i hi) : May (l.take (i + 1)) := by
  rw [tk hi]
  refine ⟨fun p hp => ?_, ?_⟩
  · rw [List.mem_append, List.mem_singleton] at hp
    rcases hp with hp | rfl
    · exact h.1 p hp
    · exact hn.1
  · rw [List.pairwise_append]
    refine ⟨h.2, by simp, fun a ha b hb => ?_⟩
    rw [List.mem_singleton] at hb
    subst hb
    obtain ⟨j, hj, rfl⟩ := List.getElem_of_mem ha
    have hj' : j < i := by rw [List.length_take] at hj; omega
    have hlast := hn.2 (by omega)
    rw [List.getElem_take]
    by_cases e : j = i - 1
    · subst e; exact hlast
    · have hq : i - 1 < (l.take i).length := by rw [List.length_take]; omega
      have h1 : (l.take i)[j].key < (l.take i)[i - 1].key := h.at (by omega) hq
      rw [List.getElem_take, List.getElem_take] at h1
      exact lt_tr h1 hlast
end Go.Proofs.Ythalogdopkoidaa.Ab
