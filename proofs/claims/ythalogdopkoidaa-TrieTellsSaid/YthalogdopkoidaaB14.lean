/- Parts of slices. No statement of the seat's in it. -/
import Derived.Test.YthalogdopkoidaaB13
set_option linter.unusedVariables false
set_option linter.unusedSimpArgs false
namespace Go.Proofs.Ythalogdopkoidaa.Ab
open Go Go.RowKit

theorem Sl.part {α : Type} {f : α → List Value} {s : Nat} (hs : ∀ x, (f x).length = s) {H : AHeap} {v : Value} {xs : List α} {ety : Nat} (h : Sl H v ety xs.length (xs.flatMap f)) {t : Nat} {ti ei : TI}
    (ht : TT t = some ti) (hd : ti.d = .slice ety) (hei : TT ety = some ei) (he : ei.size = s) (h0 : s ≠ 0) {lo hi : Nat} (h1 : lo ≤ hi) (h2 : hi ≤ xs.length) :
    ∃ v', (∀ k k', aslice TT t v (some (.int k lo)) (some (.int k' hi)) = some v') ∧ (hi = xs.length → ∀ k, aslice TT t v (some (.int k lo)) none = some v') ∧ (lo = 0 → ∀ k', aslice TT t v none (some (.int k' hi)) = some v') ∧
      Sl H v' ety ((xs.take hi).drop lo).length (((xs.take hi).drop lo).flatMap f) ∧ ∀ j, vid v' = some j → vid v = some j := by
  subst he
  rcases h with ⟨rfl, hn, hc⟩ | ⟨i, off, o, h⟩
  · have : xs = [] := List.length_eq_zero_iff.1 hn
    subst this
    have e2 : hi = 0 := by simpa using h2
    have e1 : lo = 0 := by omega
    subst e2 e1
    refine ⟨.slice none 0 0, fun k k' => ?_, fun _ k => ?_, fun _ k' => ?_, .inl ⟨rfl, rfl, rfl⟩, fun j hj => by cases hj⟩ <;>
    · simp only [aslice, ht, hd, hei, if_neg h0]; rfl
  · have hv := h.val
    subst hv
    have hlen : ((xs.take hi).drop lo).length = hi - lo := by simp; omega
    have hb : (xs.flatMap f).length = xs.length * ei.size := rows_length hs xs
    have hm : hi * ei.size ≤ xs.length * ei.size := Nat.mul_le_mul_right _ h2
    have hm2 : lo * ei.size ≤ hi * ei.size := Nat.mul_le_mul_right _ h1
    refine ⟨.slice (some ⟨i, off + lo * ei.size, none⟩) (hi - lo) (hi - lo), fun k k' => ?_, fun e k => ?_, fun e k' => ?_, .inr ⟨i, off + lo * ei.size, o, ?_⟩, fun j hj => hj⟩
    · simp only [aslice, ht, hd, hei, if_neg h0, abound]
      rw [if_pos (by omega)]
      dsimp only
      rw [if_pos (by omega)]
      simp only [Int.toNat_natCast]
    · subst e
      simp only [aslice, ht, hd, hei, if_neg h0, abound]
      rw [if_pos (by omega)]
      simp only [Int.toNat_natCast]
    · subst e
      simp only [aslice, ht, hd, hei, if_neg h0, abound]
      rw [if_pos (by omega)]
      simp only [Int.toNat_natCast]
    · have hcl : (((xs.take hi).drop lo).flatMap f).length = (hi - lo) * ei.size := by rw [rows_length hs, hlen]
      have hsub : (hi - lo) * ei.size = hi * ei.size - lo * ei.size := Nat.sub_mul _ _ _
      refine ⟨by rw [hlen], h.obj, h.ty, ?_, ?_⟩
      · have := h.len
        rw [hcl, hsub]
        omega
      · have hc := h.cells
        rw [hcl, ← rows_drop hs, ← rows_take hs]
        conv => rhs; rw [← hc]
        rw [List.take_take, Nat.min_eq_left (by omega), List.drop_take, List.drop_drop, hsub]
section
variable {P : Program} {T : Tab} {N : Nat} {ok : Nat → Prop} {ops : List Oper} {late : List Nat} {σ : List (Nat × Bool)} {K : Env → AHeap → Prop} {e e' : Env} {H Hs : AHeap} {Msk : Nat → Prop}
theorem AG_one (hT : TOK P T) (i : Nat) (h : qsel T N ops H [i] e = some e') (hk : AG P N ok Msk ops late σ K Hs e' H) : AG P N ok Msk ops late ((i, false) :: σ) K Hs e H := by
  simp only [qsel, qat] at h
  cases ho : ops[i]? with
  | none => rw [ho] at h; cases h
  | some o =>
    rw [ho] at h
    dsimp only at h
    cases h1 : q1 T N ops H o e with
    | none => rw [h1] at h; cases h
    | some e1 =>
      rw [h1] at h
      obtain rfl : e1 = e' := Option.some.inj h
      exact AG_only hT ho h1 hk
end
end Go.Proofs.Ythalogdopkoidaa.Ab
