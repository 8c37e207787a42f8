/- Rules for drawn regions with calls, appends, stores. No statement of the seat's in it. -/
import Derived.Test.YthalogdopkoidaaB11
import Derived.Test.YthalogdopkoidaaA14
set_option linter.unusedVariables false
namespace Go.Proofs.Ythalogdopkoidaa.Ab
open Go Go.RowKit Go.Proofs.Ythalogdopkoidaa.Dr

section
variable {N : Nat} {ok : Nat → Prop} {ops : List Oper} {late : List Nat} {σ : List (Nat × Bool)} {K : Env → AHeap → Prop} {e : Env} {H Hs : AHeap} {Msk : Nat → Prop} {i0 : Nat} {dst : Option Nat} {ty : TypeId} {pos : String} {af : Array Edge} {gd : Option (Nat × Bool)}

/-- What an append does. -/
theorem app_eff {t ety : Nat} {ti ei : TI} {s x : Operand} {v u : Value} {n m : Nat} {cs cx : List Value} (ht : TT t = some ti) (hd : ti.d = .slice ety) (hei : TT ety = some ei) (h0 : ei.size ≠ 0) (hb0 : ei.bytes ≠ 0)
    (hs : aev e s = v) (hx : aev e x = u) (hv : Buf H v ety n cs) (hu : Sl H u ety m cx) (hn : cs.length = n * ei.size) (hm : cx.length = m * ei.size) (hsz : (n + m) * ei.bytes ≤ 140737488355328) :
    ∃ r : Eff, eop TT H (aev e) (.call { callee := .builtin .append, args := #[s, x], argTypes := #[t, t] }) = some r ∧ (∀ i, r.2.2 = some i → vid v = some i) ∧ AExt (fun i => vid v = some i) H r.2.1 ∧ Buf r.2.1 r.1 ety (n + m) (cs ++ cx) ∧ (∀ i, vid r.1 = some i → H.length ≤ i ∨ (cx = [] ∧ r.1 = v)) := by
  have hsize : 0 < ei.size := by omega
  have hen := eappend_eq (s := v) hei h0 hb0 hu hm
  have hcx0 : m = 0 → cx = [] := fun h => List.eq_nil_of_length_eq_zero (by simp [hm, h])
  have hop : ∀ r, eapp2 TT H ety ei v m cx = some r → eop TT H (aev e) (.call { callee := .builtin .append, args := #[s, x], argTypes := #[t, t] }) = some r := fun r hr => by
    simp only [eop, ht, hd, if_true, hs, hx, hen, hr]
  have hmb : m * ei.bytes ≤ 140737488355328 := Nat.le_trans (Nat.mul_le_mul_right _ (by omega)) hsz
  rcases hv with ⟨rfl, rfl, rfl⟩ | ⟨i, rfl, cells, h2, h3, h4⟩
  · by_cases hm0 : m = 0
    · refine ⟨(.slice none 0 0, H, none), hop _ ?_, (fun i hi => by cases hi), AExt.refl _ _, .inl ⟨rfl, by omega, by simp [hcx0 hm0]⟩, (fun i hi => by cases hi)⟩
      simp only [eapp2]
      rw [if_pos hm0]
    · refine ⟨(.slice (some ⟨H.length, 0, none⟩) m m, H ++ [some ⟨ety, cx, true⟩], none), hop _ ?_, (fun i hi => by cases hi), AExt.push _ _ _, .inr ⟨H.length, by simp, cx, by simp [Ob], by simp, by simp⟩, (fun i hi => by obtain rfl := Option.some.inj hi; exact .inl (Nat.le_refl _))⟩
      simp only [eapp2]
      rw [if_neg hm0, if_pos hmb]
  · by_cases hm0 : m = 0
    · refine ⟨(.slice (some ⟨i, 0, none⟩) n n, H, none), hop _ ?_, (fun i hi => by cases hi), AExt.refl _ _, .inr ⟨i, by simp [hm0], cells, h2, by simp [hcx0 hm0, h3], by simp [hcx0 hm0, h4]⟩, (fun j hj => .inr ⟨hcx0 hm0, rfl⟩)⟩
      simp only [eapp2]
      rw [if_pos hm0]
    · refine ⟨(.slice (some ⟨H.length, 0, none⟩) (n + m) (n + m), H.set i none ++ [some ⟨ety, cs ++ cx, true⟩], some i), hop _ ?_, (fun j hj => by obtain rfl := Option.some.inj hj; rfl), ⟨by simp, fun j hj hn => ?_⟩, .inr ⟨H.length, rfl, cs ++ cx, by simp [Ob], by simp, List.take_of_length_le (Nat.le_refl _)⟩, (fun j hj => by obtain rfl := Option.some.inj hj; exact .inl (Nat.le_refl _))⟩
      · simp only [eapp2]
        rw [if_neg hm0]
        simp only [show H[i]? = some (some ⟨ety, cells, true⟩) from h2]
        rw [if_pos ⟨trivial, trivial, by omega, hsz⟩, ← hn, h4]
      · have : j ≠ i := fun h => hn (by rw [h]; rfl)
        rw [List.getElem?_append_left (by simpa using hj), List.getElem?_set_ne (Ne.symm this)]

theorem AG_append {P : Program} (hT : TOK P TT) {t ety : Nat} {ti ei : TI} {s x : Operand} {v u : Value} {n m : Nat} {cs cx : List Value} (ho : ops[i0]? = some ⟨dst, .call { callee := .builtin .append, args := #[s, x], argTypes := #[t, t] }, ty, pos, af, gd⟩)
    (ht : TT t = some ti) (hd : ti.d = .slice ety) (hei : TT ety = some ei) (h0 : ei.size ≠ 0) (hb0 : ei.bytes ≠ 0)
    (hw : awant ops e ⟨dst, .call { callee := .builtin .append, args := #[s, x], argTypes := #[t, t] }, ty, pos, af, gd⟩ = some true) (hs : aev e s = v) (hx : aev e x = u) (hv : Buf H v ety n cs) (hu : Sl H u ety m cx) (hn : cs.length = n * ei.size) (hm : cx.length = m * ei.size)
    (hsz : (n + m) * ei.bytes ≤ 140737488355328) (hok : ∀ i, vid v = some i → ok i) (hmsk : ∀ j, j < H.length → vid v = some j → Msk j)
    (hk : ∀ v' H', AExt (fun i => vid v = some i) H H' → Buf H' v' ety (n + m) (cs ++ cx) → (∀ i, vid v' = some i → H.length ≤ i ∨ (cx = [] ∧ v' = v)) → AG P N ok Msk ops late σ K Hs (eput N e dst v') H') : AG P N ok Msk ops late ((i0, false) :: σ) K Hs e H := by
  obtain ⟨r, g1, g2, g3, g4, g5⟩ := app_eff ht hd hei h0 hb0 hs hx hv hu hn hm hsz
  exact AG_e hT ho hw g1 (fun j hj => hok j (g2 j hj)) Hs (.inl ⟨rfl, fun j hl hj => hmsk j hl (g2 j hj)⟩) (hk _ _ g3 g4 g5)

/-- A store, late: nothing is read early behind it. -/
theorem AG_store {P : Program} (hT : TOK P TT) {t : Nat} {ti : TI} {p x : Operand} {i off : Nat} {v : Value} {xs cells : List Value} {oty : Nat} (ho : ops[i0]? = some ⟨dst, .store t p x, ty, pos, af, gd⟩) (ht : TT t = some ti) (hw : awant ops e ⟨dst, .store t p x, ty, pos, af, gd⟩ = some true)
    (hp : aev e p = .pointer (some ⟨i, off, none⟩)) (hx : aev e x = v) (hv : Lay v xs) (hs : xs.length = ti.size) (hob : Ob H i oty cells) (hfit : off + xs.length ≤ cells.length) (hok : ok i) (hl : late.contains i0 = true)
    (hk : ∀ H', AExt (fun j => j = i) H H' → Ob H' i oty (over cells off xs) → H'.length = H.length → AG P N ok Msk ops late σ K [] (eput N e dst undef) H') : AG P N ok Msk ops late ((i0, false) :: σ) K Hs e H :=
  AG_e hT ho (r := (undef, H.set i (some ⟨oty, over cells off xs, true⟩), some i)) hw (by
    simp only [eop, estore, hp, hx, ht, show H[i]? = some (some ⟨oty, cells, true⟩) from hob]
    rw [if_pos ⟨trivial, hv.known, by rw [← hs, ← hv.cells]; simp, by rw [← hs]; exact hfit, by rw [hv.cells]; exact hv.flat⟩, hv.cells]) (fun j hj => by obtain rfl := Option.some.inj hj; exact hok)
    [] (.inr ⟨rfl, hl⟩) (hk _ (AExt.set1 _ _ _) (by simp [Ob, List.getElem?_set_self hob.lt]) (by simp))

theorem AG_new {P : Program} (hT : TOK P TT) {op : Op} (ho : ops[i0]? = some ⟨dst, op, ty, pos, af, gd⟩) (hw : awant ops e ⟨dst, op, ty, pos, af, gd⟩ = some true) {v : Value} {t : Nat} {cells : List Value} (h : eop TT H (aev e) op = some (v, H ++ [some ⟨t, cells, true⟩], none))
    (hk : ∀ H', AExt (fun _ => False) H H' → Ob H' H.length t cells → H'.length = H.length + 1 → AG P N ok Msk ops late σ K Hs (eput N e dst v) H') : AG P N ok Msk ops late ((i0, false) :: σ) K Hs e H :=
  AG_e hT ho hw h (fun i hi => by cases hi) Hs (.inl ⟨rfl, fun j _ hj => by cases hj⟩) (hk _ (AExt.push _ _ _) (by simp [Ob]) (by simp))

theorem AG_lit {P : Program} (hT : TOK P TT) {t ety : Nat} {ti ei : TI} {n : Nat} {parts : List (Nat × Operand)} (vs : List Value) (ho : ops[i0]? = some ⟨dst, .buildSlice t n parts.toArray, ty, pos, af, gd⟩) (ht : TT t = some ti) (hd : ti.d = .slice ety) (hei : TT ety = some ei) (hz : ei.zero.length = ei.size) (h0 : ei.size ≠ 0) (hn : vs.length = n) (hmax : n * ei.size ≤ 16777216)
    (hw : awant ops e ⟨dst, .buildSlice t n parts.toArray, ty, pos, af, gd⟩ = some true) (hp : (parts.map fun p => (p.1, aev e p.2)) = numbered 0 vs) (hv : ∀ v ∈ vs, ∃ xs, Lay v xs ∧ xs.length = ei.size)
    (hk : ∀ H', AExt (fun _ => False) H H' → Own H' (.slice (some ⟨H.length, 0, none⟩) n n) ety n (vs.flatMap fun v => v.cells.toList) H.length → H'.length = H.length + 1 → AG P N ok Msk ops late σ K Hs (eput N e dst (.slice (some ⟨H.length, 0, none⟩) n n)) H') : AG P N ok Msk ops late ((i0, false) :: σ) K Hs e H := by
  have hf := afill_numbered (s := ei.size) vs 0 (zeros n ei.zero) (fun v hv' => by
    obtain ⟨xs, h1, h2⟩ := hv v hv'
    exact ⟨h1.known, by rw [h1.cells]; exact h2⟩) (by rw [zeros_length, hz, ← hn]; simp)
  have hfl : (vs.flatMap fun v => v.cells.toList).all flat = true := by
    rw [List.all_eq_true]
    intro c hc
    obtain ⟨v, hv', hc'⟩ := List.mem_flatMap.1 hc
    obtain ⟨xs, h1, _⟩ := hv v hv'
    rw [h1.cells] at hc'
    exact List.all_eq_true.1 h1.flat c hc'
  refine AG_new hT ho hw (v := .slice (some ⟨H.length, 0, none⟩) n n) (t := ety) (cells := vs.flatMap fun v => v.cells.toList) ?_ fun H' g1 g2 g3 => hk H' g1 ⟨rfl, _, g2, Nat.le_refl _, List.take_of_length_le (Nat.le_refl _)⟩ g3
  simp only [eop, elit, ht, hd, hei, hp]
  rw [if_neg (by omega), hf]
  simp only [Nat.zero_mul, List.take_zero, List.nil_append, hfl, if_true]

/-- A call that turns nothing. -/
theorem AG_c {P : Program} {fo : Operand} {l0 : List Operand} {ts : Array Nat} {g : Nat} {cl : List Value} {args : List Value} {Qc : Value → AHeap → Prop}
    (ho : ops[i0]? = some ⟨dst, .call { callee := .value fo, args := l0.toArray, argTypes := ts }, ty, pos, af, gd⟩) (hw : awant ops e ⟨dst, .call { callee := .value fo, args := l0.toArray, argTypes := ts }, ty, pos, af, gd⟩ = some true) (hf : aev e fo = .func (.func g) #[] cl.toArray) (hg : Fok P g) (hargs : l0.map (aev e) ++ cl = args)
    (h : ACalls P g args H (fun _ => False) Qc)
    (hk : ∀ v H', AExt (fun _ => False) H H' → Qc v H' → AG P N ok Msk ops late σ K Hs (eput N e dst v) H') : AG P N ok Msk ops late ((i0, false) :: σ) K Hs e H :=
  AG_step (Mi := fun _ => False) ho hw Hs (.inl ⟨rfl, fun _ _ h => h.elim⟩) fun perm w0 β a w Qc' g1 g2 g3 g4 =>
    Oper.wp_mono (fun a' w' hp => ⟨(Fr.below (hp.1 trivial) _), hp.2⟩)
      (AStep_call (early := True) (K := fun e' H' => AG P N ok Msk ops late σ K Hs e' H') rfl rfl hf hg (by simpa [hargs] using h) (fun _ _ h => h.elim) (fun _ _ _ h => h.elim) hk perm w0 β a w Qc' g1 g2 g3 g4)
end
end Go.Proofs.Ythalogdopkoidaa.Ab
