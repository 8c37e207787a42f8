/- Drawn regions in which one object is turned that no other operation reads. No statement of the seat's in it. -/
import Derived.Test.YthalogdopkoidaaA12
set_option linter.unusedVariables false
namespace Go.Proofs.Ythalogdopkoidaa.Ab
open Go Go.RowKit Go.Proofs.Ythalogdopkoidaa.Dr

/-- A run of chosen operations. -/
def qat (T : Tab) (N : Nat) (ops : List Oper) (H : AHeap) (l : List Oper) (i : Nat) (e : Env) (k : Env → Option Env) : Option Env :=
  match l[i]? with
  | some o => (q1 T N ops H o e).bind k
  | none => none
def qsel (T : Tab) (N : Nat) (ops : List Oper) (H : AHeap) : List Nat → Env → Option Env
  | [], e => some e
  | i :: is, e => qat T N ops H ops i e (qsel T N ops H is)

section
variable {P : Program} {T : Tab} {N : Nat} {ok : Nat → Prop} {e : Env} {H : AHeap}

/-- In an order, the object m set apart. -/
def AM (P : Program) (N : Nat) (ok : Nat → Prop) (m : Nat) (ops : List Oper) (late : List Nat) (σ : List (Nat × Bool)) (K : Env → AHeap → Prop) (e : Env) (H : AHeap) : Prop :=
  ∀ (B : Nat → Prop) (perm : Nat → Prop) (w0 : World) (β : List Loc) (a : Act) (w : World) (Qc : Exit → Act → World → Prop), (∀ b, w0.heap.size ≤ b → perm b) → Fr perm w0 w → Inv P ok perm H β w → ER β e a N →
    (∀ (i : Nat) (o : AObj) (b d q : Nat), i ≠ m → H[i]? = some (some o) → β[i]? = some (b, d, q) → ¬ B b) → (∀ b d q, β[m]? = some (b, d, q) → B b) →
    (∀ a' w', St P N ok perm w0 β H K a' w' → Qc .normal a' w') → runS P B ops.toArray Qc late σ a w

theorem AM_nil {m : Nat} {ops : List Oper} {late : List Nat} {K : Env → AHeap → Prop} (h : K e H) : AM P N ok m ops late [] K e H := fun B perm w0 β a w Qc h1 h2 h3 h4 _ _ h5 => h5 _ _ (St.here h h3 h4 h2)

theorem Inv.masked {perm : Nat → Prop} {β : List Loc} {w : World} (h : Inv P ok perm H β w) (m : Nat) : Inv P ok perm (H.set m none) β w := by
  have get : ∀ (j : Nat) (x : AObj), (H.set m none)[j]? = some (some x) → j ≠ m ∧ H[j]? = some (some x) := fun j x hj => by
    by_cases e : j = m
    · subst e
      rw [List.getElem?_set] at hj
      simp at hj
    · rw [List.getElem?_set_ne (Ne.symm e)] at hj
      exact ⟨e, hj⟩
  exact ⟨by simp [h.len], fun i o b d r h1 h2 => h.obj i o b d r (get i o h1).2 h2, fun i j oi oj bi di ri bj dj rj h1 h2 => h.sep i j oi oj bi di ri bj dj rj (get i oi h1).2 (get j oj h2).2, fun i o b d r hok h1 => h.perm i o b d r hok (get i o h1).2⟩

theorem AM_q1 (hT : TOK P T) {m : Nat} {ops : List Oper} {late : List Nat} {i : Nat} {σ : List (Nat × Bool)} {o : Oper} {e' : Env} {K : Env → AHeap → Prop} (ho : ops[i]? = some o) (h : q1 T N ops (H.set m none) o e = some e')
    (hk : AM P N ok m ops late σ K e' H) : AM P N ok m ops late ((i, true) :: σ) K e H := fun B perm w0 β a w Qc h1 h2 h3 h4 b1 b2 h5 => by
  unfold q1 at h
  split at h
  · rename_i hw
    cases hq : qop T (H.set m none) (aev e) o.op with
    | none => rw [hq] at h; cases h
    | some v =>
      rw [hq] at h
      obtain rfl := Option.some.inj h
      obtain ⟨v', hv, hrun⟩ := qop_sound hT (h3.masked m) (fun x => h4.eval x) hq
      refine ⟨o, v', by simpa using ho, .inl ⟨awant_sound hw h4, fun w' hb => hrun w' fun j oj b d r g1 g2 => ?_⟩, hk B perm w0 β _ w Qc h1 h2 h3 (h4.put hv _) b1 b2 h5⟩
      have hj : j ≠ m ∧ H[j]? = some (some oj) := by
        by_cases e : j = m
        · subst e
          rw [List.getElem?_set] at g1
          simp at g1
        · rw [List.getElem?_set_ne (Ne.symm e)] at g1
          exact ⟨e, g1⟩
      exact hb.block b (h3.obj j oj b d r hj.2 g2).lt (b1 j oj b d r hj.1 hj.2 g2)
  · rename_i hw
    obtain rfl := Option.some.inj h
    exact ⟨o, undef, by simpa using ho, .inr ⟨awant_sound hw h4, rfl⟩, hk B perm w0 β _ w Qc h1 h2 h3 (h4.put .void _) b1 b2 h5⟩
  · cases h

theorem AM_sel (hT : TOK P T) {m : Nat} {ops : List Oper} {late : List Nat} {σ : List (Nat × Bool)} {K : Env → AHeap → Prop} : ∀ (is : List Nat) (e : Env) {e' : Env}, qsel T N ops (H.set m none) is e = some e' →
    AM P N ok m ops late σ K e' H → AM P N ok m ops late (is.map (fun i => (i, true)) ++ σ) K e H
  | [], e, e', h, hk => by
    obtain rfl := Option.some.inj h
    exact hk
  | i :: is, e, e', h, hk => by
    simp only [qsel, qat] at h
    cases ho : ops[i]? with
    | none => rw [ho] at h; cases h
    | some o =>
      rw [ho] at h
      dsimp only at h
      cases h1 : q1 T N ops (H.set m none) o e with
      | none => rw [h1] at h; cases h
      | some e1 =>
        rw [h1] at h
        exact AM_q1 hT ho h1 (AM_sel hT is e1 h hk)

/-- The object set apart is turned. -/
theorem AM_e (hT : TOK P T) {m : Nat} {ops : List Oper} {late : List Nat} {i : Nat} {σ : List (Nat × Bool)} {o : Oper} {r : Eff} {K : Env → AHeap → Prop} (ho : ops[i]? = some o) (hw : awant ops e o = some true)
    (h : eop T H (aev e) o.op = some r) (hr : r.2.2 = some m) (hlen : r.2.1.length = H.length) (hok : ok m) (hk : AM P N ok m ops late σ K (eput N e o.dst r.1) r.2.1) : AM P N ok m ops late ((i, false) :: σ) K e H :=
  fun B perm w0 β a w Qc h1 h2 h3 h4 b1 b2 h5 => by
    have hw' := awant_sound hw h4
    have ho' : ops.toArray[i]? = some o := by simpa using ho
    simp only [runS, wpOp, ho']
    rw [if_pos hw']
    refine .inl ?_
    obtain ⟨nx, w', β', v', hrun, hnx, hv, hβ, hI, hF, hX⟩ := eop_sound hT h3 (h1 _ h2.size) (fun x => h4.eval x) h (fun j hj => by rw [hr] at hj; obtain rfl := Option.some.inj hj; exact hok)
    have hββ : β' = β := by
      obtain ⟨t, rfl⟩ := hβ
      have e1 := hI.len
      have e2 := h3.len
      rw [List.length_append] at e1
      have : t = [] := List.eq_nil_of_length_eq_zero (by omega)
      simp [this]
    subst hββ
    have hF' : Fr perm w w' := hF.mono fun b _ ⟨j, d, q, hj, hb⟩ => by
      rw [hr] at hj
      obtain rfl := Option.some.inj hj
      obtain ⟨ob, hob, hrw⟩ := eop_turned h hr
      exact h3.perm _ ob b d q hok hob hrw hb
    have hFB : Fr B w w' := hF.mono fun b _ ⟨j, d, q, hj, hb⟩ => by
      rw [hr] at hj
      obtain rfl := Option.some.inj hj
      exact b2 b d q hb
    have hst : ∀ u, R β' r.1 u → runS P B ops.toArray Qc late σ (a.put o.dst u) w' := fun u hu => by
      refine hk B perm w0 β' _ w' Qc h1 (h2.trans hF') hI (h4.put hu _) (fun j oj b d q hj hob hb => ?_) b2 (fun a' w'' hs => h5 a' w'' (hs.from List.prefix_rfl (hX.mono fun j _ hj => ?_)))
      · have hlt : j < H.length := by rw [← hlen]; exact (List.getElem?_eq_some_iff.1 hob).1
        rw [hX.obj j hlt (fun hj' => by rw [hr] at hj'; exact hj (Option.some.inj hj').symm)] at hob
        exact b1 j oj b d q hj hob hb
      · rw [hr] at hj
        obtain rfl := Option.some.inj hj
        exact hok
    unfold Oper.wp
    rw [hrun]
    rcases hnx with rfl | ⟨rfl, rfl⟩
    · rw [Oper.upon_value]; exact ⟨fun _ => hFB, hst _ hv⟩
    · rw [Oper.upon_skip]; exact ⟨fun _ => hFB, hst _ hv⟩

theorem AC_drawM {i : Nat} {l : List Oper} {Q : Exit → Env → AHeap → Prop} (m : Nat) (late : List Nat) (σ : List (Nat × Bool)) (hm : P.follows .mixedOrders = true) (hB : schedOK .any l late σ = true) {om : AObj} (hom : H[m]? = some (some om)) (hrw : om.rw = true)
    (h : AM P N ok m l late σ (Q .normal) e H) : AC P N ok (.region i l.toArray true) Q e H := fun perm w0 β a w h1 h2 h3 h4 => by
  have hd : Below w.heap.size w { w with drawn := w.drawn + 1 } := ⟨rfl, rfl, rfl, Nat.le_refl _, fun _ _ => rfl⟩
  refine wp_region_sched (B := fun b => ∃ d q, β[m]? = some (b, d, q)) late σ hm hB (fun c a d v w h => h.elim) (h _ perm w0 β a { w with drawn := w.drawn + 1 } _ h1 (h2.trans (Fr.below hd perm)) (h3.below hd) h4 ?_ ?_ (fun _ _ hst => hst))
  · rintro j oj b d q hj hob hb ⟨d', q', hb'⟩
    exact h3.sep m j om oj b d' q' b d q hom hob (Ne.symm hj) hrw hb' hb rfl
  · exact fun b d q hb => ⟨d, q, hb⟩
end
end Go.Proofs.Ythalogdopkoidaa.Ab
