/- Drawn regions in which some objects are turned that no early operation reads, with calls and appends. No statement of the seat's in it. -/
import Derived.Test.YthalogdopkoidaaA13
set_option linter.unusedVariables false
namespace Go.Proofs.Ythalogdopkoidaa.Ab
open Go Go.RowKit Go.Proofs.Ythalogdopkoidaa.Dr

/-- What is known of less objects is known of more. -/
theorem aload_mono {T : Tab} {H H' : AHeap} (hH : ∀ (i : Nat) (o : AObj), H[i]? = some (some o) → H'[i]? = some (some o)) {t : Nat} {x v : Value} (h : aload T H t x = some v) : aload T H' t x = some v := by
  unfold aload at h ⊢
  split at h
  · split at h
    · rename_i o ho
      rw [hH _ _ ho]
      exact h
    · cases h
  · cases h

theorem aconv_mono {T : Tab} {H H' : AHeap} (hH : ∀ (i : Nat) (o : AObj), H[i]? = some (some o) → H'[i]? = some (some o)) {s d : Nat} {x v : Value} (h : aconv T H s d x = some v) : aconv T H' s d x = some v := by
  unfold aconv at h ⊢
  split at h
  · exact h
  · split at h
    · rename_i si di hsi hdi
      try rw [hsi, hdi]
      try dsimp only
      split at h
      · rename_i e hs hd
        try rw [hs, hd]
        try dsimp only
        split at h
        · rename_i ei hei
          try rw [hei]
          try dsimp only
          split at h
          · rename_i he
            try rw [he]
            try dsimp only
            split at h
            · exact h
            · split at h
              · rename_i hn
                rw [if_pos hn]; exact h
              · rename_i hn
                rw [if_neg hn]
                split at h
                · rename_i o ho
                  rw [hH _ _ ho]
                  exact h
                · cases h
            · cases h
          · cases h
        · cases h
      · cases h
    · cases h
  · cases h

theorem qop_mono {T : Tab} {H H' : AHeap} (hH : ∀ (i : Nat) (o : AObj), H[i]? = some (some o) → H'[i]? = some (some o)) {ev : Operand → Value} {op : Op} {v : Value} (h : qop T H ev op = some v) : qop T H' ev op = some v := by
  cases op with
  | unOp op t x => cases op <;> simp only [qop] at h ⊢ <;> first | exact h | cases h
  | slice t x lo hi mx => cases mx <;> simp only [qop] at h ⊢ <;> first | exact h | cases h
  | load t x => exact aload_mono hH h
  | convert a b x => exact aconv_mono hH h
  | _ => exact h

def pad (H : AHeap) (n : Nat) : AHeap := H ++ List.replicate (n - H.length) none

theorem pad_live {H : AHeap} {n i : Nat} {o : AObj} : (pad H n)[i]? = some (some o) ↔ H[i]? = some (some o) := by
  unfold pad
  by_cases hi : i < H.length
  · rw [List.getElem?_append_left hi]
  · rw [List.getElem?_append_right (by omega), List.getElem?_eq_none (by omega : H.length ≤ i)]
    constructor
    · intro h
      have := List.mem_of_getElem? h
      have := List.eq_of_mem_replicate this
      cases this
    · intro h; cases h

/-- Objects that no operation has turned. -/
structure Still (P : Program) (B : Nat → Prop) (Hs : AHeap) (β : List Loc) (w : World) : Prop where
  len : Hs.length ≤ β.length
  obj : ∀ (i : Nat) (o : AObj) (b d r : Nat), Hs[i]? = some (some o) → β[i]? = some (b, d, r) → Bears P β w o b d r ∧ ¬ B b
  sep : ∀ (i j : Nat) (oi oj : AObj) (bi di ri bj dj rj : Nat), Hs[i]? = some (some oi) → Hs[j]? = some (some oj) → i ≠ j → oi.rw = true → β[i]? = some (bi, di, ri) → β[j]? = some (bj, dj, rj) → bi ≠ bj

theorem Still.inv {P : Program} {B : Nat → Prop} {Hs : AHeap} {β : List Loc} {w : World} (h : Still P B Hs β w) : Inv P (fun _ => False) (fun _ => False) (pad Hs β.length) β w :=
  ⟨by have := h.len; simp [pad]; omega, fun i o b d r h1 h2 => (h.obj i o b d r (pad_live.1 h1) h2).1, fun i j oi oj bi di ri bj dj rj h1 h2 => h.sep i j oi oj bi di ri bj dj rj (pad_live.1 h1) (pad_live.1 h2), fun i o b d r hf => hf.elim⟩

theorem Still.nil {P : Program} {B : Nat → Prop} {β : List Loc} {w : World} : Still P B [] β w := ⟨by simp, fun i o b d r h => by simp at h, fun i j oi oj bi di ri bj dj rj h => by simp at h⟩

theorem Still.go {P : Program} {B : Nat → Prop} {Hs : AHeap} {β β' : List Loc} {w w' : World} (h : Still P B Hs β w) (hβ : β <+: β') (hF : Fr B w w') : Still P B Hs β' w' := by
  have back : ∀ (i : Nat) (o : AObj) (x : Loc), Hs[i]? = some (some o) → β'[i]? = some x → β[i]? = some x := fun i o x hi hx => by
    obtain ⟨t, rfl⟩ := hβ
    have := (List.getElem?_eq_some_iff.1 hi).1
    rwa [List.getElem?_append_left (by have := h.len; omega)] at hx
  refine ⟨Nat.le_trans h.len hβ.length_le, fun i o b d r h1 h2 => ?_, fun i j oi oj bi di ri bj dj rj h1 h2 hne hrw h3 h4 => h.sep i j oi oj bi di ri bj dj rj h1 h2 hne hrw (back i oi _ h1 h3) (back j oj _ h2 h4)⟩
  obtain ⟨g1, g2⟩ := h.obj i o b d r h1 (back i o _ h1 h2)
  exact ⟨(g1.ext hβ).same hF.size (hF.block b g1.lt g2), g2⟩

section
variable {P : Program} {T : Tab} {N : Nat} {ok : Nat → Prop} {e : Env} {H : AHeap} {Msk : Nat → Prop} {ops : List Oper} {late : List Nat} {σ : List (Nat × Bool)} {K : Env → AHeap → Prop} {Hs : AHeap}

/-- In an order; what is read early is read out of Hs; Msk: what may be turned meanwhile. -/
def AG (P : Program) (N : Nat) (ok : Nat → Prop) (Msk : Nat → Prop) (ops : List Oper) (late : List Nat) (σ : List (Nat × Bool)) (K : Env → AHeap → Prop) (Hs : AHeap) (e : Env) (H : AHeap) : Prop :=
  ∀ (B : Nat → Prop) (perm : Nat → Prop) (w0 : World) (β : List Loc) (a : Act) (w : World) (Qc : Exit → Act → World → Prop), (∀ b, w0.heap.size ≤ b → perm b) → Fr perm w0 w → Inv P ok perm H β w → ER β e a N →
    Still P B Hs β w → (∀ i, Msk i → i < β.length) → (∀ i b d q, Msk i → β[i]? = some (b, d, q) → B b) →
    (∀ a' w', St P N ok perm w0 β H K a' w' → Qc .normal a' w') → runS P B ops.toArray Qc late σ a w

theorem AG_nil (h : K e H) : AG P N ok Msk ops late [] K Hs e H := fun B perm w0 β a w Qc h1 h2 h3 h4 _ _ _ h5 => h5 _ _ (St.here h h3 h4 h2)

theorem AG_q1 (hT : TOK P T) {i : Nat} {o : Oper} {e' : Env} (ho : ops[i]? = some o) (h : q1 T N ops Hs o e = some e') (hk : AG P N ok Msk ops late σ K Hs e' H) : AG P N ok Msk ops late ((i, true) :: σ) K Hs e H :=
  fun B perm w0 β a w Qc h1 h2 h3 h4 hS hM b2 h5 => by
    unfold q1 at h
    split at h
    · rename_i hw
      cases hq : qop T Hs (aev e) o.op with
      | none => rw [hq] at h; cases h
      | some v =>
        rw [hq] at h
        obtain rfl := Option.some.inj h
        obtain ⟨v', hv, hrun⟩ := qop_sound hT hS.inv (fun x => h4.eval x) (qop_mono (fun i o ho => pad_live.2 ho) hq)
        refine ⟨o, v', by simpa using ho, .inl ⟨awant_sound hw h4, fun w' hb => hrun w' fun j oj b d r g1 g2 => ?_⟩, hk B perm w0 β _ w Qc h1 h2 h3 (h4.put hv _) hS hM b2 h5⟩
        obtain ⟨k1, k2⟩ := hS.obj j oj b d r (pad_live.1 g1) g2
        exact hb.block b k1.lt k2
    · rename_i hw
      obtain rfl := Option.some.inj h
      exact ⟨o, undef, by simpa using ho, .inr ⟨awant_sound hw h4, rfl⟩, hk B perm w0 β _ w Qc h1 h2 h3 (h4.put .void _) hS hM b2 h5⟩
    · cases h

theorem AG_sel (hT : TOK P T) : ∀ (is : List Nat) (e : Env) {e' : Env}, qsel T N ops Hs is e = some e' → AG P N ok Msk ops late σ K Hs e' H → AG P N ok Msk ops late (is.map (fun i => (i, true)) ++ σ) K Hs e H
  | [], e, e', h, hk => by
    obtain rfl := Option.some.inj h
    exact hk
  | i :: is, e, e', h, hk => by
    simp only [qsel, qat] at h
    cases ho : ops[i]? with
    | none => rw [ho] at h; cases h
    | some o =>
      rw [ho] at h
      dsimp only at h
      cases h1 : q1 T N ops Hs o e with
      | none => rw [h1] at h; cases h
      | some e1 =>
        rw [h1] at h
        exact AG_q1 hT ho h1 (AG_sel hT is e1 h hk)

/-- One that reads, at its turn. -/
theorem AG_only (hT : TOK P T) {i : Nat} {o : Oper} {e' : Env} (ho : ops[i]? = some o) (h : q1 T N ops H o e = some e') (hk : AG P N ok Msk ops late σ K Hs e' H) : AG P N ok Msk ops late ((i, false) :: σ) K Hs e H :=
  fun B perm w0 β a w Qc h1 h2 h3 h4 hS hM b2 h5 => by
    have ho' : ops.toArray[i]? = some o := by simpa using ho
    simp only [runS, wpOp, ho']
    unfold q1 at h
    split at h
    · rename_i hw
      cases hq : qop T H (aev e) o.op with
      | none => rw [hq] at h; cases h
      | some v =>
        rw [hq] at h
        obtain rfl := Option.some.inj h
        obtain ⟨v', hv, hrun⟩ := qop_sound hT h3 (fun x => h4.eval x) hq
        rw [if_pos (awant_sound hw h4)]
        refine .inl ?_
        unfold Oper.wp
        rw [hrun w (Keeps.refl _ _ _), Oper.upon_value]
        exact ⟨fun _ => Fr.refl _ _, hk B perm w0 β _ w Qc h1 h2 h3 (h4.put hv _) hS hM b2 h5⟩
    · rename_i hw
      obtain rfl := Option.some.inj h
      rw [if_neg (by rw [awant_sound hw h4]; simp)]
      exact ⟨fun _ => Fr.refl _ _, hk B perm w0 β _ w Qc h1 h2 h3 (h4.put .void _) hS hM b2 h5⟩
    · cases h

theorem AG_step {i : Nat} {o : Oper} {Mi : Nat → Prop} (ho : ops[i]? = some o) (hw : awant ops e o = some true) (Hs' : AHeap) (hs : Hs' = Hs ∧ (∀ j, j < H.length → Mi j → Msk j) ∨ Hs' = [] ∧ late.contains i = true)
    (h : ∀ (perm : Nat → Prop) (w0 : World) (β : List Loc) (a : Act) (w : World) (Qc : Exit → Act → World → Prop), (∀ b, w0.heap.size ≤ b → perm b) → Fr perm w0 w → Inv P ok perm H β w → ER β e a N →
      o.wp P a w (fun a' w' => Fr (Blocks Mi H β) w w' ∧ St P N ok perm w0 β H (fun e' H' => AG P N ok Msk ops late σ K Hs' e' H') a' w') Qc) : AG P N ok Msk ops late ((i, false) :: σ) K Hs e H :=
  fun B perm w0 β a w Qc h1 h2 h3 h4 hS hM b2 h5 => by
    have ho' : ops.toArray[i]? = some o := by simpa using ho
    simp only [runS, wpOp, ho']
    rw [if_pos (awant_sound hw h4)]
    refine .inl (Oper.wp_mono (fun a' w' hp => ?_) (h perm w0 β a w Qc h1 h2 h3 h4))
    obtain ⟨hF, e', H', β', hK, hβ, hI, hE, hFr, hX⟩ := hp
    have hM' : ∀ j, Msk j → j < β'.length := fun j hj => Nat.lt_of_lt_of_le (hM j hj) hβ.length_le
    have b2' : ∀ j b d q, Msk j → β'[j]? = some (b, d, q) → B b := fun j b d q hj hb => by
      obtain ⟨t, rfl⟩ := hβ
      rw [List.getElem?_append_left (hM j hj)] at hb
      exact b2 j b d q hj hb
    rcases hs with ⟨rfl, hsub⟩ | ⟨rfl, hl⟩
    · have hFB : Fr B w w' := hF.mono fun b _ ⟨j, ob, d, q, hj, hob, _, hb⟩ => b2 j b d q (hsub j (List.getElem?_eq_some_iff.1 hob).1 hj) hb
      exact ⟨fun _ => hFB, hK B perm w0 β' a' w' Qc h1 hFr hI hE (hS.go hβ hFB) hM' b2' (fun a'' w'' hst => h5 a'' w'' (hst.from hβ hX))⟩
    · exact ⟨fun hn => (by rw [hl] at hn; cases hn), hK B perm w0 β' a' w' Qc h1 hFr hI hE Still.nil hM' b2' (fun a'' w'' hst => h5 a'' w'' (hst.from hβ hX))⟩

theorem AG_e (hT : TOK P T) {i : Nat} {o : Oper} {r : Eff} (ho : ops[i]? = some o) (hw : awant ops e o = some true) (h : eop T H (aev e) o.op = some r) (hok : ∀ j, r.2.2 = some j → ok j)
    (Hs' : AHeap) (hs : Hs' = Hs ∧ (∀ j, j < H.length → r.2.2 = some j → Msk j) ∨ Hs' = [] ∧ late.contains i = true) (hk : AG P N ok Msk ops late σ K Hs' (eput N e o.dst r.1) r.2.1) : AG P N ok Msk ops late ((i, false) :: σ) K Hs e H :=
  AG_step (Mi := fun j => r.2.2 = some j) ho hw Hs' hs fun perm w0 β a w Qc h1 h2 h3 h4 => by
    obtain ⟨nx, w', β', v', hrun, hnx, hv, hβ, hI, hF, hX⟩ := eop_sound hT h3 (h1 _ h2.size) (fun x => h4.eval x) h hok
    have hFB : Fr (Blocks (fun j => r.2.2 = some j) H β) w w' := hF.mono fun b _ ⟨j, d, q, hj, hb⟩ => by
      obtain ⟨ob, hob, hrw⟩ := eop_turned h hj
      exact ⟨j, ob, d, q, hj, hob, hrw, hb⟩
    have hF' : Fr perm w w' := hFB.mono fun b _ ⟨j, ob, d, q, hj, hob, hrw, hb⟩ => h3.perm j ob b d q (hok j hj) hob hrw hb
    have hst : ∀ u, R β' r.1 u → St P N ok perm w0 β H (fun e' H' => AG P N ok Msk ops late σ K Hs' e' H') (a.put o.dst u) w' := fun u hu =>
      ⟨_, _, β', hk, hβ, hI, (h4.ext hβ).put hu _, h2.trans hF', hX.mono fun j _ hj => hok j hj⟩
    unfold Oper.wp
    rw [hrun]
    rcases hnx with rfl | ⟨rfl, rfl⟩
    · rw [Oper.upon_value]; exact ⟨hFB, hst _ hv⟩
    · rw [Oper.upon_skip]; exact ⟨hFB, hst _ hv⟩

theorem AC_drawG {i : Nat} {l : List Oper} {Q : Exit → Env → AHeap → Prop} (Msk : Nat → Prop) (Hs : AHeap) (late : List Nat) (σ : List (Nat × Bool)) (hm : P.follows .mixedOrders = true) (hB : schedOK .any l late σ = true)
    (hMsk : ∀ i, Msk i → ∃ o, H[i]? = some (some o) ∧ o.rw = true) (hHs : ∀ i o, Hs[i]? = some (some o) → H[i]? = some (some o) ∧ ¬ Msk i) (hlen : Hs.length ≤ H.length)
    (h : AG P N ok Msk l late σ (Q .normal) Hs e H) : AC P N ok (.region i l.toArray true) Q e H := fun perm w0 β a w h1 h2 h3 h4 => by
  have hd : Below w.heap.size w { w with drawn := w.drawn + 1 } := ⟨rfl, rfl, rfl, Nat.le_refl _, fun _ _ => rfl⟩
  refine wp_region_sched (B := fun b => ∃ i d q, Msk i ∧ β[i]? = some (b, d, q)) late σ hm hB (fun c a d v w h => h.elim)
    (h _ perm w0 β a { w with drawn := w.drawn + 1 } _ h1 (h2.trans (Fr.below hd perm)) (h3.below hd) h4 ⟨by rw [h3.len]; exact hlen, fun j o b d r g1 g2 => ⟨(h3.below hd).obj j o b d r (hHs j o g1).1 g2, ?_⟩, fun i j oi oj bi di ri bj dj rj g1 g2 => h3.sep i j oi oj bi di ri bj dj rj (hHs i oi g1).1 (hHs j oj g2).1⟩ (fun j hj => ?_) (fun j b d q hj hb => ⟨j, d, q, hj, hb⟩) (fun _ _ hst => hst))
  · rintro ⟨k, d', q', hk, hb'⟩
    obtain ⟨ok', hok', hrw⟩ := hMsk k hk
    have hne : k ≠ j := fun e => (hHs j o g1).2 (e ▸ hk)
    exact h3.sep k j ok' o b d' q' b d r hok' (hHs j o g1).1 hne hrw hb' g2 rfl
  · obtain ⟨o, ho, _⟩ := hMsk j hj
    rw [h3.len]
    exact (List.getElem?_eq_some_iff.1 ho).1
end
end Go.Proofs.Ythalogdopkoidaa.Ab
