/- Contracts and plain laws for the statements on what a trie has. No statement of the seat's in it. Condition: none. -/
import Derived.Test.YthalogdopkoidaaZD
import Derived.Test.YthalogdopkoidaaZH
set_option linter.unusedVariables false
set_option linter.unusedSimpArgs false
namespace Go.Proofs.Ythalogdopkoidaa.Ab
open Go Go.RowKit
theorem nib_unn : ∀ n : List UInt8, n.length % 2 = 0 → (∀ b ∈ n, b ≤ 15) → nib (unn n) = n
  | [], _, _ => rfl
  | [a], h, _ => by simp at h
  | a :: b :: n, h, hb => by
    have ih := nib_unn n (by simp at h; omega) (fun c hc => hb c (by simp [hc]))
    have ha := hb a (by simp)
    have hb' := hb b (by simp)
    have key : ∀ a : UInt8, a ≤ 15 → ∀ b : UInt8, b ≤ 15 → (a * 16 + b) / 16 = a ∧ (a * 16 + b) % 16 = b := by
      intro a ha b hb
      have h1 : a.toNat ≤ 15 := by simpa [UInt8.le_iff_toNat_le] using ha
      have h2 : b.toNat ≤ 15 := by simpa [UInt8.le_iff_toNat_le] using hb
      constructor
      · apply UInt8.toNat_inj.1
        simp [UInt8.toNat_div, UInt8.toNat_add, UInt8.toNat_mul]
        omega
      · apply UInt8.toNat_inj.1
        simp [UInt8.toNat_mod, UInt8.toNat_add, UInt8.toNat_mul]
        omega
    have k := key a ha b hb'
    show nib ((a * 16 + b) :: unn n) = _
    rw [nib_cons, ih, k.1, k.2]
theorem nib_keyOf {n k : List UInt8} (h : keyOf n = some k) : nib k = n := by
  unfold keyOf at h
  split at h
  · rename_i hc
    obtain rfl := Option.some.inj h
    exact nib_unn n hc.1 hc.2
  · cases h
/-- Where a node leads to with what is left; and what is left then. -/
def nx (t : List Nd) (i : Nat) (n : List UInt8) : Option (Nat × List UInt8) :=
  match t[i]? with
  | none => none
  | some x =>
    if x.kind = 2 then if x.path <+: n then some (x.kids[0].toNat, n.drop x.path.length) else none
    else if x.kind = 3 then match n with
      | [] => none
      | c :: m => if h : c.toNat < 16 then if x.kids[c.toNat] = 0 then none else some ((x.kids[c.toNat]).toNat, m) else none
    else none
def wy (t : List Nd) : Nat → Nat → List UInt8 → List Nat × List UInt8
  | 0, i, n => ([i], n)
  | f + 1, i, n => match nx t i n with
    | none => ([i], n)
    | some z => (i :: (wy t f z.1 z.2).1, (wy t f z.1 z.2).2)
/-- What is known of a trie's nodes. -/
structure Gd (t : List Nd) (q : List (List UInt8)) : Prop where
  len : q.length = t.length
  nok : ∀ n ∈ t, Nok n
  blk : Blk t q 0
  cnt : ∀ v : Nat, 0 < v → (Fk t).count (v : Int) = if v < t.length then 1 else 0
theorem Gd.of {l : List Pr} (h : May l) : Gd (build l) (paths l) := ⟨(Trie.of h).len, (Shp.of h).nok, (Trie.of h).blk, (Trie.of h).cnt⟩
theorem nzc_pos {v : Vector Int 16} {c : Nat} (hc : c < 16) (h : v[c] ≠ 0) : 0 < nzc v.toList := by
  unfold nzc
  rw [List.countP_pos_iff]
  exact ⟨v[c], by simp, by simpa using h⟩
theorem nzc_some {v : Vector Int 16} (h : 0 < nzc v.toList) : ∃ c, ∃ hc : c < 16, v[c] ≠ 0 := by
  unfold nzc at h
  rw [List.countP_pos_iff] at h
  obtain ⟨a, ha, hne⟩ := h
  obtain ⟨c, hc, rfl⟩ := List.getElem_of_mem ha
  simp at hc
  exact ⟨c, hc, by simpa using hne⟩
section
variable {t : List Nd} {q : List (List UInt8)} (G : Gd t q)
include G
theorem Gd.kid {i : Nat} (hi : i < t.length) {c : Nat} (hc : c < 16) (h : t[i].kids[c] ≠ 0) : ∃ j, i < j ∧ ∃ hj : j < t.length, t[i].kids[c] = (j : Int) ∧ (∃ h1 : i < q.length, ∃ h2 : j < q.length, q[j] = q[i] ++ t[i].path ++ if t[i].kind = 3 then [UInt8.ofNat c] else []) ∧ (t[i].kind = 2 → c = 0 ∧ t[j].kind = 3) := by
  have hq : i < q.length := by rw [G.len]; exact hi
  rcases G.blk i t[i] q[i] (List.getElem?_eq_getElem hi) (List.getElem?_eq_getElem hq) c hc with h0 | ⟨j, m, h1, h2, h3, h4, h5⟩
  · exact absurd h0 h
  · obtain ⟨hj, rfl⟩ := List.getElem?_eq_some_iff.1 h2
    obtain ⟨hj2, h4⟩ := List.getElem?_eq_some_iff.1 h4
    exact ⟨j, h1, hj, by rw [h3, Nat.zero_add], ⟨hq, hj2, h4⟩, h5⟩
theorem Gd.ext0 {i : Nat} (hi : i < t.length) (h : t[i].kind = 2) : t[i].kids[0] ≠ 0 := by
  rcases G.nok _ (List.getElem_mem hi) with ⟨h1, _⟩ | ⟨_, _, _, h1⟩ | ⟨h1, _⟩
  · omega
  · obtain ⟨c, hc, hne⟩ := nzc_some (v := t[i].kids) (by omega)
    obtain ⟨j, _, _, _, _, h2⟩ := G.kid hi hc hne
    obtain ⟨rfl, _⟩ := h2 h
    exact hne
  · omega
theorem Gd.leaf0 {i : Nat} (hi : i < t.length) (h : t[i].kind = 1) {c : Nat} (hc : c < 16) : t[i].kids[c] = 0 := by
  rcases G.nok _ (List.getElem_mem hi) with ⟨_, _, h1⟩ | ⟨h1, _⟩ | ⟨h1, _⟩
  · rcases Classical.em (t[i].kids[c] = 0) with h0 | h0
    · exact h0
    · have := nzc_pos hc h0; omega
  · omega
  · omega
theorem Gd.kinds {i : Nat} (hi : i < t.length) : t[i].kind = 1 ∨ (t[i].kind = 2 ∧ t[i].has = false) ∨ (t[i].kind = 3 ∧ t[i].path = []) := by
  rcases G.nok _ (List.getElem_mem hi) with ⟨h, _⟩ | ⟨h, h2, _⟩ | ⟨h, h2, _⟩
  · exact .inl h
  · exact .inr (.inl ⟨h, h2⟩)
  · exact .inr (.inr ⟨h, h2⟩)
theorem Gd.nx_lt {i j : Nat} {n m : List UInt8} (h : nx t i n = some (j, m)) : i < j ∧ j < t.length ∧ ∃ hi : i < t.length, (t[i].kind = 2 ∧ t[i].path <+: n ∧ m = n.drop t[i].path.length ∧ t[i].kids[0] = (j : Int)) ∨ (t[i].kind = 3 ∧ ∃ (c : UInt8) (hc : c.toNat < 16), n = c :: m ∧ t[i].kids[c.toNat] = (j : Int)) := by
  unfold nx at h
  split at h
  · cases h
  · rename_i x hx
    obtain ⟨hi, rfl⟩ := List.getElem?_eq_some_iff.1 hx
    split at h
    · rename_i hk
      split at h
      · rename_i hp
        obtain ⟨rfl, rfl⟩ := Prod.mk.inj (Option.some.inj h)
        obtain ⟨j, h1, h2, h3, _⟩ := G.kid hi (c := 0) (by decide) (G.ext0 hi hk)
        rw [h3, Int.toNat_natCast]
        exact ⟨h1, h2, hi, .inl ⟨hk, hp, rfl, h3⟩⟩
      · cases h
    · split at h
      · rename_i hk
        split at h
        · cases h
        · rename_i c m'
          split at h
          · rename_i hc
            split at h
            · cases h
            · rename_i hne
              obtain ⟨rfl, rfl⟩ := Prod.mk.inj (Option.some.inj h)
              obtain ⟨j, h1, h2, h3, _⟩ := G.kid hi hc hne
              rw [h3, Int.toNat_natCast]
              exact ⟨h1, h2, hi, .inr ⟨hk, c, hc, rfl, h3⟩⟩
          · cases h
      · cases h
theorem Gd.wy_more : ∀ (f i : Nat) (n : List UInt8), t.length ≤ f + i → wy t (f + 1) i n = wy t f i n
  | 0, i, n, h => by
    have : nx t i n = none := by
      unfold nx
      rw [List.getElem?_eq_none (by omega)]
    simp only [wy, this]
  | f + 1, i, n, h => by
    rw [wy, wy]
    cases hz : nx t i n with
    | none => rfl
    | some z =>
      obtain ⟨j, m⟩ := z
      have := (G.nx_lt hz).1
      dsimp only
      rw [Gd.wy_more f j m (by omega)]
theorem Gd.wy_step (i : Nat) (n : List UInt8) : wy t t.length i n = match nx t i n with
    | none => ([i], n)
    | some z => (i :: (wy t t.length z.1 z.2).1, (wy t t.length z.1 z.2).2) := by
  rw [← G.wy_more t.length i n (by omega), wy]
/-- From a node down to another one. -/
inductive Way (t : List Nd) : Nat → Nat → Prop
  | refl (i : Nat) : Way t i i
  | step {i m j c : Nat} (hi : i < t.length) (hc : c < 16) (h0 : 0 < m) (hk : t[i].kids[c] = (m : Int)) (h : Way t m j) : Way t i j
omit G in
theorem Way.tail {i m j c : Nat} (h : Way t i m) (hm : m < t.length) (hc : c < 16) (h0 : 0 < j) (hk : t[m].kids[c] = (j : Int)) : Way t i j := by
  induction h with
  | refl i => exact .step hm hc h0 hk (.refl _)
  | step hi hc' h0' hk' _ ih => exact .step hi hc' h0' hk' (ih hm hk)
theorem Gd.root : ∀ (j : Nat), j < t.length → Way t 0 j := by
  intro j
  induction j using Nat.strongRecOn with
  | ind j ih =>
    intro hj
    by_cases h0 : j = 0
    · subst h0; exact .refl _
    · have hc := G.cnt j (by omega)
      rw [if_pos hj] at hc
      have hm : (j : Int) ∈ Fk t := List.count_pos_iff.1 (by omega)
      obtain ⟨a, ha, hae⟩ := List.getElem_of_mem hm
      rw [Fk_length] at ha
      have hi : a / 16 < t.length := by omega
      have h16 : a % 16 < 16 := Nat.mod_lt _ (by decide)
      have hg := Fk_get t (a / 16) (a % 16) hi h16
      rw [Nat.div_add_mod' a 16, List.getElem?_eq_getElem (by rw [Fk_length]; exact ha), hae] at hg
      have hk := (Option.some.inj hg).symm
      obtain ⟨j', h1, h2, h3, _⟩ := G.kid hi h16 (by rw [hk]; omega)
      have e : j = j' := by rw [hk] at h3; omega
      subst e
      exact (ih _ h1 hi).tail hi h16 (by omega) hk
theorem Gd.way_pre {i j : Nat} (h : Way t i j) : ∀ (h1 : i < q.length) (h2 : j < q.length), q[i] <+: q[j] := by
  induction h with
  | refl i => intro _ _; exact List.prefix_rfl
  | step hi hc h0 hk _ ih =>
    intro h1 h2
    obtain ⟨m', _, hm', h3, ⟨_, h5, h6⟩, _⟩ := G.kid hi hc (by rw [hk]; omega)
    rw [hk] at h3
    have e := Int.ofNat.inj h3
    subst e
    have := ih h5 h2
    rw [h6, List.append_assoc] at this
    exact (List.prefix_append _ _).trans this
/-- The walk comes to the node that has what is looked for. -/
theorem Gd.wy_to {i j : Nat} (h : Way t i j) : ∀ (hj : j < t.length) (h1 : i < q.length) (h2 : j < q.length) (n : List UInt8), t[j].has = true → q[i] ++ n = q[j] ++ t[j].path → (wy t t.length i n).1.getLast? = some j ∧ (wy t t.length i n).2 = t[j].path := by
  induction h with
  | refl i =>
    intro hj h1 h2 n hh he
    have he := List.append_cancel_left he
    subst he
    have hz : nx t i t[i].path = none := by
      unfold nx
      rw [List.getElem?_eq_getElem hj]
      dsimp only
      rcases G.kinds hj with h | ⟨h, h'⟩ | ⟨h, h'⟩
      · rw [h]; simp
      · rw [hh] at h'; cases h'
      · rw [h, h']; simp
    rw [G.wy_step, hz]
    exact ⟨rfl, rfl⟩
  | step hi hc h0 hk hw ih =>
    rename_i i m j c
    intro hj h1 h2 n hh he
    obtain ⟨m', _, hm', h3, ⟨_, h5, h6⟩, h7⟩ := G.kid hi hc (by rw [hk]; omega)
    rw [hk] at h3
    have e := Int.ofNat.inj h3
    subst e
    have hp := G.way_pre hw h5 h2
    have hpre : t[i].path ++ (if t[i].kind = 3 then [UInt8.ofNat c] else []) <+: n := by
      have h8 : q[i] ++ (t[i].path ++ if t[i].kind = 3 then [UInt8.ofNat c] else []) <+: q[i] ++ n := by
        rw [← List.append_assoc, ← h6, he]
        exact hp.trans (List.prefix_append _ _)
      exact (List.prefix_append_right_inj _).1 h8
    have hne : t[i].kids[c] ≠ 0 := by rw [hk]; omega
    have hstep : ∃ n', nx t i n = some (m, n') ∧ q[m] ++ n' = q[i] ++ n := by
      unfold nx
      rw [List.getElem?_eq_getElem hi]
      dsimp only
      rcases G.kinds hi with h | ⟨h, h'⟩ | ⟨h, h'⟩
      · exact absurd (G.leaf0 hi h hc) hne
      · rw [h] at hpre h6
        simp only [show ¬ (2 : Int) = 3 by decide, if_false, List.append_nil] at hpre h6
        obtain ⟨rfl, _⟩ := h7 h
        rw [h, if_pos rfl, if_pos hpre, hk, Int.toNat_natCast]
        refine ⟨_, rfl, ?_⟩
        obtain ⟨r, rfl⟩ := hpre
        rw [h6, List.drop_left, List.append_assoc]
      · rw [h] at hpre h6
        rw [h'] at hpre h6
        simp only [if_true, List.nil_append, List.append_nil] at hpre h6
        obtain ⟨r, rfl⟩ := hpre
        rw [h, if_neg (by decide), if_pos rfl]
        have e : (UInt8.ofNat c).toNat = c := by simp; omega
        simp only [List.singleton_append, e]
        rw [dif_pos hc, if_neg hne, hk, Int.toNat_natCast]
        exact ⟨_, rfl, by rw [h6]; simp⟩
    obtain ⟨n', hz, hq⟩ := hstep
    obtain ⟨i1, i2⟩ := ih hj h5 h2 n' hh (by rw [hq]; exact he)
    rw [G.wy_step, hz]
    dsimp only
    refine ⟨?_, i2⟩
    rw [List.getLast?_cons, i1]; rfl
/-- What the walk has left behind is the node's path. -/
theorem Gd.wy_back : ∀ (f i : Nat), t.length ≤ f + i → ∀ (hi : i < t.length) (h1 : i < q.length) (n : List UInt8), ∃ j, ∃ hj : j < t.length, ∃ h2 : j < q.length, (wy t t.length i n).1.getLast? = some j ∧ q[j] ++ (wy t t.length i n).2 = q[i] ++ n
  | 0, i, h, hi, h1, n => by omega
  | f + 1, i, h, hi, h1, n => by
    rw [G.wy_step]
    cases hz : nx t i n with
    | none => exact ⟨i, hi, h1, rfl, rfl⟩
    | some z =>
      obtain ⟨j, m⟩ := z
      obtain ⟨g1, g2, _, g3⟩ := G.nx_lt hz
      have h2 : j < q.length := by rw [G.len]; exact g2
      obtain ⟨k, hk, hk2, e1, e2⟩ := Gd.wy_back f j (by omega) g2 h2 m
      dsimp only
      refine ⟨k, hk, hk2, by rw [List.getLast?_cons, e1]; rfl, ?_⟩
      rw [e2]
      rcases g3 with ⟨a1, a2, rfl, a4⟩ | ⟨a1, c, hc, rfl, a4⟩
      · obtain ⟨j', _, _, b3, ⟨_, b5, b6⟩, _⟩ := G.kid hi (c := 0) (by decide) (by rw [a4]; omega)
        rw [a4] at b3
        have e := Int.ofNat.inj b3
        subst e
        obtain ⟨r, rfl⟩ := a2
        rw [b6, a1, if_neg (by decide)]
        simp
      · obtain ⟨j', _, _, b3, ⟨_, b5, b6⟩, _⟩ := G.kid hi hc (by rw [a4]; omega)
        rw [a4] at b3
        have e := Int.ofNat.inj b3
        subst e
        have hp : t[i].path = [] := by
          rcases G.kinds hi with h | ⟨h, _⟩ | ⟨_, h⟩
          · omega
          · omega
          · exact h
        rw [b6, a1, if_pos rfl, hp]
        simp
theorem Gd.wy_len : ∀ (f i : Nat), t.length ≤ f + i → ∀ (hi : i < t.length) (n : List UInt8), (wy t t.length i n).1.length ≤ 2 * n.length + if t[i].kind = 2 then 2 else 1
  | 0, i, h, hi, n => by omega
  | f + 1, i, h, hi, n => by
    rw [G.wy_step]
    cases hz : nx t i n with
    | none => simp; split <;> omega
    | some z =>
      obtain ⟨j, m⟩ := z
      obtain ⟨g1, g2, _, g3⟩ := G.nx_lt hz
      have ih := Gd.wy_len f j (by omega) g2 m
      dsimp only
      rw [List.length_cons]
      rcases g3 with ⟨a1, a2, rfl, a4⟩ | ⟨a1, c, hc, rfl, a4⟩
      · obtain ⟨j', _, hj', b3, _, b7⟩ := G.kid hi (c := 0) (by decide) (by rw [a4]; omega)
        rw [a4] at b3
        have e := Int.ofNat.inj b3
        subst e
        rw [(b7 a1).2, if_neg (by decide)] at ih
        rw [if_pos a1]
        have : (n.drop t[i].path.length).length ≤ n.length := by rw [List.length_drop]; omega
        omega
      · rw [if_neg (by omega)]
        rw [List.length_cons]
        have : (if t[j].kind = 2 then 2 else 1) ≤ 2 := by split <;> omega
        omega
end
end Go.Proofs.Ythalogdopkoidaa.Ab
set_option linter.unusedVariables false
set_option linter.unusedSimpArgs false
namespace Go.Proofs.Ythalogdopkoidaa.Ab
open Go Go.RowKit Go.Proofs.Ythalogdopkoidaa.Dr
/-- May a key be? -/
def kb (k : List UInt8) : Bool := decide (1 ≤ k.length) && decide (k.length ≤ 8)
theorem kb_len {k : List UInt8} (h : kb k = true) : 1 ≤ k.length ∧ k.length ≤ 8 := by
  simpa [kb] using h
theorem c48 {H : AHeap} {k : List UInt8} : ACalls Try.prog 48 [S k] H (fun _ => False) fun v H' => v = .bool (kb k) ∧ H' = H := by
  refine ACalls_by 11 TT_ok Try.func48 rfl rfl rfl (by simp) ?_
  refine AC_seqQ TT_ok (by simp only [go_sem] <;> rfl) ?_
  by_cases h : 1 ≤ k.length
  · have d : decide ((1 : Int) ≤ (k.length : Int)) = true := decide_eq_true (by omega)
    refine AC_seqQ TT_ok (by simp only [go_sem, d] <;> rfl) ?_
    refine AC_ret ⟨.inl rfl, _, rfl, ?_, rfl⟩
    simp only [go_sem, kb, decide_eq_true h, Bool.true_and]
    congr 1
    exact decide_eq_decide.2 (by omega)
  · have d : decide ((1 : Int) ≤ (k.length : Int)) = false := decide_eq_false (by omega)
    refine AC_seqQ TT_ok (by simp only [go_sem, d] <;> rfl) ?_
    refine AC_ret ⟨.inl rfl, _, rfl, ?_, rfl⟩
    simp only [go_sem, kb, decide_eq_false h, Bool.false_and]
theorem take_prefix_iff {a b : List UInt8} (h : b.length ≤ a.length) : a.take b.length = b ↔ b <+: a := by
  constructor
  · intro e; rw [← e]; exact List.take_prefix _ _
  · rintro ⟨r, rfl⟩; rw [List.take_left]
set_option maxHeartbeats 1000000 in
theorem c98 {H : AHeap} {a b : List UInt8} : ACalls Try.prog 98 [S a, S b] H (fun _ => False) fun v H' => v = .bool (decide (b <+: a)) ∧ H' = H := by
  refine ACalls_by 18 TT_ok Try.func98 rfl rfl rfl (by simp) ?_
  refine AC_seqQ TT_ok (by simp only [go_sem] <;> rfl) ?_
  by_cases h : b.length ≤ a.length
  · have d : decide ((b.length : Int) ≤ (a.length : Int)) = true := decide_eq_true (by omega)
    have s1 := aslice_S01 (l := a) (b := b.length) (k := .i64) h
    refine AC_seqQ TT_ok (by simp only [go_sem, d, s1] <;> rfl) ?_
    refine AC_ret ⟨.inl rfl, _, rfl, ?_, rfl⟩
    simp only [go_sem]
    congr 1
    exact decide_eq_decide.2 (take_prefix_iff h)
  · have d : decide ((b.length : Int) ≤ (a.length : Int)) = false := decide_eq_false (by omega)
    refine AC_seqQ TT_ok (by simp only [go_sem, d] <;> rfl) ?_
    refine AC_ret ⟨.inl rfl, _, rfl, ?_, rfl⟩
    simp only [go_sem]
    rw [decide_eq_false (fun hp => h hp.length_le)]
/-- A text with another one cut off, and whether it began with it. -/
def cutp (a b : List UInt8) : Value := .tuple #[S (if b <+: a then a.drop b.length else a), .bool (decide (b <+: a))]
theorem c94 {H : AHeap} {a b : List UInt8} : ACalls Try.prog 94 [S a, S b] H (fun _ => False) fun v H' => v = cutp a b ∧ H' = H := by
  refine ACalls_by 15 TT_ok Try.func94 rfl rfl rfl (by simp) ?_
  refine AC_seqQ TT_ok (by simp only [go_sem] <;> rfl) ?_
  refine AC_seq ?_
  refine AC_seq ?_
  refine AC_regL ?_
  refine AQ_take TT_ok 2 rfl (by simp only [go_sem] <;> rfl) ?_
  refine AQ_c rfl (by simp only [go_sem] <;> rfl) fok98 (by simp only [List.map_cons, List.map_nil, List.append_nil, go_sem] <;> rfl) (c98 (a := a) (b := b)) (fun _ _ h => h.elim) (.inl rfl) fun r H1 hX1 ⟨hr, hH⟩ => ?_
  subst hr hH
  refine AQ_all TT_ok rfl (by simp only [go_sem] <;> rfl) ?_
  by_cases h : b <+: a
  · have d : decide (b <+: a) = true := decide_eq_true h
    refine AC_f (by simp only [go_sem] <;> rfl) (by rw [d]; rfl) ?_
    refine AC_skip ?_
    have s1 := aslice_S10 (l := a) (a := b.length) (k := .i64) h.length_le
    refine AC_seqQ TT_ok (by simp only [go_sem, s1] <;> rfl) ?_
    refine AC_ret ⟨.inl rfl, _, rfl, ?_, rfl⟩
    simp only [go_sem, cutp, if_pos h, d]
  · have d : decide (b <+: a) = false := decide_eq_false h
    refine AC_t (by simp only [go_sem] <;> rfl) (by rw [d]; rfl) ?_
    refine AC_seqQ TT_ok (by simp only [go_sem] <;> rfl) ?_
    refine AC_ret ⟨.inl rfl, _, rfl, ?_, rfl⟩
    simp only [go_sem, cutp, if_neg h, d]
theorem c89 {H : AHeap} {a b : List UInt8} : ACalls Try.prog 89 [S a, S b] H (fun _ => False) fun v H' => v = cutp a b ∧ H' = H := by
  refine ACalls_by 11 TT_ok Try.func89 rfl rfl rfl (by simp) ?_
  refine AC_seqQ TT_ok (by simp only [go_sem] <;> rfl) ?_
  refine AC_seq ?_
  refine AC_regL ?_
  refine AQ_take TT_ok 2 rfl (by simp only [go_sem] <;> rfl) ?_
  refine AQ_c rfl (by simp only [go_sem] <;> rfl) fok94 (by simp only [List.map_cons, List.map_nil, List.append_nil, go_sem] <;> rfl) (c94 (a := a) (b := b)) (fun _ _ h => h.elim) (.inl rfl) fun r H1 hX1 ⟨hr, hH⟩ => ?_
  subst hr hH
  refine AQ_all TT_ok rfl (by simp only [go_sem, cutp] <;> rfl) ?_
  exact AC_ret ⟨.inl rfl, _, rfl, by simp only [go_sem, cutp], rfl⟩
def iz (l : List Nat) : List Int := l.map (Nat.cast : Nat → Int)
theorem iz_app (a b : List Nat) : iz (a ++ b) = iz a ++ iz b := List.map_append
theorem iz_len (a : List Nat) : (iz a).length = a.length := List.length_map ..
theorem f119 (i f : Nat) (h : f < 3) : afield TT 119 (.pointer (some ⟨i, 0, none⟩)) f = some (.pointer (some ⟨i, f, none⟩)) := by
  rcases f with _ | _ | _ | f <;> first | rfl | omega
theorem InS.last {H : AHeap} {u : Value} {pre : List Nat} {i : Nat} (h : InS H u (iz (pre ++ [i]))) : aindex TT 46 u (.int .i64 (pre.length : Int)) = some (ep u (pre.length * 1 + 0)) ∧ aload TT H 3 (ep u (pre.length * 1 + 0)) = some (.int .i64 i) ∧ Ab.alen TT 46 u = some (.int .i64 ((pre.length + 1 : Nat) : Int)) := by
  have hl : (iz (pre ++ [i])).length = pre.length + 1 := by rw [iz_len]; simp
  refine ⟨h.index (by omega), ?_, by rw [← hl]; exact h.alen⟩
  have := h.load (i := pre.length) (by omega)
  rw [this]
  simp [iz]
def nx1 (x : Nd) (n : List UInt8) : Option (Nat × List UInt8) :=
  if x.kind = 2 then if x.path <+: n then some (x.kids[0].toNat, n.drop x.path.length) else none
  else if x.kind = 3 then match n with
    | [] => none
    | c :: m => if h : c.toNat < 16 then if x.kids[c.toNat] = 0 then none else some ((x.kids[c.toNat]).toNat, m) else none
  else none
theorem nx_eq {t : List Nd} {i : Nat} (hi : i < t.length) (n : List UInt8) : nx t i n = nx1 t[i] n := by
  unfold nx nx1
  rw [List.getElem?_eq_getElem hi]
  all_goals rfl
set_option maxHeartbeats 8000000 in
theorem c83 {H : AHeap} {wi : Nat} {vt u : Value} {t : List Nd} {q : List (List UInt8)} {pre : List Nat} {i : Nat} {n : List UInt8} (G : Gd t q) (hO : Ob H wi 119 [vt, S n, u]) (hT : NdS H vt t) (hU : InS H u (iz (pre ++ [i]))) (hi : i < t.length) (hpl : pre.length < 2^40) (hn : ∀ b ∈ n, b ≤ 15) :
    ACalls Try.prog 83 [.pointer (some ⟨wi, 0, none⟩)] H (fun i => i = wi) fun v H' => (nx t i n = none ∧ v = .int .i64 0 ∧ Ob H' wi 119 [vt, S n, u]) ∨ ∃ j m, nx t i n = some (j, m) ∧ v = .int .i64 (j : Nat) ∧ Ob H' wi 119 [vt, S m, u] := by
  refine ACalls_by 83 TT_ok Try.func83 rfl rfl rfl (by simp) ?_
  obtain ⟨u1, u2, u3⟩ := InS.last hU
  have w1 := wrapNN (x := ((pre.length + 1 : Nat) : Int) - 1) (m := pre.length) (by omega) (by omega)
  have t1 := hT.index (k := .i64) (j := (i : Int)) (by omega) (by omega)
  rw [Int.toNat_natCast] at t1
  have t2 := hT.load hi
  refine AC_seqQ TT_ok (by simp only [go_sem] <;> rfl) ?_
  refine AC_seq ?_
  refine AC_regD [19] mixed (by kernel_rfl) ?_
  refine AQ_take TT_ok 9 rfl (by simp only [go_sem, anil_ptr, f119 _ 0 (by decide), f119 _ 2 (by decide), hO.load, ap3_0 _ _ _ 24 rfl, ap3_2 _ _ _ 46 rfl] <;> rfl) ?_
  simp only [List.drop_succ_cons, List.drop_zero]
  refine AQ_take TT_ok 9 rfl (by simp only [go_sem, anil_ptr, f119 _ 2 (by decide), hO.load, ap3_2 _ _ _ 46 rfl, u1, u2, u3, w1, t1, t2] <;> rfl) ?_
  simp only [List.drop_succ_cons, List.drop_zero]
  refine AQ_var TT_ok TT_49 rfl (by decide) (by simp only [go_sem] <;> rfl) (Lay.nd t[i]) (Nd.len _) (.inl (Nat.le_refl _)) (.inr rfl) fun H1 hX1 hN1 hL1 => ?_
  refine AQ_nil ?_
  have hO1 := hO.keep hX1
  have hlt := hO.lt
  refine AC_fixe (fun e' => get e' 0 = .pointer (some ⟨wi, 0, none⟩) ∧ get e' 3 = .pointer (some ⟨H.length, 0, none⟩)) ⟨by simp only [go_sem], by simp only [go_sem]⟩ (fun e1 ⟨g0, g3⟩ => ?_)
  have nxe := nx_eq hi n
  unfold nx1 at nxe
  have hkinds := G.kinds hi
  have hext := fun h => G.ext0 hi h
  have hkid := fun c (hc : c < 16) (h : t[i].kids[c] ≠ 0) => G.kid hi hc h
  generalize t[i] = x at *
  refine AC_seq ?_
  refine AC_seqQ TT_ok (by simp only [go_sem, g3, f49p _ 0 0 rfl, hN1.load, apn0] <;> rfl) ?_
  refine AC_block ?_
  by_cases k2 : x.kind = 2
  · have d2 : decide (x.kind = 2) = true := decide_eq_true k2
    refine AC_seqQ TT_ok (by simp only [go_sem, d2] <;> rfl) ?_
    refine AC_t (by simp only [go_sem] <;> rfl) (rfl) ?_
    rw [if_pos k2] at nxe
    refine AC_seq ?_
    refine AC_regD [] mixed (by kernel_rfl) ?_
    refine AQ_take TT_ok 6 rfl (by simp only [go_sem, g0, g3, anil_ptr, f119 _ 1 (by decide), hO1.load, ap3_1 _ _ _ 9 rfl, f49p _ 1 1 rfl, hN1.load, apn1] <;> rfl) ?_
    refine AQ_c rfl (by simp only [go_sem] <;> rfl) fok89 (by simp only [List.map_cons, List.map_nil, List.append_nil, go_sem] <;> rfl) (c89 (a := n) (b := x.path)) (fun _ _ h => h.elim) (.inr (.inr fun _ _ h => h)) fun r H2 hX2 ⟨hr, hH⟩ => ?_
    subst hr hH
    refine AQ_all TT_ok rfl (by simp only [go_sem, cutp] <;> rfl) ?_
    by_cases hp : x.path <+: n
    · have dp : decide (x.path <+: n) = true := decide_eq_true hp
      rw [if_pos hp] at nxe
      refine AC_seq ?_
      refine AC_seqQ TT_ok (by simp only [go_sem, dp] <;> rfl) ?_
      refine AC_f (by simp only [go_sem] <;> rfl) (rfl) ?_
      refine AC_skip ?_
      refine AC_seq ?_
      refine AC_regL ?_
      refine AQ_take TT_ok 4 rfl (by simp only [go_sem, g0, anil_ptr, f119 _ 1 (by decide), if_pos hp] <;> rfl) ?_
      refine AQ_store TT_ok TT_9 rfl (by simp only [go_sem] <;> rfl) (by simp only [go_sem] <;> rfl) (One.str (n.drop x.path.length)).lay rfl hO1 (by show 1 + 1 ≤ 3; decide) (.inr rfl) (.inl rfl) fun H3 hX3 hO3 hL3 => ?_
      refine AQ_nil ?_
      have hN3 := hN1.ext hX3 (by omega)
      obtain ⟨j, _, _, hj, _⟩ := hkid 0 (by decide) (hext k2)
      have a0 : apart TT 3 x.cells 4 = some (.int .i64 x.kids[0]) := apnk x 0 (by decide)
      rw [hj] at nxe a0
      have kz : aindex TT 47 (.pointer (some ⟨H.length, 4, none⟩)) (.int .i64 0) = some (.pointer (some ⟨H.length, 4, none⟩)) := rfl
      refine AC_seqQ TT_ok (by simp only [go_sem, g3, f49p _ 4 4 rfl, kz, hN3.load, a0] <;> rfl) ?_
      refine AC_ret ⟨.inl rfl, _, rfl, .inr ⟨j, n.drop x.path.length, by rw [nxe, Int.toNat_natCast], by simp only [go_sem], hO3⟩⟩
    · have dp : decide (x.path <+: n) = false := decide_eq_false hp
      rw [if_neg hp] at nxe
      refine AC_seq ?_
      refine AC_seqQ TT_ok (by simp only [go_sem, dp] <;> rfl) ?_
      refine AC_t (by simp only [go_sem] <;> rfl) (rfl) ?_
      refine AC_seqQ TT_ok (by simp only [go_sem] <;> rfl) ?_
      exact AC_ret ⟨.inl rfl, _, rfl, .inl ⟨nxe, by simp only [go_sem], hO1⟩⟩
  · have d2 : decide (x.kind = 2) = false := decide_eq_false k2
    rw [if_neg k2] at nxe
    refine AC_seqQ TT_ok (by simp only [go_sem, d2] <;> rfl) ?_
    refine AC_f (by simp only [go_sem] <;> rfl) (rfl) ?_
    by_cases k3 : x.kind = 3
    · have d3 : decide (x.kind = 3) = true := decide_eq_true k3
      rw [if_pos k3] at nxe
      refine AC_seqQ TT_ok (by simp only [go_sem, d3] <;> rfl) ?_
      refine AC_t (by simp only [go_sem] <;> rfl) (rfl) ?_
      refine AC_seq ?_
      cases n with
      | nil =>
        have dn : decide (([] : List UInt8) = []) = true := rfl
        refine AC_seqQ TT_ok (by simp only [go_sem, g0, anil_ptr, f119 _ 1 (by decide), hO1.load, ap3_1 _ _ _ 9 rfl, dn] <;> rfl) ?_
        refine AC_t (by simp only [go_sem] <;> rfl) (rfl) ?_
        refine AC_seqQ TT_ok (by simp only [go_sem] <;> rfl) ?_
        exact AC_ret ⟨.inl rfl, _, rfl, .inl ⟨nxe, by simp only [go_sem], hO1⟩⟩
      | cons c m =>
        have hc15 := hn c (by simp)
        have hc : c.toNat < 16 := by have := UInt8.le_iff_toNat_le.1 hc15; simp at this; omega
        dsimp only at nxe
        rw [dif_pos hc] at nxe
        have dn : decide (c :: m = []) = false := rfl
        have i0 : aget TT 9 (S (c :: m)) (.int .i64 0) = some (U c) := aget_S (l := c :: m) (j := 0) (by simp)
        have kc := kidp H.length c hc15
        have kv := apnk x c.toNat hc
        by_cases hz : x.kids[c.toNat] = 0
        · have dz : decide (x.kids[c.toNat] = 0) = true := decide_eq_true hz
          rw [if_pos hz] at nxe
          refine AC_seqQ TT_ok (by simp only [go_sem, g0, g3, anil_ptr, f119 _ 1 (by decide), hO1.load, ap3_1 _ _ _ 9 rfl, dn, i0, f49p _ 4 4 rfl, kc, hN1.load, kv, dz] <;> rfl) ?_
          refine AC_t (by simp only [go_sem] <;> rfl) (rfl) ?_
          refine AC_seqQ TT_ok (by simp only [go_sem] <;> rfl) ?_
          exact AC_ret ⟨.inl rfl, _, rfl, .inl ⟨nxe, by simp only [go_sem], hO1⟩⟩
        · have dz : decide (x.kids[c.toNat] = 0) = false := decide_eq_false hz
          obtain ⟨j, _, _, hj, _⟩ := hkid c.toNat hc hz
          rw [if_neg hz, hj] at nxe
          refine AC_seqQ TT_ok (by simp only [go_sem, g0, g3, anil_ptr, f119 _ 1 (by decide), hO1.load, ap3_1 _ _ _ 9 rfl, dn, i0, f49p _ 4 4 rfl, kc, hN1.load, kv, dz] <;> rfl) ?_
          refine AC_f (by simp only [go_sem] <;> rfl) (rfl) ?_
          refine AC_skip ?_
          rw [hj] at kv
          refine AC_seqQ TT_ok (by simp only [go_sem, g0, g3, anil_ptr, f119 _ 1 (by decide), hO1.load, ap3_1 _ _ _ 9 rfl, i0, f49p _ 4 4 rfl, kc, hN1.load, kv] <;> rfl) ?_
          have s1 : aslice TT 9 (S (c :: m)) (some (.int .i64 1)) none = some (S m) := aslice_S10 (l := c :: m) (a := 1) (k := .i64) (by simp)
          refine AC_seq ?_
          refine AC_regL ?_
          refine AQ_take TT_ok 8 rfl (by simp only [go_sem, g0, anil_ptr, f119 _ 1 (by decide), hO1.load, ap3_1 _ _ _ 9 rfl, s1] <;> rfl) ?_
          refine AQ_store TT_ok TT_9 rfl (by simp only [go_sem] <;> rfl) (by simp only [go_sem] <;> rfl) (One.str m).lay rfl hO1 (by show 1 + 1 ≤ 3; decide) (.inr rfl) (.inl rfl) fun H3 hX3 hO3 hL3 => ?_
          refine AQ_nil ?_
          refine AC_seqQ TT_ok (by simp only [go_sem] <;> rfl) ?_
          exact AC_ret ⟨.inl rfl, _, rfl, .inr ⟨j, m, by rw [nxe, Int.toNat_natCast], by simp only [go_sem], hO3⟩⟩
    · have d3 : decide (x.kind = 3) = false := decide_eq_false k3
      rw [if_neg k3] at nxe
      refine AC_seqQ TT_ok (by simp only [go_sem, d3] <;> rfl) ?_
      refine AC_f (by simp only [go_sem] <;> rfl) (rfl) ?_
      refine AC_skip ?_
      refine AC_seqQ TT_ok (by simp only [go_sem] <;> rfl) ?_
      exact AC_ret ⟨.inl rfl, _, rfl, .inl ⟨nxe, by simp only [go_sem], hO1⟩⟩
end Go.Proofs.Ythalogdopkoidaa.Ab
set_option linter.unusedVariables false
set_option linter.unusedSimpArgs false
namespace Go.Proofs.Ythalogdopkoidaa.Ab
open Go Go.RowKit Go.Proofs.Ythalogdopkoidaa.Dr
def InB (H : AHeap) (v : Value) (xs : List Int) : Prop := Buf H v 3 xs.length (xs.flatMap iCell)
theorem InB.sl {H : AHeap} {v : Value} {xs : List Int} (h : InB H v xs) : InS H v xs := Buf.sl h
theorem InB.push {H : AHeap} {v : Value} {l : List Int} {x : Int} (h : Buf H v 3 (l.length + 1) (l.flatMap iCell ++ ([.int .i64 x] : List Value).flatMap fun v => v.cells.toList)) : InB H v (l ++ [x]) := by
  rw [InB, List.length_append, List.flatMap_append]
  exact h
theorem b119 {v : Value} (h : One v) (n : List UInt8) : abuild TT 119 [(0, v), (1, S n)] = some (.agg #[v, S n, .slice none 0 0]) := by
  have hs : v.cells.size = 1 := by rw [h.cells]; rfl
  simp only [abuild, TT_119]
  rw [if_pos (by decide)]
  simp only [afill, placeOf]
  simp only [List.getElem?_cons_zero, List.getElem?_cons_succ, TT_24, TT_9, Option.map_some]
  rw [if_pos ⟨h.known, hs, by decide⟩, h.cells]
  rfl
theorem Gd.isw {t : List Nd} (h : Isw t) : Gd t (paths (prs t)) := by
  have h1 := Gd.of (prs_may t)
  rw [← isw_prs h] at h1
  exact h1
/-- A key's way, and what is left of it. -/
def ways (t : List Nd) (key : List UInt8) : List Nat × List UInt8 := if t = [] then ([], nib key) else wy t t.length 0 (nib key)
theorem nx_small {t : List Nd} {i j : Nat} {n m : List UInt8} (h : nx t i n = some (j, m)) (hn : ∀ b ∈ n, b ≤ 15) : ∀ b ∈ m, b ≤ 15 := by
  unfold nx at h
  split at h
  · cases h
  · split at h
    · split at h
      · obtain ⟨_, rfl⟩ := Prod.mk.inj (Option.some.inj h)
        exact fun b hb => hn b (List.mem_of_mem_drop hb)
      · cases h
    · split at h
      · split at h
        · cases h
        · split at h
          · split at h
            · cases h
            · obtain ⟨_, rfl⟩ := Prod.mk.inj (Option.some.inj h)
              exact fun b hb => hn b (by simp [hb])
          · cases h
      · cases h
/-- A way in memory, having come to a node. -/
structure Wy (H0 H : AHeap) (wi : Nat) (vt u : Value) (t : List Nd) (key : List UInt8) (pre : List Nat) (i : Nat) (n : List UInt8) : Prop where
  ub : InB H u (iz (pre ++ [i]))
  tb : NdS H vt t
  ud : ∀ j, vid u = some j → H0.length ≤ j ∧ j ≠ wi
  lt : i < t.length
  pl : pre.length ≤ i
  sm : ∀ b ∈ n, b ≤ 15
  w1 : pre ++ (wy t t.length i n).1 = (ways t key).1
  w2 : (wy t t.length i n).2 = (ways t key).2
set_option maxRecDepth 100000 in
set_option maxHeartbeats 8000000 in
theorem c74 {H : AHeap} {vt : Value} {t : List Nd} {key : List UInt8} (hT : NdS H vt t) (ht : t.length < 2^19) (hn : ∀ n ∈ t, n.path.length < 2^30) :
    ACalls Try.prog 74 [vt, S key] H (fun _ => False) fun v H' => ∃ r e, v = .tuple #[r, .int .i64 e] ∧
      ((¬ Isw t ∧ e = 1 ∧ r = .pointer none) ∨ (Isw t ∧ kb key = false ∧ e = 9 ∧ r = .pointer none) ∨ (Isw t ∧ kb key = true ∧ e = 0 ∧ ∃ wi u, H.length ≤ wi ∧ r = .pointer (some ⟨wi, 0, none⟩) ∧ Ob H' wi 119 [vt, S (ways t key).2, u] ∧
        InB H' u (iz (ways t key).1) ∧ ∀ j, vid u = some j → H.length ≤ j ∧ j ≠ wi)) := by
  refine ACalls_by 50 TT_ok Try.func74 rfl rfl rfl (by simp) ?_
  refine AC_seqQ TT_ok (by simp only [go_sem] <;> rfl) ?_
  refine AC_cut (fun e' H' => AExt (fun _ => False) H H' ∧ Isw t ∧ kb key = true ∧ get e' 0 = vt ∧ get e' 1 = S key) ?_ (fun e1 H1 _ ⟨hX1, his, hkb, g0, g1⟩ => ?_)
  · refine AC_block ?_
    refine AC_seq ?_
    refine AC_regL ?_
    refine AQ_take TT_ok 1 rfl (by simp only [go_sem] <;> rfl) ?_
    refine AQ_c rfl (by simp only [go_sem] <;> rfl) fok37 (by simp only [List.map_cons, List.map_nil, List.append_nil, go_sem] <;> rfl) (c37 hT ht hn) (fun _ _ h => h.elim) (.inl rfl) fun r H1 hX1 hr => ?_
    subst hr
    by_cases hi : Isw t
    · have hd : decide (Isw t) = true := decide_eq_true hi
      refine AQ_all TT_ok rfl (by simp only [go_sem, hd] <;> rfl) ?_
      refine AC_f (by simp only [go_sem] <;> rfl) (rfl) ?_
      cases hkb : kb key
      · by_cases h0 : key = []
        · have d0 : decide (key = []) = true := decide_eq_true h0
          refine AC_seqQ TT_ok (by simp only [go_sem, d0] <;> rfl) ?_
          refine AC_t (by simp only [go_sem] <;> rfl) (rfl) ?_
          refine AC_seqQ TT_ok (by simp only [go_sem] <;> rfl) ?_
          exact AC_ret ⟨.inl rfl, _, rfl, .pointer none, 9, by simp only [go_sem], .inr (.inl ⟨hi, rfl, rfl, rfl⟩)⟩
        · have d0 : decide (key = []) = false := decide_eq_false h0
          have h8 : 8 < key.length := by
            have := List.length_pos_iff.2 h0
            rcases Nat.lt_or_ge 8 key.length with h | h
            · exact h
            · have : kb key = true := by simp [kb]; omega
              rw [this] at hkb; cases hkb
          have d8 : decide ((8 : Int) < (key.length : Int)) = true := decide_eq_true (by omega)
          refine AC_seqQ TT_ok (by simp only [go_sem, d0, d8] <;> rfl) ?_
          refine AC_t (by simp only [go_sem] <;> rfl) (rfl) ?_
          refine AC_seqQ TT_ok (by simp only [go_sem] <;> rfl) ?_
          exact AC_ret ⟨.inl rfl, _, rfl, .pointer none, 9, by simp only [go_sem], .inr (.inl ⟨hi, rfl, rfl, rfl⟩)⟩
      · have hl := kb_len hkb
        have d0 : decide (key = []) = false := decide_eq_false fun e => by subst e; simp at hl
        have d8 : decide ((8 : Int) < (key.length : Int)) = false := decide_eq_false (by omega)
        refine AC_seqQ TT_ok (by simp only [go_sem, d0, d8] <;> rfl) ?_
        refine AC_f (by simp only [go_sem] <;> rfl) (rfl) ?_
        refine AC_skip ⟨hX1, hi, rfl, by simp only [go_sem], by simp only [go_sem]⟩
    · have hd : decide (Isw t) = false := decide_eq_false hi
      refine AQ_all TT_ok rfl (by simp only [go_sem, hd, Bool.not_false] <;> rfl) ?_
      refine AC_t (by simp only [go_sem] <;> rfl) (rfl) ?_
      refine AC_seqQ TT_ok (by simp only [go_sem] <;> rfl) ?_
      exact AC_ret ⟨.inl rfl, _, rfl, .pointer none, 1, by simp only [go_sem], .inl ⟨hi, rfl, rfl⟩⟩
  have s1 := hX1.size
  have G := Gd.isw his
  refine AC_seq ?_
  refine AC_regL ?_
  refine AQ_take TT_ok 2 rfl (by simp only [go_sem, g0, g1] <;> rfl) ?_
  refine AQ_c rfl (by simp only [go_sem] <;> rfl) fok62 (by simp only [List.map_cons, List.map_nil, List.append_nil, go_sem] <;> rfl) (c62 (a := key) (by have := kb_len hkb; omega)) (fun _ _ h => h.elim) (.inl rfl) fun r H2 hX2 hr => ?_
  subst hr
  have hT2 := (hT.keep hX1).keep hX2
  have s2 := hX2.size
  refine AQ_take TT_ok 1 rfl (by simp only [go_sem, List.map_cons, List.map_nil, b119 hT2.one] <;> rfl) ?_
  refine AQ_box TT_ok TT_119 rfl (by simp only [go_sem] <;> rfl) (Lay.three hT2.one (One.str _) (One.slice _ _ _)) rfl fun H3 hX3 hO3 hL3 => ?_
  refine AQ_all TT_ok rfl (by simp only [go_sem] <;> rfl) ?_
  have hT3 := hT2.keep hX3
  have sm0 := nib_small key
  refine AC_fixe (fun e' => get e' 0 = vt ∧ get e' 6 = .pointer (some ⟨H2.length, 0, none⟩)) ⟨by simp only [go_sem, g0], by simp only [go_sem]⟩ (fun e3 ⟨g0, g6⟩ => ?_)
  refine AC_seq ?_
  by_cases hz : t = []
  · have d0 : decide ((t.length : Int) = 0) = true := decide_eq_true (by rw [hz]; rfl)
    refine AC_seqQ TT_ok (by simp only [go_sem, g0, hT3.alen, d0] <;> rfl) ?_
    refine AC_t (by simp only [go_sem] <;> rfl) (rfl) ?_
    refine AC_seqQ TT_ok (by simp only [go_sem, g6] <;> rfl) ?_
    refine AC_ret ⟨.inl rfl, _, rfl, .pointer (some ⟨H2.length, 0, none⟩), 0, by simp only [go_sem], .inr (.inr ⟨his, hkb, rfl, H2.length, .slice none 0 0, by omega, rfl, ?_, ?_, fun j hj => by cases hj⟩)⟩
    · rw [ways, if_pos hz]; exact hO3
    · rw [ways, if_pos hz]; exact Buf.nil _ _
  have hpos := List.length_pos_iff.2 hz
  have d0 : decide ((t.length : Int) = 0) = false := decide_eq_false (by omega)
  refine AC_seqQ TT_ok (by simp only [go_sem, g0, hT3.alen, d0] <;> rfl) ?_
  refine AC_f (by simp only [go_sem] <;> rfl) (rfl) ?_
  refine AC_skip ?_
  refine AC_fixe (fun e' => get e' 0 = vt ∧ get e' 6 = .pointer (some ⟨H2.length, 0, none⟩)) ⟨by simp only [go_sem, g0], by simp only [go_sem, g6]⟩ (fun e3 ⟨g0, g6⟩ => ?_)
  have hways : ways t key = wy t t.length 0 (nib key) := by rw [ways, if_neg hz]
  refine AC_seq ?_
  refine AC_regL ?_
  refine AQ_take TT_ok 1 rfl (by simp only [go_sem, g6] <;> rfl) ?_
  refine AQ_lit TT_ok [.int .i64 0] TT_46 rfl TT_3 rfl (by decide) rfl (by decide) rfl (by simp only [List.map_cons, List.map_nil, go_sem, numbered]) (fun v hv => by rw [List.mem_singleton] at hv; subst hv; exact ⟨_, (One.int _ _).lay, rfl⟩) fun H4 hX4 hO4 hL4 => ?_
  have hO34 := hO3.keep hX4
  refine AQ_take TT_ok 2 rfl (by simp only [go_sem, anil_ptr, f119 _ 2 (by decide)] <;> rfl) ?_
  refine AQ_store TT_ok TT_46 rfl (by simp only [go_sem] <;> rfl) (by simp only [go_sem] <;> rfl) (One.slice _ _ _).lay rfl hO34 (by show 2 + 1 ≤ 3; decide) (.inl (by omega)) (.inl rfl) fun H5 hX5 hO5 hL5 => ?_
  refine AQ_nil ?_
  have hl3 : H3.length = H2.length + 1 := hL3
  have hU5 : InB H5 (.slice (some ⟨H3.length, 0, none⟩) 1 1) (iz ([] ++ [0])) := Buf.ext (.inr ⟨_, hO4⟩) hX5 (fun j hj h => by have e : H3.length = j := Option.some.inj hj; omega)
  have hT5 : NdS H5 vt t := (hT3.keep hX4).ext hX5 (fun j _ hv h => by have := hT.vid_lt hv; omega)
  have hO5' : Ob H5 H2.length 119 [vt, S (nib key), .slice (some ⟨H3.length, 0, none⟩) 1 1] := hO5
  have hWy : Wy H H5 H2.length vt (.slice (some ⟨H3.length, 0, none⟩) 1 1) t key [] 0 (nib key) := ⟨hU5, hT5, fun j hj => by have e : H3.length = j := Option.some.inj hj; omega, hpos, by simp, sm0, by rw [hways]; rfl, by rw [hways]⟩
  refine AC_fixe (fun e' => get e' 6 = .pointer (some ⟨H2.length, 0, none⟩)) (by simp only [go_sem, g6]) (fun e4 g6 => ?_)
  have hsz : H2.length < H5.length := hO5.lt
  clear hU5 hT5
  generalize (Value.slice (some ⟨H3.length, 0, none⟩) 1 1) = u0 at *
  have step : ∀ {H5 H6 : AHeap} {u : Value} {pre : List Nat} {i : Nat} {n : List UInt8}, Wy H H5 H2.length vt u t key pre i n → AExt (fun j => j = H2.length) H5 H6 → Wy H H6 H2.length vt u t key pre i n := fun w hX => ⟨Buf.ext w.ub hX (fun j hj h => (w.ud j hj).2 h), w.tb.ext hX (fun j _ hv h => by have := hT.vid_lt hv; omega), w.ud, w.lt, w.pl, w.sm, w.w1, w.w2⟩
  refine AC_cut (fun e' H' => ∃ u, get e' 6 = .pointer (some ⟨H2.length, 0, none⟩) ∧ Ob H' H2.length 119 [vt, S (ways t key).2, u] ∧ InB H' u (iz (ways t key).1) ∧ ∀ j, vid u = some j → H.length ≤ j ∧ j ≠ H2.length) ?_ (fun e7 H7 _ ⟨u, g6, hOb, hUb, hud⟩ => ?_)
  · refine AC_seq ?_
    refine AC_regL ?_
    refine AQ_take TT_ok 1 rfl (by simp only [go_sem, g6] <;> rfl) ?_
    refine AQ_c rfl (by simp only [go_sem] <;> rfl) fok83 (by simp only [List.map_cons, List.map_nil, List.append_nil, go_sem] <;> rfl) (c83 G hO5' hWy.tb hWy.ub.sl hWy.lt (by have := hWy.pl; omega) hWy.sm) (fun j _ hj => .inl (by omega)) (.inl rfl) fun r H6 hX6 hd => ?_
    refine AQ_all TT_ok rfl (by simp only [go_sem] <;> rfl) ?_
    refine AC_block (AC_loop (fun k e' H' => ∃ (pre : List Nat) (i : Nat) (n : List UInt8) (u r : Value), k = t.length - i ∧ Wy H H' H2.length vt u t key pre i n ∧ H2.length < H'.length ∧ get e' 6 = .pointer (some ⟨H2.length, 0, none⟩) ∧ get e' 7 = r ∧ ((nx t i n = none ∧ r = .int .i64 0 ∧ Ob H' H2.length 119 [vt, S n, u]) ∨ ∃ j m, nx t i n = some (j, m) ∧ r = .int .i64 (j : Nat) ∧ Ob H' H2.length 119 [vt, S m, u])) t.length ⟨[], 0, nib key, u0, r, by simp, step hWy hX6, by have := hX6.size; omega, by simp only [go_sem, g6], by simp only [go_sem], hd⟩ ?_)
    rintro k e5 H7 _ ⟨pre, i, n, u, r, hk', hW, hsz7, g6, g7, hd⟩
    refine AC_seq ?_
    rcases hd with ⟨z1, rfl, hOz⟩ | ⟨j, m, z1, rfl, hOz⟩
    · have dz : decide ((0 : Int) = 0) = true := rfl
      refine AC_seqQ TT_ok (by simp only [go_sem, g7, dz] <;> rfl) ?_
      refine AC_f (by simp only [go_sem] <;> rfl) (rfl) ?_
      have hw := G.wy_step i n
      rw [z1] at hw
      dsimp only at hw
      have w1 := hW.w1
      have w2 := hW.w2
      rw [hw] at w1 w2
      dsimp only at w1 w2
      refine AC_exit ⟨u, by simp only [go_sem, g6], ?_, ?_, hW.ud⟩
      · rw [← w2]; exact hOz
      · rw [← w1]; exact hW.ub
    · obtain ⟨l1, l2, _, _⟩ := G.nx_lt z1
      have dz : decide ((j : Int) = 0) = false := decide_eq_false (by omega)
      refine AC_seqQ TT_ok (by simp only [go_sem, g7, dz] <;> rfl) ?_
      refine AC_t (by simp only [go_sem] <;> rfl) (rfl) ?_
      refine AC_skip ?_
      have hpl := hW.pl
      refine AC_seq (AC_block ?_)
      refine AC_regL ?_
      refine AQ_take TT_ok 6 rfl (by simp only [go_sem, g6, anil_ptr, f119 _ 2 (by decide), hOz.load, ap3_2 _ _ _ 46 rfl, g7] <;> rfl) ?_
      refine AQ_lit TT_ok [.int .i64 (j : Nat)] TT_46 rfl TT_3 rfl (by decide) rfl (by decide) rfl (by simp only [List.map_cons, List.map_nil, go_sem, numbered]) (fun v hv => by rw [List.mem_singleton] at hv; subst hv; exact ⟨_, (One.int _ _).lay, rfl⟩) fun H8 hX8 hO8 hL8 => ?_
      have hU8 := Buf.keep hW.ub hX8
      have hOz8 := hOz.keep hX8
      refine AQ_append TT_ok (v := u) (n := (iz (pre ++ [i])).length) (m := 1) TT_46 rfl TT_3 (by decide) (by decide) rfl (by simp only [go_sem]) (by simp only [go_sem]) hU8 hO8.sl (rows_length iCell_len _) rfl (by rw [iz_len]; simp; omega) (fun j' hj => .inl ((hW.ud j' hj).1)) (.inl rfl) fun u9 H9 hX9 hB9 hv9 => ?_
      have hU9 : InB H9 u9 (iz (pre ++ [i] ++ [j])) := by
        rw [iz_app (pre ++ [i]) [j]]
        exact InB.push hB9
      have hOz9 := hOz8.ext hX9 (fun h => (hW.ud _ h).2 rfl)
      have s8 := hX8.size
      have s9 := hX9.size
      have hud9 : ∀ k, vid u9 = some k → H.length ≤ k ∧ k ≠ H2.length := fun k hk => by
        rcases hv9 k hk with h | ⟨h, _⟩
        · omega
        · cases h
      refine AQ_take TT_ok 2 rfl (by simp only [go_sem, anil_ptr, f119 _ 2 (by decide)] <;> rfl) ?_
      refine AQ_store TT_ok TT_46 rfl (by simp only [go_sem] <;> rfl) (by simp only [go_sem] <;> rfl) hU9.sl.one.lay rfl hOz9 (by show 2 + 1 ≤ 3; decide) (.inl (by omega)) (.inl rfl) fun H10 hX10 hO10 hL10 => ?_
      refine AQ_nil ?_
      have hO10' : Ob H10 H2.length 119 [vt, S m, u9] := hO10
      have hT10 : NdS H10 vt t := (((hW.tb.keep hX8).ext hX9 (fun k hk hv h => by have := hT.vid_lt hv; have := (hW.ud k h).1; omega))).ext hX10 (fun k _ hv h => by have := hT.vid_lt hv; omega)
      have hw := G.wy_step i n
      rw [z1] at hw
      dsimp only at hw
      have w1 := hW.w1
      have w2 := hW.w2
      rw [hw] at w1 w2
      dsimp only at w1 w2
      have hW10 : Wy H H10 H2.length vt u9 t key (pre ++ [i]) j m := ⟨Buf.ext hU9 hX10 (fun k hk h => (hud9 k hk).2 h), hT10, hud9, l2, by simp; omega, nx_small z1 hW.sm, by rw [← w1]; simp, w2⟩
      refine AC_regL ?_
      refine AQ_take TT_ok 1 rfl (by simp only [go_sem, g6] <;> rfl) ?_
      refine AQ_c rfl (by simp only [go_sem] <;> rfl) fok83 (by simp only [List.map_cons, List.map_nil, List.append_nil, go_sem] <;> rfl) (c83 G hO10' hW10.tb hW10.ub.sl hW10.lt (by have := hW10.pl; omega) hW10.sm) (fun k _ hk => .inl (by omega)) (.inl rfl) fun r H11 hX11 hd => ?_
      refine AQ_all TT_ok rfl (by simp only [go_sem] <;> rfl) ?_
      exact ⟨t.length - j, by omega, pre ++ [i], j, m, u9, r, rfl, step hW10 hX11, by have := hX11.size; have := hX10.size; omega, by simp only [go_sem, g6], by simp only [go_sem], hd⟩
  · refine AC_seqQ TT_ok (by simp only [go_sem, g6] <;> rfl) ?_
    exact AC_ret ⟨.inl rfl, _, rfl, .pointer (some ⟨H2.length, 0, none⟩), 0, by simp only [go_sem], .inr (.inr ⟨his, hkb, rfl, H2.length, u, by omega, rfl, hOb, hUb, hud⟩)⟩
end Go.Proofs.Ythalogdopkoidaa.Ab
set_option linter.unusedVariables false
set_option linter.unusedSimpArgs false
namespace Go.Proofs.Ythalogdopkoidaa.Ab
open Go Go.RowKit Go.Proofs.Ythalogdopkoidaa.Dr
def walkE (t : List Nd) (key : List UInt8) : List Nat × Int := if Isw t then if kb key = true then ((ways t key).1, 0) else ([], 9) else ([], 1)
/-- What nodes have of a key. -/
def got (t : List Nd) (key : List UInt8) : Option (List UInt8) := match (ways t key).1.getLast?.bind fun i => t[i]? with
  | some x => if x.has = true ∧ (ways t key).2 = x.path then some x.value else none
  | none => none
def ofE (t : List Nd) (key : List UInt8) : Option (List UInt8) × Int := if Isw t then if kb key = true then (got t key, 0) else (none, 9) else (none, 1)
def a74 (o : Option (List UInt8)) : Value := .agg #[.bool o.isSome, S (o.getD [])]
theorem ap74 (a b : Value) : apart TT 74 [a, b] 0 = some (.agg #[a, b]) := rfl
theorem bz74 : abuild TT 74 [] = some (a74 none) := rfl
theorem b74 (v : List UInt8) : abuild TT 74 [(0, .bool true), (1, S v)] = some (a74 (some v)) := rfl
theorem Lay.a74 (o : Option (List UInt8)) : Lay (Ab.a74 o) [.bool o.isSome, S (o.getD [])] := Lay.two (One.bool _) (One.str _)
theorem ways_last {t : List Nd} (h : Isw t) (hz : t ≠ []) (key : List UInt8) : ∃ pre i, ∃ hi : i < t.length, (ways t key).1 = pre ++ [i] := by
  have G := Gd.isw h
  have hp := List.length_pos_iff.2 hz
  obtain ⟨j, hj, _, h1, _⟩ := G.wy_back t.length 0 (by omega) hp (by rw [G.len]; exact hp) (nib key)
  obtain ⟨pre, hpre⟩ := List.getLast?_eq_some_iff.1 h1
  exact ⟨pre, j, hj, by rw [ways, if_neg hz]; exact hpre⟩
theorem ways_len {t : List Nd} (h : Isw t) {key : List UInt8} (hk : kb key = true) : (ways t key).1.length ≤ 34 := by
  unfold ways
  split
  · simp
  · rename_i hz
    have hp := List.length_pos_iff.2 hz
    have h1 := (Gd.isw h).wy_len t.length 0 (by omega) hp (nib key)
    rw [nib_length] at h1
    have := kb_len hk
    split at h1 <;> omega
set_option maxRecDepth 100000 in
set_option maxHeartbeats 8000000 in
theorem c50 {H : AHeap} {vt : Value} {t : List Nd} {key : List UInt8} (hT : NdS H vt t) (ht : t.length < 2^19) (hn : ∀ n ∈ t, n.path.length < 2^30) :
    ACalls Try.prog 50 [vt, S key] H (fun _ => False) fun v H' => v = .tuple #[a74 (ofE t key).1, .int .i64 (ofE t key).2] := by
  refine ACalls_by 58 TT_ok Try.func50 rfl rfl rfl (by simp) ?_
  refine AC_seq ?_
  refine AC_regL ?_
  refine AQ_alloc TT_ok TT_74 rfl fun H1 hX1 hO1 hL1 => ?_
  refine AQ_all TT_ok rfl (by simp only [go_sem] <;> rfl) ?_
  have hT1 := hT.keep hX1
  refine AC_seq ?_
  refine AC_regL ?_
  refine AQ_take TT_ok 2 rfl (by simp only [go_sem] <;> rfl) ?_
  refine AQ_c rfl (by simp only [go_sem] <;> rfl) fok74 (by simp only [List.map_cons, List.map_nil, List.append_nil, go_sem] <;> rfl) (c74 (key := key) hT1 ht hn) (fun _ _ h => h.elim) (.inl rfl) fun r H2 hX2 ⟨w, e, hr, hd⟩ => ?_
  subst hr
  refine AQ_all TT_ok rfl (by simp only [go_sem] <;> rfl) ?_
  have hO2 := hO1.keep hX2
  have hT2 := hT1.keep hX2
  have fin : ∀ {H' : AHeap} {e' : Env} {o : Option (List UInt8)} {x : Int}, Ob H' H.length 74 [.bool o.isSome, S (o.getD [])] → get e' 4 = .pointer (some ⟨H.length, 0, none⟩) → get e' 5 = .int .i64 x → ares TT H' e' [.cell 4 74, .tmp 5] = some (.tuple #[a74 o, .int .i64 x]) := fun hO h4 h5 => by
    simp only [ares, List.mapM_cons, List.mapM_nil, ares1, h4, h5, hO.load, ap74]
    rfl
  have bad : ∀ {e0 : Env} {x : Int}, x ≠ 0 → get e0 4 = .pointer (some ⟨H.length, 0, none⟩) → True := fun _ _ => trivial
  refine AC_fixe (fun e' => get e' 0 = vt ∧ get e' 4 = .pointer (some ⟨H.length, 0, none⟩) ∧ get e' 6 = w ∧ get e' 7 = .int .i64 e) ⟨by simp only [go_sem], by simp only [go_sem], by simp only [go_sem], by simp only [go_sem]⟩ (fun e2 ⟨g0, g4, g6, g7⟩ => ?_)
  refine AC_seq ?_
  rcases hd with ⟨his, rfl, rfl⟩ | ⟨his, hkb, rfl, rfl⟩ | ⟨his, hkb, rfl, wi, u, hwi, rfl, hO, hU, hud⟩
  · have de : decide ((1 : Int) = 0) = false := rfl
    refine AC_seqQ TT_ok (by simp only [go_sem, g7, de, Bool.not_false] <;> rfl) ?_
    refine AC_t (by simp only [go_sem] <;> rfl) (rfl) ?_
    refine AC_seq ?_
    refine AC_regL ?_
    refine AQ_take TT_ok 2 rfl (by simp only [go_sem, List.map_nil, bz74, g7] <;> rfl) ?_
    refine AQ_store TT_ok TT_74 rfl (by simp only [go_sem, g4] <;> rfl) (by simp only [go_sem] <;> rfl) (Lay.a74 none) rfl hO2 (by show 0 + 2 ≤ 2; decide) (.inl (by omega)) (.inl rfl) fun H3 hX3 hO3 hL3 => ?_
    refine AQ_all TT_ok rfl (by simp only [go_sem] <;> rfl) ?_
    refine AC_ret ⟨.inl rfl, _, fin (o := none) (x := 1) hO3 (by simp only [go_sem, g4]) (by simp only [go_sem]), ?_⟩
    simp only [ofE, if_neg his]
  · have de : decide ((9 : Int) = 0) = false := rfl
    have hkb' : ¬ kb key = true := by rw [hkb]; simp
    refine AC_seqQ TT_ok (by simp only [go_sem, g7, de, Bool.not_false] <;> rfl) ?_
    refine AC_t (by simp only [go_sem] <;> rfl) (rfl) ?_
    refine AC_seq ?_
    refine AC_regL ?_
    refine AQ_take TT_ok 2 rfl (by simp only [go_sem, List.map_nil, bz74, g7] <;> rfl) ?_
    refine AQ_store TT_ok TT_74 rfl (by simp only [go_sem, g4] <;> rfl) (by simp only [go_sem] <;> rfl) (Lay.a74 none) rfl hO2 (by show 0 + 2 ≤ 2; decide) (.inl (by omega)) (.inl rfl) fun H3 hX3 hO3 hL3 => ?_
    refine AQ_all TT_ok rfl (by simp only [go_sem] <;> rfl) ?_
    refine AC_ret ⟨.inl rfl, _, fin (o := none) (x := 9) hO3 (by simp only [go_sem, g4]) (by simp only [go_sem]), ?_⟩
    simp only [ofE, if_pos his, if_neg hkb']
  have de : decide ((0 : Int) = 0) = true := rfl
  have hof : ofE t key = (got t key, 0) := by simp only [ofE, if_pos his, if_pos hkb]
  by_cases hz : t = []
  · have hw : ways t key = ([], nib key) := by rw [ways, if_pos hz]
    rw [hw] at hU
    have hl : alen TT 46 u = some (.int .i64 0) := InS.alen hU.sl
    refine AC_seqQ TT_ok (by simp only [go_sem, g7, g6, de, Bool.not_true, anil_ptr, f119 _ 2 (by decide), hO.load, ap3_2 _ _ _ 46 rfl, hl] <;> rfl) ?_
    refine AC_t (by simp only [go_sem] <;> rfl) (rfl) ?_
    refine AC_seq ?_
    refine AC_regL ?_
    refine AQ_take TT_ok 2 rfl (by simp only [go_sem, List.map_nil, bz74, g7] <;> rfl) ?_
    refine AQ_store TT_ok TT_74 rfl (by simp only [go_sem, g4] <;> rfl) (by simp only [go_sem] <;> rfl) (Lay.a74 none) rfl hO2 (by show 0 + 2 ≤ 2; decide) (.inl (by omega)) (.inl rfl) fun H3 hX3 hO3 hL3 => ?_
    refine AQ_all TT_ok rfl (by simp only [go_sem] <;> rfl) ?_
    refine AC_ret ⟨.inl rfl, _, fin (o := none) (x := 0) hO3 (by simp only [go_sem, g4]) (by simp only [go_sem]), ?_⟩
    rw [hof, got, hw]; rfl
  obtain ⟨pre, i, hi, hw⟩ := ways_last his hz key
  have hwl := ways_len his hkb
  have hgot : got t key = if t[i].has = true ∧ (ways t key).2 = t[i].path then some t[i].value else none := by
    rw [got, hw, List.getLast?_concat]
    simp only [Option.bind_some, List.getElem?_eq_getElem hi]
  rw [hw] at hU hwl
  rw [List.length_append, List.length_singleton] at hwl
  obtain ⟨u1, u2, u3⟩ := InS.last hU.sl
  have w1 := wrapNN (x := ((pre.length + 1 : Nat) : Int) - 1) (m := pre.length) (by omega) (by omega)
  have dl : decide (((pre.length + 1 : Nat) : Int) = 0) = false := decide_eq_false (by omega)
  have t1 := hT2.index (k := .i64) (j := (i : Int)) (by omega) (by omega)
  rw [Int.toNat_natCast] at t1
  have t2 := hT2.load hi
  refine AC_seqQ TT_ok (by simp only [go_sem, g7, g6, de, Bool.not_true, anil_ptr, f119 _ 2 (by decide), hO.load, ap3_2 _ _ _ 46 rfl, u3, dl] <;> rfl) ?_
  refine AC_f (by simp only [go_sem] <;> rfl) (rfl) ?_
  refine AC_skip ?_
  refine AC_seq ?_
  refine AC_regD [16] mixed (by kernel_rfl) ?_
  refine AQ_take TT_ok 9 rfl (by simp only [go_sem, g0, g6, anil_ptr, f119 _ 2 (by decide), hO.load, ap3_2 _ _ _ 46 rfl] <;> rfl) ?_
  simp only [List.drop_succ_cons, List.drop_zero]
  refine AQ_take TT_ok 6 rfl (by simp only [go_sem, g0, g6, u1, u2, u3, w1, t1, t2] <;> rfl) ?_
  simp only [List.drop_succ_cons, List.drop_zero]
  refine AQ_var TT_ok TT_49 rfl (by decide) (by simp only [go_sem] <;> rfl) (Lay.nd t[i]) (Nd.len _) (.inl (by have := hX1.size; have := hX2.size; omega)) (.inr rfl) fun H3 hX3 hN3 hL3 => ?_
  refine AQ_nil ?_
  have hO3 := hO.keep hX3
  have hR3 := hO2.keep hX3
  refine AC_fixe (fun e' => get e' 4 = .pointer (some ⟨H.length, 0, none⟩) ∧ get e' 6 = .pointer (some ⟨wi, 0, none⟩) ∧ get e' 8 = .pointer (some ⟨H2.length, 0, none⟩)) ⟨by simp only [go_sem, g4], by simp only [go_sem, g6], by simp only [go_sem]⟩ (fun e3 ⟨g4, g6, g8⟩ => ?_)
  generalize t[i] = x at *
  generalize (ways t key).2 = left at *
  refine AC_seq ?_
  by_cases hh : x.has = true
  · by_cases hp : left = x.path
    · have dp : decide (left = x.path) = true := decide_eq_true hp
      rw [if_pos ⟨hh, hp⟩] at hgot
      refine AC_seqD TT_ok mixed (by kernel_rfl) (by simp only [go_sem, g6, g8, f49p _ 2 2 rfl, f49p _ 1 1 rfl, hN3.load, apn2, apn1, hh, Bool.not_true, anil_ptr, f119 _ 1 (by decide), hO3.load, ap3_1 _ _ _ 9 rfl, dp] <;> rfl) ?_
      refine AC_f (by simp only [go_sem] <;> rfl) (rfl) ?_
      refine AC_skip ?_
      refine AC_seq ?_
      refine AC_regL ?_
      refine AQ_take TT_ok 3 rfl (by simp only [go_sem, g8, f49p _ 3 3 rfl, hN3.load, apn3, List.map_cons, List.map_nil, b74] <;> rfl) ?_
      refine AQ_store TT_ok TT_74 rfl (by simp only [go_sem, g4] <;> rfl) (by simp only [go_sem] <;> rfl) (Lay.a74 (some x.value)) rfl hR3 (by show 0 + 2 ≤ 2; decide) (.inl (by omega)) (.inl rfl) fun H4 hX4 hO4 hL4 => ?_
      refine AQ_all TT_ok rfl (by simp only [go_sem] <;> rfl) ?_
      refine AC_ret ⟨.inl rfl, _, fin (o := some x.value) (x := 0) hO4 (by simp only [go_sem, g4]) (by simp only [go_sem]), ?_⟩
      rw [hof, hgot]
    · have dp : decide (left = x.path) = false := decide_eq_false hp
      rw [if_neg (fun h => hp h.2)] at hgot
      refine AC_seqD TT_ok mixed (by kernel_rfl) (by simp only [go_sem, g6, g8, f49p _ 2 2 rfl, f49p _ 1 1 rfl, hN3.load, apn2, apn1, hh, Bool.not_true, anil_ptr, f119 _ 1 (by decide), hO3.load, ap3_1 _ _ _ 9 rfl, dp] <;> rfl) ?_
      refine AC_t (by simp only [go_sem] <;> rfl) (rfl) ?_
      refine AC_seq ?_
      refine AC_regL ?_
      refine AQ_take TT_ok 1 rfl (by simp only [go_sem, List.map_nil, bz74] <;> rfl) ?_
      refine AQ_store TT_ok TT_74 rfl (by simp only [go_sem, g4] <;> rfl) (by simp only [go_sem] <;> rfl) (Lay.a74 none) rfl hR3 (by show 0 + 2 ≤ 2; decide) (.inl (by omega)) (.inl rfl) fun H4 hX4 hO4 hL4 => ?_
      refine AQ_all TT_ok rfl (by simp only [go_sem] <;> rfl) ?_
      refine AC_ret ⟨.inl rfl, _, fin (o := none) (x := 0) hO4 (by simp only [go_sem, g4]) (by simp only [go_sem]), ?_⟩
      rw [hof, hgot]
  · have hh' : x.has = false := by simpa using hh
    rw [if_neg (fun h => hh h.1)] at hgot
    refine AC_seqD TT_ok mixed (by kernel_rfl) (by simp only [go_sem, g6, g8, f49p _ 2 2 rfl, hN3.load, apn2, hh', Bool.not_false] <;> rfl) ?_
    refine AC_t (by simp only [go_sem] <;> rfl) (rfl) ?_
    refine AC_seq ?_
    refine AC_regL ?_
    refine AQ_take TT_ok 1 rfl (by simp only [go_sem, List.map_nil, bz74] <;> rfl) ?_
    refine AQ_store TT_ok TT_74 rfl (by simp only [go_sem, g4] <;> rfl) (by simp only [go_sem] <;> rfl) (Lay.a74 none) rfl hR3 (by show 0 + 2 ≤ 2; decide) (.inl (by omega)) (.inl rfl) fun H4 hX4 hO4 hL4 => ?_
    refine AQ_all TT_ok rfl (by simp only [go_sem] <;> rfl) ?_
    refine AC_ret ⟨.inl rfl, _, fin (o := none) (x := 0) hO4 (by simp only [go_sem, g4]) (by simp only [go_sem]), ?_⟩
    rw [hof, hgot]
end Go.Proofs.Ythalogdopkoidaa.Ab
set_option linter.unusedVariables false
set_option linter.unusedSimpArgs false
namespace Go.Proofs.Ythalogdopkoidaa.Ab
open Go Go.RowKit Go.Proofs.Ythalogdopkoidaa.Dr
/-- What the nodes of a trie have of a key is what its pairs have. -/
theorem got_eq {t : List Nd} (h : Isw t) (key : List UInt8) : got t key = ((prs t).find? fun p => decide (p.key = key)).map Pr.value := by
  have hT := Trie.of (prs_may t)
  rw [← isw_prs h] at hT
  have G := Gd.isw h
  generalize paths (prs t) = q at hT G
  generalize prs t = l at hT
  by_cases hz : t = []
  · have hl := hT.zp
    rw [hz] at hl
    have hl0 : l = [] := by rw [← hl]; rfl
    rw [got, ways, if_pos hz, hl0]; rfl
  have hp := List.length_pos_iff.2 hz
  have hp' : 0 < q.length := by rw [G.len]; exact hp
  have h0 : q[0] = [] := hT.head _ (List.getElem?_eq_getElem hp')
  have hw : ways t key = wy t t.length 0 (nib key) := by rw [ways, if_neg hz]
  cases hf : l.find? fun p => decide (p.key = key) with
  | none =>
    obtain ⟨j, hj, hj2, e1, e2⟩ := G.wy_back t.length 0 (by omega) hp hp' (nib key)
    rw [h0, List.nil_append] at e2
    rw [got, hw, e1]
    simp only [Option.bind_some, List.getElem?_eq_getElem hj, Option.map_none]
    rw [if_neg]
    rintro ⟨hh, hl⟩
    rw [hl] at e2
    have hm : (⟨key, t[j].value⟩ : Pr) ∈ l := by
      rw [← hT.zp]
      refine List.mem_filterMap.2 ⟨(t[j], q[j]), ?_, ?_⟩
      · have hzl : j < (t.zip q).length := by rw [List.length_zip]; omega
        have := List.getElem_mem hzl
        rwa [List.getElem_zip] at this
      · dsimp only
        rw [if_pos hh, e2, keyOf_nib]; rfl
    have := List.find?_eq_none.1 hf _ hm
    simp at this
  | some p =>
    have hm := List.mem_of_find?_eq_some hf
    have hk : p.key = key := by
      have := List.find?_some hf
      simpa using this
    rw [← hT.zp] at hm
    obtain ⟨z, hzm, hfz⟩ := List.mem_filterMap.1 hm
    obtain ⟨j, hj, rfl⟩ := List.getElem_of_mem hzm
    have hok := hT.zok _ hzm
    rw [List.length_zip] at hj
    rw [List.getElem_zip] at hfz hok
    dsimp only at hfz
    have hj1 : j < t.length := by omega
    have hj2 : j < q.length := by omega
    by_cases hh : t[j].has = true
    · rw [if_pos hh] at hfz
      have hne := hok.2 hh
      dsimp only at hne
      cases hko : keyOf (q[j] ++ t[j].path) with
      | none => exact absurd hko hne
      | some k =>
        rw [hko] at hfz
        have hpe := Option.some.inj hfz
        have hkk : k = key := by rw [← hk, ← hpe]; rfl
        have hn := nib_keyOf hko
        rw [hkk] at hn
        obtain ⟨e1, e2⟩ := G.wy_to (G.root j hj1) hj1 hp' hj2 (nib key) hh (by rw [h0, List.nil_append]; exact hn)
        rw [got, hw, e1]
        simp only [Option.bind_some, List.getElem?_eq_getElem hj1, Option.map_some]
        rw [if_pos ⟨hh, e2⟩, ← hpe]
    · rw [if_neg hh] at hfz; cases hfz
end Go.Proofs.Ythalogdopkoidaa.Ab
set_option linter.unusedVariables false
set_option linter.unusedSimpArgs false
namespace Go.Proofs.Ythalogdopkoidaa.Ab
open Go Go.RowKit Go.Proofs.Ythalogdopkoidaa.Dr
end Go.Proofs.Ythalogdopkoidaa.Ab
set_option linter.unusedVariables false
set_option linter.unusedSimpArgs false
namespace Go.Proofs.Ythalogdopkoidaa.Ab
open Go Go.RowKit Go.Proofs.Ythalogdopkoidaa.Dr
end Go.Proofs.Ythalogdopkoidaa.Ab
set_option linter.unusedVariables false
set_option linter.unusedSimpArgs false
namespace Go.Proofs.Ythalogdopkoidaa.Ab
open Go Go.RowKit Go.Proofs.Ythalogdopkoidaa.Dr
end Go.Proofs.Ythalogdopkoidaa.Ab
set_option linter.unusedVariables false
set_option linter.unusedSimpArgs false
namespace Go.Proofs.Ythalogdopkoidaa.Ab
open Go Go.RowKit Go.Proofs.Ythalogdopkoidaa.Dr
theorem May.kb {l : List Pr} (hm : May l) {p : Pr} (hp : p ∈ l) : kb p.key = true := by
  obtain ⟨h1, h2, _⟩ := hm.1 p hp
  unfold Ab.kb
  rw [decide_eq_true h1, decide_eq_true h2]; rfl
theorem May.find {l : List Pr} (hm : May l) {i : Nat} (hi : i < l.length) : (l.find? fun p => decide (p.key = l[i].key)) = some l[i] :=
  first_at (q := fun k => decide (k = l[i].key)) hi (fun j hj => decide_eq_false fun h => by
    have h2 := hm.at hj hi
    rw [h] at h2
    exact List.lt_irrefl _ h2) (decide_eq_true rfl)
/-- What the trie of pairs has of a key. -/
def fnd (l : List Pr) (key : List UInt8) : Option (List UInt8) := (l.find? fun p => decide (p.key = key)).map Pr.value
theorem of_build {l : List Pr} (hm : May l) {key : List UInt8} (hk : kb key = true) : ofE (build l) key = (fnd l key, 0) := by
  simp only [ofE, if_pos (isw_build hm), if_pos hk, got_eq (isw_build hm), prs_build hm, fnd]
theorem fnd_any (l : List Pr) (key : List UInt8) : (fnd l key).isSome = l.any fun p => decide (p.key = key) := by
  rw [fnd, Option.isSome_map]
  rw [Bool.eq_iff_iff, List.find?_isSome, List.any_eq_true]
theorem f74_0 (i : Nat) : afield TT 74 (.pointer (some ⟨i, 0, none⟩)) 0 = some (.pointer (some ⟨i, 0, none⟩)) := rfl
end Go.Proofs.Ythalogdopkoidaa.Ab
set_option linter.unusedVariables false
set_option linter.unusedSimpArgs false
namespace Go.Proofs.Ythalogdopkoidaa.Ab
open Go Go.RowKit Go.Proofs.Ythalogdopkoidaa.Dr
end Go.Proofs.Ythalogdopkoidaa.Ab
set_option linter.unusedVariables false
set_option linter.unusedSimpArgs false
namespace Go.Proofs.Ythalogdopkoidaa.Ab
open Go Go.RowKit Go.Proofs.Ythalogdopkoidaa.Dr
theorem May.fnd {l : List Pr} (h : May l) {k v : List UInt8} : fnd l k = some v ↔ (⟨k, v⟩ : Pr) ∈ l := by
  unfold Ab.fnd
  constructor
  · intro e
    obtain ⟨p, hp, rfl⟩ := Option.map_eq_some_iff.1 e
    have h1 := List.mem_of_find?_eq_some hp
    have h2 : p.key = k := by simpa using List.find?_some hp
    subst h2
    exact h1
  · intro hm
    obtain ⟨i, hi, e⟩ := List.getElem_of_mem hm
    have := h.find hi
    rw [e] at this
    dsimp only at this
    rw [this]; rfl
/-- A bit of a byte. -/
def bt (n : UInt8) (j : Nat) : Bool := decide ((n >>> UInt8.ofNat j) % 2 = 1)
theorem u64_at {j : Nat} (hj : j < 2^62) (H : AHeap) : aconv TT H 3 53 (.int .i64 (j : Int)) = some (.int .u64 (j : Int)) := by
  simp only [aconv, TT_3, TT_53]
  have : IntKind.u64.wrap (j : Int) = (j : Int) := by
    simp [IntKind.wrap, IntKind.signed, IntKind.bits]
    omega
  rw [this]
/-- The pairs of the bits that are set. -/
def pl1 (key : List UInt8) (n : UInt8) (j : Nat) : Option Pr := if bt n j = true then some ⟨key.take (j + 1), [UInt8.ofNat (j + 1)]⟩ else none
def pl (key : List UInt8) (n : UInt8) (i : Nat) : List Pr := (List.range i).filterMap (pl1 key n)
end Go.Proofs.Ythalogdopkoidaa.Ab
