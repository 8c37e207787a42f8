/- Contracts and plain laws: dropping, putting. No statement of the seat's in it. Condition: none. -/
import Derived.Test.YthalogdopkoidaaZB
import Derived.Test.YthalogdopkoidaaZF
import Derived.Shelf.RegionOpenPlain
import Derived.WalkKit
import Derived.Lib.Walk
import Derived.Lib.SliceRun
import Derived.Lib.AppendZeros
import Derived.Lib.AppendZerosOnto
import Derived.Lib.Overlaps
import Derived.Laws.Externs
import Derived.Laws.IdiomCopy
import Derived.Laws.NewBlocks
set_option linter.unusedVariables false
set_option linter.unusedSimpArgs false
namespace Go.Proofs.Ythalogdopkoidaa.Ab
open Go Go.RowKit Go.Proofs.Ythalogdopkoidaa.Dr
/-- A row of cells of an object's block. -/
def rowed (cur : Array Value) (off : Nat) (xs : List Value) : Array Value := (cur.toList.take off ++ xs ++ cur.toList.drop (off + xs.length)).toArray
theorem rowed_fr (w : World) (b : Nat) (c : Array Value) {perm : Nat → Prop} (hp : perm b) : Fr perm w (w.setRow b c) :=
  ⟨rfl, rfl, rfl, by simp, fun k _ hk => setRow_other w b k _ fun e => hk (by rw [e]; exact hp)⟩
section
variable {P : Program} {T : Tab} {N : Nat} {ok : Nat → Prop} {early : Prop} {o : Oper} {K : Env → AHeap → Prop} {e : Env} {H : AHeap}
end
section
variable {P : Program} {N : Nat} {ok : Nat → Prop} {d : Bool} {late : List Nat} {ops : List Oper} {k : Nat} {l : List Oper} {K : Env → AHeap → Prop} {e e' : Env} {H : AHeap}
  {dst : Option Nat} {ty : TypeId} {pos : String} {af : Array Edge} {gd : Option (Nat × Bool)}
end
end Go.Proofs.Ythalogdopkoidaa.Ab
set_option linter.unusedVariables false
set_option linter.unusedSimpArgs false
namespace Go.Proofs.Ythalogdopkoidaa.Ab
open Go Go.RowKit Go.Proofs.Ythalogdopkoidaa.Dr
/-- Pairs without a key. -/
def del (l : List Pr) (key : List UInt8) : List Pr := l.filter fun p => !decide (p.key = key)
theorem May.del {l : List Pr} (h : May l) (key : List UInt8) : May (Ab.del l key) := ⟨fun p hp => h.1 p (List.mem_filter.1 hp).1, h.2.sublist List.filter_sublist⟩
theorem f52_1 (i : Nat) : afield TT 52 (.pointer (some ⟨i, 0, none⟩)) 1 = some (.pointer (some ⟨i, 1, none⟩)) := rfl
theorem ap52_value (p : Pr) : apart TT 9 p.cells 1 = some (S p.value) := rfl
/-- The function that finds a key: the object in which its key lies. -/
def fk (ki : Nat) : Value := .func (.func 73) #[] #[.pointer (some ⟨ki, 0, none⟩)]
/-- Where a key stands, or that it does not. -/
def Fnd (l : List Pr) (key : List UInt8) (n : Int) : Prop := (∃ i, ∃ hi : i < l.length, n = (i : Int) ∧ l[i].key = key ∧ ∀ p ∈ l.take i, p.key ≠ key) ∨ (n = -1 ∧ ∀ p ∈ l, p.key ≠ key)
end Go.Proofs.Ythalogdopkoidaa.Ab
set_option linter.unusedVariables false
set_option linter.unusedSimpArgs false
namespace Go.Proofs.Ythalogdopkoidaa.Ab
open Go Go.RowKit Go.Proofs.Ythalogdopkoidaa.Dr
/-- A trie without a key; whether that was there; an error. -/
def dropE (t : List Nd) (key : List UInt8) : List Nd × Bool × Int :=
  if Isw t then if kb key = true then (build (del (prs t) key), decide (((del (prs t) key).length : Int) < ((prs t).length : Int)), 0) else ([], false, 9) else ([], false, 1)
end Go.Proofs.Ythalogdopkoidaa.Ab
set_option linter.unusedVariables false
set_option linter.unusedSimpArgs false
namespace Go.Proofs.Ythalogdopkoidaa.Ab
open Go Go.RowKit Go.Proofs.Ythalogdopkoidaa.Dr
def wq : List Pr := [⟨[97], [49]⟩, ⟨[97, 98], [50]⟩]
def wr : List Pr := [⟨[97, 98], [50]⟩]
theorem may_small {l : List Pr} (hm : May l) (h : l.length ≤ 3) : (build l).length < 2^19 ∧ ∀ n ∈ build l, n.path.length < 2^30 := by
  have := build_len l
  exact ⟨by omega, fun n hn => by have := build_path hm n hn; omega⟩
end Go.Proofs.Ythalogdopkoidaa.Ab
set_option linter.unusedVariables false
set_option linter.unusedSimpArgs false
namespace Go.Proofs.Ythalogdopkoidaa.Ab
open Go Go.RowKit Go.Proofs.Ythalogdopkoidaa.Dr
theorem nil_nds (H : AHeap) : NdS H (.slice none 0 0) [] := .inl ⟨rfl, rfl, rfl⟩
end Go.Proofs.Ythalogdopkoidaa.Ab
set_option linter.unusedVariables false
set_option linter.unusedSimpArgs false
namespace Go.Proofs.Ythalogdopkoidaa.Ab
open Go Go.RowKit Go.Proofs.Ythalogdopkoidaa.Dr
section
variable {N : Nat} {ok Msk : Nat → Prop} {ops : List Oper} {late : List Nat} {σ : List (Nat × Bool)} {K : Env → AHeap → Prop} {Hs : AHeap} {e : Env} {H : AHeap} {i0 : Nat}
  {dst : Option Nat} {ty : TypeId} {pos : String} {af : Array Edge} {gd : Option (Nat × Bool)}
end
end Go.Proofs.Ythalogdopkoidaa.Ab
set_option linter.unusedVariables false
set_option linter.unusedSimpArgs false
namespace Go.Proofs.Ythalogdopkoidaa.Ab
open Go Go.RowKit Go.Proofs.Ythalogdopkoidaa.Dr
def ins (l : List Pr) (p : Pr) : List Pr := (l.filter fun x => decide (x.key < p.key)) ++ p :: l.filter fun x => decide (p.key < x.key)
theorem ins_app (a b : List Pr) (p : Pr) : ins (a ++ b) p = (a.filter fun x => decide (x.key < p.key)) ++ (b.filter fun x => decide (x.key < p.key)) ++ p :: ((a.filter fun x => decide (p.key < x.key)) ++ b.filter fun x => decide (p.key < x.key)) := by
  simp only [ins, List.filter_append]
theorem key_irr (k : List UInt8) : ¬ k < k := List.lt_irrefl k
theorem key_asym {a b : List UInt8} (h : a < b) : ¬ b < a := fun h2 => List.lt_irrefl _ (List.lt_trans h h2)
theorem key_tri (a b : List UInt8) : a < b ∨ a = b ∨ b < a := by
  rcases List.le_total a b with h | h
  · rcases List.le_iff_lt_or_eq.1 h with h | h
    · exact .inl h
    · exact .inr (.inl h)
  · rcases List.le_iff_lt_or_eq.1 h with h | h
    · exact .inr (.inr h)
    · exact .inr (.inl h.symm)
theorem filt_all {l : List Pr} {q : Pr → Bool} (h : ∀ x ∈ l, q x = true) : l.filter q = l := List.filter_eq_self.2 h
theorem filt_none {l : List Pr} {q : Pr → Bool} (h : ∀ x ∈ l, q x = false) : l.filter q = [] := List.filter_eq_nil_iff.2 fun x hx => by rw [h x hx]; simp
theorem ins_at {a b : List Pr} {p : Pr} (h1 : ∀ x ∈ a, x.key < p.key) (h2 : ∀ x ∈ b, p.key < x.key) : ins (a ++ b) p = a ++ p :: b := by
  rw [ins_app, filt_all (fun x hx => decide_eq_true (h1 x hx)), filt_none (fun x hx => decide_eq_false (key_asym (h2 x hx))), filt_none (fun x hx => decide_eq_false (key_asym (h1 x hx))), filt_all (fun x hx => decide_eq_true (h2 x hx))]
  simp
theorem ins_mid {a b : List Pr} {x p : Pr} (h1 : ∀ x ∈ a, x.key < p.key) (he : x.key = p.key) (h2 : ∀ x ∈ b, p.key < x.key) : ins (a ++ x :: b) p = a ++ p :: b := by
  have e1 : decide (x.key < p.key) = false := decide_eq_false (by rw [he]; exact key_irr _)
  have e2 : decide (p.key < x.key) = false := decide_eq_false (by rw [he]; exact key_irr _)
  rw [ins_app, List.filter_cons, List.filter_cons, e1, e2, filt_all (fun x hx => decide_eq_true (h1 x hx)), filt_none (fun x hx => decide_eq_false (key_asym (h2 x hx))), filt_none (fun x hx => decide_eq_false (key_asym (h1 x hx))), filt_all (fun x hx => decide_eq_true (h2 x hx))]
  simp
theorem ins_len (l : List Pr) (p : Pr) : (ins l p).length ≤ l.length + 1 := by
  unfold ins
  rw [List.length_append, List.length_cons]
  have : ∀ l : List Pr, (l.filter fun x => decide (x.key < p.key)).length + (l.filter fun x => decide (p.key < x.key)).length ≤ l.length := by
    intro l
    induction l with
    | nil => simp
    | cons x l ih =>
      rw [List.filter_cons, List.filter_cons]
      by_cases h1 : x.key < p.key
      · rw [decide_eq_true h1, decide_eq_false (key_asym h1)]; simp; omega
      · rw [decide_eq_false h1]
        cases decide (p.key < x.key) <;> simp <;> omega
  have := this l
  omega
theorem ins_mem {l : List Pr} {p x : Pr} : x ∈ ins l p ↔ x = p ∨ (x ∈ l ∧ x.key ≠ p.key) := by
  unfold ins
  rw [List.mem_append, List.mem_cons, List.mem_filter, List.mem_filter]
  simp only [decide_eq_true_eq]
  constructor
  · rintro (⟨h1, h2⟩ | h | ⟨h1, h2⟩)
    · exact .inr ⟨h1, fun e => by rw [e] at h2; exact key_irr _ h2⟩
    · exact .inl h
    · exact .inr ⟨h1, fun e => by rw [e] at h2; exact key_irr _ h2⟩
  · rintro (h | ⟨h1, h2⟩)
    · exact .inr (.inl h)
    · rcases key_tri x.key p.key with h | h | h
      · exact .inl ⟨h1, h⟩
      · exact absurd h h2
      · exact .inr (.inr ⟨h1, h⟩)
theorem May.ins {l : List Pr} (hm : May l) {p : Pr} (hp : Pok p) : May (Ab.ins l p) := by
  constructor
  · intro x hx
    rcases ins_mem.1 hx with rfl | ⟨h, _⟩
    · exact hp
    · exact hm.1 x h
  · unfold Ab.ins
    rw [List.pairwise_append, List.pairwise_cons]
    refine ⟨hm.2.sublist List.filter_sublist, ⟨fun y hy => ?_, hm.2.sublist List.filter_sublist⟩, fun x hx y hy => ?_⟩
    · have := (List.mem_filter.1 hy).2
      exact of_decide_eq_true this
    · have h1 := of_decide_eq_true (List.mem_filter.1 hx).2
      rcases List.mem_cons.1 hy with rfl | hy
      · exact h1
      · exact List.lt_trans h1 (of_decide_eq_true (List.mem_filter.1 hy).2)
theorem c90 {H : AHeap} {a : List UInt8} : ACalls Try.prog 90 [S a] H (fun _ => False) fun v H' => v = .bool false ∧ H' = H := by
  refine ACalls_by 6 TT_ok Try.func90 rfl rfl rfl (by simp) ?_
  have d : decide (a = a) = true := decide_eq_true rfl
  refine AC_seqQ TT_ok (by simp only [go_sem] <;> rfl) ?_
  refine AC_seqQ TT_ok (by simp only [go_sem, d, Bool.not_true] <;> rfl) ?_
  exact AC_ret ⟨.inl rfl, _, rfl, by simp only [go_sem], rfl⟩
def cmpk (a b : List UInt8) : Int := if a < b then -1 else if b < a then 1 else 0
theorem cmpk_neg (a b : List UInt8) : decide (cmpk a b < 0) = decide (a < b) := by
  unfold cmpk
  by_cases h : a < b
  · rw [if_pos h, decide_eq_true h]; rfl
  · rw [if_neg h, decide_eq_false h]
    split <;> rfl
theorem cmpk_zero (a b : List UInt8) : decide (cmpk a b = 0) = decide (a = b) := by
  unfold cmpk
  rcases key_tri a b with h | h | h
  · rw [if_pos h]
    exact (decide_eq_false (p := a = b) (fun e => by rw [e] at h; exact key_irr _ h)).symm
  · subst h
    rw [if_neg (key_irr _), if_neg (key_irr _)]
    exact (decide_eq_true (p := a = a) rfl).symm
  · rw [if_neg (key_asym h), if_pos h]
    exact (decide_eq_false (p := a = b) (fun e => by rw [e] at h; exact key_irr _ h)).symm
set_option maxHeartbeats 4000000 in
theorem c86 {H : AHeap} {a b : List UInt8} : ACalls Try.prog 86 [S a, S b] H (fun _ => False) fun v H' => v = .int .i64 (cmpk a b) ∧ H' = H := by
  refine ACalls_by 20 TT_ok Try.func86 rfl rfl rfl (by simp) ?_
  refine AC_seqQ TT_ok (by simp only [go_sem] <;> rfl) ?_
  refine AC_seq ?_
  refine AC_regL ?_
  refine AQ_take TT_ok 1 rfl (by simp only [go_sem] <;> rfl) ?_
  refine AQ_c rfl (by simp only [go_sem] <;> rfl) fok90 (by simp only [List.map_cons, List.map_nil, List.append_nil, go_sem] <;> rfl) (c90) (fun _ _ h => h.elim) (.inl rfl) fun r H1 hX1 ⟨hr, hH⟩ => ?_
  subst hr hH
  refine AQ_all TT_ok rfl (by simp only [go_sem] <;> rfl) ?_
  refine AC_seq ?_
  refine AC_regL ?_
  refine AQ_take TT_ok 1 rfl (by simp only [go_sem] <;> rfl) ?_
  refine AQ_c rfl (by simp only [go_sem] <;> rfl) fok90 (by simp only [List.map_cons, List.map_nil, List.append_nil, go_sem] <;> rfl) (c90) (fun _ _ h => h.elim) (.inl rfl) fun r H1 hX1 ⟨hr, hH⟩ => ?_
  subst hr hH
  refine AQ_all TT_ok rfl (by simp only [go_sem] <;> rfl) ?_
  refine AC_seq ?_
  refine AC_seqQ TT_ok (by simp only [go_sem] <;> rfl) ?_
  refine AC_f (by simp only [go_sem] <;> rfl) (rfl) ?_
  refine AC_skip ?_
  refine AC_seq ?_
  refine AC_seqQ TT_ok (by simp only [go_sem] <;> rfl) ?_
  refine AC_f (by simp only [go_sem] <;> rfl) (rfl) ?_
  refine AC_skip ?_
  unfold cmpk
  by_cases h1 : a < b
  · have d1 : decide (a < b) = true := decide_eq_true h1
    refine AC_seq ?_
    refine AC_seqQ TT_ok (by simp only [go_sem, d1] <;> rfl) ?_
    refine AC_t (by simp only [go_sem] <;> rfl) (rfl) ?_
    refine AC_seqQ TT_ok (by simp only [go_sem] <;> rfl) ?_
    exact AC_ret ⟨.inl rfl, _, rfl, by simp only [go_sem, if_pos h1], rfl⟩
  · have d1 : decide (a < b) = false := decide_eq_false h1
    refine AC_seq ?_
    refine AC_seqQ TT_ok (by simp only [go_sem, d1] <;> rfl) ?_
    refine AC_f (by simp only [go_sem] <;> rfl) (rfl) ?_
    refine AC_skip ?_
    by_cases h2 : b < a
    · have d2 : decide (b < a) = true := decide_eq_true h2
      refine AC_seq ?_
      refine AC_seqQ TT_ok (by simp only [go_sem, d2] <;> rfl) ?_
      refine AC_t (by simp only [go_sem] <;> rfl) (rfl) ?_
      refine AC_seqQ TT_ok (by simp only [go_sem] <;> rfl) ?_
      exact AC_ret ⟨.inl rfl, _, rfl, by simp only [go_sem, if_neg h1, if_pos h2], rfl⟩
    · have d2 : decide (b < a) = false := decide_eq_false h2
      refine AC_seq ?_
      refine AC_seqQ TT_ok (by simp only [go_sem, d2] <;> rfl) ?_
      refine AC_f (by simp only [go_sem] <;> rfl) (rfl) ?_
      refine AC_skip ?_
      refine AC_seqQ TT_ok (by simp only [go_sem] <;> rfl) ?_
      exact AC_ret ⟨.inl rfl, _, rfl, by simp only [go_sem, if_neg h1, if_neg h2], rfl⟩
set_option maxHeartbeats 4000000 in
theorem c85 {H : AHeap} {p : Pr} {b : List UInt8} : ACalls Try.prog 85 [p.val, S b] H (fun _ => False) fun v H' => v = .int .i64 (cmpk p.key b) := by
  refine ACalls_by 9 TT_ok Try.func85 rfl rfl rfl (by simp) ?_
  refine AC_seq ?_
  refine AC_regL ?_
  refine AQ_box TT_ok TT_52 rfl (by simp only [go_sem] <;> rfl) (Lay.pr p) rfl fun H1 hX1 hO1 hL1 => ?_
  refine AQ_all TT_ok rfl (by simp only [go_sem] <;> rfl) ?_
  refine AC_seq ?_
  refine AC_regL ?_
  refine AQ_take TT_ok 3 rfl (by simp only [go_sem, f52_0, hO1.load, ap52_key] <;> rfl) ?_
  refine AQ_c rfl (by simp only [go_sem] <;> rfl) fok86 (by simp only [List.map_cons, List.map_nil, List.append_nil, go_sem] <;> rfl) (c86 (a := p.key) (b := b)) (fun _ _ h => h.elim) (.inl rfl) fun r H2 hX2 ⟨hr, hH⟩ => ?_
  subst hr
  refine AQ_all TT_ok rfl (by simp only [go_sem] <;> rfl) ?_
  exact AC_ret ⟨.inl rfl, _, rfl, by simp only [go_sem]⟩
/-- Where a key stands among rising ones, or would stand. -/
structure Spot (l : List Pr) (key : List UInt8) (i : Nat) : Prop where
  le : i ≤ l.length
  lo : ∀ j (hj : j < l.length), j < i → l[j].key < key
  hi : ∀ j (hj : j < l.length), i ≤ j → ¬ l[j].key < key
theorem u64_back {j : Nat} (hj : j < 2^62) (H : AHeap) : aconv TT H 53 3 (.int .u64 (j : Int)) = some (.int .i64 (j : Int)) := by
  simp only [aconv, TT_3, TT_53]
  rw [wrap64 (by omega) (by omega)]
theorem shr1 (n : Nat) : abinInt .shr .u64 (n : Int) .u64 1 = some (.int .u64 ((n / 2 : Nat) : Int)) := by
  simp only [abinInt]
  rw [if_pos (by omega)]
  show some (Value.int .u64 ((n : Int).fdiv 2)) = _
  rw [Int.fdiv_eq_ediv_of_nonneg _ (by omega)]
  rfl
set_option maxRecDepth 100000 in
set_option maxHeartbeats 8000000 in
theorem c84 {H : AHeap} {vl : Value} {l : List Pr} {key : List UInt8} (hl : PrS H vl l) (hlen : l.length < 2^40) (hm : May l) :
    ACalls Try.prog 84 [vl, S key, .func (.func 85) #[] #[]] H (fun _ => False) fun v H' => ∃ i, Spot l key i ∧ v = .tuple #[.int .i64 (i : Nat), .bool (decide (∃ h : i < l.length, l[i].key = key))] := by
  refine ACalls_by 49 TT_ok Try.func84 rfl rfl rfl (by simp) ?_
  refine AC_seqQ TT_ok (by simp only [go_sem] <;> rfl) ?_
  refine AC_seqQ TT_ok (by simp only [go_sem, hl.alen] <;> rfl) ?_
  refine AC_seqQ TT_ok (by simp only [go_sem] <;> rfl) ?_
  refine AC_cut (fun e' H' => ∃ i, Spot l key i ∧ AExt (fun _ => False) H H' ∧ get e' 0 = vl ∧ get e' 1 = S key ∧ get e' 2 = .func (.func 85) #[] #[] ∧ get e' 8 = .int .i64 (l.length : Nat) ∧ get e' 9 = .int .i64 (i : Nat)) ?_ (fun e1 H1 _ ⟨i, hsp, hX1, g0, g1, g2, g8, g9⟩ => ?_)
  · refine AC_block (AC_loop (fun m e' H' => ∃ i j : Nat, m = j - i ∧ i ≤ j ∧ j ≤ l.length ∧ (∀ x (hx : x < l.length), x < i → l[x].key < key) ∧ (∀ x (hx : x < l.length), j ≤ x → ¬ l[x].key < key) ∧ AExt (fun _ => False) H H' ∧ get e' 0 = vl ∧ get e' 1 = S key ∧ get e' 2 = .func (.func 85) #[] #[] ∧ get e' 8 = .int .i64 (l.length : Nat) ∧ get e' 9 = .int .i64 (i : Nat) ∧ get e' 10 = .int .i64 (j : Nat)) l.length ⟨0, l.length, rfl, by omega, by omega, fun x hx h => by omega, fun x hx h => by omega, AExt.refl _ _, by simp only [go_sem], by simp only [go_sem], by simp only [go_sem], by simp only [go_sem], by simp only [go_sem] <;> simp, by simp only [go_sem]⟩ ?_)
    rintro m e1 H1 _ ⟨i, j, hmi, hij, hjl, hlo, hhi, hX1, g0, g1, g2, g8, g9, g10⟩
    have hl1 := hl.keep hX1
    refine AC_seq ?_
    refine AC_seqQ TT_ok (by simp only [go_sem, g9, g10] <;> rfl) ?_
    by_cases hij' : i < j
    rotate_left
    · refine AC_f (by simp only [go_sem] <;> rfl) (ge_dec (by omega)) ?_
      have hej : i = j := by omega
      subst hej
      exact AC_exit ⟨i, ⟨hjl, hlo, hhi⟩, hX1, by simp only [go_sem, g0], by simp only [go_sem, g1], by simp only [go_sem, g2], by simp only [go_sem, g8], by simp only [go_sem, g9]⟩
    refine AC_t (by simp only [go_sem] <;> rfl) (lt_dec hij') ?_
    refine AC_skip ?_
    have w1 := wrapNN (x := (i : Int) + (j : Int)) (m := i + j) (by omega) (by omega)
    refine AC_block ?_
    refine AC_seqQ TT_ok (by simp only [go_sem, g9, g10, w1, u64_at (j := i + j) (by omega) H1, shr1, u64_back (j := (i + j) / 2) (by omega) H1] <;> rfl) ?_
    have hh1 : i ≤ (i + j) / 2 := by omega
    have hh2 : (i + j) / 2 < j := by omega
    generalize (i + j) / 2 = h at *
    have hhl : h < l.length := by omega
    have a1 := hl1.index (k := .i64) (j := (h : Int)) (by omega) (by omega)
    rw [Int.toNat_natCast] at a1
    have a2 := hl1.load hhl
    have k5 := wrapN h (by omega)
    refine AC_seq ?_
    refine AC_regL ?_
    refine AQ_take TT_ok 6 rfl (by simp only [go_sem, g0, g1, g2, a1, a2] <;> rfl) ?_
    refine AQ_c rfl (by simp only [go_sem] <;> rfl) fok85 (by simp only [List.map_cons, List.map_nil, List.append_nil, go_sem] <;> rfl) (c85 (p := l[h]) (b := key)) (fun _ _ h => h.elim) (.inl rfl) fun r H2 hX2 hr => ?_
    subst hr
    have hcn := cmpk_neg l[h].key key
    by_cases hk : l[h].key < key
    · rw [decide_eq_true hk] at hcn
      refine AQ_all TT_ok rfl (by simp only [go_sem, hcn] <;> rfl) ?_
      refine AC_t (by simp only [go_sem] <;> rfl) (rfl) ?_
      refine AC_quiet TT_ok (by simp only [go_sem, k5] <;> rfl) ?_
      refine ⟨j - (h + 1), by omega, h + 1, j, rfl, by omega, hjl, fun x hx hxh => ?_, hhi, hX1.trans hX2, by simp only [go_sem, g0], by simp only [go_sem, g1], by simp only [go_sem, g2], by simp only [go_sem, g8], by simp only [go_sem], by simp only [go_sem, g10]⟩
      rcases Nat.lt_or_ge x h with h1 | h1
      · exact List.lt_trans (hm.at h1 hhl) hk
      · have : x = h := by omega
        subst this; exact hk
    · rw [decide_eq_false hk] at hcn
      refine AQ_all TT_ok rfl (by simp only [go_sem, hcn] <;> rfl) ?_
      refine AC_f (by simp only [go_sem] <;> rfl) (rfl) ?_
      refine AC_quiet TT_ok (by simp only [go_sem] <;> rfl) ?_
      refine ⟨h - i, by omega, i, h, rfl, hh1, by omega, hlo, fun x hx hxh => ?_, hX1.trans hX2, by simp only [go_sem, g0], by simp only [go_sem, g1], by simp only [go_sem, g2], by simp only [go_sem, g8], by simp only [go_sem, g9], by simp only [go_sem]⟩
      rcases Nat.lt_or_ge h x with h1 | h1
      · exact fun h2 => hk (List.lt_trans (hm.at h1 hx) h2)
      · have : x = h := by omega
        subst this; exact hk
  · have hl1 := hl.keep hX1
    have hle := hsp.le
    by_cases hi : i < l.length
    · have di : decide ((i : Int) < (l.length : Int)) = true := decide_eq_true (by omega)
      have a1 := hl1.index (k := .i64) (j := (i : Int)) (by omega) (by omega)
      rw [Int.toNat_natCast] at a1
      have a2 := hl1.load hi
      have hcz := cmpk_zero l[i].key key
      have hde : decide (∃ h : i < l.length, l[i].key = key) = decide (l[i].key = key) := decide_eq_decide.2 ⟨fun ⟨_, h⟩ => h, fun h => ⟨hi, h⟩⟩
      refine AC_seq ?_
      refine AC_regL ?_
      refine AQ_take TT_ok 11 rfl (by simp only [go_sem, g0, g1, g2, g8, g9, di, a1, a2] <;> rfl) ?_
      refine AQ_c rfl (by simp only [go_sem] <;> rfl) fok85 (by simp only [List.map_cons, List.map_nil, List.append_nil, go_sem] <;> rfl) (c85 (p := l[i]) (b := key)) (fun _ _ h => h.elim) (.inl rfl) fun r H2 hX2 hr => ?_
      subst hr
      refine AQ_all TT_ok rfl (by simp only [go_sem, hcz] <;> rfl) ?_
      exact AC_ret ⟨.inl rfl, _, rfl, i, hsp, by simp only [go_sem]; rw [hde]⟩
    · have di : decide ((i : Int) < (l.length : Int)) = false := decide_eq_false (by omega)
      have hde : decide (∃ h : i < l.length, l[i].key = key) = false := decide_eq_false (fun ⟨h, _⟩ => hi h)
      refine AC_seq ?_
      refine AC_regL ?_
      refine AQ_take TT_ok 11 rfl (by simp only [go_sem, g0, g1, g2, g8, g9, di] <;> rfl) ?_
      refine AQ_pass rfl ?_
      refine AQ_all TT_ok rfl (by simp only [go_sem] <;> rfl) ?_
      exact AC_ret ⟨.inl rfl, _, rfl, i, hsp, by simp only [go_sem]; rw [hde]⟩
end Go.Proofs.Ythalogdopkoidaa.Ab
set_option linter.unusedVariables false
set_option linter.unusedSimpArgs false
namespace Go.Proofs.Ythalogdopkoidaa.Ab
open Go Go.RowKit Go.Lib Go.Proofs
theorem run_copy_rowk {P : Program} (w : World) (dT sT ty elem : TypeId) (g o dLen dCap k : Nat) (a : Addr) (sLen sCap : Nat) (cur : Array Value) (t : TypeId) (cs : List Value)
    (hu : P.underlying dT = some (.slice elem)) (hs : (P.info? elem).map (·.size) = some k)
    (hg : w.heap[g]? = some (.cells cur t (0, 0))) (hn : cs.length = Nat.min sLen dLen * k)
    (hsrc : ∀ j v, cs[j]? = some v → w.cell? (a.add j) = some v) (hfit : o + cs.length ≤ cur.size) (h1 : ∀ v ∈ cs, v.oneCell' = true) :
    (Builtin.copy_ #[dT, sT] ty #[.slice (some ⟨g, o, none⟩) dLen dCap, .slice (some a) sLen sCap]).run P w =
      .ok (goInt (Nat.min sLen dLen)) (w.setRow g (rowed cur o cs)) := by
  have hl := run_loadCells_list (P := P) w a cs hsrc
  have hst := run_storeCells_at P g o t cs 0 cur w hg (by simpa using hfit) h1
  cases hq : P.info? elem with
  | none => simp [hq] at hs
  | some i =>
    have hi : i.size = k := by simpa [hq] using hs
    simp [Builtin.copy_, run_underlying hu, Builtin.lenOf, Builtin.firstCells, sizeOf, typeInfo, hq, hi, ← hn, hl, hst, rowed]
/-- The operation 'copy(d, s)', its run known. -/
theorem wpList_copyk {P : Program} (w : World) {ops : Array Oper} {rest : List Oper} {o : Oper} {a : Act} {Q : Exit → Act → World → Prop} (hgd : o.guard = none) (d s : Operand) (t t' : TypeId)
    (ho : o.op = .call { callee := .builtin .copy, args := #[d, s], argTypes := #[t, t'] }) (v u : Value) (hd : a.eval d = v) (hs : a.eval s = u) {v' : Value} {w' : World}
    (hr : (Builtin.copy_ #[t, t'] o.type #[v, u]).run P w = .ok v' w') (h : wpList P ops Q rest (a.put o.dst v') w') : wpList P ops Q (o :: rest) a w :=
  wpList_plain hgd fun _ hK => by
    unfold Oper.wp execOp
    simp only [ho, resolve, invoke, builtin, Sem.run_bind, Sem.run_pure, Result.andThen_ok, List.map_toArray, List.map_cons, List.map_nil, hd, hs, hr]
    exact hK _ _ h
theorem step_copyk {P : Program} {ops : Array Oper} {o : Oper} {a : Act} {w : World} {K : Act → World → Prop} {Q : Exit → Act → World → Prop} {E : Prop}
    (hg : o.guard = none) (d x : Operand) (dT sT : TypeId) (hop : o.op = Op.call { callee := Callee.builtin Builtin.copy, args := #[d, x], argTypes := #[dT, sT] })
    (v u : Value) (hd : a.eval d = v) (hx : a.eval x = u) {v' : Value} {w' : World} (hr : (Builtin.copy_ #[dT, sT] o.type #[v, u]).run P w = .ok v' w') (hK : K (a.put o.dst v') w') :
    if Region.wanted o (yielded ops a.tmps) = true then Oper.wp P o a w K Q else E := by
  have hw : Region.wanted o (yielded ops a.tmps) = true := by simp [Region.wanted, hg]
  rw [if_pos hw]
  unfold Oper.wp
  simp [execOp, hop, resolve, invoke, builtin, hd, hx, hr, Result.andThen]
  exact hK
theorem overlaps_no (w : World) {b vb o vc lb cb : Nat} {cur curv : Array Value} (hne : vb ≠ b) (hg : w.heap[b]? = some (.cells cur 52 (0, 0))) (h0 : cur.size ≠ 0) (hgv : w.heap[vb]? = some (.cells curv 52 (0, 0))) :
    (callFunc 91 #[.slice (some ⟨vb, 0, none⟩) 1 vc, .slice (some ⟨b, o, none⟩) lb cb]).run Try.prog w = .ok (.value (.bool false)) w := by
  rw [run_callFunc_extern Try.func91 (by kernel_rfl) (by kernel_rfl) (by kernel_rfl) (e := Extern.SlicesOverlaps.overlaps #[22, 22] #[4]) (by kernel_rfl),
    run_overlaps_apart w 22 4 52 Try.underlying22 2 Try.sizeOf52 ⟨vb, 0, none⟩ ⟨b, o, none⟩ 1 vc lb cb hne 52 52 curv.size cur.size (by simp [World.shape?, hgv]) (by simp [World.shape?, hg]) h0 (by simp [World.frozen?, hgv]) (by simp [World.frozen?, hgv])]
  rfl
set_option maxHeartbeats 4000000 in
set_option maxRecDepth 100000 in
/-- There is room. -/
theorem insert_room (b n c i vb vc : Nat) (w : World) (hi : i < n) (hn : n < 1073741824) (hroom : n + 1 ≤ c) (hc63 : c ≤ 9223372036854775807) (R1 R2 : Array Value) (m1 m2 : Int)
    (hov : ∀ lb cb o, (callFunc 91 #[.slice (some ⟨vb, 0, none⟩) 1 vc, .slice (some ⟨b, o, none⟩) lb cb]).run Try.prog w = .ok (.value (.bool false)) w)
    (hcp1 : ∀ ty dc sc, (Builtin.copy_ #[22, 22] ty #[.slice (some ⟨b, (i + 1) * 2, none⟩) (n - i) dc, .slice (some ⟨b, i * 2, none⟩) (n + 1 - i) sc]).run Try.prog w.drew = .ok (.int .i64 m1) (w.drew.setRow b R1))
    (hcp2 : ∀ ty dc, (Builtin.copy_ #[22, 22] ty #[.slice (some ⟨b, i * 2, none⟩) (n + 1 - i) dc, .slice (some ⟨vb, 0, none⟩) 1 vc]).run Try.prog (w.drew.setRow b R1) = .ok (.int .i64 m2) ((w.drew.setRow b R1).setRow b R2)) :
    Calls Try.prog 87 #[.slice (some ⟨b, 0, none⟩) n c, .int .i64 i, .slice (some ⟨vb, 0, none⟩) 1 vc] w fun e w' => e = .returned (.slice (some ⟨b, 0, none⟩) (n + 1) c) ∧ w' = (w.drew.setRow b R1).setRow b R2 := by
  have hz2 : ¬ ((i : Int) = (n : Int)) := by omega
  have hw1 : IntKind.i64.wrap ((i : Int) + 1) = (i : Int) + 1 := by rw [IntKind.wrap_i64]; omega
  have hw2 : IntKind.i64.wrap ((n : Int) + 1) = (n : Int) + 1 := by rw [IntKind.wrap_i64]; omega
  have hb1 : (0 : Int) ≤ (i : Int) + 1 := by omega
  have hin : i ≤ n := by omega
  have htn : ((i : Int) + 1).toNat = i + 1 := by omega
  have htm : ((n : Int) + 1).toNat = n + 1 := by omega
  have hb2 : ¬ (c = i + 1) := by omega
  have hb3 : (i : Int) ≤ (n : Int) + 1 := by omega
  have hb4 : ¬ (c = i) := by omega
  have mixed := Go.Proofs.Ythalogdopkoidaa.Ab.mixed
  go_enter Try.func87, Try.ntmps87
  go_wp2_with (simp only [hov])
  go_region_law_o (refine step_copyk rfl _ _ 22 22 rfl _ _ (by simp [Act.eval, Act.put]) (by simp [Act.eval, Act.put]) (hcp1 _ _ _) ?_)
  go_wp2_with (at_builtin; refine wpList_copyk _ rfl _ _ 22 22 rfl _ _ rfl rfl (hcp2 _ _) ?_)
  go_ret
  exact ⟨rfl, rfl⟩
set_option maxHeartbeats 4000000 in
set_option maxRecDepth 100000 in
/-- There is none. -/
theorem insert_grow (b n c i vb vc nb G : Nat) (w W1 W2 W3 : World) (hi : i < n) (hn : n < 1073741824) (hnc : n ≤ c) (hroom : c < n + 1) (hG : n + 1 ≤ G) (hG63 : G ≤ 9223372036854775807) (m1 m2 : Int)
    (hrz : ∀ ty, (Builtin.append_ #[22, 3] ty #[.slice (some ⟨b, 0, none⟩) i c, .int .i64 ((n : Int) + 1 - (i : Int))]).run Try.prog w = .ok (.slice (some ⟨nb, 0, none⟩) (n + 1) G) W1)
    (hcpA : ∀ ty dc, (Builtin.copy_ #[22, 22] ty #[.slice (some ⟨nb, i * 2, none⟩) (n + 1 - i) dc, .slice (some ⟨vb, 0, none⟩) 1 vc]).run Try.prog W1 = .ok (.int .i64 m1) W2)
    (hcpB : ∀ ty dc sc, (Builtin.copy_ #[22, 22] ty #[.slice (some ⟨nb, (i + 1) * 2, none⟩) (n - i) dc, .slice (some ⟨b, i * 2, none⟩) (n - i) sc]).run Try.prog W2.drew = .ok (.int .i64 m2) W3) :
    Calls Try.prog 87 #[.slice (some ⟨b, 0, none⟩) n c, .int .i64 i, .slice (some ⟨vb, 0, none⟩) 1 vc] w fun e w' => e = .returned (.slice (some ⟨nb, 0, none⟩) (n + 1) G) ∧ w' = W3 := by
  have hz2 : ¬ ((i : Int) = (n : Int)) := by omega
  have hz3 : (c : Int) < (n : Int) + 1 := by omega
  have hw1 : IntKind.i64.wrap ((i : Int) + 1) = (i : Int) + 1 := by rw [IntKind.wrap_i64]; omega
  have hw2 : IntKind.i64.wrap ((n : Int) + 1) = (n : Int) + 1 := by rw [IntKind.wrap_i64]; omega
  have hw3 : IntKind.i64.wrap ((n : Int) + 1 - (i : Int)) = (n : Int) + 1 - (i : Int) := by rw [IntKind.wrap_i64]; omega
  have hb1 : (0 : Int) ≤ (i : Int) + 1 := by omega
  have hin : i ≤ n := by omega
  have htn : ((i : Int) + 1).toNat = i + 1 := by omega
  have htm : ((n : Int) + 1).toNat = n + 1 := by omega
  have hb3 : (i : Int) ≤ (n : Int) := by omega
  have hGi : ¬ (G = i) := by omega
  have hGim : ¬ (G = i + 1) := by omega
  have hci : ¬ (c = i) := by omega
  have mixed := Go.Proofs.Ythalogdopkoidaa.Ab.mixed
  go_enter Try.func87, Try.ntmps87
  go_wp2_with (first
    | (at_builtin; refine Lib.wpList_append_run _ rfl _ _ _ _ rfl _ _ rfl rfl _ _ (hrz _) ?_)
    | (at_builtin; refine wpList_copyk _ rfl _ _ 22 22 rfl _ _ rfl rfl (hcpA _ _) ?_))
  go_region_law_o (refine step_copyk rfl _ _ 22 22 rfl _ _ (by simp [Act.eval, Act.put]) (by simp [Act.eval, Act.put]) (hcpB _ _ _) ?_)
  go_wp2
  go_ret
  exact ⟨rfl, rfl⟩
end Go.Proofs.Ythalogdopkoidaa.Ab
set_option linter.unusedVariables false
set_option linter.unusedSimpArgs false
namespace Go.Proofs.Ythalogdopkoidaa.Ab
open Go Go.RowKit Go.Lib Go.Proofs Go.Proofs.Ythalogdopkoidaa.Dr
theorem setRow_alloc (w : World) (c c' : Array Value) (t : TypeId) : (w.alloc (.cells c t)).setRow w.heap.size c' = w.alloc (.cells c' t) := by
  unfold World.setRow World.alloc
  dsimp only
  congr 1
  apply Array.ext_getElem?
  intro k
  rw [Array.getElem?_modify, Array.getElem?_push, Array.getElem?_push]
  by_cases hk : w.heap.size = k
  · subst hk; simp
  · rw [if_neg hk, if_neg (Ne.symm hk), if_neg (Ne.symm hk)]
theorem drew_alloc (w : World) (o : Obj) : (w.alloc o).drew = w.drew.alloc o := rfl
theorem rowed_list (cur : Array Value) (off : Nat) (xs : List Value) : (rowed cur off xs).toList = cur.toList.take off ++ xs ++ cur.toList.drop (off + xs.length) := rfl
theorem rowed_size {cur : Array Value} {off : Nat} {xs : List Value} (h : off + xs.length ≤ cur.size) : (rowed cur off xs).size = cur.size := by
  have : (rowed cur off xs).toList.length = cur.toList.length := by
    rw [rowed_list, List.length_append, List.length_append, List.length_take, List.length_drop]
    simp only [Array.length_toList]
    omega
  simpa using this
theorem cell_row {w : World} {g : Nat} {cur : Array Value} {t : TypeId} (hg : w.heap[g]? = some (.cells cur t (0, 0))) (o : Nat) {xs : List Value} (h : ∀ j v, xs[j]? = some v → cur[o + j]? = some v) : ∀ j v, xs[j]? = some v → w.cell? ((⟨g, o, none⟩ : Addr).add j) = some v := fun j v hj => by
  have e : (⟨g, o, none⟩ : Addr).add j = ⟨g, o + j, none⟩ := Addr.add_lit ..
  rw [e, cell_of_row w g (o + j) cur t (0, 0) hg]
  exact h j v hj
theorem RL.sub {β : List Loc} {a : List Value} {cur : List Value} (h : ∀ (k : Nat) (v : Value), a[k]? = some v → ∃ v', cur[k]? = some v' ∧ R β v v') : RL β a (cur.take a.length) := by
  have hle : a.length ≤ cur.length := by
    rcases Nat.eq_zero_or_pos a.length with h0 | h0
    · omega
    · obtain ⟨v', hv, _⟩ := h (a.length - 1) _ (List.getElem?_eq_getElem (by omega))
      have := (List.getElem?_eq_some_iff.1 hv).1
      omega
  refine ⟨by rw [List.length_take]; omega, fun j v v' h1 h2 => ?_⟩
  obtain ⟨u, hu, hR⟩ := h j v h1
  rw [List.getElem?_take] at h2
  split at h2
  · rw [hu] at h2
    obtain rfl := Option.some.inj h2
    exact hR
  · cases h2
theorem RL.one {β : List Loc} {a a' : List Value} (h : RL β a a') (hf : ∀ v ∈ a, Ab.flat v = true) : ∀ v ∈ a', v.oneCell' = true := fun v hv => by
  obtain ⟨j, hj, rfl⟩ := List.mem_iff_getElem.1 hv
  have hj' : j < a.length := by rw [h.1]; exact hj
  exact (h.2 j _ _ (List.getElem?_eq_getElem hj') (List.getElem?_eq_getElem hj)).one (hf _ (List.getElem_mem hj'))
theorem pr_flat (l : List Pr) : ∀ v ∈ l.flatMap Pr.cells, Ab.flat v = true := fun v hv => by
  obtain ⟨p, _, hp⟩ := List.mem_flatMap.1 hv
  simp only [Pr.cells, List.mem_cons, List.not_mem_nil, or_false] at hp
  rcases hp with rfl | rfl <;> rfl
set_option maxRecDepth 100000 in
set_option maxHeartbeats 8000000 in
/-- Ahead of one that is there. -/
theorem c87_in {H : AHeap} {l : List Pr} {i ib iv : Nat} {p : Pr} {v : Value} (hV : Own H v 52 l.length (l.flatMap Pr.cells) ib) (hi : i < l.length) (hlen : l.length < 1073741824) {vv : Value} (hP : Own H vv 52 1 p.cells iv) (hne : ib ≠ iv) :
    ACalls Try.prog 87 [v, .int .i64 (i : Nat), vv] H (fun j => vid v = some j) fun r H' => PrB H' r (l.take i ++ p :: l.drop i) ∧ ∀ j, vid r = some j → H.length ≤ j := by
  intro w β args' hR hI
  have hvid := hV.vid
  obtain ⟨rfl, cells, hob, hcl, hct⟩ := hV
  obtain ⟨rfl, cellv, hov, hvl, hvt⟩ := hP
  -- the arguments
  have hal : args'.length = 3 := by rw [← hR.1]; rfl
  obtain ⟨s', i', v', rfl⟩ : ∃ a b c, args' = [a, b, c] := by
    match args', hal with
    | [a, b, c], _ => exact ⟨a, b, c, rfl⟩
  have hs := hR.2 0 _ _ rfl rfl
  have hii := hR.2 1 _ _ rfl rfl
  have hvv := hR.2 2 _ _ rfl rfl
  cases hii
  generalize hn : l.length = n at *
  obtain ⟨b, d, r, hβ⟩ := hI.loc hob
  obtain ⟨vb, dv, rv, hβv⟩ := hI.loc hov
  have hB := hI.obj ib _ b d r hob hβ
  have hBv := hI.obj iv _ vb dv rv hov hβv
  obtain ⟨rfl, hr63, cur, inf, hcur, hinf, hsz⟩ := hB.own rfl
  obtain ⟨rfl, _, curv, _, hcurv, _, _⟩ := hBv.own rfl
  have hbv : b ≠ vb := hI.sep ib iv _ _ b 0 r vb 0 rv hob hov hne rfl hβ hβv
  have hi2 : inf.size = 2 := by
    obtain ⟨q, z, hq, hq1, _⟩ := TT_ok.info 52 _ TT_52
    rw [hinf] at hq
    rw [Option.some.inj hq, hq1]
  rw [hi2] at hsz
  obtain ⟨vc, rfl⟩ : ∃ vc, v' = .slice (some ⟨vb, 0, none⟩) 1 vc := by
    cases hvv with
    | @slice _ _ _ c b' d' r' h' hc ho =>
      rw [hβv] at h'
      obtain ⟨rfl, rfl, rfl⟩ : vb = b' ∧ 0 = d' ∧ rv = r' := by simpa using h'
      exact ⟨c, rfl⟩
  obtain ⟨hnr, rfl⟩ : n ≤ r ∧ s' = .slice (some ⟨b, 0, none⟩) n r := by
    cases hs with
    | @slice _ _ _ c b' d' r' h' hc ho =>
      rw [hβ] at h'
      obtain ⟨rfl, rfl, rfl⟩ : b = b' ∧ 0 = d' ∧ r = r' := by simpa using h'
      have := ho rfl
      subst this
      exact ⟨hc, rfl⟩
    | empty a a' => omega
  -- what lies there
  have hlc : (l.flatMap Pr.cells).length = n * 2 := by rw [rows_length Pr.len, hn]
  have hat : ∀ (k : Nat) (v : Value), (l.flatMap Pr.cells)[k]? = some v → ∃ v', cur.toList[k]? = some v' ∧ R β v v' := fun k v hk => by
    have hk' : cells[k]? = some v := by
      have : (cells.take (l.flatMap Pr.cells).length)[k]? = some v := by rw [hct]; exact hk
      rw [List.getElem?_take] at this
      split at this
      · exact this
      · cases this
    obtain ⟨v', h1, h2⟩ := hB.at_ k v hk'
    rw [Nat.zero_add, cell_of_row w b k cur 52 (0, 0) hcur] at h1
    exact ⟨v', by simpa using h1, h2⟩
  have hRL := RL.sub hat
  rw [hlc] at hRL
  have hone := RL.one hRL (pr_flat l)
  have hatv : ∀ (k : Nat) (v : Value), p.cells[k]? = some v → ∃ v', curv.toList[k]? = some v' ∧ R β v v' := fun k v hk => by
    have hk' : cellv[k]? = some v := by
      have : (cellv.take p.cells.length)[k]? = some v := by rw [hvt]; exact hk
      rw [List.getElem?_take] at this
      split at this
      · exact this
      · cases this
    obtain ⟨v', h1, h2⟩ := hBv.at_ k v hk'
    rw [Nat.zero_add, cell_of_row w vb k curv 52 (0, 0) hcurv] at h1
    exact ⟨v', by simpa using h1, h2⟩
  have hRLv := RL.sub hatv
  have hpl : p.cells.length = 2 := rfl
  rw [hpl] at hRLv
  have honev := RL.one hRLv (fun v hv => pr_flat [p] v (by simpa using hv))
  obtain ⟨xs, hxs⟩ : ∃ xs, xs = curv.toList.take 2 := ⟨_, rfl⟩
  rw [← hxs] at hRLv honev
  have hxl : xs.length = 2 := by rw [← hRLv.1]; rfl
  have hxc : ∀ j v, xs[j]? = some v → curv[0 + j]? = some v := fun j v hj => by
    rw [hxs, List.getElem?_take] at hj
    rw [Nat.zero_add]
    split at hj
    · simpa using hj
    · cases hj
  have hcs : n * 2 ≤ cur.size := by rw [hsz]; omega
  -- what is moved
  obtain ⟨ms, hms⟩ : ∃ ms, ms = (cur.toList.take (n * 2)).drop (i * 2) := ⟨_, rfl⟩
  have hml : ms.length = (n - i) * 2 := by rw [hms, List.length_drop, List.length_take]; simp only [Array.length_toList]; omega
  have hmone : ∀ v ∈ ms, v.oneCell' = true := fun v hv => hone v (by rw [hms] at hv; exact List.mem_of_mem_drop hv)
  have hmc : ∀ j v, ms[j]? = some v → cur[i * 2 + j]? = some v := fun j v hj => by
    rw [hms, List.getElem?_drop, List.getElem?_take] at hj
    split at hj
    · simpa using hj
    · cases hj
  have hinfo : (Try.prog.info? 52).map (·.size) = some 2 := by rw [hinf]; simp [hi2]
  -- the row behind it
  have hnew : (l.take i ++ p :: l.drop i).flatMap Pr.cells = (l.flatMap Pr.cells).take (i * 2) ++ p.cells ++ (l.flatMap Pr.cells).drop (i * 2) := by
    rw [rows_take Pr.len, rows_drop Pr.len, List.flatMap_append, List.flatMap_cons, List.append_assoc]
  have hRLn : RL β ((l.take i ++ p :: l.drop i).flatMap Pr.cells) (cur.toList.take (i * 2) ++ xs ++ ms) := by
    rw [hnew]
    refine RL.append (RL.append ?_ hRLv) ?_
    · have := hRL.take (i * 2)
      rw [List.take_take, Nat.min_eq_left (by omega)] at this
      exact this
    · rw [hms]; exact hRL.drop (i * 2)
  have hnl : (cur.toList.take (i * 2) ++ xs ++ ms).length = (n + 1) * 2 := by
    rw [List.length_append, List.length_append, List.length_take, hxl, hml]
    simp only [Array.length_toList]
    omega
  have hnlen : (l.take i ++ p :: l.drop i).length = n + 1 := by
    rw [List.length_append, List.length_cons, List.length_take, List.length_drop]; omega
  have fin : ∀ R2 : Array Value, (∃ t, R2.toList = cur.toList.take (i * 2) ++ xs ++ ms ++ t) → ∀ (k : Nat) (v : Value), ((l.take i ++ p :: l.drop i).flatMap Pr.cells)[k]? = some v → ∃ v', R2[k]? = some v' ∧ R β v v' := fun R2 ⟨t, ht⟩ k v hk => by
    have hk2 : k < (cur.toList.take (i * 2) ++ xs ++ ms).length := by rw [← hRLn.1]; exact (List.getElem?_eq_some_iff.1 hk).1
    refine ⟨_, ?_, hRLn.2 k v _ hk (List.getElem?_eq_getElem hk2)⟩
    have : R2.toList[k]? = some (cur.toList.take (i * 2) ++ xs ++ ms)[k] := by
      rw [ht, List.getElem?_append_left hk2]; exact List.getElem?_eq_getElem hk2
    simpa using this
  have hflat := pr_flat (l.take i ++ p :: l.drop i)
  by_cases hroom : n + 1 ≤ r
  · -- in place
    have hr2 : (n + 1) * 2 ≤ cur.size := by rw [hsz]; omega
    have f1 : (i + 1) * 2 + ms.length ≤ cur.size := by rw [hml]; omega
    have s1 : (rowed cur ((i + 1) * 2) ms).size = cur.size := rowed_size f1
    have f2 : i * 2 + xs.length ≤ (rowed cur ((i + 1) * 2) ms).size := by rw [hxl, s1]; omega
    have hcd : w.drew.heap[b]? = some (.cells cur 52 (0, 0)) := hcur
    have hc1 : (w.drew.setRow b (rowed cur ((i + 1) * 2) ms)).heap[b]? = some (.cells (rowed cur ((i + 1) * 2) ms) 52 (0, 0)) := setRow_heap _ _ _ _ _ _ hcd
    have hcv1 : (w.drew.setRow b (rowed cur ((i + 1) * 2) ms)).heap[vb]? = some (.cells curv 52 (0, 0)) := by rw [setRow_other _ _ _ _ (Ne.symm hbv)]; exact hcurv
    have hmin1 : Nat.min (n + 1 - i) (n - i) = n - i := by simp only [Nat.min_def]; split <;> omega
    have hmin2 : Nat.min 1 (n + 1 - i) = 1 := by simp only [Nat.min_def]; split <;> omega
    have key := insert_room b n r i vb vc w hi (by omega) hroom (by unfold maxLen at hr63; omega) (rowed cur ((i + 1) * 2) ms) (rowed (rowed cur ((i + 1) * 2) ms) (i * 2) xs) _ _
      (fun lb cb o => overlaps_no w (Ne.symm hbv) hcur (by omega) hcurv)
      (fun ty dc sc => by
        have h := run_copy_rowk (P := Try.prog) w.drew 22 22 ty 52 b ((i + 1) * 2) (n - i) dc 2 ⟨b, i * 2, none⟩ (n + 1 - i) sc cur 52 ms Try.underlying22 hinfo hcd (by rw [hmin1, hml]) (cell_row hcd (i * 2) hmc) f1 hmone
        exact h)
      (fun ty dc => by
        have h := run_copy_rowk (P := Try.prog) (w.drew.setRow b (rowed cur ((i + 1) * 2) ms)) 22 22 ty 52 b (i * 2) (n + 1 - i) dc 2 ⟨vb, 0, none⟩ 1 vc (rowed cur ((i + 1) * 2) ms) 52 xs Try.underlying22 hinfo hc1 (by rw [hmin2, hxl]) (cell_row hcv1 0 hxc) f2 honev
        exact h)
    refine key.mono fun en w' ⟨he, hw'⟩ => ?_
    have hw2 : w' = w.drew.setRow b (rowed (rowed cur ((i + 1) * 2) ms) (i * 2) xs) := by rw [hw', setRow_setRow]
    have hR2 : ∃ t, (rowed (rowed cur ((i + 1) * 2) ms) (i * 2) xs).toList = cur.toList.take (i * 2) ++ xs ++ ms ++ t := by
      refine ⟨cur.toList.drop ((i + 1) * 2 + ms.length), ?_⟩
      rw [rowed_list, rowed_list, hxl]
      have e1 : (cur.toList.take ((i + 1) * 2) ++ ms ++ cur.toList.drop ((i + 1) * 2 + ms.length)).take (i * 2) = cur.toList.take (i * 2) := by
        rw [List.append_assoc, List.take_append_of_le_length (by rw [List.length_take]; simp only [Array.length_toList]; omega), List.take_take, Nat.min_eq_left (by omega)]
      have e2 : (cur.toList.take ((i + 1) * 2) ++ ms ++ cur.toList.drop ((i + 1) * 2 + ms.length)).drop (i * 2 + 2) = ms ++ cur.toList.drop ((i + 1) * 2 + ms.length) := by
        have : i * 2 + 2 = (cur.toList.take ((i + 1) * 2)).length := by rw [List.length_take]; simp only [Array.length_toList]; omega
        rw [this, List.append_assoc, List.drop_left]
      rw [e1, e2, List.append_assoc, List.append_assoc, List.append_assoc]
    have hrow : w'.heap[b]? = some (.cells (rowed (rowed cur ((i + 1) * 2) ms) (i * 2) xs) 52 (0, 0)) := by rw [hw2]; exact setRow_heap _ _ _ _ _ _ hcd
    have hsz2 : w'.heap.size = w.heap.size := by rw [hw2, setRow_size]; rfl
    have hoth : ∀ k, k < w.heap.size → k ≠ b → w'.heap[k]? = w.heap[k]? := fun k _ hk => by rw [hw2, setRow_other _ _ _ _ hk]; rfl
    have hI1 : Inv Try.prog (fun j => H.length ≤ j ∨ (vid (.slice (some ⟨ib, 0, none⟩) n n) = some j)) (fun q => w.heap.size ≤ q ∨ Blocks (fun j => vid (.slice (some ⟨ib, 0, none⟩) n n) = some j) H β q) H β w := hI.weaken fun j ob bj dj qj hj hobj hrw hbj => by
      rcases hj with h | h
      · have := (List.getElem?_eq_some_iff.1 hobj).1; omega
      · exact .inr ⟨j, ob, dj, qj, h, hobj, hrw, hbj⟩
    have hI2 := hI1.heir (o' := ⟨52, (l.take i ++ p :: l.drop i).flatMap Pr.cells, true⟩) hob rfl (.inr rfl) hβ (by omega) hoth
      ⟨by rw [hsz2]; exact hB.lt, hflat, fun k v hk => by
        obtain ⟨v', h1, h2⟩ := fin _ hR2 k v hk
        exact ⟨v', by rw [Nat.zero_add, cell_of_row w' b k _ 52 (0, 0) hrow]; exact h1, h2⟩, fun _ => ⟨rfl, hr63, _, inf, hrow, hinf, by rw [rowed_size f2, s1, hsz, hi2]⟩⟩
    refine ⟨.slice (some ⟨H.length, 0, none⟩) (n + 1) (n + 1), .slice (some ⟨b, 0, none⟩) (n + 1) r, _, _, he, ⟨?_, fun j hj => ?_⟩, List.prefix_append _ _, ?_, hI2, ?_, ?_⟩
    · refine .inr ⟨H.length, by rw [hnlen], (l.take i ++ p :: l.drop i).flatMap Pr.cells, by simp [Ob], Nat.le_refl _, List.take_of_length_le (Nat.le_refl _)⟩
    · have e : H.length = j := Option.some.inj hj
      omega
    · refine R.slice (o := 0) (d := 0) (r := r) ?_ hroom (fun _ => rfl)
      rw [← hI.len]; simp
    · have hb : Blocks (fun j => vid (.slice (some ⟨ib, 0, none⟩) n n) = some j) H β b := ⟨ib, _, 0, r, rfl, hob, rfl, hβ⟩
      rw [hw2]
      exact Fr.of_drew (rowed_fr w.drew b _ hb)
    · refine ⟨by simp, fun j hj hn => ?_⟩
      rw [List.getElem?_append_left (by simpa using hj), List.getElem?_set_ne (fun e => hn (by rw [← e]; rfl))]
  · -- a new row
    have hrn : r = n := by omega
    obtain ⟨q, z, hq, hq1, hq2, hq3, hq4⟩ := TT_ok.info 52 _ TT_52
    rw [hinf] at hq
    obtain rfl := Option.some.inj hq
    have hzs : z.cells.size = 2 := by
      have := congrArg List.length hq4
      simpa using this
    have hby : inf.bytes = 32 := hq2
    obtain ⟨G, hG⟩ : ∃ G, G = grownCap w (n + 1) r 52 := ⟨_, rfl⟩
    have hGn : n + 1 ≤ G := by rw [hG]; exact grownCap_ge w _ _ _
    have hGm : G ≤ maxLen := by rw [hG]; exact grownCap_le_maxLen w (n + 1) r 52 (by unfold maxLen; omega)
    have holds : (Builtin.firstCells inf.size i (.slice (some ⟨b, 0, none⟩) i r)).run Try.prog w.drew = .ok (cur.toList.take (i * 2)).toArray w.drew := by
      have h := run_loadCells_list (P := Try.prog) w.drew ⟨b, 0, none⟩ (cur.toList.take (i * 2)) (cell_row (w := w.drew) hcur 0 fun j v hj => by
        rw [List.getElem?_take] at hj
        rw [Nat.zero_add]
        split at hj
        · simpa using hj
        · cases hj)
      have hl : (cur.toList.take (i * 2)).length = i * 2 := by rw [List.length_take]; simp only [Array.length_toList]; omega
      rw [hl] at h
      simp only [Builtin.firstCells, hi2]
      exact h
    have hk : i + (n + 1 - i) = n + 1 := by omega
    have happ := fun ty => run_append_grow_zeros (P := Try.prog) w 22 3 ty 52 inf z .i64 .i64 Try.underlying22 Try.underlying3 hinf hq3 (some ⟨b, 0, none⟩) i r (cur.toList.take (i * 2)) holds (n + 1 - i) (by omega) (by omega) (by omega) (by omega) (by rw [hby]; omega) (by rw [hby, hk]; exact growslice_fits (by omega) (by omega))
    rw [hk, ← hG] at happ
    have hkc : ((n + 1 - i : Nat) : Int) = (n : Int) + 1 - (i : Int) := by omega
    rw [hkc] at happ
    obtain ⟨ROW, hROW⟩ : ∃ ROW : Array Value, ROW = (cur.toList.take (i * 2)).toArray ++ Builtin.zeroCells z.cells (n + 1 - i) ++ Builtin.zeroCells z.cells (G - (n + 1)) := ⟨_, rfl⟩
    rw [← hROW] at happ
    have hRs : ROW.size = G * 2 := by
      rw [hROW]
      simp only [Array.size_append, List.size_toArray, List.length_take, Array.length_toList, size_zeroCells, hzs]
      omega
    have hRt : ROW.toList.take (i * 2) = cur.toList.take (i * 2) := by
      rw [hROW]
      simp only [Array.toList_append, List.append_assoc]
      rw [List.take_append_of_le_length (by simp only [List.length_take, Array.length_toList]; omega), List.take_take, Nat.min_self]
    have hbsz : b < w.heap.size := hB.lt
    have hvsz : vb < w.heap.size := hBv.lt
    have hA0 : (w.drew.alloc (.cells ROW 52)).heap[w.heap.size]? = some (.cells ROW 52 (0, 0)) := heap_alloc_new w.drew _
    have hAv : (w.drew.alloc (.cells ROW 52)).heap[vb]? = some (.cells curv 52 (0, 0)) := by rw [heap_alloc_old w.drew _ hvsz]; exact hcurv
    have fA : i * 2 + xs.length ≤ ROW.size := by rw [hxl, hRs]; omega
    have sA : (rowed ROW (i * 2) xs).size = ROW.size := rowed_size fA
    have fB : (i + 1) * 2 + ms.length ≤ (rowed ROW (i * 2) xs).size := by rw [hml, sA, hRs]; omega
    have hW2 : (w.drew.alloc (.cells ROW 52)).setRow w.heap.size (rowed ROW (i * 2) xs) = w.drew.alloc (.cells (rowed ROW (i * 2) xs) 52) := setRow_alloc w.drew _ _ _
    have hB0 : (w.drew.alloc (.cells (rowed ROW (i * 2) xs) 52)).drew.heap[w.heap.size]? = some (.cells (rowed ROW (i * 2) xs) 52 (0, 0)) := heap_alloc_new w.drew _
    have hBb : (w.drew.alloc (.cells (rowed ROW (i * 2) xs) 52)).drew.heap[b]? = some (.cells cur 52 (0, 0)) := by
      show (w.drew.alloc (.cells (rowed ROW (i * 2) xs) 52)).heap[b]? = _
      rw [heap_alloc_old w.drew _ hbsz]; exact hcur
    have hmin2 : Nat.min 1 (n + 1 - i) = 1 := by simp only [Nat.min_def]; split <;> omega
    have hmin3 : Nat.min (n - i) (n - i) = n - i := by simp only [Nat.min_def]; split <;> omega
    have key := insert_grow b n r i vb vc w.heap.size G w (w.drew.alloc (.cells ROW 52)) (w.drew.alloc (.cells (rowed ROW (i * 2) xs) 52)) ((w.drew.alloc (.cells (rowed ROW (i * 2) xs) 52)).drew.setRow w.heap.size (rowed (rowed ROW (i * 2) xs) ((i + 1) * 2) ms)) hi (by omega) hnr (by omega) hGn (by unfold maxLen at hGm; omega) _ _
      happ
      (fun ty dc => by
        have h := run_copy_rowk (P := Try.prog) (w.drew.alloc (.cells ROW 52)) 22 22 ty 52 w.heap.size (i * 2) (n + 1 - i) dc 2 ⟨vb, 0, none⟩ 1 vc ROW 52 xs Try.underlying22 hinfo hA0 (by rw [hmin2, hxl]) (cell_row hAv 0 hxc) fA honev
        rw [hW2] at h
        exact h)
      (fun ty dc sc => by
        have h := run_copy_rowk (P := Try.prog) (w.drew.alloc (.cells (rowed ROW (i * 2) xs) 52)).drew 22 22 ty 52 w.heap.size ((i + 1) * 2) (n - i) dc 2 ⟨b, i * 2, none⟩ (n - i) sc (rowed ROW (i * 2) xs) 52 ms Try.underlying22 hinfo hB0 (by rw [hmin3, hml]) (cell_row hBb (i * 2) hmc) fB hmone
        exact h)
    refine key.mono fun en w' ⟨he, hw'⟩ => ?_
    have hw2 : w' = w.drew.drew.alloc (.cells (rowed (rowed ROW (i * 2) xs) ((i + 1) * 2) ms) 52) := by
      rw [hw', drew_alloc]
      exact setRow_alloc w.drew.drew _ _ _
    have hR2 : ∃ t, (rowed (rowed ROW (i * 2) xs) ((i + 1) * 2) ms).toList = cur.toList.take (i * 2) ++ xs ++ ms ++ t := by
      refine ⟨(rowed ROW (i * 2) xs).toList.drop ((i + 1) * 2 + ms.length), ?_⟩
      rw [rowed_list]
      have e1 : (rowed ROW (i * 2) xs).toList.take ((i + 1) * 2) = cur.toList.take (i * 2) ++ xs := by
        rw [rowed_list, hRt]
        have : (i + 1) * 2 = (cur.toList.take (i * 2) ++ xs).length := by rw [List.length_append, List.length_take, hxl]; simp only [Array.length_toList]; omega
        rw [this, List.take_left]
      rw [e1]
    have hd : Below w.heap.size w w.drew.drew := ((Below.refl _ _).drew).drew
    have hb2 : Below w.heap.size w w' := by
      rw [hw2]
      exact hd.alloc (Nat.le_refl _) _
    have hI1 : Inv Try.prog (fun j => H.length ≤ j ∨ (vid (.slice (some ⟨ib, 0, none⟩) n n) = some j)) (fun q => w.heap.size ≤ q ∨ Blocks (fun j => vid (.slice (some ⟨ib, 0, none⟩) n n) = some j) H β q) H β w.drew.drew := (hI.weaken fun j ob bj dj qj hj hobj hrw hbj => by
      rcases hj with h | h
      · have := (List.getElem?_eq_some_iff.1 hobj).1; omega
      · exact .inr ⟨j, ob, dj, qj, h, hobj, hrw, hbj⟩).below hd
    have hI2 := hI1.new (.inl (Nat.le_refl _)) ⟨52, (l.take i ++ p :: l.drop i).flatMap Pr.cells, true⟩ (rowed (rowed ROW (i * 2) xs) ((i + 1) * 2) ms) G inf hGm hinf (by rw [rowed_size fB, sA, hRs, hi2]) hflat (fin _ hR2)
    rw [← hw2] at hI2
    refine ⟨.slice (some ⟨H.length, 0, none⟩) (n + 1) (n + 1), .slice (some ⟨w.heap.size, 0, none⟩) (n + 1) G, _, _, he, ⟨?_, fun j hj => ?_⟩, List.prefix_append _ _, ?_, hI2, Fr.below hb2 _, ?_⟩
    · refine .inr ⟨H.length, by rw [hnlen], (l.take i ++ p :: l.drop i).flatMap Pr.cells, by simp [Ob], Nat.le_refl _, List.take_of_length_le (Nat.le_refl _)⟩
    · have e : H.length = j := Option.some.inj hj
      omega
    · refine R.slice (o := 0) (d := 0) (r := G) ?_ hGn (fun _ => rfl)
      rw [← hI.len]
      show (β ++ [(w.heap.size, 0, G)])[β.length]? = _
      simp
    · exact ⟨by simp, fun j hj _ => by rw [List.getElem?_append_left hj]⟩
end Go.Proofs.Ythalogdopkoidaa.Ab
set_option linter.unusedVariables false
set_option linter.unusedSimpArgs false
namespace Go.Proofs.Ythalogdopkoidaa.Ab
open Go Go.RowKit Go.Proofs.Ythalogdopkoidaa.Dr
set_option maxHeartbeats 4000000 in
theorem c87_end {H : AHeap} {l : List Pr} {p : Pr} {v vv : Value} (hV : PrB H v l) (hlen : l.length < 1073741824) (hP : PrS H vv [p]) :
    ACalls Try.prog 87 [v, .int .i64 (l.length : Nat), vv] H (fun j => vid v = some j) fun r H' => PrB H' r (l ++ [p]) ∧ ∀ j, vid r = some j → H.length ≤ j := by
  refine ACalls_by 95 TT_ok Try.func87 rfl rfl rfl (by simp) ?_
  have hl : PrS H v l := hV.sl
  obtain ⟨v1, _, p2, _, _, _⟩ := Sl.part Pr.len hl TT_22 rfl TT_52 rfl (by decide) (lo := l.length) (hi := l.length) (by omega) (by omega)
  have p2 := p2 rfl .i64
  have d1 : decide ((([p] : List Pr).length : Int) = 0) = false := rfl
  have d2 : decide ((l.length : Int) = (l.length : Int)) = true := decide_eq_true rfl
  refine AC_seqQ TT_ok (by simp only [go_sem] <;> rfl) ?_
  refine AC_seqQ TT_ok (by simp only [go_sem, p2] <;> rfl) ?_
  refine AC_seqQ TT_ok (by simp only [go_sem, (PrS.alen hP)] <;> rfl) ?_
  refine AC_seq ?_
  refine AC_seqQ TT_ok (by simp only [go_sem, d1] <;> rfl) ?_
  refine AC_f (by simp only [go_sem] <;> rfl) (rfl) ?_
  refine AC_skip ?_
  refine AC_seqQ TT_ok (by simp only [go_sem, hl.alen] <;> rfl) ?_
  refine AC_seq ?_
  refine AC_seqQ TT_ok (by simp only [go_sem, d2] <;> rfl) ?_
  refine AC_t (by simp only [go_sem] <;> rfl) (rfl) ?_
  refine AC_seq ?_
  refine AC_regL ?_
  refine AQ_take TT_ok 2 rfl (by simp only [go_sem] <;> rfl) ?_
  refine AQ_append TT_ok (v := v) (n := l.length) (m := ([p] : List Pr).length) TT_22 rfl TT_52 (by decide) (by decide) rfl (by simp only [go_sem]) (by simp only [go_sem]) hV hP (rows_length Pr.len _) (rows_length Pr.len _) (by show (l.length + 1) * 32 ≤ _; omega) (fun j hj => .inr hj) (.inl rfl) fun v6 H6 hX6 hB6 hv6 => ?_
  refine AQ_all TT_ok rfl (by simp only [go_sem] <;> rfl) ?_
  refine AC_ret ⟨.inl rfl, _, rfl, ?_, fun j hj => ?_⟩
  · simp only [go_sem]
    rw [PrB, List.length_append, List.flatMap_append]
    exact hB6
  · simp only [go_sem] at hj
    rcases hv6 j hj with h | ⟨h, _⟩
    · exact h
    · cases h
theorem c87 {H : AHeap} {l : List Pr} {p : Pr} {i iv : Nat} {v vv : Value} (hV : PrB H v l) (hlen : l.length < 1073741824) (hi : i ≤ l.length) (hP : Own H vv 52 1 p.cells iv) (hne : vid v ≠ some iv) :
    ACalls Try.prog 87 [v, .int .i64 (i : Nat), vv] H (fun j => vid v = some j) fun r H' => PrB H' r (l.take i ++ p :: l.drop i) ∧ ∀ j, vid r = some j → H.length ≤ j := by
  rcases Nat.lt_or_ge i l.length with h | h
  · rcases hV with ⟨_, h0, _⟩ | ⟨b, hO⟩
    · omega
    · exact c87_in hO h hlen hP (fun e => hne (by rw [hO.vid, e]))
  · have hie : i = l.length := by omega
    subst hie
    have hP' : PrS H vv [p] := hP.sl
    have := c87_end hV hlen hP'
    rw [List.take_of_length_le (Nat.le_refl _), List.drop_eq_nil_of_le (Nat.le_refl _)]
    exact this
theorem Spot.no {l : List Pr} (hm : May l) {p : Pr} {i : Nat} (h : Spot l p.key i) (hn : ¬ ∃ h : i < l.length, l[i].key = p.key) : l.take i ++ p :: l.drop i = ins l p := by
  have e : ins l p = ins (l.take i ++ l.drop i) p := by rw [List.take_append_drop]
  rw [e]
  refine (ins_at (fun x hx => ?_) (fun x hx => ?_)).symm
  · obtain ⟨j, hj, rfl⟩ := List.getElem_of_mem hx
    rw [List.length_take] at hj
    rw [List.getElem_take]
    exact h.lo j (by omega) (by omega)
  · obtain ⟨j, hj, rfl⟩ := List.getElem_of_mem hx
    rw [List.length_drop] at hj
    rw [List.getElem_drop]
    have h1 := h.hi (i + j) (by omega) (by omega)
    rcases key_tri l[i + j].key p.key with h2 | h2 | h2
    · exact absurd h2 h1
    · exfalso
      rcases Nat.eq_zero_or_pos j with h0 | h0
      · subst h0
        exact hn ⟨by omega, h2⟩
      · have h3 := hm.at (i := i) (j := i + j) (by omega) (by omega)
        rw [h2] at h3
        exact h.hi i (by omega) (Nat.le_refl _) h3
    · exact h2
theorem Spot.yes {l : List Pr} (hm : May l) {p : Pr} {i : Nat} (h : Spot l p.key i) (hi : i < l.length) (he : l[i].key = p.key) : l.set i p = ins l p := by
  have e : ins l p = ins (l.take i ++ l[i] :: l.drop (i + 1)) p := by rw [List.getElem_cons_drop, List.take_append_drop]
  rw [e, ins_mid (fun x hx => ?_) he (fun x hx => ?_), List.set_eq_take_append_cons_drop, if_pos hi]
  · obtain ⟨j, hj, rfl⟩ := List.getElem_of_mem hx
    rw [List.length_take] at hj
    rw [List.getElem_take]
    exact h.lo j (by omega) (by omega)
  · obtain ⟨j, hj, rfl⟩ := List.getElem_of_mem hx
    rw [List.length_drop] at hj
    rw [List.getElem_drop, ← he]
    exact hm.at (by omega) (by omega)
set_option maxRecDepth 100000 in
set_option maxHeartbeats 8000000 in
theorem c78 {H : AHeap} {vl : Value} {l : List Pr} {p : Pr} (hV : PrB H vl l) (hlen : l.length < 1073741824) (hm : May l) :
    ACalls Try.prog 78 [vl, p.val] H (fun j => vid vl = some j) fun v H' => PrB H' v (ins l p) ∧ ∀ j, vid v = some j → vid vl = some j ∨ H.length ≤ j := by
  refine ACalls_by 34 TT_ok Try.func78 rfl rfl rfl (by simp) ?_
  refine AC_seq ?_
  refine AC_regL ?_
  refine AQ_box TT_ok TT_52 rfl (by simp only [go_sem] <;> rfl) (Lay.pr p) rfl fun H1 hX1 hO1 hL1 => ?_
  refine AQ_all TT_ok rfl (by simp only [go_sem] <;> rfl) ?_
  have hV1 : PrB H1 vl l := Buf.keep hV hX1
  have hvl : ∀ j, vid vl = some j → j < H.length := fun j hj => PrS.vid_lt hV.sl hj
  refine AC_seq ?_
  refine AC_regL ?_
  refine AQ_take TT_ok 3 rfl (by simp only [go_sem, f52_0, hO1.load, ap52_key] <;> rfl) ?_
  refine AQ_c rfl (by simp only [go_sem] <;> rfl) fok84 (by simp only [List.map_cons, List.map_nil, List.append_nil, go_sem] <;> rfl) (c84 (key := p.key) hV1.sl (by omega) hm) (fun _ _ h => h.elim) (.inl rfl) fun r H2 hX2 ⟨i, hsp, hr⟩ => ?_
  subst hr
  have hV2 : PrB H2 vl l := Buf.keep hV1 hX2
  have hO2 := hO1.keep hX2
  have z1 := hX1.size
  have z2 := hX2.size
  have hle := hsp.le
  refine AQ_all TT_ok rfl (by simp only [go_sem] <;> rfl) ?_
  refine AC_seq (AC_block ?_)
  by_cases hth : ∃ h : i < l.length, l[i].key = p.key
  · obtain ⟨hi, hke⟩ := hth
    have dth : decide (∃ h : i < l.length, l[i].key = p.key) = true := decide_eq_true ⟨hi, hke⟩
    have hset := hsp.yes hm hi hke
    have hl2 : PrS H2 vl l := hV2.sl
    have a1 := hl2.index (k := .i64) (j := (i : Int)) (by omega) (by omega)
    rw [Int.toNat_natCast] at a1
    have a2 := hl2.load hi
    refine AC_seqQ TT_ok (by simp only [go_sem, dth, Bool.not_true] <;> rfl) ?_
    refine AC_f (by simp only [go_sem] <;> rfl) (rfl) ?_
    by_cases hpe : l[i] = p
    · have dpe : decide (l[i] = p) = true := decide_eq_true hpe
      refine AC_seqD TT_ok mixed (by kernel_rfl) (by simp only [go_sem, a1, a2, hO2.load, ap52_self, dpe, Bool.not_true] <;> rfl) ?_
      refine AC_f (by simp only [go_sem] <;> rfl) (rfl) ?_
      refine AC_skip ?_
      refine AC_seqQ TT_ok (by simp only [go_sem] <;> rfl) ?_
      refine AC_ret ⟨.inl rfl, _, rfl, ?_, fun j hj => .inl (by simp only [go_sem] at hj; exact hj)⟩
      simp only [go_sem]
      have : ins l p = l := by
        rw [← hset]
        apply List.ext_getElem
        · rw [List.length_set]
        · intro j h1 h2
          by_cases hj : i = j
          · subst hj; rw [List.getElem_set_self, hpe]
          · rw [List.getElem_set_ne hj]
      rw [this]
      exact hV2
    · have dpe : decide (l[i] = p) = false := decide_eq_false hpe
      refine AC_seqD TT_ok mixed (by kernel_rfl) (by simp only [go_sem, a1, a2, hO2.load, ap52_self, dpe, Bool.not_false] <;> rfl) ?_
      refine AC_t (by simp only [go_sem] <;> rfl) (rfl) ?_
      rcases hV2 with ⟨_, h0, _⟩ | ⟨b, hO⟩
      · omega
      have hvb := hO.vid
      refine AC_regL ?_
      refine AQ_take TT_ok 4 rfl (by simp only [go_sem, a1, hO2.load, ap52_self] <;> rfl) ?_
      refine AQ_storeE TT_ok TT_52 rfl (by simp only [go_sem] <;> rfl) (by simp only [go_sem] <;> rfl) (Lay.pr p) rfl hO (by rw [rows_length Pr.len, Pr.len]; omega) (.inr hvb) (.inl rfl) fun H8 hX8 hO8 hL8 => ?_
      rw [rows_over Pr.len l i p hi, hset] at hO8
      refine AQ_nil ?_
      refine AC_seqQ TT_ok (by simp only [go_sem] <;> rfl) ?_
      refine AC_ret ⟨.inl rfl, _, rfl, ?_, fun j hj => .inl (by simp only [go_sem] at hj; exact hj)⟩
      simp only [go_sem]
      have hil : (ins l p).length = l.length := by rw [← hset, List.length_set]
      refine .inr ⟨b, ?_⟩
      rw [hil]
      exact hO8
  · have dth : decide (∃ h : i < l.length, l[i].key = p.key) = false := decide_eq_false hth
    have hno := hsp.no hm hth
    refine AC_seqQ TT_ok (by simp only [go_sem, dth, Bool.not_false] <;> rfl) ?_
    refine AC_t (by simp only [go_sem] <;> rfl) (rfl) ?_
    refine AC_seq ?_
    refine AC_regL ?_
    refine AQ_take TT_ok 3 rfl (by simp only [go_sem, hO2.load, ap52_self] <;> rfl) ?_
    refine AQ_lit TT_ok [p.val] TT_22 rfl TT_52 rfl (by decide) rfl (by decide) rfl (by simp only [List.map_cons, List.map_nil, go_sem, numbered]) (fun v hv => by rw [List.mem_singleton] at hv; subst hv; exact ⟨_, Lay.pr _, rfl⟩) fun H3 hX3 hO3 hL3 => ?_
    have hV3 : PrB H3 vl l := Buf.keep hV2 hX3
    have hO3' : Own H3 (.slice (some ⟨H2.length, 0, none⟩) 1 1) 52 1 p.cells H2.length := hO3
    refine AQ_c rfl (by simp only [go_sem] <;> rfl) fok87 (by simp only [List.map_cons, List.map_nil, List.append_nil, go_sem] <;> rfl) (c87 (p := p) hV3 hlen hle hO3' (fun h => by have := hvl _ h; omega)) (fun j hj hM => .inr hM) (.inl rfl) fun r4 H4 hX4 ⟨hB4, hn4⟩ => ?_
    refine AQ_all TT_ok rfl (by simp only [go_sem] <;> rfl) ?_
    refine AC_ret ⟨.inl rfl, _, rfl, ?_, fun j hj => .inr ?_⟩
    · simp only [go_sem]; rw [← hno]; exact hB4
    · simp only [go_sem] at hj
      have := hn4 j hj
      omega
def perr (p : Pr) : Int := if kb p.key = true then if p.value.length ≤ 16 then 0 else 10 else 9
def pall : List Pr → List Pr → List Pr × Int
  | l, [] => (l, 0)
  | l, p :: ps => if perr p = 0 then pall (ins l p) ps else ([], perr p)
def allE (t : List Nd) (ps : List Pr) : List Nd × Int := if Isw t then (if (pall (prs t) ps).2 = 0 then (build (pall (prs t) ps).1, 0) else ([], (pall (prs t) ps).2)) else ([], 1)
theorem perr_ok {p : Pr} (h : perr p = 0) : Pok p := by
  unfold perr at h
  split at h
  · rename_i hk
    split at h
    · rename_i hv
      exact ⟨(kb_len hk).1, (kb_len hk).2, hv⟩
    · cases h
  · cases h
theorem perr_of {p : Pr} (h : Pok p) : perr p = 0 := by
  unfold perr kb
  rw [decide_eq_true h.1, decide_eq_true h.2.1]
  rw [Bool.and_self, if_pos rfl, if_pos h.2.2]
theorem pall_may : ∀ (ps l : List Pr), May l → May (pall l ps).1
  | [], l, h => h
  | p :: ps, l, h => by
    unfold pall
    split
    · rename_i hp
      exact pall_may ps _ (h.ins (perr_ok hp))
    · exact May.nil
theorem pall_len : ∀ (ps l : List Pr), (pall l ps).1.length ≤ l.length + ps.length
  | [], l => by simp [pall]
  | p :: ps, l => by
    unfold pall
    split
    · have h1 := pall_len ps (ins l p)
      have h2 := ins_len l p
      rw [List.length_cons]
      omega
    · simp
theorem pall_drop {l : List Pr} {ps : List Pr} {i : Nat} (hi : i < ps.length) : pall l (ps.drop i) = if perr ps[i] = 0 then pall (ins l ps[i]) (ps.drop (i + 1)) else ([], perr ps[i]) := by
  rw [List.drop_eq_getElem_cons hi, pall]
theorem allE_build {l : List Pr} (hm : May l) (ps : List Pr) : allE (build l) ps = if (pall l ps).2 = 0 then (build (pall l ps).1, 0) else ([], (pall l ps).2) := by
  rw [allE, if_pos (isw_build hm), prs_build hm]
set_option maxRecDepth 100000 in
set_option maxHeartbeats 8000000 in
theorem c59 {H : AHeap} {vt vp : Value} {t : List Nd} {ps : List Pr} (hT : NdS H vt t) (ht : t.length < 2^19) (hn : ∀ n ∈ t, n.path.length < 2^30) (hP : PrS H vp ps) (hpl : ps.length < 2^18) :
    ACalls Try.prog 59 [vt, vp] H (fun _ => False) fun v H' => ∃ u, v = .tuple #[u, .int .i64 (allE t ps).2] ∧ NdB H' u (allE t ps).1 ∧ ∀ j, vid u = some j → H.length ≤ j := by
  refine ACalls_by 50 TT_ok Try.func59 rfl rfl rfl (by simp) ?_
  refine AC_seqQ TT_ok (by simp only [go_sem] <;> rfl) ?_
  refine AC_seq ?_
  refine AC_regL ?_
  refine AQ_take TT_ok 1 rfl (by simp only [go_sem] <;> rfl) ?_
  refine AQ_c rfl (by simp only [go_sem] <;> rfl) fok31 (by simp only [List.map_cons, List.map_nil, List.append_nil, go_sem] <;> rfl) (c31 hT ht hn) (fun _ _ h => h.elim) (.inl rfl) fun r H2 hX2 ⟨u, hr, hU, hun⟩ => ?_
  subst hr
  have hU : PrB H2 u (prs t) := hU
  refine AQ_all TT_ok rfl (by simp only [go_sem] <;> rfl) ?_
  have z2 := hX2.size
  have hP2 := hP.keep hX2
  have hpv : ∀ j, vid vp = some j → j < H.length := fun j hj => hP.vid_lt hj
  refine AC_seq ?_
  by_cases his : Isw t
  rotate_left
  · have hd : decide (Isw t) = false := decide_eq_false his
    refine AC_seqQ TT_ok (by simp only [go_sem, hd, Bool.not_false] <;> rfl) ?_
    refine AC_t (by simp only [go_sem] <;> rfl) (rfl) ?_
    refine AC_seqQ TT_ok (by simp only [go_sem] <;> rfl) ?_
    refine AC_ret ⟨.inl rfl, _, rfl, .slice none 0 0, ?_, ?_, fun j hj => by cases hj⟩
    · simp only [go_sem, allE, if_neg his]
    · simp only [allE, if_neg his]; exact Buf.nil _ _
  have hd : decide (Isw t) = true := decide_eq_true his
  refine AC_seqQ TT_ok (by simp only [go_sem, hd, Bool.not_true] <;> rfl) ?_
  refine AC_f (by simp only [go_sem] <;> rfl) (rfl) ?_
  refine AC_skip ?_
  have hlp := prs_len t
  have hE : ∀ l0, prs t = l0 → allE t ps = if (pall l0 ps).2 = 0 then (build (pall l0 ps).1, 0) else ([], (pall l0 ps).2) := fun l0 h => by rw [allE, if_pos his, h]
  have hE := hE _ rfl
  have hmy := prs_may t
  generalize prs t = l at hU hlp hE hmy
  refine AC_fixe (fun e' => get e' 1 = vp ∧ get e' 6 = u) ⟨by simp only [go_sem], by simp only [go_sem]⟩ (fun e2 ⟨g1, g6⟩ => ?_)
  refine AC_cut (fun e' H' => ∃ v, PrB H' v (pall l ps).1 ∧ (pall l ps).2 = 0 ∧ H.length ≤ H'.length ∧ get e' 6 = v) ?_ (fun e3 H3 _ ⟨v, hV, hp0, hsz, g6⟩ => ?_)
  · refine AC_seqQ TT_ok (by simp only [go_sem, g1, hP2.alen] <;> rfl) ?_
    refine AC_block (AC_loop (fun m e' H' => ∃ (i : Nat) (l' : List Pr) (v : Value), m = ps.length - i ∧ i ≤ ps.length ∧ pall l' (ps.drop i) = pall l ps ∧ May l' ∧ l'.length ≤ l.length + i ∧ PrB H' v l' ∧ (∀ j, vid v = some j → H.length ≤ j) ∧ H.length ≤ H'.length ∧ PrS H' vp ps ∧ get e' 6 = v ∧ get e' 19 = vp ∧ get e' 20 = .int .i64 (ps.length : Nat) ∧ get e' 21 = .int .i64 (i : Nat)) ps.length ⟨0, l, u, by simp, by simp, by simp, hmy, by simp, hU, hun, z2, hP2, by simp only [go_sem, g6], by simp only [go_sem, g1], by simp only [go_sem], by simp only [go_sem] <;> simp⟩ ?_)
    rintro m e3 H3 _ ⟨i, l', v, hmi, hi, hpa, hm', hl', hV, hvn, hsz, hP3, g6, g19, g20, g21⟩
    have k5 := wrapN i (by omega)
    refine AC_seq ?_
    refine AC_quiet TT_ok (by simp only [go_sem, g20, g21] <;> rfl) ?_
    refine AC_seq ?_
    by_cases hi' : i < ps.length
    rotate_left
    · refine AC_f (by simp only [go_sem] <;> rfl) (ge_dec (by omega)) ?_
      rw [List.drop_eq_nil_of_le (by omega), pall] at hpa
      refine AC_exit ⟨v, ?_, ?_, hsz, by simp only [go_sem, g6]⟩
      · rw [← hpa]; exact hV
      · rw [← hpa]
    refine AC_t (by simp only [go_sem] <;> rfl) (lt_dec hi') ?_
    refine AC_skip ?_
    rw [pall_drop hi'] at hpa
    have a1 := hP3.index (k := .i64) (j := (i : Int)) (by omega) (by omega)
    rw [Int.toNat_natCast] at a1
    have a2 := hP3.load hi'
    refine AC_seq (AC_block ?_)
    refine AC_seq ?_
    refine AC_regL ?_
    refine AQ_take TT_ok 2 rfl (by simp only [go_sem, g19, g21, a1, a2] <;> rfl) ?_
    refine AQ_var TT_ok TT_52 rfl (by decide) (by simp only [go_sem] <;> rfl) (Lay.pr ps[i]) rfl (.inl (by omega)) (.inl rfl) fun H4 hX4 hO4 hL4 => ?_
    refine AQ_nil ?_
    have hV4 : PrB H4 v l' := Buf.keep hV hX4
    have hP4 := hP3.keep hX4
    have z4 := hX4.size
    generalize ps[i] = p at *
    refine AC_fixe (fun e' => get e' 6 = v ∧ get e' 9 = .pointer (some ⟨H3.length, 0, none⟩) ∧ get e' 19 = vp ∧ get e' 20 = .int .i64 (ps.length : Nat) ∧ get e' 21 = .int .i64 (i : Nat)) ⟨by simp only [go_sem, g6], by simp only [go_sem], by simp only [go_sem, g19], by simp only [go_sem, g20], by simp only [go_sem, g21]⟩ (fun e4 ⟨g6, g9, g19, g20, g21⟩ => ?_)
    refine AC_seq (AC_block ?_)
    refine AC_cut (fun e' H' => H' = H4 ∧ get e' 25 = .bool (!kb p.key) ∧ get e' 6 = v ∧ get e' 9 = .pointer (some ⟨H3.length, 0, none⟩) ∧ get e' 19 = vp ∧ get e' 20 = .int .i64 (ps.length : Nat) ∧ get e' 21 = .int .i64 (i : Nat)) ?_ (fun e5 H5 _ ⟨hH, g25, g6, g9, g19, g20, g21⟩ => ?_)
    · by_cases hk0 : p.key = []
      · have d0 : decide (p.key = []) = true := decide_eq_true hk0
        have hkf : kb p.key = false := by rw [hk0]; rfl
        refine AC_quiet TT_ok (by simp only [go_sem, g9, f52_0, hO4.load, ap52_key, d0] <;> rfl) ?_
        refine ⟨rfl, ?_, by simp only [go_sem, g6], by simp only [go_sem, g9], by simp only [go_sem, g19], by simp only [go_sem, g20], by simp only [go_sem, g21]⟩
        simp only [go_sem, hkf, Bool.not_false]
      · have d0 : decide (p.key = []) = false := decide_eq_false hk0
        have hlp := List.length_pos_iff.2 hk0
        have hkd : decide ((8 : Int) < (p.key.length : Int)) = !kb p.key := by
          unfold kb
          rw [decide_eq_true (show 1 ≤ p.key.length by omega), Bool.true_and]
          by_cases h : p.key.length ≤ 8
          · rw [decide_eq_true h, decide_eq_false (by omega)]; rfl
          · rw [decide_eq_false h, decide_eq_true (by omega)]; rfl
        refine AC_quiet TT_ok (by simp only [go_sem, g9, f52_0, hO4.load, ap52_key, d0] <;> rfl) ?_
        refine ⟨rfl, ?_, by simp only [go_sem, g6], by simp only [go_sem, g9], by simp only [go_sem, g19], by simp only [go_sem, g20], by simp only [go_sem, g21]⟩
        simp only [go_sem, hkd]
    have hH' := hH.symm
    subst hH'
    cases hkb : kb p.key
    · rw [hkb] at g25
      have hpe : perr p = 9 := by unfold perr; rw [if_neg (by rw [hkb]; simp)]
      rw [hpe, if_neg (by decide)] at hpa
      rw [← hpa, if_neg (by decide)] at hE
      refine AC_t g25 rfl ?_
      refine AC_seqQ TT_ok (by simp only [go_sem] <;> rfl) ?_
      refine AC_ret ⟨.inl rfl, _, rfl, .slice none 0 0, ?_, ?_, fun j hj => by cases hj⟩
      · simp only [go_sem]; rw [hE]
      · rw [hE]; exact Buf.nil _ _
    rw [hkb] at g25
    refine AC_f g25 rfl ?_
    by_cases hv : p.value.length ≤ 16
    rotate_left
    · have dv : decide ((16 : Int) < (p.value.length : Int)) = true := decide_eq_true (by omega)
      have hpe : perr p = 10 := by unfold perr; rw [if_pos hkb, if_neg hv]
      rw [hpe, if_neg (by decide)] at hpa
      rw [← hpa, if_neg (by decide)] at hE
      refine AC_seqQ TT_ok (by simp only [go_sem, g9, f52_1, hO4.load, ap52_value, dv] <;> rfl) ?_
      refine AC_t (by simp only [go_sem] <;> rfl) (rfl) ?_
      refine AC_seqQ TT_ok (by simp only [go_sem] <;> rfl) ?_
      refine AC_ret ⟨.inl rfl, _, rfl, .slice none 0 0, ?_, ?_, fun j hj => by cases hj⟩
      · simp only [go_sem]; rw [hE]
      · rw [hE]; exact Buf.nil _ _
    have dv : decide ((16 : Int) < (p.value.length : Int)) = false := decide_eq_false (by omega)
    have hpe : perr p = 0 := by unfold perr; rw [if_pos hkb, if_pos hv]
    rw [hpe, if_pos rfl] at hpa
    refine AC_seqQ TT_ok (by simp only [go_sem, g9, f52_1, hO4.load, ap52_value, dv] <;> rfl) ?_
    refine AC_f (by simp only [go_sem] <;> rfl) (rfl) ?_
    refine AC_skip ?_
    have hil := ins_len l' p
    refine AC_regL ?_
    refine AQ_take TT_ok 2 rfl (by simp only [go_sem, g6, g9, hO4.load, ap52_self] <;> rfl) ?_
    refine AQ_c rfl (by simp only [go_sem] <;> rfl) fok78 (by simp only [List.map_cons, List.map_nil, List.append_nil, go_sem] <;> rfl) (c78 (p := p) hV4 (by omega) hm') (fun j hj hM => .inl (hvn j hM)) (.inl rfl) fun r6 H6 hX6 ⟨hV6, hn6⟩ => ?_
    refine AQ_all TT_ok rfl (by simp only [go_sem] <;> rfl) ?_
    have z6 := hX6.size
    refine AC_quiet TT_ok (by simp only [go_sem, g21, k5] <;> rfl) ?_
    refine ⟨ps.length - (i + 1), by omega, i + 1, ins l' p, r6, rfl, by omega, hpa, hm'.ins (perr_ok hpe), by omega, hV6, fun j hj => ?_, by omega, hP4.ext hX6 (fun j _ hj hv => by have := hvn j hv; have := hpv j hj; omega), by simp only [go_sem], by simp only [go_sem, g19], by simp only [go_sem, g20], by simp only [go_sem]⟩
    rcases hn6 j hj with h | h
    · exact hvn j h
    · omega
  · rw [if_pos hp0] at hE
    rw [hE]
    have hpm := pall_may ps l hmy
    have hpn := pall_len ps l
    have hV' : PrS H3 v (pall l ps).1 := hV.sl
    generalize (pall l ps).1 = l2 at *
    refine AC_seq ?_
    refine AC_regL ?_
    refine AQ_take TT_ok 1 rfl (by simp only [go_sem, g6] <;> rfl) ?_
    refine AQ_c rfl (by simp only [go_sem] <;> rfl) fok29 (by simp only [List.map_cons, List.map_nil, List.append_nil, go_sem] <;> rfl) (c29 hV' (by omega)) (fun _ _ h => h.elim) (.inl rfl) fun r H5 hX5 ⟨vu, hr, hB5, hvn⟩ => ?_
    subst hr
    rw [if_pos hpm] at hB5
    refine AQ_all TT_ok rfl (by simp only [go_sem] <;> rfl) ?_
    refine AC_seqQ TT_ok (by simp only [go_sem] <;> rfl) ?_
    exact AC_ret ⟨.inl rfl, _, rfl, vu, by simp only [go_sem], hB5, fun j hj => by have := hvn j hj; omega⟩
set_option maxHeartbeats 4000000 in
theorem c57 {H : AHeap} {vt : Value} {t : List Nd} {p : Pr} (hT : NdS H vt t) (ht : t.length < 2^19) (hn : ∀ n ∈ t, n.path.length < 2^30) :
    ACalls Try.prog 57 [vt, S p.key, S p.value] H (fun _ => False) fun v H' => ∃ u, v = .tuple #[u, .int .i64 (allE t [p]).2] ∧ NdB H' u (allE t [p]).1 ∧ ∀ j, vid u = some j → H.length ≤ j := by
  refine ACalls_by 16 TT_ok Try.func57 rfl rfl rfl (by simp) ?_
  refine AC_seqQ TT_ok (by simp only [go_sem] <;> rfl) ?_
  refine AC_seq ?_
  refine AC_regL ?_
  refine AQ_take TT_ok 4 rfl (by simp only [go_sem, List.map_cons, List.map_nil, bp52] <;> rfl) ?_
  refine AQ_lit TT_ok [p.val] TT_22 rfl TT_52 rfl (by decide) rfl (by decide) rfl (by simp only [List.map_cons, List.map_nil, go_sem, numbered] <;> rfl) (fun v hv => by rw [List.mem_singleton] at hv; subst hv; exact ⟨_, Lay.pr _, rfl⟩) fun H3 hX3 hO3 hL3 => ?_
  have hP3 : PrS H3 (.slice (some ⟨H.length, 0, none⟩) 1 1) [p] := hO3.sl
  refine AQ_c rfl (by simp only [go_sem] <;> rfl) fok59 (by simp only [List.map_cons, List.map_nil, List.append_nil, go_sem] <;> rfl) (c59 (hT.keep hX3) ht hn hP3 (by simp)) (fun _ _ h => h.elim) (.inl rfl) fun r H4 hX4 ⟨u, hr, hU, hun⟩ => ?_
  subst hr
  have z3 := hX3.size
  refine AQ_all TT_ok rfl (by simp only [go_sem] <;> rfl) ?_
  exact AC_ret ⟨.inl rfl, _, rfl, u, by simp only [go_sem], hU, fun j hj => by have := hun j hj; omega⟩
end Go.Proofs.Ythalogdopkoidaa.Ab
set_option linter.unusedVariables false
set_option linter.unusedSimpArgs false
namespace Go.Proofs.Ythalogdopkoidaa.Ab
open Go Go.RowKit Go.Proofs.Ythalogdopkoidaa.Dr
theorem allE_step {l : List Pr} (hm : May l) (p : Pr) : allE (build l) [p] = if perr p = 0 then (build (ins l p), 0) else ([], perr p) := by
  rw [allE_build hm]
  simp only [pall]
  by_cases h : perr p = 0
  · simp only [if_pos h, if_true]
  · simp only [if_neg h]
def pa1 : List Pr := [⟨[97], [49]⟩]
def pa3 : List Pr := [⟨[97, 98], [50]⟩, ⟨[98], []⟩, ⟨[97], [51]⟩]
def paz : List Pr := [⟨[97], [51]⟩, ⟨[97, 98], [50]⟩, ⟨[98], []⟩]
theorem pa1_may : May pa1 := by decide
theorem paz_may : May paz := by decide
def lv : List UInt8 := [48, 49, 50, 51, 52, 53, 54, 55, 56, 57, 97, 98, 99, 100, 101, 102, 103]
set_option maxRecDepth 100000 in
set_option maxHeartbeats 8000000 in
theorem c56 {H : AHeap} : ACalls Try.prog 56 [] H (fun _ => False) fun v H' => v = .bool true := by
  refine ACalls_by 61 TT_ok Try.func56 rfl rfl rfl (by simp) ?_
  obtain ⟨l1, n1⟩ := may_small pa1_may (by decide)
  obtain ⟨l2, n2⟩ := may_small paz_may (by decide)
  have hb1 : (build pa1).length = 1 := by decide +kernel
  have hE1 : allE [] [⟨[97], [49]⟩] = (build pa1, 0) := by
    have : ([] : List Nd) = build [] := rfl
    rw [this, allE_build May.nil]; rfl
  have hE2 : allE (build pa1) pa3 = (build paz, 0) := by
    rw [allE_build pa1_may]
    have : pall pa1 pa3 = (paz, 0) := by decide +kernel
    rw [this]; rfl
  have hE3 : allE (build pa1) [⟨[], [49]⟩] = ([], 9) := by
    rw [allE_build pa1_may]
    have : pall pa1 [⟨[], [49]⟩] = ([], 9) := by decide +kernel
    rw [this]; rfl
  have hE4 : allE (build pa1) [⟨[97], lv⟩] = ([], 10) := by
    rw [allE_build pa1_may]
    have : pall pa1 [⟨[97], lv⟩] = ([], 10) := by decide +kernel
    rw [this]; rfl
  generalize hT1 : build pa1 = T1 at *
  generalize hT2 : build paz = T2 at *
  refine AC_seqQ TT_ok (by simp only [go_sem] <;> rfl) ?_
  refine AC_seq ?_
  refine AC_regL ?_
  refine AQ_c rfl (by simp only [go_sem] <;> rfl) fok57 (by simp only [List.map_cons, List.map_nil, List.append_nil, go_sem] <;> rfl) (c57 (p := ⟨[97], [49]⟩) (nil_nds H) (by decide) (by simp)) (fun _ _ h => h.elim) (.inl rfl) fun r H2 hX2 ⟨vt, hr, hA, _⟩ => ?_
  rw [hE1] at hr hA
  subst hr
  have hA2 : NdS H2 vt T1 := hA.sl
  refine AQ_all TT_ok rfl (by simp only [go_sem] <;> rfl) ?_
  refine AC_fixe (fun e' => get e' 1 = vt ∧ get e' 2 = .int .i64 0) ⟨by simp only [go_sem], by simp only [go_sem]⟩ (fun e2 ⟨g1, g2⟩ => ?_)
  refine AC_seq ?_
  refine AC_regL ?_
  refine AQ_take TT_ok 4 rfl (by simp only [go_sem, g1, List.map_cons, List.map_nil, bp52, bp52a] <;> rfl) ?_
  refine AQ_lit TT_ok (pa3.map Pr.val) TT_22 rfl TT_52 rfl (by decide) rfl (by decide) rfl (by simp only [pa3, List.map_cons, List.map_nil, go_sem, numbered]) (Lay.prs _) fun H3 hX3 hO3 hL3 => ?_
  have hP3 := Own.pairs pa3 rfl hO3
  have hA3 := hA2.keep hX3
  refine AQ_c rfl (by simp only [go_sem] <;> rfl) fok59 (by simp only [List.map_cons, List.map_nil, List.append_nil, go_sem] <;> rfl) (c59 hA3 l1 n1 hP3.sl (by decide)) (fun _ _ h => h.elim) (.inl rfl) fun r H4 hX4 ⟨vu, hr, hU, _⟩ => ?_
  rw [hE2] at hr hU
  subst hr
  have hU4 : NdS H4 vu T2 := hU.sl
  have hA4 := hA3.keep hX4
  refine AQ_all TT_ok rfl (by simp only [go_sem] <;> rfl) ?_
  refine AC_fixe (fun e' => get e' 1 = vt ∧ get e' 2 = .int .i64 0 ∧ get e' 3 = vu ∧ get e' 4 = .int .i64 0) ⟨by simp only [go_sem, g1], by simp only [go_sem, g2], by simp only [go_sem], by simp only [go_sem]⟩ (fun e4 ⟨g1, g2, g3, g4⟩ => ?_)
  refine AC_seq ?_
  refine AC_regL ?_
  refine AQ_take TT_ok 1 rfl (by simp only [go_sem, g1] <;> rfl) ?_
  refine AQ_c rfl (by simp only [go_sem] <;> rfl) fok57 (by simp only [List.map_cons, List.map_nil, List.append_nil, go_sem] <;> rfl) (c57 (p := ⟨[], [49]⟩) hA4 l1 n1) (fun _ _ h => h.elim) (.inl rfl) fun r H5 hX5 ⟨v5, hr, _, _⟩ => ?_
  rw [hE3] at hr
  subst hr
  have hA5 := hA4.keep hX5
  have hU5 := hU4.keep hX5
  refine AQ_all TT_ok rfl (by simp only [go_sem] <;> rfl) ?_
  refine AC_fixe (fun e' => get e' 1 = vt ∧ get e' 2 = .int .i64 0 ∧ get e' 3 = vu ∧ get e' 4 = .int .i64 0 ∧ get e' 6 = .int .i64 9) ⟨by simp only [go_sem, g1], by simp only [go_sem, g2], by simp only [go_sem, g3], by simp only [go_sem, g4], by simp only [go_sem]⟩ (fun e5 ⟨g1, g2, g3, g4, g6⟩ => ?_)
  refine AC_seq ?_
  refine AC_regL ?_
  refine AQ_take TT_ok 1 rfl (by simp only [go_sem, g1] <;> rfl) ?_
  refine AQ_c rfl (by simp only [go_sem] <;> rfl) fok57 (by simp only [List.map_cons, List.map_nil, List.append_nil, go_sem] <;> rfl) (c57 (p := ⟨[97], lv⟩) hA5 l1 n1) (fun _ _ h => h.elim) (.inl rfl) fun r H6 hX6 ⟨v6, hr, _, _⟩ => ?_
  rw [hE4] at hr
  subst hr
  have hA6 := hA5.keep hX6
  have hU6 := hU5.keep hX6
  refine AQ_all TT_ok rfl (by simp only [go_sem] <;> rfl) ?_
  refine AC_fixe (fun e' => get e' 1 = vt ∧ get e' 2 = .int .i64 0 ∧ get e' 3 = vu ∧ get e' 4 = .int .i64 0 ∧ get e' 6 = .int .i64 9 ∧ get e' 8 = .int .i64 10) ⟨by simp only [go_sem, g1], by simp only [go_sem, g2], by simp only [go_sem, g3], by simp only [go_sem, g4], by simp only [go_sem, g6], by simp only [go_sem]⟩ (fun e6 ⟨g1, g2, g3, g4, g6, g8⟩ => ?_)
  have e0 : decide ((0 : Int) = 0) = true := rfl
  have e9 : decide ((9 : Int) = 9) = true := rfl
  have e10 : decide ((10 : Int) = 10) = true := rfl
  have dl : decide ((T1.length : Int) = 1) = true := decide_eq_true (by rw [hb1]; rfl)
  have dT : decide (T2 = T2) = true := decide_eq_true rfl
  refine AC_seq ?_
  refine AC_regL ?_
  refine AQ_take TT_ok 8 rfl (by simp only [go_sem, g1, g2, hA6.alen, dl, e0] <;> rfl) ?_
  simp only [List.drop_succ_cons, List.drop_zero]
  refine AQ_take TT_ok 8 rfl (by simp only [go_sem, g3, g4, e0, List.map_cons, List.map_nil, bp52, bp52a] <;> rfl) ?_
  simp only [List.drop_succ_cons, List.drop_zero]
  refine AQ_lit TT_ok (paz.map Pr.val) TT_22 rfl TT_52 rfl (by decide) rfl (by decide) rfl (by simp only [paz, List.map_cons, List.map_nil, go_sem, numbered]) (Lay.prs _) fun H7 hX7 hO7 hL7 => ?_
  have hP7 := Own.pairs paz rfl hO7
  refine AQ_c rfl (by simp only [go_sem] <;> rfl) fok30 (by simp only [List.map_cons, List.map_nil, List.append_nil, go_sem] <;> rfl) (c30 hP7.sl (by decide)) (fun _ _ h => h.elim) (.inl rfl) fun r H8 hX8 ⟨vb, vq, hr, hB, _, _, _⟩ => ?_
  subst hr
  rw [if_pos paz_may, hT2] at hB
  have hB : NdS H8 vb T2 := hB.sl
  refine AQ_take TT_ok 1 rfl (by simp only [go_sem, (pick32 hB)] <;> rfl) ?_
  refine AQ_c rfl (by simp only [go_sem] <;> rfl) fok34 (by simp only [List.map_cons, List.map_nil, List.append_nil, go_sem] <;> rfl) (c34 ((hU6.keep hX7).keep hX8) hB (by omega)) (fun _ _ h => h.elim) (.inl rfl) fun r Hc hXc ⟨hr, hH⟩ => ?_
  have hH' := hH.symm
  subst hr hH'
  refine AQ_all TT_ok rfl (by simp only [go_sem, g6, g8, e9, e10, dT] <;> rfl) ?_
  exact AC_ret ⟨.inl rfl, _, rfl, by simp only [go_sem]⟩
end Go.Proofs.Ythalogdopkoidaa.Ab
set_option linter.unusedVariables false
set_option linter.unusedSimpArgs false
namespace Go.Proofs.Ythalogdopkoidaa.Ab
open Go Go.RowKit Go.Proofs.Ythalogdopkoidaa.Dr
end Go.Proofs.Ythalogdopkoidaa.Ab
set_option linter.unusedVariables false
set_option linter.unusedSimpArgs false
namespace Go.Proofs.Ythalogdopkoidaa.Ab
open Go Go.RowKit Go.Proofs.Ythalogdopkoidaa.Dr
end Go.Proofs.Ythalogdopkoidaa.Ab
set_option linter.unusedVariables false
set_option linter.unusedSimpArgs false
namespace Go.Proofs.Ythalogdopkoidaa.Ab
open Go Go.RowKit Go.Proofs.Ythalogdopkoidaa.Dr
theorem ins_ne (l : List Pr) (p : Pr) : ins l p ≠ [] := fun h => by
  have : p ∈ ins l p := ins_mem.2 (.inl rfl)
  rw [h] at this
  cases this
end Go.Proofs.Ythalogdopkoidaa.Ab
set_option linter.unusedVariables false
set_option linter.unusedSimpArgs false
namespace Go.Proofs.Ythalogdopkoidaa.Ab
open Go Go.RowKit Go.Proofs.Ythalogdopkoidaa.Dr
theorem perr_pok {p : Pr} (hp : Pok p) : kb p.key = true := by
  unfold kb
  rw [decide_eq_true hp.1, decide_eq_true hp.2.1]; rfl
end Go.Proofs.Ythalogdopkoidaa.Ab
set_option linter.unusedVariables false
set_option linter.unusedSimpArgs false
namespace Go.Proofs.Ythalogdopkoidaa.Ab
open Go Go.RowKit Go.Proofs.Ythalogdopkoidaa.Dr
end Go.Proofs.Ythalogdopkoidaa.Ab
set_option linter.unusedVariables false
set_option linter.unusedSimpArgs false
namespace Go.Proofs.Ythalogdopkoidaa.Ab
open Go Go.RowKit
/-- How many nodes. -/
def Tn (s : Sx) : Nat := (bld 17 s 0).length
def tot (gs : List (UInt8 × Sx)) : Nat := (gs.map fun p => Tn p.2).sum
theorem tot_app (a b : List (UInt8 × Sx)) : tot (a ++ b) = tot a + tot b := by simp [tot]
theorem tot_cons (p : UInt8 × Sx) (b : List (UInt8 × Sx)) : tot (p :: b) = Tn p.2 + tot b := by simp [tot]
theorem Tn_fuel {s : Sx} {f : Nat} (h : Bok s f) (hf : f ≤ 17) (k : Nat) : (bld f s k).length = Tn s := by
  unfold Tn
  rw [bld_fuel f 17 s 0 h hf]
  exact bld_shift f s k 0
theorem Tn_one (x : List UInt8 × List UInt8) : Tn [x] = 1 := rfl
/-- What the first and the last have in common. -/
def top : Sx → Nat
  | [] => 0
  | x :: r => com x.1 (lst x r).1
theorem top_two (x y : List UInt8 × List UInt8) (r : Sx) : top (x :: y :: r) = com x.1 (lst y r).1 := by
  show com x.1 (lst x (y :: r)).1 = _
  unfold lst
  rw [List.getLastD_cons]
theorem com_drop' {a b : List UInt8} {m : Nat} (h : m ≤ com a b) : com (a.drop m) (b.drop m) = com a b - m := by
  have h1 : a.take m = b.take m := by
    have := com_take a b
    have e := congrArg (List.take m) this
    rwa [List.take_take, List.take_take, Nat.min_eq_left h] at e
  have h2 : (a.take m).length = m := by rw [List.length_take]; have := com_left a b; omega
  have h3 := com_app (a.take m) (a.drop m) (b.drop m)
  rw [List.take_append_drop, h1, List.take_append_drop] at h3
  rw [h1] at h2
  omega
theorem com_pre2 {q a b : List UInt8} (ha : q <+: a) (hb : q <+: b) : q.length ≤ com a b := by
  obtain ⟨a', rfl⟩ := ha
  obtain ⟨b', rfl⟩ := hb
  rw [com_app]; omega
theorem top_pre {s : Sx} (hr : Ris s) (h2 : 2 ≤ s.length) : ∃ q : List UInt8, q.length = top s ∧ ∀ z ∈ s, q <+: z.1 := by
  match s, hr, h2 with
  | x :: y :: r, hr, _ =>
    rw [top_two]
    refine ⟨x.1.take (com x.1 (lst y r).1), ?_, hr.common⟩
    rw [List.length_take]; have := com_left x.1 (lst y r).1; omega
theorem top_max {s : Sx} (h1 : s ≠ []) {q : List UInt8} (h : ∀ z ∈ s, q <+: z.1) : q.length ≤ top s := by
  match s, h1 with
  | x :: r, _ => exact com_pre2 (h x (by simp)) (h _ (lst_mem x r))
theorem top_cut {s : Sx} {m : Nat} (hm : m ≤ top s) : top (s.map (cut m)) = top s - m := by
  match s with
  | [] => simp [top]
  | x :: r =>
    unfold top at hm ⊢
    rw [List.map_cons]
    dsimp only
    rw [lst_cut]
    exact com_drop' hm
theorem cut_cut (m n : Nat) (s : Sx) : (s.map (cut m)).map (cut n) = s.map (cut (m + n)) := by
  rw [List.map_map]
  apply List.map_congr_left
  intro z _
  simp [cut, List.drop_drop]
theorem Bok.cutm {s : Sx} {f m : Nat} (h : Bok s (f + m)) (h2 : 2 ≤ s.length) (hm : m ≤ top s) : Bok (s.map (cut m)) f := by
  obtain ⟨q, hq, hp⟩ := top_pre h.ris h2
  have hp' : ∀ z ∈ s, q.take m <+: z.1 := fun z hz => (List.take_prefix _ _).trans (hp z hz)
  have hl : (q.take m).length = m := by rw [List.length_take]; omega
  refine ⟨by simpa using h.ne, ?_, fun z hz => ?_, fun z hz b hb => ?_⟩
  · have := h.ris.cut hp'; rwa [hl] at this
  · obtain ⟨z', hz', rfl⟩ := List.mem_map.1 hz
    have h1 := h.fu z' hz'
    have h2 := (hp' z' hz').length_le
    rw [hl] at h2
    simp only [cut, List.length_drop]; omega
  · obtain ⟨z', hz', rfl⟩ := List.mem_map.1 hz
    exact h.sm z' hz' b (List.mem_of_mem_drop hb)
theorem Bok.up {s : Sx} {f g : Nat} (h : Bok s f) (hg : f ≤ g) : Bok s g := ⟨h.ne, h.ris, fun z hz => Nat.lt_of_lt_of_le (h.fu z hz) hg, h.sm⟩
theorem Tn_ext {s : Sx} (h : Bok s 17) (h2 : 2 ≤ s.length) (hc : 0 < top s) : Tn s = 1 + Tn (s.map (cut (top s))) := by
  match s, h, h2, hc with
  | x :: y :: r, h, h2, hc =>
    have ht := top_two x y r
    rw [ht] at hc ⊢
    have hb := h.ext_ (f := 16) hc
    unfold Tn
    rw [bld_ext 16 x y r 0 hc, List.length_cons, Tn_fuel hb (by omega) 1]
    unfold Tn
    omega
theorem Tn_cut {s : Sx} (h : Bok s 17) (h2 : 2 ≤ s.length) {m : Nat} (hm : m < top s) : Tn (s.map (cut m)) = Tn s := by
  obtain ⟨f, hf⟩ : ∃ f, 17 = f + m := by
    obtain ⟨q, hq, hp⟩ := top_pre h.ris h2
    obtain ⟨x, hx⟩ := List.exists_mem_of_ne_nil _ h.ne
    have := (hp x hx).length_le
    have := h.fu x hx
    exact ⟨17 - m, by omega⟩
  have hb : Bok (s.map (cut m)) 17 := (Bok.cutm (f := f) (m := m) (by rw [← hf]; exact h) h2 (by omega)).up (by omega)
  have ht := top_cut (s := s) (m := m) (by omega)
  have he : m + (top s - m) = top s := by omega
  rw [Tn_ext hb (by simpa using h2) (by omega), Tn_ext h h2 (by omega), ht, cut_cut, he]
theorem groups_nil (v : List UInt8) (s : Sx) : groups (([], v) :: s) = groups s := rfl
theorem groups_sub {x y : List UInt8 × List UInt8} {r : Sx} : groups (if x.1 = [] then y :: r else x :: y :: r) = groups (x :: y :: r) := by
  split
  · rename_i h
    obtain ⟨n, v⟩ := x
    dsimp only at h
    subst h
    rw [groups_nil]
  · rfl
theorem Bok.grp2 {s : Sx} {f : Nat} (h : Bok s (f + 1)) (h2 : 2 ≤ s.length) : ∀ p ∈ groups s, Bok p.2 f := by
  match s, h, h2 with
  | x :: y :: r, h, _ =>
    have hs := h.sub
    have := (hs.1.grp hs.2).1
    rwa [groups_sub] at this
theorem brn_tot {f : Nat} (hf : f ≤ 17) : ∀ (gs : List (UInt8 × Sx)) (k : Nat) (kids : Vector Int 16), (∀ p ∈ gs, Bok p.2 f) → (brn (bld f) gs k kids).1.length = tot gs
  | [], k, kids, _ => rfl
  | (c, g) :: gs, k, kids, h => by
    rw [brn_cons, List.length_append, tot_cons, Tn_fuel (h (c, g) (by simp)) hf, brn_tot hf gs _ _ (fun p hp => h p (by simp [hp]))]
theorem Tn_brn {s : Sx} (h : Bok s 17) (h2 : 2 ≤ s.length) (hc : top s = 0) : Tn s = 1 + tot (groups s) := by
  have hg := h.grp2 (f := 16) h2
  match s, h, h2, hc, hg with
  | x :: y :: r, h, h2, hc, hg =>
    have ht := top_two x y r
    rw [ht] at hc
    have hc' : ¬ 0 < com x.1 (lst y r).1 := by omega
    unfold Tn
    rw [bld_brn 16 x y r 0 hc', List.length_cons, groups_sub, brn_tot (by omega) _ _ _ hg]
    omega
theorem groups_ins0 {b : Sx} {v : List UInt8} : ∀ a : Sx, groups (a ++ ([], v) :: b) = groups (a ++ b)
  | [] => rfl
  | ([], w) :: a => by
    rw [List.cons_append, List.cons_append, groups_nil, groups_nil, groups_ins0 a]
  | (d :: n, w) :: a => by
    rw [List.cons_append, List.cons_append, groups, groups, groups_ins0 a]
/-- The group that gains one, or a group more. -/
def Gn (gs gs' : List (UInt8 × Sx)) (c : UInt8) (z : List UInt8 × List UInt8) : Prop :=
  (∃ A B g1 g2, g1 ++ g2 ≠ [] ∧ gs' = A ++ (c, g1 ++ z :: g2) :: B ∧ gs = A ++ (c, g1 ++ g2) :: B) ∨
  (∃ A B, gs' = A ++ (c, [z]) :: B ∧ gs = A ++ B ∧ ∀ p ∈ A ++ B, p.1 ≠ c)
theorem groups_cons (d : UInt8) (n w : List UInt8) (s : Sx) : groups ((d :: n, w) :: s) = match groups s with
    | (c', g) :: gs => if d = c' then (d, (n, w) :: g) :: gs else (d, [(n, w)]) :: (c', g) :: gs
    | [] => [(d, [(n, w)])] := rfl
theorem groups_cons_ne {d : UInt8} {n w : List UInt8} {s : Sx} (h : ∀ p, (groups s).head? = some p → p.1 ≠ d) : groups ((d :: n, w) :: s) = (d, [(n, w)]) :: groups s := by
  rw [groups_cons]
  cases hg : groups s with
  | nil => rfl
  | cons p gs =>
    obtain ⟨c', g⟩ := p
    have : c' ≠ d := h (c', g) (by rw [hg]; rfl)
    dsimp only
    rw [if_neg (Ne.symm this)]
theorem groups_cons_eq {d : UInt8} {n w : List UInt8} {s g : Sx} {gs : List (UInt8 × Sx)} (h : groups s = (d, g) :: gs) : groups ((d :: n, w) :: s) = (d, (n, w) :: g) :: gs := by
  rw [groups_cons, h]
  dsimp only
  rw [if_pos rfl]
theorem groups_ins {b : Sx} {c : UInt8} {z v : List UInt8} : ∀ a : Sx, Ris (a ++ (c :: z, v) :: b) → Gn (groups (a ++ b)) (groups (a ++ (c :: z, v) :: b)) c (z, v)
  | [], hr => by
    rw [List.nil_append, List.nil_append]
    cases hg : groups b with
    | nil =>
      refine .inr ⟨[], [], ?_, rfl, by simp⟩
      rw [groups_cons, hg]; rfl
    | cons p gs =>
      obtain ⟨c', g⟩ := p
      by_cases h : c' = c
      · subst h
        have hgn : g ≠ [] := groups_ne b (c', g) (by rw [hg]; simp)
        refine .inl ⟨[], gs, [], g, hgn, ?_, rfl⟩
        rw [groups_cons_eq hg]; rfl
      · have hne : groups ((c :: z, v) :: b) = (c, [(z, v)]) :: groups b := groups_cons_ne fun p hp => by
          rw [hg] at hp
          obtain rfl := Option.some.inj hp
          exact h
        have hall : ∀ x ∈ (c :: z, v) :: b, x.1 ≠ [] := fun x hx => by
          rcases List.mem_cons.1 hx with rfl | hx
          · simp
          · exact Ris.full hr x hx
        have hs := groups_sorted _ hall hr
        rw [hne, hg] at hs
        refine .inr ⟨[], (c', g) :: gs, by rw [hne, hg]; rfl, rfl, fun p hp => ?_⟩
        have := (List.pairwise_cons.1 hs).1 p hp
        exact fun e => by rw [e] at this; exact UInt8.lt_irrefl _ this
  | ([], w) :: a, hr => by
    rw [List.cons_append, List.cons_append, groups_nil, groups_nil]
    exact groups_ins a (List.pairwise_cons.1 hr).2
  | (d :: n, w) :: a, hr => by
    rw [List.cons_append] at hr
    have hr' := (List.pairwise_cons.1 hr).2
    have hall : ∀ x ∈ a ++ (c :: z, v) :: b, x.1 ≠ [] := hr.full
    have hs := groups_sorted _ hall hr'
    have hdc : d < c ∨ d = c := by
      have := (List.pairwise_cons.1 hr).1 (c :: z, v) (by simp)
      rcases cons_lt.1 this with h | ⟨h, _⟩
      · exact .inl h
      · exact .inr h
    rw [List.cons_append, List.cons_append]
    rcases groups_ins a hr' with ⟨A, B, g1, g2, hg0, h1, h2⟩ | ⟨A, B, h1, h2, hne⟩
    · cases A with
      | nil =>
        rw [List.nil_append] at h1 h2
        by_cases hd : d = c
        · subst hd
          exact .inl ⟨[], B, (n, w) :: g1, g2, by simp, by rw [groups_cons_eq h1]; rfl, by rw [groups_cons_eq h2]; rfl⟩
        · refine .inl ⟨[(d, [(n, w)])], B, g1, g2, hg0, ?_, ?_⟩
          · rw [groups_cons_ne (by rw [h1]; intro p hp; obtain rfl := Option.some.inj hp; exact Ne.symm hd), h1]; rfl
          · rw [groups_cons_ne (by rw [h2]; intro p hp; obtain rfl := Option.some.inj hp; exact Ne.symm hd), h2]; rfl
      | cons p A =>
        obtain ⟨e, g⟩ := p
        rw [List.cons_append] at h1 h2
        by_cases hd : d = e
        · subst hd
          exact .inl ⟨(d, (n, w) :: g) :: A, B, g1, g2, hg0, by rw [groups_cons_eq h1]; rfl, by rw [groups_cons_eq h2]; rfl⟩
        · refine .inl ⟨(d, [(n, w)]) :: (e, g) :: A, B, g1, g2, hg0, ?_, ?_⟩
          · rw [groups_cons_ne (by rw [h1]; intro p hp; obtain rfl := Option.some.inj hp; exact Ne.symm hd), h1]; rfl
          · rw [groups_cons_ne (by rw [h2]; intro p hp; obtain rfl := Option.some.inj hp; exact Ne.symm hd), h2]; rfl
    · cases A with
      | nil =>
        rw [List.nil_append] at h1 h2 hne
        by_cases hd : d = c
        · subst hd
          refine .inl ⟨[], B, [(n, w)], [], by simp, by rw [groups_cons_eq h1]; rfl, ?_⟩
          rw [groups_cons_ne (by rw [h2]; intro p hp; exact hne p (List.mem_of_mem_head? hp)), h2]; rfl
        · have hlt : d < c := by rcases hdc with h | h; exact h; exact absurd h hd
          rw [h1] at hs
          have hB := (List.pairwise_cons.1 hs).1
          refine .inr ⟨[(d, [(n, w)])], B, ?_, ?_, fun p hp => ?_⟩
          · rw [groups_cons_ne (by rw [h1]; intro p hp; obtain rfl := Option.some.inj hp; exact Ne.symm hd), h1]; rfl
          · rw [groups_cons_ne (by
              rw [h2]; intro p hp e
              have h3 := hB p (List.mem_of_mem_head? hp)
              rw [e] at h3
              exact UInt8.lt_irrefl _ (UInt8.lt_trans hlt h3)), h2]; rfl
          · rcases List.mem_append.1 hp with h | h
            · rw [List.mem_singleton] at h; subst h; exact hd
            · exact hne p h
      | cons p A =>
        obtain ⟨e, g⟩ := p
        rw [List.cons_append] at h1 h2 hne
        by_cases hd : d = e
        · subst hd
          refine .inr ⟨(d, (n, w) :: g) :: A, B, by rw [groups_cons_eq h1]; rfl, by rw [groups_cons_eq h2]; rfl, fun p hp => ?_⟩
          rw [List.cons_append] at hp
          rcases List.mem_cons.1 hp with rfl | hp
          · exact hne (d, g) (by simp)
          · exact hne p (by simp only [List.mem_cons]; exact .inr hp)
        · have hdc' : d ≠ c := by
            rw [h1] at hs
            have h3 := (List.pairwise_cons.1 hs).1 (c, [(z, v)]) (by simp)
            have h4 : ¬ d = c := fun hc => by
              -- the groups begin with the first one's character: at most c, at least d
              obtain ⟨n', v', r', hx⟩ := groups_first hall h1
              have hy := (List.pairwise_cons.1 hr).1 (e :: n', v') (by rw [hx]; simp)
              rcases cons_lt.1 hy with h5 | ⟨h5, _⟩
              · rw [hc] at h5; exact UInt8.lt_irrefl _ (UInt8.lt_trans h5 h3)
              · exact hd h5
            exact h4
          refine .inr ⟨(d, [(n, w)]) :: (e, g) :: A, B, ?_, ?_, fun p hp => ?_⟩
          · rw [groups_cons_ne (by rw [h1]; intro p hp; obtain rfl := Option.some.inj hp; exact Ne.symm hd), h1]; rfl
          · rw [groups_cons_ne (by rw [h2]; intro p hp; obtain rfl := Option.some.inj hp; exact Ne.symm hd), h2]; rfl
          · rw [List.cons_append] at hp
            rcases List.mem_cons.1 hp with rfl | hp
            · exact hdc'
            · exact hne p hp
theorem Ris.drop1 {a b : Sx} {x : List UInt8 × List UInt8} (h : Ris (a ++ x :: b)) : Ris (a ++ b) := by
  refine List.Pairwise.sublist ?_ h
  exact List.Sublist.append (List.Sublist.refl a) (List.sublist_cons_self x b)
theorem Bok.drop1 {a b : Sx} {x : List UInt8 × List UInt8} {f : Nat} (h : Bok (a ++ x :: b) f) (hn : a ++ b ≠ []) : Bok (a ++ b) f := by
  have hm : ∀ z, z ∈ a ++ b → z ∈ a ++ x :: b := fun z hz => by
    rcases List.mem_append.1 hz with h | h
    · exact List.mem_append.2 (.inl h)
    · exact List.mem_append.2 (.inr (List.mem_cons_of_mem _ h))
  exact ⟨hn, h.ris.drop1, fun z hz => h.fu z (hm z hz), fun z hz => h.sm z (hm z hz)⟩
theorem top_le {a b : Sx} {x : List UInt8 × List UInt8} (h : Ris (a ++ x :: b)) (hn : a ++ b ≠ []) : top (a ++ x :: b) ≤ top (a ++ b) := by
  have hl : 2 ≤ (a ++ x :: b).length := by
    have := List.length_pos_iff.2 hn
    simp only [List.length_append, List.length_cons] at this ⊢
    omega
  obtain ⟨q, hq, hp⟩ := top_pre h hl
  rw [← hq]
  refine top_max hn fun z hz => hp z ?_
  rcases List.mem_append.1 hz with h | h
  · exact List.mem_append.2 (.inl h)
  · exact List.mem_append.2 (.inr (List.mem_cons_of_mem _ h))
/-- Where nothing is in common any more. -/
theorem Tn_part {a b : Sx} {x : List UInt8 × List UInt8} (h : Bok (a ++ x :: b) 17) (h2 : 2 ≤ (a ++ b).length) (h0 : top (a ++ x :: b) = 0) (hc : 0 < top (a ++ b)) : Tn (a ++ b) ≤ Tn (a ++ x :: b) ∧ Tn (a ++ x :: b) ≤ Tn (a ++ b) + 2 := by
  have hn : a ++ b ≠ [] := fun e => by rw [e] at h2; simp at h2
  have hb := h.drop1 hn
  have h2' : 2 ≤ (a ++ x :: b).length := by simp only [List.length_append, List.length_cons] at h2 ⊢; omega
  have hT := Tn_brn h h2' h0
  obtain ⟨q, hq, hp⟩ := top_pre hb.ris h2
  obtain ⟨c, q', rfl⟩ : ∃ c q', q = c :: q' := by
    cases q with
    | nil => simp at hq; omega
    | cons c q' => exact ⟨c, q', rfl⟩
  have hhead : ∀ z ∈ a ++ b, z.1.head? = some c := fun z hz => by
    obtain ⟨t, ht⟩ := hp z hz
    rw [← ht]; rfl
  have hg : groups (a ++ b) = [(c, (a ++ b).map (cut 1))] := by
    have := groups_run c (a ++ b) [] hn hhead (by simp)
    rwa [List.append_nil] at this
  have hcut : Tn ((a ++ b).map (cut 1)) ≤ Tn (a ++ b) ∧ Tn (a ++ b) ≤ Tn ((a ++ b).map (cut 1)) + 1 := by
    rcases Nat.lt_or_ge 1 (top (a ++ b)) with h1 | h1
    · rw [Tn_cut hb h2 h1]; omega
    · have e : top (a ++ b) = 1 := by omega
      have := Tn_ext hb h2 hc
      rw [e] at this
      omega
  obtain ⟨k, v⟩ := x
  cases k with
  | nil =>
    rw [groups_ins0 a, hg, tot_cons] at hT
    have : tot [] = 0 := rfl
    dsimp only at hT
    omega
  | cons d z =>
    rcases groups_ins a h.ris with ⟨A, B, g1, g2, _, e1, e2⟩ | ⟨A, B, e1, e2, _⟩
    · exfalso
      rw [hg] at e2
      have hdc : d = c := by
        cases A with
        | nil =>
          have := (List.cons.inj e2).1
          exact (Prod.mk.inj this).1.symm
        | cons p A => simp at e2
      have : ([c] : List UInt8).length ≤ top (a ++ (d :: z, v) :: b) := top_max (by simp) fun y hy => by
        rcases List.mem_append.1 hy with h | h
        · exact (List.prefix_cons_iff.2 (.inr ⟨[], rfl, List.nil_prefix⟩ : _) : [c] <+: c :: q').trans (hp y (List.mem_append.2 (.inl h)))
        · rcases List.mem_cons.1 h with rfl | h
          · rw [hdc]; exact List.cons_prefix_cons.2 ⟨rfl, List.nil_prefix⟩
          · exact (List.cons_prefix_cons.2 ⟨rfl, List.nil_prefix⟩ : [c] <+: c :: q').trans (hp y (List.mem_append.2 (.inr h)))
      simp at this
      omega
    · rw [e1, tot_app, tot_cons] at hT
      rw [hg] at e2
      have e3 := congrArg tot e2
      rw [tot_app, tot_cons] at e3
      have : tot [] = 0 := rfl
      have h1 : Tn ((d, [(z, v)]) : UInt8 × Sx).2 = 1 := Tn_one _
      dsimp only at hT e3 h1
      omega
theorem Tn_step : ∀ (m : Nat), m ≤ 17 → ∀ (a b : Sx) (x : List UInt8 × List UInt8), Bok (a ++ x :: b) m → a ++ b ≠ [] → Tn (a ++ b) ≤ Tn (a ++ x :: b) ∧ Tn (a ++ x :: b) ≤ Tn (a ++ b) + 3
  | 0, _, a, b, x, h, _ => by have := h.pos; omega
  | m + 1, hm, a, b, x, h, hn => by
    have ih := Tn_step m (by omega)
    have h17 : Bok (a ++ x :: b) 17 := h.up hm
    have hp := List.length_pos_iff.2 hn
    have hl : (a ++ x :: b).length = (a ++ b).length + 1 := by simp only [List.length_append, List.length_cons]; omega
    rcases Nat.lt_or_ge (a ++ b).length 2 with h1 | h2
    · have e1 : Tn (a ++ b) = 1 := by
        match hs : a ++ b, hn, h1 with
        | [y], _, _ => rfl
      have e2 := bld_two h17 (k := 0) (by omega)
      have e3 := bld_bound 17 (a ++ x :: b) 0 h17
      unfold Tn at e1 ⊢
      omega
    have h2' : 2 ≤ (a ++ x :: b).length := by omega
    have hb17 := h17.drop1 hn
    have hle := top_le h.ris hn
    rcases Nat.eq_zero_or_pos (top (a ++ x :: b)) with h0 | h0
    · rcases Nat.eq_zero_or_pos (top (a ++ b)) with hc | hc
      · -- a branch stays one
        have hT' := Tn_brn h17 h2' h0
        have hT := Tn_brn hb17 h2 hc
        have hg := h.grp2 h2'
        obtain ⟨k, v⟩ := x
        cases k with
        | nil =>
          rw [groups_ins0 a] at hT'
          omega
        | cons d z =>
          rcases groups_ins a h.ris with ⟨A, B, g1, g2, hg0, e1, e2⟩ | ⟨A, B, e1, e2, _⟩
          · have hbg := hg (d, g1 ++ (z, v) :: g2) (by rw [e1]; simp)
            have hi := ih g1 g2 (z, v) hbg hg0
            rw [e1, tot_app, tot_cons] at hT'
            rw [e2, tot_app, tot_cons] at hT
            dsimp only at hT hT'
            omega
          · rw [e1, tot_app, tot_cons] at hT'
            rw [e2, tot_app] at hT
            have h1 : Tn ((d, [(z, v)]) : UInt8 × Sx).2 = 1 := Tn_one _
            dsimp only at hT' h1
            omega
      · have := Tn_part h17 h2 h0 hc
        omega
    · rcases Nat.lt_or_ge (top (a ++ x :: b)) (top (a ++ b)) with hlt | hge
      · -- the common part is shorter
        have hT' := Tn_ext h17 h2' h0
        have hT := Tn_cut hb17 h2 hlt
        obtain ⟨f, hf⟩ : ∃ f, 17 = f + top (a ++ x :: b) := by
          obtain ⟨q, hq, hp⟩ := top_pre h17.ris h2'
          have := (hp x (by simp)).length_le
          have := h17.fu x (by simp)
          exact ⟨17 - top (a ++ x :: b), by omega⟩
        have hb' : Bok ((a ++ x :: b).map (cut (top (a ++ x :: b)))) 17 := (Bok.cutm (f := f) (by rw [← hf]; exact h17) h2' (Nat.le_refl _)).up (by omega)
        have t1 := top_cut (s := a ++ x :: b) (Nat.le_refl _)
        have t2 := top_cut (s := a ++ b) (m := top (a ++ x :: b)) (by omega)
        generalize top (a ++ x :: b) = c at *
        rw [List.map_append, List.map_cons] at hT' hb' t1
        rw [List.map_append] at hT t2
        have := Tn_part hb' (by rw [List.length_append, List.length_map, List.length_map, ← List.length_append]; exact h2) (by omega) (by omega)
        omega
      · -- it stays
        have he : top (a ++ x :: b) = top (a ++ b) := by omega
        have hT' := Tn_ext h17 h2' h0
        have hT := Tn_ext hb17 h2 (by omega)
        rw [← he] at hT
        obtain ⟨g, hg⟩ : ∃ g, top (a ++ x :: b) = g + 1 := ⟨top (a ++ x :: b) - 1, by omega⟩
        have hb' : Bok ((a ++ x :: b).map (cut (top (a ++ x :: b)))) m := by
          obtain ⟨q, hq, hp⟩ := top_pre h.ris h2'
          have hx := (hp x (by simp)).length_le
          have hx2 := h.fu x (by simp)
          exact (Bok.cutm (f := m + 1 - top (a ++ x :: b)) (by rw [Nat.sub_add_cancel (by omega)]; exact h) h2' (Nat.le_refl _)).up (by omega)
        generalize top (a ++ x :: b) = c at *
        rw [List.map_append, List.map_cons] at hT' hb'
        rw [List.map_append] at hT
        have := ih (a.map (cut c)) (b.map (cut c)) (cut c x) hb' (fun e => by
          have := congrArg List.length e
          rw [List.length_append, List.length_map, List.length_map, ← List.length_append] at this
          simp only [List.length_nil] at this
          omega)
        omega
def er (x : List UInt8 × List UInt8) : List UInt8 × List UInt8 := (x.1, [])
theorem groups_er : ∀ s : Sx, groups (s.map er) = (groups s).map fun p => (p.1, p.2.map er)
  | [] => rfl
  | ([], v) :: s => by
    rw [List.map_cons]
    show groups (([], []) :: s.map er) = _
    rw [groups_nil, groups_nil, groups_er s]
  | (c :: n, v) :: s => by
    rw [List.map_cons]
    show groups ((c :: n, []) :: s.map er) = _
    rw [groups_cons, groups_cons, groups_er s]
    cases groups s with
    | nil => rfl
    | cons p gs =>
      obtain ⟨c', g⟩ := p
      rw [List.map_cons]
      dsimp only
      by_cases h : c = c'
      · rw [if_pos h, if_pos h]; rfl
      · rw [if_neg h, if_neg h]; rfl
theorem lst_er (x : List UInt8 × List UInt8) : ∀ r : Sx, lst (er x) (r.map er) = er (lst x r) := by
  intro r
  unfold lst
  induction r generalizing x with
  | nil => rfl
  | cons y r ih => rw [List.map_cons, List.getLastD_cons, List.getLastD_cons, ih y]
theorem cut_er (c : Nat) (s : Sx) : (s.map er).map (cut c) = (s.map (cut c)).map er := by
  rw [List.map_map, List.map_map]
  rfl
theorem brn_er {f : Nat} (ih : ∀ (s : Sx) (k k' : Nat), (bld f (s.map er) k).length = (bld f s k').length) : ∀ (gs : List (UInt8 × Sx)) (k k' : Nat) (kids kids' : Vector Int 16), (brn (bld f) (gs.map fun p => (p.1, p.2.map er)) k kids).1.length = (brn (bld f) gs k' kids').1.length
  | [], k, k', kids, kids' => rfl
  | (c, g) :: gs, k, k', kids, kids' => by
    rw [List.map_cons, brn_cons, brn_cons, List.length_append, List.length_append, ih g k k', brn_er ih gs _ (k' + (bld f g k').length) _ (setk kids' c k')]
theorem bld_er : ∀ (f : Nat) (s : Sx) (k k' : Nat), (bld f (s.map er) k).length = (bld f s k').length
  | 0, s, k, k' => rfl
  | f + 1, [], k, k' => rfl
  | f + 1, [x], k, k' => rfl
  | f + 1, x :: y :: r, k, k' => by
    rw [List.map_cons, List.map_cons]
    have hl : com (er x).1 (lst (er y) (r.map er)).1 = com x.1 (lst y r).1 := by rw [lst_er]; rfl
    by_cases hc : 0 < com x.1 (lst y r).1
    · rw [bld_ext f (er x) (er y) (r.map er) k (by rw [hl]; exact hc), bld_ext f x y r k' hc, hl]
      have e : (er x :: er y :: r.map er).map (cut (com x.1 (lst y r).1)) = ((x :: y :: r).map (cut (com x.1 (lst y r).1))).map er := cut_er _ (x :: y :: r)
      rw [e, List.length_cons, List.length_cons, bld_er f _ (k + 1) (k' + 1)]
    · rw [bld_brn f (er x) (er y) (r.map er) k (by rw [hl]; exact hc), bld_brn f x y r k' hc, List.length_cons, List.length_cons, groups_sub, groups_sub]
      have e : groups (er x :: er y :: r.map er) = (groups (x :: y :: r)).map fun p => (p.1, p.2.map er) := groups_er (x :: y :: r)
      rw [e, brn_er (bld_er f) _ (k + 1) (k' + 1) zk zk]
theorem build_er {a b : List Pr} (h : a.map Pr.key = b.map Pr.key) : (build a).length = (build b).length := by
  have hl := congrArg List.length h
  rw [List.length_map, List.length_map] at hl
  unfold build
  by_cases ha : a = []
  · have hb : b = [] := List.eq_nil_of_length_eq_zero (by rw [← hl, ha]; rfl)
    rw [if_pos ha, if_pos hb]
  · have hb : b ≠ [] := fun e => ha (List.eq_nil_of_length_eq_zero (by rw [hl, e]; rfl))
    rw [if_neg ha, if_neg hb, ← bld_er 17 (sx a) 0 0, ← bld_er 17 (sx b) 0 0]
    have e : ∀ l : List Pr, (sx l).map er = (l.map Pr.key).map fun k => (nib k, []) := fun l => by
      unfold sx
      rw [List.map_map, List.map_map]
      rfl
    rw [e, e, h]
theorem ins_split {l : List Pr} (hm : May l) (p : Pr) : ∃ a b, ins l p = a ++ p :: b ∧ ((l = a ++ b ∧ (l.any fun x => decide (x.key = p.key)) = false) ∨ (∃ x, x.key = p.key ∧ l = a ++ x :: b ∧ (l.any fun x => decide (x.key = p.key)) = true)) := by
  have hsp : ∀ l : List Pr, l.Pairwise (fun p q => p.key < q.key) → (l = (l.filter fun x => decide (x.key < p.key)) ++ (l.filter fun x => decide (p.key < x.key)) ∧ (l.any fun x => decide (x.key = p.key)) = false) ∨ (∃ x, x.key = p.key ∧ l = (l.filter fun x => decide (x.key < p.key)) ++ x :: (l.filter fun x => decide (p.key < x.key)) ∧ (l.any fun x => decide (x.key = p.key)) = true) := by
    intro l
    induction l with
    | nil => intro _; exact .inl ⟨rfl, rfl⟩
    | cons y l ih =>
      intro hp
      obtain ⟨h1, h2⟩ := List.pairwise_cons.1 hp
      rcases key_tri y.key p.key with h | h | h
      · have dy : decide (y.key < p.key) = true := decide_eq_true h
        have dz : decide (p.key < y.key) = false := decide_eq_false (key_asym h)
        have de : decide (y.key = p.key) = false := decide_eq_false (fun e => by rw [e] at h; exact key_irr _ h)
        rw [List.filter_cons, List.filter_cons, List.any_cons, dy, dz, de, Bool.false_or]
        rcases ih h2 with ⟨h3, h4⟩ | ⟨x, hx, h3, h4⟩
        · exact .inl ⟨by simp only [if_true, Bool.false_eq_true, if_false]; rw [List.cons_append, ← h3], h4⟩
        · exact .inr ⟨x, hx, by simp only [if_true, Bool.false_eq_true, if_false]; rw [List.cons_append, ← h3], h4⟩
      · have dy : decide (y.key < p.key) = false := decide_eq_false (by rw [h]; exact key_irr _)
        have dz : decide (p.key < y.key) = false := decide_eq_false (by rw [h]; exact key_irr _)
        have de : decide (y.key = p.key) = true := decide_eq_true h
        rw [List.filter_cons, List.filter_cons, List.any_cons, dy, dz, de, Bool.true_or]
        have hl1 : (l.filter fun x => decide (x.key < p.key)) = [] := filt_none fun x hx => decide_eq_false (by rw [← h]; exact key_asym (h1 x hx))
        have hl2 : (l.filter fun x => decide (p.key < x.key)) = l := filt_all fun x hx => decide_eq_true (by rw [← h]; exact h1 x hx)
        exact .inr ⟨y, h, by simp only [Bool.false_eq_true, if_false]; rw [hl1, hl2]; rfl, rfl⟩
      · have dy : decide (y.key < p.key) = false := decide_eq_false (key_asym h)
        have dz : decide (p.key < y.key) = true := decide_eq_true h
        have de : decide (y.key = p.key) = false := decide_eq_false (fun e => by rw [e] at h; exact key_irr _ h)
        have hgt : ∀ x ∈ l, p.key < x.key := fun x hx => List.lt_trans h (h1 x hx)
        rw [List.filter_cons, List.filter_cons, List.any_cons, dy, dz, de, Bool.false_or]
        have hl1 : (l.filter fun x => decide (x.key < p.key)) = [] := filt_none fun x hx => decide_eq_false (key_asym (hgt x hx))
        have hl2 : (l.filter fun x => decide (p.key < x.key)) = l := filt_all fun x hx => decide_eq_true (hgt x hx)
        refine .inl ⟨by simp only [if_true, Bool.false_eq_true, if_false]; rw [hl1, hl2]; rfl, ?_⟩
        cases ha : l.any fun x => decide (x.key = p.key)
        · rfl
        · obtain ⟨x, hx, he⟩ := List.any_eq_true.1 ha
          have h5 := hgt x hx
          rw [of_decide_eq_true he] at h5
          exact absurd h5 (key_irr _)
  exact ⟨_, _, rfl, hsp l hm.2⟩
theorem build_Tn {l : List Pr} (hn : l ≠ []) : (build l).length = Tn (sx l) := by
  rw [build, if_neg hn]; rfl
theorem put_nodes {l : List Pr} (hm : May l) {p : Pr} (hp : Pok p) : ((l.any fun x => decide (x.key = p.key)) = true → (build (ins l p)).length = (build l).length) ∧ (build l).length ≤ (build (ins l p)).length ∧ (build (ins l p)).length ≤ (build l).length + 3 := by
  have hmi := hm.ins hp
  obtain ⟨a, b, h1, h2⟩ := ins_split hm p
  rcases h2 with ⟨rfl, hany⟩ | ⟨x, hx, rfl, hany⟩
  · refine ⟨fun h => (by rw [hany] at h; cases h), ?_⟩
    have hni : ins (a ++ b) p ≠ [] := ins_ne _ _
    have hB := Bok.all hmi hni
    rw [h1] at hB ⊢
    rw [build_Tn (l := a ++ p :: b) (by simp)]
    have e : sx (a ++ p :: b) = sx a ++ (nib p.key, p.value) :: sx b := by unfold sx; rw [List.map_append, List.map_cons]
    rw [e] at hB ⊢
    by_cases hn : a ++ b = []
    · have ha : a = [] := (List.append_eq_nil_iff.1 hn).1
      have hb : b = [] := (List.append_eq_nil_iff.1 hn).2
      subst ha hb
      have e1 : (build ([] ++ [])).length = 0 := rfl
      have e2 : Tn (sx [] ++ (nib p.key, p.value) :: sx []) = 1 := rfl
      omega
    · rw [build_Tn hn]
      have e2 : sx (a ++ b) = sx a ++ sx b := by unfold sx; rw [List.map_append]
      rw [e2]
      refine Tn_step 17 (Nat.le_refl _) (sx a) (sx b) _ hB fun h => hn ?_
      have := congrArg List.length h
      unfold sx at this
      rw [List.length_append, List.length_map, List.length_map, ← List.length_append] at this
      exact List.eq_nil_of_length_eq_zero this
  · have he : (build (ins (a ++ x :: b) p)).length = (build (a ++ x :: b)).length := by
      rw [h1]
      refine build_er ?_
      rw [List.map_append, List.map_append, List.map_cons, List.map_cons, hx]
    exact ⟨fun _ => he, by omega, by omega⟩
end Go.Proofs.Ythalogdopkoidaa.Ab
set_option linter.unusedVariables false
set_option linter.unusedSimpArgs false
namespace Go.Proofs.Ythalogdopkoidaa.Ab
open Go Go.RowKit Go.Proofs.Ythalogdopkoidaa.Dr
set_option maxRecDepth 100000 in
set_option maxHeartbeats 16000000 in
theorem c24 {H : AHeap} {vl : Value} {l : List Pr} {p : Pr} (hl : PrS H vl l) : ACalls Try.prog 24 [vl, p.val] H (fun _ => False) fun v H' => v = .bool true := by
  refine ACalls_by 77 TT_ok Try.func24 rfl rfl rfl (by simp) ?_
  refine AC_seq ?_
  refine AC_regL ?_
  refine AQ_box TT_ok TT_52 rfl (by simp only [go_sem] <;> rfl) (Lay.pr p) rfl fun H1 hX1 hO1 hL1 => ?_
  refine AQ_all TT_ok rfl (by simp only [go_sem] <;> rfl) ?_
  have hl := hl.keep hX1
  have z1 := hX1.size
  refine AC_cut (fun e' H' => H1 = H' ∧ szP l ≤ 3000 ∧ May l ∧ Pok p ∧ get e' 0 = vl ∧ get e' 3 = .pointer (some ⟨H.length, 0, none⟩)) ?_ (fun e1 H2 _ ⟨hH, hsP, hm, hpok, g0, g3⟩ => ?_)
  · refine AC_cut (fun e' H' => H1 = H' ∧ ∃ b, get e' 29 = .bool b ∧ (b = false → szP l ≤ 3000 ∧ May l ∧ Pok p) ∧ get e' 0 = vl ∧ get e' 3 = .pointer (some ⟨H.length, 0, none⟩)) ?_ (fun e1 H2 _ ⟨hH, b, hcnd, hb, g0, g3⟩ => ?_)
    · refine AC_regL ?_
      refine AQ_take TT_ok 1 rfl (by simp only [go_sem] <;> rfl) ?_
      refine AQ_c rfl (by simp only [go_sem] <;> rfl) fok26 (by simp only [List.map_cons, List.map_nil, List.append_nil, go_sem] <;> rfl) (c26 hl) (fun _ _ h => h.elim) (.inl rfl) fun r H2 hX2 ⟨hH, b, hr, hb⟩ => ?_
      subst hr hH
      cases b
      · have hs := hb rfl
        have := szP_len l
        refine AQ_take TT_ok 2 rfl (by simp only [go_sem] <;> rfl) ?_
        refine AQ_c rfl (by simp only [go_sem] <;> rfl) fok39 (by simp only [List.map_cons, List.map_nil, List.append_nil, go_sem] <;> rfl) (c39 hl (by omega)) (fun _ _ h => h.elim) (.inl rfl) fun r H2 hX2 ⟨hr, hH⟩ => ?_
        have hH' := hH.symm
        subst hr hH'
        by_cases hm : May l
        · have dm : decide (May l) = true := decide_eq_true hm
          refine AQ_take TT_ok 5 rfl (by simp only [go_sem, f52_0, hO1.load, ap52_key, dm, Bool.not_true] <;> rfl) ?_
          refine AQ_c rfl (by simp only [go_sem] <;> rfl) fok48 (by simp only [List.map_cons, List.map_nil, List.append_nil, go_sem] <;> rfl) (c48 (k := p.key)) (fun _ _ h => h.elim) (.inl rfl) fun r H2 hX2 ⟨hr, hH⟩ => ?_
          have hH' := hH.symm
          subst hr hH'
          cases hkb : kb p.key
          · refine AQ_all TT_ok rfl (by simp only [go_sem, Bool.not_false] <;> rfl) ?_
            exact ⟨rfl, true, by simp only [go_sem], fun h => (by cases h), by simp only [go_sem], by simp only [go_sem]⟩
          · by_cases hv : p.value.length ≤ 16
            · have dv : decide ((16 : Int) < (p.value.length : Int)) = false := decide_eq_false (by omega)
              have hp : Pok p := ⟨(kb_len hkb).1, (kb_len hkb).2, hv⟩
              refine AQ_all TT_ok rfl (by simp only [go_sem, f52_1, hO1.load, ap52_value, dv, Bool.not_true] <;> rfl) ?_
              exact ⟨rfl, false, by simp only [go_sem], fun h => ⟨hs, hm, hp⟩, by simp only [go_sem], by simp only [go_sem]⟩
            · have dv : decide ((16 : Int) < (p.value.length : Int)) = true := decide_eq_true (by omega)
              refine AQ_all TT_ok rfl (by simp only [go_sem, f52_1, hO1.load, ap52_value, dv, Bool.not_true] <;> rfl) ?_
              exact ⟨rfl, true, by simp only [go_sem], fun h => (by cases h), by simp only [go_sem], by simp only [go_sem]⟩
        · have dm : decide (May l) = false := decide_eq_false hm
          refine AQ_take TT_ok 5 rfl (by simp only [go_sem, dm, Bool.not_false] <;> rfl) ?_
          refine AQ_pass rfl ?_
          refine AQ_all TT_ok rfl (by simp only [go_sem] <;> rfl) ?_
          exact ⟨rfl, true, by simp only [go_sem], fun h => (by cases h), by simp only [go_sem], by simp only [go_sem]⟩
      · refine AQ_take TT_ok 2 rfl (by simp only [go_sem] <;> rfl) ?_
        refine AQ_pass rfl ?_
        refine AQ_take TT_ok 5 rfl (by simp only [go_sem] <;> rfl) ?_
        refine AQ_pass rfl ?_
        refine AQ_all TT_ok rfl (by simp only [go_sem] <;> rfl) ?_
        exact ⟨rfl, true, by simp only [go_sem], fun h => (by cases h), by simp only [go_sem], by simp only [go_sem]⟩
    subst hH
    cases b
    · exact AC_f hcnd rfl (AC_skip ⟨rfl, (hb rfl).1, (hb rfl).2.1, (hb rfl).2.2, g0, g3⟩)
    · refine AC_t hcnd rfl ?_
      refine AC_seq ?_
      refine AC_regL ?_
      refine AQ_c rfl (by simp only [go_sem] <;> rfl) fok56 (by simp only [List.map_cons, List.map_nil, List.append_nil, go_sem] <;> rfl) (c56) (fun _ _ h => h.elim) (.inl rfl) fun r H2 hX2 hr => ?_
      subst hr
      refine AQ_all TT_ok rfl (by simp only [go_sem] <;> rfl) ?_
      exact AC_ret ⟨.inl rfl, _, rfl, by simp only [go_sem]⟩
  subst hH
  have hll := szP_len l
  refine AC_seq ?_
  refine AC_regL ?_
  refine AQ_take TT_ok 1 rfl (by simp only [go_sem, g0] <;> rfl) ?_
  refine AQ_c rfl (by simp only [go_sem] <;> rfl) fok30 (by simp only [List.map_cons, List.map_nil, List.append_nil, go_sem] <;> rfl) (c30 hl (by omega)) (fun _ _ h => h.elim) (.inl rfl) fun r H2 hX2 ⟨vt, vp, hr, hT2, _, _, _⟩ => ?_
  subst hr
  rw [if_pos hm] at hT2
  have hT2 : NdS H2 vt (build l) := hT2.sl
  have hl2 := hl.keep hX2
  have hO2 := hO1.keep hX2
  refine AQ_all TT_ok rfl (by simp only [go_sem, (pick32 hT2), List.map_cons, List.map_nil] <;> rfl) ?_
  refine AC_fixe (fun e' => get e' 3 = .pointer (some ⟨H.length, 0, none⟩) ∧ get e' 5 = vt) ⟨by simp only [go_sem, g3], by simp only [go_sem]⟩ (fun e2 ⟨g3, g5⟩ => ?_)
  have hpk := perr_pok hpok
  have hmi := hm.ins hpok
  have hbl := build_len l
  have hbp := build_path hm
  have hbn : ∀ n ∈ build l, n.path.length < 2^30 := fun n hn => by have := hbp n hn; omega
  have hE1 := allE_step hm p
  rw [if_pos (perr_of hpok)] at hE1
  have hG0 := of_build hm hpk
  obtain ⟨q1, q2, q3⟩ := put_nodes hm hpok
  rw [← fnd_any] at q1
  generalize fnd l p.key = o at *
  generalize hUd : build (ins l p) = U at *
  generalize hTd : build l = T at *
  refine AC_seq ?_
  refine AC_regL ?_
  refine AQ_take TT_ok 5 rfl (by simp only [go_sem, g3, g5, f52_0, f52_1, hO2.load, ap52_key, ap52_value] <;> rfl) ?_
  refine AQ_c rfl (by simp only [go_sem] <;> rfl) fok57 (by simp only [List.map_cons, List.map_nil, List.append_nil, go_sem] <;> rfl) (c57 (p := p) hT2 (by omega) hbn) (fun _ _ h => h.elim) (.inl rfl) fun r H3 hX3 ⟨u1, hr, hU1, _⟩ => ?_
  rw [hE1] at hr hU1
  subst hr
  have hU1 : NdS H3 u1 U := hU1.sl
  refine AQ_all TT_ok rfl (by simp only [go_sem] <;> rfl) ?_
  have hT3 := hT2.keep hX3
  have hO3 := hO2.keep hX3
  have z3 := (hX2.trans hX3).size
  refine AC_fixe (fun e' => get e' 3 = .pointer (some ⟨H.length, 0, none⟩) ∧ get e' 5 = vt ∧ get e' 6 = u1 ∧ get e' 7 = .int .i64 0) ⟨by simp only [go_sem, g3], by simp only [go_sem, g5], by simp only [go_sem], by simp only [go_sem]⟩ (fun e3 ⟨g3, g5, g6, g7⟩ => ?_)
  refine AC_seq ?_
  refine AC_regL ?_
  refine AQ_take TT_ok 3 rfl (by simp only [go_sem, g3, g5, f52_0, hO3.load, ap52_key] <;> rfl) ?_
  refine AQ_c rfl (by simp only [go_sem] <;> rfl) fok50 (by simp only [List.map_cons, List.map_nil, List.append_nil, go_sem] <;> rfl) (c50 (key := p.key) hT3 (by omega) hbn) (fun _ _ h => h.elim) (.inl rfl) fun r H4 hX4 hr => ?_
  rw [hG0] at hr
  subst hr
  refine AQ_take TT_ok 3 rfl (by simp only [go_sem] <;> rfl) ?_
  refine AQ_var TT_ok TT_74 rfl (by decide) (by simp only [go_sem] <;> rfl) (Lay.a74 o) rfl (.inl (by have := hX4.size; omega)) (.inl rfl) fun H5 hX5 hA5 hL5 => ?_
  refine AQ_all TT_ok rfl (by simp only [go_sem] <;> rfl) ?_
  have x5 := hX4.trans hX5
  have hT5 := hT3.keep x5
  have hU5 := hU1.keep x5
  refine AC_fixe (fun e' => get e' 5 = vt ∧ get e' 6 = u1 ∧ get e' 7 = .int .i64 0 ∧ get e' 8 = .pointer (some ⟨H4.length, 0, none⟩) ∧ get e' 9 = .int .i64 0) ⟨by simp only [go_sem, g5], by simp only [go_sem, g6], by simp only [go_sem, g7], by simp only [go_sem], by simp only [go_sem]⟩ (fun e5 ⟨g5, g6, g7, g8, g9⟩ => ?_)
  have e0 : decide ((0 : Int) = 0) = true := rfl
  have lA : aload TT H5 4 (.pointer (some ⟨H4.length, 0, none⟩)) = some (.bool o.isSome) := by rw [hA5.load]; rfl
  refine AC_seq ?_
  refine AC_seqQ TT_ok (by simp only [go_sem, g7, g9, e0, Bool.not_true] <;> rfl) ?_
  refine AC_f (by simp only [go_sem] <;> rfl) (rfl) ?_
  refine AC_skip ?_
  have ks := wrapNN (x := (U.length : Int) - (T.length : Int)) (m := U.length - T.length) (by omega) (by omega)
  refine AC_seqQ TT_ok (by simp only [go_sem, g5, g6, (NdS.alen hU5), (NdS.alen hT5), ks] <;> rfl) ?_
  cases hs : o.isSome
  · rw [hs] at lA
    have d1 : decide ((0 : Int) ≤ ((U.length - T.length : Nat) : Int)) = true := decide_eq_true (by omega)
    have d2 : decide (((U.length - T.length : Nat) : Int) ≤ 3) = true := decide_eq_true (by omega)
    refine AC_seq ?_
    refine AC_seqQ TT_ok (by simp only [go_sem, g8, f74_0, lA] <;> rfl) ?_
    refine AC_f (by simp only [go_sem] <;> rfl) (rfl) ?_
    refine AC_skip ?_
    refine AC_seq ?_
    refine AC_regL ?_
    refine AQ_take TT_ok 7 rfl (by simp only [go_sem, d1, d2] <;> rfl) ?_
    refine AQ_c rfl (by simp only [go_sem] <;> rfl) fok56 (by simp only [List.map_cons, List.map_nil, List.append_nil, go_sem] <;> rfl) (c56) (fun _ _ h => h.elim) (.inl rfl) fun r Hg hXg hr => ?_
    subst hr
    refine AQ_all TT_ok rfl (by simp only [go_sem] <;> rfl) ?_
    exact AC_ret ⟨.inl rfl, _, rfl, by simp only [go_sem]⟩
  · rw [hs] at lA q1
    have hq := q1 rfl
    have d1 : decide (((U.length - T.length : Nat) : Int) = 0) = true := decide_eq_true (by omega)
    refine AC_seq ?_
    refine AC_seqQ TT_ok (by simp only [go_sem, g8, f74_0, lA] <;> rfl) ?_
    refine AC_t (by simp only [go_sem] <;> rfl) (rfl) ?_
    refine AC_seq ?_
    refine AC_regL ?_
    refine AQ_take TT_ok 3 rfl (by simp only [go_sem, d1] <;> rfl) ?_
    refine AQ_c rfl (by simp only [go_sem] <;> rfl) fok56 (by simp only [List.map_cons, List.map_nil, List.append_nil, go_sem] <;> rfl) (c56) (fun _ _ h => h.elim) (.inl rfl) fun r Hg hXg hr => ?_
    subst hr
    refine AQ_all TT_ok rfl (by simp only [go_sem] <;> rfl) ?_
    exact AC_ret ⟨.inl rfl, _, rfl, by simp only [go_sem]⟩
end Go.Proofs.Ythalogdopkoidaa.Ab
