/- The trie of pairs, as a function on lists: nodes, paths; what it is of a stretch of pairs. No statement of the seat's in it. -/
import Derived.Test.YthalogdopkoidaaB8
set_option linter.unusedVariables false
namespace Go.Proofs.Ythalogdopkoidaa.Ab
open Go Go.RowKit

/-- What is left of a pair's nibbles, and its value. -/
abbrev Sx := List (List UInt8 × List UInt8)
def cut (c : Nat) (x : List UInt8 × List UInt8) : List UInt8 × List UInt8 := (x.1.drop c, x.2)
def zk : Vector Int 16 := Vector.replicate 16 0
def setk (k : Vector Int 16) (c : UInt8) (n : Int) : Vector Int 16 := if h : c.toNat < 16 then k.set c.toNat n h else k

/-- Stretches of equal first nibbles. -/
def groups : Sx → List (UInt8 × Sx)
  | [] => []
  | ([], _) :: s => groups s
  | (c :: n, v) :: s =>
    match groups s with
    | (c', g) :: gs => if c = c' then (c, (n, v) :: g) :: gs else (c, [(n, v)]) :: (c', g) :: gs
    | [] => [(c, [(n, v)])]

def brn (b : Sx → Nat → List Nd) : List (UInt8 × Sx) → Nat → Vector Int 16 → List Nd × Vector Int 16
  | [], _, kids => ([], kids)
  | (c, g) :: gs, k, kids => ((b g k) ++ (brn b gs (k + (b g k).length) (setk kids c k)).1, (brn b gs (k + (b g k).length) (setk kids c k)).2)

def lst (x : List UInt8 × List UInt8) (r : Sx) : List UInt8 × List UInt8 := r.getLastD x

def bld : Nat → Sx → Nat → List Nd
  | 0, _, _ => []
  | f + 1, s, k =>
    match s with
    | [] => []
    | [x] => [⟨1, x.1, true, x.2, zk⟩]
    | x :: y :: r =>
      if 0 < com x.1 (lst y r).1 then ⟨2, x.1.take (com x.1 (lst y r).1), false, [], zk.set 0 ((k + 1 : Nat) : Int)⟩ :: bld f ((x :: y :: r).map (cut (com x.1 (lst y r).1))) (k + 1)
      else
        ⟨3, [], decide (x.1 = []), if x.1 = [] then x.2 else [], (brn (bld f) (groups (if x.1 = [] then y :: r else x :: y :: r)) (k + 1) zk).2⟩
          :: (brn (bld f) (groups (if x.1 = [] then y :: r else x :: y :: r)) (k + 1) zk).1

def pbrn (b : Sx → List UInt8 → List (List UInt8)) (pre : List UInt8) : List (UInt8 × Sx) → List (List UInt8)
  | [] => []
  | (c, g) :: gs => b g (pre ++ [c]) ++ pbrn b pre gs

/-- The nodes' paths. -/
def pth : Nat → Sx → List UInt8 → List (List UInt8)
  | 0, _, _ => []
  | f + 1, s, pre =>
    match s with
    | [] => []
    | [x] => [pre]
    | x :: y :: r =>
      if 0 < com x.1 (lst y r).1 then pre :: pth f ((x :: y :: r).map (cut (com x.1 (lst y r).1))) (pre ++ x.1.take (com x.1 (lst y r).1))
      else pre :: pbrn (pth f) pre (groups (if x.1 = [] then y :: r else x :: y :: r))

/-! ### Stretches of pairs -/
def nks (ps : List Pr) : List (List UInt8) := ps.map fun p => nib p.key
def sg (ps : List Pr) (a b at_ : Nat) : Sx := ((ps.take b).drop a).map fun p => ((nib p.key).drop at_, p.value)

theorem nks_length (ps : List Pr) : (nks ps).length = ps.length := by simp [nks]
theorem sg_length (ps : List Pr) (a b at_ : Nat) (hb : b ≤ ps.length) : (sg ps a b at_).length = b - a := by
  simp [sg]; omega
theorem sg_nil (ps : List Pr) (a at_ : Nat) : sg ps a a at_ = [] := by
  simp only [sg]
  rw [List.drop_eq_nil_of_le (by rw [List.length_take]; omega)]; rfl
theorem sg_cons (ps : List Pr) (a b at_ : Nat) (ha : a < b) (hb : b ≤ ps.length) : sg ps a b at_ = ((nib (ps[a]).key).drop at_, (ps[a]).value) :: sg ps (a + 1) b at_ := by
  simp only [sg]
  rw [List.drop_eq_getElem_cons (by rw [List.length_take]; omega)]
  simp
theorem sg_get (ps : List Pr) (a b at_ : Nat) (hb : b ≤ ps.length) (i : Nat) (hi : i < b - a) : (sg ps a b at_)[i]'(by rw [sg_length _ _ _ _ hb]; exact hi) = ((nib (ps[a + i]).key).drop at_, (ps[a + i]).value) := by
  simp [sg]
theorem sg_split (ps : List Pr) (a m b at_ : Nat) (h1 : a ≤ m) (h2 : m ≤ b) : sg ps a b at_ = sg ps a m at_ ++ sg ps m b at_ := by
  simp only [sg, ← List.map_append]
  congr 1
  have e : (ps.take b).drop m = ((ps.take b).drop a).drop (m - a) := by rw [List.drop_drop]; congr 1; omega
  have e2 : (ps.take m).drop a = ((ps.take b).drop a).take (m - a) := by
    rw [List.take_drop, List.take_take]
    congr 2
    omega
  rw [e, e2, List.take_append_drop]
theorem sg_cut (ps : List Pr) (a b at_ c : Nat) : (sg ps a b at_).map (cut c) = sg ps a b (at_ + c) := by
  simp only [sg, List.map_map]
  apply List.map_congr_left
  intro p _
  simp [cut, List.drop_drop]

def Ris (s : Sx) : Prop := s.Pairwise fun x y => x.1 < y.1

theorem Ris.left {s t : Sx} (h : Ris (s ++ t)) : Ris s := (List.pairwise_append.1 h).1
theorem Ris.right {s t : Sx} (h : Ris (s ++ t)) : Ris t := (List.pairwise_append.1 h).2.1

theorem nil_lt_cons (a : UInt8) (l : List UInt8) : ([] : List UInt8) < a :: l := List.nil_lt_cons a l
theorem cons_lt {a b : UInt8} {x y : List UInt8} : a :: x < b :: y ↔ a < b ∨ a = b ∧ x < y := List.cons_lt_cons_iff
theorem lt_pre {p x y : List UInt8} : p ++ x < p ++ y ↔ x < y := by
  induction p with
  | nil => rfl
  | cons a p ih => rw [List.cons_append, List.cons_append, cons_lt, ih]; simp
theorem lt_irr (x : List UInt8) : ¬ x < x := List.lt_irrefl x

/-- Where the first is not empty none is. -/
theorem Ris.full {x : List UInt8 × List UInt8} {s : Sx} (h : Ris (x :: s)) : ∀ y ∈ s, y.1 ≠ [] := by
  intro y hy e
  have := (List.pairwise_cons.1 h).1 y hy
  rw [e] at this
  exact absurd this (List.not_lt_nil _)

/-- What the least and the greatest begin with all begin with. -/
theorem between {p a b x : List UInt8} (ha : p <+: a) (hb : p <+: b) (h1 : a < x) (h2 : x < b) : p <+: x := by
  induction p generalizing a b x with
  | nil => exact List.nil_prefix
  | cons c p ih =>
    obtain ⟨a', rfl⟩ := ha
    obtain ⟨b', rfl⟩ := hb
    cases x with
    | nil => exact absurd h1 (List.not_lt_nil _)
    | cons d x =>
      rw [List.cons_append, cons_lt] at h1 h2
      have hcd : c = d := by
        rcases h1 with h1 | ⟨rfl, h1⟩
        · rcases h2 with h2 | ⟨rfl, h2⟩
          · exact absurd (UInt8.lt_trans h1 h2) (UInt8.lt_irrefl _)
          · exact absurd h1 (UInt8.lt_irrefl _)
        · rfl
      subst hcd
      have h1' : p ++ a' < x := by
        rcases h1 with h | h
        · exact absurd h (UInt8.lt_irrefl _)
        · exact h.2
      have h2' : x < p ++ b' := by
        rcases h2 with h | h
        · exact absurd h (UInt8.lt_irrefl _)
        · exact h.2
      exact List.cons_prefix_cons.2 ⟨rfl, ih (List.prefix_append _ _) (List.prefix_append _ _) h1' h2'⟩

theorem lst_mem (x : List UInt8 × List UInt8) (r : Sx) : lst x r ∈ x :: r := by
  unfold lst
  cases r with
  | nil => simp
  | cons y r => simp only [List.getLastD_cons]; rw [← List.getLast_eq_getLastD (a := y) (l := r) (by simp)]; exact List.mem_cons_of_mem _ (List.getLast_mem _)

theorem Ris.last {x y : List UInt8 × List UInt8} {r : Sx} (h : Ris (x :: y :: r)) : ∀ z ∈ y :: r, z = lst y r ∨ z.1 < (lst y r).1 := by
  have h2 := (List.pairwise_cons.1 h).2
  clear h
  induction r generalizing y with
  | nil => intro z hz; simp at hz; subst hz; exact .inl rfl
  | cons w r ih =>
    intro z hz
    have e : lst y (w :: r) = lst w r := by unfold lst; rw [List.getLastD_cons]
    rw [e]
    have h3 := List.pairwise_cons.1 h2
    rcases List.mem_cons.1 hz with rfl | hz
    · exact .inr (h3.1 _ (lst_mem w r))
    · exact ih h3.2 z hz

theorem com_prefix (a b : List UInt8) : a.take (com a b) <+: b := by
  rw [com_take]; exact List.take_prefix _ _

theorem Ris.common {x y : List UInt8 × List UInt8} {r : Sx} (h : Ris (x :: y :: r)) : ∀ z ∈ x :: y :: r, x.1.take (com x.1 (lst y r).1) <+: z.1 := by
  intro z hz
  rcases List.mem_cons.1 hz with rfl | hz
  · exact List.take_prefix _ _
  · rcases h.last z hz with rfl | hlt
    · exact com_prefix _ _
    · exact between (List.take_prefix _ _) (com_prefix _ _) ((List.pairwise_cons.1 h).1 z hz) hlt

/-- With a common beginning cut off they rise as before. -/
theorem Ris.cut {s : Sx} {p : List UInt8} (h : Ris s) (hp : ∀ z ∈ s, p <+: z.1) : Ris (s.map (Ab.cut p.length)) := by
  unfold Ris at h ⊢
  rw [List.pairwise_map]
  refine h.imp_of_mem fun {a b} ha hb hab => ?_
  obtain ⟨a', ha'⟩ := hp a ha
  obtain ⟨b', hb'⟩ := hp b hb
  rw [← ha', ← hb', lt_pre] at hab
  simp only [Ab.cut, ← ha', ← hb']
  simpa using hab

/-! ### Groups -/
theorem groups_run (c : UInt8) : ∀ (s t : Sx), s ≠ [] → (∀ z ∈ s, z.1.head? = some c) → (∀ z, t.head? = some z → z.1.head? ≠ some c ∧ z.1 ≠ []) → groups (s ++ t) = (c, s.map (cut 1)) :: groups t
  | [], t, h, _, _ => absurd rfl h
  | [(n, v)], t, _, hs, ht => by
    have h1 := hs (n, v) (by simp)
    cases n with
    | nil => cases h1
    | cons d n =>
      simp at h1
      subst h1
      cases t with
      | nil => rfl
      | cons z t =>
        obtain ⟨n', v'⟩ := z
        have h2 := ht _ rfl
        cases n' with
        | nil => exact absurd rfl h2.2
        | cons d' n' =>
          have hd : d ≠ d' := fun e => h2.1 (by rw [e]; rfl)
          simp only [List.cons_append, List.nil_append, groups]
          cases hg : groups t with
          | nil => simp only [hd, if_false]; rfl
          | cons w gs =>
            obtain ⟨c', g'⟩ := w
            dsimp only
            by_cases he : d' = c'
            · subst he; simp only [if_true, hd, if_false]; rfl
            · simp only [he, if_false, hd]; rfl
  | (n, v) :: z2 :: s, t, _, hs, ht => by
    have ih := groups_run c (z2 :: s) t (by simp) (fun z hz => hs z (by simp [hz])) ht
    have h1 := hs (n, v) (by simp)
    cases n with
    | nil => cases h1
    | cons d n =>
      simp at h1
      subst h1
      rw [List.cons_append, groups, ih]
      simp [cut]

theorem brn_cons (b : Sx → Nat → List Nd) (c : UInt8) (g : Sx) (gs : List (UInt8 × Sx)) (k : Nat) (kids : Vector Int 16) :
    brn b ((c, g) :: gs) k kids = ((b g k) ++ (brn b gs (k + (b g k).length) (setk kids c k)).1, (brn b gs (k + (b g k).length) (setk kids c k)).2) := rfl

/-! ### A stretch that can be built -/
structure Seg (ps : List Pr) (a b at_ : Nat) : Prop where
  lt : a < b
  le : b ≤ ps.length
  len : ∀ i, a ≤ i → (h : i < b) → at_ ≤ (nib (ps[i]).key).length
  ris : Ris (sg ps a b at_)
end Go.Proofs.Ythalogdopkoidaa.Ab
