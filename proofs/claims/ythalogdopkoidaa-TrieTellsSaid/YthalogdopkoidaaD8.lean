/- Contracts: umbelref10.Pairs, Good. No statement of the seat's in it. -/
import Derived.Test.YthalogdopkoidaaD7
import Derived.Test.YthalogdopkoidaaC18
set_option linter.unusedVariables false
set_option linter.unusedSimpArgs false
namespace Go.Proofs.Ythalogdopkoidaa.Ab
open Go Go.RowKit

theorem bz37 : abuild TT 37 [] = some (.agg #[.slice none 0 0, .bool false]) := rfl
theorem b37 {a : Value} (ha : One a) : abuild TT 37 [(0, a), (1, .bool true)] = some (.agg #[a, .bool true]) := by
  have h1 : a.cells.size = 1 := by rw [ha.cells]; rfl
  simp only [abuild, TT_37]
  rw [if_pos (by decide)]
  simp only [afill, placeOf]
  simp only [List.getElem?_cons_zero, List.getElem?_cons_succ, TT_22, TT_4, Option.map_some]
  rw [if_pos ⟨ha.known, h1, by decide⟩, ha.cells]
  rfl
theorem ap37 (a b : Value) : apart TT 37 [a, b] 0 = some (.agg #[a, b]) := by
  unfold apart; rw [TT_37]; rfl
theorem Lay.two {a b : Value} (ha : One a) (hb : One b) : Lay (.agg #[a, b]) [a, b] := Lay.agg (l := [a, b]) (fun v hv => by
  simp only [List.mem_cons, List.not_mem_nil, or_false] at hv
  rcases hv with rfl | rfl <;> assumption)
theorem zeros_str (n : Nat) : zeros n [.string ⟨#[]⟩] = (List.replicate n ([] : List UInt8)).flatMap sCell := by
  induction n with
  | zero => rfl
  | succ n ih =>
    rw [List.replicate_succ, List.flatMap_cons, ← ih]
    simp only [zeros, List.length_singleton, Nat.mul_one, List.range_succ_eq_map, List.map_cons, List.map_map]
    simp [sCell, S, Nat.mod_one]
theorem zeros_bool (n : Nat) : zeros n [.bool false] = (List.replicate n false).flatMap oCell := by
  induction n with
  | zero => rfl
  | succ n ih =>
    rw [List.replicate_succ, List.flatMap_cons, ← ih]
    simp only [zeros, List.length_singleton, Nat.mul_one, List.range_succ_eq_map, List.map_cons, List.map_map]
    simp [oCell, Nat.mod_one]
theorem kidI (i : Nat) (c : Nat) (h : c < 16) : aindex TT 47 (.pointer (some ⟨i, 4, none⟩)) (.int .i64 (c : Int)) = some (.pointer (some ⟨i, 4 + c, none⟩)) := by
  simp only [aindex, TT_47, TT_3]
  rw [if_pos (by omega)]
  simp
theorem apnk (n : Nd) (c : Nat) (h : c < 16) : apart TT 3 n.cells (4 + c) = some (.int .i64 n.kids[c]) := by
  have := kids_get n c h
  unfold apart; rw [TT_3]; dsimp only
  exact this
theorem apn0 (n : Nd) : apart TT 3 n.cells 0 = some (.int .i64 n.kind) := rfl
theorem apn1 (n : Nd) : apart TT 9 n.cells 1 = some (S n.path) := rfl
theorem apn2 (n : Nd) : apart TT 4 n.cells 2 = some (.bool n.has) := rfl
theorem apn3 (n : Nd) : apart TT 9 n.cells 3 = some (S n.value) := rfl

/-- The reference's state, in memory. -/
structure PS (H0 H : AHeap) (vto vme vl : Value) (t : List Nd) (TO : List (List UInt8)) (ME : List Bool) (l : List Pr) : Prop where
  x : AExt (fun _ => False) H0 H
  r : Ob H H0.length 37 [.slice none 0 0, .bool false]
  to : StB H vto TO
  me : Buf H vme 4 ME.length (ME.flatMap oCell)
  pl : PrB H vl l
  tol : TO.length = t.length
  mel : ME.length = t.length
  short : ∀ p ∈ TO, p.length ≤ 17
  d1 : ∀ j, vid vto = some j → H0.length < j
  d2 : ∀ j, vid vme = some j → H0.length < j
  d3 : ∀ j, vid vl = some j → H0.length < j
  n1 : ∀ j, vid vto = some j → vid vme ≠ some j ∧ vid vl ≠ some j
  n2 : ∀ j, vid vme = some j → vid vl ≠ some j
  ll : l.length ≤ t.length

theorem PS.keep {H0 H H' : AHeap} {vto vme vl : Value} {t : List Nd} {TO : List (List UInt8)} {ME : List Bool} {l : List Pr} (h : PS H0 H vto vme vl t TO ME l) (hX : AExt (fun _ => False) H H') : PS H0 H' vto vme vl t TO ME l :=
  ⟨h.x.trans hX, h.r.keep hX, Buf.keep h.to hX, Buf.keep h.me hX, Buf.keep h.pl hX, h.tol, h.mel, h.short, h.d1, h.d2, h.d3, h.n1, h.n2, h.ll⟩

/-- What is known if it is a trie: which nodes are met, the paths to them, the pairs. -/
structure Sem (t : List Nd) (q : List (List UInt8)) (pos i : Nat) (TO : List (List UInt8)) (ME : List Bool) (l : List Pr) : Prop where
  me : ∀ (j : Nat) (b : Bool), 0 < j → ME[j]? = some b → b = decide ((j : Int) ∈ (Fk t).take pos)
  to : ∀ (j : Nat) (p : List UInt8), TO[j]? = some p → (j = 0 ∨ ME[j]? = some true) → q[j]? = some p
  l : l = zp (t.take i) (q.take i)

theorem Fk_step {t : List Nd} {i c : Nat} (hi : i < t.length) (hc : c < 16) : (Fk t).take (i * 16 + (c + 1)) = (Fk t).take (i * 16 + c) ++ [t[i].kids[c]] := by
  rw [← Nat.add_assoc, List.take_add_one, Fk_get t i c hi hc]; rfl

/-- A node that is come to is some earlier node's child. -/
theorem Trie.met {l : List Pr} {t : List Nd} {q : List (List UInt8)} (h : Trie l t q) {i : Nat} (h0 : 0 < i) (hi : i < t.length) : (i : Int) ∈ (Fk t).take (i * 16) := by
  have hc := h.cnt i h0
  rw [if_pos hi] at hc
  have hm : (i : Int) ∈ Fk t := List.count_pos_iff.1 (by omega)
  obtain ⟨a, ha, hae⟩ := List.getElem_of_mem hm
  rw [Fk_length] at ha
  have h1 : a / 16 < t.length := by omega
  have h2 : a % 16 < 16 := Nat.mod_lt _ (by decide)
  have h3 := Fk_get t (a / 16) (a % 16) h1 h2
  rw [show a / 16 * 16 + a % 16 = a by omega, List.getElem?_eq_getElem (by rw [Fk_length]; omega), hae] at h3
  have h4 : t[a / 16].kids[a % 16] = (i : Int) := (Option.some.inj h3).symm
  have hq : a / 16 < q.length := by rw [h.len]; exact h1
  rcases h.blk (a / 16) _ _ (List.getElem?_eq_getElem h1) (List.getElem?_eq_getElem hq) (a % 16) h2 with h5 | ⟨j, m, g1, g2, g3, g4, g5⟩
  · rw [h4] at h5; omega
  · rw [h4] at g3
    have : i = j := by omega
    subst this
    rw [List.mem_take_iff_getElem]
    exact ⟨a, by rw [Fk_length]; omega, hae⟩
theorem Trie.once {l : List Pr} {t : List Nd} {q : List (List UInt8)} (h : Trie l t q) {i c K : Nat} (hi : i < t.length) (hc : c < 16) (hK : 0 < K) (he : t[i].kids[c] = (K : Int)) : (K : Int) ∉ (Fk t).take (i * 16 + c) := by
  intro hm
  have hcn := h.cnt K hK
  have hle : (Fk t).count (K : Int) ≤ 1 := by rw [hcn]; split <;> omega
  obtain ⟨a, ha, hae⟩ := List.mem_take_iff_getElem.1 hm
  have h1 := Fk_get t i c hi hc
  rw [he] at h1
  have := count_one (Fk t) K hle a (i * 16 + c) (by rw [List.getElem?_eq_getElem (by omega), hae]) h1
  omega
theorem zp_step {t : List Nd} {q : List (List UInt8)} {i : Nat} (hi : i < t.length) (hq : i < q.length) : zp (t.take (i + 1)) (q.take (i + 1)) = zp (t.take i) (q.take i) ++ (if t[i].has = true then [⟨(keyOf (q[i] ++ t[i].path)).getD [], t[i].value⟩] else []) := by
  rw [tk hi, tk hq, zp_app (by simp; omega), zp_cons]
  simp [zp]

theorem Sem.zero {t : List Nd} {q : List (List UInt8)} {pos pos' i : Nat} {TO : List (List UInt8)} {ME : List Bool} {l : List Pr} (h : Sem t q pos i TO ME l) (hp : (Fk t).take pos' = (Fk t).take pos ++ [0]) : Sem t q pos' i TO ME l := by
  refine ⟨fun j b hj hb => ?_, h.to, h.l⟩
  rw [h.me j b hj hb, hp]
  congr 1
  rw [eq_iff_iff, List.mem_append, List.mem_singleton]
  constructor
  · exact .inl
  · rintro (h | h)
    · exact h
    · omega
theorem Sem.next {t : List Nd} {q : List (List UInt8)} {pos pos' i K : Nat} {TO : List (List UInt8)} {ME : List Bool} {l : List Pr} (h : Sem t q pos i TO ME l) (hK : 0 < K) (hp : (Fk t).take pos' = (Fk t).take pos ++ [(K : Int)]) {p : List UInt8} (hq : q[K]? = some p) : Sem t q pos' i (TO.set K p) (ME.set K true) l := by
  refine ⟨fun j b hj hb => ?_, fun j p' hj hm => ?_, h.l⟩
  · rw [hp]
    by_cases e : K = j
    · subst e
      rw [List.getElem?_set] at hb
      simp only [if_true] at hb
      split at hb
      · obtain rfl := Option.some.inj hb
        simp
      · cases hb
    · rw [List.getElem?_set_ne e] at hb
      rw [h.me j b hj hb]
      congr 1
      rw [eq_iff_iff, List.mem_append, List.mem_singleton]
      constructor
      · exact .inl
      · rintro (h | h)
        · exact h
        · omega
  · by_cases e : K = j
    · subst e
      rw [List.getElem?_set] at hj
      simp only [if_true] at hj
      split at hj
      · obtain rfl := Option.some.inj hj
        exact hq
      · cases hj
    · rw [List.getElem?_set_ne e] at hj hm
      exact h.to j p' hj hm
theorem PS.setM {H0 H H' : AHeap} {vto vme vl : Value} {t : List Nd} {TO : List (List UInt8)} {ME ME' : List Bool} {l : List Pr} {mi : Nat} (h : PS H0 H vto vme vl t TO ME l) (hv : vid vme = some mi) (hX : AExt (fun j => j = mi) H H') (hO : Buf H' vme 4 ME'.length (ME'.flatMap oCell)) (hl : ME'.length = t.length) : PS H0 H' vto vme vl t TO ME' l := by
  have h1 := h.d2 _ hv
  exact ⟨h.x.weakF hX (fun i _ hi => by omega), h.r.ext hX (by omega), Buf.ext h.to hX (fun j hj e => (h.n1 j hj).1 (by rw [hv, e])), hO, Buf.ext h.pl hX (fun j hj e => h.n2 mi hv (by rw [hj, e])), h.tol, hl, h.short, h.d1, h.d2, h.d3, h.n1, h.n2, h.ll⟩
theorem PS.setT {H0 H H' : AHeap} {vto vme vl : Value} {t : List Nd} {TO TO' : List (List UInt8)} {ME : List Bool} {l : List Pr} {ti : Nat} (h : PS H0 H vto vme vl t TO ME l) (hv : vid vto = some ti) (hX : AExt (fun j => j = ti) H H') (hO : StB H' vto TO') (hl : TO'.length = t.length) (hs : ∀ p ∈ TO', p.length ≤ 17) : PS H0 H' vto vme vl t TO' ME l := by
  have h1 := h.d1 _ hv
  have h2 := h.n1 _ hv
  exact ⟨h.x.weakF hX (fun i _ hi => by omega), h.r.ext hX (by omega), hO, Buf.ext h.me hX (fun j hj e => h2.1 (by rw [hj, e])), Buf.ext h.pl hX (fun j hj e => h2.2 (by rw [hj, e])), hl, h.mel, hs, h.d1, h.d2, h.d3, h.n1, h.n2, h.ll⟩

section
variable {N : Nat} {ok : Nat → Prop} {ops : List Oper} {late : List Nat} {σ : List (Nat × Bool)} {K : Env → AHeap → Prop} {e : Env} {H Hs : AHeap} {Msk : Nat → Prop} {i0 : Nat} {dst : Option Nat} {ty : TypeId} {pos : String} {af : Array Edge} {gd : Option (Nat × Bool)}
theorem AG_storeE {P : Program} (hT : TOK P TT) {t : Nat} {ti : TI} {p x : Operand} {i off : Nat} {v u : Value} {xs cs : List Value} {ety n : Nat} (ho : ops[i0]? = some ⟨dst, .store t p x, ty, pos, af, gd⟩) (ht : TT t = some ti) (hw : awant ops e ⟨dst, .store t p x, ty, pos, af, gd⟩ = some true)
    (hp : aev e p = ep u off) (hx : aev e x = v) (hv : Lay v xs) (hs : xs.length = ti.size) (hob : Own H u ety n cs i) (hfit : off + xs.length ≤ cs.length) (hok : ok i) (hl : late.contains i0 = true)
    (hk : ∀ H', AExt (fun j => j = i) H H' → Own H' u ety n (over cs off xs) i → H'.length = H.length → AG P N ok Msk ops late σ K [] (eput N e dst undef) H') : AG P N ok Msk ops late ((i0, false) :: σ) K Hs e H := by
  obtain ⟨h1, cells, h2, h3, h4⟩ := hob
  subst h1
  refine AG_store hT ho ht hw (i := i) (off := off) (by rw [hp]; simp [ep]) hx hv hs h2 (by omega) hok hl fun H' g1 g2 g3 => hk H' g1 ⟨rfl, _, g2, by simp [over_length, h3], ?_⟩ g3
  rw [over_length, over_eq _ _ _ (by omega), over_eq _ _ _ (by omega)]
  have e1 : cs.take off = cells.take off := by rw [← h4, List.take_take]; congr 1; omega
  have e2 : cs.drop (off + xs.length) = (cells.drop (off + xs.length)).take (cs.length - (off + xs.length)) := by
    conv => lhs; rw [← h4]
    rw [List.drop_take]
  rw [e1, e2, List.append_assoc, List.append_assoc, List.take_append, List.take_append]
  rw [List.take_of_length_le (i := cs.length) (by simp; omega)]
  congr 1
  rw [List.take_of_length_le (by simp; omega)]
  congr 2
  simp
  omega
end

def q0 (t : List Nd) : List (List UInt8) := (walkAll t).2.paths
theorem Isw.trie {t : List Nd} (h : Isw t) : Trie (walkAll t).2.l t (q0 t) := by
  have h1 := Trie.of h.2.1
  have h2 := walkAll_build h.2.1
  rw [← h.2.2] at h1 h2
  have h3 : q0 t = paths (walkAll t).2.l := by
    unfold q0
    conv => lhs; rw [h2]
  rw [h3]
  exact h1

set_option maxHeartbeats 8000000 in
theorem c32 {H : AHeap} {vt : Value} {t : List Nd} (hS : NdS H vt t) (ht : t.length < 2^19) (hn : ∀ n ∈ t, n.path.length < 2^30) : ACalls Try.prog 32 [vt] H (fun _ => False) fun v H' =>
    ∃ u, v = .agg #[u, .bool (decide (Isw t))] ∧ PrB H' u (if Isw t then (walkAll t).2.l else []) ∧ ∀ j, vid u = some j → H.length ≤ j := by
  refine ACalls_by 133 TT_ok Try.func32 rfl rfl rfl (by simp) ?_
  refine AC_seq ?_
  refine AC_regL ?_
  refine AQ_alloc TT_ok TT_37 rfl fun H1 hX1 hO1 hL1 => ?_
  refine AQ_nil ?_
  have hS1 := hS.keep hX1
  have hvt : ∀ j, vid vt = some j → j < H.length := fun j hj => hS.vid_lt hj
  refine AC_seq ?_
  refine AC_regL ?_
  refine AQ_take TT_ok 2 rfl (by simp only [go_sem, hS1.alen] <;> rfl) ?_
  refine AQ_make TT_ok (m := (t.length : Int)) (c := (t.length : Int)) TT_30 rfl TT_9 rfl (by decide) (by decide) rfl (by simp only [go_sem]) (by simp only [go_sem]) (by omega) (by omega) (by simp; omega) fun H2 hX2 hO2 hL2 => ?_
  rw [Int.toNat_natCast, zeros_str] at hO2
  rw [Int.toNat_natCast]
  refine AQ_all TT_ok rfl (by simp only [go_sem] <;> rfl) ?_
  have hS2 := hS1.keep hX2
  refine AC_seq ?_
  refine AC_regL ?_
  refine AQ_take TT_ok 2 rfl (by simp only [go_sem, hS2.alen] <;> rfl) ?_
  refine AQ_make TT_ok (m := (t.length : Int)) (c := (t.length : Int)) TT_107 rfl TT_4 rfl (by decide) (by decide) rfl (by simp only [go_sem]) (by simp only [go_sem]) (by omega) (by omega) (by simp; omega) fun H3 hX3 hO3 hL3 => ?_
  rw [Int.toNat_natCast, zeros_bool] at hO3
  rw [Int.toNat_natCast]
  refine AQ_all TT_ok rfl (by simp only [go_sem] <;> rfl) ?_
  refine AC_seqQ TT_ok (by simp only [go_sem] <;> rfl) ?_
  have hlr : (List.replicate t.length ([] : List UInt8)).length = t.length := by simp
  have hlb : (List.replicate t.length false).length = t.length := by simp
  have hP3 : PS H H3 (.slice (some ⟨H1.length, 0, none⟩) t.length t.length) (.slice (some ⟨H2.length, 0, none⟩) t.length t.length) (.slice none 0 0) t (List.replicate t.length []) (List.replicate t.length false) [] :=
    ⟨(hX1.trans hX2).trans hX3, (hO1.keep hX2).keep hX3, Buf.keep (.inr ⟨_, by rw [hlr]; exact hO2⟩) hX3, .inr ⟨_, by rw [hlb]; exact hO3⟩, Buf.nil _ _, hlr, hlb, fun p hp => by rw [(List.mem_replicate.1 hp).2]; simp, fun j hj => (by have e : H1.length = j := Option.some.inj hj; omega), fun j hj => (by have e : H2.length = j := Option.some.inj hj; omega), fun j hj => (by cases hj), fun j hj => ⟨fun h => (by have e : H1.length = j := Option.some.inj hj; have e2 : H2.length = j := Option.some.inj h; omega), fun h => (by cases h)⟩, fun j hj h => (by cases h), by simp⟩
  have hM3 : Isw t → Sem t (q0 t) 0 0 (List.replicate t.length []) (List.replicate t.length false) [] := fun hi => by
    refine ⟨fun j b _ hb => ?_, fun j p hp hm => ?_, by simp [zp]⟩
    · rw [List.getElem?_replicate] at hb
      split at hb
      · obtain rfl := Option.some.inj hb
        simp
      · cases hb
    · rw [List.getElem?_replicate] at hp hm
      split at hp
      · rename_i hj
        obtain rfl := Option.some.inj hp
        rw [if_pos hj] at hm
        rcases hm with rfl | hm
        · have hT := hi.trie
          have hq : 0 < (q0 t).length := by rw [hT.len]; exact hj
          have := hT.head _ (List.getElem?_eq_getElem hq)
          rw [List.getElem?_eq_getElem hq, this]
        · cases hm
      · cases hp
  generalize (.slice (some ⟨H1.length, 0, none⟩) t.length t.length : Value) = vto at hP3 ⊢
  generalize (.slice (some ⟨H2.length, 0, none⟩) t.length t.length : Value) = vme at hP3 ⊢
  refine AC_cut (fun e' H' => ∃ vl TO ME l, PS H H' vto vme vl t TO ME l ∧ (Isw t → Sem t (q0 t) (t.length * 16) t.length TO ME l) ∧ get e' 0 = vt ∧ get e' 2 = .pointer (some ⟨H.length, 0, none⟩) ∧ get e' 5 = vl) ?_ (fun e4 H4 _ ⟨vl, TO, ME, l, hP4, hM4, g0, g2, g5⟩ => ?_)
  · refine AC_seqQ TT_ok (by simp only [go_sem] <;> rfl) ?_
    refine AC_block (AC_loop (fun n e' H' => ∃ (i : Nat) (vl : Value) (TO : List (List UInt8)) (ME : List Bool) (l : List Pr), n = t.length - i ∧ i ≤ t.length ∧ l.length ≤ i ∧ PS H H' vto vme vl t TO ME l ∧ (Isw t → Sem t (q0 t) (i * 16) i TO ME l) ∧ get e' 0 = vt ∧ get e' 2 = .pointer (some ⟨H.length, 0, none⟩) ∧ get e' 3 = vto ∧ get e' 4 = vme ∧ get e' 5 = vl ∧ get e' 6 = .int .i64 (i : Nat)) t.length
      ⟨0, .slice none 0 0, _, _, [], by simp, by simp, by simp, hP3, by simpa using hM3, by simp only [go_sem], by simp only [go_sem], by simp only [go_sem], by simp only [go_sem], by simp only [go_sem], by simp only [go_sem] <;> simp⟩ ?_)
    rintro n E H4 _ ⟨i, vl, TO, ME, l, hn', hi, hli, hP, hM, g0, g2, g3, g4, g5, g6⟩
    have hS4 := hS.keep hP.x
    refine AC_seq ?_
    refine AC_seqQ TT_ok (by simp only [go_sem, g0, g6, hS4.alen] <;> rfl) ?_
    by_cases hi' : i < t.length
    · refine AC_t (by simp only [go_sem] <;> rfl) (lt_dec hi') ?_
      refine AC_skip ?_
      refine AC_seq (AC_block ?_)
      have hmi : i < ME.length := by rw [hP.mel]; exact hi'
      have hti : i < TO.length := by rw [hP.tol]; exact hi'
      have meI : BoS H4 vme ME := Buf.sl hP.me
      have toI : StS H4 vto TO := hP.to.sl
      have m1 := meI.index (k := .i64) hmi
      have m2 := meI.load hmi
      have u1 := toI.index (k := .i64) hti
      have u2 := toI.load hti
      -- was it met?
      refine AC_cut (fun e' H' => H' = H4 ∧ (i = 0 ∨ ME[i]? = some true) ∧ get e' 0 = vt ∧ get e' 2 = .pointer (some ⟨H.length, 0, none⟩) ∧ get e' 3 = vto ∧ get e' 4 = vme ∧ get e' 5 = vl ∧ get e' 6 = .int .i64 (i : Nat)) ?_ (fun e5 H5 _ ⟨hH, hmet, g0, g2, g3, g4, g5, g6⟩ => ?_)
      · by_cases hz : i = 0
        · have d0 : decide ((0 : Int) < (i : Int)) = false := decide_eq_false (by omega)
          refine AC_seqQ TT_ok (by simp only [go_sem, g6, d0] <;> rfl) ?_
          refine AC_f (by simp only [go_sem] <;> rfl) (rfl) ?_
          exact AC_skip ⟨rfl, .inl hz, by simp only [go_sem, g0], by simp only [go_sem, g2], by simp only [go_sem, g3], by simp only [go_sem, g4], by simp only [go_sem, g5], by simp only [go_sem, g6]⟩
        · have d0 : decide ((0 : Int) < (i : Int)) = true := decide_eq_true (by omega)
          refine AC_seqQ TT_ok (by simp only [go_sem, g6, g4, d0, m1, m2] <;> rfl) ?_
          by_cases hb : ME[i] = true
          · refine AC_f (by simp only [go_sem] <;> rfl) (by rw [hb]; rfl) ?_
            exact AC_skip ⟨rfl, .inr (by rw [List.getElem?_eq_getElem hmi, hb]), by simp only [go_sem, g0], by simp only [go_sem, g2], by simp only [go_sem, g3], by simp only [go_sem, g4], by simp only [go_sem, g5], by simp only [go_sem, g6]⟩
          · have hb' : ME[i] = false := by simpa using hb
            refine AC_t (by simp only [go_sem] <;> rfl) (by rw [hb']; rfl) ?_
            have hni : ¬ Isw t := fun hs => by
              have h1 := (hM hs).me i _ (by omega) (List.getElem?_eq_getElem hmi)
              rw [hb'] at h1
              exact of_decide_eq_false h1.symm (hs.trie.met (by omega) hi')
            refine AC_seq ?_
            refine AC_regL ?_
            refine AQ_take TT_ok 1 rfl (by simp only [go_sem, List.map_nil, bz37] <;> rfl) ?_
            refine AQ_store TT_ok TT_37 rfl (by simp only [go_sem, g2] <;> rfl) (by simp only [go_sem] <;> rfl) (Lay.two (One.slice _ _ _) (One.bool _)) rfl hP.r (by show 0 + 2 ≤ 2; decide) (.inl (Nat.le_refl _)) (.inl rfl) fun Hz hXz hOz hLz => ?_
            refine AQ_nil ?_
            refine AC_ret ⟨.inl rfl, .agg #[.slice none 0 0, .bool false], ?_, .slice none 0 0, by rw [decide_eq_false hni], by rw [if_neg hni]; exact Buf.nil _ _, fun j hj => (by cases hj)⟩
            show ares TT Hz _ [.cell 2 37] = _
            have hOz' : Ob Hz H.length 37 [.slice none 0 0, .bool false] := hOz
            simp only [ares, List.mapM_cons, List.mapM_nil, ares1, go_sem, g2, hOz'.load, ap37]
            rfl
      subst hH
      -- the node
      have hS5 := hS.keep hP.x
      have a1 := hS5.index (k := .i64) (j := (i : Int)) (by omega) (by omega)
      rw [Int.toNat_natCast] at a1
      have a2 := hS5.load hi'
      refine AC_seq ?_
      refine AC_regL ?_
      refine AQ_take TT_ok 4 rfl (by simp only [go_sem, g0, g6, a1, a2] <;> rfl) ?_
      refine AQ_var TT_ok TT_49 rfl (by decide) (by simp only [go_sem] <;> rfl) (Lay.nd _) (Nd.len _) (.inl hP.x.size) (.inl rfl) fun H6 hX6 hO6 hL6 => ?_
      refine AQ_nil ?_
      have hP6 := hP.keep hX6
      have hpl := hn _ (List.getElem_mem hi')
      have hto := hP.short _ (List.getElem_mem hti)
      have u2 := StS.load hP6.to.sl hti
      have ad := as_add 9 TO[i] t[i].path (by omega)
      refine AC_seq ?_
      refine AC_quiet_draw TT_ok mixed (by kernel_rfl) (by simp only [go_sem, g3, g6, u1, u2, f49p _ 1 1 rfl, hO6.load, apn1, ad] <;> rfl) ?_
      have hsem : Isw t → (q0 t)[i]? = some TO[i] := fun hs => (hM hs).to i _ (List.getElem?_eq_getElem hti) hmet
      have hzok : Isw t → Zok 16 (t[i], TO[i]) := fun hs => by
        have hT := hs.trie
        have hq : i < (q0 t).length := by rw [hT.len]; exact hi'
        have h1 := hsem hs
        rw [List.getElem?_eq_getElem hq] at h1
        have h2 := hT.zok ((t.zip (q0 t))[i]'(by rw [List.length_zip, hT.len]; omega)) (List.getElem_mem _)
        rw [List.getElem_zip] at h2
        rw [← Option.some.inj h1]
        exact h2
      -- not too long
      refine AC_cut (fun e' H' => H' = H6 ∧ (TO[i] ++ t[i].path).length ≤ 16 ∧ get e' 0 = vt ∧ get e' 2 = .pointer (some ⟨H.length, 0, none⟩) ∧ get e' 3 = vto ∧ get e' 4 = vme ∧ get e' 5 = vl ∧ get e' 6 = .int .i64 (i : Nat) ∧ get e' 7 = .pointer (some ⟨H5.length, 0, none⟩) ∧ get e' 8 = S (TO[i] ++ t[i].path)) ?_ (fun e7 H7 _ ⟨hH, h16, g0, g2, g3, g4, g5, g6, g7, g8⟩ => ?_)
      · by_cases c1 : 16 < t[i].path.length
        · have d1 : decide ((16 : Int) < (t[i].path.length : Int)) = true := decide_eq_true (by omega)
          refine AC_seqQ TT_ok (by simp only [go_sem, f49p _ 1 1 rfl, hO6.load, apn1, d1] <;> rfl) ?_
          refine AC_t (by simp only [go_sem] <;> rfl) (rfl) ?_
          have hni : ¬ Isw t := fun hs => by have := (hzok hs).1; dsimp only at this; omega
          refine AC_seq ?_
          refine AC_regL ?_
          refine AQ_take TT_ok 1 rfl (by simp only [go_sem, List.map_nil, bz37] <;> rfl) ?_
          refine AQ_store TT_ok TT_37 rfl (by simp only [go_sem, g2] <;> rfl) (by simp only [go_sem] <;> rfl) (Lay.two (One.slice _ _ _) (One.bool _)) rfl hP6.r (by show 0 + 2 ≤ 2; decide) (.inl (Nat.le_refl _)) (.inl rfl) fun Hz hXz hOz hLz => ?_
          refine AQ_nil ?_
          refine AC_ret ⟨.inl rfl, .agg #[.slice none 0 0, .bool false], ?_, .slice none 0 0, by rw [decide_eq_false hni], by rw [if_neg hni]; exact Buf.nil _ _, fun j hj => (by cases hj)⟩
          show ares TT Hz _ [.cell 2 37] = _
          have hOz' : Ob Hz H.length 37 [.slice none 0 0, .bool false] := hOz
          simp only [ares, List.mapM_cons, List.mapM_nil, ares1, go_sem, g2, hOz'.load, ap37]
          rfl
        · have d1 : decide ((16 : Int) < (t[i].path.length : Int)) = false := decide_eq_false (by omega)
          by_cases c2 : 16 < (TO[i] ++ t[i].path).length
          · have d2 : decide ((16 : Int) < ((TO[i] ++ t[i].path).length : Int)) = true := decide_eq_true (by omega)
            refine AC_seqQ TT_ok (by simp only [go_sem, f49p _ 1 1 rfl, hO6.load, apn1, d1, d2] <;> rfl) ?_
            refine AC_t (by simp only [go_sem] <;> rfl) (rfl) ?_
            have hni : ¬ Isw t := fun hs => by have := (hzok hs).1; dsimp only at this; rw [List.length_append] at c2; omega
            refine AC_seq ?_
            refine AC_regL ?_
            refine AQ_take TT_ok 1 rfl (by simp only [go_sem, List.map_nil, bz37] <;> rfl) ?_
            refine AQ_store TT_ok TT_37 rfl (by simp only [go_sem, g2] <;> rfl) (by simp only [go_sem] <;> rfl) (Lay.two (One.slice _ _ _) (One.bool _)) rfl hP6.r (by show 0 + 2 ≤ 2; decide) (.inl (Nat.le_refl _)) (.inl rfl) fun Hz hXz hOz hLz => ?_
            refine AQ_nil ?_
            refine AC_ret ⟨.inl rfl, .agg #[.slice none 0 0, .bool false], ?_, .slice none 0 0, by rw [decide_eq_false hni], by rw [if_neg hni]; exact Buf.nil _ _, fun j hj => (by cases hj)⟩
            show ares TT Hz _ [.cell 2 37] = _
            have hOz' : Ob Hz H.length 37 [.slice none 0 0, .bool false] := hOz
            simp only [ares, List.mapM_cons, List.mapM_nil, ares1, go_sem, g2, hOz'.load, ap37]
            rfl
          · have d2 : decide ((16 : Int) < ((TO[i] ++ t[i].path).length : Int)) = false := decide_eq_false (by omega)
            refine AC_seqQ TT_ok (by simp only [go_sem, f49p _ 1 1 rfl, hO6.load, apn1, d1, d2] <;> rfl) ?_
            refine AC_f (by simp only [go_sem] <;> rfl) (rfl) ?_
            exact AC_skip ⟨rfl, by omega, by simp only [go_sem, g0], by simp only [go_sem, g2], by simp only [go_sem, g3], by simp only [go_sem, g4], by simp only [go_sem, g5], by simp only [go_sem, g6], by simp only [go_sem], by simp only [go_sem]⟩
      subst hH
      have hzs : Isw t → zp (t.take (i + 1)) ((q0 t).take (i + 1)) = l ++ (if t[i].has = true then [⟨(keyOf (TO[i] ++ t[i].path)).getD [], t[i].value⟩] else []) := fun hs => by
        have hT := hs.trie
        have hq : i < (q0 t).length := by rw [hT.len]; exact hi'
        have h1 := hsem hs
        rw [List.getElem?_eq_getElem hq] at h1
        rw [zp_step hi' hq, ← (hM hs).l, Option.some.inj h1]
      -- its pair
      refine AC_cut (fun e' H' => ∃ vl' l', PS H H' vto vme vl' t TO ME l' ∧ l'.length ≤ i + 1 ∧ (Isw t → l' = zp (t.take (i + 1)) ((q0 t).take (i + 1))) ∧ Ob H' H5.length 49 t[i].cells ∧ H5.length < H'.length ∧ get e' 0 = vt ∧ get e' 2 = .pointer (some ⟨H.length, 0, none⟩) ∧ get e' 3 = vto ∧ get e' 4 = vme ∧ get e' 5 = vl' ∧ get e' 6 = .int .i64 (i : Nat) ∧ get e' 7 = .pointer (some ⟨H5.length, 0, none⟩) ∧ get e' 8 = S (TO[i] ++ t[i].path)) ?_ (fun e8 H8 _ ⟨vl1, l1, hP8, hl1, hz1, hO8, hlt8, g0, g2, g3, g4, g5, g6, g7, g8⟩ => ?_)
      · refine AC_seqQ TT_ok (by simp only [go_sem, g7, f49p _ 2 2 rfl, hO6.load, apn2] <;> rfl) ?_
        by_cases hh : t[i].has = true
        · refine AC_t (by simp only [go_sem] <;> rfl) (hh) ?_
          refine AC_seq ?_
          refine AC_regL ?_
          refine AQ_take TT_ok 1 rfl (by simp only [go_sem, g8] <;> rfl) ?_
          refine AQ_c rfl (by simp only [go_sem] <;> rfl) fok66 (by simp only [List.map_cons, List.map_nil, List.append_nil, go_sem] <;> rfl) (c66 (a := TO[i] ++ t[i].path) (by omega)) (fun _ _ h => h.elim) (.inl rfl) fun v H8 hX8 hv => ?_
          subst hv
          refine AQ_var TT_ok TT_109 rfl (by decide) (by simp only [go_sem] <;> rfl) (Lay.two (One.str _) (One.bool _)) rfl (.inl (by have := hP6.x.size; have := hX8.size; omega)) (.inl rfl) fun H9 hX9 hO9 hL9 => ?_
          refine AQ_nil ?_
          have hX89 := hX8.trans hX9
          have hP9 := hP6.keep hX89
          have hN9 := hO6.keep hX89
          have k1 : ∀ k, afield TT 109 (.pointer (some ⟨k, 0, none⟩)) 1 = some (.pointer (some ⟨k, 1, none⟩)) := fun k => rfl
          have k0 : ∀ k, afield TT 109 (.pointer (some ⟨k, 0, none⟩)) 0 = some (.pointer (some ⟨k, 0, none⟩)) := fun k => rfl
          have a1' : ∀ (x : List UInt8) (b : Bool), apart TT 4 [S x, .bool b] 1 = some (.bool b) := fun x b => rfl
          have a0' : ∀ (x : List UInt8) (b : Bool), apart TT 9 [S x, .bool b] 0 = some (S x) := fun x b => rfl
          by_cases hk : (keyOf (TO[i] ++ t[i].path)).isSome = true
          · refine AC_seq ?_
            refine AC_seqQ TT_ok (by simp only [go_sem, k1, hO9.load, a1'] <;> rfl) ?_
            refine AC_f (by simp only [go_sem] <;> rfl) (by rw [hk]; rfl) ?_
            refine AC_skip ?_
            refine AC_regL ?_
            refine AQ_take TT_ok 6 rfl (by simp only [go_sem, g5, g7, k0, hO9.load, a0', f49p _ 3 3 rfl, hN9.load, apn3, List.map_cons, List.map_nil, bp52] <;> rfl) ?_
            refine AQ_lit TT_ok [(Pr.mk ((keyOf (TO[i] ++ t[i].path)).getD []) t[i].value).val] TT_22 rfl TT_52 rfl (by decide) rfl (by decide) rfl (by simp only [List.map_cons, List.map_nil, go_sem, numbered]) (fun u hu => ?_) fun H10 hX10 hO10 hL10 => ?_
            · rw [List.mem_singleton] at hu; subst hu; exact ⟨_, Lay.pr _, rfl⟩
            have hP10 := hP9.keep hX10
            have hsz := hP6.x.size
            have hs89 := hX89.size
            refine AQ_append TT_ok (v := vl) (n := l.length) (m := 1) TT_22 rfl TT_52 (by decide) (by decide) rfl (by simp only [go_sem, g5]) (by simp only [go_sem]) hP10.pl hO10.sl (rows_length Pr.len _) rfl (by simp; omega) (fun j hj => .inl (Nat.le_of_lt (hP10.d3 j hj))) (.inl rfl) fun vl' H11 hX11 hB11 hv11 => ?_
            have hB11' : PrB H11 vl' (l ++ [⟨(keyOf (TO[i] ++ t[i].path)).getD [], t[i].value⟩]) := by
              have e : l.flatMap Pr.cells ++ ([(Pr.mk ((keyOf (TO[i] ++ t[i].path)).getD []) t[i].value).val] : List Value).flatMap (fun v => v.cells.toList) = (l ++ [Pr.mk ((keyOf (TO[i] ++ t[i].path)).getD []) t[i].value]).flatMap Pr.cells := by
                rw [List.flatMap_append]; rfl
              rw [e] at hB11
              rw [PrB, List.length_append]; exact hB11
            have hv11' : ∀ j, vid vl' = some j → H10.length ≤ j := fun j hj => by
              rcases hv11 j hj with h | h
              · exact h
              · cases h.1
            refine AQ_all TT_ok rfl (by simp only [go_sem] <;> rfl) ?_
            have hl5 := hO6.lt
            have hs11 := hX11.size
            refine ⟨vl', l ++ [⟨(keyOf (TO[i] ++ t[i].path)).getD [], t[i].value⟩], ⟨hP10.x.weakF hX11 (fun j _ hj => Nat.le_of_lt (hP10.d3 j hj)), hP10.r.ext hX11 (fun h => Nat.lt_irrefl _ (hP10.d3 _ h)), Buf.ext hP10.to hX11 (fun j hj h => (hP10.n1 j hj).2 h), Buf.ext hP10.me hX11 (fun j hj h => hP10.n2 j hj h), hB11', hP10.tol, hP10.mel, hP10.short, hP10.d1, hP10.d2, fun j hj => by have := hv11' j hj; omega, fun j hj => ⟨(hP10.n1 j hj).1, fun h => by have := hv11' j h; have := Sl.vid_lt hP10.to.sl hj; omega⟩, fun j hj h => by have := hv11' j h; have := Sl.vid_lt (Buf.sl hP10.me) hj; omega, by simp; omega⟩, by simp; omega, fun hs => ?_, (hN9.keep hX10).ext hX11 (fun h => ?_), by omega, by simp only [go_sem, g0], by simp only [go_sem, g2], by simp only [go_sem, g3], by simp only [go_sem, g4], by simp only [go_sem], by simp only [go_sem, g6], by simp only [go_sem, g7], by simp only [go_sem, g8]⟩
            · rw [hzs hs, if_pos hh]
            · have := Sl.vid_lt hP.pl.sl h; omega
          · refine AC_seq ?_
            refine AC_seqQ TT_ok (by simp only [go_sem, k1, hO9.load, a1'] <;> rfl) ?_
            refine AC_t (by simp only [go_sem] <;> rfl) (by simpa using hk) ?_
            have hni : ¬ Isw t := fun hs => by
              have h1 := (hzok hs).2 hh
              dsimp only at h1
              apply hk
              cases hkk : keyOf (TO[i] ++ t[i].path) with
              | none => exact absurd hkk h1
              | some x => rfl
            refine AC_seq ?_
            refine AC_regL ?_
            refine AQ_take TT_ok 1 rfl (by simp only [go_sem, List.map_nil, bz37] <;> rfl) ?_
            refine AQ_store TT_ok TT_37 rfl (by simp only [go_sem, g2] <;> rfl) (by simp only [go_sem] <;> rfl) (Lay.two (One.slice _ _ _) (One.bool _)) rfl hP9.r (by show 0 + 2 ≤ 2; decide) (.inl (Nat.le_refl _)) (.inl rfl) fun Hz hXz hOz hLz => ?_
            refine AQ_nil ?_
            refine AC_ret ⟨.inl rfl, .agg #[.slice none 0 0, .bool false], ?_, .slice none 0 0, by rw [decide_eq_false hni], by rw [if_neg hni]; exact Buf.nil _ _, fun j hj => (by cases hj)⟩
            show ares TT Hz _ [.cell 2 37] = _
            have hOz' : Ob Hz H.length 37 [.slice none 0 0, .bool false] := hOz
            simp only [ares, List.mapM_cons, List.mapM_nil, ares1, go_sem, g2, hOz'.load, ap37]
            rfl
        · have hh' : t[i].has = false := by simpa using hh
          refine AC_f (by simp only [go_sem] <;> rfl) (hh') ?_
          refine AC_skip ⟨vl, l, hP6, by omega, fun hs => ?_, hO6, hO6.lt, by simp only [go_sem, g0], by simp only [go_sem, g2], by simp only [go_sem, g3], by simp only [go_sem, g4], by simp only [go_sem, g5], by simp only [go_sem, g6], by simp only [go_sem, g7], by simp only [go_sem, g8]⟩
          rw [hzs hs, if_neg hh, List.append_nil]
      -- its children
      have k5 := wrapN i (by omega)
      have hfix : Isw t → Sem t (q0 t) (i * 16 + 0) (i + 1) TO ME l1 := fun hs => ⟨(hM hs).me, (hM hs).to, hz1 hs⟩
      generalize hall : TO[i] ++ t[i].path = all at h16 g8
      refine AC_seqQ TT_ok (by simp only [go_sem] <;> rfl) ?_
      refine AC_block (AC_loop (fun n e' H' => ∃ (c : Nat) (TO2 : List (List UInt8)) (ME2 : List Bool), n = 16 - c ∧ c ≤ 16 ∧ PS H H' vto vme vl1 t TO2 ME2 l1 ∧ (Isw t → Sem t (q0 t) (i * 16 + c) (i + 1) TO2 ME2 l1) ∧ Ob H' H5.length 49 t[i].cells ∧ H5.length < H'.length ∧ get e' 0 = vt ∧ get e' 2 = .pointer (some ⟨H.length, 0, none⟩) ∧ get e' 3 = vto ∧ get e' 4 = vme ∧ get e' 5 = vl1 ∧ get e' 6 = .int .i64 (i : Nat) ∧ get e' 7 = .pointer (some ⟨H5.length, 0, none⟩) ∧ get e' 8 = S all ∧ get e' 10 = .int .i64 (c : Nat)) 16
        ⟨0, TO, ME, rfl, by decide, hP8, hfix, hO8, hlt8, by simp only [go_sem, g0], by simp only [go_sem, g2], by simp only [go_sem, g3], by simp only [go_sem, g4], by simp only [go_sem, g5], by simp only [go_sem, g6], by simp only [go_sem, g7], by simp only [go_sem, g8], by simp only [go_sem] <;> simp⟩ ?_)
      rintro n2 E2 H9 _ ⟨c, TO2, ME2, hn2, hc16, hP9, hM9, hO9, hlt9, g0, g2, g3, g4, g5, g6, g7, g8, g10⟩
      refine AC_seq ?_
      refine AC_seqQ TT_ok (by simp only [go_sem, g10] <;> rfl) ?_
      by_cases hc : c < 16
      · refine AC_t (by simp only [go_sem] <;> rfl) (decide_eq_true (by omega)) ?_
        refine AC_skip ?_
        refine AC_seq (AC_block ?_)
        have kc := wrapN c (by omega)
        refine AC_seqQ TT_ok (by simp only [go_sem, g10, g7, f49p _ 4 4 rfl, kidI _ c hc, hO9.load, apnk _ c hc] <;> rfl) ?_
        by_cases hk0 : t[i].kids[c] = 0
        · refine AC_seq ?_
          refine AC_seqQ TT_ok (by simp only [go_sem] <;> rfl) ?_
          refine AC_t (by simp only [go_sem] <;> rfl) (decide_eq_true hk0) ?_
          refine AC_exit ?_
          refine AC_quiet TT_ok (by simp only [go_sem, g10, kc] <;> rfl) ?_
          exact ⟨16 - (c + 1), by omega, c + 1, TO2, ME2, rfl, by omega, hP9, fun hs => (hM9 hs).zero (by rw [Fk_step hi' hc, hk0]), hO9, hlt9, by simp only [go_sem, g0], by simp only [go_sem, g2], by simp only [go_sem, g3], by simp only [go_sem, g4], by simp only [go_sem, g5], by simp only [go_sem, g6], by simp only [go_sem, g7], by simp only [go_sem, g8], by simp only [go_sem]⟩
        · refine AC_seq ?_
          refine AC_seqQ TT_ok (by simp only [go_sem] <;> rfl) ?_
          refine AC_f (by simp only [go_sem] <;> rfl) (decide_eq_false hk0) ?_
          refine AC_skip ?_
          have hblk : Isw t → ∃ j, i < j ∧ j < t.length ∧ t[i].kids[c] = ((j : Nat) : Int) ∧ (q0 t)[j]? = some (all ++ if t[i].kind = 3 then [UInt8.ofNat c] else []) := fun hs => by
            rcases hs.trie.blk i t[i] TO[i] (List.getElem?_eq_getElem hi') (hsem hs) c hc with h | ⟨j, m, z1, z2, z3, z4, _⟩
            · exact absurd h hk0
            · exact ⟨j, z1, (List.getElem?_eq_some_iff.1 z2).1, by rw [z3]; omega, by rw [z4, hall]⟩
          have hS9 := hS.keep hP9.x
          by_cases b1 : t[i].kids[c] ≤ (i : Int)
          · have d1 : decide (t[i].kids[c] ≤ (i : Int)) = true := decide_eq_true b1
            refine AC_seq ?_
            refine AC_seqQ TT_ok (by simp only [go_sem, g6, d1] <;> rfl) ?_
            refine AC_t (by simp only [go_sem] <;> rfl) (rfl) ?_
            have hni : ¬ Isw t := fun hs => by obtain ⟨j, z1, z2, z3, _⟩ := hblk hs; omega
            refine AC_seq ?_
            refine AC_regL ?_
            refine AQ_take TT_ok 1 rfl (by simp only [go_sem, List.map_nil, bz37] <;> rfl) ?_
            refine AQ_store TT_ok TT_37 rfl (by simp only [go_sem, g2] <;> rfl) (by simp only [go_sem] <;> rfl) (Lay.two (One.slice _ _ _) (One.bool _)) rfl hP9.r (by show 0 + 2 ≤ 2; decide) (.inl (Nat.le_refl _)) (.inl rfl) fun Hz hXz hOz hLz => ?_
            refine AQ_nil ?_
            refine AC_ret ⟨.inl rfl, .agg #[.slice none 0 0, .bool false], ?_, .slice none 0 0, by rw [decide_eq_false hni], by rw [if_neg hni]; exact Buf.nil _ _, fun j hj => (by cases hj)⟩
            show ares TT Hz _ [.cell 2 37] = _
            have hOz' : Ob Hz H.length 37 [.slice none 0 0, .bool false] := hOz
            simp only [ares, List.mapM_cons, List.mapM_nil, ares1, go_sem, g2, hOz'.load, ap37]
            rfl
          have d1 : decide (t[i].kids[c] ≤ (i : Int)) = false := decide_eq_false b1
          by_cases b2 : (t.length : Int) ≤ t[i].kids[c]
          · have d2 : decide ((t.length : Int) ≤ t[i].kids[c]) = true := decide_eq_true b2
            refine AC_seq ?_
            refine AC_seqQ TT_ok (by simp only [go_sem, g6, g0, hS9.alen, d1, d2] <;> rfl) ?_
            refine AC_t (by simp only [go_sem] <;> rfl) (rfl) ?_
            have hni : ¬ Isw t := fun hs => by obtain ⟨j, z1, z2, z3, _⟩ := hblk hs; omega
            refine AC_seq ?_
            refine AC_regL ?_
            refine AQ_take TT_ok 1 rfl (by simp only [go_sem, List.map_nil, bz37] <;> rfl) ?_
            refine AQ_store TT_ok TT_37 rfl (by simp only [go_sem, g2] <;> rfl) (by simp only [go_sem] <;> rfl) (Lay.two (One.slice _ _ _) (One.bool _)) rfl hP9.r (by show 0 + 2 ≤ 2; decide) (.inl (Nat.le_refl _)) (.inl rfl) fun Hz hXz hOz hLz => ?_
            refine AQ_nil ?_
            refine AC_ret ⟨.inl rfl, .agg #[.slice none 0 0, .bool false], ?_, .slice none 0 0, by rw [decide_eq_false hni], by rw [if_neg hni]; exact Buf.nil _ _, fun j hj => (by cases hj)⟩
            show ares TT Hz _ [.cell 2 37] = _
            have hOz' : Ob Hz H.length 37 [.slice none 0 0, .bool false] := hOz
            simp only [ares, List.mapM_cons, List.mapM_nil, ares1, go_sem, g2, hOz'.load, ap37]
            rfl
          have d2 : decide ((t.length : Int) ≤ t[i].kids[c]) = false := decide_eq_false b2
          obtain ⟨K, hK⟩ : ∃ K : Nat, t[i].kids[c] = (K : Int) := ⟨t[i].kids[c].toNat, by omega⟩
          have hKi : i < K := by omega
          have hKt : K < t.length := by omega
          have hKm : K < ME2.length := by rw [hP9.mel]; exact hKt
          have hKT : K < TO2.length := by rw [hP9.tol]; exact hKt
          have meI : BoS H9 vme ME2 := Buf.sl hP9.me
          have m1 := meI.index (k := .i64) hKm
          have m2 := meI.load hKm
          rw [hK] at d1 d2
          by_cases b3 : ME2[K] = true
          · refine AC_seq ?_
            refine AC_seqQ TT_ok (by simp only [go_sem, g6, g0, g4, hS9.alen, hK, d1, d2, m1, m2] <;> rfl) ?_
            refine AC_t (by simp only [go_sem] <;> rfl) (b3) ?_
            have hni : ¬ Isw t := fun hs => by
              have h1 := (hM9 hs).me K _ (by omega) (List.getElem?_eq_getElem hKm)
              rw [b3] at h1
              exact hs.trie.once hi' hc (by omega) hK (of_decide_eq_true h1.symm)
            refine AC_seq ?_
            refine AC_regL ?_
            refine AQ_take TT_ok 1 rfl (by simp only [go_sem, List.map_nil, bz37] <;> rfl) ?_
            refine AQ_store TT_ok TT_37 rfl (by simp only [go_sem, g2] <;> rfl) (by simp only [go_sem] <;> rfl) (Lay.two (One.slice _ _ _) (One.bool _)) rfl hP9.r (by show 0 + 2 ≤ 2; decide) (.inl (Nat.le_refl _)) (.inl rfl) fun Hz hXz hOz hLz => ?_
            refine AQ_nil ?_
            refine AC_ret ⟨.inl rfl, .agg #[.slice none 0 0, .bool false], ?_, .slice none 0 0, by rw [decide_eq_false hni], by rw [if_neg hni]; exact Buf.nil _ _, fun j hj => (by cases hj)⟩
            show ares TT Hz _ [.cell 2 37] = _
            have hOz' : Ob Hz H.length 37 [.slice none 0 0, .bool false] := hOz
            simp only [ares, List.mapM_cons, List.mapM_nil, ares1, go_sem, g2, hOz'.load, ap37]
            rfl
          · have b3' : ME2[K] = false := by simpa using b3
            refine AC_seq ?_
            refine AC_seqQ TT_ok (by simp only [go_sem, g6, g0, g4, hS9.alen, hK, d1, d2, m1, m2] <;> rfl) ?_
            refine AC_f (by simp only [go_sem] <;> rfl) (b3') ?_
            refine AC_skip ?_
            obtain ⟨mi, hOm⟩ := Buf.own hP9.me (by omega)
            refine AC_seq ?_
            refine AC_regL ?_
            refine AQ_take TT_ok 3 rfl (by simp only [go_sem, g4, hK, m1] <;> rfl) ?_
            refine AQ_storeE TT_ok TT_4 rfl (by simp only [go_sem] <;> rfl) (by simp only [go_sem] <;> rfl) (One.bool _).lay rfl hOm (by rw [rows_length oCell_len]; simp; omega) (.inl (Nat.le_of_lt (hP9.d2 _ hOm.vid))) (.inl rfl) fun H10 hX10 hO10 hL10 => ?_
            refine AQ_nil ?_
            have e10 : over (ME2.flatMap oCell) (K * 1 + 0) [.bool true] = (ME2.set K true).flatMap oCell := row1 oCell_len ME2 K true hKm
            rw [e10] at hO10
            have hP10 := hP9.setM (ME' := ME2.set K true) hOm.vid hX10 (.inr ⟨mi, by rw [List.length_set]; exact hO10⟩) (by rw [List.length_set]; exact hP9.mel)
            have hlm : mi < H5.length := Sl.vid_lt (Buf.sl hP.me) hOm.vid
            have hN10 := hO9.ext hX10 (by omega)
            obtain ⟨ti, hOt⟩ := Buf.own hP10.to (by omega)
            have hlt' : ti < H5.length := Sl.vid_lt hP.to.sl hOt.vid
            have u1' := StS.index (k := .i64) hP10.to.sl hKT
            refine AC_seq ?_
            refine AC_regL ?_
            refine AQ_take TT_ok 4 rfl (by simp only [go_sem, g3, g8, hK, u1'] <;> rfl) ?_
            refine AQ_storeE TT_ok TT_9 rfl (by simp only [go_sem] <;> rfl) (by simp only [go_sem] <;> rfl) (One.str _).lay rfl hOt (by rw [rows_length sCell_len]; simp; omega) (.inl (Nat.le_of_lt (hP10.d1 _ hOt.vid))) (.inl rfl) fun H11 hX11 hO11 hL11 => ?_
            refine AQ_nil ?_
            have e11 : over (TO2.flatMap sCell) (K * 1 + 0) [S all] = (TO2.set K all).flatMap sCell := row1 sCell_len TO2 K all hKT
            rw [e11] at hO11
            have hsh : ∀ (x : List UInt8), x.length ≤ 17 → ∀ p ∈ TO2.set K x, p.length ≤ 17 := fun x hx p hp => by
              rcases List.mem_or_eq_of_mem_set hp with h | h
              · exact hP9.short p h
              · rw [h]; exact hx
            have hP11 := hP10.setT (TO' := TO2.set K all) hOt.vid hX11 (.inr ⟨ti, by rw [List.length_set]; exact hO11⟩) (by rw [List.length_set]; exact hP9.tol) (hsh all (by omega))
            have hN11 := hN10.ext hX11 (by omega)
            refine AC_seqQ TT_ok (by simp only [go_sem, g7, f49p _ 0 0 rfl, hN11.load, apn0] <;> rfl) ?_
            have hstep : (Fk t).take (i * 16 + (c + 1)) = (Fk t).take (i * 16 + c) ++ [(K : Int)] := by rw [Fk_step hi' hc, hK]
            by_cases h3 : t[i].kind = 3
            · refine AC_t (by simp only [go_sem] <;> rfl) (decide_eq_true h3) ?_
              have hKT' : K < (TO2.set K all).length := by rw [List.length_set]; exact hKT
              have u3 := StS.index (k := .i64) hP11.to.sl hKT'
              have u4 := StS.load hP11.to.sl hKT'
              rw [List.getElem_set_self] at u4
              refine AC_drawG (fun _ => False) H11 [10] [(0, true), (1, true), (2, true), (3, true), (4, true), (5, true), (6, false), (7, false), (8, true), (9, true), (10, false)] mixed (by kernel_rfl) (fun _ h => h.elim) (fun j o h => ⟨h, id⟩) (Nat.le_refl _) ?_
              refine AG_sel (σ := [(6, false), (7, false), (8, true), (9, true), (10, false)]) TT_ok [0, 1, 2, 3, 4, 5] _ (by simp only [go_sem, g3, g10, hK, u3, u4, byte_at c hc] <;> rfl) ?_
              refine AG_lit TT_ok [U (UInt8.ofNat c)] rfl TT_50 rfl TT_5 rfl (by decide) rfl (by decide) rfl (by simp only [List.map_cons, List.map_nil, go_sem, numbered]) (fun v hv => ?_) fun H12 hX12 hO12 hL12 => ?_
              · rw [List.mem_singleton] at hv; subst hv; exact ⟨_, (One.byte _).lay, rfl⟩
              have hby : ByS H12 (.slice (some ⟨H11.length, 0, none⟩) 1 1) [UInt8.ofNat c] := hO12.sl
              refine AG_one TT_ok 7 (by simp only [go_sem, hby.conv] <;> rfl) ?_
              have ad2 := as_add 9 all [UInt8.ofNat c] (by simp; omega)
              refine AG_sel (σ := [(10, false)]) TT_ok [8, 9] _ (by simp only [go_sem, ad2, hK, u3] <;> rfl) ?_
              have hP12 := hP11.keep hX12
              have hN12 := hN11.keep hX12
              obtain ⟨tj, hOu⟩ := Buf.own hP12.to (by omega)
              have htj : tj = ti := by
                have h1 := hOu.vid
                have h2 := hOt.vid
                rw [h1] at h2
                exact Option.some.inj h2
              refine AG_storeE TT_ok rfl TT_9 rfl (by simp only [go_sem] <;> rfl) (by simp only [go_sem] <;> rfl) (One.str _).lay rfl hOu (by rw [rows_length sCell_len]; simp; omega) (.inl (Nat.le_of_lt (hP12.d1 _ hOu.vid))) rfl fun H13 hX13 hO13 hL13 => ?_
              refine AG_nil ?_
              have e13 : over ((TO2.set K all).flatMap sCell) (K * 1 + 0) [S (all ++ [UInt8.ofNat c])] = (TO2.set K (all ++ [UInt8.ofNat c])).flatMap sCell := by
                have := row1 sCell_len (TO2.set K all) K (all ++ [UInt8.ofNat c]) hKT'
                rw [List.set_set] at this
                exact this
              rw [e13] at hO13
              have hP13 := hP12.setT (TO' := TO2.set K (all ++ [UInt8.ofNat c])) hOu.vid hX13 (.inr ⟨tj, by rw [List.length_set] at hO13 ⊢; exact hO13⟩) (by rw [List.length_set]; exact hP9.tol) (hsh _ (by simp; omega))
              have hN13 := hN12.ext hX13 (by omega)
              refine AC_quiet TT_ok (by simp only [go_sem, g10, kc] <;> rfl) ?_
              refine ⟨16 - (c + 1), by omega, c + 1, _, _, rfl, by omega, hP13, fun hs => (hM9 hs).next (by omega) hstep ?_, hN13, hN13.lt, by simp only [go_sem, g0], by simp only [go_sem, g2], by simp only [go_sem, g3], by simp only [go_sem, g4], by simp only [go_sem, g5], by simp only [go_sem, g6], by simp only [go_sem, g7], by simp only [go_sem, g8], by simp only [go_sem]⟩
              obtain ⟨j, z1, z2, z3, z4⟩ := hblk hs
              have : j = K := by omega
              subst this
              rw [if_pos h3] at z4
              exact z4
            · refine AC_f (by simp only [go_sem] <;> rfl) (decide_eq_false h3) ?_
              refine AC_skip ?_
              refine AC_quiet TT_ok (by simp only [go_sem, g10, kc] <;> rfl) ?_
              refine ⟨16 - (c + 1), by omega, c + 1, _, _, rfl, by omega, hP11, fun hs => (hM9 hs).next (by omega) hstep ?_, hN11, hN11.lt, by simp only [go_sem, g0], by simp only [go_sem, g2], by simp only [go_sem, g3], by simp only [go_sem, g4], by simp only [go_sem, g5], by simp only [go_sem, g6], by simp only [go_sem, g7], by simp only [go_sem, g8], by simp only [go_sem]⟩
              obtain ⟨j, z1, z2, z3, z4⟩ := hblk hs
              have : j = K := by omega
              subst this
              rw [if_neg h3, List.append_nil] at z4
              exact z4
      · refine AC_f (by simp only [go_sem] <;> rfl) (decide_eq_false (by omega)) ?_
        refine AC_exit ?_
        have : c = 16 := by omega
        subst this
        refine AC_quiet TT_ok (by simp only [go_sem, g6, k5] <;> rfl) ?_
        exact ⟨t.length - (i + 1), by omega, i + 1, vl1, TO2, ME2, l1, rfl, by omega, hl1, hP9, fun hs => by have := hM9 hs; rwa [show i * 16 + 16 = (i + 1) * 16 by omega] at this, by simp only [go_sem, g0], by simp only [go_sem, g2], by simp only [go_sem, g3], by simp only [go_sem, g4], by simp only [go_sem, g5], by simp only [go_sem]⟩
    · refine AC_f (by simp only [go_sem] <;> rfl) (ge_dec (by omega)) ?_
      have : i = t.length := by omega
      subst this
      exact AC_exit ⟨vl, TO, ME, l, hP, hM, by simp only [go_sem, g0], by simp only [go_sem, g2], by simp only [go_sem, g5]⟩
  have hS4 := hS.keep hP4.x
  have hll := hP4.ll
  have hl0 : Isw t → l = (walkAll t).2.l := fun hs => by
    have h1 := (hM4 hs).l
    have hT := hs.trie
    rw [List.take_of_length_le (Nat.le_refl _), List.take_of_length_le (by rw [hT.len]; exact Nat.le_refl _), hT.zp] at h1
    exact h1
  refine AC_seq ?_
  refine AC_regL ?_
  refine AQ_take TT_ok 1 rfl (by simp only [go_sem, g5] <;> rfl) ?_
  refine AQ_c rfl (by simp only [go_sem] <;> rfl) fok30 (by simp only [List.map_cons, List.map_nil, List.append_nil, go_sem] <;> rfl) (c30 hP4.pl.sl (by omega)) (fun _ _ h => h.elim) (.inl rfl) fun r H5 hX5 ⟨vbt, vbp, hr, hB, hBp, _, _⟩ => ?_
  subst hr
  refine AQ_var TT_ok TT_32 rfl (by decide) (by simp only [go_sem] <;> rfl) (Lay.three hB.sl.one hBp.sl.one (One.bool _)) rfl (.inl (by have := hP4.x.size; have := hX5.size; omega)) (.inl rfl) fun H6 hX6 hO6 hL6 => ?_
  refine AQ_nil ?_
  have hX56 := hX5.trans hX6
  have hP6 := hP4.keep hX56
  have hS6 := hS4.keep hX56
  have hB6 := Buf.keep hB hX6
  have f0 : ∀ k, afield TT 32 (.pointer (some ⟨k, 0, none⟩)) 0 = some (.pointer (some ⟨k, 0, none⟩)) := fun k => rfl
  have f2 : ∀ k, afield TT 32 (.pointer (some ⟨k, 0, none⟩)) 2 = some (.pointer (some ⟨k, 2, none⟩)) := fun k => rfl
  have p2 : apart TT 4 [vbt, vbp, .bool (decide (May l))] 2 = some (.bool (decide (May l))) := rfl
  by_cases hm : May l
  · have dm : decide (May l) = true := decide_eq_true hm
    rw [if_pos hm] at hB6
    rw [dm] at hO6 p2
    have hbl : (build l).length < 2^62 := by have := build_len l; omega
    refine AC_seq ?_
    refine AC_seq ?_
    refine AC_regL ?_
    refine AQ_take TT_ok 7 rfl (by simp only [go_sem, g0, f0, f2, hO6.load, p2, ap3_0 _ _ _ 24 rfl, Bool.not_true] <;> rfl) ?_
    refine AQ_c rfl (by simp only [go_sem] <;> rfl) fok67 (by simp only [List.map_cons, List.map_nil, List.append_nil, go_sem] <;> rfl) (c67 hB6.sl hS6 hbl) (fun _ _ h => h.elim) (.inl rfl) fun r H7 hX7 ⟨hr, hH⟩ => ?_
    subst hr hH
    refine AQ_all TT_ok rfl (by simp only [go_sem] <;> rfl) ?_
    by_cases he : build l = t
    · refine AC_f (by simp only [go_sem] <;> rfl) (by rw [decide_eq_true he]; rfl) ?_
      refine AC_skip ?_
      have hs : Isw t := isw_iff.2 ⟨l, hm, he.symm⟩
      refine AC_seq ?_
      refine AC_regL ?_
      refine AQ_take TT_ok 2 rfl (by simp only [go_sem, g5, List.map_cons, List.map_nil, b37 hP6.pl.sl.one] <;> rfl) ?_
      refine AQ_store TT_ok TT_37 rfl (by simp only [go_sem, g2] <;> rfl) (by simp only [go_sem] <;> rfl) (Lay.two hP6.pl.sl.one (One.bool _)) rfl hP6.r (by show 0 + 2 ≤ 2; decide) (.inl (Nat.le_refl _)) (.inl rfl) fun H8 hX8 hO8 hL8 => ?_
      refine AQ_nil ?_
      refine AC_ret ⟨.inl rfl, .agg #[vl, .bool true], ?_, vl, by rw [decide_eq_true hs], ?_, fun j hj => Nat.le_of_lt (hP6.d3 j hj)⟩
      · show ares TT H8 _ [.cell 2 37] = _
        have hO8' : Ob H8 H.length 37 [vl, .bool true] := hO8
        simp only [ares, List.mapM_cons, List.mapM_nil, ares1, go_sem, g2, hO8'.load, ap37]
        rfl
      · rw [if_pos hs, ← hl0 hs]
        exact Buf.ext hP6.pl hX8 (fun j hj h => by have := hP6.d3 j hj; omega)
    · refine AC_t (by simp only [go_sem] <;> rfl) (by rw [decide_eq_false he]; rfl) ?_
      have hni : ¬ Isw t := fun hs => he (by rw [hl0 hs]; exact hs.2.2.symm)
      refine AC_seq ?_
      refine AC_regL ?_
      refine AQ_take TT_ok 1 rfl (by simp only [go_sem, List.map_nil, bz37] <;> rfl) ?_
      refine AQ_store TT_ok TT_37 rfl (by simp only [go_sem, g2] <;> rfl) (by simp only [go_sem] <;> rfl) (Lay.two (One.slice _ _ _) (One.bool _)) rfl hP6.r (by show 0 + 2 ≤ 2; decide) (.inl (Nat.le_refl _)) (.inl rfl) fun Hz hXz hOz hLz => ?_
      refine AQ_nil ?_
      refine AC_ret ⟨.inl rfl, .agg #[.slice none 0 0, .bool false], ?_, .slice none 0 0, by rw [decide_eq_false hni], by rw [if_neg hni]; exact Buf.nil _ _, fun j hj => (by cases hj)⟩
      show ares TT Hz _ [.cell 2 37] = _
      have hOz' : Ob Hz H.length 37 [.slice none 0 0, .bool false] := hOz
      simp only [ares, List.mapM_cons, List.mapM_nil, ares1, go_sem, g2, hOz'.load, ap37]
      rfl
  · have dm : decide (May l) = false := decide_eq_false hm
    rw [dm] at hO6 p2
    refine AC_seq ?_
    refine AC_seq ?_
    refine AC_regL ?_
    refine AQ_take TT_ok 7 rfl (by simp only [go_sem, g0, f0, f2, hO6.load, p2, Bool.not_false] <;> rfl) ?_
    refine AQ_pass rfl ?_
    refine AQ_all TT_ok rfl (by simp only [go_sem] <;> rfl) ?_
    refine AC_t (by simp only [go_sem] <;> rfl) (rfl) ?_
    have hni : ¬ Isw t := fun hs => hm (by rw [hl0 hs]; exact hs.2.1)
    refine AC_seq ?_
    refine AC_regL ?_
    refine AQ_take TT_ok 1 rfl (by simp only [go_sem, List.map_nil, bz37] <;> rfl) ?_
    refine AQ_store TT_ok TT_37 rfl (by simp only [go_sem, g2] <;> rfl) (by simp only [go_sem] <;> rfl) (Lay.two (One.slice _ _ _) (One.bool _)) rfl hP6.r (by show 0 + 2 ≤ 2; decide) (.inl (Nat.le_refl _)) (.inl rfl) fun Hz hXz hOz hLz => ?_
    refine AQ_nil ?_
    refine AC_ret ⟨.inl rfl, .agg #[.slice none 0 0, .bool false], ?_, .slice none 0 0, by rw [decide_eq_false hni], by rw [if_neg hni]; exact Buf.nil _ _, fun j hj => (by cases hj)⟩
    show ares TT Hz _ [.cell 2 37] = _
    have hOz' : Ob Hz H.length 37 [.slice none 0 0, .bool false] := hOz
    simp only [ares, List.mapM_cons, List.mapM_nil, ares1, go_sem, g2, hOz'.load, ap37]
    rfl

theorem c75 {H : AHeap} {vt : Value} {t : List Nd} (hS : NdS H vt t) (ht : t.length < 2^19) (hn : ∀ n ∈ t, n.path.length < 2^30) : ACalls Try.prog 75 [vt] H (fun _ => False) fun v H' => v = .bool (decide (Isw t)) := by
  refine ACalls_by 6 TT_ok Try.func75 rfl rfl rfl (by simp) ?_
  refine AC_seqQ TT_ok (by simp only [go_sem] <;> rfl) ?_
  refine AC_seq ?_
  refine AC_regL ?_
  refine AQ_take TT_ok 1 rfl (by simp only [go_sem] <;> rfl) ?_
  refine AQ_c rfl (by simp only [go_sem] <;> rfl) fok32 (by simp only [List.map_cons, List.map_nil, List.append_nil, go_sem] <;> rfl) (c32 hS ht hn) (fun _ _ h => h.elim) (.inl rfl) fun r H1 hX1 ⟨u, hr, _, _⟩ => ?_
  subst hr
  have hp : apick TT 37 (.agg #[u, .bool (decide (Isw t))]) 1 = some (.bool (decide (Isw t))) := rfl
  refine AQ_all TT_ok rfl (by simp only [go_sem, hp] <;> rfl) ?_
  exact AC_ret ⟨.inl rfl, _, rfl, by simp only [go_sem]⟩
end Go.Proofs.Ythalogdopkoidaa.Ab

