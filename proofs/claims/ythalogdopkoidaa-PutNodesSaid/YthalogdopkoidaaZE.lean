/- Arguments as they are read; closed facts that all rows share. No statement of the seat's in it. Condition: none. -/
import Derived.Test.YthalogdopkoidaaZB
import Derived.Test.YthalogdopkoidaaRows
import Derived.WalkKit
import Derived.ProofKit
import Derived.OpenShut
import Derived.ShutString
import Derived.ChangeOld
import Derived.Below
set_option linter.unusedVariables false
set_option linter.unusedSimpArgs false
set_option linter.constructorNameAsVariable false
set_option maxRecDepth 100000
namespace Go.Proofs.Ythalogdopkoidaa.Ab
open Go Go.RowKit Go.ChangeShapes Go.WideShapes
/-- A world bears more: one object that is only read. -/
theorem Inv.more {P : Program} {H : AHeap} {β : List Loc} {w : World} (h : Inv P (fun _ => False) (fun _ => False) H β w) (o : AObj) (b d r : Nat) (hr : o.rw = false) (hrH : ∀ (i : Nat) (x : AObj), H[i]? = some (some x) → x.rw = false) (hb : Bears P β w o b d r) :
    Inv P (fun _ => False) (fun _ => False) (H ++ [some o]) (β ++ [(b, d, r)]) w := by
  have hp : β <+: β ++ [(b, d, r)] := List.prefix_append _ _
  have hcase : ∀ (j : Nat) (x : AObj), (H ++ [some o])[j]? = some (some x) → (j < H.length ∧ H[j]? = some (some x)) ∨ (j = H.length ∧ x = o) := fun j x hj => by
    by_cases hlt : j < H.length
    · rw [List.getElem?_append_left hlt] at hj; exact .inl ⟨hlt, hj⟩
    · have hl := (List.getElem?_eq_some_iff.1 hj).1
      simp at hl
      have e : j = H.length := by omega
      subst e
      rw [List.getElem?_append_right (Nat.le_refl _)] at hj
      simp at hj
      exact .inr ⟨rfl, hj.symm⟩
  have hrw : ∀ (j : Nat) (x : AObj), (H ++ [some o])[j]? = some (some x) → x.rw = false := fun j x hj => by
    rcases hcase j x hj with ⟨_, h1⟩ | ⟨_, rfl⟩
    · exact hrH j x h1
    · exact hr
  refine ⟨by simp [h.len], fun j x bj dj rj h1 h2 => ?_, fun i j oi oj bi di ri bj dj rj h1 h2 hne hw => ?_, fun i x bj dj rj hok => hok.elim⟩
  · rcases hcase j x h1 with ⟨hl, h3⟩ | ⟨rfl, rfl⟩
    · rw [List.getElem?_append_left (by rw [h.len]; exact hl)] at h2
      exact (h.obj j x bj dj rj h3 h2).ext hp
    · rw [List.getElem?_append_right (by rw [h.len]; exact Nat.le_refl _)] at h2
      simp [h.len] at h2
      obtain ⟨rfl, rfl, rfl⟩ := h2
      exact hb.ext hp
  · rw [hrw i oi h1] at hw; cases hw
/-- What has been opened: all of it is only read. -/
structure Opn (w : World) (H : AHeap) (β : List Loc) : Prop where
  inv : Inv Try.prog (fun _ => False) (fun _ => False) H β w
  ro : ∀ (i : Nat) (x : AObj), H[i]? = some (some x) → x.rw = false
theorem Opn.nil (w : World) : Opn w [] [] := ⟨⟨rfl, fun i o b d r h => by simp at h, fun i j oi oj bi di ri bj dj rj h => by simp at h, fun i o b d r h => h.elim⟩, fun i x h => by simp at h⟩
/-- A slice whose elements have been read, cell by cell. -/
theorem Opn.slice {α : Type} {f : α → List Value} {s : Nat} (hs : ∀ x, (f x).length = s) (hfl : ∀ x, ∀ v ∈ f x, flatConst v = true ∧ flat v = true) {w : World} {H : AHeap} {β : List Loc} (hO : Opn w H β) (ety : Nat) {b off cap : Nat} {xs : List α}
    (hb : b < w.heap.size) (hl : xs.length ≤ cap) (hcell : ∀ i (hi : i < xs.length) j, j < s → w.cell? ⟨b, off + (i * s + j), none⟩ = (f xs[i])[j]?) :
    ∃ H' β' va, Opn w H' β' ∧ β <+: β' ∧ AExt (fun _ => False) H H' ∧ R β' va (.slice (some ⟨b, off, none⟩) xs.length cap) ∧ Sl H' va ety xs.length (xs.flatMap f) := by
  have hlen : (xs.flatMap f).length = xs.length * s := rows_length hs xs
  have hB : Bears Try.prog β w ⟨ety, xs.flatMap f, false⟩ b off cap := by
    refine ⟨hb, fun v hv => ?_, fun k v hk => ?_, fun h => by cases h⟩
    · obtain ⟨x, _, hx⟩ := List.mem_flatMap.1 hv
      exact (hfl x v hx).2
    · have hk' := (List.getElem?_eq_some_iff.1 hk).1
      have hk2 : k < xs.length * s := by rw [← hlen]; exact hk'
      have hs0 : 0 < s := Nat.pos_of_ne_zero fun h => by subst h; simp at hk2
      have hi : k / s < xs.length := Nat.div_lt_of_lt_mul (by rw [Nat.mul_comm]; exact hk2)
      have hj : k % s < s := Nat.mod_lt _ hs0
      have hkk : k / s * s + k % s = k := Nat.div_add_mod' k s
      have h1 := hcell (k / s) hi (k % s) hj
      have h2 := rows_get hs xs (k / s) (k % s) hi hj
      rw [hkk] at h1 h2
      have hk3 : (xs.flatMap f)[k]? = some v := hk
      rw [h2] at hk3
      rw [hk3] at h1
      refine ⟨v, h1, R.const _ ?_⟩
      exact (hfl _ v (List.mem_of_getElem? hk3)).1
  refine ⟨H ++ [some ⟨ety, xs.flatMap f, false⟩], β ++ [(b, off, cap)], .slice (some ⟨H.length, 0, none⟩) xs.length xs.length, ⟨hO.inv.more _ _ _ _ rfl hO.ro hB, fun i x hx => ?_⟩, List.prefix_append _ _, AExt.push _ _ _, ?_, .inr ⟨H.length, 0, ⟨ety, xs.flatMap f, false⟩, rfl, by simp, rfl, by simp, by simp only [List.drop_zero, List.take_length]⟩⟩
  · by_cases hlt : i < H.length
    · rw [List.getElem?_append_left hlt] at hx; exact hO.ro i x hx
    · have hl := (List.getElem?_eq_some_iff.1 hx).1
      simp at hl
      have e : i = H.length := by omega
      subst e
      rw [List.getElem?_append_right (Nat.le_refl _)] at hx
      simp at hx
      rw [← hx]
  · have : (β ++ [(b, off, cap)])[H.length]? = some (b, off, cap) := by rw [← hO.inv.len]; simp
    exact R.slice (o := 0) this hl (fun _ => rfl)
section
variable {H : Type} {enc : TypeId × Value → H} {w : World} {spare : Nat → Bool} {held : Bool}
/-- A slice that came in. -/
theorem read_slice {α : Type} {f : α → List Value} {s : Nat} {t e : TypeId} {base : Nat} (hu : Try.prog.underlying t = some (.slice e)) (hc : Try.prog.cellsOf e = s) (hs : ∀ x, (f x).length = s) (he : ∀ n cs y, DataW.trod enc Try.prog w 0 spare held n e cs = some y → ∃ x : α, cs = f x)
    {v : Value} {d : DataW H} {p : List MemPlace} (hv : Value.okWide Try.prog w .any base t v) (h : DataW.Trod enc Try.prog w 0 spare held t v d p) :
    v = .slice none 0 0 ∨ ∃ b off cap, ∃ xs : List α, v = .slice (some ⟨b, off, none⟩) xs.length cap ∧ b < w.heap.size ∧ xs.length ≤ cap ∧ cap ≤ maxLen ∧ ∀ i (hi : i < xs.length) j, j < s → w.cell? ⟨b, off + (i * s + j), none⟩ = (f xs[i])[j]? := by
  obtain ⟨fuel, hf⟩ := h
  obtain ⟨a, len, cap, rfl⟩ := okWide_slice hu hv
  have hcs : (Value.slice a len cap).cells.toList = [.slice a len cap] := rfl
  rw [hcs] at hf
  rcases DataW.trod_slice hu hf with ⟨h0, _⟩ | ⟨a', len', cap', elems, rest, n, _, h1, _, _, hl, hm, hlen, hel, hsp1, hns1⟩
  · exact .inl (List.cons.inj h0).1
  · right
    obtain ⟨rfl, rfl, rfl⟩ : a = some a' ∧ len = len' ∧ cap = cap' := by simpa using h1
    have hhas : a'.spot = none ∧ a'.block < w.heap.size := by
      simp only [Value.okWide, hu, Cell.okWide, Cell.ok] at hv
      obtain ⟨_, _, _, hsp, row, cells, hsh, _⟩ := hv
      refine ⟨hsp, ?_⟩
      unfold World.shape? at hsh
      split at hsh
      · rename_i c el z hg
        obtain ⟨h, _⟩ := Array.getElem?_eq_some_iff.1 hg
        exact h
      · cases hsh
    obtain ⟨b, off, spot⟩ := a'
    obtain ⟨rfl, hb⟩ := hhas
    have each : ∀ i, i < len → ∃ x : α, ∀ j, j < s → w.cell? ⟨b, off + (i * s + j), none⟩ = (f x)[j]? := fun i hi => by
      have h1 := hel i hi
      rw [List.getElem?_eq_getElem (by omega)] at h1
      obtain ⟨cs', h2, h3⟩ := Option.bind_eq_some_iff.1 h1
      obtain ⟨x, rfl⟩ := he _ _ _ h3
      refine ⟨x, fun j hj => ?_⟩
      have h4 := (World.cells?_some h2).2.2 j (by rw [hc]; exact hj)
      rw [hc] at h4
      rw [← h4]
      congr 1
      unfold Addr.add
      by_cases e1 : i * s = 0 <;> by_cases e2 : j = 0 <;> simp [e1, e2, Nat.add_assoc]
    have hex : ∃ xs : List α, xs.length = len ∧ ∀ i (hi : i < xs.length) j, j < s → w.cell? ⟨b, off + (i * s + j), none⟩ = (f xs[i])[j]? := by
      clear hl hm hlen hel h1 hf hcs hv hsp1 hns1
      induction len with
      | zero => exact ⟨[], rfl, fun i hi => by simp at hi⟩
      | succ m ih =>
        obtain ⟨xs, h1, h2⟩ := ih (fun i hi => each i (by omega))
        obtain ⟨x, hx⟩ := each m (by omega)
        refine ⟨xs ++ [x], by simp [h1], fun i hi j hj => ?_⟩
        by_cases e : i < xs.length
        · rw [List.getElem_append_left e]; exact h2 i e j hj
        · have : i = m := by simp at hi; omega
          subst this
          have := hx j hj
          rw [this]
          simp [List.getElem_append_right, h1]
    obtain ⟨xs, rfl, hx⟩ := hex
    exact ⟨b, off, cap, xs, rfl, hb, hl, hm, hx⟩
theorem S_of (s : ByteArray) : Value.string s = S s.data.toList := by
  simp only [S, Array.toArray_toList]
theorem read_str {t : TypeId} (hu : Try.prog.underlying t = some .string) {n : Nat} {cs : List Value} {y : DataW H × List MemPlace} (h : DataW.trod enc Try.prog w 0 spare held n t cs = some y) : ∃ x : List UInt8, cs = [S x] := by
  obtain ⟨s, rfl, _, _⟩ := DataW.trod_string hu h
  exact ⟨s.data.toList, by rw [S_of]⟩
theorem read_int {t : TypeId} {k : IntKind} (hu : Try.prog.underlying t = some (.int k)) {n : Nat} {cs : List Value} {y : DataW H × List MemPlace} (h : DataW.trod enc Try.prog w 0 spare held n t cs = some y) : ∃ x : Int, cs = [.int k x] ∧ (Lit.int k x).wf = true := by
  obtain ⟨m, rfl, _, hw⟩ := DataW.trod_int hu h
  exact ⟨m, rfl, hw⟩
theorem read_bool {t : TypeId} (hu : Try.prog.underlying t = some .bool) {n : Nat} {cs : List Value} {y : DataW H × List MemPlace} (h : DataW.trod enc Try.prog w 0 spare held n t cs = some y) : ∃ x : Bool, cs = [.bool x] := by
  obtain ⟨m, rfl, _⟩ := DataW.trod_bool hu h
  exact ⟨m, rfl⟩
theorem pk9 : Try.prog.cellsOf 9 = 1 := by kernel_rfl
theorem pk3 : Try.prog.cellsOf 3 = 1 := by kernel_rfl
theorem pk4 : Try.prog.cellsOf 4 = 1 := by kernel_rfl
theorem pk47 : Try.prog.cellsOf 47 = 16 := by kernel_rfl
theorem pk49 : Try.prog.cellsOf 49 = 20 := by kernel_rfl
theorem pk52 : Try.prog.cellsOf 52 = 2 := by kernel_rfl
theorem read_pr {n : Nat} {cs : List Value} {y : DataW H × List MemPlace} (h : DataW.trod enc Try.prog w 0 spare held n 52 cs = some y) : ∃ x : Pr, cs = x.cells := by
  obtain ⟨xs, m, _, _, hl, hxl, hf⟩ := DataW.trod_struct Try.underlying52 h
  rw [pk52] at hl
  match cs, hl with
  | [a, b], _ =>
    have f0 := hf 0 _ rfl
    have f1 := hf 1 _ rfl
    change DataW.trod enc Try.prog w 0 spare held m 9 (([a, b].drop 0).take (Try.prog.cellsOf 9)) = xs[0]? at f0
    change DataW.trod enc Try.prog w 0 spare held m 9 (([a, b].drop 1).take (Try.prog.cellsOf 9)) = xs[1]? at f1
    rw [pk9] at f0 f1
    have hxl' : xs.length = 2 := hxl
    rw [List.getElem?_eq_getElem (by omega)] at f0 f1
    obtain ⟨k, hk⟩ := read_str Try.underlying9 f0
    obtain ⟨v, hv⟩ := read_str Try.underlying9 f1
    simp at hk hv
    exact ⟨⟨k, v⟩, by rw [hk, hv]; rfl⟩
theorem read_kids {n : Nat} {cs : List Value} {y : DataW H × List MemPlace} (h : DataW.trod enc Try.prog w 0 spare held n 47 cs = some y) : ∃ x : Vector Int 16, cs = x.toList.map (Value.int .i64) := by
  obtain ⟨xs, m, _, _, hl, hxl, hf⟩ := DataW.trod_array Try.underlying47 h
  rw [pk47] at hl
  simp only [pk3, Nat.mul_one] at hf
  have each : ∀ i (hi : i < cs.length), ∃ z : Int, cs[i] = .int .i64 z := fun i hi => by
    have h1 := hf i (by omega)
    rw [List.getElem?_eq_getElem (by omega)] at h1
    obtain ⟨z, hz, _⟩ := read_int Try.underlying3 h1
    rw [List.drop_eq_getElem_cons hi, List.take_succ_cons] at hz
    exact ⟨z, (List.cons.inj hz).1⟩
  have hex : ∃ zs : List Int, cs = zs.map (Value.int .i64) := by
    clear hf hl h hxl
    induction cs with
    | nil => exact ⟨[], rfl⟩
    | cons c cs ih =>
      obtain ⟨zs, hzs⟩ := ih (fun i hi => each (i + 1) (by simpa using hi))
      obtain ⟨z, hz⟩ := each 0 (by simp)
      simp at hz
      exact ⟨z :: zs, by rw [hzs, hz]; rfl⟩
  obtain ⟨zs, rfl⟩ := hex
  have hz16 : zs.length = 16 := by simpa using hl
  exact ⟨⟨zs.toArray, by simpa using hz16⟩, by simp [Vector.toList]⟩
theorem read_nd {n : Nat} {cs : List Value} {y : DataW H × List MemPlace} (h : DataW.trod enc Try.prog w 0 spare held n 49 cs = some y) : ∃ x : Nd, cs = x.cells := by
  obtain ⟨xs, m, _, _, hl, hxl, hf⟩ := DataW.trod_struct Try.underlying49 h
  rw [pk49] at hl
  have f0 := hf 0 _ rfl
  have f1 := hf 1 _ rfl
  have f2 := hf 2 _ rfl
  have f3 := hf 3 _ rfl
  have f4 := hf 4 _ rfl
  have hxl' : xs.length = 5 := hxl
  change DataW.trod enc Try.prog w 0 spare held m 3 ((cs.drop 0).take (Try.prog.cellsOf 3)) = xs[0]? at f0
  rw [pk3] at f0
  change DataW.trod enc Try.prog w 0 spare held m 9 ((cs.drop 1).take (Try.prog.cellsOf 9)) = xs[1]? at f1
  rw [pk9] at f1
  change DataW.trod enc Try.prog w 0 spare held m 4 ((cs.drop 2).take (Try.prog.cellsOf 4)) = xs[2]? at f2
  rw [pk4] at f2
  change DataW.trod enc Try.prog w 0 spare held m 9 ((cs.drop 3).take (Try.prog.cellsOf 9)) = xs[3]? at f3
  rw [pk9] at f3
  change DataW.trod enc Try.prog w 0 spare held m 47 ((cs.drop 4).take (Try.prog.cellsOf 47)) = xs[4]? at f4
  rw [pk47] at f4
  rw [List.getElem?_eq_getElem (by omega)] at f0 f1 f2 f3 f4
  obtain ⟨a, ha, _⟩ := read_int Try.underlying3 f0
  obtain ⟨b, hb⟩ := read_str Try.underlying9 f1
  obtain ⟨c, hc⟩ := read_bool Try.underlying4 f2
  obtain ⟨d, hd⟩ := read_str Try.underlying9 f3
  obtain ⟨e, he⟩ := read_kids f4
  match cs, hl with
  | c0 :: c1 :: c2 :: c3 :: r, hl =>
    simp at ha hb hc hd he
    have hr : r.take 16 = r := List.take_of_length_le (by simp at hl; omega)
    rw [hr] at he
    exact ⟨⟨a, b, c, d, e⟩, by rw [ha, hb, hc, hd, he]; simp [Nd.cells]⟩
end
theorem flat_pr (x : Pr) : ∀ v ∈ x.cells, flatConst v = true ∧ flat v = true := fun v hv => by
  simp [Pr.cells] at hv
  rcases hv with rfl | rfl <;> exact ⟨rfl, rfl⟩
theorem flat_nd (x : Nd) : ∀ v ∈ x.cells, flatConst v = true ∧ flat v = true := fun v hv => by
  simp only [Nd.cells, List.mem_cons, List.mem_map] at hv
  rcases hv with rfl | rfl | rfl | rfl | ⟨a, _, rfl⟩ <;> exact ⟨rfl, rfl⟩
section
variable {Hh : Type} {enc : TypeId × Value → Hh} {w : World} {spare : Nat → Bool} {held : Bool} {base : Nat} {H : AHeap} {β : List Loc}
theorem Opn.pairs (hO : Opn w H β) {v : Value} {d : DataW Hh} {p : List MemPlace} (hv : Value.okWide Try.prog w .any base 22 v) (h : DataW.Trod enc Try.prog w 0 spare held 22 v d p) :
    ∃ H' β' va, ∃ l : List Pr, Opn w H' β' ∧ β <+: β' ∧ AExt (fun _ => False) H H' ∧ R β' va v ∧ PrS H' va l := by
  rcases read_slice (α := Pr) (f := Pr.cells) Try.underlying22 pk52 Pr.len (fun n cs y => read_pr) hv h with rfl | ⟨b, off, cap, xs, rfl, hb, hl, _, hc⟩
  · exact ⟨H, β, .slice none 0 0, [], hO, List.prefix_rfl, AExt.refl _ _, .nils, .inl ⟨rfl, rfl, rfl⟩⟩
  · obtain ⟨H', β', va, h1, h2, h3, h4, h5⟩ := hO.slice Pr.len flat_pr 52 hb hl hc
    exact ⟨H', β', va, xs, h1, h2, h3, h4, h5⟩
theorem Opn.nodes (hO : Opn w H β) {v : Value} {d : DataW Hh} {p : List MemPlace} (hv : Value.okWide Try.prog w .any base 24 v) (h : DataW.Trod enc Try.prog w 0 spare held 24 v d p) :
    ∃ H' β' va, ∃ l : List Nd, Opn w H' β' ∧ β <+: β' ∧ AExt (fun _ => False) H H' ∧ R β' va v ∧ NdS H' va l := by
  rcases read_slice (α := Nd) (f := Nd.cells) Try.underlying24 pk49 Nd.len (fun n cs y => read_nd) hv h with rfl | ⟨b, off, cap, xs, rfl, hb, hl, _, hc⟩
  · exact ⟨H, β, .slice none 0 0, [], hO, List.prefix_rfl, AExt.refl _ _, .nils, .inl ⟨rfl, rfl, rfl⟩⟩
  · obtain ⟨H', β', va, h1, h2, h3, h4, h5⟩ := hO.slice Nd.len flat_nd 49 hb hl hc
    exact ⟨H', β', va, xs, h1, h2, h3, h4, h5⟩
end
/-- A call that tells true. -/
theorem law_calls {f : Nat} {avs args : List Value} {H : AHeap} {β : List Loc} {w : World} (hO : Opn w H β) (h : ACalls Try.prog f avs H (fun _ => False) fun v H' => v = .bool true) (hR : RL β avs args) :
    Calls Try.prog f args.toArray w fun e w' => e = .returned (.bool true) ∧ Below w.heap.size w w' :=
  (h w β args hR hO.inv).mono fun en w' ⟨v, v', H', β', h3, h4, h5, h6, h7, h8, h9⟩ => by
    subst h4
    cases h6
    exact ⟨h3, (h8.mono fun b _ ⟨i, o, d, q, hm, _⟩ => hm).to_below⟩
end Go.Proofs.Ythalogdopkoidaa.Ab
set_option maxRecDepth 100000
namespace Go.Proofs.Ythalogdopkoidaa.Ab
open Go Go.RowKit Go.ChangeShapes Go.WideShapes Go.ChangeAt
def ws0 : List Char := ([104, 97, 114, 110, 101, 115, 115] : List Nat).map Char.ofNat
def ws1 : List Char := ([55, 54, 50, 102, 99, 55, 101, 49, 56, 97, 53, 49, 100, 99, 49, 54, 48, 48, 53, 52, 102, 57, 100, 97, 98, 97, 55, 100, 97, 54, 102, 98, 49, 97, 53, 48, 55, 49, 97, 99, 100, 99, 56, 54, 56, 102, 51, 53, 53, 57, 51, 53, 53, 51, 101, 100, 101, 55, 56, 54, 55, 50, 53, 48] : List Nat).map Char.ofNat
def ws2 : List Char := ([99, 117, 116] : List Nat).map Char.ofNat
def ws3 : List Char := ([97, 116, 32, 117, 109, 98, 101, 108, 47, 117, 109, 98, 101, 108, 108, 97, 119, 49, 48, 46, 84, 114, 105, 101, 84, 101, 108, 108, 115, 32, 117, 109, 98, 101, 108, 47, 117, 109, 98, 101, 108, 108, 97, 119, 49, 48, 46, 84, 114, 105, 101, 66, 97, 99, 107, 32, 117, 109, 98, 101, 108, 47, 117, 109, 98, 101, 108, 108, 97, 119, 49, 48, 46, 84, 114, 105, 101, 83, 104, 97, 112, 101, 32, 117, 109, 98, 101, 108, 47, 117, 109, 98, 101, 108, 108, 97, 119, 49, 48, 46, 84, 114, 105, 101, 80, 114, 101, 102, 105, 120, 32, 117, 109, 98, 101, 108, 47, 117, 109, 98, 101, 108, 108, 97, 119, 49, 48, 46, 84, 114, 105, 101, 82, 101, 102, 117, 115, 101, 100, 32, 117, 109, 98, 101, 108, 47, 117, 109, 98, 101, 108, 108, 97, 119, 49, 53, 46, 67, 117, 114, 115, 111, 114, 84, 101, 108, 108, 115, 32, 117, 109, 98, 101, 108, 47, 117, 109, 98, 101, 108, 108, 97, 119, 49, 53, 46, 67, 117, 114, 115, 111, 114, 71, 111, 101, 115, 32, 117, 109, 98, 101, 108, 47, 117, 109, 98, 101, 108, 108, 97, 119, 49, 53, 46, 67, 117, 114, 115, 111, 114, 66, 101, 116, 119, 101, 101, 110, 32, 117, 109, 98, 101, 108, 47, 117, 109, 98, 101, 108, 108, 97, 119, 49, 53, 46, 67, 117, 114, 115, 111, 114, 80, 97, 114, 116, 115, 32, 117, 109, 98, 101, 108, 47, 117, 109, 98, 101, 108, 108, 97, 119, 49, 52, 46, 68, 114, 111, 112, 84, 101, 108, 108, 115, 32, 117, 109, 98, 101, 108, 47, 117, 109, 98, 101, 108, 108, 97, 119, 49, 52, 46, 68, 114, 111, 112, 65, 108, 108, 32, 117, 109, 98, 101, 108, 47, 117, 109, 98, 101, 108, 108, 97, 119, 49, 52, 46, 68, 114, 111, 112, 78, 111, 110, 101, 32, 117, 109, 98, 101, 108, 47, 117, 109, 98, 101, 108, 108, 97, 119, 49, 50, 46, 71, 101, 116, 84, 101, 108, 108, 115, 32, 117, 109, 98, 101, 108, 47, 117, 109, 98, 101, 108, 108, 97, 119, 49, 50, 46, 71, 101, 116, 80, 97, 105, 114, 115, 32, 117, 109, 98, 101, 108, 47, 117, 109, 98, 101, 108, 108, 97, 119, 49, 50, 46, 71, 101, 116, 87, 97, 108, 107, 115, 32, 117, 109, 98, 101, 108, 47, 117, 109, 98, 101, 108, 108, 97, 119, 49, 50, 46, 71, 101, 116, 80, 114, 101, 102, 105, 120, 32, 117, 109, 98, 101, 108, 47, 117, 109, 98, 101, 108, 108, 97, 119, 49, 50, 46, 71, 101, 116, 87, 97, 121, 32, 117, 109, 98, 101, 108, 47, 117, 109, 98, 101, 108, 108, 97, 119, 49, 51, 46, 80, 117, 116, 84, 101, 108, 108, 115, 32, 117, 109, 98, 101, 108, 47, 117, 109, 98, 101, 108, 108, 97, 119, 49, 51, 46, 80, 117, 116, 79, 114, 100, 101, 114, 32, 117, 109, 98, 101, 108, 47, 117, 109, 98, 101, 108, 108, 97, 119, 49, 51, 46, 80, 117, 116, 69, 114, 114, 111, 114, 115, 32, 117, 109, 98, 101, 108, 47, 117, 109, 98, 101, 108, 108, 97, 119, 49, 51, 46, 80, 117, 116, 71, 101, 116, 115, 32, 117, 109, 98, 101, 108, 47, 117, 109, 98, 101, 108, 108, 97, 119, 49, 51, 46, 80, 117, 116, 78, 111, 100, 101, 115, 32, 117, 109, 98, 101, 108, 47, 117, 109, 98, 101, 108, 108, 97, 119, 49, 52, 46, 68, 114, 111, 112, 85, 110, 100, 111, 101, 115] : List Nat).map Char.ofNat
def sp : Char := Char.ofNat 32
theorem order_eq : Try.prog.initOrder = String.ofList (ws0 ++ sp :: (ws1 ++ sp :: (ws2 ++ sp :: ws3))) := by kernel_rfl
theorem ws_cons (c : Char) (r : List Char) (h : c ≠ sp) : wordsSigns (c :: r) = match wordsSigns r with | w :: ws => (c :: w) :: ws | [] => [[c]] := by
  rw [wordsSigns.eq_def]
  split
  · rename_i e; cases e
  · rename_i e; exact absurd (List.cons.inj e).1 h
  · rename_i e; obtain ⟨rfl, rfl⟩ := List.cons.inj e; rfl
theorem ws_word : ∀ (a b : List Char), (a.all fun c => decide (c ≠ sp)) = true → wordsSigns (a ++ sp :: b) = a :: wordsSigns b
  | [], b, _ => rfl
  | c :: a, b, h => by
    rw [List.all_cons, Bool.and_eq_true] at h
    rw [List.cons_append, ws_cons c _ (of_decide_eq_true h.1), ws_word a b h.2]
theorem words_eq : behindMainWord (wordsSigns Try.prog.initOrder.toList) = ws2 :: wordsSigns ws3 := by
  rw [order_eq, String.toList_ofList, ws_word ws0 _ (by kernel_rfl), ws_word ws1 _ (by kernel_rfl), ws_word ws2 _ (by kernel_rfl)]
  show (if ((ws0 == "harness".toList || ws0 == "ownmain".toList) && isSumSigns ws1) = true then ws2 :: wordsSigns ws3 else ws0 :: ws1 :: ws2 :: wordsSigns ws3) = _
  rw [if_pos (by kernel_rfl)]
theorem own : ownKnob Try.prog.godebug = none := by kernel_rfl
theorem laidOut : laidOutB Try.prog = true := by kernel_rfl
theorem headL : Try.prog.headLifts = [] := by
  unfold Program.headLifts
  rw [words_eq]
  kernel_rfl
theorem make_of {P : Program} {rest : List (List Char)} (h : behindMainWord (wordsSigns P.initOrder.toList) = ws2 :: rest) : P.make = some .cut := by
  unfold Program.make
  rw [h]
  have h1 : (ws2 == "gc".toList) = false := by kernel_rfl
  have h2 : (ws2 == "spec".toList) = false := by kernel_rfl
  have h3 : (ws2 == "cut".toList) = true := by kernel_rfl
  simp only [h1, h2, h3, Bool.or_false, Bool.true_or, if_true, Bool.false_eq_true, if_false]
theorem strip_of {rest : List (List Char)} : stripLifts liftWords (ws2 :: rest) = ([], ws2 :: rest) := by
  have h : ∀ (l : List String), (∀ o ∈ l, (ws2 == o.toList) = false) → stripLifts l (ws2 :: rest) = ([], ws2 :: rest) := by
    intro l
    induction l with
    | nil => intro _; rfl
    | cons o l ih =>
      intro hl
      rw [stripLifts, if_neg (by rw [hl o (by simp)]; decide), ih (fun o' ho => hl o' (by simp [ho]))]
  refine h _ (fun o ho => ?_)
  have hk : (liftWords.all fun o => !(ws2 == o.toList)) = true := by kernel_rfl
  have := List.all_eq_true.1 hk o ho
  simpa using this
theorem mayEnter_of {P : Program} {rest : List (List Char)} (h : behindMainWord (wordsSigns P.initOrder.toList) = ws2 :: rest) (hl : P.laysLater = false) (hb : P.bearsReflect = false) (hd : P.doorFits [] = true) : P.mayEnter = true := by
  unfold Program.mayEnter
  rw [h]
  have h3 : (some ws2 == some "cut".toList) = true := by kernel_rfl
  dsimp only
  rw [strip_of]
  dsimp only
  rw [hl, hb, hd]
  simp only [List.head?_cons, h3]
  simp
theorem lifts_of {P : Program} {rest : List (List Char)} (h : behindMainWord (wordsSigns P.initOrder.toList) = ws2 :: rest) (hh : P.headLifts = []) : P.liftsFinal = false := by
  unfold Program.liftsFinal
  rw [h, hh]
  have h3 : (some ws2 == some "carried".toList) = false := by kernel_rfl
  dsimp only
  simp only [List.head?_cons, h3]
  simp
theorem mayEnter : Try.prog.mayEnter = true := mayEnter_of words_eq (by kernel_rfl) (by kernel_rfl) (by kernel_rfl)
theorem lifts : Try.prog.liftsFinal = false := lifts_of words_eq headL
theorem make_ : Try.prog.make = some .cut := make_of words_eq
theorem byte_of {n : Int} (h : (Lit.int .u8 n).wf = true) : ∃ b : UInt8, (.int .u8 n : Value) = U b := by
  simp [Lit.wf, IntKind.min, IntKind.max, IntKind.signed, IntKind.bits] at h
  refine ⟨UInt8.ofNat n.toNat, ?_⟩
  unfold U
  congr 1
  rw [UInt8.toNat_ofNat']
  omega
end Go.Proofs.Ythalogdopkoidaa.Ab
set_option linter.unusedVariables false
set_option linter.constructorNameAsVariable false
set_option maxRecDepth 100000
namespace Go.Proofs.Ythalogdopkoidaa.Ab
open Go Go.RowKit Go.ChangeShapes Go.WideShapes
theorem pk5 : Try.prog.cellsOf 5 = 1 := by kernel_rfl
section
variable {Hh : Type} {enc : TypeId × Value → Hh} {w : World} {spare : Nat → Bool} {held : Bool} {base : Nat} {β : List Loc}
theorem R.flats {β : List Loc} {l : List Value} (h : ∀ v ∈ l, flatConst v = true) : R β (.agg l.toArray) (.agg l.toArray) :=
  .agg rfl fun j v v' h1 h2 => by
    rw [h1] at h2
    obtain rfl := Option.some.inj h2
    exact R.const β (h v (by simpa using List.mem_of_getElem? (by simpa using h1)))
theorem R.two (a b : UInt8) : R β (.agg #[U a, U b]) (.agg #[U a, U b]) := R.flats (l := [U a, U b]) (fun v hv => by
  simp at hv
  rcases hv with rfl | rfl <;> rfl)
theorem read_pair {v : Value} {d : DataW Hh} {p : List MemPlace} (hv : Value.okWide Try.prog w .any base 52 v) (h : DataW.Trod enc Try.prog w 0 spare held 52 v d p) : ∃ x : Pr, v = x.val := by
  obtain ⟨fuel, hf⟩ := h
  obtain ⟨cs, rfl, _⟩ := okWide_struct Try.underlying52 hv
  obtain ⟨x, hx⟩ := read_pr hf
  refine ⟨x, ?_⟩
  obtain ⟨l⟩ := cs
  have hx' : l = x.cells := hx
  rw [hx']
  rfl
theorem R.pair (x : Pr) : R β x.val x.val := R.flats (fun v hv => (flat_pr x v hv).1)
theorem read_byte {n : Nat} {cs : List Value} {y : DataW Hh × List MemPlace} (h : DataW.trod enc Try.prog w 0 spare held n 5 cs = some y) : ∃ x : UInt8, cs = bCell x := by
  obtain ⟨a, rfl, wa⟩ := read_int Try.underlying5 h
  obtain ⟨a', ea⟩ := byte_of wa
  exact ⟨a', by rw [ea]; rfl⟩
theorem Opn.bytes {H : AHeap} (hO : Opn w H β) {v : Value} {d : DataW Hh} {p : List MemPlace} (hv : Value.okWide Try.prog w .any base 50 v) (h : DataW.Trod enc Try.prog w 0 spare held 50 v d p) :
    ∃ H' β' va, ∃ l : List UInt8, Opn w H' β' ∧ β <+: β' ∧ AExt (fun _ => False) H H' ∧ R β' va v ∧ ByS H' va l := by
  rcases read_slice (α := UInt8) (f := bCell) Try.underlying50 pk5 bCell_len (fun n cs y => read_byte) hv h with rfl | ⟨b, off, cap, xs, rfl, hb, hl, _, hc⟩
  · exact ⟨H, β, .slice none 0 0, [], hO, List.prefix_rfl, AExt.refl _ _, .nils, .inl ⟨rfl, rfl, rfl⟩⟩
  · obtain ⟨H', β', va, h1, h2, h3, h4, h5⟩ := hO.slice bCell_len (fun x v hv => by simp [bCell] at hv; subst hv; exact ⟨rfl, rfl⟩) 5 hb hl hc
    exact ⟨H', β', va, xs, h1, h2, h3, h4, h5⟩
end
end Go.Proofs.Ythalogdopkoidaa.Ab
