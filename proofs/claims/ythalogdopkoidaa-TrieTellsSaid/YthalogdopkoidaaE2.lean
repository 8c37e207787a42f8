/- Closed facts of the program that all rows share. No statement of the seat's in it. -/
import Derived.Test.YthalogdopkoidaaE1
set_option maxRecDepth 100000
namespace Go.Proofs.Ythalogdopkoidaa.Ab
open Go Go.RowKit Go.ChangeShapes Go.WideShapes Go.ChangeAt

def ws0 : List Char := ([104, 97, 114, 110, 101, 115, 115] : List Nat).map Char.ofNat
def ws1 : List Char := ([55, 54, 50, 102, 99, 55, 101, 49, 56, 97, 53, 49, 100, 99, 49, 54, 48, 48, 53, 52, 102, 57, 100, 97, 98, 97, 55, 100, 97, 54, 102, 98, 49, 97, 53, 48, 55, 49, 97, 99, 100, 99, 56, 54, 56, 102, 51, 53, 53, 57, 51, 53, 53, 51, 101, 100, 101, 55, 56, 54, 55, 50, 53, 48] : List Nat).map Char.ofNat
def ws2 : List Char := ([99, 117, 116] : List Nat).map Char.ofNat
def ws3 : List Char := ([97, 116, 32, 117, 109, 98, 101, 108, 47, 117, 109, 98, 101, 108, 108, 97, 119, 49, 48, 46, 84, 114, 105, 101, 84, 101, 108, 108, 115, 32, 117, 109, 98, 101, 108, 47, 117, 109, 98, 101, 108, 108, 97, 119, 49, 48, 46, 84, 114, 105, 101, 66, 97, 99, 107, 32, 117, 109, 98, 101, 108, 47, 117, 109, 98, 101, 108, 108, 97, 119, 49, 48, 46, 84, 114, 105, 101, 83, 104, 97, 112, 101, 32, 117, 109, 98, 101, 108, 47, 117, 109, 98, 101, 108, 108, 97, 119, 49, 48, 46, 84, 114, 105, 101, 80, 114, 101, 102, 105, 120, 32, 117, 109, 98, 101, 108, 47, 117, 109, 98, 101, 108, 108, 97, 119, 49, 48, 46, 84, 114, 105, 101, 82, 101, 102, 117, 115, 101, 100, 32, 117, 109, 98, 101, 108, 47, 117, 109, 98, 101, 108, 108, 97, 119, 49, 53, 46, 67, 117, 114, 115, 111, 114, 84, 101, 108, 108, 115, 32, 117, 109, 98, 101, 108, 47, 117, 109, 98, 101, 108, 108, 97, 119, 49, 53, 46, 67, 117, 114, 115, 111, 114, 71, 111, 101, 115, 32, 117, 109, 98, 101, 108, 47, 117, 109, 98, 101, 108, 108, 97, 119, 49, 53, 46, 67, 117, 114, 115, 111, 114, 66, 101, 116, 119, 101, 101, 110, 32, 117, 109, 98, 101, 108, 47, 117, 109, 98, 101, 108, 108, 97, 119, 49, 53, 46, 67, 117, 114, 115, 111, 114, 80, 97, 114, 116, 115, 32, 117, 109, 98, 101, 108, 47, 117, 109, 98, 101, 108, 108, 97, 119, 49, 52, 46, 68, 114, 111, 112, 84, 101, 108, 108, 115, 32, 117, 109, 98, 101, 108, 47, 117, 109, 98, 101, 108, 108, 97, 119, 49, 52, 46, 68, 114, 111, 112, 65, 108, 108, 32, 117, 109, 98, 101, 108, 47, 117, 109, 98, 101, 108, 108, 97, 119, 49, 52, 46, 68, 114, 111, 112, 78, 111, 110, 101, 32, 117, 109, 98, 101, 108, 47, 117, 109, 98, 101, 108, 108, 97, 119, 49, 50, 46, 71, 101, 116, 84, 101, 108, 108, 115, 32, 117, 109, 98, 101, 108, 47, 117, 109, 98, 101, 108, 108, 97, 119, 49, 50, 46, 71, 101, 116, 80, 97, 105, 114, 115, 32, 117, 109, 98, 101, 108, 47, 117, 109, 98, 101, 108, 108, 97, 119, 49, 50, 46, 71, 101, 116, 87, 97, 108, 107, 115, 32, 117, 109, 98, 101, 108, 47, 117, 109, 98, 101, 108, 108, 97, 119, 49, 50, 46, 71, 101, 116, 80, 114, 101, 102, 105, 120, 32, 117, 109, 98, 101, 108, 47, 117, 109, 98, 101, 108, 108, 97, 119, 49, 50, 46, 71, 101, 116, 87, 97, 121, 32, 117, 109, 98, 101, 108, 47, 117, 109, 98, 101, 108, 108, 97, 119, 49, 51, 46, 80, 117, 116, 84, 101, 108, 108, 115, 32, 117, 109, 98, 101, 108, 47, 117, 109, 98, 101, 108, 108, 97, 119, 49, 51, 46, 80, 117, 116, 79, 114, 100, 101, 114, 32, 117, 109, 98, 101, 108, 47, 117, 109, 98, 101, 108, 108, 97, 119, 49, 51, 46, 80, 117, 116, 69, 114, 114, 111, 114, 115, 32, 117, 109, 98, 101, 108, 47, 117, 109, 98, 101, 108, 108, 97, 119, 49, 51, 46, 80, 117, 116, 71, 101, 116, 115, 32, 117, 109, 98, 101, 108, 47, 117, 109, 98, 101, 108, 108, 97, 119, 49, 51, 46, 80, 117, 116, 78, 111, 100, 101, 115, 32, 117, 109, 98, 101, 108, 47, 117, 109, 98, 101, 108, 108, 97, 119, 49, 52, 46, 68, 114, 111, 112, 85, 110, 100, 111, 101, 115] : List Nat).map Char.ofNat
def sp : Char := Char.ofNat 32
theorem order_eq : Try.prog.initOrder = String.ofList (ws0 ++ sp :: (ws1 ++ sp :: (ws2 ++ sp :: ws3))) := by kernel_rfl
theorem ws_cons (c : Char) (r : List Char) (h : c ≠ sp) : wordsSigns (c :: r) = match wordsSigns r with | w :: ws => (c :: w) :: ws | [] => [[c]] := by
  rw [wordsSigns.eq_def]
  split
  · rename_i e; cases e
  · rename_i e; exact absurd (List.cons.inj e).1 h
  · rename_i e; obtain ⟨rfl, rfl⟩ := List.cons.inj e; rfl
theorem ws_word : ∀ (a b : List Char), (a.all fun c => decide (c ≠ sp)) = true → wordsSigns (a ++ sp :: b) = a :: wordsSigns b
  | [], b, _ => rfl
  | c :: a, b, h => by
    rw [List.all_cons, Bool.and_eq_true] at h
    rw [List.cons_append, ws_cons c _ (of_decide_eq_true h.1), ws_word a b h.2]
theorem words_eq : behindMainWord (wordsSigns Try.prog.initOrder.toList) = ws2 :: wordsSigns ws3 := by
  rw [order_eq, String.toList_ofList, ws_word ws0 _ (by kernel_rfl), ws_word ws1 _ (by kernel_rfl), ws_word ws2 _ (by kernel_rfl)]
  show (if ((ws0 == "harness".toList || ws0 == "ownmain".toList) && isSumSigns ws1) = true then ws2 :: wordsSigns ws3 else ws0 :: ws1 :: ws2 :: wordsSigns ws3) = _
  rw [if_pos (by kernel_rfl)]
theorem own : ownKnob Try.prog.godebug = none := by kernel_rfl
theorem laidOut : laidOutB Try.prog = true := by kernel_rfl
theorem headL : Try.prog.headLifts = [] := by
  unfold Program.headLifts
  rw [words_eq]
  kernel_rfl
theorem make_of {P : Program} {rest : List (List Char)} (h : behindMainWord (wordsSigns P.initOrder.toList) = ws2 :: rest) : P.make = some .cut := by
  unfold Program.make
  rw [h]
  have h1 : (ws2 == "gc".toList) = false := by kernel_rfl
  have h2 : (ws2 == "spec".toList) = false := by kernel_rfl
  have h3 : (ws2 == "cut".toList) = true := by kernel_rfl
  simp only [h1, h2, h3, Bool.or_false, Bool.true_or, if_true, Bool.false_eq_true, if_false]
theorem strip_of {rest : List (List Char)} : stripLifts liftWords (ws2 :: rest) = ([], ws2 :: rest) := by
  have h : ∀ (l : List String), (∀ o ∈ l, (ws2 == o.toList) = false) → stripLifts l (ws2 :: rest) = ([], ws2 :: rest) := by
    intro l
    induction l with
    | nil => intro _; rfl
    | cons o l ih =>
      intro hl
      rw [stripLifts, if_neg (by rw [hl o (by simp)]; decide), ih (fun o' ho => hl o' (by simp [ho]))]
  refine h _ (fun o ho => ?_)
  have hk : (liftWords.all fun o => !(ws2 == o.toList)) = true := by kernel_rfl
  have := List.all_eq_true.1 hk o ho
  simpa using this
theorem mayEnter_of {P : Program} {rest : List (List Char)} (h : behindMainWord (wordsSigns P.initOrder.toList) = ws2 :: rest) (hl : P.laysLater = false) (hb : P.bearsReflect = false) (hd : P.doorFits [] = true) : P.mayEnter = true := by
  unfold Program.mayEnter
  rw [h]
  have h3 : (some ws2 == some "cut".toList) = true := by kernel_rfl
  dsimp only
  rw [strip_of]
  dsimp only
  rw [hl, hb, hd]
  simp only [List.head?_cons, h3]
  simp
theorem lifts_of {P : Program} {rest : List (List Char)} (h : behindMainWord (wordsSigns P.initOrder.toList) = ws2 :: rest) (hh : P.headLifts = []) : P.liftsFinal = false := by
  unfold Program.liftsFinal
  rw [h, hh]
  have h3 : (some ws2 == some "carried".toList) = false := by kernel_rfl
  dsimp only
  simp only [List.head?_cons, h3]
  simp
theorem mayEnter : Try.prog.mayEnter = true := mayEnter_of words_eq (by kernel_rfl) (by kernel_rfl) (by kernel_rfl)
theorem lifts : Try.prog.liftsFinal = false := lifts_of words_eq headL
theorem make_ : Try.prog.make = some .cut := make_of words_eq
theorem byte_of {n : Int} (h : (Lit.int .u8 n).wf = true) : ∃ b : UInt8, (.int .u8 n : Value) = U b := by
  simp [Lit.wf, IntKind.min, IntKind.max, IntKind.signed, IntKind.bits] at h
  refine ⟨UInt8.ofNat n.toNat, ?_⟩
  unfold U
  congr 1
  rw [UInt8.toNat_ofNat']
  omega
end Go.Proofs.Ythalogdopkoidaa.Ab
