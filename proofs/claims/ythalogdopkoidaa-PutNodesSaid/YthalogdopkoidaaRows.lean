/-
  No cell of these rows narrows 'for every input' (looked for: loops, veiled, ifaces, maps, wideKeys, modest, calm, conditions, laid).
  DERIVED. THE GIVEN ROWS OF THIS SEAT. 23 by the template 'for every input the law returns true; each argument reads behind the call as it read before'; 0 by the template 'total and deterministic' (their statements: YthalogdopkoidaaTotals.lean).
  GIVEN WITH THE SEED: the statements are not yours to turn. If you find one false, say at which input.
  Laid BY PROGRAM, IN A SANDBOX (cutbox-rows.mjs): the forced cells as the released guide's own fill.sh prints them over the translation b48c72904a98397f… (all of the seat's roots in one cut). By AI agents, Wed Nov 11 2026. No macro, syntax, notation, axiom, sorry.
-/
import Derived.Test.YthalogdopkoidaaChecked
import GoSem.Claim
import GoSem.ClaimJoined
import GoSem.ClaimMapViews
import Derived.JoinedTies
import Derived.KernelRfl
namespace Go.Proofs.Ythalogdopkoidaa
/- THE CELL 'sum', in the pinned program and in every row, IS THE sha256 OF THE DUMP (.gsa) THAT YthalogdopkoidaaProg.lean LOADS. Nothing in Lean hashes anything: it is a label: what it is worth is what the hold of that sum in a sandbox is worth. -/
noncomputable def Try.pinned : Pinned := { name := "ythalogdopkoidaa", sum := "b48c72904a98397fe1c4bc40662963e52805e8483c40e768aa024fce91481805", checked := Try.checked }
namespace Rows
def none {H : Type} : Left H := { results := [], args := [] }

/-- 'umbellaw10.TrieTells': WHATEVER THE INPUT: true; the input reads as it did. -/
def trieTellsSpec : ChangeSpec := { name := "trieTells", fn := fun _ => fun
  | [d1, d2, d3] => { results := [.lit (.bool true)], args := [d1, d2, d3] }
  | _ => none }
def trieTellsRow : OpenClaim := { program := "ythalogdopkoidaa", sum := "b48c72904a98397fe1c4bc40662963e52805e8483c40e768aa024fce91481805", func := "umbel/umbellaw10.TrieTells", spec := "trieTells", recurses := true, apart := false }
def TrieTellsSaid : Prop := trieTellsRow.holds Try.pinned (OpenSpec.ofChange trieTellsSpec)

/-- ITS FALSE NEIGHBOUR: 'it returns false'. Refute it at one input. -/
def trieTellsWrong : ChangeSpec := { name := "trieTells", fn := fun _ => fun
  | [d1, d2, d3] => { results := [.lit (.bool false)], args := [d1, d2, d3] }
  | _ => none }
def TrieTellsWrongFalsely : Prop := trieTellsRow.holds Try.pinned (OpenSpec.ofChange trieTellsWrong)

/-- 'umbellaw10.TrieBack': WHATEVER THE INPUT: true; the input reads as it did. -/
def trieBackSpec : ChangeSpec := { name := "trieBack", fn := fun _ => fun
  | [d1, d2] => { results := [.lit (.bool true)], args := [d1, d2] }
  | _ => none }
def trieBackRow : OpenClaim := { program := "ythalogdopkoidaa", sum := "b48c72904a98397fe1c4bc40662963e52805e8483c40e768aa024fce91481805", func := "umbel/umbellaw10.TrieBack", spec := "trieBack", recurses := true, apart := false }
def TrieBackSaid : Prop := trieBackRow.holds Try.pinned (OpenSpec.ofChange trieBackSpec)

/-- ITS FALSE NEIGHBOUR: 'it returns false'. Refute it at one input. -/
def trieBackWrong : ChangeSpec := { name := "trieBack", fn := fun _ => fun
  | [d1, d2] => { results := [.lit (.bool false)], args := [d1, d2] }
  | _ => none }
def TrieBackWrongFalsely : Prop := trieBackRow.holds Try.pinned (OpenSpec.ofChange trieBackWrong)

/-- 'umbellaw10.TrieShape': WHATEVER THE INPUT: true; the input reads as it did. -/
def trieShapeSpec : ChangeSpec := { name := "trieShape", fn := fun _ => fun
  | [d] => { results := [.lit (.bool true)], args := [d] }
  | _ => none }
def trieShapeRow : OpenClaim := { program := "ythalogdopkoidaa", sum := "b48c72904a98397fe1c4bc40662963e52805e8483c40e768aa024fce91481805", func := "umbel/umbellaw10.TrieShape", spec := "trieShape", recurses := true, apart := false }
def TrieShapeSaid : Prop := trieShapeRow.holds Try.pinned (OpenSpec.ofChange trieShapeSpec)

/-- ITS FALSE NEIGHBOUR: 'it returns false'. Refute it at one input. -/
def trieShapeWrong : ChangeSpec := { name := "trieShape", fn := fun _ => fun
  | [d] => { results := [.lit (.bool false)], args := [d] }
  | _ => none }
def TrieShapeWrongFalsely : Prop := trieShapeRow.holds Try.pinned (OpenSpec.ofChange trieShapeWrong)

/-- 'umbellaw10.TriePrefix': WHATEVER THE INPUT: true; the input reads as it did. -/
def triePrefixSpec : ChangeSpec := { name := "triePrefix", fn := fun _ => fun
  | [d1, d2] => { results := [.lit (.bool true)], args := [d1, d2] }
  | _ => none }
def triePrefixRow : OpenClaim := { program := "ythalogdopkoidaa", sum := "b48c72904a98397fe1c4bc40662963e52805e8483c40e768aa024fce91481805", func := "umbel/umbellaw10.TriePrefix", spec := "triePrefix", recurses := true, apart := false }
def TriePrefixSaid : Prop := triePrefixRow.holds Try.pinned (OpenSpec.ofChange triePrefixSpec)

/-- ITS FALSE NEIGHBOUR: 'it returns false'. Refute it at one input. -/
def triePrefixWrong : ChangeSpec := { name := "triePrefix", fn := fun _ => fun
  | [d1, d2] => { results := [.lit (.bool false)], args := [d1, d2] }
  | _ => none }
def TriePrefixWrongFalsely : Prop := triePrefixRow.holds Try.pinned (OpenSpec.ofChange triePrefixWrong)

/-- 'umbellaw10.TrieRefused': WHATEVER THE INPUT: true; the input reads as it did. -/
def trieRefusedSpec : ChangeSpec := { name := "trieRefused", fn := fun _ => fun
  | [d1, d2] => { results := [.lit (.bool true)], args := [d1, d2] }
  | _ => none }
def trieRefusedRow : OpenClaim := { program := "ythalogdopkoidaa", sum := "b48c72904a98397fe1c4bc40662963e52805e8483c40e768aa024fce91481805", func := "umbel/umbellaw10.TrieRefused", spec := "trieRefused", recurses := true, apart := false }
def TrieRefusedSaid : Prop := trieRefusedRow.holds Try.pinned (OpenSpec.ofChange trieRefusedSpec)

/-- ITS FALSE NEIGHBOUR: 'it returns false'. Refute it at one input. -/
def trieRefusedWrong : ChangeSpec := { name := "trieRefused", fn := fun _ => fun
  | [d1, d2] => { results := [.lit (.bool false)], args := [d1, d2] }
  | _ => none }
def TrieRefusedWrongFalsely : Prop := trieRefusedRow.holds Try.pinned (OpenSpec.ofChange trieRefusedWrong)

/-- 'umbellaw15.CursorTells': WHATEVER THE INPUT: true; the input reads as it did. -/
def cursorTellsSpec : ChangeSpec := { name := "cursorTells", fn := fun _ => fun
  | [d1, d2, d3] => { results := [.lit (.bool true)], args := [d1, d2, d3] }
  | _ => none }
def cursorTellsRow : OpenClaim := { program := "ythalogdopkoidaa", sum := "b48c72904a98397fe1c4bc40662963e52805e8483c40e768aa024fce91481805", func := "umbel/umbellaw15.CursorTells", spec := "cursorTells", unfollowed := true, recurses := true, apart := false }
def CursorTellsSaid : Prop := cursorTellsRow.holds Try.pinned (OpenSpec.ofChange cursorTellsSpec)

/-- ITS FALSE NEIGHBOUR: 'it returns false'. Refute it at one input. -/
def cursorTellsWrong : ChangeSpec := { name := "cursorTells", fn := fun _ => fun
  | [d1, d2, d3] => { results := [.lit (.bool false)], args := [d1, d2, d3] }
  | _ => none }
def CursorTellsWrongFalsely : Prop := cursorTellsRow.holds Try.pinned (OpenSpec.ofChange cursorTellsWrong)

/-- 'umbellaw15.CursorGoes': WHATEVER THE INPUT: true; the input reads as it did. -/
def cursorGoesSpec : ChangeSpec := { name := "cursorGoes", fn := fun _ => fun
  | [d1, d2] => { results := [.lit (.bool true)], args := [d1, d2] }
  | _ => none }
def cursorGoesRow : OpenClaim := { program := "ythalogdopkoidaa", sum := "b48c72904a98397fe1c4bc40662963e52805e8483c40e768aa024fce91481805", func := "umbel/umbellaw15.CursorGoes", spec := "cursorGoes", unfollowed := true, recurses := true, apart := false }
def CursorGoesSaid : Prop := cursorGoesRow.holds Try.pinned (OpenSpec.ofChange cursorGoesSpec)

/-- ITS FALSE NEIGHBOUR: 'it returns false'. Refute it at one input. -/
def cursorGoesWrong : ChangeSpec := { name := "cursorGoes", fn := fun _ => fun
  | [d1, d2] => { results := [.lit (.bool false)], args := [d1, d2] }
  | _ => none }
def CursorGoesWrongFalsely : Prop := cursorGoesRow.holds Try.pinned (OpenSpec.ofChange cursorGoesWrong)

/-- 'umbellaw15.CursorBetween': WHATEVER THE INPUT: true; the input reads as it did. -/
def cursorBetweenSpec : ChangeSpec := { name := "cursorBetween", fn := fun _ => fun
  | [d1, d2] => { results := [.lit (.bool true)], args := [d1, d2] }
  | _ => none }
def cursorBetweenRow : OpenClaim := { program := "ythalogdopkoidaa", sum := "b48c72904a98397fe1c4bc40662963e52805e8483c40e768aa024fce91481805", func := "umbel/umbellaw15.CursorBetween", spec := "cursorBetween", unfollowed := true, recurses := true, apart := false }
def CursorBetweenSaid : Prop := cursorBetweenRow.holds Try.pinned (OpenSpec.ofChange cursorBetweenSpec)

/-- ITS FALSE NEIGHBOUR: 'it returns false'. Refute it at one input. -/
def cursorBetweenWrong : ChangeSpec := { name := "cursorBetween", fn := fun _ => fun
  | [d1, d2] => { results := [.lit (.bool false)], args := [d1, d2] }
  | _ => none }
def CursorBetweenWrongFalsely : Prop := cursorBetweenRow.holds Try.pinned (OpenSpec.ofChange cursorBetweenWrong)

/-- 'umbellaw15.CursorParts': WHATEVER THE INPUT: true; the input reads as it did. -/
def cursorPartsSpec : ChangeSpec := { name := "cursorParts", fn := fun _ => fun
  | [d1, d2, d3] => { results := [.lit (.bool true)], args := [d1, d2, d3] }
  | _ => none }
def cursorPartsRow : OpenClaim := { program := "ythalogdopkoidaa", sum := "b48c72904a98397fe1c4bc40662963e52805e8483c40e768aa024fce91481805", func := "umbel/umbellaw15.CursorParts", spec := "cursorParts", unfollowed := true, recurses := true, apart := false }
def CursorPartsSaid : Prop := cursorPartsRow.holds Try.pinned (OpenSpec.ofChange cursorPartsSpec)

/-- ITS FALSE NEIGHBOUR: 'it returns false'. Refute it at one input. -/
def cursorPartsWrong : ChangeSpec := { name := "cursorParts", fn := fun _ => fun
  | [d1, d2, d3] => { results := [.lit (.bool false)], args := [d1, d2, d3] }
  | _ => none }
def CursorPartsWrongFalsely : Prop := cursorPartsRow.holds Try.pinned (OpenSpec.ofChange cursorPartsWrong)

/-- 'umbellaw14.DropTells': WHATEVER THE INPUT: true; the input reads as it did. -/
def dropTellsSpec : ChangeSpec := { name := "dropTells", fn := fun _ => fun
  | [d1, d2] => { results := [.lit (.bool true)], args := [d1, d2] }
  | _ => none }
def dropTellsRow : OpenClaim := { program := "ythalogdopkoidaa", sum := "b48c72904a98397fe1c4bc40662963e52805e8483c40e768aa024fce91481805", func := "umbel/umbellaw14.DropTells", spec := "dropTells", unfollowed := true, recurses := true, apart := false }
def DropTellsSaid : Prop := dropTellsRow.holds Try.pinned (OpenSpec.ofChange dropTellsSpec)

/-- ITS FALSE NEIGHBOUR: 'it returns false'. Refute it at one input. -/
def dropTellsWrong : ChangeSpec := { name := "dropTells", fn := fun _ => fun
  | [d1, d2] => { results := [.lit (.bool false)], args := [d1, d2] }
  | _ => none }
def DropTellsWrongFalsely : Prop := dropTellsRow.holds Try.pinned (OpenSpec.ofChange dropTellsWrong)

/-- 'umbellaw14.DropAll': WHATEVER THE INPUT: true; the input reads as it did. -/
def dropAllSpec : ChangeSpec := { name := "dropAll", fn := fun _ => fun
  | [d1, d2] => { results := [.lit (.bool true)], args := [d1, d2] }
  | _ => none }
def dropAllRow : OpenClaim := { program := "ythalogdopkoidaa", sum := "b48c72904a98397fe1c4bc40662963e52805e8483c40e768aa024fce91481805", func := "umbel/umbellaw14.DropAll", spec := "dropAll", unfollowed := true, recurses := true, apart := false }
def DropAllSaid : Prop := dropAllRow.holds Try.pinned (OpenSpec.ofChange dropAllSpec)

/-- ITS FALSE NEIGHBOUR: 'it returns false'. Refute it at one input. -/
def dropAllWrong : ChangeSpec := { name := "dropAll", fn := fun _ => fun
  | [d1, d2] => { results := [.lit (.bool false)], args := [d1, d2] }
  | _ => none }
def DropAllWrongFalsely : Prop := dropAllRow.holds Try.pinned (OpenSpec.ofChange dropAllWrong)

/-- 'umbellaw14.DropNone': WHATEVER THE INPUT: true; the input reads as it did. -/
def dropNoneSpec : ChangeSpec := { name := "dropNone", fn := fun _ => fun
  | [d1, d2] => { results := [.lit (.bool true)], args := [d1, d2] }
  | _ => none }
def dropNoneRow : OpenClaim := { program := "ythalogdopkoidaa", sum := "b48c72904a98397fe1c4bc40662963e52805e8483c40e768aa024fce91481805", func := "umbel/umbellaw14.DropNone", spec := "dropNone", unfollowed := true, recurses := true, apart := false }
def DropNoneSaid : Prop := dropNoneRow.holds Try.pinned (OpenSpec.ofChange dropNoneSpec)

/-- ITS FALSE NEIGHBOUR: 'it returns false'. Refute it at one input. -/
def dropNoneWrong : ChangeSpec := { name := "dropNone", fn := fun _ => fun
  | [d1, d2] => { results := [.lit (.bool false)], args := [d1, d2] }
  | _ => none }
def DropNoneWrongFalsely : Prop := dropNoneRow.holds Try.pinned (OpenSpec.ofChange dropNoneWrong)

/-- 'umbellaw12.GetTells': WHATEVER THE INPUT: true; the input reads as it did. -/
def getTellsSpec : ChangeSpec := { name := "getTells", fn := fun _ => fun
  | [d1, d2] => { results := [.lit (.bool true)], args := [d1, d2] }
  | _ => none }
def getTellsRow : OpenClaim := { program := "ythalogdopkoidaa", sum := "b48c72904a98397fe1c4bc40662963e52805e8483c40e768aa024fce91481805", func := "umbel/umbellaw12.GetTells", spec := "getTells", recurses := true, apart := false }
def GetTellsSaid : Prop := getTellsRow.holds Try.pinned (OpenSpec.ofChange getTellsSpec)

/-- ITS FALSE NEIGHBOUR: 'it returns false'. Refute it at one input. -/
def getTellsWrong : ChangeSpec := { name := "getTells", fn := fun _ => fun
  | [d1, d2] => { results := [.lit (.bool false)], args := [d1, d2] }
  | _ => none }
def GetTellsWrongFalsely : Prop := getTellsRow.holds Try.pinned (OpenSpec.ofChange getTellsWrong)

/-- 'umbellaw12.GetPairs': WHATEVER THE INPUT: true; the input reads as it did. -/
def getPairsSpec : ChangeSpec := { name := "getPairs", fn := fun _ => fun
  | [d1, d2] => { results := [.lit (.bool true)], args := [d1, d2] }
  | _ => none }
def getPairsRow : OpenClaim := { program := "ythalogdopkoidaa", sum := "b48c72904a98397fe1c4bc40662963e52805e8483c40e768aa024fce91481805", func := "umbel/umbellaw12.GetPairs", spec := "getPairs", recurses := true, apart := false }
def GetPairsSaid : Prop := getPairsRow.holds Try.pinned (OpenSpec.ofChange getPairsSpec)

/-- ITS FALSE NEIGHBOUR: 'it returns false'. Refute it at one input. -/
def getPairsWrong : ChangeSpec := { name := "getPairs", fn := fun _ => fun
  | [d1, d2] => { results := [.lit (.bool false)], args := [d1, d2] }
  | _ => none }
def GetPairsWrongFalsely : Prop := getPairsRow.holds Try.pinned (OpenSpec.ofChange getPairsWrong)

/-- 'umbellaw12.GetWalks': WHATEVER THE INPUT: true; the input reads as it did. -/
def getWalksSpec : ChangeSpec := { name := "getWalks", fn := fun _ => fun
  | [d1, d2] => { results := [.lit (.bool true)], args := [d1, d2] }
  | _ => none }
def getWalksRow : OpenClaim := { program := "ythalogdopkoidaa", sum := "b48c72904a98397fe1c4bc40662963e52805e8483c40e768aa024fce91481805", func := "umbel/umbellaw12.GetWalks", spec := "getWalks", recurses := true, apart := false }
def GetWalksSaid : Prop := getWalksRow.holds Try.pinned (OpenSpec.ofChange getWalksSpec)

/-- ITS FALSE NEIGHBOUR: 'it returns false'. Refute it at one input. -/
def getWalksWrong : ChangeSpec := { name := "getWalks", fn := fun _ => fun
  | [d1, d2] => { results := [.lit (.bool false)], args := [d1, d2] }
  | _ => none }
def GetWalksWrongFalsely : Prop := getWalksRow.holds Try.pinned (OpenSpec.ofChange getWalksWrong)

/-- 'umbellaw12.GetPrefix': WHATEVER THE INPUT: true; the input reads as it did. -/
def getPrefixSpec : ChangeSpec := { name := "getPrefix", fn := fun _ => fun
  | [d1, d2] => { results := [.lit (.bool true)], args := [d1, d2] }
  | _ => none }
def getPrefixRow : OpenClaim := { program := "ythalogdopkoidaa", sum := "b48c72904a98397fe1c4bc40662963e52805e8483c40e768aa024fce91481805", func := "umbel/umbellaw12.GetPrefix", spec := "getPrefix", recurses := true, apart := false }
def GetPrefixSaid : Prop := getPrefixRow.holds Try.pinned (OpenSpec.ofChange getPrefixSpec)

/-- ITS FALSE NEIGHBOUR: 'it returns false'. Refute it at one input. -/
def getPrefixWrong : ChangeSpec := { name := "getPrefix", fn := fun _ => fun
  | [d1, d2] => { results := [.lit (.bool false)], args := [d1, d2] }
  | _ => none }
def GetPrefixWrongFalsely : Prop := getPrefixRow.holds Try.pinned (OpenSpec.ofChange getPrefixWrong)

/-- 'umbellaw12.GetWay': WHATEVER THE INPUT: true; the input reads as it did. -/
def getWaySpec : ChangeSpec := { name := "getWay", fn := fun _ => fun
  | [d1, d2] => { results := [.lit (.bool true)], args := [d1, d2] }
  | _ => none }
def getWayRow : OpenClaim := { program := "ythalogdopkoidaa", sum := "b48c72904a98397fe1c4bc40662963e52805e8483c40e768aa024fce91481805", func := "umbel/umbellaw12.GetWay", spec := "getWay", recurses := true, apart := false }
def GetWaySaid : Prop := getWayRow.holds Try.pinned (OpenSpec.ofChange getWaySpec)

/-- ITS FALSE NEIGHBOUR: 'it returns false'. Refute it at one input. -/
def getWayWrong : ChangeSpec := { name := "getWay", fn := fun _ => fun
  | [d1, d2] => { results := [.lit (.bool false)], args := [d1, d2] }
  | _ => none }
def GetWayWrongFalsely : Prop := getWayRow.holds Try.pinned (OpenSpec.ofChange getWayWrong)

/-- 'umbellaw13.PutTells': WHATEVER THE INPUT: true; the input reads as it did. -/
def putTellsSpec : ChangeSpec := { name := "putTells", fn := fun _ => fun
  | [d1, d2, d3] => { results := [.lit (.bool true)], args := [d1, d2, d3] }
  | _ => none }
def putTellsRow : OpenClaim := { program := "ythalogdopkoidaa", sum := "b48c72904a98397fe1c4bc40662963e52805e8483c40e768aa024fce91481805", func := "umbel/umbellaw13.PutTells", spec := "putTells", inPlace := ["slices.overlaps[umbel/api.Pair]"], unfollowed := true, recurses := true, apart := false }
def PutTellsSaid : Prop := putTellsRow.holds Try.pinned (OpenSpec.ofChange putTellsSpec)

/-- ITS FALSE NEIGHBOUR: 'it returns false'. Refute it at one input. -/
def putTellsWrong : ChangeSpec := { name := "putTells", fn := fun _ => fun
  | [d1, d2, d3] => { results := [.lit (.bool false)], args := [d1, d2, d3] }
  | _ => none }
def PutTellsWrongFalsely : Prop := putTellsRow.holds Try.pinned (OpenSpec.ofChange putTellsWrong)

/-- 'umbellaw13.PutOrder': WHATEVER THE INPUT: true; the input reads as it did. -/
def putOrderSpec : ChangeSpec := { name := "putOrder", fn := fun _ => fun
  | [d1, d2] => { results := [.lit (.bool true)], args := [d1, d2] }
  | _ => none }
def putOrderRow : OpenClaim := { program := "ythalogdopkoidaa", sum := "b48c72904a98397fe1c4bc40662963e52805e8483c40e768aa024fce91481805", func := "umbel/umbellaw13.PutOrder", spec := "putOrder", inPlace := ["slices.overlaps[umbel/api.Pair]"], unfollowed := true, recurses := true, apart := false }
def PutOrderSaid : Prop := putOrderRow.holds Try.pinned (OpenSpec.ofChange putOrderSpec)

/-- ITS FALSE NEIGHBOUR: 'it returns false'. Refute it at one input. -/
def putOrderWrong : ChangeSpec := { name := "putOrder", fn := fun _ => fun
  | [d1, d2] => { results := [.lit (.bool false)], args := [d1, d2] }
  | _ => none }
def PutOrderWrongFalsely : Prop := putOrderRow.holds Try.pinned (OpenSpec.ofChange putOrderWrong)

/-- 'umbellaw13.PutErrors': WHATEVER THE INPUT: true; the input reads as it did. -/
def putErrorsSpec : ChangeSpec := { name := "putErrors", fn := fun _ => fun
  | [d1, d2] => { results := [.lit (.bool true)], args := [d1, d2] }
  | _ => none }
def putErrorsRow : OpenClaim := { program := "ythalogdopkoidaa", sum := "b48c72904a98397fe1c4bc40662963e52805e8483c40e768aa024fce91481805", func := "umbel/umbellaw13.PutErrors", spec := "putErrors", inPlace := ["slices.overlaps[umbel/api.Pair]"], unfollowed := true, recurses := true, apart := false }
def PutErrorsSaid : Prop := putErrorsRow.holds Try.pinned (OpenSpec.ofChange putErrorsSpec)

/-- ITS FALSE NEIGHBOUR: 'it returns false'. Refute it at one input. -/
def putErrorsWrong : ChangeSpec := { name := "putErrors", fn := fun _ => fun
  | [d1, d2] => { results := [.lit (.bool false)], args := [d1, d2] }
  | _ => none }
def PutErrorsWrongFalsely : Prop := putErrorsRow.holds Try.pinned (OpenSpec.ofChange putErrorsWrong)

/-- 'umbellaw13.PutGets': WHATEVER THE INPUT: true; the input reads as it did. -/
def putGetsSpec : ChangeSpec := { name := "putGets", fn := fun _ => fun
  | [d1, d2, d3] => { results := [.lit (.bool true)], args := [d1, d2, d3] }
  | _ => none }
def putGetsRow : OpenClaim := { program := "ythalogdopkoidaa", sum := "b48c72904a98397fe1c4bc40662963e52805e8483c40e768aa024fce91481805", func := "umbel/umbellaw13.PutGets", spec := "putGets", inPlace := ["slices.overlaps[umbel/api.Pair]"], unfollowed := true, recurses := true, apart := false }
def PutGetsSaid : Prop := putGetsRow.holds Try.pinned (OpenSpec.ofChange putGetsSpec)

/-- ITS FALSE NEIGHBOUR: 'it returns false'. Refute it at one input. -/
def putGetsWrong : ChangeSpec := { name := "putGets", fn := fun _ => fun
  | [d1, d2, d3] => { results := [.lit (.bool false)], args := [d1, d2, d3] }
  | _ => none }
def PutGetsWrongFalsely : Prop := putGetsRow.holds Try.pinned (OpenSpec.ofChange putGetsWrong)

/-- 'umbellaw13.PutNodes': WHATEVER THE INPUT: true; the input reads as it did. -/
def putNodesSpec : ChangeSpec := { name := "putNodes", fn := fun _ => fun
  | [d1, d2] => { results := [.lit (.bool true)], args := [d1, d2] }
  | _ => none }
def putNodesRow : OpenClaim := { program := "ythalogdopkoidaa", sum := "b48c72904a98397fe1c4bc40662963e52805e8483c40e768aa024fce91481805", func := "umbel/umbellaw13.PutNodes", spec := "putNodes", inPlace := ["slices.overlaps[umbel/api.Pair]"], unfollowed := true, recurses := true, apart := false }
def PutNodesSaid : Prop := putNodesRow.holds Try.pinned (OpenSpec.ofChange putNodesSpec)

/-- ITS FALSE NEIGHBOUR: 'it returns false'. Refute it at one input. -/
def putNodesWrong : ChangeSpec := { name := "putNodes", fn := fun _ => fun
  | [d1, d2] => { results := [.lit (.bool false)], args := [d1, d2] }
  | _ => none }
def PutNodesWrongFalsely : Prop := putNodesRow.holds Try.pinned (OpenSpec.ofChange putNodesWrong)

/-- 'umbellaw14.DropUndoes': WHATEVER THE INPUT: true; the input reads as it did. -/
def dropUndoesSpec : ChangeSpec := { name := "dropUndoes", fn := fun _ => fun
  | [d1, d2, d3] => { results := [.lit (.bool true)], args := [d1, d2, d3] }
  | _ => none }
def dropUndoesRow : OpenClaim := { program := "ythalogdopkoidaa", sum := "b48c72904a98397fe1c4bc40662963e52805e8483c40e768aa024fce91481805", func := "umbel/umbellaw14.DropUndoes", spec := "dropUndoes", inPlace := ["slices.overlaps[umbel/api.Pair]"], unfollowed := true, recurses := true, apart := false }
def DropUndoesSaid : Prop := dropUndoesRow.holds Try.pinned (OpenSpec.ofChange dropUndoesSpec)

/-- ITS FALSE NEIGHBOUR: 'it returns false'. Refute it at one input. -/
def dropUndoesWrong : ChangeSpec := { name := "dropUndoes", fn := fun _ => fun
  | [d1, d2, d3] => { results := [.lit (.bool false)], args := [d1, d2, d3] }
  | _ => none }
def DropUndoesWrongFalsely : Prop := dropUndoesRow.holds Try.pinned (OpenSpec.ofChange dropUndoesWrong)

/- THE SECOND FORM. 'bulk': how many values and letters a reading holds, each counted each time it is reached (what is shared counts as often as it is met; a slice's spare places count too). A statement '..UptoSaid' is the law's where the arguments, and the package variables that the reading takes, are together of bulk at most 1048576: NARROWER than '..Said'. Prove '..Said' where nothing that the law and all that it calls make is longer than what came in: it says more and counts as full. Else prove '..UptoSaid'. A law counts once. -/
mutual
def uptoBulk {H : Type} : DataW H → Nat
  | .lit (.string bytes) => bytes.length + 1
  | .lit _ => 1
  | .nil => 1
  | .ptr d => uptoBulk d + 1
  | .slice elems spare => uptoBulkAll elems + uptoBulkAll spare + 1
  | .agg parts => uptoBulkAll parts + 1
  | .iface _ d => uptoBulk d + 1
  | .map entries => uptoBulkEntries entries + 1
  | .held _ => 1
def uptoBulkAll {H : Type} : List (DataW H) → Nat
  | [] => 0
  | d :: r => uptoBulk d + uptoBulkAll r
def uptoBulkEntries {H : Type} : List (Lit × DataW H) → Nat
  | [] => 0
  | x :: r => uptoBulkEntry x + uptoBulkEntries r
def uptoBulkEntry {H : Type} : Lit × DataW H → Nat
  | (.string bytes, d) => bytes.length + uptoBulk d + 1
  | (_, d) => uptoBulk d + 1
 end
def uptoSmall : (H : Type) → List (DataW H) → Bool := fun _ ds => decide (uptoBulkAll ds ≤ 1048576)
def OpenSpec.upto (s : _root_.Go.ChangeSpec) : _root_.Go.OpenSpec := { _root_.Go.OpenSpec.ofChange s with cond := some uptoSmall }

/-- 'umbellaw10.TrieTells', WHERE WHAT IT READS IS OF BULK AT MOST 1048576: true; the input reads as it did. -/
def trieTellsUptoRow : OpenClaim := { program := "ythalogdopkoidaa", sum := "b48c72904a98397fe1c4bc40662963e52805e8483c40e768aa024fce91481805", func := "umbel/umbellaw10.TrieTells", spec := "trieTells", recurses := true, apart := false, narrowed := true }
def TrieTellsUptoSaid : Prop := trieTellsUptoRow.holds Try.pinned (OpenSpec.upto trieTellsSpec)

/-- 'umbellaw10.TrieBack', WHERE WHAT IT READS IS OF BULK AT MOST 1048576: true; the input reads as it did. -/
def trieBackUptoRow : OpenClaim := { program := "ythalogdopkoidaa", sum := "b48c72904a98397fe1c4bc40662963e52805e8483c40e768aa024fce91481805", func := "umbel/umbellaw10.TrieBack", spec := "trieBack", recurses := true, apart := false, narrowed := true }
def TrieBackUptoSaid : Prop := trieBackUptoRow.holds Try.pinned (OpenSpec.upto trieBackSpec)

/-- 'umbellaw10.TrieShape', WHERE WHAT IT READS IS OF BULK AT MOST 1048576: true; the input reads as it did. -/
def trieShapeUptoRow : OpenClaim := { program := "ythalogdopkoidaa", sum := "b48c72904a98397fe1c4bc40662963e52805e8483c40e768aa024fce91481805", func := "umbel/umbellaw10.TrieShape", spec := "trieShape", recurses := true, apart := false, narrowed := true }
def TrieShapeUptoSaid : Prop := trieShapeUptoRow.holds Try.pinned (OpenSpec.upto trieShapeSpec)

/-- 'umbellaw10.TriePrefix', WHERE WHAT IT READS IS OF BULK AT MOST 1048576: true; the input reads as it did. -/
def triePrefixUptoRow : OpenClaim := { program := "ythalogdopkoidaa", sum := "b48c72904a98397fe1c4bc40662963e52805e8483c40e768aa024fce91481805", func := "umbel/umbellaw10.TriePrefix", spec := "triePrefix", recurses := true, apart := false, narrowed := true }
def TriePrefixUptoSaid : Prop := triePrefixUptoRow.holds Try.pinned (OpenSpec.upto triePrefixSpec)

/-- 'umbellaw10.TrieRefused', WHERE WHAT IT READS IS OF BULK AT MOST 1048576: true; the input reads as it did. -/
def trieRefusedUptoRow : OpenClaim := { program := "ythalogdopkoidaa", sum := "b48c72904a98397fe1c4bc40662963e52805e8483c40e768aa024fce91481805", func := "umbel/umbellaw10.TrieRefused", spec := "trieRefused", recurses := true, apart := false, narrowed := true }
def TrieRefusedUptoSaid : Prop := trieRefusedUptoRow.holds Try.pinned (OpenSpec.upto trieRefusedSpec)

/-- 'umbellaw15.CursorTells', WHERE WHAT IT READS IS OF BULK AT MOST 1048576: true; the input reads as it did. -/
def cursorTellsUptoRow : OpenClaim := { program := "ythalogdopkoidaa", sum := "b48c72904a98397fe1c4bc40662963e52805e8483c40e768aa024fce91481805", func := "umbel/umbellaw15.CursorTells", spec := "cursorTells", unfollowed := true, recurses := true, apart := false, narrowed := true }
def CursorTellsUptoSaid : Prop := cursorTellsUptoRow.holds Try.pinned (OpenSpec.upto cursorTellsSpec)

/-- 'umbellaw15.CursorGoes', WHERE WHAT IT READS IS OF BULK AT MOST 1048576: true; the input reads as it did. -/
def cursorGoesUptoRow : OpenClaim := { program := "ythalogdopkoidaa", sum := "b48c72904a98397fe1c4bc40662963e52805e8483c40e768aa024fce91481805", func := "umbel/umbellaw15.CursorGoes", spec := "cursorGoes", unfollowed := true, recurses := true, apart := false, narrowed := true }
def CursorGoesUptoSaid : Prop := cursorGoesUptoRow.holds Try.pinned (OpenSpec.upto cursorGoesSpec)

/-- 'umbellaw15.CursorBetween', WHERE WHAT IT READS IS OF BULK AT MOST 1048576: true; the input reads as it did. -/
def cursorBetweenUptoRow : OpenClaim := { program := "ythalogdopkoidaa", sum := "b48c72904a98397fe1c4bc40662963e52805e8483c40e768aa024fce91481805", func := "umbel/umbellaw15.CursorBetween", spec := "cursorBetween", unfollowed := true, recurses := true, apart := false, narrowed := true }
def CursorBetweenUptoSaid : Prop := cursorBetweenUptoRow.holds Try.pinned (OpenSpec.upto cursorBetweenSpec)

/-- 'umbellaw15.CursorParts', WHERE WHAT IT READS IS OF BULK AT MOST 1048576: true; the input reads as it did. -/
def cursorPartsUptoRow : OpenClaim := { program := "ythalogdopkoidaa", sum := "b48c72904a98397fe1c4bc40662963e52805e8483c40e768aa024fce91481805", func := "umbel/umbellaw15.CursorParts", spec := "cursorParts", unfollowed := true, recurses := true, apart := false, narrowed := true }
def CursorPartsUptoSaid : Prop := cursorPartsUptoRow.holds Try.pinned (OpenSpec.upto cursorPartsSpec)

/-- 'umbellaw14.DropTells', WHERE WHAT IT READS IS OF BULK AT MOST 1048576: true; the input reads as it did. -/
def dropTellsUptoRow : OpenClaim := { program := "ythalogdopkoidaa", sum := "b48c72904a98397fe1c4bc40662963e52805e8483c40e768aa024fce91481805", func := "umbel/umbellaw14.DropTells", spec := "dropTells", unfollowed := true, recurses := true, apart := false, narrowed := true }
def DropTellsUptoSaid : Prop := dropTellsUptoRow.holds Try.pinned (OpenSpec.upto dropTellsSpec)

/-- 'umbellaw14.DropAll', WHERE WHAT IT READS IS OF BULK AT MOST 1048576: true; the input reads as it did. -/
def dropAllUptoRow : OpenClaim := { program := "ythalogdopkoidaa", sum := "b48c72904a98397fe1c4bc40662963e52805e8483c40e768aa024fce91481805", func := "umbel/umbellaw14.DropAll", spec := "dropAll", unfollowed := true, recurses := true, apart := false, narrowed := true }
def DropAllUptoSaid : Prop := dropAllUptoRow.holds Try.pinned (OpenSpec.upto dropAllSpec)

/-- 'umbellaw14.DropNone', WHERE WHAT IT READS IS OF BULK AT MOST 1048576: true; the input reads as it did. -/
def dropNoneUptoRow : OpenClaim := { program := "ythalogdopkoidaa", sum := "b48c72904a98397fe1c4bc40662963e52805e8483c40e768aa024fce91481805", func := "umbel/umbellaw14.DropNone", spec := "dropNone", unfollowed := true, recurses := true, apart := false, narrowed := true }
def DropNoneUptoSaid : Prop := dropNoneUptoRow.holds Try.pinned (OpenSpec.upto dropNoneSpec)

/-- 'umbellaw12.GetTells', WHERE WHAT IT READS IS OF BULK AT MOST 1048576: true; the input reads as it did. -/
def getTellsUptoRow : OpenClaim := { program := "ythalogdopkoidaa", sum := "b48c72904a98397fe1c4bc40662963e52805e8483c40e768aa024fce91481805", func := "umbel/umbellaw12.GetTells", spec := "getTells", recurses := true, apart := false, narrowed := true }
def GetTellsUptoSaid : Prop := getTellsUptoRow.holds Try.pinned (OpenSpec.upto getTellsSpec)

/-- 'umbellaw12.GetPairs', WHERE WHAT IT READS IS OF BULK AT MOST 1048576: true; the input reads as it did. -/
def getPairsUptoRow : OpenClaim := { program := "ythalogdopkoidaa", sum := "b48c72904a98397fe1c4bc40662963e52805e8483c40e768aa024fce91481805", func := "umbel/umbellaw12.GetPairs", spec := "getPairs", recurses := true, apart := false, narrowed := true }
def GetPairsUptoSaid : Prop := getPairsUptoRow.holds Try.pinned (OpenSpec.upto getPairsSpec)

/-- 'umbellaw12.GetWalks', WHERE WHAT IT READS IS OF BULK AT MOST 1048576: true; the input reads as it did. -/
def getWalksUptoRow : OpenClaim := { program := "ythalogdopkoidaa", sum := "b48c72904a98397fe1c4bc40662963e52805e8483c40e768aa024fce91481805", func := "umbel/umbellaw12.GetWalks", spec := "getWalks", recurses := true, apart := false, narrowed := true }
def GetWalksUptoSaid : Prop := getWalksUptoRow.holds Try.pinned (OpenSpec.upto getWalksSpec)

/-- 'umbellaw12.GetPrefix', WHERE WHAT IT READS IS OF BULK AT MOST 1048576: true; the input reads as it did. -/
def getPrefixUptoRow : OpenClaim := { program := "ythalogdopkoidaa", sum := "b48c72904a98397fe1c4bc40662963e52805e8483c40e768aa024fce91481805", func := "umbel/umbellaw12.GetPrefix", spec := "getPrefix", recurses := true, apart := false, narrowed := true }
def GetPrefixUptoSaid : Prop := getPrefixUptoRow.holds Try.pinned (OpenSpec.upto getPrefixSpec)

/-- 'umbellaw12.GetWay', WHERE WHAT IT READS IS OF BULK AT MOST 1048576: true; the input reads as it did. -/
def getWayUptoRow : OpenClaim := { program := "ythalogdopkoidaa", sum := "b48c72904a98397fe1c4bc40662963e52805e8483c40e768aa024fce91481805", func := "umbel/umbellaw12.GetWay", spec := "getWay", recurses := true, apart := false, narrowed := true }
def GetWayUptoSaid : Prop := getWayUptoRow.holds Try.pinned (OpenSpec.upto getWaySpec)

/-- 'umbellaw13.PutTells', WHERE WHAT IT READS IS OF BULK AT MOST 1048576: true; the input reads as it did. -/
def putTellsUptoRow : OpenClaim := { program := "ythalogdopkoidaa", sum := "b48c72904a98397fe1c4bc40662963e52805e8483c40e768aa024fce91481805", func := "umbel/umbellaw13.PutTells", spec := "putTells", inPlace := ["slices.overlaps[umbel/api.Pair]"], unfollowed := true, recurses := true, apart := false, narrowed := true }
def PutTellsUptoSaid : Prop := putTellsUptoRow.holds Try.pinned (OpenSpec.upto putTellsSpec)

/-- 'umbellaw13.PutOrder', WHERE WHAT IT READS IS OF BULK AT MOST 1048576: true; the input reads as it did. -/
def putOrderUptoRow : OpenClaim := { program := "ythalogdopkoidaa", sum := "b48c72904a98397fe1c4bc40662963e52805e8483c40e768aa024fce91481805", func := "umbel/umbellaw13.PutOrder", spec := "putOrder", inPlace := ["slices.overlaps[umbel/api.Pair]"], unfollowed := true, recurses := true, apart := false, narrowed := true }
def PutOrderUptoSaid : Prop := putOrderUptoRow.holds Try.pinned (OpenSpec.upto putOrderSpec)

/-- 'umbellaw13.PutErrors', WHERE WHAT IT READS IS OF BULK AT MOST 1048576: true; the input reads as it did. -/
def putErrorsUptoRow : OpenClaim := { program := "ythalogdopkoidaa", sum := "b48c72904a98397fe1c4bc40662963e52805e8483c40e768aa024fce91481805", func := "umbel/umbellaw13.PutErrors", spec := "putErrors", inPlace := ["slices.overlaps[umbel/api.Pair]"], unfollowed := true, recurses := true, apart := false, narrowed := true }
def PutErrorsUptoSaid : Prop := putErrorsUptoRow.holds Try.pinned (OpenSpec.upto putErrorsSpec)

/-- 'umbellaw13.PutGets', WHERE WHAT IT READS IS OF BULK AT MOST 1048576: true; the input reads as it did. -/
def putGetsUptoRow : OpenClaim := { program := "ythalogdopkoidaa", sum := "b48c72904a98397fe1c4bc40662963e52805e8483c40e768aa024fce91481805", func := "umbel/umbellaw13.PutGets", spec := "putGets", inPlace := ["slices.overlaps[umbel/api.Pair]"], unfollowed := true, recurses := true, apart := false, narrowed := true }
def PutGetsUptoSaid : Prop := putGetsUptoRow.holds Try.pinned (OpenSpec.upto putGetsSpec)

/-- 'umbellaw13.PutNodes', WHERE WHAT IT READS IS OF BULK AT MOST 1048576: true; the input reads as it did. -/
def putNodesUptoRow : OpenClaim := { program := "ythalogdopkoidaa", sum := "b48c72904a98397fe1c4bc40662963e52805e8483c40e768aa024fce91481805", func := "umbel/umbellaw13.PutNodes", spec := "putNodes", inPlace := ["slices.overlaps[umbel/api.Pair]"], unfollowed := true, recurses := true, apart := false, narrowed := true }
def PutNodesUptoSaid : Prop := putNodesUptoRow.holds Try.pinned (OpenSpec.upto putNodesSpec)

/-- 'umbellaw14.DropUndoes', WHERE WHAT IT READS IS OF BULK AT MOST 1048576: true; the input reads as it did. -/
def dropUndoesUptoRow : OpenClaim := { program := "ythalogdopkoidaa", sum := "b48c72904a98397fe1c4bc40662963e52805e8483c40e768aa024fce91481805", func := "umbel/umbellaw14.DropUndoes", spec := "dropUndoes", inPlace := ["slices.overlaps[umbel/api.Pair]"], unfollowed := true, recurses := true, apart := false, narrowed := true }
def DropUndoesUptoSaid : Prop := dropUndoesUptoRow.holds Try.pinned (OpenSpec.upto dropUndoesSpec)

end Rows
end Go.Proofs.Ythalogdopkoidaa
