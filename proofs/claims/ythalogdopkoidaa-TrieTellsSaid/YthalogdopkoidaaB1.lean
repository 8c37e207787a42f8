/- The seat's types as a table, and that the program's are these. No statement of the seat's in it. -/
import Derived.Test.YthalogdopkoidaaProg
import Derived.Test.YthalogdopkoidaaA11
import Derived.KernelRfl
set_option linter.unusedVariables false
namespace Go.Proofs.Ythalogdopkoidaa.Ab
open Go Go.RowKit

def TT : Tab := fun t => match t with
  | 2 => some ⟨.int .i64, 1, 8, [.int .i64 0]⟩
  | 3 => some ⟨.int .i64, 1, 8, [.int .i64 0]⟩
  | 4 => some ⟨.bool, 1, 1, [.bool false]⟩
  | 5 => some ⟨.int .u8, 1, 1, [.int .u8 0]⟩
  | 9 => some ⟨.str, 1, 16, [.string ⟨#[]⟩]⟩
  | 22 => some ⟨.slice 52, 1, 24, [.slice none 0 0]⟩
  | 24 => some ⟨.slice 49, 1, 24, [.slice none 0 0]⟩
  | 30 => some ⟨.slice 9, 1, 24, [.slice none 0 0]⟩
  | 32 => some ⟨.struct [(0, 24), (1, 30), (2, 4)], 3, 56, [.slice none 0 0, .slice none 0 0, .bool false]⟩
  | 37 => some ⟨.struct [(0, 22), (1, 4)], 2, 32, [.slice none 0 0, .bool false]⟩
  | 46 => some ⟨.slice 3, 1, 24, [.slice none 0 0]⟩
  | 47 => some ⟨.arr 16 3, 16, 128, [.int .i64 0, .int .i64 0, .int .i64 0, .int .i64 0, .int .i64 0, .int .i64 0, .int .i64 0, .int .i64 0, .int .i64 0, .int .i64 0, .int .i64 0, .int .i64 0, .int .i64 0, .int .i64 0, .int .i64 0, .int .i64 0]⟩
  | 49 => some ⟨.struct [(0, 3), (1, 9), (2, 4), (3, 9), (4, 47)], 20, 176, [.int .i64 0, .string ⟨#[]⟩, .bool false, .string ⟨#[]⟩, .int .i64 0, .int .i64 0, .int .i64 0, .int .i64 0, .int .i64 0, .int .i64 0, .int .i64 0, .int .i64 0, .int .i64 0, .int .i64 0, .int .i64 0, .int .i64 0, .int .i64 0, .int .i64 0, .int .i64 0, .int .i64 0]⟩
  | 50 => some ⟨.slice 5, 1, 24, [.slice none 0 0]⟩
  | 52 => some ⟨.struct [(0, 9), (1, 9)], 2, 32, [.string ⟨#[]⟩, .string ⟨#[]⟩]⟩
  | 53 => some ⟨.int .u64, 1, 8, [.int .u64 0]⟩
  | 55 => some ⟨.arr 2 5, 2, 2, [.int .u8 0, .int .u8 0]⟩
  | 64 => some ⟨.int .i64, 1, 8, [.int .i64 0]⟩
  | 68 => some ⟨.struct [(0, 24), (1, 4), (2, 3)], 3, 40, [.slice none 0 0, .bool false, .int .i64 0]⟩
  | 74 => some ⟨.struct [(0, 4), (1, 9)], 2, 24, [.bool false, .string ⟨#[]⟩]⟩
  | 95 => some ⟨.ptr, 1, 8, [.pointer none]⟩
  | 97 => some ⟨.struct [(0, 22), (1, 30), (2, 24)], 3, 72, [.slice none 0 0, .slice none 0 0, .slice none 0 0]⟩
  | 99 => some ⟨.ptr, 1, 8, [.pointer none]⟩
  | 101 => some ⟨.struct [(0, 22), (1, 30), (2, 24), (3, 30)], 4, 96, [.slice none 0 0, .slice none 0 0, .slice none 0 0, .slice none 0 0]⟩
  | 102 => some ⟨.ptr, 1, 8, [.pointer none]⟩
  | 106 => some ⟨.struct [(0, 24), (1, 3), (2, 22), (3, 30)], 4, 80, [.slice none 0 0, .int .i64 0, .slice none 0 0, .slice none 0 0]⟩
  | 107 => some ⟨.slice 4, 1, 24, [.slice none 0 0]⟩
  | 109 => some ⟨.struct [(0, 9), (1, 4)], 2, 24, [.string ⟨#[]⟩, .bool false]⟩
  | 115 => some ⟨.ptr, 1, 8, [.pointer none]⟩
  | 119 => some ⟨.struct [(0, 24), (1, 9), (2, 46)], 3, 64, [.slice none 0 0, .string ⟨#[]⟩, .slice none 0 0]⟩
  | 137 => some ⟨.arr 2 3, 2, 16, [.int .i64 0, .int .i64 0]⟩
  | _ => none

theorem TT_2 : TT 2 = some ⟨.int .i64, 1, 8, [.int .i64 0]⟩ := rfl
theorem TT_3 : TT 3 = some ⟨.int .i64, 1, 8, [.int .i64 0]⟩ := rfl
theorem TT_4 : TT 4 = some ⟨.bool, 1, 1, [.bool false]⟩ := rfl
theorem TT_5 : TT 5 = some ⟨.int .u8, 1, 1, [.int .u8 0]⟩ := rfl
theorem TT_9 : TT 9 = some ⟨.str, 1, 16, [.string ⟨#[]⟩]⟩ := rfl
theorem TT_22 : TT 22 = some ⟨.slice 52, 1, 24, [.slice none 0 0]⟩ := rfl
theorem TT_24 : TT 24 = some ⟨.slice 49, 1, 24, [.slice none 0 0]⟩ := rfl
theorem TT_30 : TT 30 = some ⟨.slice 9, 1, 24, [.slice none 0 0]⟩ := rfl
theorem TT_32 : TT 32 = some ⟨.struct [(0, 24), (1, 30), (2, 4)], 3, 56, [.slice none 0 0, .slice none 0 0, .bool false]⟩ := rfl
theorem TT_37 : TT 37 = some ⟨.struct [(0, 22), (1, 4)], 2, 32, [.slice none 0 0, .bool false]⟩ := rfl
theorem TT_46 : TT 46 = some ⟨.slice 3, 1, 24, [.slice none 0 0]⟩ := rfl
theorem TT_47 : TT 47 = some ⟨.arr 16 3, 16, 128, [.int .i64 0, .int .i64 0, .int .i64 0, .int .i64 0, .int .i64 0, .int .i64 0, .int .i64 0, .int .i64 0, .int .i64 0, .int .i64 0, .int .i64 0, .int .i64 0, .int .i64 0, .int .i64 0, .int .i64 0, .int .i64 0]⟩ := rfl
theorem TT_49 : TT 49 = some ⟨.struct [(0, 3), (1, 9), (2, 4), (3, 9), (4, 47)], 20, 176, [.int .i64 0, .string ⟨#[]⟩, .bool false, .string ⟨#[]⟩, .int .i64 0, .int .i64 0, .int .i64 0, .int .i64 0, .int .i64 0, .int .i64 0, .int .i64 0, .int .i64 0, .int .i64 0, .int .i64 0, .int .i64 0, .int .i64 0, .int .i64 0, .int .i64 0, .int .i64 0, .int .i64 0]⟩ := rfl
theorem TT_50 : TT 50 = some ⟨.slice 5, 1, 24, [.slice none 0 0]⟩ := rfl
theorem TT_52 : TT 52 = some ⟨.struct [(0, 9), (1, 9)], 2, 32, [.string ⟨#[]⟩, .string ⟨#[]⟩]⟩ := rfl
theorem TT_53 : TT 53 = some ⟨.int .u64, 1, 8, [.int .u64 0]⟩ := rfl
theorem TT_55 : TT 55 = some ⟨.arr 2 5, 2, 2, [.int .u8 0, .int .u8 0]⟩ := rfl
theorem TT_64 : TT 64 = some ⟨.int .i64, 1, 8, [.int .i64 0]⟩ := rfl
theorem TT_68 : TT 68 = some ⟨.struct [(0, 24), (1, 4), (2, 3)], 3, 40, [.slice none 0 0, .bool false, .int .i64 0]⟩ := rfl
theorem TT_74 : TT 74 = some ⟨.struct [(0, 4), (1, 9)], 2, 24, [.bool false, .string ⟨#[]⟩]⟩ := rfl
theorem TT_95 : TT 95 = some ⟨.ptr, 1, 8, [.pointer none]⟩ := rfl
theorem TT_97 : TT 97 = some ⟨.struct [(0, 22), (1, 30), (2, 24)], 3, 72, [.slice none 0 0, .slice none 0 0, .slice none 0 0]⟩ := rfl
theorem TT_99 : TT 99 = some ⟨.ptr, 1, 8, [.pointer none]⟩ := rfl
theorem TT_101 : TT 101 = some ⟨.struct [(0, 22), (1, 30), (2, 24), (3, 30)], 4, 96, [.slice none 0 0, .slice none 0 0, .slice none 0 0, .slice none 0 0]⟩ := rfl
theorem TT_102 : TT 102 = some ⟨.ptr, 1, 8, [.pointer none]⟩ := rfl
theorem TT_106 : TT 106 = some ⟨.struct [(0, 24), (1, 3), (2, 22), (3, 30)], 4, 80, [.slice none 0 0, .int .i64 0, .slice none 0 0, .slice none 0 0]⟩ := rfl
theorem TT_107 : TT 107 = some ⟨.slice 4, 1, 24, [.slice none 0 0]⟩ := rfl
theorem TT_109 : TT 109 = some ⟨.struct [(0, 9), (1, 4)], 2, 24, [.string ⟨#[]⟩, .bool false]⟩ := rfl
theorem TT_115 : TT 115 = some ⟨.ptr, 1, 8, [.pointer none]⟩ := rfl
theorem TT_119 : TT 119 = some ⟨.struct [(0, 24), (1, 9), (2, 46)], 3, 64, [.slice none 0 0, .string ⟨#[]⟩, .slice none 0 0]⟩ := rfl
theorem TT_137 : TT 137 = some ⟨.arr 2 3, 2, 16, [.int .i64 0, .int .i64 0]⟩ := rfl

theorem inf_2 : (Try.prog.info? 2).map (fun i => (i.zero, i.size, i.bytes)) = some (some (.int .i64 0), 1, 8) := by kernel_rfl
theorem inf_3 : (Try.prog.info? 3).map (fun i => (i.zero, i.size, i.bytes)) = some (some (.int .i64 0), 1, 8) := by kernel_rfl
theorem inf_4 : (Try.prog.info? 4).map (fun i => (i.zero, i.size, i.bytes)) = some (some (.bool false), 1, 1) := by kernel_rfl
theorem inf_5 : (Try.prog.info? 5).map (fun i => (i.zero, i.size, i.bytes)) = some (some (.int .u8 0), 1, 1) := by kernel_rfl
theorem inf_9 : (Try.prog.info? 9).map (fun i => (i.zero, i.size, i.bytes)) = some (some (.string ⟨#[]⟩), 1, 16) := by kernel_rfl
theorem inf_22 : (Try.prog.info? 22).map (fun i => (i.zero, i.size, i.bytes)) = some (some (.slice none 0 0), 1, 24) := by kernel_rfl
theorem inf_24 : (Try.prog.info? 24).map (fun i => (i.zero, i.size, i.bytes)) = some (some (.slice none 0 0), 1, 24) := by kernel_rfl
theorem inf_30 : (Try.prog.info? 30).map (fun i => (i.zero, i.size, i.bytes)) = some (some (.slice none 0 0), 1, 24) := by kernel_rfl
theorem inf_32 : (Try.prog.info? 32).map (fun i => (i.zero, i.size, i.bytes)) = some (some (.agg #[.slice none 0 0, .slice none 0 0, .bool false]), 3, 56) := by kernel_rfl
theorem held_32 : Try.prog.stoodInHeld 32 = false := by kernel_rfl
theorem grd_32 : Try.prog.eqGuardType Try.prog.depth 32 = false := by kernel_rfl
theorem inf_37 : (Try.prog.info? 37).map (fun i => (i.zero, i.size, i.bytes)) = some (some (.agg #[.slice none 0 0, .bool false]), 2, 32) := by kernel_rfl
theorem held_37 : Try.prog.stoodInHeld 37 = false := by kernel_rfl
theorem grd_37 : Try.prog.eqGuardType Try.prog.depth 37 = false := by kernel_rfl
theorem inf_46 : (Try.prog.info? 46).map (fun i => (i.zero, i.size, i.bytes)) = some (some (.slice none 0 0), 1, 24) := by kernel_rfl
theorem inf_47 : (Try.prog.info? 47).map (fun i => (i.zero, i.size, i.bytes)) = some (some (.agg #[.int .i64 0, .int .i64 0, .int .i64 0, .int .i64 0, .int .i64 0, .int .i64 0, .int .i64 0, .int .i64 0, .int .i64 0, .int .i64 0, .int .i64 0, .int .i64 0, .int .i64 0, .int .i64 0, .int .i64 0, .int .i64 0]), 16, 128) := by kernel_rfl
theorem grd_47 : Try.prog.eqGuardType Try.prog.depth 47 = false := by kernel_rfl
theorem inf_49 : (Try.prog.info? 49).map (fun i => (i.zero, i.size, i.bytes)) = some (some (.agg #[.int .i64 0, .string ⟨#[]⟩, .bool false, .string ⟨#[]⟩, .int .i64 0, .int .i64 0, .int .i64 0, .int .i64 0, .int .i64 0, .int .i64 0, .int .i64 0, .int .i64 0, .int .i64 0, .int .i64 0, .int .i64 0, .int .i64 0, .int .i64 0, .int .i64 0, .int .i64 0, .int .i64 0]), 20, 176) := by kernel_rfl
theorem held_49 : Try.prog.stoodInHeld 49 = false := by kernel_rfl
theorem grd_49 : Try.prog.eqGuardType Try.prog.depth 49 = false := by kernel_rfl
theorem inf_50 : (Try.prog.info? 50).map (fun i => (i.zero, i.size, i.bytes)) = some (some (.slice none 0 0), 1, 24) := by kernel_rfl
theorem inf_52 : (Try.prog.info? 52).map (fun i => (i.zero, i.size, i.bytes)) = some (some (.agg #[.string ⟨#[]⟩, .string ⟨#[]⟩]), 2, 32) := by kernel_rfl
theorem held_52 : Try.prog.stoodInHeld 52 = false := by kernel_rfl
theorem grd_52 : Try.prog.eqGuardType Try.prog.depth 52 = false := by kernel_rfl
theorem inf_53 : (Try.prog.info? 53).map (fun i => (i.zero, i.size, i.bytes)) = some (some (.int .u64 0), 1, 8) := by kernel_rfl
theorem inf_55 : (Try.prog.info? 55).map (fun i => (i.zero, i.size, i.bytes)) = some (some (.agg #[.int .u8 0, .int .u8 0]), 2, 2) := by kernel_rfl
theorem grd_55 : Try.prog.eqGuardType Try.prog.depth 55 = false := by kernel_rfl
theorem inf_64 : (Try.prog.info? 64).map (fun i => (i.zero, i.size, i.bytes)) = some (some (.int .i64 0), 1, 8) := by kernel_rfl
theorem inf_68 : (Try.prog.info? 68).map (fun i => (i.zero, i.size, i.bytes)) = some (some (.agg #[.slice none 0 0, .bool false, .int .i64 0]), 3, 40) := by kernel_rfl
theorem held_68 : Try.prog.stoodInHeld 68 = false := by kernel_rfl
theorem grd_68 : Try.prog.eqGuardType Try.prog.depth 68 = false := by kernel_rfl
theorem inf_74 : (Try.prog.info? 74).map (fun i => (i.zero, i.size, i.bytes)) = some (some (.agg #[.bool false, .string ⟨#[]⟩]), 2, 24) := by kernel_rfl
theorem held_74 : Try.prog.stoodInHeld 74 = false := by kernel_rfl
theorem grd_74 : Try.prog.eqGuardType Try.prog.depth 74 = false := by kernel_rfl
theorem inf_95 : (Try.prog.info? 95).map (fun i => (i.zero, i.size, i.bytes)) = some (some (.pointer none), 1, 8) := by kernel_rfl
theorem inf_97 : (Try.prog.info? 97).map (fun i => (i.zero, i.size, i.bytes)) = some (some (.agg #[.slice none 0 0, .slice none 0 0, .slice none 0 0]), 3, 72) := by kernel_rfl
theorem held_97 : Try.prog.stoodInHeld 97 = false := by kernel_rfl
theorem grd_97 : Try.prog.eqGuardType Try.prog.depth 97 = false := by kernel_rfl
theorem inf_99 : (Try.prog.info? 99).map (fun i => (i.zero, i.size, i.bytes)) = some (some (.pointer none), 1, 8) := by kernel_rfl
theorem inf_101 : (Try.prog.info? 101).map (fun i => (i.zero, i.size, i.bytes)) = some (some (.agg #[.slice none 0 0, .slice none 0 0, .slice none 0 0, .slice none 0 0]), 4, 96) := by kernel_rfl
theorem held_101 : Try.prog.stoodInHeld 101 = false := by kernel_rfl
theorem grd_101 : Try.prog.eqGuardType Try.prog.depth 101 = false := by kernel_rfl
theorem inf_102 : (Try.prog.info? 102).map (fun i => (i.zero, i.size, i.bytes)) = some (some (.pointer none), 1, 8) := by kernel_rfl
theorem inf_106 : (Try.prog.info? 106).map (fun i => (i.zero, i.size, i.bytes)) = some (some (.agg #[.slice none 0 0, .int .i64 0, .slice none 0 0, .slice none 0 0]), 4, 80) := by kernel_rfl
theorem held_106 : Try.prog.stoodInHeld 106 = false := by kernel_rfl
theorem grd_106 : Try.prog.eqGuardType Try.prog.depth 106 = false := by kernel_rfl
theorem inf_107 : (Try.prog.info? 107).map (fun i => (i.zero, i.size, i.bytes)) = some (some (.slice none 0 0), 1, 24) := by kernel_rfl
theorem inf_109 : (Try.prog.info? 109).map (fun i => (i.zero, i.size, i.bytes)) = some (some (.agg #[.string ⟨#[]⟩, .bool false]), 2, 24) := by kernel_rfl
theorem held_109 : Try.prog.stoodInHeld 109 = false := by kernel_rfl
theorem grd_109 : Try.prog.eqGuardType Try.prog.depth 109 = false := by kernel_rfl
theorem inf_115 : (Try.prog.info? 115).map (fun i => (i.zero, i.size, i.bytes)) = some (some (.pointer none), 1, 8) := by kernel_rfl
theorem inf_119 : (Try.prog.info? 119).map (fun i => (i.zero, i.size, i.bytes)) = some (some (.agg #[.slice none 0 0, .string ⟨#[]⟩, .slice none 0 0]), 3, 64) := by kernel_rfl
theorem held_119 : Try.prog.stoodInHeld 119 = false := by kernel_rfl
theorem grd_119 : Try.prog.eqGuardType Try.prog.depth 119 = false := by kernel_rfl
theorem inf_137 : (Try.prog.info? 137).map (fun i => (i.zero, i.size, i.bytes)) = some (some (.agg #[.int .i64 0, .int .i64 0]), 2, 16) := by kernel_rfl
theorem grd_137 : Try.prog.eqGuardType Try.prog.depth 137 = false := by kernel_rfl

theorem inf_parts {t : Nat} {z : Value} {s b : Nat} {zl : List Value} (h : (Try.prog.info? t).map (fun i => (i.zero, i.size, i.bytes)) = some (some z, s, b)) (hz : z.cells.toList = zl) :
    ∃ q z, Try.prog.info? t = some q ∧ q.size = s ∧ q.bytes = b ∧ q.zero = some z ∧ z.cells.toList = zl := by
  obtain ⟨q, hq, he⟩ := Option.map_eq_some_iff.1 h
  simp only [Prod.mk.injEq] at he
  exact ⟨q, z, hq, he.2.1, he.2.2, he.1, hz⟩

theorem TT_all {p : Nat → TI → Prop} (h : p 2 ⟨.int .i64, 1, 8, [.int .i64 0]⟩ ∧ p 3 ⟨.int .i64, 1, 8, [.int .i64 0]⟩ ∧ p 4 ⟨.bool, 1, 1, [.bool false]⟩ ∧ p 5 ⟨.int .u8, 1, 1, [.int .u8 0]⟩ ∧ p 9 ⟨.str, 1, 16, [.string ⟨#[]⟩]⟩ ∧ p 22 ⟨.slice 52, 1, 24, [.slice none 0 0]⟩ ∧ p 24 ⟨.slice 49, 1, 24, [.slice none 0 0]⟩ ∧ p 30 ⟨.slice 9, 1, 24, [.slice none 0 0]⟩ ∧ p 32 ⟨.struct [(0, 24), (1, 30), (2, 4)], 3, 56, [.slice none 0 0, .slice none 0 0, .bool false]⟩ ∧ p 37 ⟨.struct [(0, 22), (1, 4)], 2, 32, [.slice none 0 0, .bool false]⟩ ∧ p 46 ⟨.slice 3, 1, 24, [.slice none 0 0]⟩ ∧ p 47 ⟨.arr 16 3, 16, 128, [.int .i64 0, .int .i64 0, .int .i64 0, .int .i64 0, .int .i64 0, .int .i64 0, .int .i64 0, .int .i64 0, .int .i64 0, .int .i64 0, .int .i64 0, .int .i64 0, .int .i64 0, .int .i64 0, .int .i64 0, .int .i64 0]⟩ ∧ p 49 ⟨.struct [(0, 3), (1, 9), (2, 4), (3, 9), (4, 47)], 20, 176, [.int .i64 0, .string ⟨#[]⟩, .bool false, .string ⟨#[]⟩, .int .i64 0, .int .i64 0, .int .i64 0, .int .i64 0, .int .i64 0, .int .i64 0, .int .i64 0, .int .i64 0, .int .i64 0, .int .i64 0, .int .i64 0, .int .i64 0, .int .i64 0, .int .i64 0, .int .i64 0, .int .i64 0]⟩ ∧ p 50 ⟨.slice 5, 1, 24, [.slice none 0 0]⟩ ∧ p 52 ⟨.struct [(0, 9), (1, 9)], 2, 32, [.string ⟨#[]⟩, .string ⟨#[]⟩]⟩ ∧ p 53 ⟨.int .u64, 1, 8, [.int .u64 0]⟩ ∧ p 55 ⟨.arr 2 5, 2, 2, [.int .u8 0, .int .u8 0]⟩ ∧ p 64 ⟨.int .i64, 1, 8, [.int .i64 0]⟩ ∧ p 68 ⟨.struct [(0, 24), (1, 4), (2, 3)], 3, 40, [.slice none 0 0, .bool false, .int .i64 0]⟩ ∧ p 74 ⟨.struct [(0, 4), (1, 9)], 2, 24, [.bool false, .string ⟨#[]⟩]⟩ ∧ p 95 ⟨.ptr, 1, 8, [.pointer none]⟩ ∧ p 97 ⟨.struct [(0, 22), (1, 30), (2, 24)], 3, 72, [.slice none 0 0, .slice none 0 0, .slice none 0 0]⟩ ∧ p 99 ⟨.ptr, 1, 8, [.pointer none]⟩ ∧ p 101 ⟨.struct [(0, 22), (1, 30), (2, 24), (3, 30)], 4, 96, [.slice none 0 0, .slice none 0 0, .slice none 0 0, .slice none 0 0]⟩ ∧ p 102 ⟨.ptr, 1, 8, [.pointer none]⟩ ∧ p 106 ⟨.struct [(0, 24), (1, 3), (2, 22), (3, 30)], 4, 80, [.slice none 0 0, .int .i64 0, .slice none 0 0, .slice none 0 0]⟩ ∧ p 107 ⟨.slice 4, 1, 24, [.slice none 0 0]⟩ ∧ p 109 ⟨.struct [(0, 9), (1, 4)], 2, 24, [.string ⟨#[]⟩, .bool false]⟩ ∧ p 115 ⟨.ptr, 1, 8, [.pointer none]⟩ ∧ p 119 ⟨.struct [(0, 24), (1, 9), (2, 46)], 3, 64, [.slice none 0 0, .string ⟨#[]⟩, .slice none 0 0]⟩ ∧ p 137 ⟨.arr 2 3, 2, 16, [.int .i64 0, .int .i64 0]⟩) : ∀ (t : Nat) (i : TI), TT t = some i → p t i := by
  obtain ⟨h2, h3, h4, h5, h9, h22, h24, h30, h32, h37, h46, h47, h49, h50, h52, h53, h55, h64, h68, h74, h95, h97, h99, h101, h102, h106, h107, h109, h115, h119, h137⟩ := h
  intro t i ht
  unfold TT at ht
  split at ht <;> first | (obtain rfl := Option.some.inj ht; assumption) | cases ht

theorem TT_ok : TOK Try.prog TT where
  fits := TT_all ⟨Try.underlying2, Try.underlying3, Try.underlying4, Try.underlying5, Try.underlying9, Try.underlying22, Try.underlying24, Try.underlying30, ⟨held_32, grd_32, _, Try.underlying32, by decide, rfl⟩, ⟨held_37, grd_37, _, Try.underlying37, by decide, rfl⟩, Try.underlying46, ⟨grd_47, Try.underlying47⟩, ⟨held_49, grd_49, _, Try.underlying49, by decide, rfl⟩, Try.underlying50, ⟨held_52, grd_52, _, Try.underlying52, by decide, rfl⟩, Try.underlying53, ⟨grd_55, Try.underlying55⟩, Try.underlying64, ⟨held_68, grd_68, _, Try.underlying68, by decide, rfl⟩, ⟨held_74, grd_74, _, Try.underlying74, by decide, rfl⟩, ⟨_, Try.underlying95⟩, ⟨held_97, grd_97, _, Try.underlying97, by decide, rfl⟩, ⟨_, Try.underlying99⟩, ⟨held_101, grd_101, _, Try.underlying101, by decide, rfl⟩, ⟨_, Try.underlying102⟩, ⟨held_106, grd_106, _, Try.underlying106, by decide, rfl⟩, Try.underlying107, ⟨held_109, grd_109, _, Try.underlying109, by decide, rfl⟩, ⟨_, Try.underlying115⟩, ⟨held_119, grd_119, _, Try.underlying119, by decide, rfl⟩, ⟨grd_137, Try.underlying137⟩⟩
  info := TT_all ⟨inf_parts inf_2 rfl, inf_parts inf_3 rfl, inf_parts inf_4 rfl, inf_parts inf_5 rfl, inf_parts inf_9 rfl, inf_parts inf_22 rfl, inf_parts inf_24 rfl, inf_parts inf_30 rfl, inf_parts inf_32 rfl, inf_parts inf_37 rfl, inf_parts inf_46 rfl, inf_parts inf_47 rfl, inf_parts inf_49 rfl, inf_parts inf_50 rfl, inf_parts inf_52 rfl, inf_parts inf_53 rfl, inf_parts inf_55 rfl, inf_parts inf_64 rfl, inf_parts inf_68 rfl, inf_parts inf_74 rfl, inf_parts inf_95 rfl, inf_parts inf_97 rfl, inf_parts inf_99 rfl, inf_parts inf_101 rfl, inf_parts inf_102 rfl, inf_parts inf_106 rfl, inf_parts inf_107 rfl, inf_parts inf_109 rfl, inf_parts inf_115 rfl, inf_parts inf_119 rfl, inf_parts inf_137 rfl⟩
  zlen := TT_all ⟨rfl, rfl, rfl, rfl, rfl, rfl, rfl, rfl, rfl, rfl, rfl, rfl, rfl, rfl, rfl, rfl, rfl, rfl, rfl, rfl, rfl, rfl, rfl, rfl, rfl, rfl, rfl, rfl, rfl, rfl, rfl⟩
  zflat := TT_all ⟨by decide, by decide, by decide, by decide, by decide, by decide, by decide, by decide, by decide, by decide, by decide, by decide, by decide, by decide, by decide, by decide, by decide, by decide, by decide, by decide, by decide, by decide, by decide, by decide, by decide, by decide, by decide, by decide, by decide, by decide, by decide⟩
  one := TT_all ⟨(fun _ => rfl), (fun _ => rfl), (fun _ => rfl), (fun _ => rfl), (fun _ => rfl), (fun _ => rfl), (fun _ => rfl), (fun _ => rfl), (fun h => by cases h), (fun h => by cases h), (fun _ => rfl), (fun h => by cases h), (fun h => by cases h), (fun _ => rfl), (fun h => by cases h), (fun _ => rfl), (fun h => by cases h), (fun _ => rfl), (fun h => by cases h), (fun h => by cases h), (fun _ => rfl), (fun h => by cases h), (fun _ => rfl), (fun h => by cases h), (fun _ => rfl), (fun h => by cases h), (fun _ => rfl), (fun h => by cases h), (fun _ => rfl), (fun h => by cases h), (fun h => by cases h)⟩

theorem mixed : Try.prog.follows .mixedOrders = true := by kernel_rfl
end Go.Proofs.Ythalogdopkoidaa.Ab
