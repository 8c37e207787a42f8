/- The data of this program in abstract memory; bytes, nibbles, pure functions. No statement of the seat's in it. Condition: none. -/
import Derived.Test.YthalogdopkoidaaProg
import Derived.Test.YthalogdopkoidaaZA
import Derived.KernelRfl
import Derived.Sort.Walk0
set_option linter.unusedVariables false
namespace Go.Proofs.Ythalogdopkoidaa.Ab
open Go Go.RowKit
def TT : Tab := fun t => match t with
  | 2 => some ⟨.int .i64, 1, 8, [.int .i64 0]⟩
  | 3 => some ⟨.int .i64, 1, 8, [.int .i64 0]⟩
  | 4 => some ⟨.bool, 1, 1, [.bool false]⟩
  | 5 => some ⟨.int .u8, 1, 1, [.int .u8 0]⟩
  | 9 => some ⟨.str, 1, 16, [.string ⟨#[]⟩]⟩
  | 22 => some ⟨.slice 52, 1, 24, [.slice none 0 0]⟩
  | 24 => some ⟨.slice 49, 1, 24, [.slice none 0 0]⟩
  | 30 => some ⟨.slice 9, 1, 24, [.slice none 0 0]⟩
  | 32 => some ⟨.struct [(0, 24), (1, 30), (2, 4)], 3, 56, [.slice none 0 0, .slice none 0 0, .bool false]⟩
  | 37 => some ⟨.struct [(0, 22), (1, 4)], 2, 32, [.slice none 0 0, .bool false]⟩
  | 46 => some ⟨.slice 3, 1, 24, [.slice none 0 0]⟩
  | 47 => some ⟨.arr 16 3, 16, 128, [.int .i64 0, .int .i64 0, .int .i64 0, .int .i64 0, .int .i64 0, .int .i64 0, .int .i64 0, .int .i64 0, .int .i64 0, .int .i64 0, .int .i64 0, .int .i64 0, .int .i64 0, .int .i64 0, .int .i64 0, .int .i64 0]⟩
  | 49 => some ⟨.struct [(0, 3), (1, 9), (2, 4), (3, 9), (4, 47)], 20, 176, [.int .i64 0, .string ⟨#[]⟩, .bool false, .string ⟨#[]⟩, .int .i64 0, .int .i64 0, .int .i64 0, .int .i64 0, .int .i64 0, .int .i64 0, .int .i64 0, .int .i64 0, .int .i64 0, .int .i64 0, .int .i64 0, .int .i64 0, .int .i64 0, .int .i64 0, .int .i64 0, .int .i64 0]⟩
  | 50 => some ⟨.slice 5, 1, 24, [.slice none 0 0]⟩
  | 52 => some ⟨.struct [(0, 9), (1, 9)], 2, 32, [.string ⟨#[]⟩, .string ⟨#[]⟩]⟩
  | 53 => some ⟨.int .u64, 1, 8, [.int .u64 0]⟩
  | 55 => some ⟨.arr 2 5, 2, 2, [.int .u8 0, .int .u8 0]⟩
  | 64 => some ⟨.int .i64, 1, 8, [.int .i64 0]⟩
  | 68 => some ⟨.struct [(0, 24), (1, 4), (2, 3)], 3, 40, [.slice none 0 0, .bool false, .int .i64 0]⟩
  | 74 => some ⟨.struct [(0, 4), (1, 9)], 2, 24, [.bool false, .string ⟨#[]⟩]⟩
  | 95 => some ⟨.ptr, 1, 8, [.pointer none]⟩
  | 97 => some ⟨.struct [(0, 22), (1, 30), (2, 24)], 3, 72, [.slice none 0 0, .slice none 0 0, .slice none 0 0]⟩
  | 99 => some ⟨.ptr, 1, 8, [.pointer none]⟩
  | 101 => some ⟨.struct [(0, 22), (1, 30), (2, 24), (3, 30)], 4, 96, [.slice none 0 0, .slice none 0 0, .slice none 0 0, .slice none 0 0]⟩
  | 102 => some ⟨.ptr, 1, 8, [.pointer none]⟩
  | 106 => some ⟨.struct [(0, 24), (1, 3), (2, 22), (3, 30)], 4, 80, [.slice none 0 0, .int .i64 0, .slice none 0 0, .slice none 0 0]⟩
  | 107 => some ⟨.slice 4, 1, 24, [.slice none 0 0]⟩
  | 109 => some ⟨.struct [(0, 9), (1, 4)], 2, 24, [.string ⟨#[]⟩, .bool false]⟩
  | 115 => some ⟨.ptr, 1, 8, [.pointer none]⟩
  | 119 => some ⟨.struct [(0, 24), (1, 9), (2, 46)], 3, 64, [.slice none 0 0, .string ⟨#[]⟩, .slice none 0 0]⟩
  | 137 => some ⟨.arr 2 3, 2, 16, [.int .i64 0, .int .i64 0]⟩
  | _ => none
theorem TT_3 : TT 3 = some ⟨.int .i64, 1, 8, [.int .i64 0]⟩ := rfl
theorem TT_4 : TT 4 = some ⟨.bool, 1, 1, [.bool false]⟩ := rfl
theorem TT_5 : TT 5 = some ⟨.int .u8, 1, 1, [.int .u8 0]⟩ := rfl
theorem TT_9 : TT 9 = some ⟨.str, 1, 16, [.string ⟨#[]⟩]⟩ := rfl
theorem TT_22 : TT 22 = some ⟨.slice 52, 1, 24, [.slice none 0 0]⟩ := rfl
theorem TT_24 : TT 24 = some ⟨.slice 49, 1, 24, [.slice none 0 0]⟩ := rfl
theorem TT_30 : TT 30 = some ⟨.slice 9, 1, 24, [.slice none 0 0]⟩ := rfl
theorem TT_32 : TT 32 = some ⟨.struct [(0, 24), (1, 30), (2, 4)], 3, 56, [.slice none 0 0, .slice none 0 0, .bool false]⟩ := rfl
theorem TT_37 : TT 37 = some ⟨.struct [(0, 22), (1, 4)], 2, 32, [.slice none 0 0, .bool false]⟩ := rfl
theorem TT_46 : TT 46 = some ⟨.slice 3, 1, 24, [.slice none 0 0]⟩ := rfl
theorem TT_47 : TT 47 = some ⟨.arr 16 3, 16, 128, [.int .i64 0, .int .i64 0, .int .i64 0, .int .i64 0, .int .i64 0, .int .i64 0, .int .i64 0, .int .i64 0, .int .i64 0, .int .i64 0, .int .i64 0, .int .i64 0, .int .i64 0, .int .i64 0, .int .i64 0, .int .i64 0]⟩ := rfl
theorem TT_49 : TT 49 = some ⟨.struct [(0, 3), (1, 9), (2, 4), (3, 9), (4, 47)], 20, 176, [.int .i64 0, .string ⟨#[]⟩, .bool false, .string ⟨#[]⟩, .int .i64 0, .int .i64 0, .int .i64 0, .int .i64 0, .int .i64 0, .int .i64 0, .int .i64 0, .int .i64 0, .int .i64 0, .int .i64 0, .int .i64 0, .int .i64 0, .int .i64 0, .int .i64 0, .int .i64 0, .int .i64 0]⟩ := rfl
theorem TT_50 : TT 50 = some ⟨.slice 5, 1, 24, [.slice none 0 0]⟩ := rfl
theorem TT_52 : TT 52 = some ⟨.struct [(0, 9), (1, 9)], 2, 32, [.string ⟨#[]⟩, .string ⟨#[]⟩]⟩ := rfl
theorem TT_53 : TT 53 = some ⟨.int .u64, 1, 8, [.int .u64 0]⟩ := rfl
theorem TT_74 : TT 74 = some ⟨.struct [(0, 4), (1, 9)], 2, 24, [.bool false, .string ⟨#[]⟩]⟩ := rfl
theorem TT_97 : TT 97 = some ⟨.struct [(0, 22), (1, 30), (2, 24)], 3, 72, [.slice none 0 0, .slice none 0 0, .slice none 0 0]⟩ := rfl
theorem TT_101 : TT 101 = some ⟨.struct [(0, 22), (1, 30), (2, 24), (3, 30)], 4, 96, [.slice none 0 0, .slice none 0 0, .slice none 0 0, .slice none 0 0]⟩ := rfl
theorem TT_106 : TT 106 = some ⟨.struct [(0, 24), (1, 3), (2, 22), (3, 30)], 4, 80, [.slice none 0 0, .int .i64 0, .slice none 0 0, .slice none 0 0]⟩ := rfl
theorem TT_107 : TT 107 = some ⟨.slice 4, 1, 24, [.slice none 0 0]⟩ := rfl
theorem TT_109 : TT 109 = some ⟨.struct [(0, 9), (1, 4)], 2, 24, [.string ⟨#[]⟩, .bool false]⟩ := rfl
theorem TT_119 : TT 119 = some ⟨.struct [(0, 24), (1, 9), (2, 46)], 3, 64, [.slice none 0 0, .string ⟨#[]⟩, .slice none 0 0]⟩ := rfl
theorem inf_2 : (Try.prog.info? 2).map (fun i => (i.zero, i.size, i.bytes)) = some (some (.int .i64 0), 1, 8) := by kernel_rfl
theorem inf_3 : (Try.prog.info? 3).map (fun i => (i.zero, i.size, i.bytes)) = some (some (.int .i64 0), 1, 8) := by kernel_rfl
theorem inf_4 : (Try.prog.info? 4).map (fun i => (i.zero, i.size, i.bytes)) = some (some (.bool false), 1, 1) := by kernel_rfl
theorem inf_5 : (Try.prog.info? 5).map (fun i => (i.zero, i.size, i.bytes)) = some (some (.int .u8 0), 1, 1) := by kernel_rfl
theorem inf_9 : (Try.prog.info? 9).map (fun i => (i.zero, i.size, i.bytes)) = some (some (.string ⟨#[]⟩), 1, 16) := by kernel_rfl
theorem inf_22 : (Try.prog.info? 22).map (fun i => (i.zero, i.size, i.bytes)) = some (some (.slice none 0 0), 1, 24) := by kernel_rfl
theorem inf_24 : (Try.prog.info? 24).map (fun i => (i.zero, i.size, i.bytes)) = some (some (.slice none 0 0), 1, 24) := by kernel_rfl
theorem inf_30 : (Try.prog.info? 30).map (fun i => (i.zero, i.size, i.bytes)) = some (some (.slice none 0 0), 1, 24) := by kernel_rfl
theorem inf_32 : (Try.prog.info? 32).map (fun i => (i.zero, i.size, i.bytes)) = some (some (.agg #[.slice none 0 0, .slice none 0 0, .bool false]), 3, 56) := by kernel_rfl
theorem held_32 : Try.prog.stoodInHeld 32 = false := by kernel_rfl
theorem grd_32 : Try.prog.eqGuardType Try.prog.depth 32 = false := by kernel_rfl
theorem inf_37 : (Try.prog.info? 37).map (fun i => (i.zero, i.size, i.bytes)) = some (some (.agg #[.slice none 0 0, .bool false]), 2, 32) := by kernel_rfl
theorem held_37 : Try.prog.stoodInHeld 37 = false := by kernel_rfl
theorem grd_37 : Try.prog.eqGuardType Try.prog.depth 37 = false := by kernel_rfl
theorem inf_46 : (Try.prog.info? 46).map (fun i => (i.zero, i.size, i.bytes)) = some (some (.slice none 0 0), 1, 24) := by kernel_rfl
theorem inf_47 : (Try.prog.info? 47).map (fun i => (i.zero, i.size, i.bytes)) = some (some (.agg #[.int .i64 0, .int .i64 0, .int .i64 0, .int .i64 0, .int .i64 0, .int .i64 0, .int .i64 0, .int .i64 0, .int .i64 0, .int .i64 0, .int .i64 0, .int .i64 0, .int .i64 0, .int .i64 0, .int .i64 0, .int .i64 0]), 16, 128) := by kernel_rfl
theorem grd_47 : Try.prog.eqGuardType Try.prog.depth 47 = false := by kernel_rfl
theorem inf_49 : (Try.prog.info? 49).map (fun i => (i.zero, i.size, i.bytes)) = some (some (.agg #[.int .i64 0, .string ⟨#[]⟩, .bool false, .string ⟨#[]⟩, .int .i64 0, .int .i64 0, .int .i64 0, .int .i64 0, .int .i64 0, .int .i64 0, .int .i64 0, .int .i64 0, .int .i64 0, .int .i64 0, .int .i64 0, .int .i64 0, .int .i64 0, .int .i64 0, .int .i64 0, .int .i64 0]), 20, 176) := by kernel_rfl
theorem held_49 : Try.prog.stoodInHeld 49 = false := by kernel_rfl
theorem grd_49 : Try.prog.eqGuardType Try.prog.depth 49 = false := by kernel_rfl
theorem inf_50 : (Try.prog.info? 50).map (fun i => (i.zero, i.size, i.bytes)) = some (some (.slice none 0 0), 1, 24) := by kernel_rfl
theorem inf_52 : (Try.prog.info? 52).map (fun i => (i.zero, i.size, i.bytes)) = some (some (.agg #[.string ⟨#[]⟩, .string ⟨#[]⟩]), 2, 32) := by kernel_rfl
theorem held_52 : Try.prog.stoodInHeld 52 = false := by kernel_rfl
theorem grd_52 : Try.prog.eqGuardType Try.prog.depth 52 = false := by kernel_rfl
theorem inf_53 : (Try.prog.info? 53).map (fun i => (i.zero, i.size, i.bytes)) = some (some (.int .u64 0), 1, 8) := by kernel_rfl
theorem inf_55 : (Try.prog.info? 55).map (fun i => (i.zero, i.size, i.bytes)) = some (some (.agg #[.int .u8 0, .int .u8 0]), 2, 2) := by kernel_rfl
theorem grd_55 : Try.prog.eqGuardType Try.prog.depth 55 = false := by kernel_rfl
theorem inf_64 : (Try.prog.info? 64).map (fun i => (i.zero, i.size, i.bytes)) = some (some (.int .i64 0), 1, 8) := by kernel_rfl
theorem inf_68 : (Try.prog.info? 68).map (fun i => (i.zero, i.size, i.bytes)) = some (some (.agg #[.slice none 0 0, .bool false, .int .i64 0]), 3, 40) := by kernel_rfl
theorem held_68 : Try.prog.stoodInHeld 68 = false := by kernel_rfl
theorem grd_68 : Try.prog.eqGuardType Try.prog.depth 68 = false := by kernel_rfl
theorem inf_74 : (Try.prog.info? 74).map (fun i => (i.zero, i.size, i.bytes)) = some (some (.agg #[.bool false, .string ⟨#[]⟩]), 2, 24) := by kernel_rfl
theorem held_74 : Try.prog.stoodInHeld 74 = false := by kernel_rfl
theorem grd_74 : Try.prog.eqGuardType Try.prog.depth 74 = false := by kernel_rfl
theorem inf_95 : (Try.prog.info? 95).map (fun i => (i.zero, i.size, i.bytes)) = some (some (.pointer none), 1, 8) := by kernel_rfl
theorem inf_97 : (Try.prog.info? 97).map (fun i => (i.zero, i.size, i.bytes)) = some (some (.agg #[.slice none 0 0, .slice none 0 0, .slice none 0 0]), 3, 72) := by kernel_rfl
theorem held_97 : Try.prog.stoodInHeld 97 = false := by kernel_rfl
theorem grd_97 : Try.prog.eqGuardType Try.prog.depth 97 = false := by kernel_rfl
theorem inf_99 : (Try.prog.info? 99).map (fun i => (i.zero, i.size, i.bytes)) = some (some (.pointer none), 1, 8) := by kernel_rfl
theorem inf_101 : (Try.prog.info? 101).map (fun i => (i.zero, i.size, i.bytes)) = some (some (.agg #[.slice none 0 0, .slice none 0 0, .slice none 0 0, .slice none 0 0]), 4, 96) := by kernel_rfl
theorem held_101 : Try.prog.stoodInHeld 101 = false := by kernel_rfl
theorem grd_101 : Try.prog.eqGuardType Try.prog.depth 101 = false := by kernel_rfl
theorem inf_102 : (Try.prog.info? 102).map (fun i => (i.zero, i.size, i.bytes)) = some (some (.pointer none), 1, 8) := by kernel_rfl
theorem inf_106 : (Try.prog.info? 106).map (fun i => (i.zero, i.size, i.bytes)) = some (some (.agg #[.slice none 0 0, .int .i64 0, .slice none 0 0, .slice none 0 0]), 4, 80) := by kernel_rfl
theorem held_106 : Try.prog.stoodInHeld 106 = false := by kernel_rfl
theorem grd_106 : Try.prog.eqGuardType Try.prog.depth 106 = false := by kernel_rfl
theorem inf_107 : (Try.prog.info? 107).map (fun i => (i.zero, i.size, i.bytes)) = some (some (.slice none 0 0), 1, 24) := by kernel_rfl
theorem inf_109 : (Try.prog.info? 109).map (fun i => (i.zero, i.size, i.bytes)) = some (some (.agg #[.string ⟨#[]⟩, .bool false]), 2, 24) := by kernel_rfl
theorem held_109 : Try.prog.stoodInHeld 109 = false := by kernel_rfl
theorem grd_109 : Try.prog.eqGuardType Try.prog.depth 109 = false := by kernel_rfl
theorem inf_115 : (Try.prog.info? 115).map (fun i => (i.zero, i.size, i.bytes)) = some (some (.pointer none), 1, 8) := by kernel_rfl
theorem inf_119 : (Try.prog.info? 119).map (fun i => (i.zero, i.size, i.bytes)) = some (some (.agg #[.slice none 0 0, .string ⟨#[]⟩, .slice none 0 0]), 3, 64) := by kernel_rfl
theorem held_119 : Try.prog.stoodInHeld 119 = false := by kernel_rfl
theorem grd_119 : Try.prog.eqGuardType Try.prog.depth 119 = false := by kernel_rfl
theorem inf_137 : (Try.prog.info? 137).map (fun i => (i.zero, i.size, i.bytes)) = some (some (.agg #[.int .i64 0, .int .i64 0]), 2, 16) := by kernel_rfl
theorem grd_137 : Try.prog.eqGuardType Try.prog.depth 137 = false := by kernel_rfl
theorem inf_parts {t : Nat} {z : Value} {s b : Nat} {zl : List Value} (h : (Try.prog.info? t).map (fun i => (i.zero, i.size, i.bytes)) = some (some z, s, b)) (hz : z.cells.toList = zl) :
    ∃ q z, Try.prog.info? t = some q ∧ q.size = s ∧ q.bytes = b ∧ q.zero = some z ∧ z.cells.toList = zl := by
  obtain ⟨q, hq, he⟩ := Option.map_eq_some_iff.1 h
  simp only [Prod.mk.injEq] at he
  exact ⟨q, z, hq, he.2.1, he.2.2, he.1, hz⟩
theorem TT_all {p : Nat → TI → Prop} (h : p 2 ⟨.int .i64, 1, 8, [.int .i64 0]⟩ ∧ p 3 ⟨.int .i64, 1, 8, [.int .i64 0]⟩ ∧ p 4 ⟨.bool, 1, 1, [.bool false]⟩ ∧ p 5 ⟨.int .u8, 1, 1, [.int .u8 0]⟩ ∧ p 9 ⟨.str, 1, 16, [.string ⟨#[]⟩]⟩ ∧ p 22 ⟨.slice 52, 1, 24, [.slice none 0 0]⟩ ∧ p 24 ⟨.slice 49, 1, 24, [.slice none 0 0]⟩ ∧ p 30 ⟨.slice 9, 1, 24, [.slice none 0 0]⟩ ∧ p 32 ⟨.struct [(0, 24), (1, 30), (2, 4)], 3, 56, [.slice none 0 0, .slice none 0 0, .bool false]⟩ ∧ p 37 ⟨.struct [(0, 22), (1, 4)], 2, 32, [.slice none 0 0, .bool false]⟩ ∧ p 46 ⟨.slice 3, 1, 24, [.slice none 0 0]⟩ ∧ p 47 ⟨.arr 16 3, 16, 128, [.int .i64 0, .int .i64 0, .int .i64 0, .int .i64 0, .int .i64 0, .int .i64 0, .int .i64 0, .int .i64 0, .int .i64 0, .int .i64 0, .int .i64 0, .int .i64 0, .int .i64 0, .int .i64 0, .int .i64 0, .int .i64 0]⟩ ∧ p 49 ⟨.struct [(0, 3), (1, 9), (2, 4), (3, 9), (4, 47)], 20, 176, [.int .i64 0, .string ⟨#[]⟩, .bool false, .string ⟨#[]⟩, .int .i64 0, .int .i64 0, .int .i64 0, .int .i64 0, .int .i64 0, .int .i64 0, .int .i64 0, .int .i64 0, .int .i64 0, .int .i64 0, .int .i64 0, .int .i64 0, .int .i64 0, .int .i64 0, .int .i64 0, .int .i64 0]⟩ ∧ p 50 ⟨.slice 5, 1, 24, [.slice none 0 0]⟩ ∧ p 52 ⟨.struct [(0, 9), (1, 9)], 2, 32, [.string ⟨#[]⟩, .string ⟨#[]⟩]⟩ ∧ p 53 ⟨.int .u64, 1, 8, [.int .u64 0]⟩ ∧ p 55 ⟨.arr 2 5, 2, 2, [.int .u8 0, .int .u8 0]⟩ ∧ p 64 ⟨.int .i64, 1, 8, [.int .i64 0]⟩ ∧ p 68 ⟨.struct [(0, 24), (1, 4), (2, 3)], 3, 40, [.slice none 0 0, .bool false, .int .i64 0]⟩ ∧ p 74 ⟨.struct [(0, 4), (1, 9)], 2, 24, [.bool false, .string ⟨#[]⟩]⟩ ∧ p 95 ⟨.ptr, 1, 8, [.pointer none]⟩ ∧ p 97 ⟨.struct [(0, 22), (1, 30), (2, 24)], 3, 72, [.slice none 0 0, .slice none 0 0, .slice none 0 0]⟩ ∧ p 99 ⟨.ptr, 1, 8, [.pointer none]⟩ ∧ p 101 ⟨.struct [(0, 22), (1, 30), (2, 24), (3, 30)], 4, 96, [.slice none 0 0, .slice none 0 0, .slice none 0 0, .slice none 0 0]⟩ ∧ p 102 ⟨.ptr, 1, 8, [.pointer none]⟩ ∧ p 106 ⟨.struct [(0, 24), (1, 3), (2, 22), (3, 30)], 4, 80, [.slice none 0 0, .int .i64 0, .slice none 0 0, .slice none 0 0]⟩ ∧ p 107 ⟨.slice 4, 1, 24, [.slice none 0 0]⟩ ∧ p 109 ⟨.struct [(0, 9), (1, 4)], 2, 24, [.string ⟨#[]⟩, .bool false]⟩ ∧ p 115 ⟨.ptr, 1, 8, [.pointer none]⟩ ∧ p 119 ⟨.struct [(0, 24), (1, 9), (2, 46)], 3, 64, [.slice none 0 0, .string ⟨#[]⟩, .slice none 0 0]⟩ ∧ p 137 ⟨.arr 2 3, 2, 16, [.int .i64 0, .int .i64 0]⟩) : ∀ (t : Nat) (i : TI), TT t = some i → p t i := by
  obtain ⟨h2, h3, h4, h5, h9, h22, h24, h30, h32, h37, h46, h47, h49, h50, h52, h53, h55, h64, h68, h74, h95, h97, h99, h101, h102, h106, h107, h109, h115, h119, h137⟩ := h
  intro t i ht
  unfold TT at ht
  split at ht <;> first | (obtain rfl := Option.some.inj ht; assumption) | cases ht
theorem TT_ok : TOK Try.prog TT where
  fits := TT_all ⟨Try.underlying2, Try.underlying3, Try.underlying4, Try.underlying5, Try.underlying9, Try.underlying22, Try.underlying24, Try.underlying30, ⟨held_32, grd_32, _, Try.underlying32, by decide, rfl⟩, ⟨held_37, grd_37, _, Try.underlying37, by decide, rfl⟩, Try.underlying46, ⟨grd_47, Try.underlying47⟩, ⟨held_49, grd_49, _, Try.underlying49, by decide, rfl⟩, Try.underlying50, ⟨held_52, grd_52, _, Try.underlying52, by decide, rfl⟩, Try.underlying53, ⟨grd_55, Try.underlying55⟩, Try.underlying64, ⟨held_68, grd_68, _, Try.underlying68, by decide, rfl⟩, ⟨held_74, grd_74, _, Try.underlying74, by decide, rfl⟩, ⟨_, Try.underlying95⟩, ⟨held_97, grd_97, _, Try.underlying97, by decide, rfl⟩, ⟨_, Try.underlying99⟩, ⟨held_101, grd_101, _, Try.underlying101, by decide, rfl⟩, ⟨_, Try.underlying102⟩, ⟨held_106, grd_106, _, Try.underlying106, by decide, rfl⟩, Try.underlying107, ⟨held_109, grd_109, _, Try.underlying109, by decide, rfl⟩, ⟨_, Try.underlying115⟩, ⟨held_119, grd_119, _, Try.underlying119, by decide, rfl⟩, ⟨grd_137, Try.underlying137⟩⟩
  info := TT_all ⟨inf_parts inf_2 rfl, inf_parts inf_3 rfl, inf_parts inf_4 rfl, inf_parts inf_5 rfl, inf_parts inf_9 rfl, inf_parts inf_22 rfl, inf_parts inf_24 rfl, inf_parts inf_30 rfl, inf_parts inf_32 rfl, inf_parts inf_37 rfl, inf_parts inf_46 rfl, inf_parts inf_47 rfl, inf_parts inf_49 rfl, inf_parts inf_50 rfl, inf_parts inf_52 rfl, inf_parts inf_53 rfl, inf_parts inf_55 rfl, inf_parts inf_64 rfl, inf_parts inf_68 rfl, inf_parts inf_74 rfl, inf_parts inf_95 rfl, inf_parts inf_97 rfl, inf_parts inf_99 rfl, inf_parts inf_101 rfl, inf_parts inf_102 rfl, inf_parts inf_106 rfl, inf_parts inf_107 rfl, inf_parts inf_109 rfl, inf_parts inf_115 rfl, inf_parts inf_119 rfl, inf_parts inf_137 rfl⟩
  zlen := TT_all ⟨rfl, rfl, rfl, rfl, rfl, rfl, rfl, rfl, rfl, rfl, rfl, rfl, rfl, rfl, rfl, rfl, rfl, rfl, rfl, rfl, rfl, rfl, rfl, rfl, rfl, rfl, rfl, rfl, rfl, rfl, rfl⟩
  zflat := TT_all ⟨by decide, by decide, by decide, by decide, by decide, by decide, by decide, by decide, by decide, by decide, by decide, by decide, by decide, by decide, by decide, by decide, by decide, by decide, by decide, by decide, by decide, by decide, by decide, by decide, by decide, by decide, by decide, by decide, by decide, by decide, by decide⟩
  one := TT_all ⟨(fun _ => rfl), (fun _ => rfl), (fun _ => rfl), (fun _ => rfl), (fun _ => rfl), (fun _ => rfl), (fun _ => rfl), (fun _ => rfl), (fun h => by cases h), (fun h => by cases h), (fun _ => rfl), (fun h => by cases h), (fun h => by cases h), (fun _ => rfl), (fun h => by cases h), (fun _ => rfl), (fun h => by cases h), (fun _ => rfl), (fun h => by cases h), (fun h => by cases h), (fun _ => rfl), (fun h => by cases h), (fun _ => rfl), (fun h => by cases h), (fun _ => rfl), (fun h => by cases h), (fun _ => rfl), (fun h => by cases h), (fun _ => rfl), (fun h => by cases h), (fun h => by cases h)⟩
theorem mixed : Try.prog.follows .mixedOrders = true := by kernel_rfl
end Go.Proofs.Ythalogdopkoidaa.Ab
set_option linter.unusedVariables false
namespace Go.Proofs.Ythalogdopkoidaa.Ab
open Go Go.RowKit
section
variable {α : Type} {f : α → List Value} {s : Nat}
theorem rows_length (hs : ∀ x, (f x).length = s) : ∀ xs : List α, (xs.flatMap f).length = xs.length * s
  | [] => by simp
  | x :: xs => by simp [List.flatMap_cons, rows_length hs xs, hs, Nat.add_mul]; omega
theorem rows_drop (hs : ∀ x, (f x).length = s) : ∀ (xs : List α) (i : Nat), (xs.flatMap f).drop (i * s) = (xs.drop i).flatMap f
  | xs, 0 => by simp
  | [], i + 1 => by simp
  | x :: xs, i + 1 => by
    rw [List.flatMap_cons, List.drop_succ_cons, ← rows_drop hs xs i]
    rw [show (i + 1) * s = (f x).length + i * s by rw [hs, Nat.add_mul]; omega]
    rw [← List.drop_drop, List.drop_left]
theorem rows_take (hs : ∀ x, (f x).length = s) : ∀ (xs : List α) (i : Nat), (xs.flatMap f).take (i * s) = (xs.take i).flatMap f
  | xs, 0 => by simp
  | [], i + 1 => by simp
  | x :: xs, i + 1 => by
    rw [List.flatMap_cons, List.take_succ_cons, List.flatMap_cons, ← rows_take hs xs i]
    rw [show (i + 1) * s = (f x).length + i * s by rw [hs, Nat.add_mul]; omega]
    rw [List.take_append, List.take_of_length_le (by omega)]
    simp
theorem rows_at (hs : ∀ x, (f x).length = s) (xs : List α) (i : Nat) (hi : i < xs.length) : ((xs.flatMap f).drop (i * s)).take s = f xs[i] := by
  rw [rows_drop hs, List.drop_eq_getElem_cons hi, List.flatMap_cons]
  rw [← hs xs[i], List.take_left]
theorem rows_get (hs : ∀ x, (f x).length = s) (xs : List α) (i j : Nat) (hi : i < xs.length) (hj : j < s) : (xs.flatMap f)[i * s + j]? = (f xs[i])[j]? := by
  rw [← rows_at hs xs i hi, List.getElem?_take, if_pos hj, List.getElem?_drop]
theorem rows_set (hs : ∀ x, (f x).length = s) : ∀ (xs : List α) (i j : Nat) (v : Value) (y : α) (hi : i < xs.length), j < s → f y = (f xs[i]).set j v → (xs.flatMap f).set (i * s + j) v = (xs.set i y).flatMap f
  | x :: xs, 0, j, v, y, _, hj, hy => by
    simp at hy
    rw [Nat.zero_mul, Nat.zero_add, List.flatMap_cons, List.set_append_left _ _ (by rw [hs]; exact hj)]
    simp [hy]
  | x :: xs, i + 1, j, v, y, hi, hj, hy => by
    simp at hy hi
    rw [List.flatMap_cons, List.set_append_right _ _ (by rw [hs, Nat.add_mul]; omega), hs]
    rw [show (i + 1) * s + j - s = i * s + j by rw [Nat.add_mul]; omega, rows_set hs xs i j v y (by omega) hj hy]
    simp
theorem rows_over (hs : ∀ x, (f x).length = s) (xs : List α) (i : Nat) (y : α) (hi : i < xs.length) : over (xs.flatMap f) (i * s) (f y) = (xs.set i y).flatMap f := by
  have hl := rows_length hs xs
  have hb : i * s + s ≤ xs.length * s := by
    have := Nat.mul_le_mul_right s (Nat.succ_le_of_lt hi)
    rw [Nat.succ_mul] at this; exact this
  rw [over_eq _ _ _ (by rw [hs, hl]; exact hb), hs, rows_take hs]
  rw [show i * s + s = (i + 1) * s by rw [Nat.add_mul]; omega, rows_drop hs]
  rw [List.set_eq_take_append_cons_drop, if_pos hi]
  simp
end
/-- A text, a byte. -/
def S (l : List UInt8) : Value := .string ⟨l.toArray⟩
def U (b : UInt8) : Value := .int .u8 b.toNat
structure Nd where
  kind : Int
  path : List UInt8
  has : Bool
  value : List UInt8
  kids : Vector Int 16
  deriving DecidableEq
def Nd.cells (n : Nd) : List Value := .int .i64 n.kind :: S n.path :: .bool n.has :: S n.value :: n.kids.toList.map (Value.int .i64)
def Nd.val (n : Nd) : Value := .agg n.cells.toArray
theorem Nd.len (n : Nd) : n.cells.length = 20 := by simp [Nd.cells]
structure Pr where
  key : List UInt8
  value : List UInt8
  deriving DecidableEq
def Pr.cells (p : Pr) : List Value := [S p.key, S p.value]
def Pr.val (p : Pr) : Value := .agg p.cells.toArray
theorem Pr.len (p : Pr) : p.cells.length = 2 := rfl
def sCell (s : List UInt8) : List Value := [S s]
theorem sCell_len (s : List UInt8) : (sCell s).length = 1 := rfl
def iCell (n : Int) : List Value := [.int .i64 n]
theorem iCell_len (n : Int) : (iCell n).length = 1 := rfl
def bCell (n : UInt8) : List Value := [U n]
theorem bCell_len (n : UInt8) : (bCell n).length = 1 := rfl
def oCell (b : Bool) : List Value := [.bool b]
theorem oCell_len (b : Bool) : (oCell b).length = 1 := rfl
/-- A slice's element's address. -/
def ep (v : Value) (k : Nat) : Value :=
  match v with
  | .slice (some ⟨i, o, none⟩) _ _ => .pointer (some ⟨i, o + k, none⟩)
  | _ => undef
/-- Which object a slice lies in. -/
def vid : Value → Option Nat
  | .slice (some a) _ _ => some a.block
  | .pointer (some a) => some a.block
  | _ => none
structure Lies (H : AHeap) (v : Value) (ty n : Nat) (cs : List Value) (i off : Nat) (o : AObj) : Prop where
  val : v = .slice (some ⟨i, off, none⟩) n n
  obj : H[i]? = some (some o)
  ty : o.ty = ty
  len : off + cs.length ≤ o.cells.length
  cells : (o.cells.drop off).take cs.length = cs
/-- The slice v has n elements, their cells are cs. -/
def Sl (H : AHeap) (v : Value) (ty n : Nat) (cs : List Value) : Prop := (v = .slice none 0 0 ∧ n = 0 ∧ cs = []) ∨ ∃ i off o, Lies H v ty n cs i off o
theorem Sl.ext {H H' : AHeap} {v : Value} {ty n : Nat} {cs : List Value} {M : Nat → Prop} (h : Sl H v ty n cs) (hX : AExt M H H') (hM : ∀ i, vid v = some i → ¬ M i) : Sl H' v ty n cs := by
  rcases h with h | ⟨i, off, o, h⟩
  · exact .inl h
  · refine .inr ⟨i, off, o, h.val, ?_, h.ty, h.len, h.cells⟩
    exact hX.live h.obj (hM i (by rw [h.val]; rfl))
theorem Sl.alen {H : AHeap} {v : Value} {ty n : Nat} {cs : List Value} (h : Sl H v ty n cs) {t : Nat} (ht : (TT t).map (·.d) = some (.slice ty)) : alen TT t v = some (.int .i64 n) := by
  obtain ⟨ti, hti, hd⟩ := Option.map_eq_some_iff.1 ht
  unfold Ab.alen
  rw [hti]
  dsimp only
  rw [hd]
  rcases h with ⟨rfl, rfl, _⟩ | ⟨i, off, o, h⟩
  · rfl
  · rw [h.val]
theorem Sl.index {H : AHeap} {v : Value} {ty n : Nat} {cs : List Value} (h : Sl H v ty n cs) {t : Nat} (ht : (TT t).map (·.d) = some (.slice ty)) {s : Nat} (hs : (TT ty).map (·.size) = some s) {k : IntKind} {j : Int} (h0 : 0 ≤ j) (h1 : j < n) :
    aindex TT t v (.int k j) = some (ep v (j.toNat * s)) := by
  obtain ⟨ti, hti, hd⟩ := Option.map_eq_some_iff.1 ht
  obtain ⟨ei, hei, he⟩ := Option.map_eq_some_iff.1 hs
  unfold aindex
  rw [hti]
  dsimp only
  rw [hd]
  rcases h with ⟨rfl, rfl, _⟩ | ⟨i, off, o, h⟩
  · omega
  · rw [h.val]
    dsimp only
    rw [hei]
    dsimp only
    rw [if_pos ⟨h0, h1⟩, he]
    rfl
/-- A load out of a slice's cells. -/
theorem Sl.load {H : AHeap} {v : Value} {ty n : Nat} {cs : List Value} (h : Sl H v ty n cs) {t : Nat} {ti : TI} (ht : TT t = some ti) (k : Nat) (hk : k + ti.size ≤ cs.length) (h0 : 0 < ti.size) :
    aload TT H t (ep v k) = apart TT t cs k := by
  rcases h with ⟨_, _, rfl⟩ | ⟨i, off, o, h⟩
  · simp at hk; omega
  · rw [h.val]
    simp only [ep, aload, h.obj]
    unfold apart
    rw [ht]
    dsimp only
    have hl := h.len
    have e : (o.cells.drop (off + k)).take ti.size = (cs.drop k).take ti.size := by
      conv => rhs; rw [← h.cells]
      rw [List.drop_take, List.drop_drop, List.take_take]
      congr 1
      omega
    have e2 : o.cells[off + k]? = cs[k]? := by
      have hk' : k < cs.length := by omega
      conv => rhs; rw [← h.cells]
      rw [List.getElem?_take, if_pos hk', List.getElem?_drop]
    have b1 : off + k + ti.size ≤ o.cells.length := by omega
    simp only [hk, b1, if_true, e, e2]
theorem Sl.ptr {H : AHeap} {v : Value} {ty n : Nat} {cs : List Value} (h : Sl H v ty n cs) (hn : cs ≠ []) : ∃ i off, v = .slice (some ⟨i, off, none⟩) n n := by
  rcases h with ⟨_, _, rfl⟩ | ⟨i, off, o, h⟩
  · exact absurd rfl hn
  · exact ⟨i, off, h.val⟩
/-- A field of a slice's element. -/
theorem ep_field {v : Value} (hv : ∃ i off n m, v = .slice (some ⟨i, off, none⟩) n m) {s f off ft : Nat} {fs : List (Nat × Nat)} (hs : (TT s).map (·.d) = some (.struct fs)) (hf : fs[f]? = some (off, ft)) (hft : ∃ fi, TT ft = some fi ∧ fi.size ≠ 0) (k : Nat) :
    afield TT s (ep v k) f = some (ep v (k + off)) := by
  obtain ⟨i, o, n, m, rfl⟩ := hv
  obtain ⟨ti, hti, hd⟩ := Option.map_eq_some_iff.1 hs
  obtain ⟨fi, hfi, hz⟩ := hft
  simp only [ep, afield, hti, hd, hf, hfi, hz, if_false]
  rw [Nat.add_assoc]
def NdS (H : AHeap) (v : Value) (ns : List Nd) : Prop := Sl H v 49 ns.length (ns.flatMap Nd.cells)
def PrS (H : AHeap) (v : Value) (ps : List Pr) : Prop := Sl H v 52 ps.length (ps.flatMap Pr.cells)
def StS (H : AHeap) (v : Value) (ss : List (List UInt8)) : Prop := Sl H v 9 ss.length (ss.flatMap sCell)
def InS (H : AHeap) (v : Value) (xs : List Int) : Prop := Sl H v 3 xs.length (xs.flatMap iCell)
def ByS (H : AHeap) (v : Value) (xs : List UInt8) : Prop := Sl H v 5 xs.length (xs.flatMap bCell)
def BoS (H : AHeap) (v : Value) (xs : List Bool) : Prop := Sl H v 4 xs.length (xs.flatMap oCell)
section
variable {H : AHeap} {v : Value} {ns : List Nd}
theorem NdS.alen (h : NdS H v ns) : alen TT 24 v = some (.int .i64 ns.length) := Sl.alen h rfl
theorem NdS.index (h : NdS H v ns) {k : IntKind} {j : Int} (h0 : 0 ≤ j) (h1 : j < ns.length) : aindex TT 24 v (.int k j) = some (ep v (j.toNat * 20)) := Sl.index h rfl rfl h0 h1
theorem NdS.ptr (h : NdS H v ns) {i : Nat} (hi : i < ns.length) : ∃ i off n m, v = .slice (some ⟨i, off, none⟩) n m := by
  obtain ⟨i, off, hv⟩ := Sl.ptr h (by
    intro e
    have := rows_length Nd.len ns
    rw [e] at this
    simp at this
    omega)
  exact ⟨i, off, _, _, hv⟩
theorem rowsLen20 (ns : List Nd) {i : Nat} (hi : i < ns.length) : i * 20 + 20 ≤ (ns.flatMap Nd.cells).length := by
  rw [rows_length Nd.len]; omega
theorem NdS.load (h : NdS H v ns) {i : Nat} (hi : i < ns.length) : aload TT H 49 (ep v (i * 20)) = some ns[i].val := by
  have hl := rowsLen20 ns hi
  rw [Sl.load h TT_49 (i * 20) hl (by decide)]
  unfold apart
  rw [TT_49]
  simp only [TD.isAgg, if_true]
  rw [if_pos hl, rows_at Nd.len ns i hi]
  rfl
theorem NdS.cell (h : NdS H v ns) {i j : Nat} (hi : i < ns.length) (hj : j < 20) {t : Nat} {ti : TI} (ht : TT t = some ti) (ha : ti.d.isAgg = false) (h1 : ti.size = 1) : aload TT H t (ep v (i * 20 + j)) = ns[i].cells[j]? := by
  have hl := rowsLen20 ns hi
  rw [Sl.load h ht (i * 20 + j) (by rw [h1]; omega) (by rw [h1]; decide)]
  unfold apart
  rw [ht]
  dsimp only
  rw [ha]
  simp only [Bool.false_eq_true, if_false]
  exact rows_get Nd.len ns i j hi hj
theorem NdS.kind (h : NdS H v ns) {i : Nat} (hi : i < ns.length) : aload TT H 3 (ep v (i * 20 + 0)) = some (.int .i64 ns[i].kind) := h.cell hi (by decide) TT_3 rfl rfl
theorem NdS.path (h : NdS H v ns) {i : Nat} (hi : i < ns.length) : aload TT H 9 (ep v (i * 20 + 1)) = some (S ns[i].path) := h.cell hi (by decide) TT_9 rfl rfl
theorem NdS.has (h : NdS H v ns) {i : Nat} (hi : i < ns.length) : aload TT H 4 (ep v (i * 20 + 2)) = some (.bool ns[i].has) := h.cell hi (by decide) TT_4 rfl rfl
theorem NdS.value (h : NdS H v ns) {i : Nat} (hi : i < ns.length) : aload TT H 9 (ep v (i * 20 + 3)) = some (S ns[i].value) := h.cell hi (by decide) TT_9 rfl rfl
end
theorem kids_get (n : Nd) (c : Nat) (hc : c < 16) : n.cells[4 + c]? = some (.int .i64 n.kids[c]) := by
  have e : 4 + c = c + 1 + 1 + 1 + 1 := by omega
  rw [Nd.cells, e]
  simp [hc]
/-- Equality of nodes. -/
theorem aeq_int (d : Nat) (a b : Int) : aeq TT (d + 1) 3 (.int .i64 a) (.int .i64 b) = some (decide (a = b)) := by
  simp [aeq, TT_3]
theorem S_inj (a b : List UInt8) : (ByteArray.mk a.toArray = ByteArray.mk b.toArray) ↔ a = b := by
  constructor
  · intro h
    have := congrArg (fun x => x.data.toList) h
    simpa using this
  · rintro rfl; rfl
theorem aeq_str (d : Nat) (a b : List UInt8) : aeq TT (d + 1) 9 (S a) (S b) = some (decide (a = b)) := by
  simp [aeq, TT_9, S, -ByteArray.mk.injEq, S_inj]
theorem aeq_bool (d : Nat) (a b : Bool) : aeq TT (d + 1) 4 (.bool a) (.bool b) = some (decide (a = b)) := by
  simp [aeq, TT_4]
  cases a <;> cases b <;> rfl
theorem fold_all {α : Type} (l : List α) (f : α → Option Bool) (g : α → Bool) (h : ∀ x ∈ l, f x = some (g x)) :
    l.foldr (init := some true) (fun x r => match f x, r with | some p, some q => some (p && q) | _, _ => none) = some (l.all g) := by
  induction l with
  | nil => rfl
  | cons x l ih =>
    simp only [List.foldr_cons, ih (fun y hy => h y (by simp [hy])), h x (by simp)]
    simp
theorem aeq_kids (d : Nat) (a b : Vector Int 16) : aeq TT (d + 2) 47 (.agg (a.toList.map (Value.int .i64)).toArray) (.agg (b.toList.map (Value.int .i64)).toArray) = some (decide (a = b)) := by
  have get : ∀ (c : Vector Int 16) (i : Nat), i < 16 → apart TT 3 (c.toList.map (Value.int .i64)) (i * 1) = some (.int .i64 (c.toList.getD i 0)) := fun c i hi => by
    simp [apart, TT_3, TD.isAgg, hi]
  have h1 : aeq TT (d + 2) 47 (.agg (a.toList.map (Value.int .i64)).toArray) (.agg (b.toList.map (Value.int .i64)).toArray) = some ((List.range 16).all fun i => decide (a.toList.getD i 0 = b.toList.getD i 0)) := by
    rw [← fold_all (List.range 16) (fun i => some (decide (a.toList.getD i 0 = b.toList.getD i 0))) _ (fun x _ => rfl)]
    rw [aeq]
    simp only [TT_47, TT_3]
    have ext : ∀ (l : List Nat), (∀ i ∈ l, i < 16) → ∀ (F G : Nat → Option Bool → Option Bool), (∀ i r, i < 16 → F i r = G i r) → l.foldr F (some true) = l.foldr G (some true) := by
      intro l hl F G hFG
      induction l with
      | nil => rfl
      | cons i l ih =>
        rw [List.foldr_cons, List.foldr_cons, ih (fun j hj => hl j (by simp [hj])), hFG i _ (hl i (by simp))]
    refine ext (List.range 16) (fun i hi => by simpa using hi) _ _ fun i r hi' => ?_
    simp only [get a i hi', get b i hi', aeq_int]
    cases r <;> rfl
  rw [h1]
  congr 1
  rw [Bool.eq_iff_iff]
  simp only [List.all_eq_true, List.mem_range, decide_eq_true_eq]
  constructor
  · intro h
    apply Vector.ext
    intro i hi
    have := h i hi
    simpa [hi] using this
  · rintro rfl i _
    rfl
theorem aeq_nd (x y : Nd) : aeq TT 10000 49 x.val y.val = some (decide (x = y)) := by
  have p : ∀ n : Nd, apart TT 3 n.cells 0 = some (.int .i64 n.kind) ∧ apart TT 9 n.cells 1 = some (S n.path) ∧ apart TT 4 n.cells 2 = some (.bool n.has) ∧ apart TT 9 n.cells 3 = some (S n.value) ∧ apart TT 47 n.cells 4 = some (.agg (n.kids.toList.map (Value.int .i64)).toArray) := fun n => by
    refine ⟨rfl, rfl, rfl, rfl, ?_⟩
    have e : (n.kids.toList.map (Value.int .i64)).take 16 = n.kids.toList.map (Value.int .i64) := List.take_of_length_le (by simp)
    simp [apart, TT_47, TD.isAgg, Nd.cells, e]
  obtain ⟨x0, x1, x2, x3, x4⟩ := p x
  obtain ⟨y0, y1, y2, y3, y4⟩ := p y
  show aeq TT (9999 + 1) 49 x.val y.val = _
  rw [aeq]
  simp only [TT_49, Nd.val, List.foldr_cons, List.foldr_nil, x0, x1, x2, x3, x4, y0, y1, y2, y3, y4]
  have e1 := aeq_int 9998 x.kind y.kind
  have e2 := aeq_str 9998 x.path y.path
  have e3 := aeq_bool 9998 x.has y.has
  have e4 := aeq_str 9998 x.value y.value
  have e5 := aeq_kids 9997 x.kids y.kids
  simp only [Nat.reduceAdd] at e1 e2 e3 e4 e5
  simp only [e1, e2, e3, e4, e5]
  obtain ⟨k, pa, h, v, c⟩ := x
  obtain ⟨k', pa', h', v', c'⟩ := y
  simp
end Go.Proofs.Ythalogdopkoidaa.Ab
set_option linter.unusedVariables false
namespace Go.Proofs.Ythalogdopkoidaa.Ab
open Go Go.RowKit Go.Proofs.Ythalogdopkoidaa.Dr
theorem nrfl {α : Sort _} {a b : α} (h : a = b) : a = b := h
def qbind (x : Option Value) (f : Value → Option Env) : Option Env := x.bind f
@[congr] theorem qbind_congr {x : Option Value} {y : Unit → Option Value} {f : Value → Option Env} (h : ∀ u : Unit, x = y u) : qbind x f = qbind (y ()) f := by rw [h ()]
theorem qbind_some (v : Value) (f : Value → Option Env) : qbind (some v) f = f v := nrfl rfl
@[congr] theorem qrun_congr {T : Tab} {N : Nat} {ops : List Oper} {H : AHeap} {l : List Oper} {e : Env} {e' : Unit → Env} (h : ∀ u : Unit, e = e' u) : qrun T N ops H l e = qrun T N ops H l (e' ()) := by rw [h ()]
theorem qrun_nil {T : Tab} {N : Nat} {ops : List Oper} {H : AHeap} {e : Env} : qrun T N ops H [] e = some e := nrfl rfl
theorem qrun_cons {T : Tab} {N : Nat} {ops : List Oper} {H : AHeap} {e : Env} {d : Option Nat} {op : Op} {ty : TypeId} {pos : String} {af : Array Edge} {l : List Oper} :
    qrun T N ops H (⟨d, op, ty, pos, af, none⟩ :: l) e = qbind (qop T H (aev e) op) fun v => qrun T N ops H l (eput N e d v) := by
  simp only [qrun, q1, awant]
  cases qop T H (aev e) op <;> rfl
/-- A guard's value, looked up. -/
def qguard (v : Value) (want : Bool) (x y : Option Env) : Option Env :=
  match v with
  | .bool b => if b = want then x else y
  | .chan none => y
  | _ => none
@[congr] theorem qguard_congr {v : Value} {v' : Unit → Value} {want : Bool} {x y : Option Env} (h : ∀ u : Unit, v = v' u) : qguard v want x y = qguard (v' ()) want x y := by rw [h ()]
theorem qguard_tt (x y : Option Env) : qguard (.bool true) true x y = x := nrfl rfl
theorem qguard_ff (x y : Option Env) : qguard (.bool false) false x y = x := nrfl rfl
theorem qguard_tf (x y : Option Env) : qguard (.bool true) false x y = y := nrfl rfl
theorem qguard_v (want : Bool) (x y : Option Env) : qguard void want x y = y := nrfl rfl
theorem qguard_ft (x y : Option Env) : qguard (.bool false) true x y = y := nrfl rfl
def gget (ops : List Oper) (e : Env) (j : Nat) : Value :=
  match (ops[j]?).bind (·.dst) with
  | some t => get e t
  | none => undef
@[congr] theorem gget_congr {ops : List Oper} {e : Env} {e' : Unit → Env} {j : Nat} (h : ∀ u : Unit, e = e' u) : gget ops e j = gget ops (e' ()) j := by rw [h ()]
theorem gget_zero {e : Env} {d : Nat} {op : Op} {ty : TypeId} {pos : String} {af : Array Edge} {g : Option (Nat × Bool)} {l : List Oper} : gget (⟨some d, op, ty, pos, af, g⟩ :: l) e 0 = get e d := nrfl rfl
theorem gget_succ {e : Env} {o : Oper} {l : List Oper} {j : Nat} : gget (o :: l) e (j + 1) = gget l e j := nrfl rfl
theorem qrun_guard {T : Tab} {N : Nat} {ops : List Oper} {H : AHeap} {e : Env} {d : Option Nat} {op : Op} {ty : TypeId} {pos : String} {af : Array Edge} {l : List Oper} {j : Nat} {want : Bool} :
    qrun T N ops H (⟨d, op, ty, pos, af, some (j, want)⟩ :: l) e = qguard (gget ops e j) want (qbind (qop T H (aev e) op) fun v => qrun T N ops H l (eput N e d v)) (qrun T N ops H l (eput N e d void)) := by
  simp only [qrun, q1, awant, gget]
  cases (ops[j]?).bind (·.dst) with
  | none => rfl
  | some t =>
    dsimp only
    cases get e t <;> try rfl
    · rename_i b
      cases b <;> cases want <;> first | rfl | (cases qop T H (aev e) op <;> rfl)
    · rename_i b
      cases b <;> rfl
theorem get_nil (t : Nat) : get [] t = undef := nrfl rfl
def gif {α : Type} (b : Bool) (x y : α) : α := if b = true then x else y
@[congr] theorem gif_congr {α : Type} {b : Bool} {b' : Unit → Bool} {x y : α} (h : ∀ u : Unit, b = b' u) : gif b x y = gif (b' ()) x y := by rw [h ()]
theorem gif_t {α : Type} (x y : α) : gif true x y = x := nrfl rfl
theorem gif_f {α : Type} (x y : α) : gif false x y = y := nrfl rfl
theorem get_cons (k : Nat) (v : Value) (e : Env) (t : Nat) : get ((k, v) :: e) t = gif (t == k) v (get e t) := by
  simp only [get, gif, beq_iff_eq]
theorem eput_some (N : Nat) (e : Env) (d : Nat) (v : Value) : eput N e (some d) v = gif (decide (d < N)) ((d, v) :: e) e := by
  simp only [eput, gif, decide_eq_true_eq]
theorem eput_none (N : Nat) (e : Env) (v : Value) : eput N e none v = e := nrfl rfl
theorem aev_tmp (e : Env) (t : Nat) : aev e (.tmp t) = get e t := nrfl rfl
theorem aev_int (e : Env) (n : Int) : aev e (.const (.int .i64 n)) = .int .i64 n := nrfl rfl
theorem aev_uint (e : Env) (n : Int) : aev e (.const (.int .u64 n)) = .int .u64 n := nrfl rfl
theorem aev_byte (e : Env) (n : Int) : aev e (.const (.int .u8 n)) = .int .u8 n := nrfl rfl
theorem aev_bool (e : Env) (b : Bool) : aev e (.const (.bool b)) = .bool b := nrfl rfl
theorem aev_str (e : Env) (l : List UInt8) : aev e (.const (.string ⟨l.toArray⟩)) = S l := nrfl rfl
theorem aev_nil (e : Env) : aev e (.const (.slice none 0 0)) = .slice none 0 0 := nrfl rfl
theorem aev_nilp (e : Env) : aev e (.const (.pointer none)) = .pointer none := nrfl rfl
theorem aev_func (e : Env) (f : Nat) : aev e (.func f) = .func (.func f) #[] #[] := nrfl rfl
section
variable {T : Tab} {H : AHeap} {ev : Operand → Value}
theorem qop_move (x : Operand) : qop T H ev (.move x) = some (ev x) := nrfl rfl
theorem qop_assign (x : Operand) : qop T H ev (.assign x) = some (ev x) := nrfl rfl
theorem qop_len (x : Operand) (t : Nat) : qop T H ev (.call { callee := .builtin .len, args := #[x], argTypes := #[t] }) = alen T t (ev x) := nrfl rfl
def amin (a b : Value) : Option Value :=
  match a, b with
  | .int k a, .int _ b => some (.int k (if b < a then b else a))
  | _, _ => none
def amax (a b : Value) : Option Value :=
  match a, b with
  | .int k a, .int _ b => some (.int k (if b > a then b else a))
  | _, _ => none
theorem qop_min (x y : Operand) (ts : Array Nat) : qop T H ev (.call { callee := .builtin .min, args := #[x, y], argTypes := ts }) = amin (ev x) (ev y) := nrfl rfl
theorem qop_max (x y : Operand) (ts : Array Nat) : qop T H ev (.call { callee := .builtin .max, args := #[x, y], argTypes := ts }) = amax (ev x) (ev y) := nrfl rfl
theorem amin_int (k : IntKind) (a b : Int) : amin (.int k a) (.int k b) = some (.int k (min a b)) := by
  simp only [amin]; congr 2; omega
theorem amax_int (k : IntKind) (a b : Int) : amax (.int k a) (.int k b) = some (.int k (max a b)) := by
  simp only [amax]; congr 2; omega
theorem qop_bin (op : BinOp) (t : Nat) (x y : Operand) (u : Nat) : qop T H ev (.binOp op t x y u) = abin T op t (ev x) (ev y) := nrfl rfl
theorem qop_ixa (t : Nat) (x y : Operand) : qop T H ev (.indexAddr t x y) = aindex T t (ev x) (ev y) := nrfl rfl
theorem qop_ix (t : Nat) (x y : Operand) : qop T H ev (.index t x y) = aget T t (ev x) (ev y) := nrfl rfl
theorem qop_load (t : Nat) (x : Operand) : qop T H ev (.load t x) = aload T H t (ev x) := nrfl rfl
theorem qop_field (t : Nat) (x : Operand) (f : Nat) : qop T H ev (.fieldAddr t x f) = afield T t (ev x) f := nrfl rfl
theorem qop_fld (t : Nat) (x : Operand) (f : Nat) : qop T H ev (.field t x f) = apick T t (ev x) f := nrfl rfl
theorem qop_conv (s d : Nat) (x : Operand) : qop T H ev (.convert s d x) = aconv T H s d (ev x) := nrfl rfl
theorem qop_slice00 (t : Nat) (x : Operand) : qop T H ev (.slice t x none none none) = aslice T t (ev x) none none := nrfl rfl
theorem qop_slice10 (t : Nat) (x a : Operand) : qop T H ev (.slice t x (some a) none none) = aslice T t (ev x) (some (ev a)) none := nrfl rfl
theorem qop_slice01 (t : Nat) (x b : Operand) : qop T H ev (.slice t x none (some b) none) = aslice T t (ev x) none (some (ev b)) := nrfl rfl
theorem qop_slice11 (t : Nat) (x a b : Operand) : qop T H ev (.slice t x (some a) (some b) none) = aslice T t (ev x) (some (ev a)) (some (ev b)) := nrfl rfl
theorem qop_build (t : Nat) (l : List (Nat × Operand)) : qop T H ev (.build t l.toArray) = abuild T t (l.map fun p => (p.1, ev p.2)) := nrfl rfl
theorem qop_fn (g : Fn) (l : List Operand) : qop T H ev (.makeFunc g #[] l.toArray) = some (.func g #[] (l.map ev).toArray) := by simp [qop]
def anot : Value → Option Value
  | .bool b => some (.bool (!b))
  | _ => none
theorem qop_not (t : Nat) (x : Operand) : qop T H ev (.unOp .not t x) = anot (ev x) := nrfl rfl
theorem anot_bool (b : Bool) : anot (.bool b) = some (.bool (!b)) := nrfl rfl
def apk (c a b : Value) : Option Value :=
  match c with
  | .bool t => some (if t then a else b)
  | _ => none
theorem qop_pick (c a b : Operand) : qop T H ev (.pick c a b) = apk (ev c) (ev a) (ev b) := nrfl rfl
theorem apk_t (a b : Value) : apk (.bool true) a b = some a := nrfl rfl
theorem apk_f (a b : Value) : apk (.bool false) a b = some b := nrfl rfl
def anil : Value → Option Value
  | .pointer (some ⟨i, o, none⟩) => some (.pointer (some ⟨i, o, none⟩))
  | .func (.func f) a b => some (.func (.func f) a b)
  | _ => none
theorem qop_nil (x : Operand) : qop T H ev (.nilCheck x) = anil (ev x) := nrfl rfl
theorem anil_ptr (i o : Nat) : anil (.pointer (some ⟨i, o, none⟩)) = some (.pointer (some ⟨i, o, none⟩)) := nrfl rfl
theorem anil_fn (f : Nat) (a b : Array Value) : anil (.func (.func f) a b) = some (.func (.func f) a b) := nrfl rfl
def aext (v : Value) (i : Nat) : Option Value :=
  match v with
  | .tuple vs => vs[i]?
  | _ => none
theorem qop_ext (x : Operand) (i : Nat) : qop T H ev (.extract x i) = aext (ev x) i := nrfl rfl
theorem aext_0 (a : Value) (l : List Value) : aext (.tuple (a :: l).toArray) 0 = some a := by simp [aext]
theorem aext_1 (a b : Value) (l : List Value) : aext (.tuple (a :: b :: l).toArray) 1 = some b := by simp [aext]
theorem aext_2 (a b c : Value) (l : List Value) : aext (.tuple (a :: b :: c :: l).toArray) 2 = some c := by simp [aext]
end
theorem argEnv_nil (k : Nat) : argEnv k [] = [] := nrfl rfl
theorem argEnv_cons (k : Nat) (v : Value) (l : List Value) : argEnv k (v :: l) = (k, v) :: argEnv (k + 1) l := nrfl rfl
theorem ares_one (T : Tab) (H : AHeap) (e : Env) (t : Nat) : ares T H e [.tmp t] = some (get e t) := nrfl rfl
theorem ares_two (T : Tab) (H : AHeap) (e : Env) (t u : Nat) : ares T H e [.tmp t, .tmp u] = some (.tuple #[get e t, get e u]) := nrfl rfl
theorem ares_three (T : Tab) (H : AHeap) (e : Env) (t u x : Nat) : ares T H e [.tmp t, .tmp u, .tmp x] = some (.tuple #[get e t, get e u, get e x]) := nrfl rfl
attribute [go_sem] qguard_v qbind_some qrun_nil qrun_cons qrun_guard qguard_tt qguard_tf qguard_ft qguard_ff gget_zero gget_succ get_nil get_cons eput_some eput_none aev_tmp aev_int aev_uint aev_byte aev_bool aev_str aev_nil aev_nilp aev_func
  qop_move qop_assign qop_len qop_min qop_max amin_int amax_int qop_bin qop_ixa qop_ix qop_load qop_field qop_fld qop_conv qop_slice00 qop_slice10 qop_slice01 qop_slice11 qop_build qop_fn qop_not anot_bool qop_pick apk_t apk_f qop_nil anil_ptr anil_fn qop_ext aext_0 aext_1 aext_2
  argEnv_nil argEnv_cons ares_one ares_two ares_three Nat.reduceAdd Nat.reduceLT Nat.reduceEqDiff Nat.reduceBEq decide_true gif_t gif_f
theorem abin_int (op : BinOp) (t : Nat) (k k' : IntKind) (a b : Int) : abin TT op t (.int k a) (.int k' b) = abinInt op k a k' b := nrfl rfl
section
variable (k : IntKind) (a b : Int)
theorem ai_add : abinInt .add k a k b = some (.int k (k.wrap (a + b))) := by simp [abinInt]
theorem ai_sub : abinInt .sub k a k b = some (.int k (k.wrap (a - b))) := by simp [abinInt]
theorem ai_mul : abinInt .mul k a k b = some (.int k (k.wrap (a * b))) := by simp [abinInt]
theorem ai_eql : abinInt .eql k a k b = some (.bool (decide (a = b))) := by simp [abinInt]
theorem ai_neq : abinInt .neq k a k b = some (.bool (!decide (a = b))) := by simp [abinInt]
theorem ai_lss : abinInt .lss k a k b = some (.bool (decide (a < b))) := by simp [abinInt]
theorem ai_leq : abinInt .leq k a k b = some (.bool (decide (a ≤ b))) := by simp [abinInt]
theorem ai_gtr : abinInt .gtr k a k b = some (.bool (decide (b < a))) := by simp [abinInt]
theorem ai_geq : abinInt .geq k a k b = some (.bool (decide (b ≤ a))) := by simp [abinInt]
theorem ai_quo (h : b ≠ 0) : abinInt .quo k a k b = some (.int k (k.wrap (a.tdiv b))) := by simp [abinInt, h]
theorem ai_rem (h : b ≠ 0) : abinInt .rem k a k b = some (.int k (a.tmod b)) := by simp [abinInt, h]
end
theorem wrap64 {x : Int} (h0 : -9223372036854775808 ≤ x) (h1 : x < 9223372036854775808) : IntKind.i64.wrap x = x := by
  simp [IntKind.wrap, IntKind.signed, IntKind.bits]
  omega
theorem toList_mk (l : List UInt8) : (ByteArray.mk l.toArray).toList = l := by rw [ByteArray.toList_eq]
theorem as_eql (t : Nat) (a b : List UInt8) : abin TT .eql t (S a) (S b) = some (.bool (decide (a = b))) := by
  simp only [abin, S, abinStr, S_inj]
theorem as_neq (t : Nat) (a b : List UInt8) : abin TT .neq t (S a) (S b) = some (.bool (!decide (a = b))) := by
  simp only [abin, S, abinStr, S_inj]
theorem as_lss (t : Nat) (a b : List UInt8) : abin TT .lss t (S a) (S b) = some (.bool (decide (a < b))) := by
  simp only [abin, S, abinStr, toList_mk, bytesLess_eq]
theorem not_lt_le (a b : List UInt8) : (decide (a < b) || decide (a = b)) = decide (a ≤ b) := by
  rw [Bool.eq_iff_iff]
  simp only [Bool.or_eq_true, decide_eq_true_eq]
  exact (List.le_iff_lt_or_eq).symm
theorem as_leq (t : Nat) (a b : List UInt8) : abin TT .leq t (S a) (S b) = some (.bool (decide (a ≤ b))) := by
  simp only [abin, S, abinStr, toList_mk, bytesLess_eq, S_inj, not_lt_le]
theorem as_gtr (t : Nat) (a b : List UInt8) : abin TT .gtr t (S a) (S b) = some (.bool (decide (b < a))) := by
  simp only [abin, S, abinStr, toList_mk, bytesLess_eq, S_inj, not_lt_le]
  congr 2
  rw [Bool.eq_iff_iff]; simp [List.not_le]
theorem as_geq (t : Nat) (a b : List UInt8) : abin TT .geq t (S a) (S b) = some (.bool (decide (b ≤ a))) := by
  simp only [abin, S, abinStr, toList_mk, bytesLess_eq]
  congr 2
  rw [Bool.eq_iff_iff]; simp [List.not_lt]
theorem as_add (t : Nat) (a b : List UInt8) (h : a.length + b.length ≤ 9223372036854775807) : abin TT .add t (S a) (S b) = some (S (a ++ b)) := by
  simp only [abin, S, abinStr, ByteArray.size, List.size_toArray, if_pos h]
  congr 2
theorem alen_S (l : List UInt8) : alen TT 9 (S l) = some (.int .i64 l.length) := by simp [alen, TT_9, S, ByteArray.size]
theorem abin_bool_eql (a b : Bool) : abin TT .eql 4 (.bool a) (.bool b) = some (.bool (decide (a = b))) := by
  show (aeq TT 10000 4 (.bool a) (.bool b)).map _ = _
  rw [show (10000 : Nat) = 9999 + 1 from rfl, aeq_bool]; rfl
theorem abin_bool_neq (a b : Bool) : abin TT .neq 4 (.bool a) (.bool b) = some (.bool (!decide (a = b))) := by
  show (aeq TT 10000 4 (.bool a) (.bool b)).map (fun b => Value.bool (!b)) = _
  rw [show (10000 : Nat) = 9999 + 1 from rfl, aeq_bool]; rfl
theorem abin_nd_neq (x y : Nd) : abin TT .neq 49 x.val y.val = some (.bool (!decide (x = y))) := by
  show (aeq TT 10000 49 x.val y.val).map (fun b => Value.bool (!b)) = _
  rw [aeq_nd]; rfl
theorem aeq_pr (x y : Pr) : aeq TT 10000 52 x.val y.val = some (decide (x = y)) := by
  show aeq TT (9999 + 1) 52 x.val y.val = _
  rw [aeq]
  have e1 := aeq_str 9998 x.key y.key
  have e2 := aeq_str 9998 x.value y.value
  have p : ∀ n : Pr, apart TT 9 n.cells 0 = some (S n.key) ∧ apart TT 9 n.cells 1 = some (S n.value) := fun n => ⟨rfl, rfl⟩
  obtain ⟨x0, x1⟩ := p x
  obtain ⟨y0, y1⟩ := p y
  simp only [Nat.reduceAdd] at e1 e2
  simp only [TT_52, Pr.val, List.foldr_cons, List.foldr_nil, x0, x1, y0, y1, e1, e2]
  obtain ⟨k, v⟩ := x
  obtain ⟨k', v'⟩ := y
  simp
theorem abin_pr_eql (x y : Pr) : abin TT .eql 52 x.val y.val = some (.bool (decide (x = y))) := by
  show (aeq TT 10000 52 x.val y.val).map _ = _
  rw [aeq_pr]; rfl
theorem abin_pr_neq (x y : Pr) : abin TT .neq 52 x.val y.val = some (.bool (!decide (x = y))) := by
  show (aeq TT 10000 52 x.val y.val).map (fun b => Value.bool (!b)) = _
  rw [aeq_pr]; rfl
theorem aget_S {l : List UInt8} {j : Nat} {k : IntKind} (h : j < l.length) : aget TT 9 (S l) (.int k (j : Int)) = some (U l[j]) := by
  simp only [aget, TT_9, S]
  rw [dif_pos (by simpa [ByteArray.size] using h)]
  simp only [U, Int.toNat_natCast]
  rfl
theorem extract_mk (l : List UInt8) (a b : Nat) : (ByteArray.mk l.toArray).extract a b = ByteArray.mk ((l.take b).drop a).toArray := by
  apply ByteArray.ext
  rw [ByteArray.data_extract]
  apply Array.ext'
  simp [List.drop_take]
theorem aslice_S10 {l : List UInt8} {a : Nat} {k : IntKind} (h : a ≤ l.length) : aslice TT 9 (S l) (some (.int k (a : Int))) none = some (S (l.drop a)) := by
  simp only [aslice, TT_9, S, abound, ByteArray.size, List.size_toArray]
  rw [if_pos (by omega)]
  simp only [Int.toNat_natCast, extract_mk]
  rw [List.take_of_length_le (by simp)]
theorem aslice_S01 {l : List UInt8} {b : Nat} {k : IntKind} (h : b ≤ l.length) : aslice TT 9 (S l) none (some (.int k (b : Int))) = some (S (l.take b)) := by
  simp only [aslice, TT_9, S, abound, ByteArray.size, List.size_toArray]
  rw [if_pos (by omega)]
  simp only [Int.toNat_natCast, extract_mk, List.drop_zero]
theorem aslice_S11 {l : List UInt8} {a b : Nat} {k k' : IntKind} (h : a ≤ b) (hb : b ≤ l.length) : aslice TT 9 (S l) (some (.int k (a : Int))) (some (.int k' (b : Int))) = some (S ((l.take b).drop a)) := by
  simp only [aslice, TT_9, S, abound, ByteArray.size, List.size_toArray]
  rw [if_pos (by omega)]
  dsimp only
  rw [if_pos (by omega)]
  simp only [Int.toNat_natCast, extract_mk]
attribute [go_sem] abin_int ai_add ai_sub ai_mul ai_eql ai_neq ai_lss ai_leq ai_gtr ai_geq as_eql as_neq as_lss as_leq as_gtr as_geq alen_S abin_bool_eql abin_bool_neq abin_nd_neq abin_pr_eql abin_pr_neq Int.toNat_natCast
section
variable {P : Program} {T : Tab} {N : Nat} {ok : Nat → Prop} {Q : Exit → Env → AHeap → Prop} {e e' : Env} {H : AHeap}
theorem AC_seqQ (hT : TOK P T) {i : Nat} {l : List Oper} {y : Code} (h : qrun T N l H l e = some e') (hk : AC P N ok y Q e' H) : AC P N ok (.seq (.region i l.toArray false) y) Q e H :=
  AC_seq (AC_quiet hT h hk)
theorem AC_seqD (hT : TOK P T) {i : Nat} {l : List Oper} {y : Code} (hm : P.follows .mixedOrders = true) (hB : schedOK .any l [] (lexS 0 l.length) = true) (h : qrun T N l H l e = some e') (hk : AC P N ok y Q e' H) : AC P N ok (.seq (.region i l.toArray true) y) Q e H :=
  AC_seq (AC_quiet_draw hT hm hB h hk)
theorem AC_t {c : Operand} {x y : Code} {b : Bool} (hc : aev e c = .bool b) (hb : b = true) (h : AC P N ok x Q e H) : AC P N ok (.cond c x y) Q e H := by subst hb; exact AC_cond hc h
theorem AC_f {c : Operand} {x y : Code} {b : Bool} (hc : aev e c = .bool b) (hb : b = false) (h : AC P N ok y Q e H) : AC P N ok (.cond c x y) Q e H := by subst hb; exact AC_cond hc h
/-- What stands between, said. -/
theorem AC_cut {x y : Code} (K : Env → AHeap → Prop) (h : AC P N ok x (thenQ K Q) e H) (hk : ∀ e' H', AExt ok H H' → K e' H' → AC P N ok y Q e' H') : AC P N ok (.seq x y) Q e H :=
  AC_seq (AC_mono h fun ex e' H' hX hq => by cases ex <;> first | exact hk e' H' hX hq | exact hq)
theorem ACalls_by {f : Nat} {fn : Func} {c : Code} {args : List Value} {M : Nat → Prop} {Q : Value → AHeap → Prop} {rs : List ResultVar} (N : Nat) (hT : TOK P T) (hf : P.funcs[f]? = some fn) (hb : fn.body = some c) (hN : fn.ntmps = N) (hr : fn.results.toList = rs) (hl : args.length ≤ N)
    (h : AC P N (fun i => H.length ≤ i ∨ M i) c (fun ex e' H' => (ex = .ret ∨ ex = .normal) ∧ ∃ v, ares T H' e' rs = some v ∧ Q v H') (argEnv 0 args) H) : ACalls P f args H M Q := by
  subst hN hr
  exact ACalls_of hT hf hb hl h
end
theorem nd_true {p : Prop} [Decidable p] (h : ¬ p) : (!decide p) = true := by simp [h]
theorem nd_false {p : Prop} [Decidable p] (h : p) : (!decide p) = false := by simp [h]
def isq : Op → Bool
  | .alloc _ => false
  | .box _ _ => false
  | .buildSlice _ _ _ => false
  | .makeSlice _ _ _ => false
  | .store _ _ _ => false
  | .call c => match c.callee with
    | .builtin .len => true
    | .builtin .min => true
    | .builtin .max => true
    | _ => false
  | _ => true
def flags (late : List Nat) : Nat → List Oper → List (Nat × Bool)
  | _, [] => []
  | k, o :: l => (k, isq o.op && late.all (fun m => decide (k ≤ m))) :: flags late (k + 1) l
/-- What is left of a region, from its k-th operation on. -/
def AQ (P : Program) (N : Nat) (ok : Nat → Prop) (d : Bool) (late : List Nat) (ops : List Oper) (k : Nat) (l : List Oper) (K : Env → AHeap → Prop) (e : Env) (H : AHeap) : Prop :=
  (∀ j, l[j]? = ops[k + j]?) → if d = true then AS P N ok ops late (flags late k l) K e H else AL P N ok ops l K e H
section
variable {P : Program} {T : Tab} {N : Nat} {ok : Nat → Prop} {d : Bool} {late : List Nat} {ops : List Oper} {k : Nat} {l : List Oper} {K : Env → AHeap → Prop} {e e' : Env} {H : AHeap} {Q : Exit → Env → AHeap → Prop}
theorem AC_regL {i : Nat} (h : AQ P N ok false [] l 0 l (Q .normal) e H) : AC P N ok (.region i l.toArray false) Q e H :=
  AC_region (by simpa [AQ] using h (fun j => by simp))
theorem AC_regD {i : Nat} (late : List Nat) (hm : P.follows .mixedOrders = true) (hB : schedOK .any l late (flags late 0 l) = true) (h : AQ P N ok true late l 0 l (Q .normal) e H) : AC P N ok (.region i l.toArray true) Q e H :=
  AC_draw late _ hm hB (by simpa [AQ] using h (fun j => by simp))
theorem AQ_nil (h : K e H) : AQ P N ok d late ops k [] K e H := fun _ => by
  cases d
  · exact AL_nil h
  · exact AS_nil h
theorem tail_at {o : Oper} (h : ∀ j, (o :: l)[j]? = ops[k + j]?) : ops[k]? = some o ∧ ∀ j, l[j]? = ops[k + 1 + j]? :=
  ⟨by simpa using (h 0).symm, fun j => by have := h (j + 1); simpa [Nat.add_assoc, Nat.add_comm 1 j] using this⟩
theorem AQ_q1 (hT : TOK P T) {o : Oper} (hq : isq o.op = true) (h : q1 T N ops H o e = some e') (hk : AQ P N ok d late ops (k + 1) l K e' H) : AQ P N ok d late ops k (o :: l) K e H := fun hl => by
  obtain ⟨h0, h1⟩ := tail_at hl
  have hk' := hk h1
  cases d
  · exact AL_q1 hT h hk'
  · simp only [if_true, flags, hq] at hk' ⊢
    unfold q1 at h
    split at h
    · rename_i hw
      cases hqq : qop T H (aev e) o.op with
      | none => rw [hqq] at h; cases h
      | some v =>
        rw [hqq] at h
        obtain rfl := Option.some.inj h
        cases true && late.all fun m => decide (k ≤ m)
        · exact AS_only h0 hw (AStep_q hT hqq hk')
        · exact AS_take hT h0 hw hqq hk'
    · rename_i hw
      obtain rfl := Option.some.inj h
      cases true && late.all fun m => decide (k ≤ m)
      · exact AS_only_pass h0 hw hk'
      · exact AS_take_pass h0 hw hk'
    · cases h
theorem AQ_run (hT : TOK P T) : ∀ (n : Nat) (l : List Oper) (k : Nat) (e : Env), (l.take n).all (fun o => isq o.op) = true → qrun T N ops H (l.take n) e = some e' → AQ P N ok d late ops (k + n) (l.drop n) K e' H → AQ P N ok d late ops k l K e H
  | 0, l, k, e, _, h, hk => by
    obtain rfl := Option.some.inj h
    exact hk
  | n + 1, [], k, e, _, h, hk => by
    obtain rfl := Option.some.inj h
    exact fun _ => by
      have := hk (fun j => by
        rename_i h0
        have := h0 (n + 1 + j)
        simpa [Nat.add_assoc] using this)
      simpa [flags] using this
  | n + 1, o :: l, k, e, ha, h, hk => by
    simp only [List.take_succ_cons, List.all_cons, Bool.and_eq_true] at ha
    simp only [List.take_succ_cons, qrun] at h
    cases h1 : q1 T N ops H o e with
    | none => rw [h1] at h; cases h
    | some e1 =>
      rw [h1] at h
      refine AQ_q1 hT ha.1 h1 (AQ_run hT n l (k + 1) e1 ha.2 h ?_)
      rw [Nat.add_assoc, Nat.add_comm 1 n]
      exact hk
/-- All that is left, at once. -/
theorem AQ_all (hT : TOK P T) (ha : l.all (fun o => isq o.op) = true) (h : qrun T N ops H l e = some e') (hk : K e' H) : AQ P N ok d late ops k l K e H :=
  AQ_run hT l.length l k e (by simpa using ha) (by simpa using h) (by rw [List.drop_length]; exact AQ_nil hk)
theorem AQ_step {o : Oper} (hq : isq o.op = false) (hw : awant ops e o = some true) (h : AStep P N ok (d = true ∧ late.contains k = false) o (fun e' H' => AQ P N ok d late ops (k + 1) l K e' H') e H) : AQ P N ok d late ops k (o :: l) K e H := fun hl => by
  obtain ⟨h0, h1⟩ := tail_at hl
  cases d
  · simp only [Bool.false_eq_true, if_false]
    refine AL_step hw fun perm w0 β a w Qc g1 g2 g3 g4 => Oper.wp_mono (fun a' w' hp => ?_) (h perm w0 β a w Qc g1 g2 g3 g4)
    refine ⟨fun hf => hf.elim, St.mono hp.2 fun e' H' _ hK => ?_⟩
    simpa using hK h1
  · simp only [if_true, flags, hq, Bool.false_and]
    refine AS_only h0 hw fun perm w0 β a w Qc g1 g2 g3 g4 => Oper.wp_mono (fun a' w' hp => ?_) (h perm w0 β a w Qc g1 g2 g3 g4)
    refine ⟨fun hf => hp.1 ⟨rfl, hf⟩, St.mono hp.2 fun e' H' _ hK => ?_⟩
    simpa using hK h1
theorem AQ_pass {o : Oper} (hw : awant ops e o = some false) (h : AQ P N ok d late ops (k + 1) l K (eput N e o.dst void) H) : AQ P N ok d late ops k (o :: l) K e H := fun hl => by
  obtain ⟨h0, h1⟩ := tail_at hl
  have h' := h h1
  cases d
  · exact AL_pass hw h'
  · simp only [if_true, flags] at h' ⊢
    cases isq o.op && late.all fun m => decide (k ≤ m)
    · exact AS_only_pass h0 hw h'
    · exact AS_take_pass h0 hw h'
theorem AQ_e (hT : TOK P T) {o : Oper} {r : Eff} (hq : isq o.op = false) (hw : awant ops e o = some true) (h : eop T H (aev e) o.op = some r) (hok : ∀ i, r.2.2 = some i → ok i) (hear : d = false ∨ late.contains k = true ∨ r.2.2 = none) (hk : AQ P N ok d late ops (k + 1) l K (eput N e o.dst r.1) r.2.1) : AQ P N ok d late ops k (o :: l) K e H :=
  AQ_step hq hw (AStep_e hT h hok (fun hh => by
    rcases hear with h' | h' | h'
    · rw [h'] at hh; cases hh.1
    · rw [h'] at hh; cases hh.2
    · exact h') hk)
/-- The first n at once. -/
def qtake (T : Tab) (N : Nat) (ops : List Oper) (H : AHeap) (n : Nat) (l : List Oper) (e : Env) : Option Env := qrun T N ops H (l.take n) e
@[congr] theorem qtake_congr {T : Tab} {N : Nat} {ops : List Oper} {H : AHeap} {n : Nat} {l : List Oper} {e : Env} {e' : Unit → Env} (h : ∀ u : Unit, e = e' u) : qtake T N ops H n l e = qtake T N ops H n l (e' ()) := by rw [h ()]
theorem qtake_zero {T : Tab} {N : Nat} {ops : List Oper} {H : AHeap} {l : List Oper} {e : Env} : qtake T N ops H 0 l e = some e := nrfl rfl
theorem qtake_drop {T : Tab} {N : Nat} {ops : List Oper} {H : AHeap} {n m : Nat} {o : Oper} {l : List Oper} {e : Env} : qtake T N ops H n (List.drop (m + 1) (o :: l)) e = qtake T N ops H n (List.drop m l) e := nrfl rfl
theorem qtake_drop0 {T : Tab} {N : Nat} {ops : List Oper} {H : AHeap} {n : Nat} {l : List Oper} {e : Env} : qtake T N ops H n (List.drop 0 l) e = qtake T N ops H n l e := nrfl rfl
theorem qrun_drop {T : Tab} {N : Nat} {ops : List Oper} {H : AHeap} {m : Nat} {o : Oper} {l : List Oper} {e : Env} : qrun T N ops H (List.drop (m + 1) (o :: l)) e = qrun T N ops H (List.drop m l) e := nrfl rfl
theorem qrun_drop0 {T : Tab} {N : Nat} {ops : List Oper} {H : AHeap} {l : List Oper} {e : Env} : qrun T N ops H (List.drop 0 l) e = qrun T N ops H l e := nrfl rfl
theorem qtake_cons {T : Tab} {N : Nat} {ops : List Oper} {H : AHeap} {n : Nat} {e : Env} {d : Option Nat} {op : Op} {ty : TypeId} {pos : String} {af : Array Edge} {l : List Oper} :
    qtake T N ops H (n + 1) (⟨d, op, ty, pos, af, none⟩ :: l) e = qbind (qop T H (aev e) op) fun v => qtake T N ops H n l (eput N e d v) := nrfl qrun_cons
theorem qtake_guard {T : Tab} {N : Nat} {ops : List Oper} {H : AHeap} {n : Nat} {e : Env} {d : Option Nat} {op : Op} {ty : TypeId} {pos : String} {af : Array Edge} {l : List Oper} {j : Nat} {want : Bool} :
    qtake T N ops H (n + 1) (⟨d, op, ty, pos, af, some (j, want)⟩ :: l) e = qguard (gget ops e j) want (qbind (qop T H (aev e) op) fun v => qtake T N ops H n l (eput N e d v)) (qtake T N ops H n l (eput N e d void)) := nrfl qrun_guard
attribute [go_sem] qtake_drop qtake_drop0 qrun_drop qrun_drop0 qtake_zero qtake_cons qtake_guard
theorem AQ_take (hT : TOK P T) (n : Nat) (ha : (l.take n).all (fun o => isq o.op) = true) (h : qtake T N ops H n l e = some e') (hk : AQ P N ok d late ops (k + n) (l.drop n) K e' H) : AQ P N ok d late ops k l K e H := AQ_run hT n l k e ha h hk
/-- A call of a function. -/
theorem AQ_c {dst : Option Nat} {ty : TypeId} {pos : String} {af : Array Edge} {gd : Option (Nat × Bool)} {fo : Operand} {l0 : List Operand} {ts : Array Nat} {g : Nat} {cl : List Value} {args : List Value} {M : Nat → Prop} {Qc : Value → AHeap → Prop}
    (hw : awant ops e ⟨dst, .call { callee := .value fo, args := l0.toArray, argTypes := ts }, ty, pos, af, gd⟩ = some true) (hf : aev e fo = .func (.func g) #[] cl.toArray) (hg : Fok P g) (hargs : l0.map (aev e) ++ cl = args)
    (h : ACalls P g args H M Qc) (hM : ∀ i, i < H.length → M i → ok i) (hear : d = false ∨ late.contains k = true ∨ ∀ i, i < H.length → ¬ M i)
    (hk : ∀ v H', AExt M H H' → Qc v H' → AQ P N ok d late ops (k + 1) l K (eput N e dst v) H') : AQ P N ok d late ops k (⟨dst, .call { callee := .value fo, args := l0.toArray, argTypes := ts }, ty, pos, af, gd⟩ :: l) K e H :=
  AQ_step rfl hw (AStep_call rfl rfl hf hg (by simpa [hargs] using h) hM (fun hh => by
    rcases hear with h' | h' | h'
    · rw [h'] at hh; cases hh.1
    · rw [h'] at hh; cases hh.2
    · exact h') hk)
end
end Go.Proofs.Ythalogdopkoidaa.Ab
set_option linter.unusedVariables false
namespace Go.Proofs.Ythalogdopkoidaa.Ab
open Go Go.RowKit Go.Proofs.Ythalogdopkoidaa.Dr
def Ob (H : AHeap) (i ty : Nat) (cells : List Value) : Prop := H[i]? = some (some ⟨ty, cells, true⟩)
theorem Ob.lt {H : AHeap} {i ty : Nat} {cells : List Value} (h : Ob H i ty cells) : i < H.length := (List.getElem?_eq_some_iff.1 h).1
theorem Ob.ext {H H' : AHeap} {i ty : Nat} {cells : List Value} {M : Nat → Prop} (h : Ob H i ty cells) (hX : AExt M H H') (hM : ¬ M i) : Ob H' i ty cells := hX.live h hM
theorem Ob.keep {H H' : AHeap} {i ty : Nat} {cells : List Value} (h : Ob H i ty cells) (hX : AExt (fun _ => False) H H') : Ob H' i ty cells := h.ext hX id
theorem Ob.load {H : AHeap} {i ty : Nat} {cells : List Value} (h : Ob H i ty cells) (t k : Nat) : aload TT H t (.pointer (some ⟨i, k, none⟩)) = apart TT t cells k := by
  have h' : H[i]? = some (some ⟨ty, cells, true⟩) := h
  simp only [aload, h']
/-- One cell's values. -/
structure One (v : Value) : Prop where
  known : known v = true
  cells : v.cells = #[v]
  flat : flat v = true
theorem One.int (k : IntKind) (n : Int) : One (.int k n) := ⟨rfl, rfl, rfl⟩
theorem One.bool (b : Bool) : One (.bool b) := ⟨rfl, rfl, rfl⟩
theorem One.str (s : List UInt8) : One (S s) := ⟨rfl, rfl, rfl⟩
theorem One.byte (b : UInt8) : One (U b) := ⟨rfl, rfl, rfl⟩
theorem One.slice (a : Option Addr) (n c : Nat) : One (.slice a n c) := ⟨rfl, rfl, rfl⟩
theorem One.ptr (a : Option Addr) : One (.pointer a) := ⟨rfl, rfl, rfl⟩
theorem Sl.one {H : AHeap} {v : Value} {ty n : Nat} {cs : List Value} (h : Sl H v ty n cs) : One v := by
  rcases h with ⟨rfl, _⟩ | ⟨i, off, o, h⟩
  · exact .slice _ _ _
  · rw [h.val]; exact .slice _ _ _
/-- What can be laid into cells. -/
structure Lay (v : Value) (xs : List Value) : Prop where
  known : known v = true
  cells : v.cells.toList = xs
  flat : xs.all flat = true
theorem One.lay {v : Value} (h : One v) : Lay v [v] := ⟨h.known, by rw [h.cells], by simp [h.flat]⟩
theorem Lay.nd (n : Nd) : Lay n.val n.cells := ⟨rfl, rfl, by
  simp only [Nd.cells, List.all_cons, List.all_map]
  simp [Ab.flat, S]⟩
theorem Lay.pr (n : Pr) : Lay n.val n.cells := ⟨rfl, rfl, rfl⟩
theorem Lay.agg {l : List Value} (h : ∀ v ∈ l, One v) : Lay (.agg l.toArray) l := ⟨rfl, rfl, by
  rw [List.all_eq_true]; exact fun v hv => (h v hv).flat⟩
/-- A slice that lies at the beginning of an object of one's own. -/
def Own (H : AHeap) (v : Value) (ty n : Nat) (cs : List Value) (i : Nat) : Prop := v = .slice (some ⟨i, 0, none⟩) n n ∧ ∃ cells, Ob H i ty cells ∧ cs.length ≤ cells.length ∧ cells.take cs.length = cs
def Buf (H : AHeap) (v : Value) (ty n : Nat) (cs : List Value) : Prop := (v = .slice none 0 0 ∧ n = 0 ∧ cs = []) ∨ ∃ i, Own H v ty n cs i
theorem Own.sl {H : AHeap} {v : Value} {ty n i : Nat} {cs : List Value} (h : Own H v ty n cs i) : Sl H v ty n cs := by
  obtain ⟨h1, cells, h2, h3, h4⟩ := h
  exact .inr ⟨i, 0, _, h1, h2, rfl, by simpa using h3, by simpa using h4⟩
theorem Buf.sl {H : AHeap} {v : Value} {ty n : Nat} {cs : List Value} (h : Buf H v ty n cs) : Sl H v ty n cs := by
  rcases h with h | ⟨i, h⟩
  · exact .inl h
  · exact h.sl
theorem Own.ext {H H' : AHeap} {v : Value} {ty n i : Nat} {cs : List Value} {M : Nat → Prop} (h : Own H v ty n cs i) (hX : AExt M H H') (hM : ¬ M i) : Own H' v ty n cs i := by
  obtain ⟨h1, cells, h2, h3, h4⟩ := h
  exact ⟨h1, cells, h2.ext hX hM, h3, h4⟩
theorem Buf.ext {H H' : AHeap} {v : Value} {ty n : Nat} {cs : List Value} {M : Nat → Prop} (h : Buf H v ty n cs) (hX : AExt M H H') (hM : ∀ i, vid v = some i → ¬ M i) : Buf H' v ty n cs := by
  rcases h with h | ⟨i, h⟩
  · exact .inl h
  · exact .inr ⟨i, h.ext hX (hM i (by rw [h.1]; rfl))⟩
theorem Sl.keep {H H' : AHeap} {v : Value} {ty n : Nat} {cs : List Value} (h : Sl H v ty n cs) (hX : AExt (fun _ => False) H H') : Sl H' v ty n cs := h.ext hX (fun _ _ => id)
theorem Buf.keep {H H' : AHeap} {v : Value} {ty n : Nat} {cs : List Value} (h : Buf H v ty n cs) (hX : AExt (fun _ => False) H H') : Buf H' v ty n cs := h.ext hX (fun _ _ => id)
theorem Own.vid {H : AHeap} {v : Value} {ty n i : Nat} {cs : List Value} (h : Own H v ty n cs i) : Ab.vid v = some i := by rw [h.1]; rfl
theorem Own.lt {H : AHeap} {v : Value} {ty n i : Nat} {cs : List Value} (h : Own H v ty n cs i) : i < H.length := by
  obtain ⟨_, cells, h2, _⟩ := h
  exact h2.lt
theorem Sl.vid_lt {H : AHeap} {v : Value} {ty n : Nat} {cs : List Value} (h : Sl H v ty n cs) {i : Nat} (hi : Ab.vid v = some i) : i < H.length := by
  rcases h with ⟨rfl, _⟩ | ⟨j, off, o, h⟩
  · cases hi
  · rw [h.val] at hi
    obtain rfl := Option.some.inj hi
    exact (List.getElem?_eq_some_iff.1 h.obj).1
theorem Buf.nil (H : AHeap) (ty : Nat) : Buf H (.slice none 0 0) ty 0 [] := .inl ⟨rfl, rfl, rfl⟩
theorem AExt.any {M : Nat → Prop} {H H' : AHeap} (h : AExt (fun _ => False) H H') : AExt M H H' := h.mono (fun _ _ => False.elim)
theorem AExt.weakF {M : Nat → Prop} {H0 H H' : AHeap} (h0 : AExt (fun _ => False) H0 H) (h : AExt M H H') (hM : ∀ i, i < H.length → M i → H0.length ≤ i) : AExt (fun _ => False) H0 H' :=
  ⟨Nat.le_trans h0.size h.size, fun i hi hn => (h.obj i (Nat.lt_of_lt_of_le hi h0.size) (fun hm => by have := hM i (Nat.lt_of_lt_of_le hi h0.size) hm; omega)).trans (h0.obj i hi hn)⟩
theorem AExt.push (M : Nat → Prop) (H : AHeap) (o : Option AObj) : AExt M H (H ++ [o]) := ⟨by simp, fun i hi _ => by rw [List.getElem?_append_left hi]⟩
theorem AExt.set1 (H : AHeap) (i : Nat) (o : Option AObj) : AExt (fun j => j = i) H (H.set i o) := ⟨by simp, fun j hj hn => by rw [List.getElem?_set_ne (Ne.symm hn)]⟩
/-- Parts, numbered. -/
def numbered : Nat → List Value → List (Nat × Value)
  | _, [] => []
  | k, v :: l => (k, v) :: numbered (k + 1) l
theorem afill_numbered {s : Nat} : ∀ (vs : List Value) (k : Nat) (cells : List Value), (∀ v ∈ vs, Ab.known v = true ∧ v.cells.toList.length = s) → cells.length = (k + vs.length) * s →
    afill (fun i => some (i * s, s)) cells (numbered k vs) = some (cells.take (k * s) ++ vs.flatMap fun v => v.cells.toList)
  | [], k, cells, _, hc => by
    simp only [numbered, afill, List.flatMap_nil, List.append_nil]
    rw [List.take_of_length_le (by rw [hc]; simp)]
  | v :: vs, k, cells, hv, hc => by
    obtain ⟨h1, h2⟩ := hv v (by simp)
    have hb : k * s + s ≤ cells.length := by
      rw [hc, List.length_cons]
      have : k * s + s = (k + 1) * s := by rw [Nat.add_mul]; omega
      rw [this]; exact Nat.mul_le_mul_right _ (by omega)
    simp only [numbered, afill]
    rw [if_pos ⟨h1, by simpa using h2, hb⟩]
    rw [afill_numbered vs (k + 1) _ (fun u hu => hv u (by simp [hu])) (by rw [over_length, hc, List.length_cons]; congr 1; omega)]
    rw [over_eq _ _ _ (by rw [h2]; exact hb), h2, List.flatMap_cons]
    congr 1
    have e : (k + 1) * s = (cells.take (k * s) ++ v.cells.toList).length := by simp at h2; simp [h2, Nat.add_mul]; omega
    rw [e, List.append_assoc, ← List.append_assoc (cells.take (k * s)), List.take_left]
    simp
section
variable {N : Nat} {ok : Nat → Prop} {d : Bool} {late : List Nat} {ops : List Oper} {k : Nat} {l : List Oper} {K : Env → AHeap → Prop} {e e' : Env} {H : AHeap} {Q : Exit → Env → AHeap → Prop}
  {dst : Option Nat} {ty : TypeId} {pos : String} {af : Array Edge} {gd : Option (Nat × Bool)}
theorem AQ_new {P : Program} (hT : TOK P TT) {op : Op} (hq : isq op = false) (hw : awant ops e ⟨dst, op, ty, pos, af, gd⟩ = some true) {v : Value} {t : Nat} {cells : List Value} (h : eop TT H (aev e) op = some (v, H ++ [some ⟨t, cells, true⟩], none))
    (hk : ∀ H', AExt (fun _ => False) H H' → Ob H' H.length t cells → H'.length = H.length + 1 → AQ P N ok d late ops (k + 1) l K (eput N e dst v) H') : AQ P N ok d late ops k (⟨dst, op, ty, pos, af, gd⟩ :: l) K e H :=
  AQ_e hT hq hw h (fun i hi => by cases hi) (.inr (.inr rfl)) (hk _ (AExt.push _ _ _) (by simp [Ob]) (by simp))
theorem AQ_alloc {P : Program} (hT : TOK P TT) {t : Nat} {ti : TI} (ht : TT t = some ti) (hw : awant ops e ⟨dst, .alloc t, ty, pos, af, gd⟩ = some true)
    (hk : ∀ H', AExt (fun _ => False) H H' → Ob H' H.length t ti.zero → H'.length = H.length + 1 → AQ P N ok d late ops (k + 1) l K (eput N e dst (.pointer (some ⟨H.length, 0, none⟩))) H') : AQ P N ok d late ops k (⟨dst, .alloc t, ty, pos, af, gd⟩ :: l) K e H :=
  AQ_new hT rfl hw (by simp only [eop, ealloc, ht]) hk
theorem AQ_box {P : Program} (hT : TOK P TT) {t : Nat} {ti : TI} {x : Operand} {v : Value} {xs : List Value} (ht : TT t = some ti) (hw : awant ops e ⟨dst, .box t x, ty, pos, af, gd⟩ = some true) (hx : aev e x = v) (hv : Lay v xs) (hs : xs.length = ti.size)
    (hk : ∀ H', AExt (fun _ => False) H H' → Ob H' H.length t xs → H'.length = H.length + 1 → AQ P N ok d late ops (k + 1) l K (eput N e dst (.pointer (some ⟨H.length, 0, none⟩))) H') : AQ P N ok d late ops k (⟨dst, .box t x, ty, pos, af, gd⟩ :: l) K e H :=
  AQ_new hT rfl hw (by
    simp only [eop, ebox, ht, hx]
    rw [if_pos ⟨hv.known, by rw [← hs, ← hv.cells]; simp, by rw [hv.cells]; exact hv.flat⟩, hv.cells]) hk
/-- A store into an object of one's own. -/
theorem AQ_store {P : Program} (hT : TOK P TT) {t : Nat} {ti : TI} {p x : Operand} {i off : Nat} {v : Value} {xs cells : List Value} {oty : Nat} (ht : TT t = some ti) (hw : awant ops e ⟨dst, .store t p x, ty, pos, af, gd⟩ = some true)
    (hp : aev e p = .pointer (some ⟨i, off, none⟩)) (hx : aev e x = v) (hv : Lay v xs) (hs : xs.length = ti.size) (hob : Ob H i oty cells) (hfit : off + xs.length ≤ cells.length) (hok : ok i) (hear : d = false ∨ late.contains k = true)
    (hk : ∀ H', AExt (fun j => j = i) H H' → Ob H' i oty (over cells off xs) → H'.length = H.length → AQ P N ok d late ops (k + 1) l K (eput N e dst undef) H') : AQ P N ok d late ops k (⟨dst, .store t p x, ty, pos, af, gd⟩ :: l) K e H :=
  AQ_e hT (r := (undef, H.set i (some ⟨oty, over cells off xs, true⟩), some i)) rfl hw (by
    simp only [eop, estore, hp, hx, ht, show H[i]? = some (some ⟨oty, cells, true⟩) from hob]
    rw [if_pos ⟨trivial, hv.known, by rw [← hs, ← hv.cells]; simp, by rw [← hs]; exact hfit, by rw [hv.cells]; exact hv.flat⟩, hv.cells]) (fun j hj => by obtain rfl := Option.some.inj hj; exact hok)
    (by rcases hear with h | h; exact .inl h; exact .inr (.inl h)) (hk _ (AExt.set1 _ _ _) (by simp [Ob, List.getElem?_set_self hob.lt]) (by simp))
theorem over_full {l cells : List Value} (h : l.length = cells.length) : over cells 0 l = l := by
  rw [over_eq _ _ _ (by omega)]
  simp [h]
/-- A variable: its object, and what is laid into it at once. -/
theorem AQ_var {P : Program} (hT : TOK P TT) {t dv : Nat} {ti : TI} {x : Operand} {v : Value} {xs : List Value} {ty1 ty2 : TypeId} {pos1 pos2 : String} {af1 af2 : Array Edge}
    (ht : TT t = some ti) (hz : ti.zero.length = ti.size) (hd : dv < N) (hx : aev (eput N e (some dv) (.pointer (some ⟨H.length, 0, none⟩))) x = v) (hv : Lay v xs) (hs : xs.length = ti.size) (hok : ok H.length) (hear : d = false ∨ late.contains (k + 1) = true)
    (hk : ∀ H', AExt (fun _ => False) H H' → Ob H' H.length t xs → H'.length = H.length + 1 → AQ P N ok d late ops (k + 1 + 1) l K (eput N e (some dv) (.pointer (some ⟨H.length, 0, none⟩))) H') :
    AQ P N ok d late ops k (⟨some dv, .alloc t, ty1, pos1, af1, none⟩ :: ⟨none, .store t (.tmp dv) x, ty2, pos2, af2, none⟩ :: l) K e H :=
  AQ_alloc hT ht rfl fun H1 hX1 hO1 hL1 =>
    AQ_store hT (off := 0) (i := H.length) ht rfl (by simp only [aev, eput, if_pos hd, get, if_true]) hx hv hs hO1 (by omega) hok hear fun H2 hX2 hO2 hL2 =>
      hk H2 ⟨by omega, fun i hi _ => (hX2.obj i (by omega) (by omega)).trans (hX1.obj i hi id)⟩ (by rwa [over_full (by omega)] at hO2) (by omega)
/-- A store into an element of a slice of one's own. -/
theorem AQ_storeE {P : Program} (hT : TOK P TT) {t : Nat} {ti : TI} {p x : Operand} {i off : Nat} {v u : Value} {xs cs : List Value} {ety n : Nat} (ht : TT t = some ti) (hw : awant ops e ⟨dst, .store t p x, ty, pos, af, gd⟩ = some true)
    (hp : aev e p = ep u off) (hx : aev e x = v) (hv : Lay v xs) (hs : xs.length = ti.size) (hob : Own H u ety n cs i) (hfit : off + xs.length ≤ cs.length) (hok : ok i) (hear : d = false ∨ late.contains k = true)
    (hk : ∀ H', AExt (fun j => j = i) H H' → Own H' u ety n (over cs off xs) i → H'.length = H.length → AQ P N ok d late ops (k + 1) l K (eput N e dst undef) H') : AQ P N ok d late ops k (⟨dst, .store t p x, ty, pos, af, gd⟩ :: l) K e H := by
  obtain ⟨h1, cells, h2, h3, h4⟩ := hob
  subst h1
  refine AQ_store hT ht hw (i := i) (off := off) (by rw [hp]; simp [ep]) hx hv hs h2 (by omega) hok hear fun H' g1 g2 g3 => hk H' g1 ⟨rfl, _, g2, by simp [over_length, h3], ?_⟩ g3
  rw [over_length, over_eq _ _ _ (by omega), over_eq _ _ _ (by omega)]
  have e1 : cs.take off = cells.take off := by rw [← h4, List.take_take]; congr 1; omega
  have e2 : cs.drop (off + xs.length) = (cells.drop (off + xs.length)).take (cs.length - (off + xs.length)) := by
    conv => lhs; rw [← h4]
    rw [List.drop_take]
  rw [e1, e2, List.append_assoc, List.append_assoc, List.take_append, List.take_append]
  rw [List.take_of_length_le (i := cs.length) (by simp; omega)]
  congr 1
  rw [List.take_of_length_le (by simp; omega)]
  congr 2
  simp
  omega
/-- A literal of a slice. -/
theorem AQ_lit {P : Program} (hT : TOK P TT) {t ety : Nat} {ti ei : TI} {n : Nat} {parts : List (Nat × Operand)} (vs : List Value) (ht : TT t = some ti) (hd : ti.d = .slice ety) (hei : TT ety = some ei) (hz : ei.zero.length = ei.size) (h0 : ei.size ≠ 0) (hn : vs.length = n) (hmax : n * ei.size ≤ 16777216)
    (hw : awant ops e ⟨dst, .buildSlice t n parts.toArray, ty, pos, af, gd⟩ = some true) (hp : (parts.map fun p => (p.1, aev e p.2)) = numbered 0 vs) (hv : ∀ v ∈ vs, ∃ xs, Lay v xs ∧ xs.length = ei.size)
    (hk : ∀ H', AExt (fun _ => False) H H' → Own H' (.slice (some ⟨H.length, 0, none⟩) n n) ety n (vs.flatMap fun v => v.cells.toList) H.length → H'.length = H.length + 1 → AQ P N ok d late ops (k + 1) l K (eput N e dst (.slice (some ⟨H.length, 0, none⟩) n n)) H') : AQ P N ok d late ops k (⟨dst, .buildSlice t n parts.toArray, ty, pos, af, gd⟩ :: l) K e H := by
  have hf := afill_numbered (s := ei.size) vs 0 (zeros n ei.zero) (fun v hv' => by
    obtain ⟨xs, h1, h2⟩ := hv v hv'
    exact ⟨h1.known, by rw [h1.cells]; exact h2⟩) (by rw [zeros_length, hz, ← hn]; simp)
  have hfl : (vs.flatMap fun v => v.cells.toList).all flat = true := by
    rw [List.all_eq_true]
    intro c hc
    obtain ⟨v, hv', hc'⟩ := List.mem_flatMap.1 hc
    obtain ⟨xs, h1, _⟩ := hv v hv'
    rw [h1.cells] at hc'
    exact List.all_eq_true.1 h1.flat c hc'
  refine AQ_new hT rfl hw (v := .slice (some ⟨H.length, 0, none⟩) n n) (t := ety) (cells := vs.flatMap fun v => v.cells.toList) ?_ fun H' g1 g2 g3 => hk H' g1 ⟨rfl, _, g2, Nat.le_refl _, List.take_of_length_le (Nat.le_refl _)⟩ g3
  simp only [eop, elit, ht, hd, hei, hp]
  rw [if_neg (by omega), hf]
  simp only [Nat.zero_mul, List.take_zero, List.nil_append, hfl, if_true]
theorem AQ_make {P : Program} (hT : TOK P TT) {t ety : Nat} {ti ei : TI} {a b : Operand} {m c : Int} (ht : TT t = some ti) (hd : ti.d = .slice ety) (hei : TT ety = some ei) (hz : ei.zero.length = ei.size) (h0 : ei.size ≠ 0) (hb0 : ei.bytes ≠ 0)
    (hw : awant ops e ⟨dst, .makeSlice t a b, ty, pos, af, gd⟩ = some true) (ha : aev e a = .int .i64 m) (hb : aev e b = .int .i64 c) (h1 : 0 ≤ m) (h2 : m ≤ c) (h3 : c.toNat * ei.bytes ≤ 140737488355328)
    (hk : ∀ H', AExt (fun _ => False) H H' → Own H' (.slice (some ⟨H.length, 0, none⟩) m.toNat m.toNat) ety m.toNat (zeros m.toNat ei.zero) H.length → H'.length = H.length + 1 → AQ P N ok d late ops (k + 1) l K (eput N e dst (.slice (some ⟨H.length, 0, none⟩) m.toNat m.toNat)) H') : AQ P N ok d late ops k (⟨dst, .makeSlice t a b, ty, pos, af, gd⟩ :: l) K e H := by
  have hle : m.toNat ≤ c.toNat := by omega
  refine AQ_new hT rfl hw (v := .slice (some ⟨H.length, 0, none⟩) m.toNat m.toNat) (t := ety) (cells := zeros c.toNat ei.zero) ?_ fun H' g1 g2 g3 => hk H' g1 ⟨rfl, _, g2, ?_, ?_⟩ g3
  · simp only [eop, emake, ht, ha, hb, hd, hei]
    rw [if_pos ⟨h0, hb0, h1, h2, h3⟩]
  · rw [zeros_length, zeros_length]; exact Nat.mul_le_mul_right _ hle
  · rw [zeros_length]
    have hm : m.toNat * ei.zero.length ≤ c.toNat * ei.zero.length := Nat.mul_le_mul_right _ hle
    simp only [zeros, ← List.map_take, List.take_range]
    congr 2
    omega
def eapp2 (T : Tab) (H : AHeap) (ety : Nat) (ei : TI) (v : Value) (m : Nat) (news : List Value) : Option Eff :=
  match v with
  | .slice none 0 0 =>
    if m = 0 then some (.slice none 0 0, H, none)
    else if m * ei.bytes ≤ 140737488355328 then some (.slice (some ⟨H.length, 0, none⟩) m m, H ++ [some ⟨ety, news, true⟩], none) else none
  | .slice (some ⟨i, 0, none⟩) n _ =>
    if m = 0 then some (.slice (some ⟨i, 0, none⟩) n n, H, none) else
    match H[i]? with
    | some (some o) =>
      if o.rw = true ∧ o.ty = ety ∧ n * ei.size ≤ o.cells.length ∧ (n + m) * ei.bytes ≤ 140737488355328 then
        some (.slice (some ⟨H.length, 0, none⟩) (n + m) (n + m), H.set i none ++ [some ⟨ety, o.cells.take (n * ei.size) ++ news, true⟩], some i)
      else none
    | _ => none
  | _ => none
theorem eappend_eq {H : AHeap} {ety m : Nat} {ei : TI} {s u : Value} {cx : List Value} (hei : TT ety = some ei) (h0 : ei.size ≠ 0) (hb0 : ei.bytes ≠ 0) (hu : Sl H u ety m cx) (hm : cx.length = m * ei.size) :
    eappend TT H ety s u = eapp2 TT H ety ei s m cx := by
  have hnot : ¬ (ei.size = 0 ∨ ei.bytes = 0) := by omega
  rcases hu with ⟨rfl, rfl, rfl⟩ | ⟨j, off, o, h⟩
  · simp only [eappend, hei, if_neg hnot, if_true]
    rfl
  · rw [h.val]
    simp only [eappend, hei, if_neg hnot]
    by_cases h0 : m = 0
    · subst h0
      have : cx = [] := List.eq_nil_of_length_eq_zero (by simpa using hm)
      subst this
      simp only [if_true]
      rfl
    · have hl := h.len
      simp only [if_neg h0, h.obj]
      rw [if_pos (by rw [← hm]; exact hl)]
      have e1 : (o.cells.drop off).take (m * ei.size) = cx := by rw [← hm, h.cells]
      simp only [e1, eapp2, if_neg h0]
      split <;> first | rfl | (repeat' split) <;> first | rfl | (simp_all; done)
/-- An append. -/
theorem AQ_append {P : Program} (hT : TOK P TT) {t ety : Nat} {ti ei : TI} {s x : Operand} {v u : Value} {n m : Nat} {cs cx : List Value} (ht : TT t = some ti) (hd : ti.d = .slice ety) (hei : TT ety = some ei) (h0 : ei.size ≠ 0) (hb0 : ei.bytes ≠ 0)
    (hw : awant ops e ⟨dst, .call { callee := .builtin .append, args := #[s, x], argTypes := #[t, t] }, ty, pos, af, gd⟩ = some true) (hs : aev e s = v) (hx : aev e x = u) (hv : Buf H v ety n cs) (hu : Sl H u ety m cx) (hn : cs.length = n * ei.size) (hm : cx.length = m * ei.size)
    (hsz : (n + m) * ei.bytes ≤ 140737488355328) (hok : ∀ i, vid v = some i → ok i) (hear : d = false ∨ late.contains k = true ∨ vid v = none)
    (hk : ∀ v' H', AExt (fun i => vid v = some i) H H' → Buf H' v' ety (n + m) (cs ++ cx) → (∀ i, vid v' = some i → H.length ≤ i ∨ (cx = [] ∧ v' = v)) → AQ P N ok d late ops (k + 1) l K (eput N e dst v') H') : AQ P N ok d late ops k (⟨dst, .call { callee := .builtin .append, args := #[s, x], argTypes := #[t, t] }, ty, pos, af, gd⟩ :: l) K e H := by
  have hsize : 0 < ei.size := by omega
  have hen := eappend_eq (s := v) hei h0 hb0 hu hm
  have hcx0 : m = 0 → cx = [] := fun h => List.eq_nil_of_length_eq_zero (by simp [hm, h])
  have hop : ∀ r, eapp2 TT H ety ei v m cx = some r → eop TT H (aev e) (.call { callee := .builtin .append, args := #[s, x], argTypes := #[t, t] }) = some r := fun r hr => by
    simp only [eop, ht, hd, if_true, hs, hx, hen, hr]
  have hmb : m * ei.bytes ≤ 140737488355328 := Nat.le_trans (Nat.mul_le_mul_right _ (by omega)) hsz
  rcases hv with ⟨rfl, rfl, rfl⟩ | ⟨i, rfl, cells, h2, h3, h4⟩
  · by_cases hm0 : m = 0
    · refine AQ_e hT (r := (.slice none 0 0, H, none)) rfl hw (hop _ ?_) (fun i hi => by cases hi) (.inr (.inr rfl)) (hk _ _ (AExt.refl _ _) (.inl ⟨rfl, by omega, by simp [hcx0 hm0]⟩) (fun i hi => by cases hi))
      simp only [eapp2]
      rw [if_pos hm0]
    · refine AQ_e hT (r := (.slice (some ⟨H.length, 0, none⟩) m m, H ++ [some ⟨ety, cx, true⟩], none)) rfl hw (hop _ ?_) (fun i hi => by cases hi) (.inr (.inr rfl)) (hk _ _ (AExt.push _ _ _) (.inr ⟨H.length, by simp, cx, by simp [Ob], by simp, by simp⟩) (fun i hi => by obtain rfl := Option.some.inj hi; exact .inl (Nat.le_refl _)))
      simp only [eapp2]
      rw [if_neg hm0, if_pos hmb]
  · by_cases hm0 : m = 0
    · refine AQ_e hT (r := (.slice (some ⟨i, 0, none⟩) n n, H, none)) rfl hw (hop _ ?_) (fun i hi => by cases hi) (.inr (.inr rfl)) (hk _ _ (AExt.refl _ _) (.inr ⟨i, by simp [hm0], cells, h2, by simp [hcx0 hm0, h3], by simp [hcx0 hm0, h4]⟩) (fun j hj => .inr ⟨hcx0 hm0, rfl⟩))
      simp only [eapp2]
      rw [if_pos hm0]
    · refine AQ_e hT (r := (.slice (some ⟨H.length, 0, none⟩) (n + m) (n + m), H.set i none ++ [some ⟨ety, cs ++ cx, true⟩], some i)) rfl hw (hop _ ?_) (fun j hj => by obtain rfl := Option.some.inj hj; exact hok _ rfl) (by
          rcases hear with h | h | h
          · exact .inl h
          · exact .inr (.inl h)
          · cases h) (hk _ _ ⟨by simp, fun j hj hn => ?_⟩ (.inr ⟨H.length, rfl, cs ++ cx, by simp [Ob], by simp, List.take_of_length_le (Nat.le_refl _)⟩) (fun j hj => by obtain rfl := Option.some.inj hj; exact .inl (Nat.le_refl _)))
      · simp only [eapp2]
        rw [if_neg hm0]
        simp only [show H[i]? = some (some ⟨ety, cells, true⟩) from h2]
        rw [if_pos ⟨trivial, trivial, by omega, hsz⟩, ← hn, h4]
      · have : j ≠ i := fun h => hn (by rw [h]; rfl)
        rw [List.getElem?_append_left (by simpa using hj), List.getElem?_set_ne (Ne.symm this)]
end
end Go.Proofs.Ythalogdopkoidaa.Ab
namespace Go.Proofs.Ythalogdopkoidaa.Ab
open Go Go.RowKit
theorem fok26 : Fok Try.prog 26 := ⟨_, _, Try.func26, rfl, rfl⟩
theorem fok27 : Fok Try.prog 27 := ⟨_, _, Try.func27, rfl, rfl⟩
theorem fok28 : Fok Try.prog 28 := ⟨_, _, Try.func28, rfl, rfl⟩
theorem fok29 : Fok Try.prog 29 := ⟨_, _, Try.func29, rfl, rfl⟩
theorem fok30 : Fok Try.prog 30 := ⟨_, _, Try.func30, rfl, rfl⟩
theorem fok31 : Fok Try.prog 31 := ⟨_, _, Try.func31, rfl, rfl⟩
theorem fok32 : Fok Try.prog 32 := ⟨_, _, Try.func32, rfl, rfl⟩
theorem fok33 : Fok Try.prog 33 := ⟨_, _, Try.func33, rfl, rfl⟩
theorem fok34 : Fok Try.prog 34 := ⟨_, _, Try.func34, rfl, rfl⟩
theorem fok35 : Fok Try.prog 35 := ⟨_, _, Try.func35, rfl, rfl⟩
theorem fok36 : Fok Try.prog 36 := ⟨_, _, Try.func36, rfl, rfl⟩
theorem fok37 : Fok Try.prog 37 := ⟨_, _, Try.func37, rfl, rfl⟩
theorem fok38 : Fok Try.prog 38 := ⟨_, _, Try.func38, rfl, rfl⟩
theorem fok39 : Fok Try.prog 39 := ⟨_, _, Try.func39, rfl, rfl⟩
theorem fok48 : Fok Try.prog 48 := ⟨_, _, Try.func48, rfl, rfl⟩
theorem fok50 : Fok Try.prog 50 := ⟨_, _, Try.func50, rfl, rfl⟩
theorem fok55 : Fok Try.prog 55 := ⟨_, _, Try.func55, rfl, rfl⟩
theorem fok56 : Fok Try.prog 56 := ⟨_, _, Try.func56, rfl, rfl⟩
theorem fok57 : Fok Try.prog 57 := ⟨_, _, Try.func57, rfl, rfl⟩
theorem fok59 : Fok Try.prog 59 := ⟨_, _, Try.func59, rfl, rfl⟩
theorem fok61 : Fok Try.prog 61 := ⟨_, _, Try.func61, rfl, rfl⟩
theorem fok62 : Fok Try.prog 62 := ⟨_, _, Try.func62, rfl, rfl⟩
theorem fok63 : Fok Try.prog 63 := ⟨_, _, Try.func63, rfl, rfl⟩
theorem fok64 : Fok Try.prog 64 := ⟨_, _, Try.func64, rfl, rfl⟩
theorem fok65 : Fok Try.prog 65 := ⟨_, _, Try.func65, rfl, rfl⟩
theorem fok66 : Fok Try.prog 66 := ⟨_, _, Try.func66, rfl, rfl⟩
theorem fok67 : Fok Try.prog 67 := ⟨_, _, Try.func67, rfl, rfl⟩
theorem fok74 : Fok Try.prog 74 := ⟨_, _, Try.func74, rfl, rfl⟩
theorem fok76 : Fok Try.prog 76 := ⟨_, _, Try.func76, rfl, rfl⟩
theorem fok78 : Fok Try.prog 78 := ⟨_, _, Try.func78, rfl, rfl⟩
theorem fok79 : Fok Try.prog 79 := ⟨_, _, Try.func79, rfl, rfl⟩
theorem fok80 : Fok Try.prog 80 := ⟨_, _, Try.func80, rfl, rfl⟩
theorem fok81 : Fok Try.prog 81 := ⟨_, _, Try.func81, rfl, rfl⟩
theorem fok83 : Fok Try.prog 83 := ⟨_, _, Try.func83, rfl, rfl⟩
theorem fok84 : Fok Try.prog 84 := ⟨_, _, Try.func84, rfl, rfl⟩
theorem fok85 : Fok Try.prog 85 := ⟨_, _, Try.func85, rfl, rfl⟩
theorem fok86 : Fok Try.prog 86 := ⟨_, _, Try.func86, rfl, rfl⟩
theorem fok87 : Fok Try.prog 87 := ⟨_, _, Try.func87, rfl, rfl⟩
theorem fok88 : Fok Try.prog 88 := ⟨_, _, Try.func88, rfl, rfl⟩
theorem fok89 : Fok Try.prog 89 := ⟨_, _, Try.func89, rfl, rfl⟩
theorem fok90 : Fok Try.prog 90 := ⟨_, _, Try.func90, rfl, rfl⟩
theorem fok93 : Fok Try.prog 93 := ⟨_, _, Try.func93, rfl, rfl⟩
theorem fok94 : Fok Try.prog 94 := ⟨_, _, Try.func94, rfl, rfl⟩
theorem fok96 : Fok Try.prog 96 := ⟨_, _, Try.func96, rfl, rfl⟩
theorem fok97 : Fok Try.prog 97 := ⟨_, _, Try.func97, rfl, rfl⟩
theorem fok98 : Fok Try.prog 98 := ⟨_, _, Try.func98, rfl, rfl⟩
end Go.Proofs.Ythalogdopkoidaa.Ab
set_option linter.unusedVariables false
namespace Go.Proofs.Ythalogdopkoidaa.Ab
open Go Go.RowKit
/-- A load of one cell out of a slice of rows. -/
theorem Sl.row {α : Type} {f : α → List Value} {s : Nat} (hs : ∀ x, (f x).length = s) {H : AHeap} {v : Value} {xs : List α} {ety : Nat} (h : Sl H v ety xs.length (xs.flatMap f)) {i j : Nat} (hi : i < xs.length) (hj : j < s) {t : Nat} {ti : TI} (ht : TT t = some ti) (ha : ti.d.isAgg = false) (h1 : ti.size = 1) : aload TT H t (ep v (i * s + j)) = (f xs[i])[j]? := by
  have hl : i * s + s ≤ (xs.flatMap f).length := by
    rw [rows_length hs]
    have := Nat.mul_le_mul_right s (Nat.succ_le_of_lt hi)
    rw [Nat.succ_mul] at this; exact this
  rw [Sl.load h ht (i * s + j) (by rw [h1]; omega) (by rw [h1]; decide)]
  unfold apart
  rw [ht]
  dsimp only
  rw [ha]
  simp only [Bool.false_eq_true, if_false]
  exact rows_get hs xs i j hi hj
theorem Sl.isPtr {α : Type} {f : α → List Value} {s : Nat} (hs : ∀ x, (f x).length = s) (h0 : 0 < s) {H : AHeap} {v : Value} {xs : List α} {ety : Nat} (h : Sl H v ety xs.length (xs.flatMap f)) {i : Nat} (hi : i < xs.length) : ∃ i off n m, v = .slice (some ⟨i, off, none⟩) n m := by
  obtain ⟨i, off, hv⟩ := Sl.ptr h (by
    intro e
    have := rows_length hs xs
    rw [e, List.length_nil] at this
    have h2 : 0 < xs.length * s := Nat.mul_pos (by omega) h0
    omega)
  exact ⟨i, off, _, _, hv⟩
section
variable {H : AHeap} {v : Value} {ps : List Pr}
theorem PrS.alen (h : PrS H v ps) : alen TT 22 v = some (.int .i64 ps.length) := Sl.alen h rfl
theorem PrS.index (h : PrS H v ps) {k : IntKind} {j : Int} (h0 : 0 ≤ j) (h1 : j < ps.length) : aindex TT 22 v (.int k j) = some (ep v (j.toNat * 2)) := Sl.index h rfl rfl h0 h1
theorem PrS.load (h : PrS H v ps) {i : Nat} (hi : i < ps.length) : aload TT H 52 (ep v (i * 2)) = some ps[i].val := by
  have hl : i * 2 + 2 ≤ (ps.flatMap Pr.cells).length := by rw [rows_length Pr.len]; omega
  rw [Sl.load h TT_52 (i * 2) hl (by decide)]
  unfold apart
  rw [TT_52]
  simp only [TD.isAgg, if_true]
  rw [if_pos hl, rows_at Pr.len ps i hi]
  rfl
theorem PrS.f0 (h : PrS H v ps) {i : Nat} (hi : i < ps.length) : afield TT 52 (ep v (i * 2)) 0 = some (ep v (i * 2 + 0)) := ep_field (Sl.isPtr Pr.len (by decide) h hi) rfl rfl ⟨_, TT_9, by decide⟩ _
theorem PrS.f1 (h : PrS H v ps) {i : Nat} (hi : i < ps.length) : afield TT 52 (ep v (i * 2)) 1 = some (ep v (i * 2 + 1)) := ep_field (Sl.isPtr Pr.len (by decide) h hi) rfl rfl ⟨_, TT_9, by decide⟩ _
theorem PrS.key (h : PrS H v ps) {i : Nat} (hi : i < ps.length) : aload TT H 9 (ep v (i * 2 + 0)) = some (S ps[i].key) := Sl.row Pr.len h hi (by decide) TT_9 rfl rfl
theorem PrS.value (h : PrS H v ps) {i : Nat} (hi : i < ps.length) : aload TT H 9 (ep v (i * 2 + 1)) = some (S ps[i].value) := Sl.row Pr.len h hi (by decide) TT_9 rfl rfl
end
section
variable {H : AHeap} {v : Value} {ns : List Nd}
theorem NdS.isPtr (h : NdS H v ns) {i : Nat} (hi : i < ns.length) : ∃ i off n m, v = .slice (some ⟨i, off, none⟩) n m := Sl.isPtr Nd.len (by decide) h hi
theorem NdS.f0 (h : NdS H v ns) {i : Nat} (hi : i < ns.length) : afield TT 49 (ep v (i * 20)) 0 = some (ep v (i * 20 + 0)) := ep_field (h.isPtr hi) rfl rfl ⟨_, TT_3, by decide⟩ _
theorem NdS.f1 (h : NdS H v ns) {i : Nat} (hi : i < ns.length) : afield TT 49 (ep v (i * 20)) 1 = some (ep v (i * 20 + 1)) := ep_field (h.isPtr hi) rfl rfl ⟨_, TT_9, by decide⟩ _
theorem NdS.f2 (h : NdS H v ns) {i : Nat} (hi : i < ns.length) : afield TT 49 (ep v (i * 20)) 2 = some (ep v (i * 20 + 2)) := ep_field (h.isPtr hi) rfl rfl ⟨_, TT_4, by decide⟩ _
theorem NdS.f3 (h : NdS H v ns) {i : Nat} (hi : i < ns.length) : afield TT 49 (ep v (i * 20)) 3 = some (ep v (i * 20 + 3)) := ep_field (h.isPtr hi) rfl rfl ⟨_, TT_9, by decide⟩ _
theorem NdS.f4 (h : NdS H v ns) {i : Nat} (hi : i < ns.length) : afield TT 49 (ep v (i * 20)) 4 = some (ep v (i * 20 + 4)) := ep_field (h.isPtr hi) rfl rfl ⟨_, TT_47, by decide⟩ _
theorem NdS.kidx (h : NdS H v ns) {i : Nat} (hi : i < ns.length) {k : IntKind} {c : Nat} (hc : c < 16) : aindex TT 47 (ep v (i * 20 + 4)) (.int k (c : Int)) = some (ep v (i * 20 + (4 + c))) := by
  obtain ⟨b, o, n, m, rfl⟩ := h.isPtr hi
  simp only [ep, aindex, TT_47, TT_3]
  rw [if_pos (by omega)]
  simp only [Int.toNat_natCast]
  congr 4
  omega
theorem NdS.kid (h : NdS H v ns) {i : Nat} (hi : i < ns.length) {c : Nat} (hc : c < 16) : aload TT H 3 (ep v (i * 20 + (4 + c))) = some (.int .i64 ns[i].kids[c]) := by
  rw [h.cell hi (by omega) TT_3 rfl rfl, kids_get _ c hc]
end
section
variable {H : AHeap} {v : Value}
theorem StS.alen {xs : List (List UInt8)} (h : StS H v xs) : alen TT 30 v = some (.int .i64 xs.length) := Sl.alen h rfl
theorem StS.index {xs : List (List UInt8)} (h : StS H v xs) {k : IntKind} {j : Nat} (h1 : j < xs.length) : aindex TT 30 v (.int k (j : Int)) = some (ep v (j * 1 + 0)) := by
  rw [Sl.index h rfl (s := 1) rfl (by omega) (by omega), Int.toNat_natCast]; rfl
theorem StS.load {xs : List (List UInt8)} (h : StS H v xs) {i : Nat} (hi : i < xs.length) : aload TT H 9 (ep v (i * 1 + 0)) = some (S xs[i]) := Sl.row sCell_len h hi (by decide) TT_9 rfl rfl
theorem InS.alen {xs : List Int} (h : InS H v xs) : alen TT 46 v = some (.int .i64 xs.length) := Sl.alen h rfl
theorem InS.index {xs : List Int} (h : InS H v xs) {k : IntKind} {j : Nat} (h1 : j < xs.length) : aindex TT 46 v (.int k (j : Int)) = some (ep v (j * 1 + 0)) := by
  rw [Sl.index h rfl (s := 1) rfl (by omega) (by omega), Int.toNat_natCast]; rfl
theorem InS.load {xs : List Int} (h : InS H v xs) {i : Nat} (hi : i < xs.length) : aload TT H 3 (ep v (i * 1 + 0)) = some (.int .i64 xs[i]) := Sl.row iCell_len h hi (by decide) TT_3 rfl rfl
theorem ByS.alen {xs : List UInt8} (h : ByS H v xs) : alen TT 50 v = some (.int .i64 xs.length) := Sl.alen h rfl
theorem ByS.index {xs : List UInt8} (h : ByS H v xs) {k : IntKind} {j : Nat} (h1 : j < xs.length) : aindex TT 50 v (.int k (j : Int)) = some (ep v (j * 1 + 0)) := by
  rw [Sl.index h rfl (s := 1) rfl (by omega) (by omega), Int.toNat_natCast]; rfl
theorem ByS.load {xs : List UInt8} (h : ByS H v xs) {i : Nat} (hi : i < xs.length) : aload TT H 5 (ep v (i * 1 + 0)) = some (U xs[i]) := Sl.row bCell_len h hi (by decide) TT_5 rfl rfl
theorem BoS.alen {xs : List Bool} (h : BoS H v xs) : alen TT 107 v = some (.int .i64 xs.length) := Sl.alen h rfl
theorem BoS.index {xs : List Bool} (h : BoS H v xs) {k : IntKind} {j : Nat} (h1 : j < xs.length) : aindex TT 107 v (.int k (j : Int)) = some (ep v (j * 1 + 0)) := by
  rw [Sl.index h rfl (s := 1) rfl (by omega) (by omega), Int.toNat_natCast]; rfl
theorem BoS.load {xs : List Bool} (h : BoS H v xs) {i : Nat} (hi : i < xs.length) : aload TT H 4 (ep v (i * 1 + 0)) = some (.bool xs[i]) := Sl.row oCell_len h hi (by decide) TT_4 rfl rfl
/-- The text of bytes. -/
theorem ByS.conv {xs : List UInt8} (h : ByS H v xs) : aconv TT H 50 9 v = some (S xs) := by
  rcases h with ⟨rfl, h1, h2⟩ | ⟨i, off, o, h⟩
  · have : xs = [] := List.eq_nil_of_length_eq_zero h1
    subst this
    rfl
  · rw [h.val]
    simp only [aconv, TT_50, TT_9, TT_5]
    by_cases h0 : xs.length = 0
    · have : xs = [] := List.eq_nil_of_length_eq_zero h0
      subst this
      rfl
    · have hlen : (xs.flatMap bCell).length = xs.length := by rw [rows_length bCell_len]; omega
      have hl := h.len
      rw [hlen] at hl
      have hc := h.cells
      rw [hlen] at hc
      rw [if_neg h0]
      simp only [h.obj]
      rw [if_pos hl, hc]
      have key : ∀ ys : List UInt8, (ys.flatMap bCell).mapM byteOf? = some (ys.map fun b => (b.toNat : Int)) := by
        intro ys
        induction ys with
        | nil => rfl
        | cons y ys ih =>
          simp only [List.flatMap_cons, bCell, List.cons_append, List.nil_append, List.mapM_cons, U, byteOf?] at ih ⊢
          rw [ih]
          rfl
      rw [key]
      simp only [Option.map_some, S, strOfNums, List.map_map]
      congr 4
      conv => rhs; rw [← List.map_id xs]
      apply List.map_congr_left
      intro b _
      simp
end
theorem NdS.keep {H H' : AHeap} {v : Value} {l : List Nd} (h : NdS H v l) (hX : AExt (fun _ => False) H H') : NdS H' v l := Sl.keep h hX
theorem NdS.ext {H H' : AHeap} {v : Value} {l : List Nd} {M : Nat → Prop} (h : NdS H v l) (hX : AExt M H H') (hM : ∀ i, i < H.length → vid v = some i → ¬ M i) : NdS H' v l := Sl.ext h hX (fun i hi => hM i (Sl.vid_lt h hi) hi)
theorem NdS.vid_lt {H : AHeap} {v : Value} {l : List Nd} (h : NdS H v l) {i : Nat} (hi : vid v = some i) : i < H.length := Sl.vid_lt h hi
theorem NdS.one {H : AHeap} {v : Value} {l : List Nd} (h : NdS H v l) : One v := Sl.one h
theorem PrS.keep {H H' : AHeap} {v : Value} {l : List Pr} (h : PrS H v l) (hX : AExt (fun _ => False) H H') : PrS H' v l := Sl.keep h hX
theorem PrS.ext {H H' : AHeap} {v : Value} {l : List Pr} {M : Nat → Prop} (h : PrS H v l) (hX : AExt M H H') (hM : ∀ i, i < H.length → vid v = some i → ¬ M i) : PrS H' v l := Sl.ext h hX (fun i hi => hM i (Sl.vid_lt h hi) hi)
theorem PrS.vid_lt {H : AHeap} {v : Value} {l : List Pr} (h : PrS H v l) {i : Nat} (hi : vid v = some i) : i < H.length := Sl.vid_lt h hi
theorem PrS.one {H : AHeap} {v : Value} {l : List Pr} (h : PrS H v l) : One v := Sl.one h
theorem StS.keep {H H' : AHeap} {v : Value} {l : List (List UInt8)} (h : StS H v l) (hX : AExt (fun _ => False) H H') : StS H' v l := Sl.keep h hX
theorem StS.ext {H H' : AHeap} {v : Value} {l : List (List UInt8)} {M : Nat → Prop} (h : StS H v l) (hX : AExt M H H') (hM : ∀ i, i < H.length → vid v = some i → ¬ M i) : StS H' v l := Sl.ext h hX (fun i hi => hM i (Sl.vid_lt h hi) hi)
theorem StS.vid_lt {H : AHeap} {v : Value} {l : List (List UInt8)} (h : StS H v l) {i : Nat} (hi : vid v = some i) : i < H.length := Sl.vid_lt h hi
theorem StS.one {H : AHeap} {v : Value} {l : List (List UInt8)} (h : StS H v l) : One v := Sl.one h
theorem InS.keep {H H' : AHeap} {v : Value} {l : List Int} (h : InS H v l) (hX : AExt (fun _ => False) H H') : InS H' v l := Sl.keep h hX
theorem InS.ext {H H' : AHeap} {v : Value} {l : List Int} {M : Nat → Prop} (h : InS H v l) (hX : AExt M H H') (hM : ∀ i, i < H.length → vid v = some i → ¬ M i) : InS H' v l := Sl.ext h hX (fun i hi => hM i (Sl.vid_lt h hi) hi)
theorem InS.vid_lt {H : AHeap} {v : Value} {l : List Int} (h : InS H v l) {i : Nat} (hi : vid v = some i) : i < H.length := Sl.vid_lt h hi
theorem InS.one {H : AHeap} {v : Value} {l : List Int} (h : InS H v l) : One v := Sl.one h
theorem ByS.keep {H H' : AHeap} {v : Value} {l : List UInt8} (h : ByS H v l) (hX : AExt (fun _ => False) H H') : ByS H' v l := Sl.keep h hX
theorem ByS.ext {H H' : AHeap} {v : Value} {l : List UInt8} {M : Nat → Prop} (h : ByS H v l) (hX : AExt M H H') (hM : ∀ i, i < H.length → vid v = some i → ¬ M i) : ByS H' v l := Sl.ext h hX (fun i hi => hM i (Sl.vid_lt h hi) hi)
theorem ByS.vid_lt {H : AHeap} {v : Value} {l : List UInt8} (h : ByS H v l) {i : Nat} (hi : vid v = some i) : i < H.length := Sl.vid_lt h hi
theorem ByS.one {H : AHeap} {v : Value} {l : List UInt8} (h : ByS H v l) : One v := Sl.one h
theorem BoS.keep {H H' : AHeap} {v : Value} {l : List Bool} (h : BoS H v l) (hX : AExt (fun _ => False) H H') : BoS H' v l := Sl.keep h hX
theorem BoS.ext {H H' : AHeap} {v : Value} {l : List Bool} {M : Nat → Prop} (h : BoS H v l) (hX : AExt M H H') (hM : ∀ i, i < H.length → vid v = some i → ¬ M i) : BoS H' v l := Sl.ext h hX (fun i hi => hM i (Sl.vid_lt h hi) hi)
theorem BoS.vid_lt {H : AHeap} {v : Value} {l : List Bool} (h : BoS H v l) {i : Nat} (hi : vid v = some i) : i < H.length := Sl.vid_lt h hi
theorem BoS.one {H : AHeap} {v : Value} {l : List Bool} (h : BoS H v l) : One v := Sl.one h
attribute [go_sem] Nat.zero_mul
end Go.Proofs.Ythalogdopkoidaa.Ab
set_option linter.unusedVariables false
namespace Go.Proofs.Ythalogdopkoidaa.Ab
open Go Go.RowKit
theorem allBytes {p : UInt8 → Prop} (h : ∀ n : Fin 256, p (UInt8.ofNat n.val)) (b : UInt8) : p b := by
  have := h ⟨b.toNat, b.toNat_lt⟩
  simpa using this
theorem U_shr (b : UInt8) (t : Nat) : abin TT .shr t (U b) (.int .u64 4) = some (U (b / 16)) := by
  have h : (b.toNat : Int).fdiv 16 = ((b / 16).toNat : Int) := by
    rw [UInt8.toNat_div, Int.fdiv_eq_ediv_of_nonneg _ (by omega)]
    simp
  show abinInt .shr .u8 b.toNat .u64 4 = _
  simp only [abinInt]
  rw [if_pos (by omega)]
  show some (Value.int .u8 ((b.toNat : Int).fdiv 16)) = _
  rw [h]; rfl
theorem U_quo (b : UInt8) (t : Nat) : abin TT .quo t (U b) (.int .u8 16) = some (U (b / 16)) := by
  have h : IntKind.u8.wrap ((b.toNat : Int).tdiv 16) = ((b / 16).toNat : Int) := by
    have := b.toNat_lt
    rw [UInt8.toNat_div, Int.tdiv_eq_ediv_of_nonneg (by omega)]
    simp [IntKind.wrap, IntKind.signed, IntKind.bits]
    omega
  show abinInt .quo .u8 b.toNat .u8 16 = _
  simp only [abinInt]
  rw [if_pos ⟨trivial, by omega⟩, h]; rfl
theorem U_rem (b : UInt8) (t : Nat) : abin TT .rem t (U b) (.int .u8 16) = some (U (b % 16)) := by
  have h : (b.toNat : Int).tmod 16 = ((b % 16).toNat : Int) := by
    rw [UInt8.toNat_mod, Int.tmod_eq_emod_of_nonneg (by omega)]
    simp
  show abinInt .rem .u8 b.toNat .u8 16 = _
  simp only [abinInt]
  rw [if_pos ⟨trivial, by omega⟩, h]; rfl
theorem U_and (b : UInt8) (t : Nat) : abin TT .and t (U b) (.int .u8 15) = some (U (b % 16)) := by
  have h : ∀ b : UInt8, bits .and .u8 b.toNat 15 = ((b % 16).toNat : Int) := allBytes (by decide +kernel)
  show abinInt .and .u8 b.toNat .u8 15 = _
  simp only [abinInt]
  rw [if_pos trivial, h]; rfl
theorem U_eql (a b : UInt8) (t : Nat) : abin TT .eql t (U a) (U b) = some (.bool (decide (a = b))) := by
  show abinInt .eql .u8 a.toNat .u8 b.toNat = _
  simp only [abinInt, if_true]
  congr 2
  rw [Bool.eq_iff_iff, decide_eq_true_eq, decide_eq_true_eq]
  constructor
  · intro h; exact UInt8.toNat_inj.1 (by omega)
  · rintro rfl; rfl
theorem U_gtr (a : UInt8) (t : Nat) : abin TT .gtr t (U a) (.int .u8 15) = some (.bool (decide (15 < a))) := by
  show abinInt .gtr .u8 a.toNat .u8 15 = _
  simp only [abinInt, if_true]
  congr 2
  rw [Bool.eq_iff_iff, decide_eq_true_eq, decide_eq_true_eq, UInt8.lt_iff_toNat_lt]
  show (15 : Int) < _ ↔ 15 < a.toNat
  omega
theorem U_mul (b : UInt8) (t : Nat) : abin TT .mul t (U b) (.int .u8 16) = some (U (b * 16)) := by
  have h : IntKind.u8.wrap ((b.toNat : Int) * 16) = ((b * 16).toNat : Int) := by
    rw [UInt8.toNat_mul]
    simp [IntKind.wrap, IntKind.signed, IntKind.bits]
  show abinInt .mul .u8 b.toNat .u8 16 = _
  simp only [abinInt]
  rw [if_pos trivial, h]; rfl
theorem U_add (a b : UInt8) (t : Nat) : abin TT .add t (U a) (U b) = some (U (a + b)) := by
  have h : IntKind.u8.wrap ((a.toNat : Int) + b.toNat) = ((a + b).toNat : Int) := by
    rw [UInt8.toNat_add]
    simp [IntKind.wrap, IntKind.signed, IntKind.bits]
  show abinInt .add .u8 a.toNat .u8 b.toNat = _
  simp only [abinInt]
  rw [if_pos trivial, h]; rfl
theorem U_shl4 (b : UInt8) (t : Nat) : abin TT .shl t (U b) (.int .i64 4) = some (U (b * 16)) := by
  have h : IntKind.u8.wrap ((b.toNat : Int) * 16) = ((b * 16).toNat : Int) := by
    rw [UInt8.toNat_mul]
    simp [IntKind.wrap, IntKind.signed, IntKind.bits]
  show abinInt .shl .u8 b.toNat .i64 4 = _
  simp only [abinInt]
  rw [if_pos (by omega)]
  show some (Value.int .u8 (IntKind.u8.wrap ((b.toNat : Int) * 16))) = _
  rw [h]; rfl
theorem U_shl0 (b : UInt8) (t : Nat) : abin TT .shl t (U b) (.int .i64 0) = some (U b) := by
  have h : IntKind.u8.wrap ((b.toNat : Int) * 1) = (b.toNat : Int) := by
    have := b.toNat_lt
    simp [IntKind.wrap, IntKind.signed, IntKind.bits]
    omega
  show abinInt .shl .u8 b.toNat .i64 0 = _
  simp only [abinInt]
  rw [if_pos (by omega)]
  show some (Value.int .u8 (IntKind.u8.wrap ((b.toNat : Int) * 1))) = _
  rw [h]; rfl
theorem U_or (a b : UInt8) (t : Nat) : abin TT .or t (U a) (U b) = some (U (a ||| b)) := by
  have h : bits .or .u8 a.toNat b.toNat = ((a ||| b).toNat : Int) := by
    have ha := a.toNat_lt
    have hb := b.toNat_lt
    have e1 : BitVec.ofInt 8 (a.toNat : Int) = a.toBitVec := by
      apply BitVec.eq_of_toNat_eq
      rw [BitVec.toNat_ofInt]
      simp
      omega
    have e2 : BitVec.ofInt 8 (b.toNat : Int) = b.toBitVec := by
      apply BitVec.eq_of_toNat_eq
      rw [BitVec.toNat_ofInt]
      simp
      omega
    have hw : ∀ c : UInt8, IntKind.u8.wrap (c.toNat : Int) = c.toNat := fun c => by
      have := c.toNat_lt
      simp [IntKind.wrap, IntKind.signed, IntKind.bits]
      omega
    show IntKind.u8.wrap ((BitVec.ofInt 8 (a.toNat : Int) ||| BitVec.ofInt 8 (b.toNat : Int)).toNat : Int) = _
    rw [e1, e2, ← hw (a ||| b)]
    rfl
  show abinInt .or .u8 a.toNat .u8 b.toNat = _
  simp only [abinInt]
  rw [if_pos trivial, h]; rfl
attribute [go_sem] U_shr U_quo U_rem U_and U_eql U_gtr U_mul U_add U_shl4 U_shl0 U_or
def nib (s : List UInt8) : List UInt8 := s.flatMap fun b => [b / 16, b % 16]
theorem tk {α : Type} {l : List α} {i : Nat} (h : i < l.length) : l.take (i + 1) = l.take i ++ [l[i]] := by
  rw [List.take_add_one, List.getElem?_eq_getElem h]; rfl
theorem nib_cons (b : UInt8) (s : List UInt8) : nib (b :: s) = b / 16 :: b % 16 :: nib s := rfl
theorem nib_append (a b : List UInt8) : nib (a ++ b) = nib a ++ nib b := by simp [nib]
theorem nib_length : ∀ s : List UInt8, (nib s).length = 2 * s.length
  | [] => rfl
  | b :: s => by rw [nib_cons]; simp [nib_length s]; omega
/-- How many elements two have in common, from the beginning on. -/
def com : List UInt8 → List UInt8 → Nat
  | a :: x, b :: y => if a = b then com x y + 1 else 0
  | _, _ => 0
theorem com_left : ∀ a b : List UInt8, com a b ≤ a.length
  | [], _ => by simp [com]
  | _ :: _, [] => by simp [com]
  | a :: x, b :: y => by
    simp only [com]
    split
    · have := com_left x y; simp; omega
    · simp
theorem com_take : ∀ a b : List UInt8, a.take (com a b) = b.take (com a b)
  | [], b => by simp [com]
  | _ :: _, [] => by simp [com]
  | a :: x, b :: y => by
    simp only [com]
    split
    · rename_i h; subst h
      simp [com_take x y]
    · simp
/-- That many, if the next ones differ or there are none. -/
theorem com_eq : ∀ (a b : List UInt8) (i : Nat), i ≤ a.length → i ≤ b.length → (∀ j, j < i → a[j]? = b[j]?) → (a.length ≤ i ∨ b.length ≤ i ∨ a[i]? ≠ b[i]?) → com a b = i
  | [], b, i, h1, h2, h3, h4 => by simp at h1; simp [com, h1]
  | a :: x, [], i, h1, h2, h3, h4 => by simp at h2; simp [com, h2]
  | a :: x, b :: y, 0, h1, h2, h3, h4 => by
    simp only [com]
    simp at h4
    rw [if_neg h4]
  | a :: x, b :: y, i + 1, h1, h2, h3, h4 => by
    have h0 := h3 0 (by omega)
    simp at h0
    simp only [com, if_pos h0]
    rw [com_eq x y i (by simpa using h1) (by simpa using h2) (fun j hj => by simpa using h3 (j + 1) (by omega)) (by simpa using h4)]
/-- The texts of nibbles: two by two. -/
def two : List UInt8 → List UInt8
  | a :: b :: l => (a * 16 ||| b) :: two l
  | [a] => [a * 16]
  | [] => []
def unn : List UInt8 → List UInt8
  | a :: b :: l => (a * 16 + b) :: unn l
  | _ => []
theorem two_length : ∀ l : List UInt8, (two l).length = (l.length + 1) / 2
  | a :: b :: l => by simp [two, two_length l]; omega
  | [a] => by simp [two]
  | [] => rfl
theorem two_one : ∀ (l : List UInt8) (a : UInt8), l.length % 2 = 0 → two (l ++ [a]) = two l ++ [a * 16]
  | x :: y :: l, a, h => by
    have := two_one l a (by simp at h; omega)
    simp [two, this]
  | [x], a, h => by simp at h
  | [], a, h => rfl
theorem two_two : ∀ (l : List UInt8) (a b : UInt8), l.length % 2 = 0 → two (l ++ [a, b]) = two l ++ [a * 16 ||| b]
  | x :: y :: l, a, b, h => by
    have := two_two l a b (by simp at h; omega)
    simp [two, this]
  | [x], a, b, h => by simp at h
  | [], a, b, h => rfl
theorem unn_two : ∀ (l : List UInt8) (a b : UInt8), l.length % 2 = 0 → unn (l ++ [a, b]) = unn l ++ [a * 16 + b]
  | x :: y :: l, a, b, h => by
    have := unn_two l a b (by simp at h; omega)
    simp [unn, this]
  | [x], a, b, h => by simp at h
  | [], a, b, h => rfl
theorem unn_one : ∀ (l : List UInt8) (a : UInt8), l.length % 2 = 0 → unn (l ++ [a]) = unn l
  | x :: y :: l, a, h => by
    have := unn_one l a (by simp at h; omega)
    simp [unn, this]
  | [x], a, h => by simp at h
  | [], a, h => rfl
theorem unn_length : ∀ l : List UInt8, (unn l).length = l.length / 2
  | a :: b :: l => by simp [unn, unn_length l]; omega
  | [a] => by simp [unn]
  | [] => rfl
theorem or_add (a b : UInt8) (h : b ≤ 15) : a * 16 ||| b = a * 16 + b := by
  have : ∀ a : UInt8, ∀ m : Fin 16, a * 16 ||| UInt8.ofNat m.val = a * 16 + UInt8.ofNat m.val := allBytes (by decide +kernel)
  have hb : b.toNat < 16 := by
    have := UInt8.le_iff_toNat_le.1 h
    simp at this; omega
  have h2 := this a ⟨b.toNat, hb⟩
  simpa using h2
theorem two_unn : ∀ l : List UInt8, l.length % 2 = 0 → (∀ b ∈ l, b ≤ 15) → two l = unn l
  | a :: b :: l, h, hb => by
    rw [two, unn, or_add a b (hb b (by simp)), two_unn l (by simp at h; omega) (fun c hc => hb c (by simp [hc]))]
  | [a], h, _ => by simp at h
  | [], _, _ => rfl
theorem unn_nib : ∀ s : List UInt8, unn (nib s) = s
  | [] => rfl
  | b :: s => by
    have : ∀ b : UInt8, b / 16 * 16 + b % 16 = b := allBytes (by decide +kernel)
    rw [nib_cons, unn, this, unn_nib s]
theorem nib_small (s : List UInt8) : ∀ b ∈ nib s, b ≤ 15 := by
  have : ∀ b : UInt8, b / 16 ≤ 15 ∧ b % 16 ≤ 15 := allBytes (by decide +kernel)
  intro c hc
  obtain ⟨b, _, hb⟩ := List.mem_flatMap.1 hc
  simp at hb
  rcases hb with rfl | rfl
  · exact (this b).1
  · exact (this b).2
/-- Nibbles' text, if there is one. -/
def keyOf (n : List UInt8) : Option (List UInt8) := if n.length % 2 = 0 ∧ ∀ b ∈ n, b ≤ 15 then some (unn n) else none
theorem keyOf_nib (s : List UInt8) : keyOf (nib s) = some s := by
  rw [keyOf, if_pos ⟨by rw [nib_length]; omega, nib_small s⟩, unn_nib]
end Go.Proofs.Ythalogdopkoidaa.Ab
set_option linter.unusedVariables false
namespace Go.Proofs.Ythalogdopkoidaa.Ab
open Go Go.RowKit
def Pok (p : Pr) : Prop := 1 ≤ p.key.length ∧ p.key.length ≤ 8 ∧ p.value.length ≤ 16
instance (p : Pr) : Decidable (Pok p) := inferInstanceAs (Decidable (_ ∧ _))
def May (l : List Pr) : Prop := (∀ p ∈ l, Pok p) ∧ l.Pairwise (fun p q => p.key < q.key)
instance (l : List Pr) : Decidable (May l) := inferInstanceAs (Decidable (_ ∧ _))
theorem May.nil : May [] := ⟨by simp, by simp⟩
theorem lt_tr {a b c : List UInt8} (h : a < b) (k : b < c) : a < c := List.lt_trans h k
theorem May.take {l : List Pr} (h : May l) (i : Nat) : May (l.take i) := ⟨fun p hp => h.1 p (List.mem_of_mem_take hp), h.2.sublist (List.take_sublist i l)⟩
theorem May.drop {l : List Pr} (h : May l) (i : Nat) : May (l.drop i) := ⟨fun p hp => h.1 p (List.mem_of_mem_drop hp), h.2.sublist (List.drop_sublist i l)⟩
theorem May.at {l : List Pr} (h : May l) {i j : Nat} (hij : i < j) (hj : j < l.length) : l[i].key < l[j].key := List.pairwise_iff_getElem.1 h.2 i j (by omega) hj hij
/-- The next pair may be, behind the ones ahead. -/
def Nxt (l : List Pr) (i : Nat) (hi : i < l.length) : Prop := Pok l[i] ∧ ∀ h : 0 < i, l[i - 1].key < l[i].key
theorem May.nxt {l : List Pr} (h : May l) (i : Nat) (hi : i < l.length) : Nxt l i hi := ⟨h.1 _ (List.getElem_mem hi), fun h0 => h.at (by omega) hi⟩
theorem May.step {l : List Pr} {i : Nat} (hi : i < l.length) (h : May (l.take i)) (hn : Nxt l i hi) : May (l.take (i + 1)) := by
  rw [tk hi]
  refine ⟨fun p hp => ?_, ?_⟩
  · rw [List.mem_append, List.mem_singleton] at hp
    rcases hp with hp | rfl
    · exact h.1 p hp
    · exact hn.1
  · rw [List.pairwise_append]
    refine ⟨h.2, by simp, fun a ha b hb => ?_⟩
    rw [List.mem_singleton] at hb
    subst hb
    obtain ⟨j, hj, rfl⟩ := List.getElem_of_mem ha
    have hj' : j < i := by rw [List.length_take] at hj; omega
    have hlast := hn.2 (by omega)
    rw [List.getElem_take]
    by_cases e : j = i - 1
    · subst e; exact hlast
    · have hq : i - 1 < (l.take i).length := by rw [List.length_take]; omega
      have h1 : (l.take i)[j].key < (l.take i)[i - 1].key := h.at (by omega) hq
      rw [List.getElem_take, List.getElem_take] at h1
      exact lt_tr h1 hlast
end Go.Proofs.Ythalogdopkoidaa.Ab
set_option linter.unusedVariables false
namespace Go.Proofs.Ythalogdopkoidaa.Ab
open Go Go.RowKit
/-- What is left of a pair's nibbles, and its value. -/
abbrev Sx := List (List UInt8 × List UInt8)
def cut (c : Nat) (x : List UInt8 × List UInt8) : List UInt8 × List UInt8 := (x.1.drop c, x.2)
def zk : Vector Int 16 := Vector.replicate 16 0
def setk (k : Vector Int 16) (c : UInt8) (n : Int) : Vector Int 16 := if h : c.toNat < 16 then k.set c.toNat n h else k
/-- Stretches of equal first nibbles. -/
def groups : Sx → List (UInt8 × Sx)
  | [] => []
  | ([], _) :: s => groups s
  | (c :: n, v) :: s =>
    match groups s with
    | (c', g) :: gs => if c = c' then (c, (n, v) :: g) :: gs else (c, [(n, v)]) :: (c', g) :: gs
    | [] => [(c, [(n, v)])]
def brn (b : Sx → Nat → List Nd) : List (UInt8 × Sx) → Nat → Vector Int 16 → List Nd × Vector Int 16
  | [], _, kids => ([], kids)
  | (c, g) :: gs, k, kids => ((b g k) ++ (brn b gs (k + (b g k).length) (setk kids c k)).1, (brn b gs (k + (b g k).length) (setk kids c k)).2)
def lst (x : List UInt8 × List UInt8) (r : Sx) : List UInt8 × List UInt8 := r.getLastD x
def bld : Nat → Sx → Nat → List Nd
  | 0, _, _ => []
  | f + 1, s, k =>
    match s with
    | [] => []
    | [x] => [⟨1, x.1, true, x.2, zk⟩]
    | x :: y :: r =>
      if 0 < com x.1 (lst y r).1 then ⟨2, x.1.take (com x.1 (lst y r).1), false, [], zk.set 0 ((k + 1 : Nat) : Int)⟩ :: bld f ((x :: y :: r).map (cut (com x.1 (lst y r).1))) (k + 1)
      else
        ⟨3, [], decide (x.1 = []), if x.1 = [] then x.2 else [], (brn (bld f) (groups (if x.1 = [] then y :: r else x :: y :: r)) (k + 1) zk).2⟩
          :: (brn (bld f) (groups (if x.1 = [] then y :: r else x :: y :: r)) (k + 1) zk).1
def pbrn (b : Sx → List UInt8 → List (List UInt8)) (pre : List UInt8) : List (UInt8 × Sx) → List (List UInt8)
  | [] => []
  | (c, g) :: gs => b g (pre ++ [c]) ++ pbrn b pre gs
/-- The nodes' paths. -/
def pth : Nat → Sx → List UInt8 → List (List UInt8)
  | 0, _, _ => []
  | f + 1, s, pre =>
    match s with
    | [] => []
    | [x] => [pre]
    | x :: y :: r =>
      if 0 < com x.1 (lst y r).1 then pre :: pth f ((x :: y :: r).map (cut (com x.1 (lst y r).1))) (pre ++ x.1.take (com x.1 (lst y r).1))
      else pre :: pbrn (pth f) pre (groups (if x.1 = [] then y :: r else x :: y :: r))
def nks (ps : List Pr) : List (List UInt8) := ps.map fun p => nib p.key
def sg (ps : List Pr) (a b at_ : Nat) : Sx := ((ps.take b).drop a).map fun p => ((nib p.key).drop at_, p.value)
theorem nks_length (ps : List Pr) : (nks ps).length = ps.length := by simp [nks]
theorem sg_length (ps : List Pr) (a b at_ : Nat) (hb : b ≤ ps.length) : (sg ps a b at_).length = b - a := by
  simp [sg]; omega
theorem sg_nil (ps : List Pr) (a at_ : Nat) : sg ps a a at_ = [] := by
  simp only [sg]
  rw [List.drop_eq_nil_of_le (by rw [List.length_take]; omega)]; rfl
theorem sg_cons (ps : List Pr) (a b at_ : Nat) (ha : a < b) (hb : b ≤ ps.length) : sg ps a b at_ = ((nib (ps[a]).key).drop at_, (ps[a]).value) :: sg ps (a + 1) b at_ := by
  simp only [sg]
  rw [List.drop_eq_getElem_cons (by rw [List.length_take]; omega)]
  simp
theorem sg_get (ps : List Pr) (a b at_ : Nat) (hb : b ≤ ps.length) (i : Nat) (hi : i < b - a) : (sg ps a b at_)[i]'(by rw [sg_length _ _ _ _ hb]; exact hi) = ((nib (ps[a + i]).key).drop at_, (ps[a + i]).value) := by
  simp [sg]
theorem sg_split (ps : List Pr) (a m b at_ : Nat) (h1 : a ≤ m) (h2 : m ≤ b) : sg ps a b at_ = sg ps a m at_ ++ sg ps m b at_ := by
  simp only [sg, ← List.map_append]
  congr 1
  have e : (ps.take b).drop m = ((ps.take b).drop a).drop (m - a) := by rw [List.drop_drop]; congr 1; omega
  have e2 : (ps.take m).drop a = ((ps.take b).drop a).take (m - a) := by
    rw [List.take_drop, List.take_take]
    congr 2
    omega
  rw [e, e2, List.take_append_drop]
theorem sg_cut (ps : List Pr) (a b at_ c : Nat) : (sg ps a b at_).map (cut c) = sg ps a b (at_ + c) := by
  simp only [sg, List.map_map]
  apply List.map_congr_left
  intro p _
  simp [cut, List.drop_drop]
def Ris (s : Sx) : Prop := s.Pairwise fun x y => x.1 < y.1
theorem Ris.left {s t : Sx} (h : Ris (s ++ t)) : Ris s := (List.pairwise_append.1 h).1
theorem Ris.right {s t : Sx} (h : Ris (s ++ t)) : Ris t := (List.pairwise_append.1 h).2.1
theorem nil_lt_cons (a : UInt8) (l : List UInt8) : ([] : List UInt8) < a :: l := List.nil_lt_cons a l
theorem cons_lt {a b : UInt8} {x y : List UInt8} : a :: x < b :: y ↔ a < b ∨ a = b ∧ x < y := List.cons_lt_cons_iff
theorem lt_pre {p x y : List UInt8} : p ++ x < p ++ y ↔ x < y := by
  induction p with
  | nil => rfl
  | cons a p ih => rw [List.cons_append, List.cons_append, cons_lt, ih]; simp
/-- Where the first is not empty none is. -/
theorem Ris.full {x : List UInt8 × List UInt8} {s : Sx} (h : Ris (x :: s)) : ∀ y ∈ s, y.1 ≠ [] := by
  intro y hy e
  have := (List.pairwise_cons.1 h).1 y hy
  rw [e] at this
  exact absurd this (List.not_lt_nil _)
/-- What the least and the greatest begin with all begin with. -/
theorem between {p a b x : List UInt8} (ha : p <+: a) (hb : p <+: b) (h1 : a < x) (h2 : x < b) : p <+: x := by
  induction p generalizing a b x with
  | nil => exact List.nil_prefix
  | cons c p ih =>
    obtain ⟨a', rfl⟩ := ha
    obtain ⟨b', rfl⟩ := hb
    cases x with
    | nil => exact absurd h1 (List.not_lt_nil _)
    | cons d x =>
      rw [List.cons_append, cons_lt] at h1 h2
      have hcd : c = d := by
        rcases h1 with h1 | ⟨rfl, h1⟩
        · rcases h2 with h2 | ⟨rfl, h2⟩
          · exact absurd (UInt8.lt_trans h1 h2) (UInt8.lt_irrefl _)
          · exact absurd h1 (UInt8.lt_irrefl _)
        · rfl
      subst hcd
      have h1' : p ++ a' < x := by
        rcases h1 with h | h
        · exact absurd h (UInt8.lt_irrefl _)
        · exact h.2
      have h2' : x < p ++ b' := by
        rcases h2 with h | h
        · exact absurd h (UInt8.lt_irrefl _)
        · exact h.2
      exact List.cons_prefix_cons.2 ⟨rfl, ih (List.prefix_append _ _) (List.prefix_append _ _) h1' h2'⟩
theorem lst_mem (x : List UInt8 × List UInt8) (r : Sx) : lst x r ∈ x :: r := by
  unfold lst
  cases r with
  | nil => simp
  | cons y r => simp only [List.getLastD_cons]; rw [← List.getLast_eq_getLastD (a := y) (l := r) (by simp)]; exact List.mem_cons_of_mem _ (List.getLast_mem _)
theorem Ris.last {x y : List UInt8 × List UInt8} {r : Sx} (h : Ris (x :: y :: r)) : ∀ z ∈ y :: r, z = lst y r ∨ z.1 < (lst y r).1 := by
  have h2 := (List.pairwise_cons.1 h).2
  clear h
  induction r generalizing y with
  | nil => intro z hz; simp at hz; subst hz; exact .inl rfl
  | cons w r ih =>
    intro z hz
    have e : lst y (w :: r) = lst w r := by unfold lst; rw [List.getLastD_cons]
    rw [e]
    have h3 := List.pairwise_cons.1 h2
    rcases List.mem_cons.1 hz with rfl | hz
    · exact .inr (h3.1 _ (lst_mem w r))
    · exact ih h3.2 z hz
theorem com_prefix (a b : List UInt8) : a.take (com a b) <+: b := by
  rw [com_take]; exact List.take_prefix _ _
theorem Ris.common {x y : List UInt8 × List UInt8} {r : Sx} (h : Ris (x :: y :: r)) : ∀ z ∈ x :: y :: r, x.1.take (com x.1 (lst y r).1) <+: z.1 := by
  intro z hz
  rcases List.mem_cons.1 hz with rfl | hz
  · exact List.take_prefix _ _
  · rcases h.last z hz with rfl | hlt
    · exact com_prefix _ _
    · exact between (List.take_prefix _ _) (com_prefix _ _) ((List.pairwise_cons.1 h).1 z hz) hlt
/-- With a common beginning cut off they rise as before. -/
theorem Ris.cut {s : Sx} {p : List UInt8} (h : Ris s) (hp : ∀ z ∈ s, p <+: z.1) : Ris (s.map (Ab.cut p.length)) := by
  unfold Ris at h ⊢
  rw [List.pairwise_map]
  refine h.imp_of_mem fun {a b} ha hb hab => ?_
  obtain ⟨a', ha'⟩ := hp a ha
  obtain ⟨b', hb'⟩ := hp b hb
  rw [← ha', ← hb', lt_pre] at hab
  simp only [Ab.cut, ← ha', ← hb']
  simpa using hab
theorem groups_run (c : UInt8) : ∀ (s t : Sx), s ≠ [] → (∀ z ∈ s, z.1.head? = some c) → (∀ z, t.head? = some z → z.1.head? ≠ some c ∧ z.1 ≠ []) → groups (s ++ t) = (c, s.map (cut 1)) :: groups t
  | [], t, h, _, _ => absurd rfl h
  | [(n, v)], t, _, hs, ht => by
    have h1 := hs (n, v) (by simp)
    cases n with
    | nil => cases h1
    | cons d n =>
      simp at h1
      subst h1
      cases t with
      | nil => rfl
      | cons z t =>
        obtain ⟨n', v'⟩ := z
        have h2 := ht _ rfl
        cases n' with
        | nil => exact absurd rfl h2.2
        | cons d' n' =>
          have hd : d ≠ d' := fun e => h2.1 (by rw [e]; rfl)
          simp only [List.cons_append, List.nil_append, groups]
          cases hg : groups t with
          | nil => simp only [hd, if_false]; rfl
          | cons w gs =>
            obtain ⟨c', g'⟩ := w
            dsimp only
            by_cases he : d' = c'
            · subst he; simp only [if_true, hd, if_false]; rfl
            · simp only [he, if_false, hd]; rfl
  | (n, v) :: z2 :: s, t, _, hs, ht => by
    have ih := groups_run c (z2 :: s) t (by simp) (fun z hz => hs z (by simp [hz])) ht
    have h1 := hs (n, v) (by simp)
    cases n with
    | nil => cases h1
    | cons d n =>
      simp at h1
      subst h1
      rw [List.cons_append, groups, ih]
      simp [cut]
theorem brn_cons (b : Sx → Nat → List Nd) (c : UInt8) (g : Sx) (gs : List (UInt8 × Sx)) (k : Nat) (kids : Vector Int 16) :
    brn b ((c, g) :: gs) k kids = ((b g k) ++ (brn b gs (k + (b g k).length) (setk kids c k)).1, (brn b gs (k + (b g k).length) (setk kids c k)).2) := rfl
structure Seg (ps : List Pr) (a b at_ : Nat) : Prop where
  lt : a < b
  le : b ≤ ps.length
  len : ∀ i, a ≤ i → (h : i < b) → at_ ≤ (nib (ps[i]).key).length
  ris : Ris (sg ps a b at_)
end Go.Proofs.Ythalogdopkoidaa.Ab
set_option linter.unusedVariables false
namespace Go.Proofs.Ythalogdopkoidaa.Ab
open Go Go.RowKit
def Fu (s : Sx) (f : Nat) : Prop := ∀ x ∈ s, x.1.length < f
theorem sg_mem {ps : List Pr} {a b at_ : Nat} (hb : b ≤ ps.length) {z : List UInt8 × List UInt8} (hz : z ∈ sg ps a b at_) : ∃ i, ∃ (h1 : a ≤ i) (h2 : i < b), z = ((nib (ps[i]).key).drop at_, (ps[i]).value) := by
  obtain ⟨j, hj, rfl⟩ := List.getElem_of_mem hz
  rw [sg_length _ _ _ _ hb] at hj
  exact ⟨a + j, by omega, by omega, sg_get ps a b at_ hb j hj⟩
theorem sg_in {ps : List Pr} {a b at_ i : Nat} (hb : b ≤ ps.length) (h1 : a ≤ i) (h2 : i < b) : ((nib (ps[i]).key).drop at_, (ps[i]).value) ∈ sg ps a b at_ := by
  have := sg_get ps a b at_ hb (i - a) (by omega)
  simp only [show a + (i - a) = i by omega] at this
  rw [← this]
  exact List.getElem_mem _
theorem Seg.part {ps : List Pr} {a b at_ : Nat} (h : Seg ps a b at_) {m e : Nat} (h1 : a ≤ m) (h2 : m < e) (h3 : e ≤ b) : Seg ps m e at_ := by
  refine ⟨h2, by have := h.le; omega, fun i g1 g2 => h.len i (by omega) (by omega), ?_⟩
  have h0 := h.ris
  rw [sg_split ps a m b at_ h1 (by omega), sg_split ps m e b at_ (by omega) h3] at h0
  exact h0.right.left
/-- All of a stretch go on with the same nibble. -/
theorem Seg.down {ps : List Pr} {a b at_ : Nat} (h : Seg ps a b at_) {c : UInt8} (hc : ∀ i, a ≤ i → (h2 : i < b) → (nib (ps[i]'(by have := h.le; omega)).key)[at_]? = some c) : Seg ps a b (at_ + 1) := by
  refine ⟨h.lt, h.le, fun i g1 g2 => ?_, ?_⟩
  · have := hc i g1 g2
    have := (List.getElem?_eq_some_iff.1 this).1
    omega
  · rw [← sg_cut]
    refine h.ris.cut (p := [c]) fun z hz => ?_
    obtain ⟨i, g1, g2, rfl⟩ := sg_mem h.le hz
    have := hc i g1 g2
    obtain ⟨hl, he⟩ := List.getElem?_eq_some_iff.1 this
    dsimp only
    rw [List.drop_eq_getElem_cons hl, he]
    exact ⟨_, rfl⟩
/-- The first group. -/
theorem groups_sg {ps : List Pr} {a m b at_ : Nat} {c : UInt8} (hb : b ≤ ps.length) (h1 : a < m) (h2 : m ≤ b) (hc : ∀ i, a ≤ i → (h : i < m) → (nib (ps[i]).key)[at_]? = some c)
    (hn : (h : m < b) → (nib (ps[m]).key)[at_]? ≠ some c ∧ at_ < (nib (ps[m]).key).length) : groups (sg ps a b at_) = (c, sg ps a m (at_ + 1)) :: groups (sg ps m b at_) := by
  rw [sg_split ps a m b at_ (by omega) h2, groups_run c (sg ps a m at_) (sg ps m b at_) ?_ ?_ ?_, sg_cut]
  · rw [sg_cons ps a m at_ h1 (by omega)]; simp
  · intro z hz
    obtain ⟨i, g1, g2, rfl⟩ := sg_mem (by omega) hz
    dsimp only
    rw [List.head?_drop]
    exact hc i g1 g2
  · intro z hz
    by_cases hm : m < b
    · rw [sg_cons ps m b at_ hm hb] at hz
      simp only [List.head?_cons, Option.some.injEq] at hz
      subst hz
      obtain ⟨k1, k2⟩ := hn hm
      dsimp only
      rw [List.head?_drop]
      refine ⟨k1, fun e => ?_⟩
      have := congrArg List.length e
      simp at this
      omega
    · have : m = b := by omega
      subst this
      rw [sg_nil] at hz
      cases hz
theorem lst_sg {ps : List Pr} {a b at_ : Nat} (h1 : a + 1 < b) (hb : b ≤ ps.length) {y : List UInt8 × List UInt8} {r : Sx} (h : sg ps (a + 1) b at_ = y :: r) : lst y r = ((nib (ps[b - 1]).key).drop at_, (ps[b - 1]).value) := by
  have hl := sg_length ps (a + 1) b at_ hb
  rw [h] at hl
  have : lst y r = (y :: r)[r.length] := by
    unfold lst
    rw [← List.getLast_eq_getLastD (a := y) (l := r) (by simp), List.getLast_eq_getElem]
    rfl
  rw [this]
  simp at hl
  have hg := sg_get ps (a + 1) b at_ hb (b - (a + 1) - 1) (by omega)
  have e2 : a + 1 + (b - (a + 1) - 1) = b - 1 := by omega
  simp only [e2] at hg
  rw [← hg]
  simp only [h]
  congr 1
  omega
/-- A stretch of two or more. -/
theorem sg_two {ps : List Pr} {a b at_ : Nat} (h1 : a + 1 < b) (hb : b ≤ ps.length) : ∃ y r, sg ps (a + 1) b at_ = y :: r ∧ sg ps a b at_ = ((nib (ps[a]).key).drop at_, (ps[a]).value) :: y :: r ∧ lst y r = ((nib (ps[b - 1]).key).drop at_, (ps[b - 1]).value) := by
  have e := sg_cons ps (a + 1) b at_ h1 hb
  exact ⟨_, _, e, by rw [sg_cons ps a b at_ (by omega) hb, e], lst_sg h1 hb e⟩
theorem Seg.ext_ {ps : List Pr} {a b at_ : Nat} (h : Seg ps a b at_) (h2 : a + 1 < b) (hb : b ≤ ps.length) {c : Nat} (hc : c = com ((nib (ps[a]).key).drop at_) ((nib (ps[b - 1]).key).drop at_)) : Seg ps a b (at_ + c) := by
  obtain ⟨y, r, e1, e2, e3⟩ := sg_two (at_ := at_) h2 hb
  have hr := h.ris
  rw [e2] at hr
  have hcom := hr.common
  rw [e3] at hcom
  rw [← hc] at hcom
  have hlen : (((nib (ps[a]).key).drop at_).take c).length = c := by
    rw [List.length_take]
    have := com_left ((nib (ps[a]).key).drop at_) ((nib (ps[b - 1]).key).drop at_)
    omega
  refine ⟨h.lt, h.le, fun i g1 g2 => ?_, ?_⟩
  · have hm := hcom _ (e2 ▸ sg_in h.le g1 g2)
    have := hm.length_le
    rw [hlen] at this
    dsimp only at this
    rw [List.length_drop] at this
    have := h.len i g1 g2
    omega
  · rw [← sg_cut, e2]
    have := hr.cut hcom
    rwa [hlen] at this
theorem bld_one (f : Nat) (x : List UInt8 × List UInt8) (k : Nat) : bld (f + 1) [x] k = [⟨1, x.1, true, x.2, zk⟩] := rfl
theorem bld_ext (f : Nat) (x y : List UInt8 × List UInt8) (r : Sx) (k : Nat) (h : 0 < com x.1 (lst y r).1) :
    bld (f + 1) (x :: y :: r) k = ⟨2, x.1.take (com x.1 (lst y r).1), false, [], zk.set 0 ((k + 1 : Nat) : Int)⟩ :: bld f ((x :: y :: r).map (cut (com x.1 (lst y r).1))) (k + 1) := by
  rw [bld]; simp only [if_pos h]
theorem bld_brn (f : Nat) (x y : List UInt8 × List UInt8) (r : Sx) (k : Nat) (h : ¬ 0 < com x.1 (lst y r).1) :
    bld (f + 1) (x :: y :: r) k = ⟨3, [], decide (x.1 = []), if x.1 = [] then x.2 else [], (brn (bld f) (groups (if x.1 = [] then y :: r else x :: y :: r)) (k + 1) zk).2⟩
          :: (brn (bld f) (groups (if x.1 = [] then y :: r else x :: y :: r)) (k + 1) zk).1 := by
  rw [bld]; simp only [if_neg h]
end Go.Proofs.Ythalogdopkoidaa.Ab
set_option linter.unusedVariables false
namespace Go.Proofs.Ythalogdopkoidaa.Ab
open Go Go.RowKit Go.Proofs.Ythalogdopkoidaa.Dr
section
variable {T : Tab} {N : Nat} {ops : List Oper} {H : AHeap}
@[congr] theorem qsel_congr {is : List Nat} {e : Env} {e' : Unit → Env} (h : ∀ u : Unit, e = e' u) : qsel T N ops H is e = qsel T N ops H is (e' ()) := by rw [h ()]
@[congr] theorem qat_congr {l : List Oper} {i : Nat} {k : Env → Option Env} {e : Env} {e' : Unit → Env} (h : ∀ u : Unit, e = e' u) : qat T N ops H l i e k = qat T N ops H l i (e' ()) k := by rw [h ()]
theorem qsel_nil {e : Env} : qsel T N ops H [] e = some e := nrfl rfl
theorem qsel_cons {i : Nat} {is : List Nat} {e : Env} : qsel T N ops H (i :: is) e = qat T N ops H ops i e (qsel T N ops H is) := nrfl rfl
theorem qat_succ {o : Oper} {l : List Oper} {i : Nat} {e : Env} {k : Env → Option Env} : qat T N ops H (o :: l) (i + 1) e k = qat T N ops H l i e k := nrfl rfl
theorem qat_zero {e : Env} {d : Option Nat} {op : Op} {ty : TypeId} {pos : String} {af : Array Edge} {l : List Oper} {k : Env → Option Env} :
    qat T N ops H (⟨d, op, ty, pos, af, none⟩ :: l) 0 e k = qbind (qop T H (aev e) op) fun v => k (eput N e d v) := by
  simp only [qat, List.getElem?_cons_zero, q1, awant]
  cases qop T H (aev e) op <;> rfl
attribute [go_sem] qsel_nil qsel_cons qat_succ qat_zero
variable {ok : Nat → Prop} {late : List Nat} {σ : List (Nat × Bool)} {K : Env → AHeap → Prop} {e : Env}
/-- A store into the object set apart. -/
theorem AM_store {P : Program} (hT : TOK P TT) {o : Oper} {j t : Nat} {ti : TI} {p x : Operand} {i off : Nat} {v : Value} {xs cells : List Value} {oty : Nat} (ho : ops[j]? = some o) (hop : o.op = .store t p x) (hdst : o.dst = none) (ht : TT t = some ti) (hw : awant ops e o = some true)
    (hp : aev e p = .pointer (some ⟨i, off, none⟩)) (hx : aev e x = v) (hv : Lay v xs) (hs : xs.length = ti.size) (hob : Ob H i oty cells) (hfit : off + xs.length ≤ cells.length) (hok : ok i)
    (hk : ∀ H', AExt (fun j => j = i) H H' → Ob H' i oty (over cells off xs) → H'.length = H.length → AM P N ok i ops late σ K e H') : AM P N ok i ops late ((j, false) :: σ) K e H :=
  AM_e hT ho hw (r := (undef, H.set i (some ⟨oty, over cells off xs, true⟩), some i)) (by
    rw [hop]
    simp only [eop, estore, hp, hx, ht, show H[i]? = some (some ⟨oty, cells, true⟩) from hob]
    rw [if_pos ⟨trivial, hv.known, by rw [← hs, ← hv.cells]; simp, by rw [← hs]; exact hfit, by rw [hv.cells]; exact hv.flat⟩, hv.cells]) rfl (by simp) hok
    (by rw [hdst]; exact hk _ (AExt.set1 _ _ _) (by simp [Ob, List.getElem?_set_self hob.lt]) (by simp))
theorem AM_storeE {P : Program} (hT : TOK P TT) {o : Oper} {j t : Nat} {ti : TI} {p x : Operand} {i off : Nat} {v u : Value} {xs cs : List Value} {ety n : Nat} (ho : ops[j]? = some o) (hop : o.op = .store t p x) (hdst : o.dst = none) (ht : TT t = some ti) (hw : awant ops e o = some true)
    (hp : aev e p = ep u off) (hx : aev e x = v) (hv : Lay v xs) (hs : xs.length = ti.size) (hob : Own H u ety n cs i) (hfit : off + xs.length ≤ cs.length) (hok : ok i)
    (hk : ∀ H', AExt (fun j => j = i) H H' → Own H' u ety n (over cs off xs) i → H'.length = H.length → AM P N ok i ops late σ K e H') : AM P N ok i ops late ((j, false) :: σ) K e H := by
  obtain ⟨h1, cells, h2, h3, h4⟩ := hob
  subst h1
  refine AM_store hT ho hop hdst ht hw (i := i) (off := off) (by rw [hp]; simp [ep]) hx hv hs h2 (by omega) hok fun H' g1 g2 g3 => hk H' g1 ⟨rfl, _, g2, by simp [over_length, h3], ?_⟩ g3
  rw [over_length, over_eq _ _ _ (by omega), over_eq _ _ _ (by omega)]
  have e1 : cs.take off = cells.take off := by rw [← h4, List.take_take]; congr 1; omega
  have e2 : cs.drop (off + xs.length) = (cells.drop (off + xs.length)).take (cs.length - (off + xs.length)) := by
    conv => lhs; rw [← h4]
    rw [List.drop_take]
  rw [e1, e2, List.append_assoc, List.append_assoc, List.take_append, List.take_append]
  rw [List.take_of_length_le (i := cs.length) (by simp; omega)]
  congr 1
  rw [List.take_of_length_le (by simp; omega)]
  congr 2
  simp
  omega
end
end Go.Proofs.Ythalogdopkoidaa.Ab
set_option linter.unusedVariables false
namespace Go.Proofs.Ythalogdopkoidaa.Ab
open Go Go.RowKit Go.Proofs.Ythalogdopkoidaa.Dr
section
variable {N : Nat} {ok : Nat → Prop} {ops : List Oper} {late : List Nat} {σ : List (Nat × Bool)} {K : Env → AHeap → Prop} {e : Env} {H Hs : AHeap} {Msk : Nat → Prop} {i0 : Nat} {dst : Option Nat} {ty : TypeId} {pos : String} {af : Array Edge} {gd : Option (Nat × Bool)}
/-- What an append does. -/
theorem app_eff {t ety : Nat} {ti ei : TI} {s x : Operand} {v u : Value} {n m : Nat} {cs cx : List Value} (ht : TT t = some ti) (hd : ti.d = .slice ety) (hei : TT ety = some ei) (h0 : ei.size ≠ 0) (hb0 : ei.bytes ≠ 0)
    (hs : aev e s = v) (hx : aev e x = u) (hv : Buf H v ety n cs) (hu : Sl H u ety m cx) (hn : cs.length = n * ei.size) (hm : cx.length = m * ei.size) (hsz : (n + m) * ei.bytes ≤ 140737488355328) :
    ∃ r : Eff, eop TT H (aev e) (.call { callee := .builtin .append, args := #[s, x], argTypes := #[t, t] }) = some r ∧ (∀ i, r.2.2 = some i → vid v = some i) ∧ AExt (fun i => vid v = some i) H r.2.1 ∧ Buf r.2.1 r.1 ety (n + m) (cs ++ cx) ∧ (∀ i, vid r.1 = some i → H.length ≤ i ∨ (cx = [] ∧ r.1 = v)) := by
  have hsize : 0 < ei.size := by omega
  have hen := eappend_eq (s := v) hei h0 hb0 hu hm
  have hcx0 : m = 0 → cx = [] := fun h => List.eq_nil_of_length_eq_zero (by simp [hm, h])
  have hop : ∀ r, eapp2 TT H ety ei v m cx = some r → eop TT H (aev e) (.call { callee := .builtin .append, args := #[s, x], argTypes := #[t, t] }) = some r := fun r hr => by
    simp only [eop, ht, hd, if_true, hs, hx, hen, hr]
  have hmb : m * ei.bytes ≤ 140737488355328 := Nat.le_trans (Nat.mul_le_mul_right _ (by omega)) hsz
  rcases hv with ⟨rfl, rfl, rfl⟩ | ⟨i, rfl, cells, h2, h3, h4⟩
  · by_cases hm0 : m = 0
    · refine ⟨(.slice none 0 0, H, none), hop _ ?_, (fun i hi => by cases hi), AExt.refl _ _, .inl ⟨rfl, by omega, by simp [hcx0 hm0]⟩, (fun i hi => by cases hi)⟩
      simp only [eapp2]
      rw [if_pos hm0]
    · refine ⟨(.slice (some ⟨H.length, 0, none⟩) m m, H ++ [some ⟨ety, cx, true⟩], none), hop _ ?_, (fun i hi => by cases hi), AExt.push _ _ _, .inr ⟨H.length, by simp, cx, by simp [Ob], by simp, by simp⟩, (fun i hi => by obtain rfl := Option.some.inj hi; exact .inl (Nat.le_refl _))⟩
      simp only [eapp2]
      rw [if_neg hm0, if_pos hmb]
  · by_cases hm0 : m = 0
    · refine ⟨(.slice (some ⟨i, 0, none⟩) n n, H, none), hop _ ?_, (fun i hi => by cases hi), AExt.refl _ _, .inr ⟨i, by simp [hm0], cells, h2, by simp [hcx0 hm0, h3], by simp [hcx0 hm0, h4]⟩, (fun j hj => .inr ⟨hcx0 hm0, rfl⟩)⟩
      simp only [eapp2]
      rw [if_pos hm0]
    · refine ⟨(.slice (some ⟨H.length, 0, none⟩) (n + m) (n + m), H.set i none ++ [some ⟨ety, cs ++ cx, true⟩], some i), hop _ ?_, (fun j hj => by obtain rfl := Option.some.inj hj; rfl), ⟨by simp, fun j hj hn => ?_⟩, .inr ⟨H.length, rfl, cs ++ cx, by simp [Ob], by simp, List.take_of_length_le (Nat.le_refl _)⟩, (fun j hj => by obtain rfl := Option.some.inj hj; exact .inl (Nat.le_refl _))⟩
      · simp only [eapp2]
        rw [if_neg hm0]
        simp only [show H[i]? = some (some ⟨ety, cells, true⟩) from h2]
        rw [if_pos ⟨trivial, trivial, by omega, hsz⟩, ← hn, h4]
      · have : j ≠ i := fun h => hn (by rw [h]; rfl)
        rw [List.getElem?_append_left (by simpa using hj), List.getElem?_set_ne (Ne.symm this)]
theorem AG_append {P : Program} (hT : TOK P TT) {t ety : Nat} {ti ei : TI} {s x : Operand} {v u : Value} {n m : Nat} {cs cx : List Value} (ho : ops[i0]? = some ⟨dst, .call { callee := .builtin .append, args := #[s, x], argTypes := #[t, t] }, ty, pos, af, gd⟩)
    (ht : TT t = some ti) (hd : ti.d = .slice ety) (hei : TT ety = some ei) (h0 : ei.size ≠ 0) (hb0 : ei.bytes ≠ 0)
    (hw : awant ops e ⟨dst, .call { callee := .builtin .append, args := #[s, x], argTypes := #[t, t] }, ty, pos, af, gd⟩ = some true) (hs : aev e s = v) (hx : aev e x = u) (hv : Buf H v ety n cs) (hu : Sl H u ety m cx) (hn : cs.length = n * ei.size) (hm : cx.length = m * ei.size)
    (hsz : (n + m) * ei.bytes ≤ 140737488355328) (hok : ∀ i, vid v = some i → ok i) (hmsk : ∀ j, j < H.length → vid v = some j → Msk j)
    (hk : ∀ v' H', AExt (fun i => vid v = some i) H H' → Buf H' v' ety (n + m) (cs ++ cx) → (∀ i, vid v' = some i → H.length ≤ i ∨ (cx = [] ∧ v' = v)) → AG P N ok Msk ops late σ K Hs (eput N e dst v') H') : AG P N ok Msk ops late ((i0, false) :: σ) K Hs e H := by
  obtain ⟨r, g1, g2, g3, g4, g5⟩ := app_eff ht hd hei h0 hb0 hs hx hv hu hn hm hsz
  exact AG_e hT ho hw g1 (fun j hj => hok j (g2 j hj)) Hs (.inl ⟨rfl, fun j hl hj => hmsk j hl (g2 j hj)⟩) (hk _ _ g3 g4 g5)
/-- A store, late: nothing is read early behind it. -/
theorem AG_store {P : Program} (hT : TOK P TT) {t : Nat} {ti : TI} {p x : Operand} {i off : Nat} {v : Value} {xs cells : List Value} {oty : Nat} (ho : ops[i0]? = some ⟨dst, .store t p x, ty, pos, af, gd⟩) (ht : TT t = some ti) (hw : awant ops e ⟨dst, .store t p x, ty, pos, af, gd⟩ = some true)
    (hp : aev e p = .pointer (some ⟨i, off, none⟩)) (hx : aev e x = v) (hv : Lay v xs) (hs : xs.length = ti.size) (hob : Ob H i oty cells) (hfit : off + xs.length ≤ cells.length) (hok : ok i) (hl : late.contains i0 = true)
    (hk : ∀ H', AExt (fun j => j = i) H H' → Ob H' i oty (over cells off xs) → H'.length = H.length → AG P N ok Msk ops late σ K [] (eput N e dst undef) H') : AG P N ok Msk ops late ((i0, false) :: σ) K Hs e H :=
  AG_e hT ho (r := (undef, H.set i (some ⟨oty, over cells off xs, true⟩), some i)) hw (by
    simp only [eop, estore, hp, hx, ht, show H[i]? = some (some ⟨oty, cells, true⟩) from hob]
    rw [if_pos ⟨trivial, hv.known, by rw [← hs, ← hv.cells]; simp, by rw [← hs]; exact hfit, by rw [hv.cells]; exact hv.flat⟩, hv.cells]) (fun j hj => by obtain rfl := Option.some.inj hj; exact hok)
    [] (.inr ⟨rfl, hl⟩) (hk _ (AExt.set1 _ _ _) (by simp [Ob, List.getElem?_set_self hob.lt]) (by simp))
theorem AG_new {P : Program} (hT : TOK P TT) {op : Op} (ho : ops[i0]? = some ⟨dst, op, ty, pos, af, gd⟩) (hw : awant ops e ⟨dst, op, ty, pos, af, gd⟩ = some true) {v : Value} {t : Nat} {cells : List Value} (h : eop TT H (aev e) op = some (v, H ++ [some ⟨t, cells, true⟩], none))
    (hk : ∀ H', AExt (fun _ => False) H H' → Ob H' H.length t cells → H'.length = H.length + 1 → AG P N ok Msk ops late σ K Hs (eput N e dst v) H') : AG P N ok Msk ops late ((i0, false) :: σ) K Hs e H :=
  AG_e hT ho hw h (fun i hi => by cases hi) Hs (.inl ⟨rfl, fun j _ hj => by cases hj⟩) (hk _ (AExt.push _ _ _) (by simp [Ob]) (by simp))
theorem AG_lit {P : Program} (hT : TOK P TT) {t ety : Nat} {ti ei : TI} {n : Nat} {parts : List (Nat × Operand)} (vs : List Value) (ho : ops[i0]? = some ⟨dst, .buildSlice t n parts.toArray, ty, pos, af, gd⟩) (ht : TT t = some ti) (hd : ti.d = .slice ety) (hei : TT ety = some ei) (hz : ei.zero.length = ei.size) (h0 : ei.size ≠ 0) (hn : vs.length = n) (hmax : n * ei.size ≤ 16777216)
    (hw : awant ops e ⟨dst, .buildSlice t n parts.toArray, ty, pos, af, gd⟩ = some true) (hp : (parts.map fun p => (p.1, aev e p.2)) = numbered 0 vs) (hv : ∀ v ∈ vs, ∃ xs, Lay v xs ∧ xs.length = ei.size)
    (hk : ∀ H', AExt (fun _ => False) H H' → Own H' (.slice (some ⟨H.length, 0, none⟩) n n) ety n (vs.flatMap fun v => v.cells.toList) H.length → H'.length = H.length + 1 → AG P N ok Msk ops late σ K Hs (eput N e dst (.slice (some ⟨H.length, 0, none⟩) n n)) H') : AG P N ok Msk ops late ((i0, false) :: σ) K Hs e H := by
  have hf := afill_numbered (s := ei.size) vs 0 (zeros n ei.zero) (fun v hv' => by
    obtain ⟨xs, h1, h2⟩ := hv v hv'
    exact ⟨h1.known, by rw [h1.cells]; exact h2⟩) (by rw [zeros_length, hz, ← hn]; simp)
  have hfl : (vs.flatMap fun v => v.cells.toList).all flat = true := by
    rw [List.all_eq_true]
    intro c hc
    obtain ⟨v, hv', hc'⟩ := List.mem_flatMap.1 hc
    obtain ⟨xs, h1, _⟩ := hv v hv'
    rw [h1.cells] at hc'
    exact List.all_eq_true.1 h1.flat c hc'
  refine AG_new hT ho hw (v := .slice (some ⟨H.length, 0, none⟩) n n) (t := ety) (cells := vs.flatMap fun v => v.cells.toList) ?_ fun H' g1 g2 g3 => hk H' g1 ⟨rfl, _, g2, Nat.le_refl _, List.take_of_length_le (Nat.le_refl _)⟩ g3
  simp only [eop, elit, ht, hd, hei, hp]
  rw [if_neg (by omega), hf]
  simp only [Nat.zero_mul, List.take_zero, List.nil_append, hfl, if_true]
/-- A call that turns nothing. -/
theorem AG_c {P : Program} {fo : Operand} {l0 : List Operand} {ts : Array Nat} {g : Nat} {cl : List Value} {args : List Value} {Qc : Value → AHeap → Prop}
    (ho : ops[i0]? = some ⟨dst, .call { callee := .value fo, args := l0.toArray, argTypes := ts }, ty, pos, af, gd⟩) (hw : awant ops e ⟨dst, .call { callee := .value fo, args := l0.toArray, argTypes := ts }, ty, pos, af, gd⟩ = some true) (hf : aev e fo = .func (.func g) #[] cl.toArray) (hg : Fok P g) (hargs : l0.map (aev e) ++ cl = args)
    (h : ACalls P g args H (fun _ => False) Qc)
    (hk : ∀ v H', AExt (fun _ => False) H H' → Qc v H' → AG P N ok Msk ops late σ K Hs (eput N e dst v) H') : AG P N ok Msk ops late ((i0, false) :: σ) K Hs e H :=
  AG_step (Mi := fun _ => False) ho hw Hs (.inl ⟨rfl, fun _ _ h => h.elim⟩) fun perm w0 β a w Qc' g1 g2 g3 g4 =>
    Oper.wp_mono (fun a' w' hp => ⟨(Fr.below (hp.1 trivial) _), hp.2⟩)
      (AStep_call (early := True) (K := fun e' H' => AG P N ok Msk ops late σ K Hs e' H') rfl rfl hf hg (by simpa [hargs] using h) (fun _ _ h => h.elim) (fun _ _ _ h => h.elim) hk perm w0 β a w Qc' g1 g2 g3 g4)
end
end Go.Proofs.Ythalogdopkoidaa.Ab
set_option linter.unusedVariables false
namespace Go.Proofs.Ythalogdopkoidaa.Ab
open Go Go.RowKit
/-- What a walker has met. -/
structure W where
  next : Nat
  l : List Pr
  paths : List (List UInt8)
/-- The path to a child. -/
def kp (k : Int) (p : List UInt8) (i : Nat) : List UInt8 := p ++ if k = 3 then [UInt8.ofNat i] else []
def wkids (wk : Int → List UInt8 → W → Bool × W) (k : Int) (p : List UInt8) : Nat → List Int → W → Bool × W
  | _, [], w => (true, w)
  | i, c :: cs, w =>
    if c = 0 then wkids wk k p (i + 1) cs w
    else if (wk c (kp k p i) w).1 = true then wkids wk k p (i + 1) cs (wk c (kp k p i) w).2
    else (false, (wk c (kp k p i) w).2)
/-- A node met: its path, its pair. -/
def wmeet (n : Nd) (p : List UInt8) (w : W) : W :=
  { next := w.next + 1, paths := w.paths ++ [p], l := if n.has = true then w.l ++ [⟨(keyOf (p ++ n.path)).getD [], n.value⟩] else w.l }
def walk (t : List Nd) : Nat → Int → List UInt8 → W → Bool × W
  | 0, _, _, w => (false, w)
  | f + 1, a, p, w =>
    if h : a = (w.next : Int) ∧ w.next < t.length ∧ p.length ≤ 16 then
      if (t[w.next]'h.2.1).has = true ∧ keyOf (p ++ (t[w.next]'h.2.1).path) = none then (false, wmeet (t[w.next]'h.2.1) p w)
      else wkids (walk t f) (t[w.next]'h.2.1).kind (p ++ (t[w.next]'h.2.1).path) 0 (t[w.next]'h.2.1).kids.toList (wmeet (t[w.next]'h.2.1) p w)
    else (false, w)
/-- The number goes up alone. -/
theorem wkids_next {wk : Int → List UInt8 → W → Bool × W} (hk : ∀ a p w, w.next ≤ (wk a p w).2.next) (k : Int) (p : List UInt8) : ∀ (cs : List Int) (i : Nat) (w : W), w.next ≤ (wkids wk k p i cs w).2.next
  | [], i, w => Nat.le_refl _
  | c :: cs, i, w => by
    rw [wkids]
    split
    · exact wkids_next hk k p cs (i + 1) w
    · split
      · exact Nat.le_trans (hk _ _ _) (wkids_next hk k p cs (i + 1) _)
      · exact hk _ _ _
theorem walk_next (t : List Nd) : ∀ (f : Nat) (a : Int) (p : List UInt8) (w : W), w.next ≤ (walk t f a p w).2.next
  | 0, a, p, w => Nat.le_refl _
  | f + 1, a, p, w => by
    rw [walk]
    split
    · split
      · exact Nat.le_succ _
      · have := wkids_next (walk_next t f) (t[w.next]).kind (p ++ (t[w.next]).path) (t[w.next]).kids.toList 0 (wmeet t[w.next] p w)
        simp only [wmeet] at this
        exact Nat.le_trans (Nat.le_succ w.next) this
    · exact Nat.le_refl _
/-- All of a trie's nodes. -/
def walkAll (t : List Nd) : Bool × W := if t = [] then (true, ⟨0, [], []⟩) else walk t (t.length + 1) 0 [] ⟨0, [], []⟩
end Go.Proofs.Ythalogdopkoidaa.Ab
set_option linter.unusedVariables false
set_option linter.unusedSimpArgs false
namespace Go.Proofs.Ythalogdopkoidaa.Ab
open Go Go.RowKit
theorem Sl.part {α : Type} {f : α → List Value} {s : Nat} (hs : ∀ x, (f x).length = s) {H : AHeap} {v : Value} {xs : List α} {ety : Nat} (h : Sl H v ety xs.length (xs.flatMap f)) {t : Nat} {ti ei : TI}
    (ht : TT t = some ti) (hd : ti.d = .slice ety) (hei : TT ety = some ei) (he : ei.size = s) (h0 : s ≠ 0) {lo hi : Nat} (h1 : lo ≤ hi) (h2 : hi ≤ xs.length) :
    ∃ v', (∀ k k', aslice TT t v (some (.int k lo)) (some (.int k' hi)) = some v') ∧ (hi = xs.length → ∀ k, aslice TT t v (some (.int k lo)) none = some v') ∧ (lo = 0 → ∀ k', aslice TT t v none (some (.int k' hi)) = some v') ∧
      Sl H v' ety ((xs.take hi).drop lo).length (((xs.take hi).drop lo).flatMap f) ∧ ∀ j, vid v' = some j → vid v = some j := by
  subst he
  rcases h with ⟨rfl, hn, hc⟩ | ⟨i, off, o, h⟩
  · have : xs = [] := List.length_eq_zero_iff.1 hn
    subst this
    have e2 : hi = 0 := by simpa using h2
    have e1 : lo = 0 := by omega
    subst e2 e1
    refine ⟨.slice none 0 0, fun k k' => ?_, fun _ k => ?_, fun _ k' => ?_, .inl ⟨rfl, rfl, rfl⟩, fun j hj => by cases hj⟩ <;>
    · simp only [aslice, ht, hd, hei, if_neg h0]; rfl
  · have hv := h.val
    subst hv
    have hlen : ((xs.take hi).drop lo).length = hi - lo := by simp; omega
    have hb : (xs.flatMap f).length = xs.length * ei.size := rows_length hs xs
    have hm : hi * ei.size ≤ xs.length * ei.size := Nat.mul_le_mul_right _ h2
    have hm2 : lo * ei.size ≤ hi * ei.size := Nat.mul_le_mul_right _ h1
    refine ⟨.slice (some ⟨i, off + lo * ei.size, none⟩) (hi - lo) (hi - lo), fun k k' => ?_, fun e k => ?_, fun e k' => ?_, .inr ⟨i, off + lo * ei.size, o, ?_⟩, fun j hj => hj⟩
    · simp only [aslice, ht, hd, hei, if_neg h0, abound]
      rw [if_pos (by omega)]
      dsimp only
      rw [if_pos (by omega)]
      simp only [Int.toNat_natCast]
    · subst e
      simp only [aslice, ht, hd, hei, if_neg h0, abound]
      rw [if_pos (by omega)]
      simp only [Int.toNat_natCast]
    · subst e
      simp only [aslice, ht, hd, hei, if_neg h0, abound]
      rw [if_pos (by omega)]
      simp only [Int.toNat_natCast]
    · have hcl : (((xs.take hi).drop lo).flatMap f).length = (hi - lo) * ei.size := by rw [rows_length hs, hlen]
      have hsub : (hi - lo) * ei.size = hi * ei.size - lo * ei.size := Nat.sub_mul _ _ _
      refine ⟨by rw [hlen], h.obj, h.ty, ?_, ?_⟩
      · have := h.len
        rw [hcl, hsub]
        omega
      · have hc := h.cells
        rw [hcl, ← rows_drop hs, ← rows_take hs]
        conv => rhs; rw [← hc]
        rw [List.take_take, Nat.min_eq_left (by omega), List.drop_take, List.drop_drop, hsub]
section
variable {P : Program} {T : Tab} {N : Nat} {ok : Nat → Prop} {ops : List Oper} {late : List Nat} {σ : List (Nat × Bool)} {K : Env → AHeap → Prop} {e e' : Env} {H Hs : AHeap} {Msk : Nat → Prop}
theorem AG_one (hT : TOK P T) (i : Nat) (h : qsel T N ops H [i] e = some e') (hk : AG P N ok Msk ops late σ K Hs e' H) : AG P N ok Msk ops late ((i, false) :: σ) K Hs e H := by
  simp only [qsel, qat] at h
  cases ho : ops[i]? with
  | none => rw [ho] at h; cases h
  | some o =>
    rw [ho] at h
    dsimp only at h
    cases h1 : q1 T N ops H o e with
    | none => rw [h1] at h; cases h
    | some e1 =>
      rw [h1] at h
      obtain rfl : e1 = e' := Option.some.inj h
      exact AG_only hT ho h1 hk
end
end Go.Proofs.Ythalogdopkoidaa.Ab
set_option linter.unusedVariables false
namespace Go.Proofs.Ythalogdopkoidaa.Ab
open Go Go.RowKit Go.Proofs.Ythalogdopkoidaa.Dr
section
variable {N : Nat} {ok : Nat → Prop} {ops : List Oper} {late : List Nat} {σ : Tr} {K : Env → AHeap → Prop} {e : Env} {H Hs : AHeap} {Msk : Nat → Prop} {i0 : Nat} {dst : Option Nat} {ty : TypeId} {pos : String} {af : Array Edge} {gd : Option (Nat × Bool)}
end
end Go.Proofs.Ythalogdopkoidaa.Ab
