/- Facts on the types of this translation, printed by a program of mine. -/
import Derived.Test.YtcmojpiokjhmhaaSlP
import Derived.Test.YtcmojpiokjhmhaaProg
namespace Go.Proofs.Ytcmojpiokjhmhaa
open Go.Sl
set_option linter.unusedVariables false
set_option maxRecDepth 20000
theorem fo24_0 : FieldOff Try.prog 24 0 0 := fun _ _ => by kernel_rfl
theorem fo24_2 : FieldOff Try.prog 24 2 2 := fun _ _ => by kernel_rfl
theorem fo26_0 : FieldOff Try.prog 26 0 0 := fun _ _ => by kernel_rfl
theorem fo26_1 : FieldOff Try.prog 26 1 1 := fun _ _ => by kernel_rfl
theorem fo26_2 : FieldOff Try.prog 26 2 4 := fun _ _ => by kernel_rfl
theorem st22 : SliceTy Try.prog 22 26 5 := ⟨Try.runUnderlying22, Try.sizeOf26⟩
theorem st27 : SliceTy Try.prog 27 3 1 := ⟨Try.runUnderlying27, Try.sizeOf3⟩
theorem st34 : SliceTy Try.prog 34 22 1 := ⟨Try.runUnderlying34, Try.sizeOf22⟩
theorem st40 : SliceTy Try.prog 40 27 1 := ⟨Try.runUnderlying40, Try.sizeOf27⟩
theorem el3 : ElemTy Try.prog 3 1 8 (.int .i64 0) := ElemTy.mk (i := Try.t3) (by kernel_rfl) rfl rfl rfl rfl rfl
theorem el22 : ElemTy Try.prog 22 1 24 (.slice none 0 0) := ElemTy.mk (i := Try.t22) (by kernel_rfl) rfl rfl rfl rfl rfl
theorem el26 : ElemTy Try.prog 26 5 40 (.agg #[(.int .i64 0), (.int .i64 0), (.int .i64 0), (.int .i64 0), (.bool false)]) := ElemTy.mk (i := Try.t26) (by kernel_rfl) rfl rfl rfl rfl rfl
theorem el27 : ElemTy Try.prog 27 1 24 (.slice none 0 0) := ElemTy.mk (i := Try.t27) (by kernel_rfl) rfl rfl rfl rfl rfl
theorem bld24_0_2 (x0 : Int) (x2 : Int) (w : World) : (Instr.build 24 [(0, .int .i64 x0), (2, .int .i64 x2)].toArray).run Try.prog w = .ok (.agg #[.int .i64 x0, (.int .i64 0), .int .i64 x2]) w := by kernel_rfl
theorem bld24_2 (x2 : Int) (w : World) : (Instr.build 24 [(2, .int .i64 x2)].toArray).run Try.prog w = .ok (.agg #[(.int .i64 0), (.int .i64 0), .int .i64 x2]) w := by kernel_rfl
theorem bld26_0_1 (x0 : Int) (x10 x11 x12 : Value) (w : World) : (Instr.build 26 [(0, .int .i64 x0), (1, .agg #[x10, x11, x12])].toArray).run Try.prog w = .ok (.agg #[.int .i64 x0, x10, x11, x12, (.bool false)]) w := by kernel_rfl
theorem bld26_0_1_2 (x0 : Int) (x10 x11 x12 : Value) (x2 : Bool) (w : World) : (Instr.build 26 [(0, .int .i64 x0), (1, .agg #[x10, x11, x12]), (2, .bool x2)].toArray).run Try.prog w = .ok (.agg #[.int .i64 x0, x10, x11, x12, .bool x2]) w := by kernel_rfl
theorem bsl22_1_0 (x00 x01 x02 x03 x04 : Value) (w : World) : (Instr.buildSlice 22 1 [(0, .agg #[x00, x01, x02, x03, x04])].toArray).run Try.prog w = .ok (.slice (some ⟨w.heap.size, 0, none⟩) 1 1) (w.alloc (.cells [x00, x01, x02, x03, x04].toArray 26)) := by kernel_rfl
theorem bsl22_2_0_1 (x00 x01 x02 x03 x04 : Value) (x10 x11 x12 x13 x14 : Value) (w : World) : (Instr.buildSlice 22 2 [(0, .agg #[x00, x01, x02, x03, x04]), (1, .agg #[x10, x11, x12, x13, x14])].toArray).run Try.prog w = .ok (.slice (some ⟨w.heap.size, 0, none⟩) 2 2) (w.alloc (.cells [x00, x01, x02, x03, x04, x10, x11, x12, x13, x14].toArray 26)) := by kernel_rfl
theorem bsl27_1_0 (x0 : Int) (w : World) : (Instr.buildSlice 27 1 [(0, .int .i64 x0)].toArray).run Try.prog w = .ok (.slice (some ⟨w.heap.size, 0, none⟩) 1 1) (w.alloc (.cells [.int .i64 x0].toArray 3)) := by kernel_rfl
theorem bsl27_2_0_1 (x0 : Int) (x1 : Int) (w : World) : (Instr.buildSlice 27 2 [(0, .int .i64 x0), (1, .int .i64 x1)].toArray).run Try.prog w = .ok (.slice (some ⟨w.heap.size, 0, none⟩) 2 2) (w.alloc (.cells [.int .i64 x0, .int .i64 x1].toArray 3)) := by kernel_rfl
theorem bsl40_1_0 (x0a : Option Addr) (x0m x0c : Nat) (w : World) : (Instr.buildSlice 40 1 [(0, .slice x0a x0m x0c)].toArray).run Try.prog w = .ok (.slice (some ⟨w.heap.size, 0, none⟩) 1 1) (w.alloc (.cells [.slice x0a x0m x0c].toArray 27)) := by kernel_rfl
end Go.Proofs.Ytcmojpiokjhmhaa
