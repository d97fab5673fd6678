/- Facts on the types of this translation, printed by a program of mine. -/
import Derived.Test.YtcgbmifpmaembaaSlH
import Derived.Test.YtcgbmifpmaembaaProg
namespace Go.Proofs.Ytcgbmifpmaembaa
open Go.Sl
set_option linter.unusedVariables false
theorem at24 : ArrTy Try.prog 24 2 23 2 := ⟨Try.runUnderlying24, Try.sizeOf23⟩
theorem at49 : ArrTy Try.prog 49 2 3 1 := ⟨Try.runUnderlying49, Try.sizeOf3⟩
theorem fo23_0 : FieldOff Try.prog 23 0 0 := fun _ _ => by kernel_rfl
theorem fo23_1 : FieldOff Try.prog 23 1 1 := fun _ _ => by kernel_rfl
theorem fo26_0 : FieldOff Try.prog 26 0 0 := fun _ _ => by kernel_rfl
theorem fo26_1 : FieldOff Try.prog 26 1 1 := fun _ _ => by kernel_rfl
theorem st27 : SliceTy Try.prog 27 3 1 := ⟨Try.runUnderlying27, Try.sizeOf3⟩
theorem st36 : SliceTy Try.prog 36 5 1 := ⟨Try.runUnderlying36, Try.sizeOf5⟩
theorem el3 : ElemTy Try.prog 3 1 8 (.int .i64 0) := ElemTy.mk (i := Try.t3) (by kernel_rfl) rfl rfl rfl rfl rfl
theorem el5 : ElemTy Try.prog 5 1 1 (.int .u8 0) := ElemTy.mk (i := Try.t5) (by kernel_rfl) rfl rfl rfl rfl rfl
theorem bld23_0 (x0 : Int) (w : World) : (Instr.build 23 [(0, .int .i64 x0)].toArray).run Try.prog w = .ok (.agg #[.int .i64 x0, (.bool false)]) w := by kernel_rfl
theorem bld23_0_1 (x0 : Int) (x1 : Bool) (w : World) : (Instr.build 23 [(0, .int .i64 x0), (1, .bool x1)].toArray).run Try.prog w = .ok (.agg #[.int .i64 x0, .bool x1]) w := by kernel_rfl
theorem bld23_1 (x1 : Bool) (w : World) : (Instr.build 23 [(1, .bool x1)].toArray).run Try.prog w = .ok (.agg #[(.int .i64 0), .bool x1]) w := by kernel_rfl
theorem bld24_0_1 (x00 x01 : Value) (x10 x11 : Value) (w : World) : (Instr.build 24 [(0, .agg #[x00, x01]), (1, .agg #[x10, x11])].toArray).run Try.prog w = .ok (.agg #[x00, x01, x10, x11]) w := by kernel_rfl
theorem bld26 (w : World) : (Instr.build 26 [].toArray).run Try.prog w = .ok (.agg #[(.int .i64 0), (.int .i64 0), (.bool false), (.int .i64 0), (.bool false)]) w := by kernel_rfl
theorem bld26_0_1 (x0 : Int) (x10 x11 x12 x13 : Value) (w : World) : (Instr.build 26 [(0, .int .i64 x0), (1, .agg #[x10, x11, x12, x13])].toArray).run Try.prog w = .ok (.agg #[.int .i64 x0, x10, x11, x12, x13]) w := by kernel_rfl
theorem bld49_0_1 (x0 : Int) (x1 : Int) (w : World) : (Instr.build 49 [(0, .int .i64 x0), (1, .int .i64 x1)].toArray).run Try.prog w = .ok (.agg #[.int .i64 x0, .int .i64 x1]) w := by kernel_rfl
theorem bsl27_1_0 (x0 : Int) (w : World) : (Instr.buildSlice 27 1 [(0, .int .i64 x0)].toArray).run Try.prog w = .ok (.slice (some ⟨w.heap.size, 0, none⟩) 1 1) (w.alloc (.cells [.int .i64 x0].toArray 3)) := by kernel_rfl
theorem bsl36_1_0 (x0 : Int) (w : World) : (Instr.buildSlice 36 1 [(0, .int .u8 x0)].toArray).run Try.prog w = .ok (.slice (some ⟨w.heap.size, 0, none⟩) 1 1) (w.alloc (.cells [.int .u8 x0].toArray 5)) := by kernel_rfl
theorem bsl36_2_0_1 (x0 : Int) (x1 : Int) (w : World) : (Instr.buildSlice 36 2 [(0, .int .u8 x0), (1, .int .u8 x1)].toArray).run Try.prog w = .ok (.slice (some ⟨w.heap.size, 0, none⟩) 2 2) (w.alloc (.cells [.int .u8 x0, .int .u8 x1].toArray 5)) := by kernel_rfl
theorem bsl36_4_0_1_2_3 (x0 : Int) (x1 : Int) (x2 : Int) (x3 : Int) (w : World) : (Instr.buildSlice 36 4 [(0, .int .u8 x0), (1, .int .u8 x1), (2, .int .u8 x2), (3, .int .u8 x3)].toArray).run Try.prog w = .ok (.slice (some ⟨w.heap.size, 0, none⟩) 4 4) (w.alloc (.cells [.int .u8 x0, .int .u8 x1, .int .u8 x2, .int .u8 x3].toArray 5)) := by kernel_rfl
theorem eqt26 (x0 : Int) (x1 : Int) (x2 : Bool) (x3 : Int) (x4 : Bool) (y0 : Int) (y1 : Int) (y2 : Bool) (y3 : Int) (y4 : Bool) : EqIs Try.prog 10000 26 (.agg #[.int .i64 x0, .int .i64 x1, .bool x2, .int .i64 x3, .bool x4]) (.agg #[.int .i64 y0, .int .i64 y1, .bool y2, .int .i64 y3, .bool y4]) (((decide (x0 = y0)) && ((((((decide (x1 = y1)) && ((x2 == y2) && true))) && ((((decide (x3 = y3)) && ((x4 == y4) && true))) && true))) && true))) :=
  (EqIs.struct Try.underlying26 (by kernel_rfl) (EqF.cons (by decide) (part1 Try.isAgg3 rfl) (part1 Try.isAgg3 rfl) (EqIs.int Try.underlying3) (EqF.cons (by decide) (partG ⟨Try.isAgg24, Try.sizeOf24⟩ (vs := [_, _, _, _]) rfl ⟨rfl, rfl, rfl, rfl, trivial⟩) (partG ⟨Try.isAgg24, Try.sizeOf24⟩ (vs := [_, _, _, _]) rfl ⟨rfl, rfl, rfl, rfl, trivial⟩) (EqIs.array Try.underlying24 Try.sizeOf23 (EqE.cons (partG ⟨Try.isAgg23, Try.sizeOf23⟩ (vs := [_, _]) rfl ⟨rfl, rfl, trivial⟩) (partG ⟨Try.isAgg23, Try.sizeOf23⟩ (vs := [_, _]) rfl ⟨rfl, rfl, trivial⟩) (EqIs.struct Try.underlying23 (by kernel_rfl) (EqF.cons (by decide) (part1 Try.isAgg3 rfl) (part1 Try.isAgg3 rfl) (EqIs.int Try.underlying3) (EqF.cons (by decide) (part1 Try.isAgg4 rfl) (part1 Try.isAgg4 rfl) (EqIs.bool Try.underlying4) EqF.nil))) (EqE.cons (partG ⟨Try.isAgg23, Try.sizeOf23⟩ (vs := [_, _]) rfl ⟨rfl, rfl, trivial⟩) (partG ⟨Try.isAgg23, Try.sizeOf23⟩ (vs := [_, _]) rfl ⟨rfl, rfl, trivial⟩) (EqIs.struct Try.underlying23 (by kernel_rfl) (EqF.cons (by decide) (part1 Try.isAgg3 rfl) (part1 Try.isAgg3 rfl) (EqIs.int Try.underlying3) (EqF.cons (by decide) (part1 Try.isAgg4 rfl) (part1 Try.isAgg4 rfl) (EqIs.bool Try.underlying4) EqF.nil))) EqE.nil))) EqF.nil)))
end Go.Proofs.Ytcgbmifpmaembaa
