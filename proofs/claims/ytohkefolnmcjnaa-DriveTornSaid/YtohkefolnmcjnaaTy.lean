/- Facts on the types of this translation, printed by a program of mine. -/
import Derived.Test.YtohkefolnmcjnaaSlP
import Derived.Test.YtohkefolnmcjnaaProg
namespace Go.Proofs.Ytohkefolnmcjnaa
open Go.Sl
set_option linter.unusedVariables false
set_option maxRecDepth 20000
theorem fo102_0 : FieldOff Try.prog 102 0 0 := fun _ _ => by kernel_rfl
theorem fo102_1 : FieldOff Try.prog 102 1 1 := fun _ _ => by kernel_rfl
theorem fo102_2 : FieldOff Try.prog 102 2 2 := fun _ _ => by kernel_rfl
theorem fo23_0 : FieldOff Try.prog 23 0 0 := fun _ _ => by kernel_rfl
theorem fo23_1 : FieldOff Try.prog 23 1 1 := fun _ _ => by kernel_rfl
theorem fo23_2 : FieldOff Try.prog 23 2 2 := fun _ _ => by kernel_rfl
theorem fo23_3 : FieldOff Try.prog 23 3 3 := fun _ _ => by kernel_rfl
theorem fo23_4 : FieldOff Try.prog 23 4 4 := fun _ _ => by kernel_rfl
theorem fo56_0 : FieldOff Try.prog 56 0 0 := fun _ _ => by kernel_rfl
theorem fo56_1 : FieldOff Try.prog 56 1 5 := fun _ _ => by kernel_rfl
theorem fo56_10 : FieldOff Try.prog 56 10 14 := fun _ _ => by kernel_rfl
theorem fo56_2 : FieldOff Try.prog 56 2 6 := fun _ _ => by kernel_rfl
theorem fo56_3 : FieldOff Try.prog 56 3 7 := fun _ _ => by kernel_rfl
theorem fo56_4 : FieldOff Try.prog 56 4 8 := fun _ _ => by kernel_rfl
theorem fo56_5 : FieldOff Try.prog 56 5 9 := fun _ _ => by kernel_rfl
theorem fo56_6 : FieldOff Try.prog 56 6 10 := fun _ _ => by kernel_rfl
theorem fo56_8 : FieldOff Try.prog 56 8 12 := fun _ _ => by kernel_rfl
theorem fo56_9 : FieldOff Try.prog 56 9 13 := fun _ _ => by kernel_rfl
theorem fo59_0 : FieldOff Try.prog 59 0 0 := fun _ _ => by kernel_rfl
theorem fo59_1 : FieldOff Try.prog 59 1 1 := fun _ _ => by kernel_rfl
theorem fo82_0 : FieldOff Try.prog 82 0 0 := fun _ _ => by kernel_rfl
theorem fo82_1 : FieldOff Try.prog 82 1 1 := fun _ _ => by kernel_rfl
theorem fo82_2 : FieldOff Try.prog 82 2 2 := fun _ _ => by kernel_rfl
theorem st119 : SliceTy Try.prog 119 39 1 := ⟨Try.runUnderlying119, Try.sizeOf39⟩
theorem st24 : SliceTy Try.prog 24 5 1 := ⟨Try.runUnderlying24, Try.sizeOf5⟩
theorem st39 : SliceTy Try.prog 39 3 1 := ⟨Try.runUnderlying39, Try.sizeOf3⟩
theorem st67 : SliceTy Try.prog 67 82 3 := ⟨Try.runUnderlying67, Try.sizeOf82⟩
theorem el3 : ElemTy Try.prog 3 1 8 (.int .i64 0) := ElemTy.mk (i := Try.t3) (by kernel_rfl) rfl rfl rfl rfl rfl
theorem el5 : ElemTy Try.prog 5 1 1 (.int .u8 0) := ElemTy.mk (i := Try.t5) (by kernel_rfl) rfl rfl rfl rfl rfl
theorem el39 : ElemTy Try.prog 39 1 24 (.slice none 0 0) := ElemTy.mk (i := Try.t39) (by kernel_rfl) rfl rfl rfl rfl rfl
theorem el82 : ElemTy Try.prog 82 3 40 (.agg #[(.slice none 0 0), (.int .i64 0), (.int .i64 0)]) := ElemTy.mk (i := Try.t82) (by kernel_rfl) rfl rfl rfl rfl rfl
theorem bld23 (w : World) : (Instr.build 23 [].toArray).run Try.prog w = .ok (.agg #[(.int .i64 0), (.int .i64 0), (.int .i64 0), (.int .i64 0), (.int .i64 0)]) w := by kernel_rfl
theorem bld23_0_1_2_3_4 (x0 : Int) (x1 : Int) (x2 : Int) (x3 : Int) (x4 : Int) (w : World) : (Instr.build 23 [(0, .int .i64 x0), (1, .int .i64 x1), (2, .int .i64 x2), (3, .int .i64 x3), (4, .int .i64 x4)].toArray).run Try.prog w = .ok (.agg #[.int .i64 x0, .int .i64 x1, .int .i64 x2, .int .i64 x3, .int .i64 x4]) w := by kernel_rfl
theorem bld56_0_1_2_3_4_5_6_8 (x00 x01 x02 x03 x04 : Value) (x1 : Int) (x2 : Option Nat) (x3 : Option Nat) (x4a : Option Addr) (x4m x4c : Nat) (x5 : Option Nat) (x6 : Option Nat) (x8 : Bool) (w : World) : (Instr.build 56 [(0, .agg #[x00, x01, x02, x03, x04]), (1, .int .i64 x1), (2, .map x2), (3, .map x3), (4, .slice x4a x4m x4c), (5, .map x5), (6, .map x6), (8, .bool x8)].toArray).run Try.prog w = .ok (.agg #[x00, x01, x02, x03, x04, .int .i64 x1, .map x2, .map x3, .slice x4a x4m x4c, .map x5, .map x6, (.int .i64 0), .bool x8, (.int .i64 0), (.int .i64 0)]) w := by kernel_rfl
theorem bld59_0_1 (x0 : Option Addr) (x10 x11 x12 x13 x14 : Value) (w : World) : (Instr.build 59 [(0, .pointer x0), (1, .agg #[x10, x11, x12, x13, x14])].toArray).run Try.prog w = .ok (.agg #[.pointer x0, x10, x11, x12, x13, x14]) w := by kernel_rfl
theorem bld76_0_1 (x0 : Int) (x1 : Int) (w : World) : (Instr.build 76 [(0, .int .i64 x0), (1, .int .i64 x1)].toArray).run Try.prog w = .ok (.agg #[.int .i64 x0, .int .i64 x1]) w := by kernel_rfl
theorem bld102_0_1_2 (x0 : Int) (x1a : Option Addr) (x1m x1c : Nat) (x2a : Option Addr) (x2m x2c : Nat) (w : World) : (Instr.build 102 [(0, .int .i64 x0), (1, .slice x1a x1m x1c), (2, .slice x2a x2m x2c)].toArray).run Try.prog w = .ok (.agg #[.int .i64 x0, .slice x1a x1m x1c, .slice x2a x2m x2c]) w := by kernel_rfl
theorem bsl24_0 (w : World) : (Instr.buildSlice 24 0 [].toArray).run Try.prog w = .ok (.slice (some ⟨w.heap.size, 0, none⟩) 0 0) (w.alloc (.cells [].toArray 5)) := by kernel_rfl
theorem bsl24_1_0 (x0 : Int) (w : World) : (Instr.buildSlice 24 1 [(0, .int .u8 x0)].toArray).run Try.prog w = .ok (.slice (some ⟨w.heap.size, 0, none⟩) 1 1) (w.alloc (.cells [.int .u8 x0].toArray 5)) := by kernel_rfl
theorem bsl24_16_0_1_2_3_4_5_6_7_8_9_10_11_12_13_14_15 (x0 : Int) (x1 : Int) (x2 : Int) (x3 : Int) (x4 : Int) (x5 : Int) (x6 : Int) (x7 : Int) (x8 : Int) (x9 : Int) (x10 : Int) (x11 : Int) (x12 : Int) (x13 : Int) (x14 : Int) (x15 : Int) (w : World) : (Instr.buildSlice 24 16 [(0, .int .u8 x0), (1, .int .u8 x1), (2, .int .u8 x2), (3, .int .u8 x3), (4, .int .u8 x4), (5, .int .u8 x5), (6, .int .u8 x6), (7, .int .u8 x7), (8, .int .u8 x8), (9, .int .u8 x9), (10, .int .u8 x10), (11, .int .u8 x11), (12, .int .u8 x12), (13, .int .u8 x13), (14, .int .u8 x14), (15, .int .u8 x15)].toArray).run Try.prog w = .ok (.slice (some ⟨w.heap.size, 0, none⟩) 16 16) (w.alloc (.cells [.int .u8 x0, .int .u8 x1, .int .u8 x2, .int .u8 x3, .int .u8 x4, .int .u8 x5, .int .u8 x6, .int .u8 x7, .int .u8 x8, .int .u8 x9, .int .u8 x10, .int .u8 x11, .int .u8 x12, .int .u8 x13, .int .u8 x14, .int .u8 x15].toArray 5)) := by kernel_rfl
theorem bsl39_0 (w : World) : (Instr.buildSlice 39 0 [].toArray).run Try.prog w = .ok (.slice (some ⟨w.heap.size, 0, none⟩) 0 0) (w.alloc (.cells [].toArray 3)) := by kernel_rfl
theorem bsl39_1_0 (x0 : Int) (w : World) : (Instr.buildSlice 39 1 [(0, .int .i64 x0)].toArray).run Try.prog w = .ok (.slice (some ⟨w.heap.size, 0, none⟩) 1 1) (w.alloc (.cells [.int .i64 x0].toArray 3)) := by kernel_rfl
theorem bsl39_2_0_1 (x0 : Int) (x1 : Int) (w : World) : (Instr.buildSlice 39 2 [(0, .int .i64 x0), (1, .int .i64 x1)].toArray).run Try.prog w = .ok (.slice (some ⟨w.heap.size, 0, none⟩) 2 2) (w.alloc (.cells [.int .i64 x0, .int .i64 x1].toArray 3)) := by kernel_rfl
theorem bsl67_1_0 (x00 x01 x02 : Value) (w : World) : (Instr.buildSlice 67 1 [(0, .agg #[x00, x01, x02])].toArray).run Try.prog w = .ok (.slice (some ⟨w.heap.size, 0, none⟩) 1 1) (w.alloc (.cells [x00, x01, x02].toArray 82)) := by kernel_rfl
theorem bsl119_2_0_1 (x0a : Option Addr) (x0m x0c : Nat) (x1a : Option Addr) (x1m x1c : Nat) (w : World) : (Instr.buildSlice 119 2 [(0, .slice x0a x0m x0c), (1, .slice x1a x1m x1c)].toArray).run Try.prog w = .ok (.slice (some ⟨w.heap.size, 0, none⟩) 2 2) (w.alloc (.cells [.slice x0a x0m x0c, .slice x1a x1m x1c].toArray 39)) := by kernel_rfl
theorem fld23_0 (c0 c1 c2 c3 c4 : Value) (w : World) : (Instr.field 23 (.agg #[c0, c1, c2, c3, c4]) 0).run Try.prog w = .ok (c0) w := by kernel_rfl
theorem fld23_1 (c0 c1 c2 c3 c4 : Value) (w : World) : (Instr.field 23 (.agg #[c0, c1, c2, c3, c4]) 1).run Try.prog w = .ok (c1) w := by kernel_rfl
theorem eqt23 (x0 : Int) (x1 : Int) (x2 : Int) (x3 : Int) (x4 : Int) (y0 : Int) (y1 : Int) (y2 : Int) (y3 : Int) (y4 : Int) : EqIs Try.prog 10000 23 (.agg #[.int .i64 x0, .int .i64 x1, .int .i64 x2, .int .i64 x3, .int .i64 x4]) (.agg #[.int .i64 y0, .int .i64 y1, .int .i64 y2, .int .i64 y3, .int .i64 y4]) (((decide (x0 = y0)) && ((decide (x1 = y1)) && ((decide (x2 = y2)) && ((decide (x3 = y3)) && ((decide (x4 = y4)) && true)))))) :=
  (EqIs.struct Try.underlying23 (by kernel_rfl) (EqF.cons (by decide) (part1 Try.isAgg3 rfl) (part1 Try.isAgg3 rfl) (EqIs.int Try.underlying3) (EqF.cons (by decide) (part1 Try.isAgg3 rfl) (part1 Try.isAgg3 rfl) (EqIs.int Try.underlying3) (EqF.cons (by decide) (part1 Try.isAgg3 rfl) (part1 Try.isAgg3 rfl) (EqIs.int Try.underlying3) (EqF.cons (by decide) (part1 Try.isAgg3 rfl) (part1 Try.isAgg3 rfl) (EqIs.int Try.underlying3) (EqF.cons (by decide) (part1 Try.isAgg3 rfl) (part1 Try.isAgg3 rfl) (EqIs.int Try.underlying3) EqF.nil))))))
theorem eqt76 (x0 : Int) (x1 : Int) (y0 : Int) (y1 : Int) : EqIs Try.prog 10000 76 (.agg #[.int .i64 x0, .int .i64 x1]) (.agg #[.int .i64 y0, .int .i64 y1]) (((decide (x0 = y0)) && ((decide (x1 = y1)) && true))) :=
  (EqIs.struct Try.underlying76 (by kernel_rfl) (EqF.cons (by decide) (part1 Try.isAgg3 rfl) (part1 Try.isAgg3 rfl) (EqIs.int Try.underlying3) (EqF.cons (by decide) (part1 Try.isAgg3 rfl) (part1 Try.isAgg3 rfl) (EqIs.int Try.underlying3) EqF.nil)))
abbrev key3 (i : Int) : Value := .int .i64 i
theorem kl3 : KeyL Try.prog 3 key3 := KeyL.int Try.underlying3
abbrev key76 (p : Int × Int) : Value := .agg #[.int .i64 p.1, .int .i64 p.2]
theorem kl76 : KeyL Try.prog 76 key76 where
  check b p w := by kernel_rfl
  eq p q w := by
    have h := eqt76 p.1 p.2 q.1 q.2 w
    refine h.trans ?_
    congr 1
    rw [Bool.eq_iff_iff]
    simp [Prod.ext_iff]
  und := ⟨_, Try.underlying76, fun p q => .inl rfl⟩
  bits p := by simp [Instr.sameBits]
end Go.Proofs.Ytohkefolnmcjnaa
