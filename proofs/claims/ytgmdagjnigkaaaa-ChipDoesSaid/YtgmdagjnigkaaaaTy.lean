/- Facts on the types of this translation, printed by a program of mine. -/
import Derived.Test.YtgmdagjnigkaaaaSlP
import Derived.Test.YtgmdagjnigkaaaaProg
namespace Go.Proofs.Ytgmdagjnigkaaaa
open Go.Sl
set_option linter.unusedVariables false
set_option maxRecDepth 20000
theorem fo103_0 : FieldOff Try.prog 103 0 0 := fun _ _ => by kernel_rfl
theorem fo103_1 : FieldOff Try.prog 103 1 1 := fun _ _ => by kernel_rfl
theorem fo103_2 : FieldOff Try.prog 103 2 2 := fun _ _ => by kernel_rfl
theorem fo103_3 : FieldOff Try.prog 103 3 3 := fun _ _ => by kernel_rfl
theorem fo105_0 : FieldOff Try.prog 105 0 0 := fun _ _ => by kernel_rfl
theorem fo105_1 : FieldOff Try.prog 105 1 1 := fun _ _ => by kernel_rfl
theorem fo23_0 : FieldOff Try.prog 23 0 0 := fun _ _ => by kernel_rfl
theorem fo23_1 : FieldOff Try.prog 23 1 1 := fun _ _ => by kernel_rfl
theorem fo23_2 : FieldOff Try.prog 23 2 2 := fun _ _ => by kernel_rfl
theorem fo23_3 : FieldOff Try.prog 23 3 3 := fun _ _ => by kernel_rfl
theorem fo23_4 : FieldOff Try.prog 23 4 4 := fun _ _ => by kernel_rfl
theorem fo45_0 : FieldOff Try.prog 45 0 0 := fun _ _ => by kernel_rfl
theorem fo45_1 : FieldOff Try.prog 45 1 1 := fun _ _ => by kernel_rfl
theorem fo45_2 : FieldOff Try.prog 45 2 2 := fun _ _ => by kernel_rfl
theorem fo45_3 : FieldOff Try.prog 45 3 3 := fun _ _ => by kernel_rfl
theorem fo45_4 : FieldOff Try.prog 45 4 4 := fun _ _ => by kernel_rfl
theorem fo45_5 : FieldOff Try.prog 45 5 5 := fun _ _ => by kernel_rfl
theorem fo52_0 : FieldOff Try.prog 52 0 0 := fun _ _ => by kernel_rfl
theorem fo52_2 : FieldOff Try.prog 52 2 2 := fun _ _ => by kernel_rfl
theorem fo54_0 : FieldOff Try.prog 54 0 0 := fun _ _ => by kernel_rfl
theorem fo54_1 : FieldOff Try.prog 54 1 1 := fun _ _ => by kernel_rfl
theorem fo54_2 : FieldOff Try.prog 54 2 4 := fun _ _ => by kernel_rfl
theorem fo68_0 : FieldOff Try.prog 68 0 0 := fun _ _ => by kernel_rfl
theorem fo68_1 : FieldOff Try.prog 68 1 5 := fun _ _ => by kernel_rfl
theorem fo68_2 : FieldOff Try.prog 68 2 6 := fun _ _ => by kernel_rfl
theorem fo68_3 : FieldOff Try.prog 68 3 7 := fun _ _ => by kernel_rfl
theorem fo68_4 : FieldOff Try.prog 68 4 8 := fun _ _ => by kernel_rfl
theorem fo68_5 : FieldOff Try.prog 68 5 9 := fun _ _ => by kernel_rfl
theorem fo77_0 : FieldOff Try.prog 77 0 0 := fun _ _ => by kernel_rfl
theorem fo77_1 : FieldOff Try.prog 77 1 5 := fun _ _ => by kernel_rfl
theorem fo77_10 : FieldOff Try.prog 77 10 14 := fun _ _ => by kernel_rfl
theorem fo77_2 : FieldOff Try.prog 77 2 6 := fun _ _ => by kernel_rfl
theorem fo77_3 : FieldOff Try.prog 77 3 7 := fun _ _ => by kernel_rfl
theorem fo77_4 : FieldOff Try.prog 77 4 8 := fun _ _ => by kernel_rfl
theorem fo77_5 : FieldOff Try.prog 77 5 9 := fun _ _ => by kernel_rfl
theorem fo77_6 : FieldOff Try.prog 77 6 10 := fun _ _ => by kernel_rfl
theorem fo77_7 : FieldOff Try.prog 77 7 11 := fun _ _ => by kernel_rfl
theorem fo77_8 : FieldOff Try.prog 77 8 12 := fun _ _ => by kernel_rfl
theorem fo77_9 : FieldOff Try.prog 77 9 13 := fun _ _ => by kernel_rfl
theorem st101 : SliceTy Try.prog 101 105 2 := ⟨Try.runUnderlying101, Try.sizeOf105⟩
theorem st29 : SliceTy Try.prog 29 5 1 := ⟨Try.runUnderlying29, Try.sizeOf5⟩
theorem st40 : SliceTy Try.prog 40 3 1 := ⟨Try.runUnderlying40, Try.sizeOf3⟩
theorem st41 : SliceTy Try.prog 41 45 6 := ⟨Try.runUnderlying41, Try.sizeOf45⟩
theorem st43 : SliceTy Try.prog 43 4 1 := ⟨Try.runUnderlying43, Try.sizeOf4⟩
theorem st50 : SliceTy Try.prog 50 54 5 := ⟨Try.runUnderlying50, Try.sizeOf54⟩
theorem st66 : SliceTy Try.prog 66 103 4 := ⟨Try.runUnderlying66, Try.sizeOf103⟩
theorem st88 : SliceTy Try.prog 88 50 1 := ⟨Try.runUnderlying88, Try.sizeOf50⟩
theorem st94 : SliceTy Try.prog 94 40 1 := ⟨Try.runUnderlying94, Try.sizeOf40⟩
theorem el3 : ElemTy Try.prog 3 1 8 (.int .i64 0) := ElemTy.mk (i := Try.t3) (by kernel_rfl) rfl rfl rfl rfl rfl
theorem el4 : ElemTy Try.prog 4 1 1 (.bool false) := ElemTy.mk (i := Try.t4) (by kernel_rfl) rfl rfl rfl rfl rfl
theorem el5 : ElemTy Try.prog 5 1 1 (.int .u8 0) := ElemTy.mk (i := Try.t5) (by kernel_rfl) rfl rfl rfl rfl rfl
theorem el40 : ElemTy Try.prog 40 1 24 (.slice none 0 0) := ElemTy.mk (i := Try.t40) (by kernel_rfl) rfl rfl rfl rfl rfl
theorem el50 : ElemTy Try.prog 50 1 24 (.slice none 0 0) := ElemTy.mk (i := Try.t50) (by kernel_rfl) rfl rfl rfl rfl rfl
theorem el54 : ElemTy Try.prog 54 5 40 (.agg #[(.int .i64 0), (.int .i64 0), (.int .i64 0), (.int .i64 0), (.bool false)]) := ElemTy.mk (i := Try.t54) (by kernel_rfl) rfl rfl rfl rfl rfl
theorem el103 : ElemTy Try.prog 103 4 40 (.agg #[(.slice none 0 0), (.int .i64 0), (.bool false), (.bool false)]) := ElemTy.mk (i := Try.t103) (by kernel_rfl) rfl rfl rfl rfl rfl
theorem el105 : ElemTy Try.prog 105 2 48 (.agg #[(.slice none 0 0), (.slice none 0 0)]) := ElemTy.mk (i := Try.t105) (by kernel_rfl) rfl rfl rfl rfl rfl
theorem bld23 (w : World) : (Instr.build 23 [].toArray).run Try.prog w = .ok (.agg #[(.int .i64 0), (.int .i64 0), (.int .i64 0), (.int .i64 0), (.int .i64 0)]) w := by kernel_rfl
theorem bld23_0_1_2_3_4 (x0 : Int) (x1 : Int) (x2 : Int) (x3 : Int) (x4 : Int) (w : World) : (Instr.build 23 [(0, .int .i64 x0), (1, .int .i64 x1), (2, .int .i64 x2), (3, .int .i64 x3), (4, .int .i64 x4)].toArray).run Try.prog w = .ok (.agg #[.int .i64 x0, .int .i64 x1, .int .i64 x2, .int .i64 x3, .int .i64 x4]) w := by kernel_rfl
theorem bld52_0_2 (x0 : Int) (x2 : Int) (w : World) : (Instr.build 52 [(0, .int .i64 x0), (2, .int .i64 x2)].toArray).run Try.prog w = .ok (.agg #[.int .i64 x0, (.int .i64 0), .int .i64 x2]) w := by kernel_rfl
theorem bld52_2 (x2 : Int) (w : World) : (Instr.build 52 [(2, .int .i64 x2)].toArray).run Try.prog w = .ok (.agg #[(.int .i64 0), (.int .i64 0), .int .i64 x2]) w := by kernel_rfl
theorem bld54_0_1 (x0 : Int) (x10 x11 x12 : Value) (w : World) : (Instr.build 54 [(0, .int .i64 x0), (1, .agg #[x10, x11, x12])].toArray).run Try.prog w = .ok (.agg #[.int .i64 x0, x10, x11, x12, (.bool false)]) w := by kernel_rfl
theorem bld54_0_1_2 (x0 : Int) (x10 x11 x12 : Value) (x2 : Bool) (w : World) : (Instr.build 54 [(0, .int .i64 x0), (1, .agg #[x10, x11, x12]), (2, .bool x2)].toArray).run Try.prog w = .ok (.agg #[.int .i64 x0, x10, x11, x12, .bool x2]) w := by kernel_rfl
theorem bld68_0_3 (x00 x01 x02 x03 x04 : Value) (x3 : Bool) (w : World) : (Instr.build 68 [(0, .agg #[x00, x01, x02, x03, x04]), (3, .bool x3)].toArray).run Try.prog w = .ok (.agg #[x00, x01, x02, x03, x04, (.slice none 0 0), (.int .i64 0), .bool x3, (.int .i64 0), (.int .i64 0)]) w := by kernel_rfl
theorem bld77_0_1_2_3_4_5_6_8 (x00 x01 x02 x03 x04 : Value) (x1 : Int) (x2 : Option Nat) (x3 : Option Nat) (x4a : Option Addr) (x4m x4c : Nat) (x5 : Option Nat) (x6 : Option Nat) (x8 : Bool) (w : World) : (Instr.build 77 [(0, .agg #[x00, x01, x02, x03, x04]), (1, .int .i64 x1), (2, .map x2), (3, .map x3), (4, .slice x4a x4m x4c), (5, .map x5), (6, .map x6), (8, .bool x8)].toArray).run Try.prog w = .ok (.agg #[x00, x01, x02, x03, x04, .int .i64 x1, .map x2, .map x3, .slice x4a x4m x4c, .map x5, .map x6, (.int .i64 0), .bool x8, (.int .i64 0), (.int .i64 0)]) w := by kernel_rfl
theorem bld82_0_1 (x0 : Int) (x1 : Int) (w : World) : (Instr.build 82 [(0, .int .i64 x0), (1, .int .i64 x1)].toArray).run Try.prog w = .ok (.agg #[.int .i64 x0, .int .i64 x1]) w := by kernel_rfl
theorem bld105_0 (x0a : Option Addr) (x0m x0c : Nat) (w : World) : (Instr.build 105 [(0, .slice x0a x0m x0c)].toArray).run Try.prog w = .ok (.agg #[.slice x0a x0m x0c, (.slice none 0 0)]) w := by kernel_rfl
theorem bsl29_0 (w : World) : (Instr.buildSlice 29 0 [].toArray).run Try.prog w = .ok (.slice (some ⟨w.heap.size, 0, none⟩) 0 0) (w.alloc (.cells [].toArray 5)) := by kernel_rfl
theorem bsl40_0 (w : World) : (Instr.buildSlice 40 0 [].toArray).run Try.prog w = .ok (.slice (some ⟨w.heap.size, 0, none⟩) 0 0) (w.alloc (.cells [].toArray 3)) := by kernel_rfl
theorem bsl40_1_0 (x0 : Int) (w : World) : (Instr.buildSlice 40 1 [(0, .int .i64 x0)].toArray).run Try.prog w = .ok (.slice (some ⟨w.heap.size, 0, none⟩) 1 1) (w.alloc (.cells [.int .i64 x0].toArray 3)) := by kernel_rfl
theorem bsl40_2_0_1 (x0 : Int) (x1 : Int) (w : World) : (Instr.buildSlice 40 2 [(0, .int .i64 x0), (1, .int .i64 x1)].toArray).run Try.prog w = .ok (.slice (some ⟨w.heap.size, 0, none⟩) 2 2) (w.alloc (.cells [.int .i64 x0, .int .i64 x1].toArray 3)) := by kernel_rfl
theorem bsl50_1_0 (x00 x01 x02 x03 x04 : Value) (w : World) : (Instr.buildSlice 50 1 [(0, .agg #[x00, x01, x02, x03, x04])].toArray).run Try.prog w = .ok (.slice (some ⟨w.heap.size, 0, none⟩) 1 1) (w.alloc (.cells [x00, x01, x02, x03, x04].toArray 54)) := by kernel_rfl
theorem bsl50_2_0_1 (x00 x01 x02 x03 x04 : Value) (x10 x11 x12 x13 x14 : Value) (w : World) : (Instr.buildSlice 50 2 [(0, .agg #[x00, x01, x02, x03, x04]), (1, .agg #[x10, x11, x12, x13, x14])].toArray).run Try.prog w = .ok (.slice (some ⟨w.heap.size, 0, none⟩) 2 2) (w.alloc (.cells [x00, x01, x02, x03, x04, x10, x11, x12, x13, x14].toArray 54)) := by kernel_rfl
theorem bsl66_1_0 (x00 x01 x02 x03 : Value) (w : World) : (Instr.buildSlice 66 1 [(0, .agg #[x00, x01, x02, x03])].toArray).run Try.prog w = .ok (.slice (some ⟨w.heap.size, 0, none⟩) 1 1) (w.alloc (.cells [x00, x01, x02, x03].toArray 103)) := by kernel_rfl
theorem bsl94_1_0 (x0a : Option Addr) (x0m x0c : Nat) (w : World) : (Instr.buildSlice 94 1 [(0, .slice x0a x0m x0c)].toArray).run Try.prog w = .ok (.slice (some ⟨w.heap.size, 0, none⟩) 1 1) (w.alloc (.cells [.slice x0a x0m x0c].toArray 40)) := by kernel_rfl
theorem bsl101_1_0 (x00 x01 : Value) (w : World) : (Instr.buildSlice 101 1 [(0, .agg #[x00, x01])].toArray).run Try.prog w = .ok (.slice (some ⟨w.heap.size, 0, none⟩) 1 1) (w.alloc (.cells [x00, x01].toArray 105)) := by kernel_rfl
theorem eqt23 (x0 : Int) (x1 : Int) (x2 : Int) (x3 : Int) (x4 : Int) (y0 : Int) (y1 : Int) (y2 : Int) (y3 : Int) (y4 : Int) : EqIs Try.prog 10000 23 (.agg #[.int .i64 x0, .int .i64 x1, .int .i64 x2, .int .i64 x3, .int .i64 x4]) (.agg #[.int .i64 y0, .int .i64 y1, .int .i64 y2, .int .i64 y3, .int .i64 y4]) (((decide (x0 = y0)) && ((decide (x1 = y1)) && ((decide (x2 = y2)) && ((decide (x3 = y3)) && ((decide (x4 = y4)) && true)))))) :=
  (EqIs.struct Try.underlying23 (by kernel_rfl) (EqF.cons (by decide) (part1 Try.isAgg3 rfl) (part1 Try.isAgg3 rfl) (EqIs.int Try.underlying3) (EqF.cons (by decide) (part1 Try.isAgg3 rfl) (part1 Try.isAgg3 rfl) (EqIs.int Try.underlying3) (EqF.cons (by decide) (part1 Try.isAgg3 rfl) (part1 Try.isAgg3 rfl) (EqIs.int Try.underlying3) (EqF.cons (by decide) (part1 Try.isAgg3 rfl) (part1 Try.isAgg3 rfl) (EqIs.int Try.underlying3) (EqF.cons (by decide) (part1 Try.isAgg3 rfl) (part1 Try.isAgg3 rfl) (EqIs.int Try.underlying3) EqF.nil))))))
theorem eqt82 (x0 : Int) (x1 : Int) (y0 : Int) (y1 : Int) : EqIs Try.prog 10000 82 (.agg #[.int .i64 x0, .int .i64 x1]) (.agg #[.int .i64 y0, .int .i64 y1]) (((decide (x0 = y0)) && ((decide (x1 = y1)) && true))) :=
  (EqIs.struct Try.underlying82 (by kernel_rfl) (EqF.cons (by decide) (part1 Try.isAgg3 rfl) (part1 Try.isAgg3 rfl) (EqIs.int Try.underlying3) (EqF.cons (by decide) (part1 Try.isAgg3 rfl) (part1 Try.isAgg3 rfl) (EqIs.int Try.underlying3) EqF.nil)))
abbrev key3 (i : Int) : Value := .int .i64 i
theorem kl3 : KeyL Try.prog 3 key3 := KeyL.int Try.underlying3
abbrev key82 (p : Int × Int) : Value := .agg #[.int .i64 p.1, .int .i64 p.2]
theorem kl82 : KeyL Try.prog 82 key82 where
  check b p w := by kernel_rfl
  eq p q w := by
    have h := eqt82 p.1 p.2 q.1 q.2 w
    refine h.trans ?_
    congr 1
    rw [Bool.eq_iff_iff]
    simp [Prod.ext_iff]
  und := ⟨_, Try.underlying82, fun p q => .inl rfl⟩
  bits p := by simp [Instr.sameBits]
end Go.Proofs.Ytgmdagjnigkaaaa
