import Derived.Test.YtcedojacbhnbiaaGreatP4
import Derived.Test.YtcedojacbhnbiaaGreatProg
namespace Go.Proofs.YtcedojacbhnbiaaGreat
open Go.Sl
set_option linter.unusedVariables false
set_option maxRecDepth 20000
theorem KH : Ho Tryz.prog 122 2 3 1 := ⟨Tryz.runUnderlying122, Tryz.sizeOf3⟩
theorem Aa : Ho Tryz.prog 56 2 55 2 := ⟨Tryz.runUnderlying56, Tryz.sizeOf55⟩
theorem qy : aN Tryz.prog 127 0 0 := fun _ _ => by kernel_rfl
theorem jw : aN Tryz.prog 127 1 1 := fun _ _ => by kernel_rfl
theorem jA : aN Tryz.prog 127 2 6 := fun _ _ => by kernel_rfl
theorem uh : aN Tryz.prog 127 3 7 := fun _ _ => by kernel_rfl
theorem iG : aN Tryz.prog 127 4 8 := fun _ _ => by kernel_rfl
theorem xw : aN Tryz.prog 127 5 9 := fun _ _ => by kernel_rfl
theorem CG : aN Tryz.prog 127 6 10 := fun _ _ => by kernel_rfl
theorem xG : aN Tryz.prog 157 0 0 := fun _ _ => by kernel_rfl
theorem tJ : aN Tryz.prog 157 1 1 := fun _ _ => by kernel_rfl
theorem jr : aN Tryz.prog 157 2 2 := fun _ _ => by kernel_rfl
theorem wW : aN Tryz.prog 165 0 0 := fun _ _ => by kernel_rfl
theorem Hf : aN Tryz.prog 165 1 5 := fun _ _ => by kernel_rfl
theorem xW : aN Tryz.prog 165 10 14 := fun _ _ => by kernel_rfl
theorem qw : aN Tryz.prog 165 2 6 := fun _ _ => by kernel_rfl
theorem w9 : aN Tryz.prog 165 3 7 := fun _ _ => by kernel_rfl
theorem xA : aN Tryz.prog 165 4 8 := fun _ _ => by kernel_rfl
theorem Cn : aN Tryz.prog 165 5 9 := fun _ _ => by kernel_rfl
theorem GH : aN Tryz.prog 165 6 10 := fun _ _ => by kernel_rfl
theorem Cq : aN Tryz.prog 165 7 11 := fun _ _ => by kernel_rfl
theorem CV : aN Tryz.prog 165 8 12 := fun _ _ => by kernel_rfl
theorem qh : aN Tryz.prog 165 9 13 := fun _ _ => by kernel_rfl
theorem jC : aN Tryz.prog 169 0 0 := fun _ _ => by kernel_rfl
theorem qj : aN Tryz.prog 169 1 1 := fun _ _ => by kernel_rfl
theorem jk : aN Tryz.prog 23 0 0 := fun _ _ => by kernel_rfl
theorem pJ : aN Tryz.prog 23 1 1 := fun _ _ => by kernel_rfl
theorem mR : aN Tryz.prog 23 2 2 := fun _ _ => by kernel_rfl
theorem gW : aN Tryz.prog 23 3 3 := fun _ _ => by kernel_rfl
theorem rH : aN Tryz.prog 23 4 4 := fun _ _ => by kernel_rfl
theorem qD : aN Tryz.prog 237 0 0 := fun _ _ => by kernel_rfl
theorem lD : aN Tryz.prog 237 1 1 := fun _ _ => by kernel_rfl
theorem Ma : aN Tryz.prog 237 2 4 := fun _ _ => by kernel_rfl
theorem G6 : aN Tryz.prog 296 0 0 := fun _ _ => by kernel_rfl
theorem GL : aN Tryz.prog 296 1 1 := fun _ _ => by kernel_rfl
theorem BF : aN Tryz.prog 296 2 2 := fun _ _ => by kernel_rfl
theorem mU : aN Tryz.prog 37 0 0 := fun _ _ => by kernel_rfl
theorem NJ : aN Tryz.prog 37 1 1 := fun _ _ => by kernel_rfl
theorem lT : aN Tryz.prog 37 2 2 := fun _ _ => by kernel_rfl
theorem mM : aN Tryz.prog 37 4 4 := fun _ _ => by kernel_rfl
theorem xu : aN Tryz.prog 370 0 0 := fun _ _ => by kernel_rfl
theorem xg : aN Tryz.prog 370 1 1 := fun _ _ => by kernel_rfl
theorem wZ : aN Tryz.prog 370 2 2 := fun _ _ => by kernel_rfl
theorem oU : aN Tryz.prog 55 0 0 := fun _ _ => by kernel_rfl
theorem Cr : aN Tryz.prog 55 1 1 := fun _ _ => by kernel_rfl
theorem uT : aN Tryz.prog 58 0 0 := fun _ _ => by kernel_rfl
theorem u7 : aN Tryz.prog 58 1 1 := fun _ _ => by kernel_rfl
theorem bO : iX Tryz.prog 124 3 1 := ⟨Tryz.runUnderlying124, Tryz.sizeOf3⟩
theorem sQ : iX Tryz.prog 125 124 1 := ⟨Tryz.runUnderlying125, Tryz.sizeOf124⟩
theorem kH : iX Tryz.prog 170 237 5 := ⟨Tryz.runUnderlying170, Tryz.sizeOf237⟩
theorem Bc : iX Tryz.prog 238 170 1 := ⟨Tryz.runUnderlying238, Tryz.sizeOf170⟩
theorem OT : iX Tryz.prog 265 296 3 := ⟨Tryz.runUnderlying265, Tryz.sizeOf296⟩
theorem dB : iX Tryz.prog 34 5 1 := ⟨Tryz.runUnderlying34, Tryz.sizeOf5⟩
theorem el3 : fO Tryz.prog 3 1 8 (.int .i64 0) := fO.mk (i := Tryz.t3) (by kernel_rfl) rfl rfl rfl rfl rfl
theorem vP : fO Tryz.prog 5 1 1 (.int .u8 0) := fO.mk (i := Tryz.t5) (by kernel_rfl) rfl rfl rfl rfl rfl
theorem Oh : fO Tryz.prog 124 1 24 (.slice none 0 0) := fO.mk (i := Tryz.t124) (by kernel_rfl) rfl rfl rfl rfl rfl
theorem Og : fO Tryz.prog 170 1 24 (.slice none 0 0) := fO.mk (i := Tryz.t170) (by kernel_rfl) rfl rfl rfl rfl rfl
theorem KN : fO Tryz.prog 237 5 40 (.agg #[(.int .i64 0), (.int .i64 0), (.int .i64 0), (.int .i64 0), (.bool false)]) := fO.mk (i := Tryz.t237) (by kernel_rfl) rfl rfl rfl rfl rfl
theorem O8 : fO Tryz.prog 296 3 40 (.agg #[(.slice none 0 0), (.int .i64 0), (.int .i64 0)]) := fO.mk (i := Tryz.t296) (by kernel_rfl) rfl rfl rfl rfl rfl
theorem wH (x0 : Int) (x1 : Int) (x2 : Int) (x3 : Int) (x4 : Int) (w : World) : (Instr.build 23 [(0, .int .i64 x0), (1, .int .i64 x1), (2, .int .i64 x2), (3, .int .i64 x3), (4, .int .i64 x4)].toArray).run Tryz.prog w = .ok (.agg #[.int .i64 x0, .int .i64 x1, .int .i64 x2, .int .i64 x3, .int .i64 x4]) w := by kernel_rfl
theorem xH (x4 : Int) (w : World) : (Instr.build 37 [(4, .int .i64 x4)].toArray).run Tryz.prog w = .ok (.agg #[(.int .i64 0), (.int .i64 0), (.int .i64 0), (.slice none 0 0), .int .i64 x4]) w := by kernel_rfl
theorem AQ (x0 : Int) (x1 : Bool) (w : World) : (Instr.build 55 [(0, .int .i64 x0), (1, .bool x1)].toArray).run Tryz.prog w = .ok (.agg #[.int .i64 x0, .bool x1]) w := by kernel_rfl
theorem MH (x1 : Bool) (w : World) : (Instr.build 55 [(1, .bool x1)].toArray).run Tryz.prog w = .ok (.agg #[(.int .i64 0), .bool x1]) w := by kernel_rfl
theorem IJ (x00 x01 : Value) (x10 GK : Value) (w : World) : (Instr.build 56 [(0, .agg #[x00, x01]), (1, .agg #[x10, GK])].toArray).run Tryz.prog w = .ok (.agg #[x00, x01, x10, GK]) w := by kernel_rfl
theorem zl (w : World) : (Instr.build 58 [].toArray).run Tryz.prog w = .ok (.agg #[(.int .i64 0), (.int .i64 0), (.bool false), (.int .i64 0), (.bool false)]) w := by kernel_rfl
theorem Io (x0 : Int) (x10 GK JL MJ : Value) (w : World) : (Instr.build 58 [(0, .int .i64 x0), (1, .agg #[x10, GK, JL, MJ])].toArray).run Tryz.prog w = .ok (.agg #[.int .i64 x0, x10, GK, JL, MJ]) w := by kernel_rfl
theorem Gs (x0 : Int) (x1 : Int) (w : World) : (Instr.build 122 [(0, .int .i64 x0), (1, .int .i64 x1)].toArray).run Tryz.prog w = .ok (.agg #[.int .i64 x0, .int .i64 x1]) w := by kernel_rfl
theorem F9 (x0 : Option Addr) (x10 GK JL MJ OH : Value) (w : World) : (Instr.build 127 [(0, .pointer x0), (1, .agg #[x10, GK, JL, MJ, OH])].toArray).run Tryz.prog w = .ok (.agg #[.pointer x0, x10, GK, JL, MJ, OH, (.slice none 0 0), (.slice none 0 0), (.int .i64 0), (.int .i64 0), (.bool false)]) w := by kernel_rfl
theorem Gv (w : World) : (Instr.build 157 [].toArray).run Tryz.prog w = .ok (.agg #[(.int .i64 0), (.int .i64 0), (.int .i64 0)]) w := by kernel_rfl
theorem mX (x0 : Int) (x1 : Int) (x2 : Int) (w : World) : (Instr.build 157 [(0, .int .i64 x0), (1, .int .i64 x1), (2, .int .i64 x2)].toArray).run Tryz.prog w = .ok (.agg #[.int .i64 x0, .int .i64 x1, .int .i64 x2]) w := by kernel_rfl
theorem nR (x00 x01 MO OL Pf : Value) (x1 : Int) (x2 : Option Nat) (x3 : Option Nat) (QN : Option Addr) (QH QB : Nat) (x5 : Option Nat) (x6 : Option Nat) (x8 : Bool) (w : World) : (Instr.build 165 [(0, .agg #[x00, x01, MO, OL, Pf]), (1, .int .i64 x1), (2, .map x2), (3, .map x3), (4, .slice QN QH QB), (5, .map x5), (6, .map x6), (8, .bool x8)].toArray).run Tryz.prog w = .ok (.agg #[x00, x01, MO, OL, Pf, .int .i64 x1, .map x2, .map x3, .slice QN QH QB, .map x5, .map x6, (.int .i64 0), .bool x8, (.int .i64 0), (.int .i64 0)]) w := by kernel_rfl
theorem FE (x0 : Option Addr) (x10 GK JL MJ OH : Value) (w : World) : (Instr.build 169 [(0, .pointer x0), (1, .agg #[x10, GK, JL, MJ, OH])].toArray).run Tryz.prog w = .ok (.agg #[.pointer x0, x10, GK, JL, MJ, OH]) w := by kernel_rfl
theorem Bv (x0 : Int) (x10 GK JL : Value) (x2 : Bool) (w : World) : (Instr.build 237 [(0, .int .i64 x0), (1, .agg #[x10, GK, JL]), (2, .bool x2)].toArray).run Tryz.prog w = .ok (.agg #[.int .i64 x0, x10, GK, JL, .bool x2]) w := by kernel_rfl
theorem fq (x0 : Int) (x1 : Int) (w : World) : (Instr.build 292 [(0, .int .i64 x0), (1, .int .i64 x1)].toArray).run Tryz.prog w = .ok (.agg #[.int .i64 x0, .int .i64 x1]) w := by kernel_rfl
theorem Ch (x0 : Int) (OG : Option Addr) (O7 OJ : Nat) (x2a : Option Addr) (QY QC : Nat) (w : World) : (Instr.build 370 [(0, .int .i64 x0), (1, .slice OG O7 OJ), (2, .slice x2a QY QC)].toArray).run Tryz.prog w = .ok (.agg #[.int .i64 x0, .slice OG O7 OJ, .slice x2a QY QC]) w := by kernel_rfl
theorem Mt (w : World) : (Instr.buildSlice 34 0 [].toArray).run Tryz.prog w = .ok (.slice (some ⟨w.heap.size, 0, none⟩) 0 0) (w.alloc (.cells [].toArray 5)) := by kernel_rfl
theorem Bf (x0 : Int) (w : World) : (Instr.buildSlice 34 1 [(0, .int .u8 x0)].toArray).run Tryz.prog w = .ok (.slice (some ⟨w.heap.size, 0, none⟩) 1 1) (w.alloc (.cells [.int .u8 x0].toArray 5)) := by kernel_rfl
theorem iE (x0 : Int) (x1 : Int) (x2 : Int) (x3 : Int) (w : World) : (Instr.buildSlice 34 4 [(0, .int .u8 x0), (1, .int .u8 x1), (2, .int .u8 x2), (3, .int .u8 x3)].toArray).run Tryz.prog w = .ok (.slice (some ⟨w.heap.size, 0, none⟩) 4 4) (w.alloc (.cells [.int .u8 x0, .int .u8 x1, .int .u8 x2, .int .u8 x3].toArray 5)) := by kernel_rfl
theorem JX (w : World) : (Instr.buildSlice 124 0 [].toArray).run Tryz.prog w = .ok (.slice (some ⟨w.heap.size, 0, none⟩) 0 0) (w.alloc (.cells [].toArray 3)) := by kernel_rfl
theorem cZ (x0 : Int) (w : World) : (Instr.buildSlice 124 1 [(0, .int .i64 x0)].toArray).run Tryz.prog w = .ok (.slice (some ⟨w.heap.size, 0, none⟩) 1 1) (w.alloc (.cells [.int .i64 x0].toArray 3)) := by kernel_rfl
theorem ng (x0 : Int) (x1 : Int) (w : World) : (Instr.buildSlice 124 2 [(0, .int .i64 x0), (1, .int .i64 x1)].toArray).run Tryz.prog w = .ok (.slice (some ⟨w.heap.size, 0, none⟩) 2 2) (w.alloc (.cells [.int .i64 x0, .int .i64 x1].toArray 3)) := by kernel_rfl
theorem yC (x0 : Int) (x1 : Int) (x2 : Int) (w : World) : (Instr.buildSlice 124 3 [(0, .int .i64 x0), (1, .int .i64 x1), (2, .int .i64 x2)].toArray).run Tryz.prog w = .ok (.slice (some ⟨w.heap.size, 0, none⟩) 3 3) (w.alloc (.cells [.int .i64 x0, .int .i64 x1, .int .i64 x2].toArray 3)) := by kernel_rfl
theorem Cu (x0a : Option Addr) (QS Qv : Nat) (OG : Option Addr) (O7 OJ : Nat) (w : World) : (Instr.buildSlice 125 2 [(0, .slice x0a QS Qv), (1, .slice OG O7 OJ)].toArray).run Tryz.prog w = .ok (.slice (some ⟨w.heap.size, 0, none⟩) 2 2) (w.alloc (.cells [.slice x0a QS Qv, .slice OG O7 OJ].toArray 124)) := by kernel_rfl
theorem q9 (x00 x01 MO OL Pf : Value) (w : World) : (Instr.buildSlice 170 1 [(0, .agg #[x00, x01, MO, OL, Pf])].toArray).run Tryz.prog w = .ok (.slice (some ⟨w.heap.size, 0, none⟩) 1 1) (w.alloc (.cells [x00, x01, MO, OL, Pf].toArray 237)) := by kernel_rfl
theorem FR (x00 x01 MO : Value) (w : World) : (Instr.buildSlice 265 1 [(0, .agg #[x00, x01, MO])].toArray).run Tryz.prog w = .ok (.slice (some ⟨w.heap.size, 0, none⟩) 1 1) (w.alloc (.cells [x00, x01, MO].toArray 296)) := by kernel_rfl
theorem LP (c0 c1 c2 c3 c4 : Value) (w : World) : (Instr.field 23 (.agg #[c0, c1, c2, c3, c4]) 0).run Tryz.prog w = .ok (c0) w := by kernel_rfl
theorem Mf (c0 c1 c2 c3 c4 : Value) (w : World) : (Instr.field 23 (.agg #[c0, c1, c2, c3, c4]) 1).run Tryz.prog w = .ok (c1) w := by kernel_rfl
theorem Nw (x0 : Int) (x1 : Int) (y0 : Int) (y1 : Int) : qG Tryz.prog 10000 292 (.agg #[.int .i64 x0, .int .i64 x1]) (.agg #[.int .i64 y0, .int .i64 y1]) (((decide (x0 = y0)) && ((decide (x1 = y1)) && true))) :=
  (qG.struct Tryz.underlying292 (by kernel_rfl) (MG.cons (by decide) (xZ Tryz.isAgg3 rfl) (xZ Tryz.isAgg3 rfl) (qG.int Tryz.underlying3) (MG.cons (by decide) (xZ Tryz.isAgg3 rfl) (xZ Tryz.isAgg3 rfl) (qG.int Tryz.underlying3) MG.nil)))
abbrev kI (i : Int) : Value := .int .i64 i
theorem OA : sM Tryz.prog 3 kI := sM.int Tryz.underlying3
abbrev dW (p : Int × Int) : Value := .agg #[.int .i64 p.1, .int .i64 p.2]
theorem qM : sM Tryz.prog 292 dW where
  check b p w := by kernel_rfl
  eq p q w := by
    have h := Nw p.1 p.2 q.1 q.2 w
    refine h.trans ?_
    congr 1
    rw [Bool.eq_iff_iff]
    simp [Prod.ext_iff]
  und := ⟨_, Tryz.underlying292, fun p q => .inl rfl⟩
  bits p := by simp [Instr.sameBits]
end Go.Proofs.YtcedojacbhnbiaaGreat
