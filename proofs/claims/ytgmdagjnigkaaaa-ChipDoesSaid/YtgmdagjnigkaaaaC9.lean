/- The law package casematelaw07: awake. -/
import Derived.Test.YtgmdagjnigkaaaaC8
import Derived.Test.YtgmdagjnigkaaaaG7
namespace Go.Proofs.Ytgmdagjnigkaaaa
open Go.Sl Go.RowKit
set_option linter.unusedVariables false
set_option linter.unusedSimpArgs false
set_option maxRecDepth 20000

def tiny : Geo := ⟨2, 2, 1, 16, 1⟩
def z19 : List Int := List.replicate 19 0
def aw0 : Chip := Chip.new tiny [1]
def aw1 : Chip := aw0.arm 1 2
def aw2 : Chip := (aw1.program 0 0 z19).1
def aw3 : Chip := aw2.on
def aw4 : Chip := (aw3.burn 3).1
def aw5 : Chip := (aw4.burn 2).1
theorem law07_awake (K : World) (F : List Assn) : Tells Try.prog 17 #[] K F (.bool true) := by
  have q0 : (aw0.program 0 1 z19).2 = 71 := by kernel_rfl
  have q0' : (aw0.program 0 1 z19).1 = aw0 := by kernel_rfl
  have q1 : (aw1.program 0 0 z19).2 = 70 := by kernel_rfl
  have q2 : aw3.readErr 0 0 = 0 := by kernel_rfl
  have q3 : (ints .u8 (aw3.reads 0 0))[0 + (1 : Int).toNat * 1]? = some (.int .u8 0) := by kernel_rfl
  have q4 : (ints .u8 (aw3.reads 0 0))[0 + (2 : Int).toNat * 1]? = some (.int .u8 255) := by kernel_rfl
  have q5 : aw3.bad 0 = false := by kernel_rfl
  have q6 : aw3.bad 1 = true := by kernel_rfl
  have q7 : (aw3.burn 3).2 = 0 := by kernel_rfl
  have q8 : (aw4.burn 2).2 = 74 := by kernel_rfl
  have q9 : aw5.fused = 3 := by kernel_rfl
  have hz : IsBytes z19 := IsBytes.repl (by omega)
  have qm : tiny.may = true := by kernel_rfl
  refine Does.enter Try.func17 rfl Try.ntmps17 rfl ?_
  simp only [env0, Nat.reduceAdd]
  refine WC.seq ?_
  refine WC.region ?_
  refine WL.val (V.assign (OV.p rfl)) rfl ?_
  refine WL.nil ?_
  refine WC.seq ?_
  refine WC.region ?_
  refine WL.call (vs := []) Try.call48 trivial (law07_tiny _ _) rfl ?_
  rintro _ H0 ⟨rfl, h0⟩
  subst H0
  refine WL.buildSlice (E := 3) (cs := [_]) (vs := [(0, _)]) ⟨OV.p rfl, trivial⟩ rfl (bsl40_1_0 _) rfl (fun b10 => ?_)
  refine WL.call (vs := [_, _]) Try.call13 ⟨OV.p rfl, OV.p rfl, trivial⟩ (chip_New tiny (l := [1]) (Seq.all rfl) (by decide)) rfl ?_
  rintro _ _ (⟨hm, hin, bc, C0, hC0, s0, rfl, rfl⟩ | ⟨hno, rfl, rfl⟩)
  rotate_left
  · exact (hno ⟨qm, by decide⟩).elim
  refine WL.val (V.move (OV.p rfl)) rfl ?_
  refine WL.val (V.extract (OV.p rfl) rfl) rfl ?_
  refine WL.val (V.extract (OV.p rfl) rfl) rfl ?_
  refine WL.val (V.assign (OV.p rfl)) rfl ?_
  refine WL.val (V.assign (OV.p rfl)) rfl ?_
  refine WL.nil ?_
  refine WC.seq ?_
  refine WC.seq ?_
  refine WC.region ?_
  refine WL.val (V.move (OV.p rfl)) rfl ?_
  refine WL.val (V.eqlP Try.underlying25 (OV.p rfl) (OV.p rfl)) rfl ?_
  refine WL.val (V.move (OV.p rfl)) rfl ?_
  refine WL.valG (oj := _) rfl rfl rfl GC.f (V.move (OV.p rfl)) rfl ?_
  refine WL.valG (oj := _) rfl rfl rfl GC.f (V.neq (OV.g rfl id) (OV.p rfl)) rfl ?_
  refine WL.val (V.pickOr (OV.p rfl) (OV.g rfl id)) rfl ?_
  refine WL.nil ?_
  refine WC.condF' rfl (by first | rfl | (simp; done) | (simp; omega)) ?_
  refine WC.skip ?_
  refine WC.seq ?_
  refine WC.region ?_
  refine WL.make1 (m := 19) Try.underlying29 el5 (OV.p rfl) (OV.p rfl) rfl rfl (by omega) rfl rfl rfl (fun b20 => ?_)
  refine WL.sub (Sub.refl _) (fun w h => h.p1) ?_
  have hsq : ∀ {H : List Assn}, Seq K (Cells b20 5 (List.replicate 19 (.int .u8 0)) :: H) (some ⟨b20, 0, none⟩) 19 1 (ints .u8 z19) := Seq.allI (xs := z19) rfl
  refine WL.val (V.assign (OV.p rfl)) rfl ?_
  refine WL.nil ?_
  refine WC.seq ?_
  refine WC.region ?_
  refine WL.val (V.move (OV.p rfl)) rfl ?_
  refine WL.val (V.move (OV.p rfl)) rfl ?_
  refine WL.call (vs := [_, _, _, _]) Try.call16 ⟨OV.p rfl, OV.p rfl, OV.p rfl, OV.p rfl, trivial⟩ (chip_Program hC0 0 1 hz hsq (Nat.le_refl _)) rfl ?_
  rintro v1 _ ⟨C1, hC1, rfl, s1, hv1⟩
  rw [s0, show Chip.new tiny [1] = aw0 from rfl, q0] at hv1
  rw [s0, show Chip.new tiny [1] = aw0 from rfl, q0'] at s1
  subst hv1
  refine WL.val (V.assign (OV.p rfl)) rfl ?_
  refine WL.nil ?_
  refine WC.seq ?_
  refine WC.region ?_
  refine WL.val (V.move (OV.p rfl)) rfl ?_
  refine WL.call (vs := [_, _, _]) Try.call15 ⟨OV.p rfl, OV.p rfl, OV.p rfl, trivial⟩ (chip_Arm (C := C1) 1 2) rfl ?_
  rintro _ _ rfl
  have s2 : (C1.arm 1 2).sem = aw1 := by rw [show (C1.arm 1 2).sem = C1.sem.arm 1 2 from rfl, s1]; rfl
  refine WL.nil ?_
  refine WC.seq ?_
  refine WC.region ?_
  refine WL.val (V.move (OV.p rfl)) rfl ?_
  refine WL.val (V.move (OV.p rfl)) rfl ?_
  refine WL.call (vs := [_, _, _, _]) Try.call16 ⟨OV.p rfl, OV.p rfl, OV.p rfl, OV.p rfl, trivial⟩ (chip_Program (hC1.arm (by decide)) 0 0 hz hsq (Nat.le_refl _)) rfl ?_
  rintro v2 _ ⟨C2, hC2, rfl, s3, hv2⟩
  rw [s2, q1] at hv2
  rw [s2] at s3
  subst hv2
  refine WL.val (V.assign (OV.p rfl)) rfl ?_
  refine WL.nil ?_
  refine WC.seq ?_
  refine WC.region ?_
  refine WL.val (V.move (OV.p rfl)) rfl ?_
  refine WL.call (vs := [_]) Try.call21 ⟨OV.p rfl, trivial⟩ (chip_On (C := C2)) rfl ?_
  rintro _ _ rfl
  have s4 : C2.on.sem = aw3 := by rw [show C2.on.sem = C2.sem.on from rfl, s3]; rfl
  refine WL.nil ?_
  refine WC.seq ?_
  refine WC.region ?_
  refine WL.val (V.move (OV.p rfl)) rfl ?_
  refine WL.call (vs := [_, _, _]) Try.call19 ⟨OV.p rfl, OV.p rfl, OV.p rfl, trivial⟩ (chip_Read hC2.on 0 0) rfl ?_
  rintro _ _ (⟨_, bo, rfl, rfl⟩ | ⟨hno, rfl, rfl⟩)
  rotate_left
  · rw [s4] at hno; exact (hno q2).elim
  have hg : C2.on.g.raw.toNat = 19 := by rw [show C2.on.g = C2.on.sem.g from rfl, s4]; rfl
  rw [s4, hg]
  refine WL.sub (Sub.refl _) (fun w h => h.p1) ?_
  refine WL.val (V.move (OV.p rfl)) rfl ?_
  refine WL.val (V.extract (OV.p rfl) rfl) rfl ?_
  refine WL.val (V.extract (OV.p rfl) rfl) rfl ?_
  refine WL.val (V.assign (OV.p rfl)) rfl ?_
  refine WL.val (V.assign (OV.p rfl)) rfl ?_
  refine WL.nil ?_
  refine WC.seq ?_
  refine WC.region ?_
  refine WL.val (V.move (OV.p rfl)) rfl ?_
  refine WL.call (vs := [_, _]) Try.call29 ⟨OV.p rfl, OV.p rfl, trivial⟩ (Tells.eq (v' := .bool false) (chip_Bad (C := C2.on) 0) (by rw [s4, q5])) rfl ?_
  rintro _ H0 ⟨rfl, h0⟩
  subst H0
  refine WL.val (V.not (OV.p rfl)) rfl ?_
  refine WL.val (V.move (OV.p rfl)) rfl ?_
  refine WL.known (oj := _) rfl rfl rfl rfl ?_
  refine WL.val (V.move (OV.p rfl)) rfl ?_
  refine WL.known (oj := _) rfl rfl rfl rfl ?_
  refine WL.call (vs := [_, _]) Try.call29 ⟨OV.p rfl, OV.p rfl, trivial⟩ (Tells.eq (v' := .bool true) (chip_Bad (C := C2.on) 1) (by rw [s4, q6])) rfl ?_
  rintro _ H0 ⟨rfl, h0⟩
  subst H0
  refine WL.val (V.pickAnd (OV.p rfl) (OV.p rfl)) rfl ?_
  refine WL.val (V.move (OV.p rfl)) rfl ?_
  refine WL.known (oj := _) rfl rfl rfl rfl ?_
  refine WL.val (V.move (OV.p rfl)) rfl ?_
  refine WL.known (oj := _) rfl rfl rfl rfl ?_
  refine WL.val (V.eql (OV.p rfl) (OV.p rfl)) rfl ?_
  refine WL.val (V.pickAnd (OV.p rfl) (OV.p rfl)) rfl ?_
  refine WL.val (V.move (OV.p rfl)) rfl ?_
  refine WL.known (oj := _) rfl rfl rfl rfl ?_
  refine WL.val (V.move (OV.p rfl)) rfl ?_
  refine WL.known (oj := _) rfl rfl rfl rfl ?_
  refine WL.val (V.eql (OV.p rfl) (OV.p rfl)) rfl ?_
  refine WL.val (V.pickAnd (OV.p rfl) (OV.p rfl)) rfl ?_
  refine WL.val (V.move (OV.p rfl)) rfl ?_
  refine WL.known (oj := _) rfl rfl rfl rfl ?_
  refine WL.val (V.move (OV.p rfl)) rfl ?_
  refine WL.known (oj := _) rfl rfl rfl rfl ?_
  refine WL.val (V.eql (OV.p rfl) (OV.p rfl)) rfl ?_
  refine WL.val (V.pickAnd (OV.p rfl) (OV.p rfl)) rfl ?_
  refine WL.val (V.move (OV.p rfl)) rfl ?_
  refine WL.known (oj := _) rfl rfl rfl rfl ?_
  refine WL.val (V.move (OV.p rfl)) rfl ?_
  refine WL.known (oj := _) rfl rfl rfl rfl ?_
  refine WL.val (V.len (t := 29) Try.runUnderlying29 (OV.p rfl)) rfl ?_
  refine WL.known (oj := _) rfl rfl rfl rfl ?_
  refine WL.val (V.eql (OV.p rfl) (OV.p rfl)) rfl ?_
  refine WL.val (V.pickAnd (OV.p rfl) (OV.p rfl)) rfl ?_
  refine WL.val (V.move (OV.p rfl)) rfl ?_
  refine WL.known (oj := _) rfl rfl rfl rfl ?_
  refine WL.val (V.move (OV.p rfl)) rfl ?_
  refine WL.known (oj := _) rfl rfl rfl rfl ?_
  refine WL.val (V.idxB st29 (OV.p rfl) (OV.p rfl) (fun hc => by first | omega | (simp at hc; omega))) rfl ?_
  refine WL.known (oj := _) rfl rfl rfl rfl ?_
  refine WL.val (V.load Try.isAgg5 (OV.p rfl) (fun _ => by repeat (first | exact Rd.here q3 | apply Rd.up))) rfl ?_
  refine WL.known (oj := _) rfl rfl rfl rfl ?_
  refine WL.val (V.eql (OV.p rfl) (OV.p rfl)) rfl ?_
  refine WL.val (V.pickAnd (OV.p rfl) (OV.p rfl)) rfl ?_
  refine WL.val (V.move (OV.p rfl)) rfl ?_
  refine WL.known (oj := _) rfl rfl rfl rfl ?_
  refine WL.val (V.move (OV.p rfl)) rfl ?_
  refine WL.known (oj := _) rfl rfl rfl rfl ?_
  refine WL.val (V.idxB st29 (OV.p rfl) (OV.p rfl) (fun hc => by first | omega | (simp at hc; omega))) rfl ?_
  refine WL.known (oj := _) rfl rfl rfl rfl ?_
  refine WL.val (V.load Try.isAgg5 (OV.p rfl) (fun _ => by repeat (first | exact Rd.here q4 | apply Rd.up))) rfl ?_
  refine WL.known (oj := _) rfl rfl rfl rfl ?_
  refine WL.val (V.eql (OV.p rfl) (OV.p rfl)) rfl ?_
  refine WL.val (V.pickAnd (OV.p rfl) (OV.p rfl)) rfl ?_
  refine WL.val (V.move (OV.p rfl)) rfl ?_
  refine WL.known (oj := _) rfl rfl rfl rfl ?_
  refine WL.val (V.move (OV.p rfl)) rfl ?_
  refine WL.known (oj := _) rfl rfl rfl rfl ?_
  refine WL.call (vs := [_, _]) Try.call24 ⟨OV.p rfl, OV.p rfl, trivial⟩ (chip_Burn hC2.on 3) rfl ?_
  rintro v3 _ ⟨C3, hC3, rfl, s5, hv3⟩
  rw [s4, q7] at hv3
  rw [s4] at s5
  subst hv3
  refine WL.known (oj := _) rfl rfl rfl rfl ?_
  refine WL.val (V.eql (OV.p rfl) (OV.p rfl)) rfl ?_
  refine WL.val (V.pickAnd (OV.p rfl) (OV.p rfl)) rfl ?_
  refine WL.val (V.move (OV.p rfl)) rfl ?_
  refine WL.known (oj := _) rfl rfl rfl rfl ?_
  refine WL.val (V.move (OV.p rfl)) rfl ?_
  refine WL.known (oj := _) rfl rfl rfl rfl ?_
  refine WL.call (vs := [_, _]) Try.call24 ⟨OV.p rfl, OV.p rfl, trivial⟩ (chip_Burn hC3 2) rfl ?_
  rintro v4 _ ⟨C4, hC4, rfl, s6, hv4⟩
  rw [s5, show (aw3.burn 3).1 = aw4 from rfl, q8] at hv4
  rw [s5, show (aw3.burn 3).1 = aw4 from rfl] at s6
  subst hv4
  refine WL.known (oj := _) rfl rfl rfl rfl ?_
  refine WL.val (V.eql (OV.p rfl) (OV.p rfl)) rfl ?_
  refine WL.val (V.pickAnd (OV.p rfl) (OV.p rfl)) rfl ?_
  refine WL.val (V.move (OV.p rfl)) rfl ?_
  refine WL.known (oj := _) rfl rfl rfl rfl ?_
  refine WL.val (V.move (OV.p rfl)) rfl ?_
  refine WL.known (oj := _) rfl rfl rfl rfl ?_
  refine WL.call (vs := [_]) Try.call28 ⟨OV.p rfl, trivial⟩ (Tells.eq (v' := .int .i64 3) (chip_Fuse (C := C4)) (by rw [s6, show (aw4.burn 2).1 = aw5 from rfl, q9])) rfl ?_
  rintro _ H0 ⟨rfl, h0⟩
  subst H0
  refine WL.known (oj := _) rfl rfl rfl rfl ?_
  refine WL.val (V.eql (OV.p rfl) (OV.p rfl)) rfl ?_
  refine WL.val (V.pickAnd (OV.p rfl) (OV.p rfl)) rfl ?_
  refine WL.val (V.assign (OV.p rfl)) rfl ?_
  refine WL.nil ?_
  refine WC.ret ?_
  exact BodyQ.ret (H' := F) (Res.tmp rfl rfl) (fun w h => by repeat (first | exact h | replace h := h.tail)) ⟨rfl, rfl⟩
end Go.Proofs.Ytgmdagjnigkaaaa
