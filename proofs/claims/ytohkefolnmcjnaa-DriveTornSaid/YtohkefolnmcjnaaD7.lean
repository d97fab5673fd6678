/- casematelaw08: small, tiny, awake. -/
import Derived.Test.YtohkefolnmcjnaaD6
import Derived.Test.YtohkefolnmcjnaaBE
namespace Go.Proofs.Ytohkefolnmcjnaa
open Go.Sl Go.RowKit
set_option linter.unusedVariables false
set_option linter.unusedSimpArgs false
set_option maxRecDepth 20000

theorem law08_small (g : Geo) (K : World) (F : List Assn) : Tells Try.prog 7 #[g.v] K F (.bool (g.may && decide (g.room ≤ 32) && decide (g.bl ≤ 16) && decide (g.pg ≤ 8))) := by
  refine Does.enter Try.func7 rfl Try.ntmps7 rfl ?_
  simp only [env0, Nat.reduceAdd]
  refine WC.seq ?_
  refine WC.region ?_
  refine WL.box (cs := [_, _, _, _, _]) (OV.p rfl) rfl rfl (fun b1 => ?_)
  refine WL.val (V.assign (OV.p rfl)) rfl ?_
  refine WL.nil ?_
  refine WC.seq ?_
  refine WC.region ?_
  refine WL.val (V.loadA (vs := [_, _, _, _, _]) ⟨Try.isAgg23, Try.sizeOf23⟩ (OV.p rfl) rfl (fun _ => by repeat (first | exact Rds.gets ⟨rfl, rfl, rfl, rfl, rfl, trivial⟩ | apply Rds.up))) rfl ?_
  refine WL.call (vs := [_]) Try.call22 ⟨OV.p rfl, trivial⟩ (ref06_May g _ _) rfl ?_
  rintro _ H0 ⟨rfl, h0⟩
  subst H0
  refine WL.val (V.move (OV.p rfl)) rfl ?_
  refine WL.valG (oj := _) rfl rfl rfl GC.t (V.loadA (vs := [_, _, _, _, _]) ⟨Try.isAgg23, Try.sizeOf23⟩ (OV.p rfl) rfl (fun _ => by repeat (first | exact Rds.gets ⟨rfl, rfl, rfl, rfl, rfl, trivial⟩ | apply Rds.up))) rfl ?_
  refine WL.callG (oj := _) (vs := [_]) rfl rfl rfl GC.t Try.call8 ⟨OV.g rfl id, trivial⟩ (fun hg => ref06_Room g (Geo.mays_of (by simpa using hg)) _ _) rfl ?_
  refine WL.valG (oj := _) rfl rfl rfl GC.t (V.leq (OV.g rfl id) (OV.p rfl)) rfl ?_
  refine WL.val (V.pickAnd (OV.p rfl) (OV.g rfl id)) rfl ?_
  refine WL.val (V.move (OV.p rfl)) rfl ?_
  refine WL.valG (oj := _) rfl rfl rfl GC.t (V.fieldAddr fo23_0 (OV.p rfl)) rfl ?_
  refine WL.valG (oj := _) rfl rfl rfl GC.t (V.load Try.isAgg3 (OV.g rfl id) (fun _ => by repeat (first | exact Rd.here rfl | apply Rd.up))) rfl ?_
  refine WL.valG (oj := _) rfl rfl rfl GC.t (V.leq (OV.g rfl id) (OV.p rfl)) rfl ?_
  refine WL.val (V.pickAnd (OV.p rfl) (OV.g rfl id)) rfl ?_
  refine WL.val (V.move (OV.p rfl)) rfl ?_
  refine WL.valG (oj := _) rfl rfl rfl GC.t (V.fieldAddr fo23_1 (OV.p rfl)) rfl ?_
  refine WL.valG (oj := _) rfl rfl rfl GC.t (V.load Try.isAgg3 (OV.g rfl id) (fun _ => by repeat (first | exact Rd.here rfl | apply Rd.up))) rfl ?_
  refine WL.valG (oj := _) rfl rfl rfl GC.t (V.leq (OV.g rfl id) (OV.p rfl)) rfl ?_
  refine WL.val (V.pickAnd (OV.p rfl) (OV.g rfl id)) rfl ?_
  refine WL.val (V.assign (OV.p rfl)) rfl ?_
  refine WL.nil ?_
  refine WC.ret ?_
  exact BodyQ.ret (H' := F) (Res.tmp rfl rfl) (fun w h => by repeat (first | exact h | replace h := h.tail)) ⟨rfl, rfl⟩
theorem law08_tiny (K : World) (F : List Assn) : Tells Try.prog 37 #[] K F (Geo.mk 2 2 1 16 1).v := by
  refine Does.enter Try.func37 rfl Try.ntmps37 rfl ?_
  simp only [env0, Nat.reduceAdd]
  refine WC.seq ?_
  refine WC.region ?_
  refine WL.alloc (cs := [(.int .i64 0), (.int .i64 0), (.int .i64 0), (.int .i64 0), (.int .i64 0)]) Try.zeroValue23 rfl rfl (fun b0 => ?_)
  refine WL.nil ?_
  refine WC.seq ?_
  refine WC.region ?_
  refine WL.val (V.build (vs := [(0, _), (1, _), (2, _), (3, _), (4, _)]) ⟨OV.p rfl, OV.p rfl, OV.p rfl, OV.p rfl, OV.p rfl, trivial⟩ rfl (bld23_0_1_2_3_4 _ _ _ _ _)) rfl ?_
  refine WL.store (cs := [_, _, _, _, _]) Try.sizeOf23 (OV.p rfl) (OV.p rfl) rfl rfl rfl (by repeat (first | exact Upd.here (cs' := [_, _, _, _, _]) rfl rfl | apply Upd.up)) ?_
  refine WL.nil ?_
  refine WC.ret ?_
  exact BodyQ.ret (H' := F) (Res.one rfl (R1.cellA (vs := [_, _, _, _, _]) rfl ⟨Try.isAgg23, Try.sizeOf23⟩ rfl (by repeat (first | exact Rds.gets ⟨rfl, rfl, rfl, rfl, rfl, trivial⟩ | apply Rds.up)))) (fun w h => by repeat (first | exact h | replace h := h.tail)) ⟨rfl, rfl⟩
def tiny8 : Geo := ⟨2, 2, 1, 16, 1⟩
def dat8 : List Nat := [115, 105, 120, 116, 101, 101, 110, 32, 98, 121, 116, 101, 115, 44, 32, 48]
def w8a : Chip := (Chip.new tiny8 []).weaken 1
def w8b : Chip := (w8a.dWrite 0 0 dat8).1
def w8c : Chip := (w8b.dWrite 1 0 dat8).1
theorem law08_awake (K : World) (F : List Assn) : Tells Try.prog 16 #[] K F (.bool true) := by
  have q0 : (w8a.dWrite 0 0 dat8).2 = 0 := by kernel_rfl
  have q1 : w8b.dRead 0 0 = ⟨0, dat8, 0⟩ := by kernel_rfl
  have q2 : (w8b.dWrite 1 0 dat8).2 = 72 := by kernel_rfl
  have q3 : w8c.good = [0] := by kernel_rfl
  have q4 : (w8c.dWrite 1 0 dat8).2 = 73 := by kernel_rfl
  have qm : tiny8.may = true := by kernel_rfl
  have hd8 : Small 256 dat8 := by unfold Small; decide
  refine Does.enter Try.func16 rfl Try.ntmps16 rfl ?_
  simp only [env0, Nat.reduceAdd]
  refine WC.seq ?_
  refine WC.region ?_
  refine WL.val (V.assign (OV.p rfl)) rfl ?_
  refine WL.nil ?_
  refine WC.seq ?_
  refine WC.region ?_
  refine WL.call (vs := []) Try.call37 trivial (law08_tiny _ _) rfl ?_
  rintro _ H0 ⟨rfl, h0⟩
  subst H0
  refine WL.call (vs := [_, _]) Try.call9 ⟨OV.p rfl, OV.p rfl, trivial⟩ (chip_New tiny8 (l := []) Seq.nil (by decide)) rfl ?_
  rintro _ _ (⟨hm, hin, bc, C0, hC0, s0, rfl, rfl⟩ | ⟨hno, rfl, rfl⟩)
  rotate_left
  · exact (hno ⟨qm, fun x hx => by simp at hx⟩).elim
  have g0 : C0.g = tiny8 := by rw [show C0.g = C0.sem.g from rfl, s0]; rfl
  refine WL.val (V.move (OV.p rfl)) rfl ?_
  refine WL.val (V.extract (OV.p rfl) rfl) rfl ?_
  refine WL.val (V.extract (OV.p rfl) rfl) rfl ?_
  refine WL.val (V.assign (OV.p rfl)) rfl ?_
  refine WL.val (V.assign (OV.p rfl)) rfl ?_
  refine WL.nil ?_
  refine WC.seq ?_
  refine WC.region ?_
  refine WL.val (V.move (OV.p rfl)) rfl ?_
  refine WL.call (vs := [_]) Try.call10 ⟨OV.p rfl, trivial⟩ (drive_NewG hC0 g0) rfl ?_
  rintro _ _ ⟨bd, rfl, rfl⟩
  refine WL.val (V.move (OV.p rfl)) rfl ?_
  refine WL.val (V.extract (OV.p rfl) rfl) rfl ?_
  refine WL.val (V.extract (OV.p rfl) rfl) rfl ?_
  refine WL.val (V.assign (OV.p rfl)) rfl ?_
  refine WL.val (V.assign (OV.p rfl)) rfl ?_
  refine WL.nil ?_
  refine WC.seq ?_
  refine WC.region ?_
  refine WL.call (vs := [_]) Try.call10 ⟨OV.p rfl, trivial⟩ (nil_New) rfl ?_
  rintro _ H0 ⟨rfl, h0⟩
  subst H0
  refine WL.val (V.move (OV.p rfl)) rfl ?_
  refine WL.val (V.extract (OV.p rfl) rfl) rfl ?_
  refine WL.val (V.extract (OV.p rfl) rfl) rfl ?_
  refine WL.val (V.assign (OV.p rfl)) rfl ?_
  refine WL.val (V.assign (OV.p rfl)) rfl ?_
  refine WL.nil ?_
  refine WC.seq ?_
  refine WC.seq ?_
  refine WC.region ?_
  refine WL.val (V.move (OV.p rfl)) rfl ?_
  refine WL.val (V.eqlP Try.underlying31 (OV.p rfl) (OV.p rfl)) rfl ?_
  refine WL.val (V.move (OV.p rfl)) rfl ?_
  refine WL.valG (oj := _) rfl rfl rfl GC.f (V.move (OV.p rfl)) rfl ?_
  refine WL.valG (oj := _) rfl rfl rfl GC.f (V.neq (OV.g rfl id) (OV.p rfl)) rfl ?_
  refine WL.val (V.pickOr (OV.p rfl) (OV.g rfl id)) rfl ?_
  refine WL.val (V.move (OV.p rfl)) rfl ?_
  refine WL.valG (oj := _) rfl rfl rfl GC.f (V.move (OV.p rfl)) rfl ?_
  refine WL.valG (oj := _) rfl rfl rfl GC.f (V.neq (OV.g rfl id) (OV.p rfl)) rfl ?_
  refine WL.val (V.pickOr (OV.p rfl) (OV.g rfl id)) rfl ?_
  refine WL.nil ?_
  refine WC.condF' rfl (by first | rfl | (simp; done) | (simp; omega)) ?_
  refine WC.skip ?_
  refine WC.seq ?_
  refine WC.region ?_
  refine WL.buildSlice (E := 5) (cs := [_, _, _, _, _, _, _, _, _, _, _, _, _, _, _, _]) (vs := [(0, _), (1, _), (2, _), (3, _), (4, _), (5, _), (6, _), (7, _), (8, _), (9, _), (10, _), (11, _), (12, _), (13, _), (14, _), (15, _)]) ⟨OV.p rfl, OV.p rfl, OV.p rfl, OV.p rfl, OV.p rfl, OV.p rfl, OV.p rfl, OV.p rfl, OV.p rfl, OV.p rfl, OV.p rfl, OV.p rfl, OV.p rfl, OV.p rfl, OV.p rfl, OV.p rfl, trivial⟩ rfl (bsl24_16_0_1_2_3_4_5_6_7_8_9_10_11_12_13_14_15 _ _ _ _ _ _ _ _ _ _ _ _ _ _ _ _) rfl (fun b37 => ?_)
  refine WL.convMark Try.underlying24 Try.underlying5 (OV.p rfl) rfl ?_
  refine WL.sub (Sub.refl _) (fun w h => h.sel 3 [1, 2, 0] rfl) ?_
  have hsq : ∀ {X Y : Assn}, Seq K (X :: Y :: CellsZ b37 5 (nats .u8 dat8) :: F) (some ⟨b37, 0, none⟩) 16 1 (nats .u8 dat8) := fun {X Y} => Seq.up (Seq.up (Seq.allZ rfl))
  refine WL.val (V.assign (OV.p rfl)) rfl ?_
  refine WL.nil ?_
  refine WC.seq ?_
  refine WC.region ?_
  refine WL.val (V.move (OV.p rfl)) rfl ?_
  refine WL.call (vs := [_, _]) Try.call11 ⟨OV.p rfl, OV.p rfl, trivial⟩ (chip_WeakG hC0 g0 1) rfl ?_
  rintro _ _ ⟨C1, hC1, g1, rfl, s1⟩
  have s1' : C1.sem = w8a := by rw [s1, s0]; rfl
  refine WL.nil ?_
  refine WC.seq ?_
  refine WC.region ?_
  refine WL.val (V.move (OV.p rfl)) rfl ?_
  refine WL.val (V.move (OV.p rfl)) rfl ?_
  refine WL.call (vs := [_, _, _, _]) Try.call12 ⟨OV.p rfl, OV.p rfl, OV.p rfl, OV.p rfl, trivial⟩ (drive_WriteG hC1 g1 0 0 (Seq.allZ rfl : Seq K (CellsZ b37 5 (nats .u8 dat8) :: F) (some ⟨b37, 0, none⟩) 16 1 (nats .u8 dat8)) hd8 (Nat.le_refl _) (by decide)) rfl ?_
  rintro v1 _ ⟨C2, hC2, g2, rfl, s2, hv1⟩
  rw [s1', q0] at hv1
  have s2' : C2.sem = w8b := by rw [s2, s1']; rfl
  subst hv1
  refine WL.val (V.assign (OV.p rfl)) rfl ?_
  refine WL.nil ?_
  refine WC.seq ?_
  refine WC.region ?_
  refine WL.val (V.move (OV.p rfl)) rfl ?_
  refine WL.call (vs := [_, _, _]) Try.call14 ⟨OV.p rfl, OV.p rfl, OV.p rfl, trivial⟩ (drive_ReadG hC2 g2 0 0) rfl ?_
  rintro _ _ ⟨A3, c3, rfl, rfl⟩
  rw [s2', q1]
  refine WL.sub (Sub.refl _) (fun w h => h.sel 4 [1, 2, 3, 0] rfl) ?_
  refine WL.val (V.move (OV.p rfl)) rfl ?_
  refine WL.val (V.extract (OV.p rfl) rfl) rfl ?_
  refine WL.val (V.extract (OV.p rfl) rfl) rfl ?_
  refine WL.val (V.extract (OV.p rfl) rfl) rfl ?_
  refine WL.val (V.assign (OV.p rfl)) rfl ?_
  refine WL.val (V.assign (OV.p rfl)) rfl ?_
  refine WL.val (V.assign (OV.p rfl)) rfl ?_
  refine WL.nil ?_
  refine WC.seq ?_
  refine WC.region ?_
  refine WL.val (V.move (OV.p rfl)) rfl ?_
  refine WL.val (V.move (OV.p rfl)) rfl ?_
  refine WL.call (vs := [_, _, _, _]) Try.call12 ⟨OV.p rfl, OV.p rfl, OV.p rfl, OV.p rfl, trivial⟩ (drive_WriteG hC2 g2 1 0 (Seq.allZ rfl : Seq K (CellsZ b37 5 (nats .u8 dat8) :: _) (some ⟨b37, 0, none⟩) 16 1 (nats .u8 dat8)) hd8 (Nat.le_refl _) (by decide)) rfl ?_
  rintro v4 _ ⟨C4, hC4, g4, rfl, s4, hv4⟩
  rw [s2', q2] at hv4
  have s4' : C4.sem = w8c := by rw [s4, s2']; rfl
  subst hv4
  refine WL.val (V.assign (OV.p rfl)) rfl ?_
  refine WL.nil ?_
  refine WC.seq ?_
  refine WC.region ?_
  refine WL.val (V.move (OV.p rfl)) rfl ?_
  refine WL.val (V.eql (OV.p rfl) (OV.p rfl)) rfl ?_
  refine WL.val (V.move (OV.p rfl)) rfl ?_
  refine WL.known (oj := _) rfl rfl rfl rfl ?_
  refine WL.val (V.move (OV.p rfl)) rfl ?_
  refine WL.known (oj := _) rfl rfl rfl rfl ?_
  refine WL.val (V.bytesStr (xs := intsOf dat8) Try.underlying24 Try.underlying5 Try.underlying9 (OV.p rfl) (fun _ => by rw [← nats_intsOf]; exact Seq.up (Seq.up (Seq.up (SlA.seq rfl))))) rfl ?_
  refine WL.known (oj := _) rfl rfl rfl rfl ?_
  refine WL.val (V.move (OV.p rfl)) rfl ?_
  refine WL.known (oj := _) rfl rfl rfl rfl ?_
  refine WL.val (V.bytesStr (xs := intsOf dat8) Try.underlying24 Try.underlying5 Try.underlying9 (OV.p rfl) (fun _ => by rw [← nats_intsOf]; exact Seq.up (Seq.up (Seq.allZ rfl)))) rfl ?_
  refine WL.known (oj := _) rfl rfl rfl rfl ?_
  refine WL.val (V.val_eq (v' := .bool true) (V.eqlS (OV.p rfl) (OV.p rfl)) (fun _ => by simp)) rfl ?_
  refine WL.val (V.pickAnd (OV.p rfl) (OV.p rfl)) rfl ?_
  refine WL.val (V.move (OV.p rfl)) rfl ?_
  refine WL.known (oj := _) rfl rfl rfl rfl ?_
  refine WL.val (V.move (OV.p rfl)) rfl ?_
  refine WL.known (oj := _) rfl rfl rfl rfl ?_
  refine WL.val (V.eql (OV.p rfl) (OV.p rfl)) rfl ?_
  refine WL.val (V.pickAnd (OV.p rfl) (OV.p rfl)) rfl ?_
  refine WL.val (V.move (OV.p rfl)) rfl ?_
  refine WL.known (oj := _) rfl rfl rfl rfl ?_
  refine WL.val (V.move (OV.p rfl)) rfl ?_
  refine WL.known (oj := _) rfl rfl rfl rfl ?_
  refine WL.val (V.eql (OV.p rfl) (OV.p rfl)) rfl ?_
  refine WL.val (V.pickAnd (OV.p rfl) (OV.p rfl)) rfl ?_
  refine WL.val (V.move (OV.p rfl)) rfl ?_
  refine WL.known (oj := _) rfl rfl rfl rfl ?_
  refine WL.val (V.move (OV.p rfl)) rfl ?_
  refine WL.known (oj := _) rfl rfl rfl rfl ?_
  refine WL.val (V.eql (OV.p rfl) (OV.p rfl)) rfl ?_
  refine WL.val (V.pickAnd (OV.p rfl) (OV.p rfl)) rfl ?_
  refine WL.val (V.move (OV.p rfl)) rfl ?_
  refine WL.known (oj := _) rfl rfl rfl rfl ?_
  refine WL.val (V.move (OV.p rfl)) rfl ?_
  refine WL.known (oj := _) rfl rfl rfl rfl ?_
  refine WL.call (vs := [_]) Try.call15 ⟨OV.p rfl, trivial⟩ (drive_GoodG hC4 g4) rfl ?_
  rintro _ _ ⟨A5, c5, rfl, rfl⟩
  rw [s4', q3]
  refine WL.known (oj := _) rfl rfl rfl rfl ?_
  refine WL.buildSlice (E := 3) (cs := [_]) (vs := [(0, _)]) ⟨OV.p rfl, trivial⟩ rfl (bsl39_1_0 _) rfl (fun b77 => ?_)
  refine WL.known (oj := _) rfl rfl rfl rfl ?_
  refine WL.call (vs := [_, _]) Try.call38 ⟨OV.p rfl, OV.p rfl, trivial⟩ (Tells.eq (v' := .bool true) (ref01_Ints (xs := [0]) (ys := [0]) K _ (Seq.up (SlA.seq rfl)) (Seq.all rfl) (by decide)) rfl) rfl ?_
  rintro _ H0 ⟨rfl, h0⟩
  subst H0
  refine WL.val (V.pickAnd (OV.p rfl) (OV.p rfl)) rfl ?_
  refine WL.val (V.move (OV.p rfl)) rfl ?_
  refine WL.known (oj := _) rfl rfl rfl rfl ?_
  refine WL.val (V.move (OV.p rfl)) rfl ?_
  refine WL.known (oj := _) rfl rfl rfl rfl ?_
  refine WL.sub (Sub.refl _) (fun w h => h.sel 6 [2, 3, 4] rfl) ?_
  refine WL.val (V.move (OV.p rfl)) rfl ?_
  refine WL.known (oj := _) rfl rfl rfl rfl ?_
  refine WL.call (vs := [_, _, _, _]) Try.call12 ⟨OV.p rfl, OV.p rfl, OV.p rfl, OV.p rfl, trivial⟩ (drive_WriteG hC4 g4 1 0 (Seq.allZ rfl : Seq K (CellsZ b37 5 (nats .u8 dat8) :: _) (some ⟨b37, 0, none⟩) 16 1 (nats .u8 dat8)) hd8 (Nat.le_refl _) (by decide)) rfl ?_
  rintro v6 _ ⟨C6, hC6, g6, rfl, s6, hv6⟩
  rw [s4', q4] at hv6
  subst hv6
  refine WL.known (oj := _) rfl rfl rfl rfl ?_
  refine WL.val (V.eql (OV.p rfl) (OV.p rfl)) rfl ?_
  refine WL.val (V.pickAnd (OV.p rfl) (OV.p rfl)) rfl ?_
  refine WL.val (V.assign (OV.p rfl)) rfl ?_
  refine WL.nil ?_
  refine WC.ret ?_
  exact BodyQ.ret (H' := F) (Res.tmp rfl rfl) (fun w h => h.sel 3 [] rfl) ⟨rfl, rfl⟩
end Go.Proofs.Ytohkefolnmcjnaa
