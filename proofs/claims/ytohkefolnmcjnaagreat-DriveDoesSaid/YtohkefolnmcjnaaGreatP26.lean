import Derived.Test.YtohkefolnmcjnaaGreatP25
/- casematelaw08: small, tiny, awake. -/
namespace Go.Proofs.YtohkefolnmcjnaaGreat
open Go.Sl Go.RowKit
set_option linter.unusedVariables false
set_option linter.unusedSimpArgs false
set_option maxRecDepth 20000

theorem law08_small (g : Geo) (K : World) (F : List Assn) : Tells Tryz.prog 11 #[g.v] K F (.bool (g.may && decide (g.room ≤ 32) && decide (g.bl ≤ 16) && decide (g.pg ≤ 8))) := by
  refine Does.enter Tryz.func11 rfl Tryz.ntmps11 rfl ?_
  simp only [env0, Nat.reduceAdd]
  refine WC.sr ?_
  refine WL.box (cs := [_, _, _, _, _]) (OV.p rfl) rfl rfl (fun b1 => ?_)
  refine WL.val (V.assign (OV.p rfl)) rfl ?_
  refine WL.nil ?_
  refine WC.sr ?_
  refine WL.val (V.loadA (vs := [_, _, _, _, _]) ⟨Tryz.isAgg23, Tryz.sizeOf23⟩ (OV.p rfl) rfl (fun _ => by repeat (first | exact Rds.gets ⟨rfl, rfl, rfl, rfl, rfl, trivial⟩ | apply Rds.up))) rfl ?_
  refine WL.call (vs := [_]) Tryz.call53 ⟨OV.p rfl, trivial⟩ (ref06_May g _ _) rfl ?_
  rintro _ H0 ⟨rfl, h0⟩
  subst H0
  refine WL.val (V.move (OV.p rfl)) rfl ?_
  refine WL.valG (oj := _) rfl rfl rfl GC.t (V.loadA (vs := [_, _, _, _, _]) ⟨Tryz.isAgg23, Tryz.sizeOf23⟩ (OV.p rfl) rfl (fun _ => by repeat (first | exact Rds.gets ⟨rfl, rfl, rfl, rfl, rfl, trivial⟩ | apply Rds.up))) rfl ?_
  refine WL.callG (oj := _) (vs := [_]) rfl rfl rfl GC.t Tryz.call22 ⟨OV.g rfl id, trivial⟩ (fun hg => ref06_Room g (Geo.mays_of (by simpa using hg)) _ _) rfl ?_
  refine WL.valG (oj := _) rfl rfl rfl GC.t (V.leq (OV.g rfl id) (OV.p rfl)) rfl ?_
  refine WL.val (V.pickAnd (OV.p rfl) (OV.g rfl id)) rfl ?_
  refine WL.val (V.move (OV.p rfl)) rfl ?_
  refine WL.valG (oj := _) rfl rfl rfl GC.t (V.fieldAddr fo23_0 (OV.p rfl)) rfl ?_
  refine WL.valG (oj := _) rfl rfl rfl GC.t (V.load Tryz.isAgg3 (OV.g rfl id) (fun _ => by repeat (first | exact Rd.here rfl | apply Rd.up))) rfl ?_
  refine WL.valG (oj := _) rfl rfl rfl GC.t (V.leq (OV.g rfl id) (OV.p rfl)) rfl ?_
  refine WL.val (V.pickAnd (OV.p rfl) (OV.g rfl id)) rfl ?_
  refine WL.val (V.move (OV.p rfl)) rfl ?_
  refine WL.valG (oj := _) rfl rfl rfl GC.t (V.fieldAddr fo23_1 (OV.p rfl)) rfl ?_
  refine WL.valG (oj := _) rfl rfl rfl GC.t (V.load Tryz.isAgg3 (OV.g rfl id) (fun _ => by repeat (first | exact Rd.here rfl | apply Rd.up))) rfl ?_
  refine WL.valG (oj := _) rfl rfl rfl GC.t (V.leq (OV.g rfl id) (OV.p rfl)) rfl ?_
  refine WL.val (V.pickAnd (OV.p rfl) (OV.g rfl id)) rfl ?_
  refine WL.val (V.assign (OV.p rfl)) rfl ?_
  refine WL.nil ?_
  refine WC.ret ?_
  exact BodyQ.ret (H' := F) (Res.tmp rfl rfl) (fun w h => by repeat (first | exact h | replace h := h.tail)) ⟨rfl, rfl⟩
theorem law08_tiny (K : World) (F : List Assn) : Tells Tryz.prog 72 #[] K F (Geo.mk 2 2 1 16 1).v := by
  refine Does.enter Tryz.func72 rfl Tryz.ntmps72 rfl ?_
  simp only [env0, Nat.reduceAdd]
  refine WC.sr ?_
  refine WL.alloc (cs := [(.int .i64 0), (.int .i64 0), (.int .i64 0), (.int .i64 0), (.int .i64 0)]) Tryz.zeroValue23 rfl rfl (fun b0 => ?_)
  refine WL.nil ?_
  refine WC.sr ?_
  refine WL.val (V.build (vs := [(0, _), (1, _), (2, _), (3, _), (4, _)]) ⟨OV.p rfl, OV.p rfl, OV.p rfl, OV.p rfl, OV.p rfl, trivial⟩ rfl (bld23_0_1_2_3_4 _ _ _ _ _)) rfl ?_
  refine WL.store (cs := [_, _, _, _, _]) Tryz.sizeOf23 (OV.p rfl) (OV.p rfl) rfl rfl rfl (by repeat (first | exact Upd.here (cs' := [_, _, _, _, _]) rfl rfl | apply Upd.up)) ?_
  refine WL.nil ?_
  refine WC.ret ?_
  exact BodyQ.ret (H' := F) (Res.one rfl (R1.cellA (vs := [_, _, _, _, _]) rfl ⟨Tryz.isAgg23, Tryz.sizeOf23⟩ rfl (by repeat (first | exact Rds.gets ⟨rfl, rfl, rfl, rfl, rfl, trivial⟩ | apply Rds.up)))) (fun w h => by repeat (first | exact h | replace h := h.tail)) ⟨rfl, rfl⟩
def tiny8 : Geo := ⟨2, 2, 1, 16, 1⟩
def dat8 : List Nat := [115, 105, 120, 116, 101, 101, 110, 32, 98, 121, 116, 101, 115, 44, 32, 48]
def w8a : Chip := (Chip.new tiny8 []).weaken 1
def w8b : Chip := (w8a.dWrite 0 0 dat8).1
def w8c : Chip := (w8b.dWrite 1 0 dat8).1
theorem law08_awake (K : World) (F : List Assn) : Tells Tryz.prog 21 #[] K F (.bool true) := by
  have q0 : (w8a.dWrite 0 0 dat8).2 = 0 := by kernel_rfl
  have q1 : w8b.dRead 0 0 = ⟨0, dat8, 0⟩ := by kernel_rfl
  have q2 : (w8b.dWrite 1 0 dat8).2 = 72 := by kernel_rfl
  have q3 : w8c.good = [0] := by kernel_rfl
  have q4 : (w8c.dWrite 1 0 dat8).2 = 73 := by kernel_rfl
  have qm : tiny8.may = true := by kernel_rfl
  have hd8 : Small 256 dat8 := by unfold Small; decide
  refine Does.enter Tryz.func21 rfl Tryz.ntmps21 rfl ?_
  simp only [env0, Nat.reduceAdd]
  refine WC.sr ?_
  refine WL.val (V.assign (OV.p rfl)) rfl ?_
  refine WL.nil ?_
  refine WC.sr ?_
  refine WL.call (vs := []) Tryz.call72 trivial (law08_tiny _ _) rfl ?_
  rintro _ H0 ⟨rfl, h0⟩
  subst H0
  refine WL.call (vs := [_, _]) Tryz.call13 ⟨OV.p rfl, OV.p rfl, trivial⟩ (chip_New tiny8 (l := []) Seq.nil (by decide)) rfl ?_
  rintro _ _ (⟨hm, hin, bc, C0, hC0, s0, rfl, rfl⟩ | ⟨hno, rfl, rfl⟩)
  rotate_left
  · exact (hno ⟨qm, fun x hx => by simp at hx⟩).elim
  have g0 : C0.g = tiny8 := by rw [show C0.g = C0.sem.g from rfl, s0]; rfl
  refine WL.val (V.move (OV.p rfl)) rfl ?_
  refine WL.val (V.extract (OV.p rfl) rfl) rfl ?_
  refine WL.val (V.extract (OV.p rfl) rfl) rfl ?_
  refine WL.val (V.assign (OV.p rfl)) rfl ?_
  refine WL.val (V.assign (OV.p rfl)) rfl ?_
  refine WL.nil ?_
  refine WC.sr ?_
  refine WL.val (V.move (OV.p rfl)) rfl ?_
  refine WL.call (vs := [_]) Tryz.call14 ⟨OV.p rfl, trivial⟩ (drive_NewG hC0 g0) rfl ?_
  rintro _ _ ⟨bd, rfl, rfl⟩
  refine WL.val (V.move (OV.p rfl)) rfl ?_
  refine WL.val (V.extract (OV.p rfl) rfl) rfl ?_
  refine WL.val (V.extract (OV.p rfl) rfl) rfl ?_
  refine WL.val (V.assign (OV.p rfl)) rfl ?_
  refine WL.val (V.assign (OV.p rfl)) rfl ?_
  refine WL.nil ?_
  refine WC.sr ?_
  refine WL.call (vs := [_]) Tryz.call14 ⟨OV.p rfl, trivial⟩ (nil_New) rfl ?_
  rintro _ H0 ⟨rfl, h0⟩
  subst H0
  refine WL.val (V.move (OV.p rfl)) rfl ?_
  refine WL.val (V.extract (OV.p rfl) rfl) rfl ?_
  refine WL.val (V.extract (OV.p rfl) rfl) rfl ?_
  refine WL.val (V.assign (OV.p rfl)) rfl ?_
  refine WL.val (V.assign (OV.p rfl)) rfl ?_
  refine WL.nil ?_
  refine WC.seq ?_
  refine WC.sr ?_
  refine WL.val (V.move (OV.p rfl)) rfl ?_
  refine WL.val (V.eqlP Tryz.underlying31 (OV.p rfl) (OV.p rfl)) rfl ?_
  refine WL.val (V.move (OV.p rfl)) rfl ?_
  refine WL.valG (oj := _) rfl rfl rfl GC.f (V.move (OV.p rfl)) rfl ?_
  refine WL.valG (oj := _) rfl rfl rfl GC.f (V.neq (OV.g rfl id) (OV.p rfl)) rfl ?_
  refine WL.val (V.pickOr (OV.p rfl) (OV.g rfl id)) rfl ?_
  refine WL.val (V.move (OV.p rfl)) rfl ?_
  refine WL.valG (oj := _) rfl rfl rfl GC.f (V.move (OV.p rfl)) rfl ?_
  refine WL.valG (oj := _) rfl rfl rfl GC.f (V.neq (OV.g rfl id) (OV.p rfl)) rfl ?_
  refine WL.val (V.pickOr (OV.p rfl) (OV.g rfl id)) rfl ?_
  refine WL.nil ?_
  refine WC.condF' rfl (by first | rfl | (simp; done) | (simp; omega)) ?_
  refine WC.skip ?_
  refine WC.sr ?_
  refine WL.buildSlice (E := 5) (cs := [_, _, _, _, _, _, _, _, _, _, _, _, _, _, _, _]) (vs := [(0, _), (1, _), (2, _), (3, _), (4, _), (5, _), (6, _), (7, _), (8, _), (9, _), (10, _), (11, _), (12, _), (13, _), (14, _), (15, _)]) ⟨OV.p rfl, OV.p rfl, OV.p rfl, OV.p rfl, OV.p rfl, OV.p rfl, OV.p rfl, OV.p rfl, OV.p rfl, OV.p rfl, OV.p rfl, OV.p rfl, OV.p rfl, OV.p rfl, OV.p rfl, OV.p rfl, trivial⟩ rfl (bsl38_16_0_1_2_3_4_5_6_7_8_9_10_11_12_13_14_15 _ _ _ _ _ _ _ _ _ _ _ _ _ _ _ _) rfl (fun b37 => ?_)
  refine WL.convMark Tryz.underlying38 Tryz.underlying5 (OV.p rfl) rfl ?_
  refine WL.sub (Sub.refl _) (fun w h => h.sel 3 [1, 2, 0] rfl) ?_
  have hsq : ∀ {X Y : Assn}, Seq K (X :: Y :: CellsZ b37 5 (nats .u8 dat8) :: F) (some ⟨b37, 0, none⟩) 16 1 (nats .u8 dat8) := fun {X Y} => Seq.up (Seq.up (Seq.allZ rfl))
  refine WL.val (V.assign (OV.p rfl)) rfl ?_
  refine WL.nil ?_
  refine WC.sr ?_
  refine WL.val (V.move (OV.p rfl)) rfl ?_
  refine WL.call (vs := [_, _]) Tryz.call43 ⟨OV.p rfl, OV.p rfl, trivial⟩ (chip_WeakG hC0 g0 1) rfl ?_
  rintro _ _ ⟨C1, hC1, g1, rfl, s1⟩
  have s1' : C1.sem = w8a := by rw [s1, s0]; rfl
  refine WL.nil ?_
  refine WC.sr ?_
  refine WL.val (V.move (OV.p rfl)) rfl ?_
  refine WL.val (V.move (OV.p rfl)) rfl ?_
  refine WL.call (vs := [_, _, _, _]) Tryz.call23 ⟨OV.p rfl, OV.p rfl, OV.p rfl, OV.p rfl, trivial⟩ (drive_WriteG hC1 g1 0 0 (Seq.allZ rfl : Seq K (CellsZ b37 5 (nats .u8 dat8) :: F) (some ⟨b37, 0, none⟩) 16 1 (nats .u8 dat8)) hd8 (Nat.le_refl _) (by decide)) rfl ?_
  rintro v1 _ ⟨C2, hC2, g2, rfl, s2, hv1⟩
  rw [s1', q0] at hv1
  have s2' : C2.sem = w8b := by rw [s2, s1']; rfl
  subst hv1
  refine WL.val (V.assign (OV.p rfl)) rfl ?_
  refine WL.nil ?_
  refine WC.sr ?_
  refine WL.val (V.move (OV.p rfl)) rfl ?_
  refine WL.call (vs := [_, _, _]) Tryz.call26 ⟨OV.p rfl, OV.p rfl, OV.p rfl, trivial⟩ (drive_ReadG hC2 g2 0 0) rfl ?_
  rintro _ _ ⟨A3, c3, rfl, rfl⟩
  rw [s2', q1]
  refine WL.sub (Sub.refl _) (fun w h => h.sel 4 [1, 2, 3, 0] rfl) ?_
  refine WL.val (V.move (OV.p rfl)) rfl ?_
  refine WL.val (V.extract (OV.p rfl) rfl) rfl ?_
  refine WL.val (V.extract (OV.p rfl) rfl) rfl ?_
  refine WL.val (V.extract (OV.p rfl) rfl) rfl ?_
  refine WL.val (V.assign (OV.p rfl)) rfl ?_
  refine WL.val (V.assign (OV.p rfl)) rfl ?_
  refine WL.val (V.assign (OV.p rfl)) rfl ?_
  refine WL.nil ?_
  refine WC.sr ?_
  refine WL.val (V.move (OV.p rfl)) rfl ?_
  refine WL.val (V.move (OV.p rfl)) rfl ?_
  refine WL.call (vs := [_, _, _, _]) Tryz.call23 ⟨OV.p rfl, OV.p rfl, OV.p rfl, OV.p rfl, trivial⟩ (drive_WriteG hC2 g2 1 0 (Seq.allZ rfl : Seq K (CellsZ b37 5 (nats .u8 dat8) :: _) (some ⟨b37, 0, none⟩) 16 1 (nats .u8 dat8)) hd8 (Nat.le_refl _) (by decide)) rfl ?_
  rintro v4 _ ⟨C4, hC4, g4, rfl, s4, hv4⟩
  rw [s2', q2] at hv4
  have s4' : C4.sem = w8c := by rw [s4, s2']; rfl
  subst hv4
  refine WL.val (V.assign (OV.p rfl)) rfl ?_
  refine WL.nil ?_
  refine WC.sr ?_
  refine WL.val (V.move (OV.p rfl)) rfl ?_
  refine WL.val (V.eql (OV.p rfl) (OV.p rfl)) rfl ?_
  refine WL.val (V.move (OV.p rfl)) rfl ?_
  refine WL.known (oj := _) rfl rfl rfl rfl ?_
  refine WL.val (V.move (OV.p rfl)) rfl ?_
  refine WL.known (oj := _) rfl rfl rfl rfl ?_
  refine WL.val (V.bytesStr (xs := intsOf dat8) Tryz.underlying38 Tryz.underlying5 Tryz.underlying9 (OV.p rfl) (fun _ => by rw [← nats_intsOf]; exact Seq.up (Seq.up (Seq.up (SlA.seq rfl))))) rfl ?_
  refine WL.known (oj := _) rfl rfl rfl rfl ?_
  refine WL.val (V.move (OV.p rfl)) rfl ?_
  refine WL.known (oj := _) rfl rfl rfl rfl ?_
  refine WL.val (V.bytesStr (xs := intsOf dat8) Tryz.underlying38 Tryz.underlying5 Tryz.underlying9 (OV.p rfl) (fun _ => by rw [← nats_intsOf]; exact Seq.up (Seq.up (Seq.allZ rfl)))) rfl ?_
  refine WL.known (oj := _) rfl rfl rfl rfl ?_
  refine WL.val (V.val_eq (v' := .bool true) (V.eqlS (OV.p rfl) (OV.p rfl)) (fun _ => by simp)) rfl ?_
  refine WL.val (V.pickAnd (OV.p rfl) (OV.p rfl)) rfl ?_
  refine WL.val (V.move (OV.p rfl)) rfl ?_
  refine WL.known (oj := _) rfl rfl rfl rfl ?_
  refine WL.val (V.move (OV.p rfl)) rfl ?_
  refine WL.known (oj := _) rfl rfl rfl rfl ?_
  refine WL.val (V.eql (OV.p rfl) (OV.p rfl)) rfl ?_
  refine WL.val (V.pickAnd (OV.p rfl) (OV.p rfl)) rfl ?_
  refine WL.val (V.move (OV.p rfl)) rfl ?_
  refine WL.known (oj := _) rfl rfl rfl rfl ?_
  refine WL.val (V.move (OV.p rfl)) rfl ?_
  refine WL.known (oj := _) rfl rfl rfl rfl ?_
  refine WL.val (V.eql (OV.p rfl) (OV.p rfl)) rfl ?_
  refine WL.val (V.pickAnd (OV.p rfl) (OV.p rfl)) rfl ?_
  refine WL.val (V.move (OV.p rfl)) rfl ?_
  refine WL.known (oj := _) rfl rfl rfl rfl ?_
  refine WL.val (V.move (OV.p rfl)) rfl ?_
  refine WL.known (oj := _) rfl rfl rfl rfl ?_
  refine WL.val (V.eql (OV.p rfl) (OV.p rfl)) rfl ?_
  refine WL.val (V.pickAnd (OV.p rfl) (OV.p rfl)) rfl ?_
  refine WL.val (V.move (OV.p rfl)) rfl ?_
  refine WL.known (oj := _) rfl rfl rfl rfl ?_
  refine WL.val (V.move (OV.p rfl)) rfl ?_
  refine WL.known (oj := _) rfl rfl rfl rfl ?_
  refine WL.call (vs := [_]) Tryz.call18 ⟨OV.p rfl, trivial⟩ (drive_GoodG hC4 g4) rfl ?_
  rintro _ _ ⟨A5, c5, rfl, rfl⟩
  rw [s4', q3]
  refine WL.known (oj := _) rfl rfl rfl rfl ?_
  refine WL.buildSlice (E := 3) (cs := [_]) (vs := [(0, _)]) ⟨OV.p rfl, trivial⟩ rfl (bsl42_1_0 _) rfl (fun b77 => ?_)
  refine WL.known (oj := _) rfl rfl rfl rfl ?_
  refine WL.call (vs := [_, _]) Tryz.call17 ⟨OV.p rfl, OV.p rfl, trivial⟩ (Tells.eq (v' := .bool true) (ref01_Ints (xs := [0]) (ys := [0]) K _ (Seq.up (SlA.seq rfl)) (Seq.all rfl) (by decide)) rfl) rfl ?_
  rintro _ H0 ⟨rfl, h0⟩
  subst H0
  refine WL.val (V.pickAnd (OV.p rfl) (OV.p rfl)) rfl ?_
  refine WL.val (V.move (OV.p rfl)) rfl ?_
  refine WL.known (oj := _) rfl rfl rfl rfl ?_
  refine WL.val (V.move (OV.p rfl)) rfl ?_
  refine WL.known (oj := _) rfl rfl rfl rfl ?_
  refine WL.sub (Sub.refl _) (fun w h => h.sel 6 [2, 3, 4] rfl) ?_
  refine WL.val (V.move (OV.p rfl)) rfl ?_
  refine WL.known (oj := _) rfl rfl rfl rfl ?_
  refine WL.call (vs := [_, _, _, _]) Tryz.call23 ⟨OV.p rfl, OV.p rfl, OV.p rfl, OV.p rfl, trivial⟩ (drive_WriteG hC4 g4 1 0 (Seq.allZ rfl : Seq K (CellsZ b37 5 (nats .u8 dat8) :: _) (some ⟨b37, 0, none⟩) 16 1 (nats .u8 dat8)) hd8 (Nat.le_refl _) (by decide)) rfl ?_
  rintro v6 _ ⟨C6, hC6, g6, rfl, s6, hv6⟩
  rw [s4', q4] at hv6
  subst hv6
  refine WL.known (oj := _) rfl rfl rfl rfl ?_
  refine WL.val (V.eql (OV.p rfl) (OV.p rfl)) rfl ?_
  refine WL.val (V.pickAnd (OV.p rfl) (OV.p rfl)) rfl ?_
  refine WL.val (V.assign (OV.p rfl)) rfl ?_
  refine WL.nil ?_
  refine WC.ret ?_
  exact BodyQ.ret (H' := F) (Res.tmp rfl rfl) (fun w h => h.sel 3 [] rfl) ⟨rfl, rfl⟩
end Go.Proofs.YtohkefolnmcjnaaGreat
/- What a drive's deeds come to: plain. -/
namespace Go.Proofs.YtohkefolnmcjnaaGreat
open Go.Sl Go.RowKit
set_option linter.unusedVariables false
set_option linter.unusedSimpArgs false
set_option maxRecDepth 20000

namespace Chip
theorem deed_same {S : Chip} (h : S.left = 0) : S.deed = S := by
  unfold deed cut
  rw [h]
  obtain ⟨a, b, c, d, e, f, g, up, l, k⟩ := S
  dsimp only at h
  subst h
  simp
theorem page_ok {S : Chip} {b p : Int} (h : 0 ≤ b ∧ b < S.g.bl ∧ 0 ≤ p ∧ p < S.g.pg) : S.page b p = true := by
  unfold page block
  simp; omega
theorem block_ok {S : Chip} {b : Int} (h : 0 ≤ b ∧ b < S.g.bl) : S.block b = true := by
  unfold block
  simp; omega
theorem ahead_ok {S : Chip} {b p : Int} (hu : S.up = true) (h : 0 ≤ b ∧ b < S.g.bl ∧ 0 ≤ p ∧ p < S.g.pg) (hm : S.marked b = false) : S.ahead b p true = 0 := by
  unfold ahead bad
  rw [if_neg (by rw [hu]; decide), if_neg (fun hh => by rcases hh with h | h | h | h | h <;> first | omega | cases h), hm, Bool.and_false, if_neg (by decide)]
theorem ahead_bad {S : Chip} {b p : Int} (hu : S.up = true) (h : 0 ≤ b ∧ b < S.g.bl ∧ 0 ≤ p ∧ p < S.g.pg) (hm : S.marked b = true) : S.ahead b p true = 73 := by
  unfold ahead bad
  rw [if_neg (by rw [hu]; decide), if_neg (fun hh => by rcases hh with h | h | h | h | h <;> first | omega | cases h), hm, hu, if_pos (by decide)]
section
variable {S : Chip} {b p : Int} {d : List Nat}
theorem pack_len (hg : S.g.mays) (h8 : Small 256 d) (hl : d.length = S.room) : ((intsOf (packG S.g d)).length : Int) = S.raw := by
  have hN := NGood.of (bl := S.g.bl) (pg := S.g.pg) (by rw [← geo_nat hg]; exact hg)
  unfold packG intsOf
  rw [List.length_map, packF_length hN.t h8 hl]
  exact (Geo.raw_nat hg).symm
theorem dWrite_prog (hu : S.up = true) (h : 0 ≤ b ∧ b < S.g.bl ∧ 0 ≤ p ∧ p < S.g.pg) (hm : S.marked b = false) (hl : d.length = S.room) : S.dWrite b p d = done b (S.program b p (intsOf (packG S.g d))) := by
  have e : decide (d.length = S.room) = true := decide_eq_true hl
  unfold dWrite
  rw [e, if_neg (by rw [ahead_ok hu h hm]; decide)]
theorem program_ok {xs : List Int} (hu : S.up = true) (h : 0 ≤ b ∧ b < S.g.bl ∧ 0 ≤ p ∧ p < S.g.pg) (hx : (xs.length : Int) = S.raw) (hn : S.nextOf b = p) (h0 : S.left = 0) :
    S.program b p xs = if S.weak b then (S, 72) else ({ S with pages := upds S.pages (b, p) (some xs), next := S.setNext b (p + 1) }, 0) := by
  have hc : S.cut = false := by unfold cut; rw [h0]; rfl
  unfold program
  rw [if_neg (by rw [hu]; decide), if_neg (by rw [page_ok h]; rintro (h | h); cases h; exact h hx), if_neg (fun h => h hn.symm), hc, if_neg Bool.false_ne_true, deed_same h0]
theorem dWrite_ok (hg : S.g.mays) (hu : S.up = true) (h : 0 ≤ b ∧ b < S.g.bl ∧ 0 ≤ p ∧ p < S.g.pg) (hm : S.marked b = false) (h8 : Small 256 d) (hl : d.length = S.room) (hn : S.nextOf b = p) (h0 : S.left = 0) (hw : S.weak b = false) :
    S.dWrite b p d = ({ S with pages := upds S.pages (b, p) (some (intsOf (packG S.g d))), next := S.setNext b (p + 1) }, 0) := by
  rw [dWrite_prog hu h hm hl, program_ok hu h (pack_len hg h8 hl) hn h0, hw]
  rfl
theorem mark_ok (hu : S.up = true) (h : 0 ≤ b ∧ b < S.g.bl) (h0 : S.left = 0) : S.mark b = ({ S with marked := fun k => if k = b then true else S.marked k }, 0) := by
  have hc : S.cut = false := by unfold cut; rw [h0]; rfl
  unfold mark all
  rw [if_neg (by rw [hu]; decide), if_neg (by rw [block_ok h]; decide), hc, deed_same h0]
  rfl
theorem dWrite_weak (hg : S.g.mays) (hu : S.up = true) (h : 0 ≤ b ∧ b < S.g.bl ∧ 0 ≤ p ∧ p < S.g.pg) (hm : S.marked b = false) (h8 : Small 256 d) (hl : d.length = S.room) (hn : S.nextOf b = p) (h0 : S.left = 0) (hw : S.weak b = true) :
    S.dWrite b p d = ({ S with marked := fun k => if k = b then true else S.marked k }, 72) := by
  rw [dWrite_prog hu h hm hl, program_ok hu h (pack_len hg h8 hl) hn h0, hw, if_pos rfl]
  unfold done
  rw [if_neg (fun h => h rfl), mark_ok hu ⟨h.1, h.2.1⟩ h0, if_neg (fun h => h rfl)]
theorem dErase_ok (hu : S.up = true) (h : 0 ≤ b ∧ b < S.g.bl) (hpg : 0 < S.g.pg) (hm : S.marked b = false) (h0 : S.left = 0) (hw : S.weak b = false) :
    S.dErase b = ({ S with pages := dropTo S.pages b S.g.pg, wrong := dropTo S.wrong b S.g.pg, next := S.setNext b 0 }, 0) := by
  have hc : S.cut = false := by unfold cut; rw [h0]; rfl
  have e : S.erase b = ({ S with pages := dropTo S.pages b S.g.pg, wrong := dropTo S.wrong b S.g.pg, next := S.setNext b 0 }, 0) := by
    unfold erase
    rw [if_neg (by rw [hu]; decide), if_neg (by rw [block_ok h]; decide), hc, if_neg Bool.false_ne_true, deed_same h0, hw, if_neg Bool.false_ne_true]
  unfold dErase
  rw [if_neg (by rw [ahead_ok hu ⟨h.1, h.2, Int.le_refl _, hpg⟩ hm]; decide), e]
  rfl
theorem rawN_page {xs : List Nat} (hp : S.pages (b, p) = some (intsOf xs)) (hw : S.wrong (b, p) = none) : S.rawN b p = xs := by
  unfold rawN reads
  rw [hp, hw]
  exact natsOf_intsOf xs
theorem rawN_blank (hp : S.pages (b, p) = none) (hw : S.wrong (b, p) = none) : S.rawN b p = List.replicate S.g.raw.toNat 255 := by
  unfold rawN reads
  rw [hp, hw]
  show natsOf (List.replicate _ 255) = _
  unfold natsOf
  rw [List.map_replicate]
  rfl
theorem dRead_page (hg : S.g.mays) (hu : S.up = true) (h : 0 ≤ b ∧ b < S.g.bl ∧ 0 ≤ p ∧ p < S.g.pg) (hm : S.marked b = false) (h8 : Small 256 d) (hl : d.length = S.room) (hp : S.pages (b, p) = some (intsOf (packG S.g d))) (hw : S.wrong (b, p) = none) :
    S.dRead b p = ⟨0, d, 0⟩ := by
  have hN := NGood.of (bl := S.g.bl) (pg := S.g.pg) (by rw [← geo_nat hg]; exact hg)
  unfold dRead
  rw [if_neg (by rw [ahead_ok hu h hm]; decide), rawN_page hp hw]
  unfold packG
  rw [read_pack hN.t h8 hl]
  rfl
theorem dRead_err (hu : S.up = true) (h : 0 ≤ b ∧ b < S.g.bl ∧ 0 ≤ p ∧ p < S.g.pg) (hm : S.marked b = false) (hs : S.stateG b p ≠ 0) : S.dRead b p = ⟨(S.stateG b p : Nat), [], 0⟩ := by
  unfold stateG at hs ⊢
  unfold dRead readF
  rw [if_neg (by rw [ahead_ok hu h hm]; decide), if_pos hs]
theorem sect_repl {n t S j x : Nat} (h : j < S) : sect n (List.replicate (S * n + 1) x) j = List.replicate n x := by
  have h1 : (j + 1) * n ≤ S * n := Nat.mul_le_mul_right _ h
  rw [Nat.succ_mul] at h1
  unfold sect
  rw [List.drop_replicate, List.take_replicate]
  congr 1; omega
theorem ones_255 : ∀ n, ones (List.replicate n 255) = 8 * n
  | 0 => rfl
  | n + 1 => by rw [List.replicate_succ, ones, ones_255 n, show pop8 255 = 8 from rfl]; omega
theorem state_blank {t S n : Nat} : stateF t S n (List.replicate (S * n + 1) 255) = 61 := by
  have h0 : (List.replicate (S * n + 1) 255).getD (S * n) 0 = (255 : Nat) := by simp [List.getD, List.getElem?_replicate]
  have h1 : ∀ k, k ≤ S → tornTo n t (List.replicate (S * n + 1) 255) k = false := fun k hk => by
    induction k with
    | zero => rfl
    | succ k ih =>
      rw [tornTo, ih (by omega)]
      unfold tornS
      rw [sect_repl (t := t) (by omega), ones_255]
      simp
  unfold stateF
  rw [h0, if_neg (by decide), if_neg (fun h => h rfl), h1 S (Nat.le_refl _), if_neg Bool.false_ne_true]
theorem state_255 {t S n : Nat} {raw : List Nat} (h : raw.getD (S * n) 0 = 255) : stateF t S n raw = 60 ∨ stateF t S n raw = 61 := by
  unfold stateF
  rw [h, if_neg (by decide), if_neg (fun h => h rfl)]
  split
  · exact .inl rfl
  · exact .inr rfl
theorem stateG_blank (hg : S.g.mays) (hp : S.pages (b, p) = none) (hw : S.wrong (b, p) = none) : S.stateG b p = 61 := by
  unfold stateG
  rw [rawN_blank hp hw, Geo.raw_nat hg, Int.toNat_natCast]
  exact state_blank
theorem goodTo_one {x : Int} (hu : S.up = true) (hm : ∀ k, S.marked k = decide (k = x)) (hx : 0 ≤ x) : ∀ n : Nat, ((S.goodTo n).length : Int) = (if x < (n : Int) then (n : Int) - 1 else (n : Int)) ∧ x ∉ S.goodTo n
  | 0 => ⟨by rw [if_neg (by omega)]; rfl, fun h => by simp [goodTo] at h⟩
  | n + 1 => by
    obtain ⟨h1, h2⟩ := goodTo_one hu hm hx n
    rw [goodTo]
    unfold bad
    rw [hu, hm, Bool.true_and, Bool.true_and]
    by_cases h : (n : Int) = x
    · rw [decide_eq_true h, if_neg (by decide)]
      refine ⟨?_, h2⟩
      rw [h1, if_neg (by omega), if_pos (by omega)]; omega
    · rw [decide_eq_false h, if_pos (by decide), List.length_append]
      refine ⟨?_, fun h' => ?_⟩
      · rw [Int.natCast_add, h1]
        simp only [List.length_singleton]
        split
        · rw [if_pos (by omega)]; omega
        · rw [if_neg (by omega)]; omega
      · rcases List.mem_append.1 h' with h' | h'
        · exact h2 h'
        · exact h (List.mem_singleton.1 h').symm
end
theorem next_new {g : Geo} {l : List Int} {b : Int} : (new g l).nextOf b = 0 := by
  show (List.replicate g.bl.toNat (0 : Int)).getD b.toNat 0 = 0
  rw [List.getD, List.getElem?_replicate]
  split <;> rfl
theorem nextOf_set' {S : Chip} {b v x : Int} (hb : 0 ≤ b) (hx : 0 ≤ x) (hl : x < S.next.length) : (S.next.set b.toNat v).getD x.toNat 0 = if x = b then v else S.nextOf x := by
  unfold nextOf
  simp only [List.getD, List.getElem?_set]
  by_cases h : x = b
  · subst h
    rw [if_pos rfl, if_pos (by omega), if_pos rfl]; rfl
  · rw [if_neg (by omega), if_neg h]
end Chip
end Go.Proofs.YtohkefolnmcjnaaGreat
