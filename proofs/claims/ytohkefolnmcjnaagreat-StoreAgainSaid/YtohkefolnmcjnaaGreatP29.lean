import Derived.Test.YtohkefolnmcjnaaGreatP28
import Derived.Test.YtohkefolnmcjnaaGreatP19
import Derived.Test.YtohkefolnmcjnaaGreatP3
import Derived.Test.YtohkefolnmcjnaaGreatP4
import Derived.Lib.ConvBytes
import Derived.Deep.Strs
/- casematelaw11: small, tiny, awake. -/
namespace Go.Proofs.YtohkefolnmcjnaaGreat
open Go.Sl Go.RowKit
set_option linter.unusedVariables false
set_option linter.unusedSimpArgs false
set_option maxRecDepth 20000

theorem law11_small (g : Geo) (K : World) (F : List Assn) : Tells Tryz.prog 36 #[g.v] K F (.bool (g.may && decide (g.room ≤ 32) && decide (g.bl ≤ 12) && decide (g.pg ≤ 5))) := by
  refine Does.enter Tryz.func36 rfl Tryz.ntmps36 rfl ?_
  simp only [env0, Nat.reduceAdd]
  refine WC.sr ?_
  refine WL.box (cs := [_, _, _, _, _]) (OV.p rfl) rfl rfl (fun b1 => ?_)
  refine WL.val (V.assign (OV.p rfl)) rfl ?_
  refine WL.nil ?_
  refine WC.sr ?_
  refine WL.val (V.loadA (vs := [_, _, _, _, _]) ⟨Tryz.isAgg23, Tryz.sizeOf23⟩ (OV.p rfl) rfl (fun _ => by repeat (first | exact Rds.gets ⟨rfl, rfl, rfl, rfl, rfl, trivial⟩ | apply Rds.up))) rfl ?_
  refine WL.call (vs := [_]) Tryz.call53 ⟨OV.p rfl, trivial⟩ (ref06_May g _ _) rfl ?_
  rintro _ H0 ⟨rfl, h0⟩
  subst H0
  refine WL.val (V.move (OV.p rfl)) rfl ?_
  refine WL.valG (oj := _) rfl rfl rfl GC.t (V.loadA (vs := [_, _, _, _, _]) ⟨Tryz.isAgg23, Tryz.sizeOf23⟩ (OV.p rfl) rfl (fun _ => by repeat (first | exact Rds.gets ⟨rfl, rfl, rfl, rfl, rfl, trivial⟩ | apply Rds.up))) rfl ?_
  refine WL.callG (oj := _) (vs := [_]) rfl rfl rfl GC.t Tryz.call22 ⟨OV.g rfl id, trivial⟩ (fun hg => ref06_Room g (Geo.mays_of (by simpa using hg)) _ _) rfl ?_
  refine WL.valG (oj := _) rfl rfl rfl GC.t (V.leq (OV.g rfl id) (OV.p rfl)) rfl ?_
  refine WL.val (V.pickAnd (OV.p rfl) (OV.g rfl id)) rfl ?_
  refine WL.val (V.move (OV.p rfl)) rfl ?_
  refine WL.valG (oj := _) rfl rfl rfl GC.t (V.fieldAddr fo23_0 (OV.p rfl)) rfl ?_
  refine WL.valG (oj := _) rfl rfl rfl GC.t (V.load Tryz.isAgg3 (OV.g rfl id) (fun _ => by repeat (first | exact Rd.here rfl | apply Rd.up))) rfl ?_
  refine WL.valG (oj := _) rfl rfl rfl GC.t (V.leq (OV.g rfl id) (OV.p rfl)) rfl ?_
  refine WL.val (V.pickAnd (OV.p rfl) (OV.g rfl id)) rfl ?_
  refine WL.val (V.move (OV.p rfl)) rfl ?_
  refine WL.valG (oj := _) rfl rfl rfl GC.t (V.fieldAddr fo23_1 (OV.p rfl)) rfl ?_
  refine WL.valG (oj := _) rfl rfl rfl GC.t (V.load Tryz.isAgg3 (OV.g rfl id) (fun _ => by repeat (first | exact Rd.here rfl | apply Rd.up))) rfl ?_
  refine WL.valG (oj := _) rfl rfl rfl GC.t (V.leq (OV.g rfl id) (OV.p rfl)) rfl ?_
  refine WL.val (V.pickAnd (OV.p rfl) (OV.g rfl id)) rfl ?_
  refine WL.val (V.assign (OV.p rfl)) rfl ?_
  refine WL.nil ?_
  refine WC.ret ?_
  exact BodyQ.ret (H' := F) (Res.tmp rfl rfl) (fun w h => by repeat (first | exact h | replace h := h.tail)) ⟨rfl, rfl⟩
theorem law11_tiny (K : World) (F : List Assn) : Tells Tryz.prog 95 #[] K F (Geo.mk 4 3 1 16 1).v := by
  refine Does.enter Tryz.func95 rfl Tryz.ntmps95 rfl ?_
  simp only [env0, Nat.reduceAdd]
  refine WC.sr ?_
  refine WL.alloc (cs := [(.int .i64 0), (.int .i64 0), (.int .i64 0), (.int .i64 0), (.int .i64 0)]) Tryz.zeroValue23 rfl rfl (fun b0 => ?_)
  refine WL.nil ?_
  refine WC.sr ?_
  refine WL.val (V.build (vs := [(0, _), (1, _), (2, _), (3, _), (4, _)]) ⟨OV.p rfl, OV.p rfl, OV.p rfl, OV.p rfl, OV.p rfl, trivial⟩ rfl (bld23_0_1_2_3_4 _ _ _ _ _)) rfl ?_
  refine WL.store (cs := [_, _, _, _, _]) Tryz.sizeOf23 (OV.p rfl) (OV.p rfl) rfl rfl rfl (by repeat (first | exact Upd.here (cs' := [_, _, _, _, _]) rfl rfl | apply Upd.up)) ?_
  refine WL.nil ?_
  refine WC.ret ?_
  exact BodyQ.ret (H' := F) (Res.one rfl (R1.cellA (vs := [_, _, _, _, _]) rfl ⟨Tryz.isAgg23, Tryz.sizeOf23⟩ rfl (by repeat (first | exact Rds.gets ⟨rfl, rfl, rfl, rfl, rfl, trivial⟩ | apply Rds.up)))) (fun w h => by repeat (first | exact h | replace h := h.tail)) ⟨rfl, rfl⟩
def tiny11 : Geo := ⟨4, 3, 1, 16, 1⟩
def abc11 : List Nat := [97, 98, 99]
def w11a : Chip := Chip.new tiny11 []
def t11a : St := openF w11a 2
def c11 : Chip × St × Int := sChange w11a t11a 0 abc11
def u11 : Chip × St × Int := sUnmap c11.1 c11.2.1 0
theorem law11_awake (K : World) (F : List Assn) : Tells Tryz.prog 30 #[] K F (.bool true) := by
  have qm : tiny11.may = true := by kernel_rfl
  have r0 : w11a.scanE = 0 := by kernel_rfl
  have r1 : sRead w11a t11a 0 = (⟨5, [], 0⟩, t11a) := by kernel_rfl
  have l1 : ∀ l ∈ t11a.stale, l.length ≤ 100000 := by
    have : t11a.stale = [[], []] := by kernel_rfl
    rw [this]; decide
  have r2 : c11.2.2 = 0 := by kernel_rfl
  have l2 : ∀ l ∈ c11.2.1.stale, l.length ≤ 100000 := by
    have : c11.2.1.stale = [[], []] := by kernel_rfl
    rw [this]; decide
  have r3 : sRead c11.1 c11.2.1 0 = (⟨0, abc11, 0⟩, c11.2.1) := by kernel_rfl
  have r4 : u11.2.2 = 0 := by kernel_rfl
  have r5 : (sRead u11.1 u11.2.1 0).1 = ⟨5, [], 0⟩ := by kernel_rfl
  have hd8 : Small 256 abc11 := by unfold Small; decide
  refine Does.enter Tryz.func30 rfl Tryz.ntmps30 rfl ?_
  simp only [env0, Nat.reduceAdd]
  refine WC.sr ?_
  refine WL.val (V.assign (OV.p rfl)) rfl ?_
  refine WL.nil ?_
  refine WC.sr ?_
  refine WL.call (vs := []) Tryz.call95 trivial (law11_tiny _ _) rfl ?_
  rintro _ H0 ⟨rfl, h0⟩
  subst H0
  refine WL.call (vs := [_, _]) Tryz.call13 ⟨OV.p rfl, OV.p rfl, trivial⟩ (chip_New tiny11 (l := []) Seq.nil (by decide)) rfl ?_
  rintro _ _ (⟨hm, hin, bc, C0, hC0, s0, rfl, rfl⟩ | ⟨hno, rfl, rfl⟩)
  rotate_left
  · exact (hno ⟨qm, fun x hx => by simp at hx⟩).elim
  have g0 : C0.g = tiny11 := by rw [show C0.g = C0.sem.g from rfl, s0]; rfl
  have s0' : C0.sem = w11a := s0
  refine WL.val (V.move (OV.p rfl)) rfl ?_
  refine WL.val (V.extract (OV.p rfl) rfl) rfl ?_
  refine WL.val (V.extract (OV.p rfl) rfl) rfl ?_
  refine WL.val (V.assign (OV.p rfl)) rfl ?_
  refine WL.val (V.assign (OV.p rfl)) rfl ?_
  refine WL.nil ?_
  refine WC.sr ?_
  refine WL.val (V.move (OV.p rfl)) rfl ?_
  refine WL.call (vs := [_]) Tryz.call14 ⟨OV.p rfl, trivial⟩ (drive_NewG hC0 g0) rfl ?_
  rintro _ _ ⟨bd, rfl, rfl⟩
  refine WL.val (V.move (OV.p rfl)) rfl ?_
  refine WL.val (V.extract (OV.p rfl) rfl) rfl ?_
  refine WL.val (V.extract (OV.p rfl) rfl) rfl ?_
  refine WL.val (V.assign (OV.p rfl)) rfl ?_
  refine WL.val (V.assign (OV.p rfl)) rfl ?_
  refine WL.nil ?_
  refine WC.sr ?_
  refine WL.val (V.move (OV.p rfl)) rfl ?_
  refine WL.call (vs := [_, _]) Tryz.call29 ⟨OV.p rfl, OV.p rfl, trivial⟩ (store_Open hC0 g0 (lebs := 2) (by decide) (by decide) (by rw [s0']; exact r0)) rfl ?_
  rintro _ _ ⟨bs, T0, hT0, t0, rfl, rfl⟩
  have t0' : T0.sem = t11a := by rw [t0, s0']; rfl
  refine WL.val (V.move (OV.p rfl)) rfl ?_
  refine WL.val (V.extract (OV.p rfl) rfl) rfl ?_
  refine WL.val (V.extract (OV.p rfl) rfl) rfl ?_
  refine WL.val (V.assign (OV.p rfl)) rfl ?_
  refine WL.val (V.assign (OV.p rfl)) rfl ?_
  refine WL.nil ?_
  refine WC.seq ?_
  refine WC.sr ?_
  refine WL.val (V.move (OV.p rfl)) rfl ?_
  refine WL.val (V.eqlP Tryz.underlying56 (OV.p rfl) (OV.p rfl)) rfl ?_
  refine WL.val (V.move (OV.p rfl)) rfl ?_
  refine WL.valG (oj := _) rfl rfl rfl GC.f (V.move (OV.p rfl)) rfl ?_
  refine WL.valG (oj := _) rfl rfl rfl GC.f (V.neq (OV.g rfl id) (OV.p rfl)) rfl ?_
  refine WL.val (V.pickOr (OV.p rfl) (OV.g rfl id)) rfl ?_
  refine WL.nil ?_
  refine WC.condF' rfl (by first | rfl | (simp; done) | (simp; omega)) ?_
  refine WC.skip ?_
  refine WC.sr ?_
  refine WL.val (V.move (OV.p rfl)) rfl ?_
  refine WL.call (vs := [_, _]) Tryz.call28 ⟨OV.p rfl, OV.p rfl, trivial⟩ (store_Read hC0 g0 hT0 0) rfl ?_
  rintro _ _ ⟨A1, c1, T1, hT1, t1, rfl, rfl⟩
  rw [s0', t0', r1] at t1 ⊢
  refine WL.sub (Sub.refl _) (fun w h => h.tail) ?_
  refine WL.val (V.move (OV.p rfl)) rfl ?_
  refine WL.val (V.extract (OV.p rfl) rfl) rfl ?_
  refine WL.val (V.extract (OV.p rfl) rfl) rfl ?_
  refine WL.val (V.extract (OV.p rfl) rfl) rfl ?_
  refine WL.val (V.assign (OV.p rfl)) rfl ?_
  refine WL.val (V.assign (OV.p rfl)) rfl ?_
  refine WL.val (V.assign (OV.p rfl)) rfl ?_
  refine WL.nil ?_
  refine WC.sr ?_
  refine WL.val (V.move (OV.p rfl)) rfl ?_
  refine WL.buildSlice (E := 5) (cs := [_, _, _]) (vs := [(0, _), (1, _), (2, _)]) ⟨OV.p rfl, OV.p rfl, OV.p rfl, trivial⟩ rfl (bsl38_3_0_1_2 _ _ _) rfl (fun b46 => ?_)
  refine WL.convMark Tryz.underlying38 Tryz.underlying5 (OV.p rfl) rfl ?_
  refine WL.sub (Sub.refl _) (fun w h => h.sel 4 [1, 2, 3, 0] rfl) ?_
  refine WL.call (vs := [_, _, _]) Tryz.call31 ⟨OV.p rfl, OV.p rfl, OV.p rfl, trivial⟩ (store_Change hC0 g0 hT1 (leb := 0) (d := abc11) (Seq.allZ rfl : Seq K (CellsZ b46 5 (nats .u8 abc11) :: F) (some ⟨b46, 0, none⟩) 3 1 (nats .u8 abc11)) hd8 (Nat.le_refl _) (by decide) (by rw [t1]; exact fun l hl => Nat.le_trans (l1 l hl) (by decide))) rfl ?_
  rintro v2 _ ⟨C2, T2, hC2, g2, hT2, s2, t2, hv2, rfl⟩
  have s2' : C2.sem = c11.1 := by rw [s2, s0', t1]; rfl
  have t2' : T2.sem = c11.2.1 := by rw [t2, s0', t1]; rfl
  have hv2' : v2 = .int .i64 0 := by rw [hv2, s0', t1]; exact congrArg (Value.int .i64) r2
  subst hv2'
  refine WL.val (V.assign (OV.p rfl)) rfl ?_
  refine WL.nil ?_
  refine WC.sr ?_
  refine WL.val (V.move (OV.p rfl)) rfl ?_
  refine WL.call (vs := [_, _]) Tryz.call28 ⟨OV.p rfl, OV.p rfl, trivial⟩ (store_Read hC2 g2 hT2 0) rfl ?_
  rintro _ _ ⟨A3, c3, T3, hT3, t3, rfl, rfl⟩
  rw [s2', t2', r3] at t3 ⊢
  refine WL.val (V.move (OV.p rfl)) rfl ?_
  refine WL.val (V.extract (OV.p rfl) rfl) rfl ?_
  refine WL.val (V.extract (OV.p rfl) rfl) rfl ?_
  refine WL.val (V.extract (OV.p rfl) rfl) rfl ?_
  refine WL.val (V.assign (OV.p rfl)) rfl ?_
  refine WL.val (V.assign (OV.p rfl)) rfl ?_
  refine WL.val (V.assign (OV.p rfl)) rfl ?_
  refine WL.nil ?_
  refine WC.sr ?_
  refine WL.val (V.move (OV.p rfl)) rfl ?_
  refine WL.sub (Sub.refl _) (fun w h => h.sel 4 [1, 2, 3, 0] rfl) ?_
  refine WL.call (vs := [_, _]) Tryz.call32 ⟨OV.p rfl, OV.p rfl, trivial⟩ (store_Unmap hC2 g2 hT3 0 (by rw [t3]; exact l2)) rfl ?_
  rintro v4 _ ⟨C4, T4, hC4, g4, hT4, s4, t4, hv4, rfl⟩
  have s4' : C4.sem = u11.1 := by rw [s4, s2', t3]; rfl
  have t4' : T4.sem = u11.2.1 := by rw [t4, s2', t3]; rfl
  have hv4' : v4 = .int .i64 0 := by rw [hv4, s2', t3]; exact congrArg (Value.int .i64) r4
  subst hv4'
  refine WL.val (V.assign (OV.p rfl)) rfl ?_
  refine WL.nil ?_
  refine WC.sr ?_
  refine WL.val (V.move (OV.p rfl)) rfl ?_
  refine WL.call (vs := [_, _]) Tryz.call28 ⟨OV.p rfl, OV.p rfl, trivial⟩ (store_Read hC4 g4 hT4 0) rfl ?_
  rintro _ _ ⟨A5, c5, T5, hT5, t5, rfl, rfl⟩
  rw [s4', t4', r5]
  have hl5 : (T5.stands.length : Int) = 2 := by
    have e1 : T5.sem.stands = [-1, -1] := by rw [t5, s4', t4']; kernel_rfl
    have e2 : T5.stands = [-1, -1] := e1
    rw [e2]; rfl
  refine WL.val (V.move (OV.p rfl)) rfl ?_
  refine WL.val (V.extract (OV.p rfl) rfl) rfl ?_
  refine WL.val (V.extract (OV.p rfl) rfl) rfl ?_
  refine WL.val (V.extract (OV.p rfl) rfl) rfl ?_
  refine WL.val (V.assign (OV.p rfl)) rfl ?_
  refine WL.val (V.assign (OV.p rfl)) rfl ?_
  refine WL.val (V.assign (OV.p rfl)) rfl ?_
  refine WL.nil ?_
  refine WC.sr ?_
  refine WL.val (V.move (OV.p rfl)) rfl ?_
  refine WL.val (V.eql (OV.p rfl) (OV.p rfl)) rfl ?_
  refine WL.val (V.move (OV.p rfl)) rfl ?_
  refine WL.known (oj := _) rfl rfl rfl rfl ?_
  refine WL.val (V.move (OV.p rfl)) rfl ?_
  refine WL.known (oj := _) rfl rfl rfl rfl ?_
  refine WL.val (V.eql (OV.p rfl) (OV.p rfl)) rfl ?_
  refine WL.val (V.pickAnd (OV.p rfl) (OV.p rfl)) rfl ?_
  refine WL.val (V.move (OV.p rfl)) rfl ?_
  refine WL.known (oj := _) rfl rfl rfl rfl ?_
  refine WL.val (V.move (OV.p rfl)) rfl ?_
  refine WL.known (oj := _) rfl rfl rfl rfl ?_
  refine WL.sub (Sub.refl _) (fun w h => h.sel 5 [3, 4] rfl) ?_
  refine WL.val (V.bytesStr (xs := intsOf abc11) Tryz.underlying38 Tryz.underlying5 Tryz.underlying9 (OV.p rfl) (fun _ => by rw [← nats_intsOf]; exact Seq.up (SlA.seq rfl))) rfl ?_
  refine WL.known (oj := _) rfl rfl rfl rfl ?_
  refine WL.val (V.val_eq (v' := .bool true) (V.eqlS (OV.p rfl) (OV.p rfl)) (fun _ => by kernel_rfl)) rfl ?_
  refine WL.val (V.pickAnd (OV.p rfl) (OV.p rfl)) rfl ?_
  refine WL.val (V.move (OV.p rfl)) rfl ?_
  refine WL.known (oj := _) rfl rfl rfl rfl ?_
  refine WL.val (V.move (OV.p rfl)) rfl ?_
  refine WL.known (oj := _) rfl rfl rfl rfl ?_
  refine WL.val (V.eql (OV.p rfl) (OV.p rfl)) rfl ?_
  refine WL.val (V.pickAnd (OV.p rfl) (OV.p rfl)) rfl ?_
  refine WL.val (V.move (OV.p rfl)) rfl ?_
  refine WL.known (oj := _) rfl rfl rfl rfl ?_
  refine WL.val (V.move (OV.p rfl)) rfl ?_
  refine WL.known (oj := _) rfl rfl rfl rfl ?_
  refine WL.val (V.eql (OV.p rfl) (OV.p rfl)) rfl ?_
  refine WL.val (V.pickAnd (OV.p rfl) (OV.p rfl)) rfl ?_
  refine WL.val (V.move (OV.p rfl)) rfl ?_
  refine WL.known (oj := _) rfl rfl rfl rfl ?_
  refine WL.val (V.move (OV.p rfl)) rfl ?_
  refine WL.known (oj := _) rfl rfl rfl rfl ?_
  refine WL.val (V.eql (OV.p rfl) (OV.p rfl)) rfl ?_
  refine WL.val (V.pickAnd (OV.p rfl) (OV.p rfl)) rfl ?_
  refine WL.val (V.move (OV.p rfl)) rfl ?_
  refine WL.known (oj := _) rfl rfl rfl rfl ?_
  refine WL.val (V.move (OV.p rfl)) rfl ?_
  refine WL.known (oj := _) rfl rfl rfl rfl ?_
  refine WL.val (V.eql (OV.p rfl) (OV.p rfl)) rfl ?_
  refine WL.val (V.pickAnd (OV.p rfl) (OV.p rfl)) rfl ?_
  refine WL.val (V.move (OV.p rfl)) rfl ?_
  refine WL.known (oj := _) rfl rfl rfl rfl ?_
  refine WL.val (V.move (OV.p rfl)) rfl ?_
  refine WL.known (oj := _) rfl rfl rfl rfl ?_
  refine WL.call (vs := [_]) Tryz.call33 ⟨OV.p rfl, trivial⟩ (Tells.eq store_Lebs (by rw [hl5])) rfl ?_
  rintro _ H0 ⟨rfl, h0⟩
  subst H0
  refine WL.known (oj := _) rfl rfl rfl rfl ?_
  refine WL.val (V.eql (OV.p rfl) (OV.p rfl)) rfl ?_
  refine WL.val (V.pickAnd (OV.p rfl) (OV.p rfl)) rfl ?_
  refine WL.val (V.move (OV.p rfl)) rfl ?_
  refine WL.known (oj := _) rfl rfl rfl rfl ?_
  refine WL.val (V.move (OV.p rfl)) rfl ?_
  refine WL.known (oj := _) rfl rfl rfl rfl ?_
  refine WL.call (vs := [_]) Tryz.call34 ⟨OV.p rfl, trivial⟩ (Tells.eq (store_Cap (Geo.mays_of qm)) rfl) rfl ?_
  rintro _ H0 ⟨rfl, h0⟩
  subst H0
  refine WL.known (oj := _) rfl rfl rfl rfl ?_
  refine WL.val (V.eql (OV.p rfl) (OV.p rfl)) rfl ?_
  refine WL.val (V.pickAnd (OV.p rfl) (OV.p rfl)) rfl ?_
  refine WL.val (V.assign (OV.p rfl)) rfl ?_
  refine WL.nil ?_
  refine WC.ret ?_
  exact BodyQ.ret (H' := F) (Res.tmp rfl rfl) (fun w h => h.sel 3 [] rfl) ⟨rfl, rfl⟩
end Go.Proofs.YtohkefolnmcjnaaGreat
/- The symbolic executor, rows: slices of structs that are handed in. -/
namespace Go.Sl
open Go.ChangeShapes Go.WideShapes Go.ChangeAt Go.RowKit
set_option linter.unusedVariables false
set_option linter.unusedSimpArgs false

section
variable {H : Type} {enc : TypeId × Value → H} {P : Program} {W : World}
end
end Go.Sl
/- The symbolic executor: strings as bytes of their own; slices of strings that were handed in. -/
namespace Go.Sl
open Go.RowKit Go.BigFrame Go.ChangeShapes Go.WideShapes
set_option linter.unusedVariables false
set_option linter.unusedSimpArgs false

def bytesOf (s : ByteArray) : List Int := s.data.toList.map fun b => (b.toNat : Int)
theorem bytesOf_length (s : ByteArray) : (bytesOf s).length = s.size := by
  unfold bytesOf
  rw [List.length_map, Array.length_toList]; rfl
theorem bytesOf_bytes (s : ByteArray) : IsBytes (bytesOf s) := fun x hx => by
  obtain ⟨b, _, rfl⟩ := List.mem_map.1 hx
  have := b.toNat_lt
  omega
theorem strOf_bytesOf (s : ByteArray) : strOfNums (bytesOf s) = s := by
  unfold strOfNums bytesOf
  rw [List.map_map]
  obtain ⟨⟨l⟩⟩ := s
  congr 1
  show (List.map _ l).toArray = l.toArray
  congr 1
  conv => rhs; rw [← List.map_id l]
  apply List.map_congr_left
  intro b _
  show UInt8.ofNat ((b.toNat : Int)).toNat = b
  simp
section
variable {Mo : Mode} {P : Program} {K : World} {n : Nat} {Q : Post} {e : Env} {H : List Assn} {ty : TypeId} {pos : String} {af : Array Edge} {ops : Array Oper} {rest : List Oper}
/-- []byte(s). -/
theorem WL.strBytes {d : Nat} {x : Operand} {S T E : Nat} {s : ByteArray} {k : List Int} (hk : k = bytesOf s) (hS : P.underlying S = some .string) (hT : P.underlying T = some (.slice E)) (hE : P.underlying E = some (.int .u8)) (hx : OV true e x (.string s)) (hd : Nat.blt d n = true)
    (h : ∀ b cap cs, s.size ≤ cap → (∀ H' : List Assn, Seq K (CellsZ b E cs :: H') (some ⟨b, 0, none⟩) s.size 1 (ints .u8 k)) → WL Mo P K n ops rest Q ((d, .slice (some ⟨b, 0, none⟩) s.size cap) :: e) (CellsZ b E cs :: H)) :
    WL Mo P K n ops (⟨some d, .convert S T x, ty, pos, af, none⟩ :: rest) Q e H := by
  refine WL.eff (R := fun u H' => ∃ b cap cs, u = .slice (some ⟨b, 0, none⟩) s.size cap ∧ H' = CellsZ b E cs :: H ∧ s.size ≤ cap ∧ ∀ H' : List Assn, Seq K (CellsZ b E cs :: H') (some ⟨b, 0, none⟩) s.size 1 (ints .u8 k)) (fun a w ha hw => ?_) hd (fun u H' ⟨b, cap, cs, e1, e2, e3, e4⟩ => by subst e1 e2; exact h b cap cs e3 e4)
  have hr := Lib.run_convert_string_bytes (P := P) w S T E s hS hT hE
  refine ⟨_, Lib.bytesWorld w E s, CellsZ w.heap.size E (Lib.bytesCells w E s).toList :: H, ?_, ⟨hw.1.grow ?_ ?_ ?_ ?_, hw.2.push ?_ (fun b hb => Lib.bytesWorld_at_old w E s b hb) ⟨((Lib.bytesCells w E s).size, (Lib.bytesCells w E s).size + 1), ?_⟩ (fun b hb => ?_)⟩, w.heap.size, grownCap w s.size 0 E, _, rfl, rfl, grownCap_ge w s.size 0 E, fun H' => ⟨?_, fun i v hi => ?_⟩⟩
  · show ((do pure (Next.value (← convert S T (a.eval x)))) : Sem Next).run P w = _
    rw [hx.ev rfl ha]
    simp [hr]
  · simp [Lib.bytesWorld, World.freeze] <;> rfl
  · simp [Lib.bytesWorld, World.freeze] <;> rfl
  · simp [Lib.bytesWorld, World.freeze] <;> rfl
  · rw [Lib.bytesWorld_size]; omega
  · rw [Lib.bytesWorld_size]; omega
  · have := Lib.bytesWorld_at_new w E s
    simpa using this
  · have hb : b = w.heap.size := hb
    rw [Lib.bytesWorld_size]; omega
  · rw [hk, ints_length, bytesOf_length, Nat.mul_one]
  · rw [hk] at hi
    have hil : i < s.size := by
      rcases Nat.lt_or_ge i s.size with h | h
      · exact h
      · rw [List.getElem?_eq_none (by rw [ints_length, bytesOf_length]; exact h)] at hi; cases hi
    have hg : (Lib.bytesCells w E s).toList[i]? = some v := by
      rw [← hi]
      unfold Lib.bytesCells ints bytesOf
      have hsz : s.data.size = s.size := rfl
      have hil' : i < s.data.toList.length := by rw [Array.length_toList]; exact hil
      simp [Array.getElem?_append, hsz, hil]
      rw [List.getElem?_append_left (by rw [List.length_map]; exact hil'), List.getElem?_map, List.getElem?_eq_getElem hil']
      rfl
    have := Rd.hereZ (K := K) (H := H') (b := w.heap.size) (T := E) (o := i) hg
    simpa [add_mk] using this
end
def strs (ss : List ByteArray) : List Value := ss.map Value.string
theorem Seq.str_rd {K : World} {H : List Assn} {A : Option Addr} {m i : Nat} {ss : List ByteArray} (h : Seq K H A m 1 (strs ss)) (hi : i < m) : Rd K H (A.map (·.add (i * 1))) (.string (ss.getD i ByteArray.empty)) := by
  have hl : ss.length = m := by have := h.len; simpa [strs] using this
  have := h.rd i (.string (ss.getD i ByteArray.empty)) (by simp [strs, List.getD, hl, hi])
  rwa [Nat.mul_one]
/-- A slice of strings that was handed in. -/
theorem open_strsSeq {H : Type} {enc : TypeId × Value → H} {P : Program} {W : World} {r : Reach} {base : Nat} {t e : TypeId} {v : Value} {d : DataW H} {p : List MemPlace} (ht : P.underlying t = some (.slice e)) (he : P.underlying e = some .string)
    (hc : P.cellsOf e = 1) (hval : Value.okWide P W r base t v) (h : DataW.Trod enc P W 0 (fun _ => true) true t v d p) :
    ∃ A m cap ss, v = .slice A m cap ∧ Seq W [Old W] A m 1 (strs ss) ∧ ss.length = m ∧ m ≤ maxLen ∧ (∀ s ∈ ss, s.size ≤ maxLen) := by
  obtain ⟨a0, len, cap, rfl⟩ := okWide_slice ht hval
  obtain ⟨fuel, hf⟩ := h
  rcases Deep.open_strs ht he hc hf with ⟨hcs, hx⟩ | ⟨a, len', cap', m, Sx, hcs, _, hl, hm, hmm, hx, hcell⟩
  · simp [Value.cells] at hcs
    obtain ⟨rfl, rfl, rfl⟩ := hcs
    exact ⟨none, 0, 0, [], rfl, Seq.nil, rfl, Nat.zero_le _, fun s hs => (by cases hs)⟩
  · simp [Value.cells] at hcs
    obtain ⟨rfl, rfl, rfl⟩ := hcs
    simp only [if_true] at hmm
    refine ⟨some a, len, cap, (List.range len).map Sx, rfl, ⟨by simp [strs], fun i v hi w hw => ?_⟩, by simp, by omega, fun s hs => ?_⟩
    · have hil : i < len := by
        rcases Nat.lt_or_ge i len with h | h
        · exact h
        · rw [List.getElem?_eq_none (by simp [strs]; exact h)] at hi; cases hi
      have h1 := (hcell i (by omega)).1
      have hb := World.block_lt_of_cell? _ _ h1
      refine ⟨_, rfl, ((hw.below.cell hb).trans h1).trans ?_⟩
      rw [← hi]
      simp [strs, hil]
    · obtain ⟨i, hi, rfl⟩ := List.mem_map.1 hs
      exact (hcell i (by have := List.mem_range.1 hi; omega)).2
end Go.Sl
/- casematelaw11.open, casemateref09.Cap; a chip that is new. -/
namespace Go.Proofs.YtohkefolnmcjnaaGreat
open Go.Sl Go.RowKit
set_option linter.unusedVariables false
set_option linter.unusedSimpArgs false
set_option maxRecDepth 20000

section
variable {bs bd bc : Nat} {g : Geo} {C : Cw} {K : World} {F : List Assn}
theorem ref09_Cap (hg : g.mays) : Tells Tryz.prog 39 #[g.v] K F (.int .i64 g.cap) := by
  have hr := Geo.room_bd hg
  have hcb := Geo.cap_bd hg
  have hgb := hg
  unfold Geo.mays at hgb
  have hq : (g.pg - 1) * g.room = g.cap := rfl
  refine Does.enter Tryz.func39 rfl Tryz.ntmps39 rfl ?_
  simp only [env0, Nat.reduceAdd]
  refine WC.sr ?_
  refine WL.box (cs := [_, _, _, _, _]) (OV.p rfl) rfl rfl (fun b1 => ?_)
  refine WL.val (V.assign (OV.p rfl)) rfl ?_
  refine WL.nil ?_
  refine WC.seq ?_
  refine WC.regionQ (by kernel_rfl) (by kernel_rfl) ?_
  refine WQ.val (V.fieldAddr fo23_1 (OV.p rfl)) rfl ?_
  refine WQ.val (V.load Tryz.isAgg3 (OV.p rfl) (fun _ => by repeat (first | exact Rd.here rfl | apply Rd.up))) rfl ?_
  refine WQ.val (V.subI (OV.p rfl) (OV.p rfl) (fun hc => by first | omega | (simp at hc; omega))) rfl ?_
  refine WQ.val (V.loadA (vs := [_, _, _, _, _]) ⟨Tryz.isAgg23, Tryz.sizeOf23⟩ (OV.p rfl) rfl (fun _ => by repeat (first | exact Rds.gets ⟨rfl, rfl, rfl, rfl, rfl, trivial⟩ | apply Rds.up))) rfl ?_
  refine WQ.call (vs := [_]) Tryz.call22 ⟨OV.p rfl, trivial⟩ (ref06_Room g hg _ _) rfl ?_
  refine WQ.val (V.mulI (OV.p rfl) (OV.p rfl) (fun hc => by first | omega | (simp at hc; omega))) rfl ?_
  refine WQ.val (V.assign (OV.p rfl)) rfl ?_
  refine WQ.nil ?_
  refine WC.ret ?_
  exact BodyQ.ret (H' := F) (Res.tmp rfl rfl) (fun w h => by repeat (first | exact h | replace h := h.tail)) ⟨rfl, rfl⟩
theorem law11_open (hC : C.Ok) (hg : C.g = g) {lebs : Nat} (hl : 1 ≤ lebs ∧ lebs ≤ 64) (h19 : g.bl ≤ 19) : Does Tryz.prog 38 #[ptr bc 0, .int .i64 (lebs : Int)] K (C.A bc :: F)
    (fun v H' => ∃ (bd bs : Nat) (T : Stw), T.Ok g ∧ T.sem = openF C.on.sem lebs ∧ v = ptr bs 0 ∧ H' = C.on.A bc :: DvA bd bc g :: T.A bs bd g :: F) := by
  refine Does.enter Tryz.func38 rfl Tryz.ntmps38 rfl ?_
  simp only [env0, Nat.reduceAdd]
  refine WC.sr ?_
  refine WL.val (V.assign (OV.p rfl)) rfl ?_
  refine WL.nil ?_
  refine WC.sr ?_
  refine WL.val (V.move (OV.p rfl)) rfl ?_
  refine WL.call (vs := [_]) Tryz.call64 ⟨OV.p rfl, trivial⟩ (chip_On) rfl ?_
  rintro _ _ rfl
  refine WL.nil ?_
  refine WC.sr ?_
  refine WL.val (V.move (OV.p rfl)) rfl ?_
  refine WL.call (vs := [_]) Tryz.call14 ⟨OV.p rfl, trivial⟩ (drive_NewG hC.on hg) rfl ?_
  rintro _ _ ⟨bd, rfl, rfl⟩
  refine WL.val (V.move (OV.p rfl)) rfl ?_
  refine WL.val (V.extract (OV.p rfl) rfl) rfl ?_
  refine WL.val (V.extract (OV.p rfl) rfl) rfl ?_
  refine WL.val (V.assign (OV.p rfl)) rfl ?_
  refine WL.val (V.assign (OV.p rfl)) rfl ?_
  refine WL.nil ?_
  refine WC.seq ?_
  refine WC.sr ?_
  refine WL.val (V.move (OV.p rfl)) rfl ?_
  refine WL.val (V.neq (OV.p rfl) (OV.p rfl)) rfl ?_
  refine WL.nil ?_
  refine WC.condF' rfl (by first | rfl | (simp; done) | (simp; omega)) ?_
  refine WC.skip ?_
  refine WC.sr ?_
  refine WL.val (V.move (OV.p rfl)) rfl ?_
  refine WL.val (V.move (OV.p rfl)) rfl ?_
  refine WL.call (vs := [_, _]) Tryz.call29 ⟨OV.p rfl, OV.p rfl, trivial⟩ (store_Open hC.on hg hl h19 (scanE_up hC.on.mays rfl)) rfl ?_
  rintro _ _ ⟨bs, T, hT, t0, rfl, rfl⟩
  refine WL.val (V.move (OV.p rfl)) rfl ?_
  refine WL.val (V.extract (OV.p rfl) rfl) rfl ?_
  refine WL.val (V.extract (OV.p rfl) rfl) rfl ?_
  refine WL.val (V.assign (OV.p rfl)) rfl ?_
  refine WL.val (V.assign (OV.p rfl)) rfl ?_
  refine WL.nil ?_
  refine WC.seq ?_
  refine WC.sr ?_
  refine WL.val (V.move (OV.p rfl)) rfl ?_
  refine WL.val (V.neq (OV.p rfl) (OV.p rfl)) rfl ?_
  refine WL.nil ?_
  refine WC.condF' rfl (by first | rfl | (simp; done) | (simp; omega)) ?_
  refine WC.skip ?_
  refine WC.sr ?_
  refine WL.val (V.move (OV.p rfl)) rfl ?_
  refine WL.val (V.assign (OV.p rfl)) rfl ?_
  refine WL.nil ?_
  refine WC.ret ?_
  exact BodyQ.ret (H' := C.on.A bc :: DvA bd bc g :: T.A bs bd g :: F) (Res.tmp rfl rfl) (fun w h => h) ⟨bd, bs, T, hT, t0, rfl, rfl⟩
end
theorem on_same {S : Chip} (h : S.up = true) : S.on = S := by
  unfold Chip.on
  rw [← h]
theorem scan_new {g : Geo} {bad : List Int} (hg : g.mays) : (Chip.new g bad).scanF = [] := by
  rw [List.eq_nil_iff_forall_not_mem]
  intro x hx
  obtain ⟨_, _, _, d, h⟩ := (Chip.mem_scan (Chip.CM.new (bad := bad) hg 0 0).ci rfl x).1 hx
  cases h
theorem open_next {g : Geo} {bad : List Int} (hg : g.mays) (lebs : Nat) : (openF (Chip.new g bad) lebs).next = 1 := by
  show nextF (Chip.new g bad).scanF = 1
  rw [scan_new hg]; rfl
end Go.Proofs.YtohkefolnmcjnaaGreat
/- The law StoreFew. -/
namespace Go.Proofs.YtohkefolnmcjnaaGreat
open Go.Sl Go.RowKit
set_option linter.unusedVariables false
set_option linter.unusedSimpArgs false
set_option maxRecDepth 20000

def datS (ss : List ByteArray) (i : Nat) : List Nat := natsOf (bytesOf (ss.getD i ByteArray.empty))
def mapS (ss : List ByteArray) (i : Nat) : Lm := fun k => if k < i then some (datS ss k) else none
theorem datS_small (ss : List ByteArray) (i : Nat) : Small 256 (datS ss i) := natsOf_small (bytesOf_bytes _)
theorem datS_length (ss : List ByteArray) (i : Nat) : (datS ss i).length = (ss.getD i ByteArray.empty).size := by unfold datS; rw [natsOf_length, bytesOf_length]
theorem datS_str (ss : List ByteArray) (i : Nat) : strOfNums (intsOf (datS ss i)) = ss.getD i ByteArray.empty := by
  have : intsOf (datS ss i) = bytesOf (ss.getD i ByteArray.empty) := by
    unfold datS intsOf natsOf
    rw [List.map_map]
    conv => rhs; rw [← List.map_id (bytesOf _)]
    apply List.map_congr_left
    intro x hx
    have := bytesOf_bytes _ x hx
    show ((x.toNat : Nat) : Int) = x
    omega
  rw [this, strOf_bytesOf]
/-- A chip without failures, and a store over it. -/
structure Fine (lebs L B : Nat) (N : Int) (S : Chip) (T : St) (m : Lm) : Prop where
  si : ∃ st, Chip.SI lebs L B S st T m
  up : S.up = true
  left : S.left = 0
  weak : ∀ b, S.weak b = false
  un : ∀ b, S.marked b = false
  wrong : ∀ k, S.wrong k = none
  next : T.next ≤ N
theorem Fine.mono {lebs L B : Nat} {N N' : Int} {S : Chip} {T : St} {m : Lm} (h : Fine lebs L B N S T m) (hn : N ≤ N') : Fine lebs L B N' S T m := ⟨h.si, h.up, h.left, h.weak, h.un, h.wrong, by have := h.next; omega⟩
theorem Fine.change {lebs L B : Nat} {N : Int} {S : Chip} {T : St} {m : Lm} (h : Fine lebs L B N S T m) (hbl : (lebs : Int) < S.g.bl) (h20 : S.g.bl ≤ 20) (hN : N ≤ 1000000) {i0 : Nat} (hi0 : i0 < lebs) (hL : i0 < L) (h64 : i0 < 64) {d : List Nat} (h8 : Small 256 d) (hd : (d.length : Int) ≤ S.g.cap) :
    (sChange S T (i0 : Int) d).2.2 = 0 ∧ (sChange S T (i0 : Int) d).1.g = S.g ∧ Fine lebs L (B + 1) (N + 21) (sChange S T (i0 : Int) d).1 (sChange S T (i0 : Int) d).2.1 (m.put i0 (some d)) := by
  obtain ⟨st, hI⟩ := h.si
  have hnx := h.next
  obtain ⟨r1, r2, r3, r4, r5, r6, r7⟩ := Chip.sChange_out hI h.up hi0 hL h64 h8 hd (by omega)
  rcases r7 with ⟨_, _, _, q4⟩ | ⟨q1, q2, q3⟩ | ⟨q1, _, _⟩
  · exfalso
    have h1 := Chip.full_count hI q4
    have h2 : ((List.range S.g.bl.toNat).filter fun (b : Nat) => !S.marked (b : Int) && !S.weak (b : Int)).length = S.g.bl.toNat := by
      rw [List.filter_eq_self.2 (fun b _ => by rw [h.un, h.weak]; rfl), List.length_range]
    have h3 := List.length_filter_le (fun i => (m i).isSome) (List.range lebs)
    rw [List.length_range] at h3
    omega
  · refine ⟨q1, r1, q3, q2, (r4 h.left).1, fun b => by rw [r2]; exact h.weak b, fun b => ?_, r3.none h.wrong, by omega⟩
    cases hm : (sChange S T (i0 : Int) d).1.marked b with
    | false => rfl
    | true =>
      rcases r6 (by rw [q1]; exact n0_70) b hm with h1 | h1
      · rw [h.un] at h1; cases h1
      · rw [h.weak] at h1; cases h1
  · exact absurd q1 (r4 h.left).2
/-- Opened anew, with more or fewer. -/
theorem Fine.opened {lebs L B : Nat} {N : Int} {S : Chip} {T : St} {m : Lm} (h : Fine lebs L B N S T m) (hLl : L = lebs) {k : Nat} {m' : Lm} (hm : ∀ i, m' i = if i < lebs then m i else none) : ∃ st, Chip.SI k L 256 S st (openF S k) m' := by
  obtain ⟨st, hI⟩ := h.si
  have hc := hI.cm
  refine ⟨st, Chip.open_si ⟨hc.ci, hc.low, hc.uniq, fun i _ hi b h d hl => ?_, fun i _ v hi => ?_⟩ h.up⟩
  · rw [hm] at hi
    by_cases hil : i < lebs
    · rw [if_pos hil] at hi; exact hc.none_ i hil hi b h d hl
    · have := hc.low b h d hl; omega
  · rw [hm] at hi
    by_cases hil : i < lebs
    · rw [if_pos hil] at hi; exact hc.some_ i hil v hi
    · rw [if_neg hil] at hi; cases hi
theorem Fine.new {g : Geo} (hg : g.mays) (lebs : Nat) : Fine lebs lebs 256 1 (Chip.new g []) (openF (Chip.new g []) lebs) (fun _ => none) :=
  ⟨⟨_, Chip.open_si (Chip.CM.new hg lebs lebs) rfl⟩, rfl, rfl, fun _ => rfl, fun _ => rfl, fun _ => rfl, by rw [open_next hg]; exact Int.le_refl _⟩
end Go.Proofs.YtohkefolnmcjnaaGreat
