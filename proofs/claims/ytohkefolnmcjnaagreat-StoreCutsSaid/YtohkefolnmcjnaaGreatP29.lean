import Derived.Test.YtohkefolnmcjnaaGreatP26
import Derived.Test.YtohkefolnmcjnaaGreatP18
import Derived.Test.YtohkefolnmcjnaaGreatP27
import Derived.Test.YtohkefolnmcjnaaGreatP28
import Derived.Test.YtohkefolnmcjnaaGreatP4
namespace Go.Proofs.YtohkefolnmcjnaaGreat
open Go.Sl Go.RowKit
set_option linter.unusedVariables false
set_option linter.unusedSimpArgs false
set_option maxRecDepth 20000
section
variable {K : World} {F : List Assn}
end
end Go.Proofs.YtohkefolnmcjnaaGreat
namespace Go.Proofs.YtohkefolnmcjnaaGreat
open Go.Sl Go.RowKit
set_option linter.unusedVariables false
set_option linter.unusedSimpArgs false
set_option maxRecDepth 20000
theorem law11_small (g : Geo) (K : World) (F : List Assn) : Tells Tryz.prog 36 #[g.v] K F (.bool (g.may && decide (g.room ≤ 32) && decide (g.bl ≤ 12) && decide (g.pg ≤ 5))) := by
  refine Does.enter Tryz.func36 rfl Tryz.ntmps36 rfl ?_
  simp only [env0, Nat.reduceAdd]
  refine WC.sr ?_
  refine WL.box (cs := [_, _, _, _, _]) (OV.p rfl) rfl rfl (fun b1 => ?_)
  refine WL.sg rfl rfl ?_
  refine WL.nil ?_
  refine WC.sr ?_
  refine WL.val (V.loadA (vs := [_, _, _, _, _]) ⟨Tryz.isAgg23, Tryz.sizeOf23⟩ (OV.p rfl) rfl (fun _ => by repeat (first | exact Rds.gets ⟨rfl, rfl, rfl, rfl, rfl, trivial⟩ | apply Rds.up))) rfl ?_
  refine WL.call (vs := [_]) Tryz.call53 ⟨OV.p rfl, trivial⟩ (ref06_May g _ _) rfl ?_
  rintro _ H0 ⟨rfl, h0⟩
  subst H0
  refine WL.mv rfl rfl ?_
  refine WL.valG (oj := _) rfl rfl rfl GC.t (V.loadA (vs := [_, _, _, _, _]) ⟨Tryz.isAgg23, Tryz.sizeOf23⟩ (OV.p rfl) rfl (fun _ => by repeat (first | exact Rds.gets ⟨rfl, rfl, rfl, rfl, rfl, trivial⟩ | apply Rds.up))) rfl ?_
  refine WL.callG (oj := _) (vs := [_]) rfl rfl rfl GC.t Tryz.call22 ⟨OV.g rfl id, trivial⟩ (fun hg => ref06_Room g (Geo.mays_of (by simpa using hg)) _ _) rfl ?_
  refine WL.valG (oj := _) rfl rfl rfl GC.t (V.leq (OV.g rfl id) (OV.p rfl)) rfl ?_
  refine WL.val (V.pickAnd (OV.p rfl) (OV.g rfl id)) rfl ?_
  refine WL.mv rfl rfl ?_
  refine WL.valG (oj := _) rfl rfl rfl GC.t (V.fieldAddr fo23_0 (OV.p rfl)) rfl ?_
  refine WL.valG (oj := _) rfl rfl rfl GC.t (V.load Tryz.isAgg3 (OV.g rfl id) (fun _ => by repeat (first | exact Rd.here rfl | apply Rd.up))) rfl ?_
  refine WL.valG (oj := _) rfl rfl rfl GC.t (V.leq (OV.g rfl id) (OV.p rfl)) rfl ?_
  refine WL.val (V.pickAnd (OV.p rfl) (OV.g rfl id)) rfl ?_
  refine WL.mv rfl rfl ?_
  refine WL.valG (oj := _) rfl rfl rfl GC.t (V.fieldAddr fo23_1 (OV.p rfl)) rfl ?_
  refine WL.valG (oj := _) rfl rfl rfl GC.t (V.load Tryz.isAgg3 (OV.g rfl id) (fun _ => by repeat (first | exact Rd.here rfl | apply Rd.up))) rfl ?_
  refine WL.valG (oj := _) rfl rfl rfl GC.t (V.leq (OV.g rfl id) (OV.p rfl)) rfl ?_
  refine WL.val (V.pickAnd (OV.p rfl) (OV.g rfl id)) rfl ?_
  refine WL.sg rfl rfl ?_
  refine WL.nil ?_
  refine WC.ret ?_
  exact BodyQ.ret (H' := F) (Res.tmp rfl rfl) (fun w h => by repeat (first | exact h | replace h := h.tail)) ⟨rfl, rfl⟩
theorem law11_tiny (K : World) (F : List Assn) : Tells Tryz.prog 95 #[] K F (Geo.mk 4 3 1 16 1).v := by
  refine Does.enter Tryz.func95 rfl Tryz.ntmps95 rfl ?_
  simp only [env0, Nat.reduceAdd]
  refine WC.sr ?_
  refine WL.alloc (cs := [(.int .i64 0), (.int .i64 0), (.int .i64 0), (.int .i64 0), (.int .i64 0)]) Tryz.zeroValue23 rfl rfl (fun b0 => ?_)
  refine WL.nil ?_
  refine WC.sr ?_
  refine WL.val (V.build (vs := [(0, _), (1, _), (2, _), (3, _), (4, _)]) ⟨OV.p rfl, OV.p rfl, OV.p rfl, OV.p rfl, OV.p rfl, trivial⟩ rfl (bld23_0_1_2_3_4 _ _ _ _ _)) rfl ?_
  refine WL.store (cs := [_, _, _, _, _]) Tryz.sizeOf23 (OV.p rfl) (OV.p rfl) rfl rfl rfl (by repeat (first | exact Upd.here (cs' := [_, _, _, _, _]) rfl rfl | apply Upd.up)) ?_
  refine WL.nil ?_
  refine WC.ret ?_
  exact BodyQ.ret (H' := F) (Res.one rfl (R1.cellA (vs := [_, _, _, _, _]) rfl ⟨Tryz.isAgg23, Tryz.sizeOf23⟩ rfl (by repeat (first | exact Rds.gets ⟨rfl, rfl, rfl, rfl, rfl, trivial⟩ | apply Rds.up)))) (fun w h => by repeat (first | exact h | replace h := h.tail)) ⟨rfl, rfl⟩
def tiny11 : Geo := ⟨4, 3, 1, 16, 1⟩
def abc11 : List Nat := [97, 98, 99]
def w11a : Chip := Chip.new tiny11 []
def t11a : St := openF w11a 2
def c11 : Chip × St × Int := sChange w11a t11a 0 abc11
def u11 : Chip × St × Int := sUnmap c11.1 c11.2.1 0
theorem law11_awake (K : World) (F : List Assn) : Tells Tryz.prog 30 #[] K F (.bool true) := by
  have qm : tiny11.may = true := by kernel_rfl
  have r0 : w11a.scanE = 0 := by kernel_rfl
  have r1 : sRead w11a t11a 0 = (⟨5, [], 0⟩, t11a) := by kernel_rfl
  have l1 : ∀ l ∈ t11a.stale, l.length ≤ 100000 := by
    have : t11a.stale = [[], []] := by kernel_rfl
    rw [this]; decide
  have r2 : c11.2.2 = 0 := by kernel_rfl
  have l2 : ∀ l ∈ c11.2.1.stale, l.length ≤ 100000 := by
    have : c11.2.1.stale = [[], []] := by kernel_rfl
    rw [this]; decide
  have r3 : sRead c11.1 c11.2.1 0 = (⟨0, abc11, 0⟩, c11.2.1) := by kernel_rfl
  have r4 : u11.2.2 = 0 := by kernel_rfl
  have r5 : (sRead u11.1 u11.2.1 0).1 = ⟨5, [], 0⟩ := by kernel_rfl
  have hd8 : Small 256 abc11 := by unfold Small; decide
  refine Does.enter Tryz.func30 rfl Tryz.ntmps30 rfl ?_
  simp only [env0, Nat.reduceAdd]
  refine WC.sr ?_
  refine WL.sg rfl rfl ?_
  refine WL.nil ?_
  refine WC.sr ?_
  refine WL.call (vs := []) Tryz.call95 trivial (law11_tiny _ _) rfl ?_
  rintro _ H0 ⟨rfl, h0⟩
  subst H0
  refine WL.call (vs := [_, _]) Tryz.call13 ⟨OV.p rfl, OV.p rfl, trivial⟩ (chip_New tiny11 (l := []) Seq.nil (by decide)) rfl ?_
  rintro _ _ (⟨hm, hin, bc, C0, hC0, s0, rfl, rfl⟩ | ⟨hno, rfl, rfl⟩)
  rotate_left
  · exact (hno ⟨qm, fun x hx => by simp at hx⟩).elim
  have g0 : C0.g = tiny11 := by rw [show C0.g = C0.sem.g from rfl, s0]; rfl
  have s0' : C0.sem = w11a := s0
  refine WL.mv rfl rfl ?_
  refine WL.xt rfl rfl rfl ?_
  refine WL.xt rfl rfl rfl ?_
  refine WL.sg rfl rfl ?_
  refine WL.sg rfl rfl ?_
  refine WL.nil ?_
  refine WC.sr ?_
  refine WL.mv rfl rfl ?_
  refine WL.call (vs := [_]) Tryz.call14 ⟨OV.p rfl, trivial⟩ (drive_NewG hC0 g0) rfl ?_
  rintro _ _ ⟨bd, rfl, rfl⟩
  refine WL.mv rfl rfl ?_
  refine WL.xt rfl rfl rfl ?_
  refine WL.xt rfl rfl rfl ?_
  refine WL.sg rfl rfl ?_
  refine WL.sg rfl rfl ?_
  refine WL.nil ?_
  refine WC.sr ?_
  refine WL.mv rfl rfl ?_
  refine WL.call (vs := [_, _]) Tryz.call29 ⟨OV.p rfl, OV.p rfl, trivial⟩ (store_Open hC0 g0 (lebs := 2) (by decide) (by decide) (by rw [s0']; exact r0)) rfl ?_
  rintro _ _ ⟨bs, T0, hT0, t0, rfl, rfl⟩
  have t0' : T0.sem = t11a := by rw [t0, s0']; rfl
  refine WL.mv rfl rfl ?_
  refine WL.xt rfl rfl rfl ?_
  refine WL.xt rfl rfl rfl ?_
  refine WL.sg rfl rfl ?_
  refine WL.sg rfl rfl ?_
  refine WL.nil ?_
  refine WC.seq ?_
  refine WC.sr ?_
  refine WL.mv rfl rfl ?_
  refine WL.val (V.eqlP Tryz.underlying56 (OV.p rfl) (OV.p rfl)) rfl ?_
  refine WL.mv rfl rfl ?_
  refine WL.valG (oj := _) rfl rfl rfl GC.f (V.move (OV.p rfl)) rfl ?_
  refine WL.valG (oj := _) rfl rfl rfl GC.f (V.neq (OV.g rfl id) (OV.p rfl)) rfl ?_
  refine WL.val (V.pickOr (OV.p rfl) (OV.g rfl id)) rfl ?_
  refine WL.nil ?_
  refine WC.condF' rfl (by first | rfl | (simp; done) | (simp; omega)) ?_
  refine WC.skip ?_
  refine WC.sr ?_
  refine WL.mv rfl rfl ?_
  refine WL.call (vs := [_, _]) Tryz.call28 ⟨OV.p rfl, OV.p rfl, trivial⟩ (store_Read hC0 g0 hT0 0) rfl ?_
  rintro _ _ ⟨A1, c1, T1, hT1, t1, rfl, rfl⟩
  rw [s0', t0', r1] at t1 ⊢
  refine WL.sub (Sub.refl _) (fun w h => h.tail) ?_
  refine WL.mv rfl rfl ?_
  refine WL.xt rfl rfl rfl ?_
  refine WL.xt rfl rfl rfl ?_
  refine WL.xt rfl rfl rfl ?_
  refine WL.sg rfl rfl ?_
  refine WL.sg rfl rfl ?_
  refine WL.sg rfl rfl ?_
  refine WL.nil ?_
  refine WC.sr ?_
  refine WL.mv rfl rfl ?_
  refine WL.buildSlice (E := 5) (cs := [_, _, _]) (vs := [(0, _), (1, _), (2, _)]) ⟨OV.p rfl, OV.p rfl, OV.p rfl, trivial⟩ rfl (bsl38_3_0_1_2 _ _ _) rfl (fun b46 => ?_)
  refine WL.convMark Tryz.underlying38 Tryz.underlying5 (OV.p rfl) rfl ?_
  refine WL.sub (Sub.refl _) (fun w h => h.sel 4 [1, 2, 3, 0] rfl) ?_
  refine WL.call (vs := [_, _, _]) Tryz.call31 ⟨OV.p rfl, OV.p rfl, OV.p rfl, trivial⟩ (store_Change hC0 g0 hT1 (leb := 0) (d := abc11) (Seq.allZ rfl : Seq K (CellsZ b46 5 (nats .u8 abc11) :: F) (some ⟨b46, 0, none⟩) 3 1 (nats .u8 abc11)) hd8 (Nat.le_refl _) (by decide) (by rw [t1]; exact fun l hl => Nat.le_trans (l1 l hl) (by decide))) rfl ?_
  rintro v2 _ ⟨C2, T2, hC2, g2, hT2, s2, t2, hv2, rfl⟩
  have s2' : C2.sem = c11.1 := by rw [s2, s0', t1]; rfl
  have t2' : T2.sem = c11.2.1 := by rw [t2, s0', t1]; rfl
  have hv2' : v2 = .int .i64 0 := by rw [hv2, s0', t1]; exact congrArg (Value.int .i64) r2
  subst hv2'
  refine WL.sg rfl rfl ?_
  refine WL.nil ?_
  refine WC.sr ?_
  refine WL.mv rfl rfl ?_
  refine WL.call (vs := [_, _]) Tryz.call28 ⟨OV.p rfl, OV.p rfl, trivial⟩ (store_Read hC2 g2 hT2 0) rfl ?_
  rintro _ _ ⟨A3, c3, T3, hT3, t3, rfl, rfl⟩
  rw [s2', t2', r3] at t3 ⊢
  refine WL.mv rfl rfl ?_
  refine WL.xt rfl rfl rfl ?_
  refine WL.xt rfl rfl rfl ?_
  refine WL.xt rfl rfl rfl ?_
  refine WL.sg rfl rfl ?_
  refine WL.sg rfl rfl ?_
  refine WL.sg rfl rfl ?_
  refine WL.nil ?_
  refine WC.sr ?_
  refine WL.mv rfl rfl ?_
  refine WL.sub (Sub.refl _) (fun w h => h.sel 4 [1, 2, 3, 0] rfl) ?_
  refine WL.call (vs := [_, _]) Tryz.call32 ⟨OV.p rfl, OV.p rfl, trivial⟩ (store_Unmap hC2 g2 hT3 0 (by rw [t3]; exact l2)) rfl ?_
  rintro v4 _ ⟨C4, T4, hC4, g4, hT4, s4, t4, hv4, rfl⟩
  have s4' : C4.sem = u11.1 := by rw [s4, s2', t3]; rfl
  have t4' : T4.sem = u11.2.1 := by rw [t4, s2', t3]; rfl
  have hv4' : v4 = .int .i64 0 := by rw [hv4, s2', t3]; exact congrArg (Value.int .i64) r4
  subst hv4'
  refine WL.sg rfl rfl ?_
  refine WL.nil ?_
  refine WC.sr ?_
  refine WL.mv rfl rfl ?_
  refine WL.call (vs := [_, _]) Tryz.call28 ⟨OV.p rfl, OV.p rfl, trivial⟩ (store_Read hC4 g4 hT4 0) rfl ?_
  rintro _ _ ⟨A5, c5, T5, hT5, t5, rfl, rfl⟩
  rw [s4', t4', r5]
  have hl5 : (T5.stands.length : Int) = 2 := by
    have e1 : T5.sem.stands = [-1, -1] := by rw [t5, s4', t4']; kernel_rfl
    have e2 : T5.stands = [-1, -1] := e1
    rw [e2]; rfl
  refine WL.mv rfl rfl ?_
  refine WL.xt rfl rfl rfl ?_
  refine WL.xt rfl rfl rfl ?_
  refine WL.xt rfl rfl rfl ?_
  refine WL.sg rfl rfl ?_
  refine WL.sg rfl rfl ?_
  refine WL.sg rfl rfl ?_
  refine WL.nil ?_
  refine WC.sr ?_
  refine WL.mv rfl rfl ?_
  refine WL.val (V.eql (OV.p rfl) (OV.p rfl)) rfl ?_
  refine WL.mv rfl rfl ?_
  refine WL.known (oj := _) rfl rfl rfl rfl ?_
  refine WL.mv rfl rfl ?_
  refine WL.known (oj := _) rfl rfl rfl rfl ?_
  refine WL.val (V.eql (OV.p rfl) (OV.p rfl)) rfl ?_
  refine WL.val (V.pickAnd (OV.p rfl) (OV.p rfl)) rfl ?_
  refine WL.mv rfl rfl ?_
  refine WL.known (oj := _) rfl rfl rfl rfl ?_
  refine WL.mv rfl rfl ?_
  refine WL.known (oj := _) rfl rfl rfl rfl ?_
  refine WL.sub (Sub.refl _) (fun w h => h.sel 5 [3, 4] rfl) ?_
  refine WL.val (V.bytesStr (xs := intsOf abc11) Tryz.underlying38 Tryz.underlying5 Tryz.underlying9 (OV.p rfl) (fun _ => by rw [← nats_intsOf]; exact Seq.up (SlA.seq rfl))) rfl ?_
  refine WL.known (oj := _) rfl rfl rfl rfl ?_
  refine WL.val (V.val_eq (v' := .bool true) (V.eqlS (OV.p rfl) (OV.p rfl)) (fun _ => by kernel_rfl)) rfl ?_
  refine WL.val (V.pickAnd (OV.p rfl) (OV.p rfl)) rfl ?_
  refine WL.mv rfl rfl ?_
  refine WL.known (oj := _) rfl rfl rfl rfl ?_
  refine WL.mv rfl rfl ?_
  refine WL.known (oj := _) rfl rfl rfl rfl ?_
  refine WL.val (V.eql (OV.p rfl) (OV.p rfl)) rfl ?_
  refine WL.val (V.pickAnd (OV.p rfl) (OV.p rfl)) rfl ?_
  refine WL.mv rfl rfl ?_
  refine WL.known (oj := _) rfl rfl rfl rfl ?_
  refine WL.mv rfl rfl ?_
  refine WL.known (oj := _) rfl rfl rfl rfl ?_
  refine WL.val (V.eql (OV.p rfl) (OV.p rfl)) rfl ?_
  refine WL.val (V.pickAnd (OV.p rfl) (OV.p rfl)) rfl ?_
  refine WL.mv rfl rfl ?_
  refine WL.known (oj := _) rfl rfl rfl rfl ?_
  refine WL.mv rfl rfl ?_
  refine WL.known (oj := _) rfl rfl rfl rfl ?_
  refine WL.val (V.eql (OV.p rfl) (OV.p rfl)) rfl ?_
  refine WL.val (V.pickAnd (OV.p rfl) (OV.p rfl)) rfl ?_
  refine WL.mv rfl rfl ?_
  refine WL.known (oj := _) rfl rfl rfl rfl ?_
  refine WL.mv rfl rfl ?_
  refine WL.known (oj := _) rfl rfl rfl rfl ?_
  refine WL.val (V.eql (OV.p rfl) (OV.p rfl)) rfl ?_
  refine WL.val (V.pickAnd (OV.p rfl) (OV.p rfl)) rfl ?_
  refine WL.mv rfl rfl ?_
  refine WL.known (oj := _) rfl rfl rfl rfl ?_
  refine WL.mv rfl rfl ?_
  refine WL.known (oj := _) rfl rfl rfl rfl ?_
  refine WL.call (vs := [_]) Tryz.call33 ⟨OV.p rfl, trivial⟩ (Tells.eq store_Lebs (by rw [hl5])) rfl ?_
  rintro _ H0 ⟨rfl, h0⟩
  subst H0
  refine WL.known (oj := _) rfl rfl rfl rfl ?_
  refine WL.val (V.eql (OV.p rfl) (OV.p rfl)) rfl ?_
  refine WL.val (V.pickAnd (OV.p rfl) (OV.p rfl)) rfl ?_
  refine WL.mv rfl rfl ?_
  refine WL.known (oj := _) rfl rfl rfl rfl ?_
  refine WL.mv rfl rfl ?_
  refine WL.known (oj := _) rfl rfl rfl rfl ?_
  refine WL.call (vs := [_]) Tryz.call34 ⟨OV.p rfl, trivial⟩ (Tells.eq (store_Cap (Geo.mays_of qm)) rfl) rfl ?_
  rintro _ H0 ⟨rfl, h0⟩
  subst H0
  refine WL.known (oj := _) rfl rfl rfl rfl ?_
  refine WL.val (V.eql (OV.p rfl) (OV.p rfl)) rfl ?_
  refine WL.val (V.pickAnd (OV.p rfl) (OV.p rfl)) rfl ?_
  refine WL.sg rfl rfl ?_
  refine WL.nil ?_
  refine WC.ret ?_
  exact BodyQ.ret (H' := F) (Res.tmp rfl rfl) (fun w h => h.sel 3 [] rfl) ⟨rfl, rfl⟩
end Go.Proofs.YtohkefolnmcjnaaGreat
namespace Go.Proofs.YtohkefolnmcjnaaGreat
open Go.Sl Go.RowKit
set_option linter.unusedVariables false
set_option linter.unusedSimpArgs false
set_option maxRecDepth 20000
section
variable {bs bd bc : Nat} {g : Geo} {C : Cw} {K : World} {F : List Assn}
theorem law11_open (hC : C.Ok) (hg : C.g = g) {lebs : Nat} (hl : 1 ≤ lebs ∧ lebs ≤ 64) (h19 : g.bl ≤ 19) : Does Tryz.prog 38 #[ptr bc 0, .int .i64 (lebs : Int)] K (C.A bc :: F)
    (fun v H' => ∃ (bd bs : Nat) (T : Stw), T.Ok g ∧ T.sem = openF C.on.sem lebs ∧ v = ptr bs 0 ∧ H' = C.on.A bc :: DvA bd bc g :: T.A bs bd g :: F) := by
  refine Does.enter Tryz.func38 rfl Tryz.ntmps38 rfl ?_
  simp only [env0, Nat.reduceAdd]
  refine WC.sr ?_
  refine WL.sg rfl rfl ?_
  refine WL.nil ?_
  refine WC.sr ?_
  refine WL.mv rfl rfl ?_
  refine WL.call (vs := [_]) Tryz.call64 ⟨OV.p rfl, trivial⟩ (chip_On) rfl ?_
  rintro _ _ rfl
  refine WL.nil ?_
  refine WC.sr ?_
  refine WL.mv rfl rfl ?_
  refine WL.call (vs := [_]) Tryz.call14 ⟨OV.p rfl, trivial⟩ (drive_NewG hC.on hg) rfl ?_
  rintro _ _ ⟨bd, rfl, rfl⟩
  refine WL.mv rfl rfl ?_
  refine WL.xt rfl rfl rfl ?_
  refine WL.xt rfl rfl rfl ?_
  refine WL.sg rfl rfl ?_
  refine WL.sg rfl rfl ?_
  refine WL.nil ?_
  refine WC.seq ?_
  refine WC.sr ?_
  refine WL.mv rfl rfl ?_
  refine WL.val (V.neq (OV.p rfl) (OV.p rfl)) rfl ?_
  refine WL.nil ?_
  refine WC.condF' rfl (by first | rfl | (simp; done) | (simp; omega)) ?_
  refine WC.skip ?_
  refine WC.sr ?_
  refine WL.mv rfl rfl ?_
  refine WL.mv rfl rfl ?_
  refine WL.call (vs := [_, _]) Tryz.call29 ⟨OV.p rfl, OV.p rfl, trivial⟩ (store_Open hC.on hg hl h19 (scanE_up hC.on.mays rfl)) rfl ?_
  rintro _ _ ⟨bs, T, hT, t0, rfl, rfl⟩
  refine WL.mv rfl rfl ?_
  refine WL.xt rfl rfl rfl ?_
  refine WL.xt rfl rfl rfl ?_
  refine WL.sg rfl rfl ?_
  refine WL.sg rfl rfl ?_
  refine WL.nil ?_
  refine WC.seq ?_
  refine WC.sr ?_
  refine WL.mv rfl rfl ?_
  refine WL.val (V.neq (OV.p rfl) (OV.p rfl)) rfl ?_
  refine WL.nil ?_
  refine WC.condF' rfl (by first | rfl | (simp; done) | (simp; omega)) ?_
  refine WC.skip ?_
  refine WC.sr ?_
  refine WL.mv rfl rfl ?_
  refine WL.sg rfl rfl ?_
  refine WL.nil ?_
  refine WC.ret ?_
  exact BodyQ.ret (H' := C.on.A bc :: DvA bd bc g :: T.A bs bd g :: F) (Res.tmp rfl rfl) (fun w h => h) ⟨bd, bs, T, hT, t0, rfl, rfl⟩
end
theorem on_same {S : Chip} (h : S.up = true) : S.on = S := by
  unfold Chip.on
  rw [← h]
theorem scan_new {g : Geo} {bad : List Int} (hg : g.mays) : (Chip.new g bad).scanF = [] := by
  rw [List.eq_nil_iff_forall_not_mem]
  intro x hx
  obtain ⟨_, _, _, d, h⟩ := (Chip.mem_scan (Chip.CM.new (bad := bad) hg 0 0).ci rfl x).1 hx
  cases h
theorem open_next {g : Geo} {bad : List Int} (hg : g.mays) (lebs : Nat) : (openF (Chip.new g bad) lebs).next = 1 := by
  show nextF (Chip.new g bad).scanF = 1
  rw [scan_new hg]; rfl
end Go.Proofs.YtohkefolnmcjnaaGreat
namespace Go.Proofs.YtohkefolnmcjnaaGreat
open Go.Sl Go.RowKit
set_option linter.unusedVariables false
set_option linter.unusedSimpArgs false
set_option maxRecDepth 20000
theorem bools_one (l : List Bool) : ∀ u ∈ bools l, u.oneCell' = true := fun u hu => by
  obtain ⟨x, _, rfl⟩ := List.mem_map.1 hu; rfl
theorem strs_one (l : List ByteArray) : ∀ u ∈ strs l, u.oneCell' = true := fun u hu => by
  obtain ⟨x, _, rfl⟩ := List.mem_map.1 hu; rfl
section
variable {K : World} {F : List Assn} {M : Mw}
theorem Mw.seqH : Seq K (M.A :: F) M.Ah M.has.length 1 (bools M.has) := Seq.inAll (A := M.hs) (l := M.parts) (.head _) (SlA.seq (by rw [bools_length, Nat.mul_one]))
theorem Mw.seqD : Seq K (M.A :: F) M.Ad M.dat.length 1 (strs M.dat) := Seq.inAll (A := M.ds) (l := M.parts) (.tail _ (.head _)) (SlA.seq (by rw [strs_length, Nat.mul_one]))
theorem ref11_Copy (hn : M.has.length ≤ 1000000) (hd : M.dat.length ≤ 1000000) : Does Tryz.prog 44 #[M.v] K (M.A :: F) (fun v H' => ∃ M2 : Mw, M2.has = M.has ∧ M2.dat = M.dat ∧ v = M2.v ∧ H' = M2.A :: M.A :: F) := by
  unfold Mw.v
  refine Does.enter Tryz.func44 rfl Tryz.ntmps44 rfl ?_
  simp only [env0, Nat.reduceAdd]
  refine WC.sr ?_
  refine WL.box (cs := [_, _]) (OV.p rfl) rfl rfl (fun b1 => ?_)
  refine WL.alloc (cs := [(.slice none 0 0), (.slice none 0 0)]) Tryz.zeroValue73 rfl rfl (fun b2 => ?_)
  refine WL.nil ?_
  refine WC.sr ?_
  refine WL.alloc (cs := [(.slice none 0 0), (.slice none 0 0)]) Tryz.zeroValue73 rfl rfl (fun b3 => ?_)
  refine WL.nil ?_
  refine WC.sr ?_
  refine WL.val (V.fieldAddr fo73_0 (OV.p rfl)) rfl ?_
  refine WL.val (V.load Tryz.isAgg71 (OV.p rfl) (fun _ => by repeat (first | exact Rd.here rfl | apply Rd.up))) rfl ?_
  refine WL.val (V.fieldAddr fo73_0 (OV.p rfl)) rfl ?_
  refine WL.val (V.load Tryz.isAgg71 (OV.p rfl) (fun _ => by repeat (first | exact Rd.here rfl | apply Rd.up))) rfl ?_
  refine WL.sub (H' := SlA (.slice none 0 0) 4 1 0 [] :: Cells b3 73 [.slice none 0 0, .slice none 0 0] :: Cells b2 73 [.slice none 0 0, .slice none 0 0] :: Cells b1 73 M.cells :: M.A :: F) (Sub.refl _) (fun w h => Sat.slNil h _ _) ?_
  refine WL.append (m := 0) (q := M.has.length) (cs := []) (news := bools M.has) Tryz.underlying71 el4 (OV.p rfl) (OV.p rfl) (by repeat (first | exact Mw.seqH | apply Seq.up)) (bools_one _) (by omega) rfl rfl (fun A8 c8 hA8 hc8 => ?_)
  refine WL.val (V.fieldAddr fo73_0 (OV.p rfl)) rfl ?_
  refine WL.store (cs := [_]) Tryz.sizeOf71 (OV.p rfl) (OV.p rfl) rfl rfl rfl (Upd.up (Upd.here rfl rfl)) ?_
  refine WL.nil ?_
  refine WC.sr ?_
  refine WL.val (V.fieldAddr fo73_1 (OV.p rfl)) rfl ?_
  refine WL.val (V.load Tryz.isAgg66 (OV.p rfl) (fun _ => by repeat (first | exact Rd.here rfl | apply Rd.up))) rfl ?_
  refine WL.val (V.fieldAddr fo73_1 (OV.p rfl)) rfl ?_
  refine WL.val (V.load Tryz.isAgg66 (OV.p rfl) (fun _ => by repeat (first | exact Rd.here rfl | apply Rd.up))) rfl ?_
  refine WL.sub (Sub.refl _) (fun w h => Sat.slNil h 9 1) ?_
  refine WL.append (m := 0) (q := M.dat.length) (cs := []) (news := strs M.dat) Tryz.underlying66 el9 (OV.p rfl) (OV.p rfl) (by repeat (first | exact Mw.seqD | apply Seq.up)) (strs_one _) (by omega) rfl rfl (fun A14 c14 hA14 hc14 => ?_)
  refine WL.val (V.fieldAddr fo73_1 (OV.p rfl)) rfl ?_
  refine WL.store (cs := [_]) Tryz.sizeOf66 (OV.p rfl) (OV.p rfl) rfl rfl rfl (Upd.up (Upd.up (Upd.here rfl rfl))) ?_
  refine WL.nil ?_
  refine WC.sr ?_
  refine WL.val (V.loadA (vs := [_, _]) ⟨Tryz.isAgg73, Tryz.sizeOf73⟩ (OV.p rfl) rfl (fun _ => by repeat (first | exact Rds.gets ⟨rfl, rfl, trivial⟩ | apply Rds.up))) rfl ?_
  refine WL.store (cs := [_, _]) Tryz.sizeOf73 (OV.p rfl) (OV.p rfl) rfl rfl rfl (Upd.up (Upd.up (Upd.up (Upd.here rfl rfl)))) ?_
  refine WL.nil ?_
  refine WC.ret ?_
  obtain ⟨M2, hM⟩ : ∃ M2 : Mw, M2 = ⟨A8, c8, A14, c14, M.has, M.dat⟩ := ⟨_, rfl⟩
  refine BodyQ.ret (H' := M2.A :: M.A :: F) (Res.one rfl (R1.cellA (vs := [_, _]) rfl ⟨Tryz.isAgg73, Tryz.sizeOf73⟩ rfl (by repeat (first | exact Rds.gets ⟨rfl, rfl, trivial⟩ | apply Rds.up)))) (fun w h => ?_) ⟨M2, by rw [hM], by rw [hM], ?_, rfl⟩
  · refine Sat.all (l := M2.parts) (H := M.A :: F) ?_
    unfold Mw.parts Mw.hs Mw.ds
    rw [hM]
    dsimp only
    have h2 : Sat K w (SlA (.slice A8 (0 + M.has.length) c8) 4 1 (0 + M.has.length) ([] ++ bools M.has) :: SlA (.slice A14 (0 + M.dat.length) c14) 9 1 (0 + M.dat.length) ([] ++ strs M.dat) :: M.A :: F) := h.sel 6 [1, 0, 5] rfl
    rw [Nat.zero_add, Nat.zero_add, List.nil_append, List.nil_append] at h2
    exact h2
  · rw [hM, Nat.zero_add, Nat.zero_add]
end
theorem strOf_natsOf (s : ByteArray) : strOfNums (intsOf (natsOf (bytesOf s))) = s := by
  have : intsOf (natsOf (bytesOf s)) = bytesOf s := by
    unfold intsOf natsOf
    rw [List.map_map]
    conv => rhs; rw [← List.map_id (bytesOf _)]
    apply List.map_congr_left
    intro x hx
    have := bytesOf_bytes _ x hx
    show ((x.toNat : Nat) : Int) = x
    omega
  rw [this, strOf_bytesOf]
theorem str_eq_iff {v : List Nat} {s : ByteArray} (h8 : Small 256 v) : ((strOfNums (intsOf v)).toList == s.toList) = decide (natsOf (bytesOf s) = v) := by
  have hl : ∀ x y : ByteArray, (x.toList == y.toList) = decide (x = y) := fun x y => by
    by_cases h : x = y
    · subst h; simp
    · rw [decide_eq_false h]
      rw [← Bool.not_eq_true, beq_iff_eq]
      intro e
      apply h
      rw [ByteArray.toList_eq, ByteArray.toList_eq] at e
      cases x; cases y
      congr 1
      exact Array.toList_inj.1 e
  rw [hl]
  apply decide_eq_decide.2
  constructor
  · intro e
    rw [← e]
    have h1 : bytesOf (strOfNums (intsOf v)) = intsOf v := strOf_inj (bytesOf_bytes _) (intsOf_bytes h8) (strOf_bytesOf _)
    rw [h1, natsOf_intsOf]
  · intro e
    rw [← e, strOf_natsOf]
end Go.Proofs.YtohkefolnmcjnaaGreat
namespace Go.Proofs.YtohkefolnmcjnaaGreat
open Go.Sl Go.RowKit
set_option linter.unusedVariables false
set_option linter.unusedSimpArgs false
set_option maxRecDepth 20000
section
variable {bs bd bc lebs L B : Nat} {g : Geo} {T : Stw} {C : Cw} {M : Mw} {m : Lm} {st : Int → Sta} {K : World} {F : List Assn}
theorem law11_reads (hC : C.Ok) (hg : C.g = g) (hT : T.Ok g) (hI : Chip.SI lebs L B C.sem st T.sem m) (hu : C.sem.up = true) {i : Nat} (hi : i < lebs) (hl : M.has.length = lebs) (hl2 : M.dat.length = lebs) :
    Does Tryz.prog 52 #[ptr bs 0, M.v, .int .i64 (i : Int)] K (C.A bc :: DvA bd bc g :: T.A bs bd g :: M.A :: F)
    (fun v H' => v = .bool (decide (M.sem i = m i)) ∧ ∃ T' : Stw, T'.Ok g ∧ T'.sem = T.sem ∧ H' = C.A bc :: DvA bd bc g :: T'.A bs bd g :: M.A :: F) := by
  have hti : (i : Int).toNat = i := by omega
  obtain ⟨G, hG⟩ : ∃ G, G = sRead C.sem T.sem (i : Int) := ⟨_, rfl⟩
  have hr := hI.ready hi
  have hcase : (m i = none ∧ G = (⟨5, [], 0⟩, T.sem) ∧ T.sem.at' (i : Int) < 0) ∨ (∃ v N, m i = some v ∧ Small 256 v ∧ G = (⟨0, v, N⟩, T.sem) ∧ 0 ≤ T.sem.at' (i : Int)) := by
    rw [hG]
    cases hm : m i with
    | none =>
      have := hI.read_none hi hm
      exact .inl ⟨rfl, this.1, this.2⟩
    | some v =>
      obtain ⟨⟨N, _, h2⟩, h3⟩ := hI.read_some hu hi hm
      obtain ⟨hd, h4, _, _⟩ := hI.some_ i hi v hm
      have h5 := hI.ci.stat _ h4.lo h4.hi h4.un
      rw [h4.st] at h5
      exact .inr ⟨v, N, rfl, h5.small, h2, h3⟩
  have hG2 : G.2 = T.sem := by
    rcases hcase with ⟨_, h, _⟩ | ⟨v, N, _, _, h, _⟩ <;> rw [h]
  have hG5 : G.1.err = 5 → G.1.d = [] ∧ G.1.n = 0 := fun h => by
    rcases hcase with ⟨_, h2, _⟩ | ⟨v, N, _, _, h2, _⟩
    · rw [h2]; exact ⟨rfl, rfl⟩
    · rw [h2] at h; exact absurd h (by show ¬ (0 : Int) = 5; decide)
  obtain ⟨hb, hhb⟩ : ∃ hb, hb = M.has.getD i false := ⟨_, rfl⟩
  obtain ⟨sd, hsd⟩ : ∃ sd, sd = M.dat.getD i ByteArray.empty := ⟨_, rfl⟩
  have hsem : M.sem i = if hb then some (natsOf (bytesOf sd)) else none := by unfold Mw.sem; rw [hhb, hsd]
  have hrh : ∀ {H : List Assn}, Rd K (M.A :: H) (M.Ah.map (·.add ((i : Int).toNat * 1))) (.bool hb) := fun {H} => by rw [hti, hhb]; exact Mw.rdH (by omega)
  have hrd : ∀ {H : List Assn}, Rd K (M.A :: H) (M.Ad.map (·.add ((i : Int).toNat * 1))) (.string sd) := fun {H} => by rw [hti, hsd]; exact Mw.rdD (by omega)
  unfold Mw.v
  refine Does.enter Tryz.func52 rfl Tryz.ntmps52 rfl ?_
  simp only [env0, Nat.reduceAdd]
  refine WC.sr ?_
  refine WL.box (cs := [_, _]) (OV.p rfl) rfl rfl (fun b4 => ?_)
  refine WL.sg rfl rfl ?_
  refine WL.nil ?_
  refine WC.sr ?_
  refine WL.mv rfl rfl ?_
  refine WL.mv rfl rfl ?_
  refine WL.sub (Sub.refl _) (fun w h => h.sel 4 [1, 2, 3, 0] rfl) ?_
  refine WL.call (vs := [_, _]) Tryz.call28 ⟨OV.p rfl, OV.p rfl, trivial⟩ (store_Read hC hg hT (i : Int)) rfl ?_
  rintro _ _ ⟨A9, c9, T3, hT3, t3, rfl, rfl⟩
  rw [← hG] at t3 ⊢
  rw [hG2] at t3
  have hsG : ∀ {H : List Assn}, Seq K (SlA (.slice A9 G.1.d.length c9) 5 1 G.1.d.length (nats .u8 G.1.d) :: H) A9 G.1.d.length 1 (ints .u8 (intsOf G.1.d)) := fun {H} => by rw [← nats_intsOf]; exact SlA.seq (by rw [nats_length, Nat.mul_one])
  refine WL.sub (H' := T3.A bs bd g :: C.A bc :: DvA bd bc g :: SlA (.slice A9 G.1.d.length c9) 5 1 G.1.d.length (nats .u8 G.1.d) :: Cells b4 73 M.cells :: M.A :: F) (Sub.refl _) (fun w h => h.sel 5 [3, 1, 2, 0, 4] rfl) ?_
  refine WL.mv rfl rfl ?_
  refine WL.xt rfl rfl rfl ?_
  refine WL.xt rfl rfl rfl ?_
  refine WL.xt rfl rfl rfl ?_
  refine WL.sg rfl rfl ?_
  refine WL.sg rfl rfl ?_
  refine WL.sg rfl rfl ?_
  refine WL.nil ?_
  refine WC.seq ?_
  refine WC.sr ?_
  refine WL.val (V.fieldAddr fo73_0 (OV.p rfl)) rfl ?_
  refine WL.val (V.load Tryz.isAgg71 (OV.p rfl) (fun _ => by repeat (first | exact Rd.here rfl | apply Rd.up))) rfl ?_
  refine WL.mv rfl rfl ?_
  refine WL.val (V.idxS st71 (OV.p rfl) (OV.p rfl) (fun _ => by omega) (fun _ => by repeat (first | exact hrh | apply Rd.up))) rfl ?_
  refine WL.val (V.load Tryz.isAgg4 (OV.p rfl) (fun _ => by repeat (first | exact hrh | apply Rd.up))) rfl ?_
  refine WL.val (V.not (OV.p rfl)) rfl ?_
  refine WL.nil ?_
  refine WC.cond rfl (fun hc0 => ?_) (fun hc0 => ?_)
  ·simp only [Bool.not_eq_true', Bool.not_eq_false'] at hc0
   have h0 := hc0
   refine WC.sr ?_
   refine WL.mv rfl rfl ?_
   refine WL.val (V.eql (OV.p rfl) (OV.p rfl)) rfl ?_
   refine WL.mv rfl rfl ?_
   refine WL.valG (oj := _) rfl rfl rfl GC.t (V.move (OV.p rfl)) rfl ?_
   refine WL.valG (oj := _) rfl rfl rfl GC.t (V.len (t := 38) Tryz.runUnderlying38 (OV.g rfl id)) rfl ?_
   refine WL.valG (oj := _) rfl rfl rfl GC.t (V.move (OV.p rfl)) rfl ?_
   refine WL.valG (oj := _) rfl rfl rfl GC.t (V.addI (OV.g rfl id) (OV.g rfl id) (fun hc => by have h5 := hG5 (by simpa using hc); rw [h5.1, h5.2]; decide)) rfl ?_
   refine WL.valG (oj := _) rfl rfl rfl GC.t (V.eql (OV.g rfl id) (OV.p rfl)) rfl ?_
   refine WL.val (V.pickAnd (OV.p rfl) (OV.g rfl id)) rfl ?_
   refine WL.mv rfl rfl ?_
   refine WL.valG (oj := _) rfl rfl rfl GC.t (V.move (OV.p rfl)) rfl ?_
   refine WL.valG (oj := _) rfl rfl rfl GC.t (V.move (OV.p rfl)) rfl ?_
   refine WL.callG (oj := _) (vs := [_, _]) rfl rfl rfl GC.t Tryz.call35 ⟨OV.g rfl id, OV.g rfl id, trivial⟩ (fun hg => store_Has) rfl ?_
   refine WL.valG (oj := _) rfl rfl rfl GC.t (V.not (OV.g rfl id)) rfl ?_
   refine WL.val (V.pickAnd (OV.p rfl) (OV.g rfl id)) rfl ?_
   refine WL.sg rfl rfl ?_
   refine WL.nil ?_
   refine WC.ret ?_
   refine BodyQ.ret (H' := C.A bc :: DvA bd bc g :: T3.A bs bd g :: M.A :: F) (Res.tmp rfl rfl) (fun w h => h.sel 6 [1, 2, 0, 5] rfl) ⟨?_, T3, hT3, t3, rfl⟩
   rw [hsem, h0, t3, hr]
   rcases hcase with ⟨h1, h2, h3⟩ | ⟨v, N, h1, _, h2, h3⟩
   · rw [h1, h2, decide_eq_false (show ¬ (0 ≤ T.sem.at' (i : Int)) by omega)]; rfl
   · rw [h1, h2]; simp
  ·simp only [Bool.not_eq_true', Bool.not_eq_false'] at hc0
   have h0 := hc0
   refine WC.skip ?_
   refine WC.seq ?_
   refine WC.regionQ (by kernel_rfl) (by kernel_rfl) ?_
   refine WQ.val (V.move (OV.p rfl)) rfl ?_
   refine WQ.val (V.eql (OV.p rfl) (OV.p rfl)) rfl ?_
   refine WQ.val (V.move (OV.p rfl)) rfl ?_
   refine WQ.valG (oj := _) rfl rfl rfl GC.t (V.move (OV.p rfl)) rfl ?_
   refine WQ.valG (oj := _) rfl rfl rfl GC.t (V.bytesStr (xs := intsOf G.1.d) Tryz.underlying38 Tryz.underlying5 Tryz.underlying9 (OV.g rfl id) (fun _ => by repeat (first | exact hsG | apply Seq.up))) rfl ?_
   refine WQ.valG (oj := _) rfl rfl rfl GC.t (V.fieldAddr fo73_1 (OV.p rfl)) rfl ?_
   refine WQ.valG (oj := _) rfl rfl rfl GC.t (V.load Tryz.isAgg66 (OV.g rfl id) (fun _ => by repeat (first | exact Rd.here rfl | apply Rd.up))) rfl ?_
   refine WQ.valG (oj := _) rfl rfl rfl GC.t (V.move (OV.p rfl)) rfl ?_
   refine WQ.valG (oj := _) rfl rfl rfl GC.t (V.idxS st66 (OV.g rfl id) (OV.g rfl id) (fun _ => by omega) (fun _ => by repeat (first | exact hrd | apply Rd.up))) rfl ?_
   refine WQ.valG (oj := _) rfl rfl rfl GC.t (V.load Tryz.isAgg9 (OV.g rfl id) (fun _ => by repeat (first | exact hrd | apply Rd.up))) rfl ?_
   refine WQ.valG (oj := _) rfl rfl rfl GC.t (V.eqlS (OV.g rfl id) (OV.g rfl id)) rfl ?_
   refine WQ.val (V.pickAnd (OV.p rfl) (OV.g rfl id)) rfl ?_
   refine WQ.val (V.move (OV.p rfl)) rfl ?_
   refine WQ.valG (oj := _) rfl rfl rfl GC.t (V.move (OV.p rfl)) rfl ?_
   refine WQ.valG (oj := _) rfl rfl rfl GC.t (V.geq (OV.g rfl id) (OV.p rfl)) rfl ?_
   refine WQ.val (V.pickAnd (OV.p rfl) (OV.g rfl id)) rfl ?_
   refine WQ.val (V.move (OV.p rfl)) rfl ?_
   refine WQ.valG (oj := _) rfl rfl rfl GC.t (V.move (OV.p rfl)) rfl ?_
   refine WQ.valG (oj := _) rfl rfl rfl GC.t (V.move (OV.p rfl)) rfl ?_
   refine WQ.callG (oj := _) (vs := [_, _]) rfl rfl rfl GC.t Tryz.call35 ⟨OV.g rfl id, OV.g rfl id, trivial⟩ (fun hg => store_Has) rfl ?_
   refine WQ.val (V.pickAnd (OV.p rfl) (OV.g rfl id)) rfl ?_
   refine WQ.val (V.assign (OV.p rfl)) rfl ?_
   refine WQ.nil ?_
   refine WC.ret ?_
   refine BodyQ.ret (H' := C.A bc :: DvA bd bc g :: T3.A bs bd g :: M.A :: F) (Res.tmp rfl rfl) (fun w h => h.sel 6 [1, 2, 0, 5] rfl) ⟨?_, T3, hT3, t3, rfl⟩
   rw [hsem, h0, t3, hr]
   rcases hcase with ⟨h1, h2, h3⟩ | ⟨v, N, h1, h8, h2, h3⟩
   · rw [h1, h2]; simp
   · rw [h1, h2, str_eq_iff h8, decide_eq_true h3]
     simp
theorem law11_all (hC : C.Ok) (hg : C.g = g) (hT : T.Ok g) (hI : Chip.SI lebs L B C.sem st T.sem m) (hu : C.sem.up = true) (hl : M.has.length = lebs) (hl2 : M.dat.length = lebs) (hlb : lebs ≤ 1000) :
    Does Tryz.prog 47 #[ptr bs 0, M.v] K (C.A bc :: DvA bd bc g :: T.A bs bd g :: M.A :: F)
    (fun v H' => ∃ r : Bool, v = .bool r ∧ (r = true ↔ ∀ i, i < lebs → M.sem i = m i) ∧ ∃ T' : Stw, T'.Ok g ∧ T'.sem = T.sem ∧ H' = C.A bc :: DvA bd bc g :: T'.A bs bd g :: M.A :: F) := by
  unfold Mw.v
  refine Does.enter Tryz.func47 rfl Tryz.ntmps47 rfl ?_
  simp only [env0, Nat.reduceAdd]
  refine WC.sr ?_
  refine WL.box (cs := [_, _]) (OV.p rfl) rfl rfl (fun b3 => ?_)
  refine WL.sg rfl rfl ?_
  refine WL.nil ?_
  refine WC.seq ?_
  refine WC.sr ?_
  refine WL.sg rfl rfl ?_
  refine WL.nil ?_
  refine WC.block ?_
  refine WC.loop (σ := Nat × Stw) (fun s => [(0, ptr bs 0), (3, ptr b3 0), (5, .int .i64 (s.1 : Int))]) (fun s => C.A bc :: DvA bd bc g :: s.2.A bs bd g :: M.A :: Cells b3 73 M.cells :: F) (fun s => s.1 ≤ lebs ∧ s.2.Ok g ∧ s.2.sem = T.sem ∧ ∀ i, i < s.1 → M.sem i = m i) (fun s => lebs - s.1) (0, T) ⟨Nat.zero_le _, hT, rfl, fun i hi => absurd hi (Nat.not_lt_zero _)⟩ (.cons rfl (.cons rfl (.cons rfl (.nil _)))) (fun w h => h.sel 5 [1, 2, 3, 4, 0] rfl) ?_
  rintro ⟨i, T2⟩ ⟨hi, hT2, e2, hall⟩
  dsimp only at hi hT2 e2 hall ⊢
  refine WC.seq ?_
  refine WC.sr ?_
  refine WL.mv rfl rfl ?_
  refine WL.val (V.fieldAddr fo73_0 (OV.p rfl)) rfl ?_
  refine WL.val (V.load Tryz.isAgg71 (OV.p rfl) (fun _ => by repeat (first | exact Rd.here rfl | apply Rd.up))) rfl ?_
  refine WL.val (V.len (t := 71) Tryz.runUnderlying71 (OV.p rfl)) rfl ?_
  refine WL.val (V.lss (OV.p rfl) (OV.p rfl)) rfl ?_
  refine WL.nil ?_
  refine WC.cond rfl (fun hc0 => ?_) (fun hc0 => ?_)
  ·simp only [decide_eq_true_eq, decide_eq_false_iff_not] at hc0
   have hil : i < lebs := by omega
   refine WC.skip ?_
   refine WC.seq ?_
   refine WC.block ?_
   refine WC.sr ?_
   refine WL.mv rfl rfl ?_
   refine WL.val (V.loadA (vs := [_, _]) ⟨Tryz.isAgg73, Tryz.sizeOf73⟩ (OV.p rfl) rfl (fun _ => by repeat (first | exact Rds.gets ⟨rfl, rfl, trivial⟩ | apply Rds.up))) rfl ?_
   refine WL.mv rfl rfl ?_
   refine WL.call (vs := [_, _, _]) Tryz.call52 ⟨OV.p rfl, OV.p rfl, OV.p rfl, trivial⟩ (law11_reads (M := M) hC hg hT2 (by rw [e2]; exact hI) hu hil hl hl2) rfl ?_
   rintro _ _ ⟨rfl, T3, hT3, t3, rfl⟩
   refine WL.val (V.not (OV.p rfl)) rfl ?_
   refine WL.nil ?_
   refine WC.cond rfl (fun hc1 => ?_) (fun hc1 => ?_)
   ·skip
    have h1 := hc1
    simp only [Bool.not_eq_true', Bool.not_eq_false', decide_eq_true_eq, decide_eq_false_iff_not] at h1
    refine WC.sr ?_
    refine WL.sg rfl rfl ?_
    refine WL.nil ?_
    refine WC.ret ?_
    exact BodyQ.ret (H' := C.A bc :: DvA bd bc g :: T3.A bs bd g :: M.A :: F) (Res.tmp rfl rfl) (fun w h => h.sel 5 [0, 1, 2, 3] rfl) ⟨false, rfl, ⟨fun h => (by cases h), fun h => absurd (h i hil) h1⟩, T3, hT3, t3.trans e2, rfl⟩
   ·skip
    have h1 := hc1
    simp only [Bool.not_eq_true', Bool.not_eq_false', decide_eq_true_eq, decide_eq_false_iff_not] at h1
    refine WC.skip ?_
    refine WC.region ?_
    refine WL.mv rfl rfl ?_
    refine WL.ad rfl rfl rfl ?_
    refine WL.sg rfl rfl ?_
    refine WL.nil ?_
    refine ⟨rfl, ?_⟩
    exact ⟨(i + 1, T3), ⟨hil, hT3, t3.trans e2, fun j hj => by
      by_cases hji : j = i
      · rw [hji]; exact h1
      · exact hall j (by omega)⟩, (by show lebs - (i + 1) < lebs - i; omega), .cons rfl (.cons rfl (.cons (look_eq rfl (by simp)) (.nil _))), fun w h => h⟩
  ·simp only [decide_eq_true_eq, decide_eq_false_iff_not] at hc0
   refine WC.exit ?_
   refine WC.sr ?_
   refine WL.sg rfl rfl ?_
   refine WL.nil ?_
   refine WC.ret ?_
   obtain rfl : i = lebs := by omega
   exact BodyQ.ret (H' := C.A bc :: DvA bd bc g :: T2.A bs bd g :: M.A :: F) (Res.tmp rfl rfl) (fun w h => h.sel 5 [0, 1, 2, 3] rfl) ⟨true, rfl, ⟨fun _ => hall, fun _ => rfl⟩, T2, hT2, e2, rfl⟩
end
end Go.Proofs.YtohkefolnmcjnaaGreat
namespace Go.Proofs.YtohkefolnmcjnaaGreat
open Go.Sl Go.ChangeShapes Go.WideShapes Go.ChangeAt Go.RowKit
set_option linter.unusedVariables false
set_option linter.unusedSimpArgs false
set_option maxRecDepth 20000
structure Op11 where
  (kind leb block n keep : Int)
  dA : Option Addr
  dc : Nat
  dx : List Nat
namespace Op11
abbrev cells (o : Op11) : List Value := [.int .i64 o.kind, .int .i64 o.leb, .int .i64 o.block, .int .i64 o.n, .int .i64 o.keep, .slice o.dA o.dx.length o.dc]
structure Ok (K : World) (F : List Assn) (o : Op11) : Prop where
  n : o.n ≤ 9223372036854775807
  kp : -9223372036854775808 ≤ o.keep ∧ o.keep ≤ 9223372036854775807
  data : Seq K F o.dA o.dx.length 1 (nats .u8 o.dx)
  d8 : Small 256 o.dx
  dle : o.dx.length ≤ o.dc
theorem Ok.up {K : World} {F : List Assn} {o : Op11} {X : Assn} (h : o.Ok K F) : o.Ok K (X :: F) := ⟨h.n, h.kp, h.data.up, h.d8, h.dle⟩
end Op11
structure Script11 (K : World) (F : List Assn) (A : Option Addr) (m : Nat) (l : List Op11) : Prop where
  seq : Seq K F A m 6 (l.map Op11.cells).flatten
  len : l.length = m
  ok : ∀ o ∈ l, o.Ok K F
theorem Script11.up {K : World} {F : List Assn} {A : Option Addr} {m : Nat} {l : List Op11} {X : Assn} (h : Script11 K F A m l) : Script11 K (X :: F) A m l := ⟨h.seq.up, h.len, fun o ho => (h.ok o ho).up⟩
theorem flatten_at11 {s : Nat} : ∀ {l : List (List Value)}, (∀ x ∈ l, x.length = s) → ∀ {i j : Nat} {x : List Value} {v : Value}, l[i]? = some x → x[j]? = some v → l.flatten[i * s + j]? = some v
  | [], _, _, _, _, _, h, _ => by simp at h
  | y :: l, hs, 0, j, x, v, h, hj => by
    simp at h; subst h
    rw [List.flatten_cons, Nat.zero_mul, Nat.zero_add, List.getElem?_append_left]
    · exact hj
    · rcases Nat.lt_or_ge j y.length with h | h
      · exact h
      · rw [List.getElem?_eq_none h] at hj; cases hj
  | y :: l, hs, i + 1, j, x, v, h, hj => by
    have hy := hs y (.head _)
    rw [List.flatten_cons, List.getElem?_append_right (by rw [hy, Nat.add_mul]; omega), hy, show (i + 1) * s + j - s = i * s + j by rw [Nat.add_mul]; omega]
    exact flatten_at11 (fun z hz => hs z (.tail _ hz)) (by simpa using h) hj
theorem Script11.elem {K : World} {F : List Assn} {A : Option Addr} {m : Nat} {l : List Op11} (h : Script11 K F A m l) {i : Nat} {o : Op11} (hi : l[i]? = some o) {j : Nat} {v : Value} (hj : o.cells[j]? = some v) : Rd K F (A.map (·.add (i * 6 + j))) v :=
  h.seq.rd _ _ (flatten_at11 (fun x hx => by obtain ⟨o, _, rfl⟩ := List.mem_map.1 hx; rfl) (by rw [List.getElem?_map, hi]; rfl) hj)
def few11 (l : List Op11) : Bool := decide ((l.length : Int) ≤ 80) && l.all fun o => !decide (200 < (o.dx.length : Int))
theorem law11_few {A : Option Addr} {m cap : Nat} {l : List Op11} {K : World} {F : List Assn} (hs : Script11 K F A m l) : Tells Tryz.prog 40 #[.slice A m cap] K F (.bool (few11 l)) := by
  have hll := hs.len
  refine Does.enter Tryz.func40 rfl Tryz.ntmps40 rfl ?_
  simp only [env0, Nat.reduceAdd]
  refine WC.sr ?_
  refine WL.sg rfl rfl ?_
  refine WL.nil ?_
  refine WC.seq ?_
  refine WC.sr ?_
  refine WL.mv rfl rfl ?_
  refine WL.val (V.len (t := 69) Tryz.runUnderlying69 (OV.p rfl)) rfl ?_
  refine WL.val (V.gtr (OV.p rfl) (OV.p rfl)) rfl ?_
  refine WL.nil ?_
  refine WC.cond rfl (fun hc0 => ?_) (fun hc0 => ?_)
  ·simp only [decide_eq_true_eq, decide_eq_false_iff_not, Int.not_lt] at hc0
   refine WC.sr ?_
   refine WL.sg rfl rfl ?_
   refine WL.nil ?_
   refine WC.ret ?_
   refine BodyQ.ret (H' := F) (Res.tmp rfl rfl) (fun w h => by repeat (first | exact h | replace h := h.tail)) ⟨?_, rfl⟩
   unfold few11
   rw [decide_eq_false (by omega)]; rfl
  ·simp only [decide_eq_true_eq, decide_eq_false_iff_not, Int.not_lt] at hc0
   refine WC.skip ?_
   refine WC.seq ?_
   refine WC.sr ?_
   refine WL.sg rfl rfl ?_
   refine WL.nil ?_
   refine WC.block ?_
   refine WC.loop (σ := Nat) (fun i => [(0, .slice A m cap), (3, .int .i64 (i : Int))]) (fun i => F) (fun i => i ≤ m ∧ (l.take i).all (fun o => !decide (200 < (o.dx.length : Int))) = true) (fun i => m - i) 0 ⟨Nat.zero_le _, rfl⟩ (.cons rfl (.cons rfl (.nil _))) (fun w h => h) ?_
   rintro i ⟨hi, hall⟩
   refine WC.seq ?_
   refine WC.sr ?_
   refine WL.mv rfl rfl ?_
   refine WL.mv rfl rfl ?_
   refine WL.val (V.len (t := 69) Tryz.runUnderlying69 (OV.p rfl)) rfl ?_
   refine WL.val (V.lss (OV.p rfl) (OV.p rfl)) rfl ?_
   refine WL.nil ?_
   refine WC.cond rfl (fun hc1 => ?_) (fun hc1 => ?_)
   ·try simp only [decide_eq_true_eq, decide_eq_false_iff_not, Bool.and_eq_true, Bool.or_eq_true, Bool.and_eq_false_iff, Bool.or_eq_false_iff, Bool.not_eq_true', Bool.not_eq_false', Bool.not_eq_true, Bool.not_eq_false, Int.not_lt, Int.not_le] at hc1
    refine WC.skip ?_
    refine WC.seq ?_
    refine WC.block ?_
    refine WC.seq ?_
    obtain ⟨o, ho⟩ : ∃ o, l[i]? = some o := ⟨_, List.getElem?_eq_getElem (by omega)⟩
    have hr4 : Rd K F (A.map (·.add (i * 6 + 5))) (.slice o.dA o.dx.length o.dc) := hs.elem ho rfl
    have hr0 : Rd K F (A.map (·.add (i * 6))) (.int .i64 o.kind) := hs.elem (j := 0) ho rfl
    have hti : (i : Int).toNat = i := by omega
    refine WC.region ?_
    refine WL.mv rfl rfl ?_
    refine WL.mv rfl rfl ?_
    refine WL.val (V.val_eq (v' := sp A (i * 6)) (V.idxS st69 (OV.p rfl) (OV.p rfl) (fun hc => by omega) (fun hc => by rw [hti]; exact hr0)) (fun _ => by rw [hti])) rfl ?_
    refine WL.val (V.fieldS (k' := i * 6 + 5) fo76_5 (OV.p rfl) (fun _ => hr4)) rfl ?_
    refine WL.val (V.load Tryz.isAgg38 (OV.p rfl) (fun _ => hr4)) rfl ?_
    refine WL.val (V.len (t := 38) Tryz.runUnderlying38 (OV.p rfl)) rfl ?_
    refine WL.val (V.gtr (OV.p rfl) (OV.p rfl)) rfl ?_
    refine WL.nil ?_
    refine WC.cond rfl (fun hc2 => ?_) (fun hc2 => ?_)
    ·skip
     have h2 := hc2
     refine WC.sr ?_
     refine WL.sg rfl rfl ?_
     refine WL.nil ?_
     refine WC.ret ?_
     refine BodyQ.ret (H' := F) (Res.tmp rfl rfl) (fun w h => by repeat (first | exact h | replace h := h.tail)) ⟨?_, rfl⟩
     have h3 : l.all (fun o => !decide (200 < (o.dx.length : Int))) = false := by
       rw [← Bool.not_eq_true]
       intro h
       have := List.all_eq_true.1 h o (List.mem_of_getElem? ho)
       rw [h2] at this
       cases this
     unfold few11
     rw [h3, Bool.and_false]
    ·skip
     have h2 := hc2
     refine WC.skip ?_
     refine WC.region ?_
     refine WL.mv rfl rfl ?_
     refine WL.ad rfl rfl rfl ?_
     refine WL.sg rfl rfl ?_
     refine WL.nil ?_
     refine ⟨rfl, ?_⟩
     refine ⟨i + 1, ⟨by show i + 1 ≤ m; omega, ?_⟩, (by show m - (i + 1) < m - i; omega), .cons rfl (.cons (look_eq rfl (by simp)) (.nil _)), fun w h => h⟩
     rw [List.take_add_one, ho, List.all_append, hall]
     show ((!decide (200 < (o.dx.length : Int))) && true) = true
     rw [h2]; rfl
   ·try simp only [decide_eq_true_eq, decide_eq_false_iff_not, Bool.and_eq_true, Bool.or_eq_true, Bool.and_eq_false_iff, Bool.or_eq_false_iff, Bool.not_eq_true', Bool.not_eq_false', Bool.not_eq_true, Bool.not_eq_false, Int.not_lt, Int.not_le] at hc1
    refine WC.exit ?_
    refine WC.sr ?_
    refine WL.sg rfl rfl ?_
    refine WL.nil ?_
    refine WC.ret ?_
    refine BodyQ.ret (H' := F) (Res.tmp rfl rfl) (fun w h => by repeat (first | exact h | replace h := h.tail)) ⟨?_, rfl⟩
    obtain rfl : i = m := by omega
    rw [List.take_of_length_le (by omega)] at hall
    unfold few11
    rw [hall, decide_eq_true (by omega)]; rfl
set_option maxRecDepth 100000 in
theorem open_op11 {H : Type} {enc : TypeId × Value → H} {W : World} {n : Nat} {cs : List Value} {y : DataW H × List MemPlace} (hl : cs.length = 6) (h : DataW.trod enc Tryz.prog W 0 (fun _ => true) true n 76 cs = some y) :
    ∃ o : Op11, cs = o.cells ∧ o.Ok W [Old W] := by
  obtain ⟨xs, k, _, _, _, hxl, hf⟩ := DataW.trod_struct Tryz.underlying76 h
  have c1 : Tryz.prog.cellsOf 3 = 1 := by kernel_rfl
  have c2 : Tryz.prog.cellsOf 38 = 1 := by kernel_rfl
  have c4 : Tryz.prog.cellsOf 5 = 1 := by kernel_rfl
  match cs, hl, xs, hxl with
  | [v0, v1, v2, v3, v4, v5], _, [x0, x1, x2, x3, x4, x5], _ =>
    have h0 : DataW.trod enc Tryz.prog W 0 (fun _ => true) true k 3 (List.take (Tryz.prog.cellsOf 3) (List.drop 0 [v0, v1, v2, v3, v4, v5])) = some x0 := hf 0 _ rfl
    rw [c1] at h0
    have h1 : DataW.trod enc Tryz.prog W 0 (fun _ => true) true k 3 (List.take (Tryz.prog.cellsOf 3) (List.drop 1 [v0, v1, v2, v3, v4, v5])) = some x1 := hf 1 _ rfl
    rw [c1] at h1
    have h2 : DataW.trod enc Tryz.prog W 0 (fun _ => true) true k 3 (List.take (Tryz.prog.cellsOf 3) (List.drop 2 [v0, v1, v2, v3, v4, v5])) = some x2 := hf 2 _ rfl
    rw [c1] at h2
    have h3 : DataW.trod enc Tryz.prog W 0 (fun _ => true) true k 3 (List.take (Tryz.prog.cellsOf 3) (List.drop 3 [v0, v1, v2, v3, v4, v5])) = some x3 := hf 3 _ rfl
    rw [c1] at h3
    have h4 : DataW.trod enc Tryz.prog W 0 (fun _ => true) true k 3 (List.take (Tryz.prog.cellsOf 3) (List.drop 4 [v0, v1, v2, v3, v4, v5])) = some x4 := hf 4 _ rfl
    rw [c1] at h4
    have h5 : DataW.trod enc Tryz.prog W 0 (fun _ => true) true k 38 (List.take (Tryz.prog.cellsOf 38) (List.drop 5 [v0, v1, v2, v3, v4, v5])) = some x5 := hf 5 _ rfl
    rw [c2] at h5
    obtain ⟨i0, e0, _⟩ := open_intTrod Tryz.underlying3 h0
    obtain ⟨i1, e1, _⟩ := open_intTrod Tryz.underlying3 h1
    obtain ⟨i2, e2, b2⟩ := open_intTrod Tryz.underlying3 h2
    obtain ⟨i3, e3, b3⟩ := open_intTrod Tryz.underlying3 h3
    obtain ⟨i4, e4, b4⟩ := open_intTrod Tryz.underlying3 h4
    obtain ⟨A5, m5, q5, y5, e5, s5, b5, l5, k5, w5⟩ := open_intsTrod Tryz.underlying38 Tryz.underlying5 c4 h5
    simp at e0 e1 e2 e3 e4 e5
    subst e0 e1 e2 e3 e4 e5 l5
    have hb5 := isBytes_of b5
    refine ⟨⟨i0, i1, i2, i3, i4, A5, q5, natsOf y5⟩, ?_, b3.2, b4, ?_, natsOf_small hb5, ?_⟩
    · unfold Op11.cells; rw [natsOf_length]
    · rw [natsOf_length, ← ints_natsOf hb5]; exact s5
    · rw [natsOf_length]; exact k5
theorem ops_of11 {W : World} : ∀ {css : List (List Value)}, (∀ cs ∈ css, ∃ o : Op11, cs = o.cells ∧ o.Ok W [Old W]) → ∃ sc : List Op11, css = sc.map Op11.cells ∧ ∀ o ∈ sc, o.Ok W [Old W]
  | [], _ => ⟨[], rfl, fun o h => (by cases h)⟩
  | cs :: css, h => by
    obtain ⟨o, rfl, ho⟩ := h cs (.head _)
    obtain ⟨sc, rfl, hsc⟩ := ops_of11 fun x hx => h x (.tail _ hx)
    exact ⟨o :: sc, rfl, fun x hx => (List.mem_cons.1 hx).elim (fun e => e ▸ ho) (hsc x)⟩
set_option maxRecDepth 100000 in
theorem open_script11 {H : Type} {enc : TypeId × Value → H} {W : World} {r : Reach} {base : Nat} {v : Value} {d : DataW H} {p : List MemPlace} (hval : Value.okWide Tryz.prog W r base 69 v)
    (h : DataW.Trod enc Tryz.prog W 0 (fun _ => true) true 69 v d p) : ∃ A m cap sc, v = .slice A m cap ∧ Script11 W [Old W] A m sc := by
  obtain ⟨A, m, cap, css, rfl, hl, _, hcs, hs⟩ := open_elems (s := 6) Tryz.underlying69 (by kernel_rfl) hval h
  obtain ⟨sc, rfl, hsc⟩ := ops_of11 (W := W) fun cs hc => by
    obtain ⟨h1, n, y, h2⟩ := hcs cs hc
    exact open_op11 h1 h2
  exact ⟨A, m, cap, sc, rfl, hs, by simpa using hl, hsc⟩
end Go.Proofs.YtohkefolnmcjnaaGreat
