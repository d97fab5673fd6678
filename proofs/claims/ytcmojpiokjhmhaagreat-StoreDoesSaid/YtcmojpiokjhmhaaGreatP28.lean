import Derived.Test.YtcmojpiokjhmhaaGreatP25
import Derived.Test.YtcmojpiokjhmhaaGreatP17
import Derived.Test.YtcmojpiokjhmhaaGreatP26
import Derived.Test.YtcmojpiokjhmhaaGreatP27
import Derived.Test.YtcmojpiokjhmhaaGreatP4
namespace Go.Proofs.YtcmojpiokjhmhaaGreat
open Go.Sl Go.RowKit
set_option linter.unusedVariables false
set_option linter.unusedSimpArgs false
set_option maxRecDepth 20000
section
variable {K : World} {F : List aj}
end
theorem wW (g : Geo) (K : World) (F : List aj) : aJ Tryz.prog 8 #[g.v] K F (.bool (g.may && decide (g.room ≤ 32) && decide (g.bl ≤ 12) && decide (g.pg ≤ 5))) := by
  refine Does.enter Tryz.func8 rfl Tryz.ntmps8 rfl ?_
  simp only [aH, Nat.reduceAdd]
  refine WC.sr ?_
  refine WL.box (cs := [_, _, _, _, _]) (OV.p rfl) rfl rfl (fun b1 => ?_)
  refine WL.sg rfl rfl (WL.nil (WC.sr ?_))
  refine WL.val (V.bB (vs := [_, _, _, _, _]) ⟨Tryz.isAgg23, Tryz.sizeOf23⟩ (OV.p rfl) rfl (fun _ => by repeat (first | exact bA.gets ⟨rfl, rfl, rfl, rfl, rfl, trivial⟩ | apply bA.up))) rfl ?_
  refine WL.call (vs := [_]) Tryz.call43 ⟨OV.p rfl, trivial⟩ (Jf g _ _) rfl ?_
  rintro _ H0 ⟨rfl, h0⟩
  subst H0
  refine WL.mv rfl rfl ?_
  refine WL.av (oj := _) rfl rfl rfl GC.t (V.bB (vs := [_, _, _, _, _]) ⟨Tryz.isAgg23, Tryz.sizeOf23⟩ (OV.p rfl) rfl (fun _ => by repeat (first | exact bA.gets ⟨rfl, rfl, rfl, rfl, rfl, trivial⟩ | apply bA.up))) rfl ?_
  refine WL.iD (oj := _) (vs := [_]) rfl rfl rfl GC.t Tryz.call44 ⟨OV.g rfl id, trivial⟩ (fun hg => yC g (Geo.oz (by simpa using hg)) _ _) rfl ?_
  refine WL.av (oj := _) rfl rfl rfl GC.t (V.leq (OV.g rfl id) (OV.p rfl)) rfl (WL.val (V.aI (OV.p rfl) (OV.g rfl id)) rfl (WL.mv rfl rfl (WL.av (oj := _) rfl rfl rfl GC.t (V.fieldAddr iV (OV.p rfl)) rfl ?_)))
  refine WL.av (oj := _) rfl rfl rfl GC.t (V.load Tryz.isAgg3 (OV.g rfl id) (fun _ => by repeat (first | exact Rd.here rfl | apply Rd.up))) rfl ?_
  refine WL.av (oj := _) rfl rfl rfl GC.t (V.leq (OV.g rfl id) (OV.p rfl)) rfl (WL.val (V.aI (OV.p rfl) (OV.g rfl id)) rfl (WL.mv rfl rfl (WL.av (oj := _) rfl rfl rfl GC.t (V.fieldAddr nM (OV.p rfl)) rfl ?_)))
  refine WL.av (oj := _) rfl rfl rfl GC.t (V.load Tryz.isAgg3 (OV.g rfl id) (fun _ => by repeat (first | exact Rd.here rfl | apply Rd.up))) rfl ?_
  refine WL.av (oj := _) rfl rfl rfl GC.t (V.leq (OV.g rfl id) (OV.p rfl)) rfl (WL.val (V.aI (OV.p rfl) (OV.g rfl id)) rfl (WL.sg rfl rfl (WL.nil (WC.ret ?_))))
  exact ak.ret (H' := F) (aQ.tmp rfl rfl) (fun w h => by repeat (first | exact h | replace h := h.tail)) ⟨rfl, rfl⟩
theorem Gn (K : World) (F : List aj) : aJ Tryz.prog 47 #[] K F (Geo.mk 4 3 1 16 1).v := by
  refine Does.enter Tryz.func47 rfl Tryz.ntmps47 rfl ?_
  simp only [aH, Nat.reduceAdd]
  refine WC.sr ?_
  refine WL.alloc (cs := [(.int .i64 0), (.int .i64 0), (.int .i64 0), (.int .i64 0), (.int .i64 0)]) Tryz.zeroValue23 rfl rfl (fun b0 => ?_)
  refine WL.nil (WC.sr (WL.val (V.build (vs := [(0, _), (1, _), (2, _), (3, _), (4, _)]) ⟨OV.p rfl, OV.p rfl, OV.p rfl, OV.p rfl, OV.p rfl, trivial⟩ rfl (xM _ _ _ _ _)) rfl ?_))
  refine WL.store (cs := [_, _, _, _, _]) Tryz.sizeOf23 (OV.p rfl) (OV.p rfl) rfl rfl rfl (by repeat (first | exact bD.here (cs' := [_, _, _, _, _]) rfl rfl | apply bD.up)) ?_
  refine WL.nil (WC.ret ?_)
  exact ak.ret (H' := F) (aQ.one rfl (R1.rP (vs := [_, _, _, _, _]) rfl ⟨Tryz.isAgg23, Tryz.sizeOf23⟩ rfl (by repeat (first | exact bA.gets ⟨rfl, rfl, rfl, rfl, rfl, trivial⟩ | apply bA.up)))) (fun w h => by repeat (first | exact h | replace h := h.tail)) ⟨rfl, rfl⟩
def Dt : Geo := ⟨4, 3, 1, 16, 1⟩
def y8 : List Nat := [97, 98, 99]
def LV : ah := ah.new Dt []
def IY : St := lH LV 2
def c11 : ah × St × Int := aY LV IY 0 y8
def Qa : ah × St × Int := bV c11.1 c11.2.1 0
theorem wN (K : World) (F : List aj) : aJ Tryz.prog 11 #[] K F (.bool true) := by
  have qm : Dt.may = true := by kernel_rfl
  have r0 : LV.jF = 0 := by kernel_rfl
  have r1 : jE LV IY 0 = (⟨5, [], 0⟩, IY) := by kernel_rfl
  have l1 : ∀ l ∈ IY.stale, l.length ≤ 100000 := by
    have : IY.stale = [[], []] := by kernel_rfl
    rw [this]; decide
  have r2 : c11.2.2 = 0 := by kernel_rfl
  have l2 : ∀ l ∈ c11.2.1.stale, l.length ≤ 100000 := by
    have : c11.2.1.stale = [[], []] := by kernel_rfl
    rw [this]; decide
  have r3 : jE c11.1 c11.2.1 0 = (⟨0, y8, 0⟩, c11.2.1) := by kernel_rfl
  have r4 : Qa.2.2 = 0 := by kernel_rfl
  have r5 : (jE Qa.1 Qa.2.1 0).1 = ⟨5, [], 0⟩ := by kernel_rfl
  have DT : Small 256 y8 := by unfold Small; decide
  refine Does.enter Tryz.func11 rfl Tryz.ntmps11 rfl ?_
  simp only [aH, Nat.reduceAdd]
  refine WC.sr (WL.sg rfl rfl (WL.nil (WC.sr (WL.call (vs := []) Tryz.call47 trivial (Gn _ _) rfl ?_))))
  rintro _ H0 ⟨rfl, h0⟩
  subst H0
  refine WL.call (vs := [_, _]) Tryz.call10 ⟨OV.p rfl, OV.p rfl, trivial⟩ (Am Dt (l := []) Seq.nil (by decide)) rfl ?_
  rintro _ _ (⟨hm, hin, bc, C0, hC0, s0, rfl, rfl⟩ | ⟨hno, rfl, rfl⟩)
  rotate_left
  · exact (hno ⟨qm, fun x hx => by simp at hx⟩).elim
  have g0 : C0.g = Dt := by rw [show C0.g = C0.sem.g from rfl, s0]; rfl
  have Py : C0.sem = LV := s0
  refine WL.mv rfl rfl (WL.xt rfl rfl rfl (WL.xt rfl rfl rfl (WL.sg rfl rfl (WL.sg rfl rfl (WL.nil (WC.sr (WL.mv rfl rfl (WL.call (vs := [_]) Tryz.call48 ⟨OV.p rfl, trivial⟩ (zq hC0 g0) rfl ?_))))))))
  rintro _ _ ⟨bd, rfl, rfl⟩
  refine WL.mv rfl rfl (WL.xt rfl rfl rfl (WL.xt rfl rfl rfl (WL.sg rfl rfl (WL.sg rfl rfl (WL.nil (WC.sr (WL.mv rfl rfl ?_)))))))
  refine WL.call (vs := [_, _]) Tryz.call41 ⟨OV.p rfl, OV.p rfl, trivial⟩ (zA hC0 g0 (au := 2) (by decide) (by decide) (by rw [Py]; exact r0)) rfl ?_
  rintro _ _ ⟨bs, T0, hT0, t0, rfl, rfl⟩
  have t0' : T0.sem = IY := by rw [t0, Py]; rfl
  refine WL.mv rfl rfl (WL.xt rfl rfl rfl (WL.xt rfl rfl rfl (WL.sg rfl rfl (WL.sg rfl rfl (WL.nil (WC.seq (WC.sr (WL.mv rfl rfl (WL.val (V.su Tryz.underlying33 (OV.p rfl) (OV.p rfl)) rfl (WL.mv rfl rfl (WL.av (oj := _) rfl rfl rfl GC.f (V.move (OV.p rfl)) rfl (WL.av (oj := _) rfl rfl rfl GC.f (V.neq (OV.g rfl id) (OV.p rfl)) rfl (WL.val (V.bK (OV.p rfl) (OV.g rfl id)) rfl (WL.nil ?_))))))))))))))
  refine WC.aS rfl (by first | rfl | (simp; done) | (simp; omega)) ?_
  refine WC.skip (WC.sr (WL.mv rfl rfl (WL.call (vs := [_, _]) Tryz.call36 ⟨OV.p rfl, OV.p rfl, trivial⟩ (ow hC0 g0 hT0 0) rfl ?_)))
  rintro _ _ ⟨A1, c1, T1, hT1, t1, rfl, rfl⟩
  rw [Py, t0', r1] at t1 ⊢
  refine WL.sub (Sub.refl _) (fun w h => h.tail) ?_
  refine WL.mv rfl rfl (WL.xt rfl rfl rfl (WL.xt rfl rfl rfl (WL.xt rfl rfl rfl (WL.sg rfl rfl (WL.sg rfl rfl (WL.sg rfl rfl (WL.nil (WC.sr (WL.mv rfl rfl ?_)))))))))
  refine WL.buildSlice (E := 5) (cs := [_, _, _]) (vs := [(0, _), (1, _), (2, _)]) ⟨OV.p rfl, OV.p rfl, OV.p rfl, trivial⟩ rfl (AX _ _ _) rfl (fun R8 => ?_)
  refine WL.Ea Tryz.underlying43 Tryz.underlying5 (OV.p rfl) rfl ?_
  refine WL.sub (Sub.refl _) (fun w h => h.sel 4 [1, 2, 3, 0] rfl) ?_
  refine WL.call (vs := [_, _, _]) Tryz.call18 ⟨OV.p rfl, OV.p rfl, OV.p rfl, trivial⟩ (tY hC0 g0 hT1 (aC := 0) (d := y8) (Seq.Qx rfl : Seq K (vI R8 5 (aA .u8 y8) :: F) (some ⟨R8, 0, none⟩) 3 1 (aA .u8 y8)) DT (Nat.le_refl _) (by decide) (by rw [t1]; exact fun l hl => Nat.le_trans (l1 l hl) (by decide))) rfl ?_
  rintro v2 _ ⟨C2, T2, hC2, g2, eO, s2, t2, hv2, rfl⟩
  have s2' : C2.sem = c11.1 := by rw [s2, Py, t1]; rfl
  have t2' : T2.sem = c11.2.1 := by rw [t2, Py, t1]; rfl
  have RA : v2 = .int .i64 0 := by rw [hv2, Py, t1]; exact congrArg (Value.int .i64) r2
  subst RA
  refine WL.sg rfl rfl (WL.nil (WC.sr (WL.mv rfl rfl (WL.call (vs := [_, _]) Tryz.call36 ⟨OV.p rfl, OV.p rfl, trivial⟩ (ow hC2 g2 eO 0) rfl ?_))))
  rintro _ _ ⟨A3, c3, T3, mW, t3, rfl, rfl⟩
  rw [s2', t2', r3] at t3 ⊢
  refine WL.mv rfl rfl (WL.xt rfl rfl rfl (WL.xt rfl rfl rfl (WL.xt rfl rfl rfl (WL.sg rfl rfl (WL.sg rfl rfl (WL.sg rfl rfl (WL.nil (WC.sr (WL.mv rfl rfl ?_)))))))))
  refine WL.sub (Sub.refl _) (fun w h => h.sel 4 [1, 2, 3, 0] rfl) ?_
  refine WL.call (vs := [_, _]) Tryz.call22 ⟨OV.p rfl, OV.p rfl, trivial⟩ (w9 hC2 g2 mW 0 (by rw [t3]; exact l2)) rfl ?_
  rintro v4 _ ⟨C4, T4, TF, g4, TA, s4, t4, hv4, rfl⟩
  have Sm : C4.sem = Qa.1 := by rw [s4, s2', t3]; rfl
  have Ta : T4.sem = Qa.2.1 := by rw [t4, s2', t3]; rfl
  have Rj : v4 = .int .i64 0 := by rw [hv4, s2', t3]; exact congrArg (Value.int .i64) r4
  subst Rj
  refine WL.sg rfl rfl (WL.nil (WC.sr (WL.mv rfl rfl (WL.call (vs := [_, _]) Tryz.call36 ⟨OV.p rfl, OV.p rfl, trivial⟩ (ow TF g4 TA 0) rfl ?_))))
  rintro _ _ ⟨A5, c5, T5, UG, t5, rfl, rfl⟩
  rw [Sm, Ta, r5]
  have hl5 : (T5.stands.length : Int) = 2 := by
    have e1 : T5.sem.stands = [-1, -1] := by rw [t5, Sm, Ta]; kernel_rfl
    have e2 : T5.stands = [-1, -1] := e1
    rw [e2]; rfl
  refine WL.mv rfl rfl (WL.xt rfl rfl rfl (WL.xt rfl rfl rfl (WL.xt rfl rfl rfl (WL.sg rfl rfl (WL.sg rfl rfl (WL.sg rfl rfl (WL.nil (WC.sr (WL.mv rfl rfl (WL.val (V.eql (OV.p rfl) (OV.p rfl)) rfl (WL.mv rfl rfl (WL.known (oj := _) rfl rfl rfl rfl (WL.mv rfl rfl (WL.known (oj := _) rfl rfl rfl rfl (WL.val (V.eql (OV.p rfl) (OV.p rfl)) rfl (WL.val (V.aI (OV.p rfl) (OV.p rfl)) rfl (WL.mv rfl rfl (WL.known (oj := _) rfl rfl rfl rfl (WL.mv rfl rfl (WL.known (oj := _) rfl rfl rfl rfl ?_))))))))))))))))))))
  refine WL.sub (Sub.refl _) (fun w h => h.sel 5 [3, 4] rfl) ?_
  refine WL.val (V.lI (xs := aT y8) Tryz.underlying43 Tryz.underlying5 Tryz.underlying9 (OV.p rfl) (fun _ => by rw [← fH]; exact Seq.up (aZ.seq rfl))) rfl ?_
  refine WL.known (oj := _) rfl rfl rfl rfl ?_
  refine WL.val (V.aB (v' := .bool true) (V.Pj (OV.p rfl) (OV.p rfl)) (fun _ => by kernel_rfl)) rfl ?_
  refine WL.val (V.aI (OV.p rfl) (OV.p rfl)) rfl (WL.mv rfl rfl (WL.known (oj := _) rfl rfl rfl rfl (WL.mv rfl rfl (WL.known (oj := _) rfl rfl rfl rfl (WL.val (V.eql (OV.p rfl) (OV.p rfl)) rfl (WL.val (V.aI (OV.p rfl) (OV.p rfl)) rfl (WL.mv rfl rfl (WL.known (oj := _) rfl rfl rfl rfl (WL.mv rfl rfl (WL.known (oj := _) rfl rfl rfl rfl (WL.val (V.eql (OV.p rfl) (OV.p rfl)) rfl (WL.val (V.aI (OV.p rfl) (OV.p rfl)) rfl (WL.mv rfl rfl (WL.known (oj := _) rfl rfl rfl rfl (WL.mv rfl rfl (WL.known (oj := _) rfl rfl rfl rfl (WL.val (V.eql (OV.p rfl) (OV.p rfl)) rfl (WL.val (V.aI (OV.p rfl) (OV.p rfl)) rfl (WL.mv rfl rfl (WL.known (oj := _) rfl rfl rfl rfl (WL.mv rfl rfl (WL.known (oj := _) rfl rfl rfl rfl (WL.val (V.eql (OV.p rfl) (OV.p rfl)) rfl (WL.val (V.aI (OV.p rfl) (OV.p rfl)) rfl (WL.mv rfl rfl (WL.known (oj := _) rfl rfl rfl rfl (WL.mv rfl rfl (WL.known (oj := _) rfl rfl rfl rfl ?_))))))))))))))))))))))))))))
  refine WL.call (vs := [_]) Tryz.call13 ⟨OV.p rfl, trivial⟩ (aJ.eq Al (by rw [hl5])) rfl ?_
  rintro _ H0 ⟨rfl, h0⟩
  subst H0
  refine WL.known (oj := _) rfl rfl rfl rfl (WL.val (V.eql (OV.p rfl) (OV.p rfl)) rfl (WL.val (V.aI (OV.p rfl) (OV.p rfl)) rfl (WL.mv rfl rfl (WL.known (oj := _) rfl rfl rfl rfl (WL.mv rfl rfl (WL.known (oj := _) rfl rfl rfl rfl (WL.call (vs := [_]) Tryz.call14 ⟨OV.p rfl, trivial⟩ (aJ.eq (qJ (Geo.oz qm)) rfl) rfl ?_)))))))
  rintro _ H0 ⟨rfl, h0⟩
  subst H0
  refine WL.known (oj := _) rfl rfl rfl rfl (WL.val (V.eql (OV.p rfl) (OV.p rfl)) rfl (WL.val (V.aI (OV.p rfl) (OV.p rfl)) rfl (WL.sg rfl rfl (WL.nil (WC.ret ?_)))))
  exact ak.ret (H' := F) (aQ.tmp rfl rfl) (fun w h => h.sel 3 [] rfl) ⟨rfl, rfl⟩
section
variable {bs bd bc : Nat} {g : Geo} {C : Cw} {K : World} {F : List aj}
theorem Ju (hg : g.aD) : aJ Tryz.prog 15 #[g.v] K F (.int .i64 g.cap) := by
  have hr := Geo.iR hg
  have hcb := Geo.oZ hg
  have hgb := hg
  unfold Geo.aD at hgb
  have hq : (g.pg - 1) * g.room = g.cap := rfl
  refine Does.enter Tryz.func15 rfl Tryz.ntmps15 rfl ?_
  simp only [aH, Nat.reduceAdd]
  refine WC.sr ?_
  refine WL.box (cs := [_, _, _, _, _]) (OV.p rfl) rfl rfl (fun b1 => ?_)
  refine WL.sg rfl rfl (WL.nil (WC.seq ?_))
  refine WC.dP (by kernel_rfl) (by kernel_rfl) ?_
  refine WQ.val (V.fieldAddr nM (OV.p rfl)) rfl ?_
  refine WQ.val (V.load Tryz.isAgg3 (OV.p rfl) (fun _ => by repeat (first | exact Rd.here rfl | apply Rd.up))) rfl ?_
  refine WQ.val (V.sZ (OV.p rfl) (OV.p rfl) (fun hc => by first | omega | (simp at hc; omega))) rfl ?_
  refine WQ.val (V.bB (vs := [_, _, _, _, _]) ⟨Tryz.isAgg23, Tryz.sizeOf23⟩ (OV.p rfl) rfl (fun _ => by repeat (first | exact bA.gets ⟨rfl, rfl, rfl, rfl, rfl, trivial⟩ | apply bA.up))) rfl ?_
  refine WQ.call (vs := [_]) Tryz.call44 ⟨OV.p rfl, trivial⟩ (yC g hg _ _) rfl ?_
  refine WQ.val (V.jI (OV.p rfl) (OV.p rfl) (fun hc => by first | omega | (simp at hc; omega))) rfl ?_
  refine WQ.val (V.assign (OV.p rfl)) rfl (WQ.nil (WC.ret ?_))
  exact ak.ret (H' := F) (aQ.tmp rfl rfl) (fun w h => by repeat (first | exact h | replace h := h.tail)) ⟨rfl, rfl⟩
theorem tH (hC : C.Ok) (hg : C.g = g) {au : Nat} (hl : 1 ≤ au ∧ au ≤ 64) (h19 : g.bl ≤ 19) : Does Tryz.prog 12 #[ptr bc 0, .int .i64 (au : Int)] K (C.A bc :: F)
    (fun v H' => ∃ (bd bs : Nat) (T : bC), T.Ok g ∧ T.sem = lH C.on.sem au ∧ v = ptr bs 0 ∧ H' = C.on.A bc :: bO bd bc g :: T.A bs bd g :: F) := by
  refine Does.enter Tryz.func12 rfl Tryz.ntmps12 rfl ?_
  simp only [aH, Nat.reduceAdd]
  refine WC.sr (WL.sg rfl rfl (WL.nil (WC.sr (WL.mv rfl rfl (WL.call (vs := [_]) Tryz.call40 ⟨OV.p rfl, trivial⟩ (Nl) rfl ?_)))))
  rintro _ _ rfl
  refine WL.nil (WC.sr (WL.mv rfl rfl (WL.call (vs := [_]) Tryz.call48 ⟨OV.p rfl, trivial⟩ (zq hC.on hg) rfl ?_)))
  rintro _ _ ⟨bd, rfl, rfl⟩
  refine WL.mv rfl rfl (WL.xt rfl rfl rfl (WL.xt rfl rfl rfl (WL.sg rfl rfl (WL.sg rfl rfl (WL.nil (WC.seq (WC.sr (WL.mv rfl rfl (WL.val (V.neq (OV.p rfl) (OV.p rfl)) rfl (WL.nil ?_))))))))))
  refine WC.aS rfl (by first | rfl | (simp; done) | (simp; omega)) ?_
  refine WC.skip (WC.sr (WL.mv rfl rfl (WL.mv rfl rfl (WL.call (vs := [_, _]) Tryz.call41 ⟨OV.p rfl, OV.p rfl, trivial⟩ (zA hC.on hg hl h19 (DL hC.on.aD rfl)) rfl ?_))))
  rintro _ _ ⟨bs, T, hT, t0, rfl, rfl⟩
  refine WL.mv rfl rfl (WL.xt rfl rfl rfl (WL.xt rfl rfl rfl (WL.sg rfl rfl (WL.sg rfl rfl (WL.nil (WC.seq (WC.sr (WL.mv rfl rfl (WL.val (V.neq (OV.p rfl) (OV.p rfl)) rfl (WL.nil ?_))))))))))
  refine WC.aS rfl (by first | rfl | (simp; done) | (simp; omega)) ?_
  refine WC.skip (WC.sr (WL.mv rfl rfl (WL.sg rfl rfl (WL.nil (WC.ret ?_)))))
  exact ak.ret (H' := C.on.A bc :: bO bd bc g :: T.A bs bd g :: F) (aQ.tmp rfl rfl) (fun w h => h) ⟨bd, bs, T, hT, t0, rfl, rfl⟩
end
theorem Dk {S : ah} (h : S.up = true) : S.on = S := by
  unfold ah.on
  rw [← h]
theorem Lx {g : Geo} {bad : List Int} (hg : g.aD) : (ah.new g bad).bR = [] := by
  rw [List.eq_nil_iff_forall_not_mem]
  intro x hx
  obtain ⟨_, _, _, d, h⟩ := (ah.uP (ah.CM.new (bad := bad) hg 0 0).ci rfl x).1 hx
  cases h
theorem IZ {g : Geo} {bad : List Int} (hg : g.aD) (au : Nat) : (lH (ah.new g bad) au).next = 1 := by
  show jZ (ah.new g bad).bR = 1
  rw [Lx hg]; rfl
section
variable {K : World} {F : List aj} {M : Mw}
end
theorem Dc (s : ByteArray) : strOfNums (aT (cu (bytesOf s))) = s := by
  have : aT (cu (bytesOf s)) = bytesOf s := by
    unfold aT cu
    rw [List.map_map]
    conv => rhs; rw [← List.map_id (bytesOf _)]
    apply List.map_congr_left
    intro x hx
    have := mG _ x hx
    show ((x.toNat : Nat) : Int) = x
    omega
  rw [this, mJ]
theorem Gs {v : List Nat} {s : ByteArray} (h8 : Small 256 v) : ((strOfNums (aT v)).toList == s.toList) = decide (cu (bytesOf s) = v) := by
  have hl : ∀ x y : ByteArray, (x.toList == y.toList) = decide (x = y) := fun x y => by
    by_cases h : x = y
    · subst h; simp
    · rw [decide_eq_false h]
      rw [← Bool.not_eq_true, beq_iff_eq]
      intro e
      apply h
      rw [ByteArray.toList_eq, ByteArray.toList_eq] at e
      cases x; cases y
      congr 1
      exact Array.toList_inj.1 e
  rw [hl]
  apply decide_eq_decide.2
  constructor
  · intro e
    rw [← e]
    have h1 : bytesOf (strOfNums (aT v)) = aT v := BR (mG _) (jo h8) (mJ _)
    rw [h1, gu]
  · intro e
    rw [← e, Dc]
section
variable {bs bd bc au L B : Nat} {g : Geo} {T : bC} {C : Cw} {M : Mw} {m : Lm} {st : Int → tJ} {K : World} {F : List aj}
theorem xw (hC : C.Ok) (hg : C.g = g) (hT : T.Ok g) (hI : ah.SI au L B C.sem st T.sem m) (hu : C.sem.up = true) {i : Nat} (hi : i < au) (hl : M.has.length = au) (hl2 : M.dat.length = au) :
    Does Tryz.prog 27 #[ptr bs 0, M.v, .int .i64 (i : Int)] K (C.A bc :: bO bd bc g :: T.A bs bd g :: M.A :: F)
    (fun v H' => v = .bool (decide (M.sem i = m i)) ∧ ∃ T' : bC, T'.Ok g ∧ T'.sem = T.sem ∧ H' = C.A bc :: bO bd bc g :: T'.A bs bd g :: M.A :: F) := by
  have hti : (i : Int).toNat = i := by omega
  obtain ⟨G, hG⟩ : ∃ G, G = jE C.sem T.sem (i : Int) := ⟨_, rfl⟩
  have hr := hI.ready hi
  have hcase : (m i = none ∧ G = (⟨5, [], 0⟩, T.sem) ∧ T.sem.at' (i : Int) < 0) ∨ (∃ v N, m i = some v ∧ Small 256 v ∧ G = (⟨0, v, N⟩, T.sem) ∧ 0 ≤ T.sem.at' (i : Int)) := by
    rw [hG]
    cases hm : m i with
    | none =>
      have := hI.JH hi hm
      exact .inl ⟨rfl, this.1, this.2⟩
    | some v =>
      obtain ⟨⟨N, _, h2⟩, h3⟩ := hI.Jw hu hi hm
      obtain ⟨hd, h4, _, _⟩ := hI.some_ i hi v hm
      have h5 := hI.ci.stat _ h4.lo h4.hi h4.un
      rw [h4.st] at h5
      exact .inr ⟨v, N, rfl, h5.small, h2, h3⟩
  have hG2 : G.2 = T.sem := by
    rcases hcase with ⟨_, h, _⟩ | ⟨v, N, _, _, h, _⟩ <;> rw [h]
  have Tp : G.1.err = 5 → G.1.d = [] ∧ G.1.n = 0 := fun h => by
    rcases hcase with ⟨_, h2, _⟩ | ⟨v, N, _, _, h2, _⟩
    · rw [h2]; exact ⟨rfl, rfl⟩
    · rw [h2] at h; exact absurd h (by show ¬ (0 : Int) = 5; decide)
  obtain ⟨hb, Sr⟩ : ∃ hb, hb = M.has.getD i false := ⟨_, rfl⟩
  obtain ⟨sd, hsd⟩ : ∃ sd, sd = M.dat.getD i ByteArray.empty := ⟨_, rfl⟩
  have Pz : M.sem i = if hb then some (cu (bytesOf sd)) else none := by unfold Mw.sem; rw [Sr, hsd]
  have SY : ∀ {H : List aj}, Rd K (M.A :: H) (M.Ah.map (·.add ((i : Int).toNat * 1))) (.bool hb) := fun {H} => by rw [hti, Sr]; exact Mw.Sw (by omega)
  have hrd : ∀ {H : List aj}, Rd K (M.A :: H) (M.Ad.map (·.add ((i : Int).toNat * 1))) (.string sd) := fun {H} => by rw [hti, hsd]; exact Mw.Tk (by omega)
  unfold Mw.v
  refine Does.enter Tryz.func27 rfl Tryz.ntmps27 rfl ?_
  simp only [aH, Nat.reduceAdd]
  refine WC.sr ?_
  refine WL.box (cs := [_, _]) (OV.p rfl) rfl rfl (fun b4 => ?_)
  refine WL.sg rfl rfl (WL.nil (WC.sr (WL.mv rfl rfl (WL.mv rfl rfl ?_))))
  refine WL.sub (Sub.refl _) (fun w h => h.sel 4 [1, 2, 3, 0] rfl) ?_
  refine WL.call (vs := [_, _]) Tryz.call36 ⟨OV.p rfl, OV.p rfl, trivial⟩ (ow hC hg hT (i : Int)) rfl ?_
  rintro _ _ ⟨A9, c9, T3, mW, t3, rfl, rfl⟩
  rw [← hG] at t3 ⊢
  rw [hG2] at t3
  have TY : ∀ {H : List aj}, Seq K (aZ (.slice A9 G.1.d.length c9) 5 1 G.1.d.length (aA .u8 G.1.d) :: H) A9 G.1.d.length 1 (ints .u8 (aT G.1.d)) := fun {H} => by rw [← fH]; exact aZ.seq (by rw [aG, Nat.mul_one])
  refine WL.sub (H' := T3.A bs bd g :: C.A bc :: bO bd bc g :: aZ (.slice A9 G.1.d.length c9) 5 1 G.1.d.length (aA .u8 G.1.d) :: Cells b4 40 M.cells :: M.A :: F) (Sub.refl _) (fun w h => h.sel 5 [3, 1, 2, 0, 4] rfl) ?_
  refine WL.mv rfl rfl (WL.xt rfl rfl rfl (WL.xt rfl rfl rfl (WL.xt rfl rfl rfl (WL.sg rfl rfl (WL.sg rfl rfl (WL.sg rfl rfl (WL.nil (WC.seq (WC.sr (WL.val (V.fieldAddr vw (OV.p rfl)) rfl ?_))))))))))
  refine WL.val (V.load Tryz.isAgg37 (OV.p rfl) (fun _ => by repeat (first | exact Rd.here rfl | apply Rd.up))) rfl ?_
  refine WL.mv rfl rfl ?_
  refine WL.val (V.eP Gd (OV.p rfl) (OV.p rfl) (fun _ => by omega) (fun _ => by repeat (first | exact SY | apply Rd.up))) rfl ?_
  refine WL.val (V.load Tryz.isAgg4 (OV.p rfl) (fun _ => by repeat (first | exact SY | apply Rd.up))) rfl ?_
  refine WL.val (V.not (OV.p rfl)) rfl (WL.nil ?_)
  refine WC.cond rfl (fun hc0 => ?_) (fun hc0 => ?_)
  ·simp only [Bool.not_eq_true', Bool.not_eq_false'] at hc0
   have h0 := hc0
   refine WC.sr (WL.mv rfl rfl (WL.val (V.eql (OV.p rfl) (OV.p rfl)) rfl (WL.mv rfl rfl (WL.av (oj := _) rfl rfl rfl GC.t (V.move (OV.p rfl)) rfl (WL.av (oj := _) rfl rfl rfl GC.t (V.len (t := 43) Tryz.runUnderlying43 (OV.g rfl id)) rfl (WL.av (oj := _) rfl rfl rfl GC.t (V.move (OV.p rfl)) rfl ?_))))))
   refine WL.av (oj := _) rfl rfl rfl GC.t (V.kL (OV.g rfl id) (OV.g rfl id) (fun hc => by have h5 := Tp (by simpa using hc); rw [h5.1, h5.2]; decide)) rfl ?_
   refine WL.av (oj := _) rfl rfl rfl GC.t (V.eql (OV.g rfl id) (OV.p rfl)) rfl (WL.val (V.aI (OV.p rfl) (OV.g rfl id)) rfl (WL.mv rfl rfl (WL.av (oj := _) rfl rfl rfl GC.t (V.move (OV.p rfl)) rfl (WL.av (oj := _) rfl rfl rfl GC.t (V.move (OV.p rfl)) rfl ?_))))
   refine WL.iD (oj := _) (vs := [_, _]) rfl rfl rfl GC.t Tryz.call64 ⟨OV.g rfl id, OV.g rfl id, trivial⟩ (fun hg => BP) rfl ?_
   refine WL.av (oj := _) rfl rfl rfl GC.t (V.not (OV.g rfl id)) rfl (WL.val (V.aI (OV.p rfl) (OV.g rfl id)) rfl (WL.sg rfl rfl (WL.nil (WC.ret ?_))))
   refine ak.ret (H' := C.A bc :: bO bd bc g :: T3.A bs bd g :: M.A :: F) (aQ.tmp rfl rfl) (fun w h => h.sel 6 [1, 2, 0, 5] rfl) ⟨?_, T3, mW, t3, rfl⟩
   rw [Pz, h0, t3, hr]
   rcases hcase with ⟨h1, h2, h3⟩ | ⟨v, N, h1, _, h2, h3⟩
   · rw [h1, h2, decide_eq_false (show ¬ (0 ≤ T.sem.at' (i : Int)) by omega)]; rfl
   · rw [h1, h2]; simp
  ·simp only [Bool.not_eq_true', Bool.not_eq_false'] at hc0
   have h0 := hc0
   refine WC.skip (WC.seq ?_)
   refine WC.dP (by kernel_rfl) (by kernel_rfl) ?_
   refine WQ.val (V.move (OV.p rfl)) rfl (WQ.val (V.eql (OV.p rfl) (OV.p rfl)) rfl (WQ.val (V.move (OV.p rfl)) rfl (WQ.av (oj := _) rfl rfl rfl GC.t (V.move (OV.p rfl)) rfl ?_)))
   refine WQ.av (oj := _) rfl rfl rfl GC.t (V.lI (xs := aT G.1.d) Tryz.underlying43 Tryz.underlying5 Tryz.underlying9 (OV.g rfl id) (fun _ => by repeat (first | exact TY | apply Seq.up))) rfl ?_
   refine WQ.av (oj := _) rfl rfl rfl GC.t (V.fieldAddr FW (OV.p rfl)) rfl ?_
   refine WQ.av (oj := _) rfl rfl rfl GC.t (V.load Tryz.isAgg38 (OV.g rfl id) (fun _ => by repeat (first | exact Rd.here rfl | apply Rd.up))) rfl ?_
   refine WQ.av (oj := _) rfl rfl rfl GC.t (V.move (OV.p rfl)) rfl ?_
   refine WQ.av (oj := _) rfl rfl rfl GC.t (V.eP Ow (OV.g rfl id) (OV.g rfl id) (fun _ => by omega) (fun _ => by repeat (first | exact hrd | apply Rd.up))) rfl ?_
   refine WQ.av (oj := _) rfl rfl rfl GC.t (V.load Tryz.isAgg9 (OV.g rfl id) (fun _ => by repeat (first | exact hrd | apply Rd.up))) rfl ?_
   refine WQ.av (oj := _) rfl rfl rfl GC.t (V.Pj (OV.g rfl id) (OV.g rfl id)) rfl (WQ.val (V.aI (OV.p rfl) (OV.g rfl id)) rfl (WQ.val (V.move (OV.p rfl)) rfl (WQ.av (oj := _) rfl rfl rfl GC.t (V.move (OV.p rfl)) rfl (WQ.av (oj := _) rfl rfl rfl GC.t (V.geq (OV.g rfl id) (OV.p rfl)) rfl (WQ.val (V.aI (OV.p rfl) (OV.g rfl id)) rfl (WQ.val (V.move (OV.p rfl)) rfl (WQ.av (oj := _) rfl rfl rfl GC.t (V.move (OV.p rfl)) rfl (WQ.av (oj := _) rfl rfl rfl GC.t (V.move (OV.p rfl)) rfl ?_))))))))
   refine WQ.iD (oj := _) (vs := [_, _]) rfl rfl rfl GC.t Tryz.call64 ⟨OV.g rfl id, OV.g rfl id, trivial⟩ (fun hg => BP) rfl ?_
   refine WQ.val (V.aI (OV.p rfl) (OV.g rfl id)) rfl (WQ.val (V.assign (OV.p rfl)) rfl (WQ.nil (WC.ret ?_)))
   refine ak.ret (H' := C.A bc :: bO bd bc g :: T3.A bs bd g :: M.A :: F) (aQ.tmp rfl rfl) (fun w h => h.sel 6 [1, 2, 0, 5] rfl) ⟨?_, T3, mW, t3, rfl⟩
   rw [Pz, h0, t3, hr]
   rcases hcase with ⟨h1, h2, h3⟩ | ⟨v, N, h1, h8, h2, h3⟩
   · rw [h1, h2]; simp
   · rw [h1, h2, Gs h8, decide_eq_true h3]
     simp
theorem I9 (hC : C.Ok) (hg : C.g = g) (hT : T.Ok g) (hI : ah.SI au L B C.sem st T.sem m) (hu : C.sem.up = true) (hl : M.has.length = au) (hl2 : M.dat.length = au) (hlb : au ≤ 1000) :
    Does Tryz.prog 28 #[ptr bs 0, M.v] K (C.A bc :: bO bd bc g :: T.A bs bd g :: M.A :: F)
    (fun v H' => ∃ r : Bool, v = .bool r ∧ (r = true ↔ ∀ i, i < au → M.sem i = m i) ∧ ∃ T' : bC, T'.Ok g ∧ T'.sem = T.sem ∧ H' = C.A bc :: bO bd bc g :: T'.A bs bd g :: M.A :: F) := by
  unfold Mw.v
  refine Does.enter Tryz.func28 rfl Tryz.ntmps28 rfl ?_
  simp only [aH, Nat.reduceAdd]
  refine WC.sr ?_
  refine WL.box (cs := [_, _]) (OV.p rfl) rfl rfl (fun b3 => ?_)
  refine WL.sg rfl rfl (WL.nil (WC.seq (WC.sr (WL.sg rfl rfl (WL.nil (WC.block ?_))))))
  refine WC.loop (σ := Nat × bC) (fun s => [(0, ptr bs 0), (3, ptr b3 0), (5, .int .i64 (s.1 : Int))]) (fun s => C.A bc :: bO bd bc g :: s.2.A bs bd g :: M.A :: Cells b3 40 M.cells :: F) (fun s => s.1 ≤ au ∧ s.2.Ok g ∧ s.2.sem = T.sem ∧ ∀ i, i < s.1 → M.sem i = m i) (fun s => au - s.1) (0, T) ⟨Nat.zero_le _, hT, rfl, fun i hi => absurd hi (Nat.not_lt_zero _)⟩ (.cons rfl (.cons rfl (.cons rfl (.nil _)))) (fun w h => h.sel 5 [1, 2, 3, 4, 0] rfl) ?_
  rintro ⟨i, T2⟩ ⟨hi, eO, e2, hall⟩
  dsimp only at hi eO e2 hall ⊢
  refine WC.seq (WC.sr (WL.mv rfl rfl (WL.val (V.fieldAddr vw (OV.p rfl)) rfl ?_)))
  refine WL.val (V.load Tryz.isAgg37 (OV.p rfl) (fun _ => by repeat (first | exact Rd.here rfl | apply Rd.up))) rfl ?_
  refine WL.val (V.len (t := 37) Tryz.runUnderlying37 (OV.p rfl)) rfl (WL.val (V.lss (OV.p rfl) (OV.p rfl)) rfl (WL.nil ?_))
  refine WC.cond rfl (fun hc0 => ?_) (fun hc0 => ?_)
  ·simp only [decide_eq_true_eq, decide_eq_false_iff_not] at hc0
   have hil : i < au := by omega
   refine WC.skip (WC.seq (WC.block (WC.sr (WL.mv rfl rfl ?_))))
   refine WL.val (V.bB (vs := [_, _]) ⟨Tryz.isAgg40, Tryz.sizeOf40⟩ (OV.p rfl) rfl (fun _ => by repeat (first | exact bA.gets ⟨rfl, rfl, trivial⟩ | apply bA.up))) rfl ?_
   refine WL.mv rfl rfl ?_
   refine WL.call (vs := [_, _, _]) Tryz.call27 ⟨OV.p rfl, OV.p rfl, OV.p rfl, trivial⟩ (xw (M := M) hC hg eO (by rw [e2]; exact hI) hu hil hl hl2) rfl ?_
   rintro _ _ ⟨rfl, T3, mW, t3, rfl⟩
   refine WL.val (V.not (OV.p rfl)) rfl (WL.nil ?_)
   refine WC.cond rfl (fun hc1 => ?_) (fun hc1 => ?_)
   ·skip
    have h1 := hc1
    simp only [Bool.not_eq_true', Bool.not_eq_false', decide_eq_true_eq, decide_eq_false_iff_not] at h1
    refine WC.sr (WL.sg rfl rfl (WL.nil (WC.ret ?_)))
    exact ak.ret (H' := C.A bc :: bO bd bc g :: T3.A bs bd g :: M.A :: F) (aQ.tmp rfl rfl) (fun w h => h.sel 5 [0, 1, 2, 3] rfl) ⟨false, rfl, ⟨fun h => (by cases h), fun h => absurd (h i hil) h1⟩, T3, mW, t3.trans e2, rfl⟩
   ·skip
    have h1 := hc1
    simp only [Bool.not_eq_true', Bool.not_eq_false', decide_eq_true_eq, decide_eq_false_iff_not] at h1
    refine WC.skip (WC.region (WL.mv rfl rfl (WL.ad rfl rfl rfl ?_)))
    refine WL.sg rfl rfl (WL.nil ?_)
    refine ⟨rfl, ?_⟩
    exact ⟨(i + 1, T3), ⟨hil, mW, t3.trans e2, fun j hj => by
      by_cases hji : j = i
      · rw [hji]; exact h1
      · exact hall j (by omega)⟩, (by show au - (i + 1) < au - i; omega), .cons rfl (.cons rfl (.cons (look_eq rfl (by simp)) (.nil _))), fun w h => h⟩
  ·simp only [decide_eq_true_eq, decide_eq_false_iff_not] at hc0
   refine WC.exit (WC.sr (WL.sg rfl rfl (WL.nil (WC.ret ?_))))
   obtain rfl : i = au := by omega
   exact ak.ret (H' := C.A bc :: bO bd bc g :: T2.A bs bd g :: M.A :: F) (aQ.tmp rfl rfl) (fun w h => h.sel 5 [0, 1, 2, 3] rfl) ⟨true, rfl, ⟨fun _ => hall, fun _ => rfl⟩, T2, eO, e2, rfl⟩
end
open Go.Sl Go.ChangeShapes Go.WideShapes Go.ChangeAt Go.RowKit
structure oH where
  (kind aC block n keep : Int)
  dA : Option Addr
  dc : Nat
  dx : List Nat
namespace oH
abbrev cells (o : oH) : List Value := [.int .i64 o.kind, .int .i64 o.aC, .int .i64 o.block, .int .i64 o.n, .int .i64 o.keep, .slice o.dA o.dx.length o.dc]
structure Ok (K : World) (F : List aj) (o : oH) : Prop where
  n : o.n ≤ 9223372036854775807
  kp : -9223372036854775808 ≤ o.keep ∧ o.keep ≤ 9223372036854775807
  data : Seq K F o.dA o.dx.length 1 (aA .u8 o.dx)
  d8 : Small 256 o.dx
  dle : o.dx.length ≤ o.dc
theorem Ok.up {K : World} {F : List aj} {o : oH} {X : aj} (h : o.Ok K F) : o.Ok K (X :: F) := ⟨h.n, h.kp, h.data.up, h.d8, h.dle⟩
end oH
structure jY (K : World) (F : List aj) (A : Option Addr) (m : Nat) (l : List oH) : Prop where
  seq : Seq K F A m 6 (l.map oH.cells).flatten
  len : l.length = m
  ok : ∀ o ∈ l, o.Ok K F
theorem jY.up {K : World} {F : List aj} {A : Option Addr} {m : Nat} {l : List oH} {X : aj} (h : jY K F A m l) : jY K (X :: F) A m l := ⟨h.seq.up, h.len, fun o ho => (h.ok o ho).up⟩
theorem uT {s : Nat} : ∀ {l : List (List Value)}, (∀ x ∈ l, x.length = s) → ∀ {i j : Nat} {x : List Value} {v : Value}, l[i]? = some x → x[j]? = some v → l.flatten[i * s + j]? = some v
  | [], _, _, _, _, _, h, _ => by simp at h
  | y :: l, hs, 0, j, x, v, h, hj => by
    simp at h; subst h
    rw [List.flatten_cons, Nat.zero_mul, Nat.zero_add, List.getElem?_append_left]
    · exact hj
    · rcases Nat.lt_or_ge j y.length with h | h
      · exact h
      · rw [List.getElem?_eq_none h] at hj; cases hj
  | y :: l, hs, i + 1, j, x, v, h, hj => by
    have hy := hs y (.head _)
    rw [List.flatten_cons, List.getElem?_append_right (by rw [hy, Nat.add_mul]; omega), hy, show (i + 1) * s + j - s = i * s + j by rw [Nat.add_mul]; omega]
    exact uT (fun z hz => hs z (.tail _ hz)) (by simpa using h) hj
theorem jY.elem {K : World} {F : List aj} {A : Option Addr} {m : Nat} {l : List oH} (h : jY K F A m l) {i : Nat} {o : oH} (hi : l[i]? = some o) {j : Nat} {v : Value} (hj : o.cells[j]? = some v) : Rd K F (A.map (·.add (i * 6 + j))) v :=
  h.seq.rd _ _ (uT (fun x hx => by obtain ⟨o, _, rfl⟩ := List.mem_map.1 hx; rfl) (by rw [List.getElem?_map, hi]; rfl) hj)
def Fh (l : List oH) : Bool := decide ((l.length : Int) ≤ 80) && l.all fun o => !decide (200 < (o.dx.length : Int))
theorem Bj {A : Option Addr} {m cap : Nat} {l : List oH} {K : World} {F : List aj} (hs : jY K F A m l) : aJ Tryz.prog 9 #[.slice A m cap] K F (.bool (Fh l)) := by
  have hll := hs.len
  refine Does.enter Tryz.func9 rfl Tryz.ntmps9 rfl ?_
  simp only [aH, Nat.reduceAdd]
  refine WC.sr (WL.sg rfl rfl (WL.nil (WC.seq (WC.sr (WL.mv rfl rfl (WL.val (V.len (t := 25) Tryz.runUnderlying25 (OV.p rfl)) rfl (WL.val (V.gtr (OV.p rfl) (OV.p rfl)) rfl (WL.nil ?_))))))))
  refine WC.cond rfl (fun hc0 => ?_) (fun hc0 => ?_)
  ·simp only [decide_eq_true_eq, decide_eq_false_iff_not, Int.not_lt] at hc0
   refine WC.sr (WL.sg rfl rfl (WL.nil (WC.ret ?_)))
   refine ak.ret (H' := F) (aQ.tmp rfl rfl) (fun w h => by repeat (first | exact h | replace h := h.tail)) ⟨?_, rfl⟩
   unfold Fh
   rw [decide_eq_false (by omega)]; rfl
  ·simp only [decide_eq_true_eq, decide_eq_false_iff_not, Int.not_lt] at hc0
   refine WC.skip (WC.seq (WC.sr (WL.sg rfl rfl (WL.nil (WC.block ?_)))))
   refine WC.loop (σ := Nat) (fun i => [(0, .slice A m cap), (3, .int .i64 (i : Int))]) (fun i => F) (fun i => i ≤ m ∧ (l.take i).all (fun o => !decide (200 < (o.dx.length : Int))) = true) (fun i => m - i) 0 ⟨Nat.zero_le _, rfl⟩ (.cons rfl (.cons rfl (.nil _))) (fun w h => h) ?_
   rintro i ⟨hi, hall⟩
   refine WC.seq (WC.sr (WL.mv rfl rfl (WL.mv rfl rfl (WL.val (V.len (t := 25) Tryz.runUnderlying25 (OV.p rfl)) rfl (WL.val (V.lss (OV.p rfl) (OV.p rfl)) rfl (WL.nil ?_))))))
   refine WC.cond rfl (fun hc1 => ?_) (fun hc1 => ?_)
   ·try simp only [decide_eq_true_eq, decide_eq_false_iff_not, Bool.and_eq_true, Bool.or_eq_true, Bool.and_eq_false_iff, Bool.or_eq_false_iff, Bool.not_eq_true', Bool.not_eq_false', Bool.not_eq_true, Bool.not_eq_false, Int.not_lt, Int.not_le] at hc1
    refine WC.skip (WC.seq (WC.block (WC.seq ?_)))
    obtain ⟨o, ho⟩ : ∃ o, l[i]? = some o := ⟨_, List.getElem?_eq_getElem (by omega)⟩
    have hr4 : Rd K F (A.map (·.add (i * 6 + 5))) (.slice o.dA o.dx.length o.dc) := hs.elem ho rfl
    have hr0 : Rd K F (A.map (·.add (i * 6))) (.int .i64 o.kind) := hs.elem (j := 0) ho rfl
    have hti : (i : Int).toNat = i := by omega
    refine WC.region (WL.mv rfl rfl (WL.mv rfl rfl ?_))
    refine WL.val (V.aB (v' := sp A (i * 6)) (V.eP Qt (OV.p rfl) (OV.p rfl) (fun hc => by omega) (fun hc => by rw [hti]; exact hr0)) (fun _ => by rw [hti])) rfl ?_
    refine WL.val (V.KL (k' := i * 6 + 5) zJ (OV.p rfl) (fun _ => hr4)) rfl ?_
    refine WL.val (V.load Tryz.isAgg43 (OV.p rfl) (fun _ => hr4)) rfl ?_
    refine WL.val (V.len (t := 43) Tryz.runUnderlying43 (OV.p rfl)) rfl (WL.val (V.gtr (OV.p rfl) (OV.p rfl)) rfl (WL.nil ?_))
    refine WC.cond rfl (fun hc2 => ?_) (fun hc2 => ?_)
    ·skip
     have h2 := hc2
     refine WC.sr (WL.sg rfl rfl (WL.nil (WC.ret ?_)))
     refine ak.ret (H' := F) (aQ.tmp rfl rfl) (fun w h => by repeat (first | exact h | replace h := h.tail)) ⟨?_, rfl⟩
     have h3 : l.all (fun o => !decide (200 < (o.dx.length : Int))) = false := by
       rw [← Bool.not_eq_true]
       intro h
       have := List.all_eq_true.1 h o (List.mem_of_getElem? ho)
       rw [h2] at this
       cases this
     unfold Fh
     rw [h3, Bool.and_false]
    ·skip
     have h2 := hc2
     refine WC.skip (WC.region (WL.mv rfl rfl (WL.ad rfl rfl rfl ?_)))
     refine WL.sg rfl rfl (WL.nil ?_)
     refine ⟨rfl, ?_⟩
     refine ⟨i + 1, ⟨by show i + 1 ≤ m; omega, ?_⟩, (by show m - (i + 1) < m - i; omega), .cons rfl (.cons (look_eq rfl (by simp)) (.nil _)), fun w h => h⟩
     rw [List.take_add_one, ho, List.all_append, hall]
     show ((!decide (200 < (o.dx.length : Int))) && true) = true
     rw [h2]; rfl
   ·try simp only [decide_eq_true_eq, decide_eq_false_iff_not, Bool.and_eq_true, Bool.or_eq_true, Bool.and_eq_false_iff, Bool.or_eq_false_iff, Bool.not_eq_true', Bool.not_eq_false', Bool.not_eq_true, Bool.not_eq_false, Int.not_lt, Int.not_le] at hc1
    refine WC.exit (WC.sr (WL.sg rfl rfl (WL.nil (WC.ret ?_))))
    refine ak.ret (H' := F) (aQ.tmp rfl rfl) (fun w h => by repeat (first | exact h | replace h := h.tail)) ⟨?_, rfl⟩
    obtain rfl : i = m := by omega
    rw [List.take_of_length_le (by omega)] at hall
    unfold Fh
    rw [hall, decide_eq_true (by omega)]; rfl
set_option maxRecDepth 100000 in
theorem Jv {H : Type} {enc : TypeId × Value → H} {W : World} {n : Nat} {cs : List Value} {y : DataW H × List MemPlace} (hl : cs.length = 6) (h : DataW.trod enc Tryz.prog W 0 (fun _ => true) true n 45 cs = some y) :
    ∃ o : oH, cs = o.cells ∧ o.Ok W [Old W] := by
  obtain ⟨xs, k, _, _, _, hxl, hf⟩ := DataW.trod_struct Tryz.underlying45 h
  have c1 : Tryz.prog.cellsOf 3 = 1 := by kernel_rfl
  have c2 : Tryz.prog.cellsOf 43 = 1 := by kernel_rfl
  have c4 : Tryz.prog.cellsOf 5 = 1 := by kernel_rfl
  match cs, hl, xs, hxl with
  | [v0, v1, v2, v3, v4, v5], _, [x0, x1, x2, x3, x4, x5], _ =>
    have h0 : DataW.trod enc Tryz.prog W 0 (fun _ => true) true k 3 (List.take (Tryz.prog.cellsOf 3) (List.drop 0 [v0, v1, v2, v3, v4, v5])) = some x0 := hf 0 _ rfl
    rw [c1] at h0
    have h1 : DataW.trod enc Tryz.prog W 0 (fun _ => true) true k 3 (List.take (Tryz.prog.cellsOf 3) (List.drop 1 [v0, v1, v2, v3, v4, v5])) = some x1 := hf 1 _ rfl
    rw [c1] at h1
    have h2 : DataW.trod enc Tryz.prog W 0 (fun _ => true) true k 3 (List.take (Tryz.prog.cellsOf 3) (List.drop 2 [v0, v1, v2, v3, v4, v5])) = some x2 := hf 2 _ rfl
    rw [c1] at h2
    have h3 : DataW.trod enc Tryz.prog W 0 (fun _ => true) true k 3 (List.take (Tryz.prog.cellsOf 3) (List.drop 3 [v0, v1, v2, v3, v4, v5])) = some x3 := hf 3 _ rfl
    rw [c1] at h3
    have h4 : DataW.trod enc Tryz.prog W 0 (fun _ => true) true k 3 (List.take (Tryz.prog.cellsOf 3) (List.drop 4 [v0, v1, v2, v3, v4, v5])) = some x4 := hf 4 _ rfl
    rw [c1] at h4
    have h5 : DataW.trod enc Tryz.prog W 0 (fun _ => true) true k 43 (List.take (Tryz.prog.cellsOf 43) (List.drop 5 [v0, v1, v2, v3, v4, v5])) = some x5 := hf 5 _ rfl
    rw [c2] at h5
    obtain ⟨i0, e0, _⟩ := jv Tryz.underlying3 h0
    obtain ⟨i1, e1, _⟩ := jv Tryz.underlying3 h1
    obtain ⟨i2, e2, b2⟩ := jv Tryz.underlying3 h2
    obtain ⟨i3, e3, b3⟩ := jv Tryz.underlying3 h3
    obtain ⟨i4, e4, b4⟩ := jv Tryz.underlying3 h4
    obtain ⟨A5, m5, q5, y5, e5, s5, b5, l5, k5, w5⟩ := AV Tryz.underlying43 Tryz.underlying5 c4 h5
    simp at e0 e1 e2 e3 e4 e5
    subst e0 e1 e2 e3 e4 e5 l5
    have hb5 := He b5
    refine ⟨⟨i0, i1, i2, i3, i4, A5, q5, cu y5⟩, ?_, b3.2, b4, ?_, uE hb5, ?_⟩
    · unfold oH.cells; rw [iO]
    · rw [iO, ← xq hb5]; exact s5
    · rw [iO]; exact k5
theorem DX {W : World} : ∀ {css : List (List Value)}, (∀ cs ∈ css, ∃ o : oH, cs = o.cells ∧ o.Ok W [Old W]) → ∃ sc : List oH, css = sc.map oH.cells ∧ ∀ o ∈ sc, o.Ok W [Old W]
  | [], _ => ⟨[], rfl, fun o h => (by cases h)⟩
  | cs :: css, h => by
    obtain ⟨o, rfl, ho⟩ := h cs (.head _)
    obtain ⟨sc, rfl, hsc⟩ := DX fun x hx => h x (.tail _ hx)
    exact ⟨o :: sc, rfl, fun x hx => (List.mem_cons.1 hx).elim (fun e => e ▸ ho) (hsc x)⟩
set_option maxRecDepth 100000 in
theorem A8 {H : Type} {enc : TypeId × Value → H} {W : World} {r : Reach} {base : Nat} {v : Value} {d : DataW H} {p : List MemPlace} (hval : Value.okWide Tryz.prog W r base 25 v)
    (h : DataW.Trod enc Tryz.prog W 0 (fun _ => true) true 25 v d p) : ∃ A m cap sc, v = .slice A m cap ∧ jY W [Old W] A m sc := by
  obtain ⟨A, m, cap, css, rfl, hl, _, hcs, hs⟩ := F5 (s := 6) Tryz.underlying25 (by kernel_rfl) hval h
  obtain ⟨sc, rfl, hsc⟩ := DX (W := W) fun cs hc => by
    obtain ⟨h1, n, y, h2⟩ := hcs cs hc
    exact Jv h1 h2
  exact ⟨A, m, cap, sc, rfl, hs, by simpa using hl, hsc⟩
structure Jb (au : Nat) (g : Geo) (i : Nat) (C : Cw) (T : bC) (M : Mw) : Prop where
  ok : C.Ok
  Hy : C.g = g
  tok : T.Ok g
  up : C.sem.up = true
  si : ∃ st, ah.SI au au (256 + i) C.sem st T.sem M.sem
  next : T.sem.next ≤ 1 + 20 * (i : Int)
  lh : M.has.length = au
  ld : M.dat.length = au
section
variable {au i : Nat} {g : Geo} {C C' : Cw} {T : bC} {M : Mw}
theorem Jb.turn (h : Jb au g i C T M) (h1 : C'.Ok) (h2 : C'.g = g) (h3 : C'.sem.up = true) (e : ah.tO C.sem C'.sem) : Jb au g (i + 1) C' T M := by
  obtain ⟨st, hI⟩ := h.si
  exact ⟨h1, h2, h.tok, h3, ⟨st, (hI.eqv e).wider (by omega)⟩, by have := h.next; omega, h.lh, h.ld⟩
theorem Jb.stay (h : Jb au g i C T M) : Jb au g (i + 1) C T M := h.turn h.ok h.Hy h.up (ah.tO.of rfl rfl rfl rfl rfl)
structure Qu (au : Nat) (g : Geo) (N : Nat) (S : ah) (T : St) (e : Int) (m m3 : Lm) : Prop where
  Hy : S.g = g
  next : T.next ≤ 1 + 20 * (N : Int)
  res : (e = 0 ∧ S.up = true ∧ ∃ st, ah.SI au au (256 + N) S st T m3) ∨ (e = 6 ∧ S.up = true ∧ ∃ st, ah.SI au au (256 + N) S st T m) ∨
    (e = 70 ∧ T.dead = true ∧ ∃ st, ah.xO S st (1 + 20 * (N : Int)) ∧ (ah.CM au au S st m ∨ ah.CM au au S st m3))
theorem Qu.opened {N : Nat} {S S' : ah} {T : St} {e : Int} {m m3 : Lm} (h : Qu au g N S T e m m3) (he : e = 70) (hE : ah.tO S S') (hu : S'.up = true) : ∃ mm : Lm, (mm = m ∨ mm = m3) ∧ (∃ st, ah.SI au au (256 + N) S' st (lH S' au) mm) ∧ (lH S' au).next ≤ 1 + 20 * (N : Int) := by
  rcases h.res with ⟨h1, _⟩ | ⟨h1, _⟩ | ⟨_, _, st, h2, h3⟩
  · rw [he] at h1; exact absurd h1 (by decide)
  · rw [he] at h1; exact absurd h1 (by decide)
  · have hn := h2.eqv hE
    rcases h3 with h3 | h3
    · have h4 := h3.eqv hE
      exact ⟨m, .inl rfl, ⟨st, (ah.yj h4 hu).wider (by omega)⟩, ah.pY h4.ci hu hn (by omega) au⟩
    · have h4 := h3.eqv hE
      exact ⟨m3, .inr rfl, ⟨st, (ah.yj h4 hu).wider (by omega)⟩, ah.pY h4.ci hu hn (by omega) au⟩
end
theorem C8 {d : List Nat} (h8 : Small 256 d) : cu (bytesOf (strOfNums (aT d))) = d := by
  rw [BR (mG _) (jo h8) (mJ _), gu]
theorem HZ (M : Mw) {i0 : Nat} (h1 : i0 < M.has.length) (h2 : i0 < M.dat.length) (b : Bool) (s : ByteArray) : Mw.sem { M with has := M.has.set i0 b, dat := M.dat.set i0 s } = M.sem.put i0 (if b then some (cu (bytesOf s)) else none) := by
  funext k
  unfold Lm.put Mw.sem
  dsimp only
  have e1 : (M.has.set i0 b).getD k false = if k = i0 then b else M.has.getD k false := by
    rw [jg]
    by_cases h : k = i0
    · rw [if_pos ⟨h, h1⟩, if_pos h]
    · rw [if_neg (fun hh => h hh.1), if_neg h]
  have e2 : (M.dat.set i0 s).getD k ByteArray.empty = if k = i0 then s else M.dat.getD k ByteArray.empty := by
    rw [jg]
    by_cases h : k = i0
    · rw [if_pos ⟨h, h2⟩, if_pos h]
    · rw [if_neg (fun hh => h hh.1), if_neg h]
  rw [e1, e2]
  by_cases h : k = i0
  · simp only [if_pos h]
  · simp only [if_neg h]
end Go.Proofs.YtcmojpiokjhmhaaGreat
