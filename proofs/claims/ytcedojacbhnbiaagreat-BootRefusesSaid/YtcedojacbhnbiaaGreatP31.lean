import Derived.Test.YtcedojacbhnbiaaGreatP3
import Derived.Test.YtcedojacbhnbiaaGreatP4
import Derived.Lib.ConvBytes
import Derived.Deep.Strs
import Derived.Test.YtcedojacbhnbiaaGreatP30
import Derived.Test.YtcedojacbhnbiaaGreatP27
namespace Go.Sl
open Go.ChangeShapes Go.WideShapes Go.ChangeAt Go.RowKit
set_option linter.unusedVariables false
set_option linter.unusedSimpArgs false
section
variable {H : Type} {enc : TypeId × Value → H} {P : Program} {W : World}
end
open Go.RowKit Go.BigFrame Go.ChangeShapes Go.WideShapes
section
variable {Mo : Mode} {P : Program} {K : World} {n : Nat} {Q : Post} {e : Env} {H : List au} {ty : TypeId} {pos : String} {af : Array Edge} {ops : Array Oper} {rest : List Oper}
end
end Go.Sl
namespace Go.Proofs.YtcedojacbhnbiaaGreat
open Go.Sl Go.RowKit
set_option linter.unusedVariables false
set_option linter.unusedSimpArgs false
set_option maxRecDepth 20000
section
variable {bs bd bc : Nat} {g : Geo} {C : Cw} {K : World} {F : List au}
end
theorem Jw {g : Geo} {bad : List Int} (hg : g.aF) : (ak.new g bad).bN = [] := by
  rw [List.eq_nil_iff_forall_not_mem]
  intro x hx
  obtain ⟨_, _, _, d, h⟩ := (ak.yD (ak.CM.new (bad := bad) hg 0 0).ci rfl x).1 hx
  cases h
theorem Jh {g : Geo} {bad : List Int} (hg : g.aF) (av : Nat) : (iQ (ak.new g bad) av).next = 1 := by
  show jR (ak.new g bad).bN = 1
  rw [Jw hg]; rfl
theorem JE {g : Geo} (hg : g.aF) {av : Nat} (hl : 0 < av) : fC (ak.new g []) (iQ (ak.new g []) av) 0 = (⟨5, [], 0⟩, iQ (ak.new g []) av) ∧ (iQ (ak.new g []) av).at' 0 < 0 :=
  (ak.G8 (ak.CM.new (bad := []) hg av av) rfl).IK (i := 0) hl rfl
theorem BN {g : Geo} (hg : g.aF) {av : Nat} (hl : 0 < av) : lQ (ak.new g []) (iQ (ak.new g []) av) = (bW.zero, 0, iQ (ak.new g []) av) := by
  unfold lQ
  rw [(JE hg hl).1, if_neg (show ¬ (5 : Int) = 70 by decide), if_neg (fun h => absurd h.1 (show ¬ (5 : Int) = 0 by decide))]
theorem F5 {g : Geo} (hm : g.may = true) (h19 : g.bl ≤ 19) (K : World) (F : List au) : Does Tryz.prog 14 #[g.v] K F
    (fun v H' => ∃ (bc bd bs : Nat) (C : Cw) (T : bI), C.Ok ∧ C.g = g ∧ C.sem = ak.new g [] ∧ T.Ok g ∧ T.sem = iQ C.sem 11 ∧ v = .tuple #[ptr bc 0, ptr bs 0] ∧ H' = C.A bc :: bQ bd bc g :: T.A bs bd g :: F) := by
  refine Does.enter Tryz.func14 rfl Tryz.ntmps14 rfl ?_
  simp only [aJ, Nat.reduceAdd]
  refine WC.sr ?_
  refine WL.box (cs := [_, _, _, _, _]) (OV.p rfl) rfl rfl (fun b1 => ?_)
  refine WL.sg rfl rfl (WL.sg rfl rfl (WL.nil (WC.sr ?_)))
  refine WL.val (V.aU (vs := [_, _, _, _, _]) ⟨Tryz.isAgg23, Tryz.sizeOf23⟩ (OV.p rfl) rfl (fun _ => by repeat (first | exact aT.gets ⟨rfl, rfl, rfl, rfl, rfl, trivial⟩ | apply aT.up))) rfl ?_
  refine WL.call (vs := [_, _]) Tryz.call29 ⟨OV.p rfl, OV.p rfl, trivial⟩ (yt g (l := []) Seq.nil (by decide)) rfl ?_
  rintro _ _ (⟨_, hin, bc, C0, hC0, s0, rfl, rfl⟩ | ⟨hno, rfl, rfl⟩)
  rotate_left
  · exact (hno ⟨hm, fun x hx => by simp at hx⟩).elim
  have g0 : C0.g = g := by rw [show C0.g = C0.sem.g from rfl, s0]; rfl
  have u0 : C0.sem.up = true := by rw [s0]; rfl
  refine WL.mv rfl rfl (WL.xt rfl rfl rfl (WL.xt rfl rfl rfl (WL.sg rfl rfl (WL.sg rfl rfl (WL.nil (WC.sr (WL.mv rfl rfl (WL.call (vs := [_]) Tryz.call30 ⟨OV.p rfl, trivial⟩ (rX hC0 g0) rfl ?_))))))))
  rintro _ _ ⟨bd, rfl, rfl⟩
  refine WL.mv rfl rfl (WL.xt rfl rfl rfl (WL.xt rfl rfl rfl (WL.sg rfl rfl (WL.sg rfl rfl (WL.nil (WC.sr (WL.mv rfl rfl ?_)))))))
  refine WL.call (vs := [_, _]) Tryz.call31 ⟨OV.p rfl, OV.p rfl, trivial⟩ (rA hC0 g0 (av := 11) (by decide) h19 (tL hC0.aF u0)) rfl ?_
  rintro _ _ ⟨bs, T, hT, t0, rfl, rfl⟩
  refine WL.mv rfl rfl (WL.xt rfl rfl rfl (WL.xt rfl rfl rfl (WL.sg rfl rfl (WL.sg rfl rfl (WL.nil (WC.seq (WC.sr (WL.mv rfl rfl (WL.val (V.neq (OV.p rfl) (OV.p rfl)) rfl (WL.mv rfl rfl (WL.ah (oj := _) rfl rfl rfl GC.f (V.move (OV.p rfl)) rfl (WL.ah (oj := _) rfl rfl rfl GC.f (V.neq (OV.g rfl id) (OV.p rfl)) rfl (WL.val (V.aS (OV.p rfl) (OV.g rfl id)) rfl (WL.mv rfl rfl (WL.ah (oj := _) rfl rfl rfl GC.f (V.move (OV.p rfl)) rfl (WL.ah (oj := _) rfl rfl rfl GC.f (V.neq (OV.g rfl id) (OV.p rfl)) rfl (WL.val (V.aS (OV.p rfl) (OV.g rfl id)) rfl (WL.nil ?_))))))))))))))))))
  refine WC.aM rfl (by first | rfl | (simp; done) | (simp; omega)) ?_
  refine WC.skip (WC.sr (WL.mv rfl rfl (WL.mv rfl rfl (WL.sg rfl rfl (WL.sg rfl rfl (WL.nil (WC.ret ?_)))))))
  exact aj.ret (H' := C0.A bc :: bQ bd bc g :: T.A bs bd g :: F) (aL.dJ rfl rfl rfl) (fun w h => h.sel 4 [0, 1, 2] rfl) ⟨bc, bd, bs, C0, T, hC0, g0, s0, hT, t0, rfl, rfl⟩
theorem lF (K : World) (F : List au) : aG Tryz.prog 18 #[] K F (.bool true) := by
  have qm : (Geo.mk 12 3 1 64 1).may = true := by kernel_rfl
  refine Does.enter Tryz.func18 rfl Tryz.ntmps18 rfl ?_
  simp only [aJ, Nat.reduceAdd]
  refine WC.sr (WL.sg rfl rfl (WL.nil (WC.sr (WL.call (vs := [_, _]) Tryz.call23 ⟨OV.p rfl, OV.p rfl, trivial⟩ (oL _ _ _ _) rfl ?_))))
  rintro _ H0 ⟨rfl, h0⟩
  subst H0
  refine WL.mv rfl rfl (WL.xt rfl rfl rfl (WL.xt rfl rfl rfl (WL.sg rfl rfl (WL.sg rfl rfl (WL.nil (WC.sr (WL.call (vs := [_, _]) Tryz.call23 ⟨OV.p rfl, OV.p rfl, trivial⟩ (oL _ _ _ _) rfl ?_)))))))
  rintro _ H0 ⟨rfl, h0⟩
  subst H0
  refine WL.mv rfl rfl (WL.xt rfl rfl rfl (WL.xt rfl rfl rfl (WL.sg rfl rfl (WL.sg rfl rfl (WL.nil (WC.sr (WL.call (vs := [_, _]) Tryz.call23 ⟨OV.p rfl, OV.p rfl, trivial⟩ (oL _ _ _ _) rfl ?_)))))))
  rintro _ H0 ⟨rfl, h0⟩
  subst H0
  refine WL.mv rfl rfl (WL.xt rfl rfl rfl (WL.xt rfl rfl rfl (WL.sg rfl rfl (WL.sg rfl rfl (WL.nil (WC.sr (WL.call (vs := [_]) Tryz.call24 ⟨OV.p rfl, trivial⟩ (vI) rfl ?_)))))))
  rintro _ H0 ⟨rfl, h0⟩
  subst H0
  refine WL.mv rfl rfl (WL.xt rfl rfl rfl (WL.xt rfl rfl rfl ?_))
  refine WL.alloc (cs := [(.int .i64 0), (.int .i64 0), (.bool false), (.int .i64 0), (.bool false)]) Tryz.zeroValue58 rfl rfl (fun b7 => ?_)
  refine WL.store (cs := [_, _, _, _, _]) Tryz.sizeOf58 (OV.p rfl) (OV.p rfl) rfl rfl rfl (by repeat (first | exact aQ.here (cs' := [_, _, _, _, _]) rfl rfl | apply aQ.up)) ?_
  refine WL.sg rfl rfl (WL.nil (WC.sr (WL.val (V.build (vs := [(0, _), (1, _), (2, _), (3, _), (4, _)]) ⟨OV.p rfl, OV.p rfl, OV.p rfl, OV.p rfl, OV.p rfl, trivial⟩ rfl (wH _ _ _ _ _)) rfl ?_)))
  refine WL.call (vs := [_]) Tryz.call14 ⟨OV.p rfl, trivial⟩ (F5 (g := Geo.mk 12 3 1 64 1) qm (by decide) _ _) rfl ?_
  rintro _ _ ⟨bc, bd, bs, C0, T0, hC0, g0, s0, hT0, t0, rfl, rfl⟩
  have e0 : lQ C0.sem T0.sem = (bW.zero, 0, T0.sem) := by rw [t0, s0]; exact BN (Geo.lH qm) (by decide)
  have hlb : (T0.stands.length : Int) = 11 := by
    have e1 : T0.stands = fT 11 C0.sem.bN := congrArg St.stands t0
    rw [e1, fF]; rfl
  refine WL.mv rfl rfl (WL.xt rfl rfl rfl (WL.xt rfl rfl rfl (WL.sg rfl rfl (WL.sg rfl rfl (WL.nil (WC.seq (WC.sr (WL.mv rfl rfl (WL.val (V.ku Tryz.underlying28 (OV.p rfl) (OV.p rfl)) rfl (WL.nil ?_))))))))))
  refine WC.aM rfl (by first | rfl | (simp; done) | (simp; omega)) ?_
  refine WC.skip (WC.sr (WL.mv rfl rfl ?_))
  refine WL.call (vs := [_, _, _]) Tryz.call17 ⟨OV.p rfl, OV.p rfl, OV.p rfl, trivial⟩ (xU hC0 g0 hT0 (by omega) (by rw [e0]; rfl) 0) rfl ?_
  rintro _ _ ⟨T1, hT1, t1, rfl, rfl⟩
  rw [e0]
  refine WL.alloc (cs := [(.int .i64 0), (.int .i64 0), (.int .i64 0), (.slice none 0 0), (.int .i64 0)]) Tryz.zeroValue37 rfl rfl (fun b11 => ?_)
  refine WL.store (cs := [_, _, _, _, _]) Tryz.sizeOf37 (OV.p rfl) (OV.p rfl) rfl rfl rfl (by repeat (first | exact aQ.here (cs' := [_, _, _, _, _]) rfl rfl | apply aQ.up)) ?_
  refine WL.nil (WC.sr (WL.mv rfl rfl (WL.val (V.eql (OV.p rfl) (OV.p rfl)) rfl (WL.mv rfl rfl (WL.ah (oj := _) rfl rfl rfl GC.t (V.move (OV.p rfl)) rfl (WL.ah (oj := _) rfl rfl rfl GC.t (V.eql (OV.g rfl id) (OV.p rfl)) rfl (WL.val (V.aD (OV.p rfl) (OV.g rfl id)) rfl (WL.mv rfl rfl (WL.ah (oj := _) rfl rfl rfl GC.t (V.move (OV.p rfl)) rfl (WL.ah (oj := _) rfl rfl rfl GC.t (V.eql (OV.g rfl id) (OV.p rfl)) rfl (WL.val (V.aD (OV.p rfl) (OV.g rfl id)) rfl (WL.mv rfl rfl (WL.ah (oj := _) rfl rfl rfl GC.t (V.move (OV.p rfl)) rfl (WL.ah (oj := _) rfl rfl rfl GC.t (V.eql (OV.g rfl id) (OV.p rfl)) rfl (WL.val (V.aD (OV.p rfl) (OV.g rfl id)) rfl (WL.mv rfl rfl (WL.ah (oj := _) rfl rfl rfl GC.t (V.move (OV.p rfl)) rfl (WL.ah (oj := _) rfl rfl rfl GC.t (V.eql (OV.g rfl id) (OV.p rfl)) rfl (WL.val (V.aD (OV.p rfl) (OV.g rfl id)) rfl (WL.mv rfl rfl (WL.ah (oj := _) rfl rfl rfl GC.t (V.move (OV.p rfl)) rfl (WL.ah (oj := _) rfl rfl rfl GC.t (V.eql (OV.g rfl id) (OV.p rfl)) rfl (WL.val (V.aD (OV.p rfl) (OV.g rfl id)) rfl (WL.mv rfl rfl (WL.ah (oj := _) rfl rfl rfl GC.t (V.fieldAddr mM (OV.p rfl)) rfl ?_)))))))))))))))))))))))))
  refine WL.ah (oj := _) rfl rfl rfl GC.t (V.load Tryz.isAgg32 (OV.g rfl id) (fun _ => by repeat (first | exact Rd.here rfl | apply Rd.up))) rfl ?_
  refine WL.ah (oj := _) rfl rfl rfl GC.t (V.eql (OV.g rfl id) (OV.p rfl)) rfl (WL.val (V.aD (OV.p rfl) (OV.g rfl id)) rfl (WL.mv rfl rfl (WL.ah (oj := _) rfl rfl rfl GC.t (V.fieldAddr NJ (OV.p rfl)) rfl ?_)))
  refine WL.ah (oj := _) rfl rfl rfl GC.t (V.load Tryz.isAgg3 (OV.g rfl id) (fun _ => by repeat (first | exact Rd.here rfl | apply Rd.up))) rfl ?_
  refine WL.ah (oj := _) rfl rfl rfl GC.t (V.eql (OV.g rfl id) (OV.p rfl)) rfl (WL.val (V.aD (OV.p rfl) (OV.g rfl id)) rfl (WL.sg rfl rfl (WL.nil (WC.ret ?_))))
  exact aj.ret (H' := F) (aL.tmp rfl rfl) (fun w h => h.sel 5 [] rfl) ⟨rfl, rfl⟩
theorem Ko {a b c d : Int} (h : nS a b = true) (h' : nS c d = true) : decide ((xQ a b).1 = (xQ c d).1) = (decide (a = c) && decide (b = d)) := by
  unfold xQ
  rw [if_pos h, if_pos h']
  unfold nS at h h'
  simp only [Bool.or_eq_true, Bool.and_eq_true, decide_eq_true_eq] at h h'
  have : (2 + 5 * a + b = 2 + 5 * c + d) ↔ (a = c ∧ b = d) := by omega
  simp [this]
theorem yH (a b c d : Int) (K : World) (F : List au) : aG Tryz.prog 4 #[.int .i64 a, .int .i64 b, .int .i64 c, .int .i64 d] K F (.bool true) := by
  obtain ⟨X, hX⟩ : ∃ X, X = xQ a b := ⟨_, rfl⟩
  obtain ⟨Y, hY⟩ : ∃ Y, Y = xQ c d := ⟨_, rfl⟩
  have hok : (if nS a b then X.2 = 0 ∧ X.1 = 2 + 5 * a + b else X.2 = 1 ∧ X.1 = 0) := by
    rw [hX]; unfold xQ; split <;> exact ⟨rfl, rfl⟩
  refine Does.enter Tryz.func4 rfl Tryz.ntmps4 rfl ?_
  simp only [aJ, Nat.reduceAdd]
  refine WC.sr (WL.sg rfl rfl (WL.nil (WC.sr (WL.mv rfl rfl (WL.mv rfl rfl ?_)))))
  refine WL.call (vs := [_, _]) Tryz.call23 ⟨OV.p rfl, OV.p rfl, trivial⟩ (aG.eq (v' := .tuple #[.int .i64 X.1, .int .i64 X.2]) (oL a b _ _) (by rw [hX])) rfl ?_
  rintro _ H0 ⟨rfl, h0⟩
  subst H0
  refine WL.mv rfl rfl (WL.xt rfl rfl rfl (WL.xt rfl rfl rfl (WL.sg rfl rfl (WL.sg rfl rfl (WL.nil (WC.sr (WL.mv rfl rfl (WL.mv rfl rfl ?_))))))))
  refine WL.call (vs := [_, _]) Tryz.call23 ⟨OV.p rfl, OV.p rfl, trivial⟩ (aG.eq (v' := .tuple #[.int .i64 Y.1, .int .i64 Y.2]) (oL c d _ _) (by rw [hY])) rfl ?_
  rintro _ H0 ⟨rfl, h0⟩
  subst H0
  refine WL.mv rfl rfl (WL.xt rfl rfl rfl (WL.xt rfl rfl rfl (WL.sg rfl rfl (WL.sg rfl rfl (WL.nil (WC.sr (WL.mv rfl rfl (WL.val (V.eql (OV.p rfl) (OV.p rfl)) rfl (WL.mv rfl rfl (WL.ah (oj := _) rfl rfl rfl GC.f (V.move (OV.p rfl)) rfl (WL.ah (oj := _) rfl rfl rfl GC.f (V.eql (OV.g rfl id) (OV.p rfl)) rfl (WL.val (V.aS (OV.p rfl) (OV.g rfl id)) rfl (WL.mv rfl rfl (WL.ah (oj := _) rfl rfl rfl GC.t (V.move (OV.p rfl)) rfl (WL.ah (oj := _) rfl rfl rfl GC.t (V.geq (OV.g rfl id) (OV.p rfl)) rfl (WL.val (V.aD (OV.p rfl) (OV.g rfl id)) rfl (WL.mv rfl rfl (WL.ah (oj := _) rfl rfl rfl GC.t (V.move (OV.p rfl)) rfl (WL.ah (oj := _) rfl rfl rfl GC.t (V.leq (OV.g rfl id) (OV.p rfl)) rfl (WL.val (V.aD (OV.p rfl) (OV.g rfl id)) rfl (WL.sg rfl rfl (WL.nil (WC.seq (WC.sr (WL.mv rfl rfl (WL.val (V.not (OV.p rfl)) rfl (WL.nil ?_)))))))))))))))))))))))))))
  refine WC.cond rfl (fun hc0 => ?_) (fun hc0 => ?_)
  ·skip
   have h0 := hc0
   have hk : nS a b = false := by have h1 : (!nS a b) = true := h0; simpa using h1
   rw [hk, if_neg Bool.false_ne_true] at hok
   refine WC.sr (WL.call (vs := []) Tryz.call18 trivial (lF _ _) rfl ?_)
   rintro _ H0 ⟨rfl, h0⟩
   subst H0
   refine WL.mv rfl rfl (WL.ah (oj := _) rfl rfl rfl GC.t (V.move (OV.p rfl)) rfl (WL.ah (oj := _) rfl rfl rfl GC.t (V.eql (OV.g rfl id) (OV.p rfl)) rfl (WL.val (V.aD (OV.p rfl) (OV.g rfl id)) rfl (WL.mv rfl rfl (WL.ah (oj := _) rfl rfl rfl GC.t (V.move (OV.p rfl)) rfl (WL.ah (oj := _) rfl rfl rfl GC.t (V.eql (OV.g rfl id) (OV.p rfl)) rfl (WL.val (V.aD (OV.p rfl) (OV.g rfl id)) rfl (WL.sg rfl rfl (WL.nil (WC.ret ?_))))))))))
   exact aj.ret (H' := F) (aL.tmp rfl rfl) (fun w h => by repeat (first | exact h | replace h := h.tail)) ⟨by rw [hok.1, hok.2]; rfl, rfl⟩
  ·skip
   have h0 := hc0
   have hk : nS a b = true := by have h1 : (!nS a b) = false := h0; simpa using h1
   have hab : (a = 0 ∨ a = 1) ∧ -1 ≤ b ∧ b ≤ 3 := by have h1 := hk; unfold nS at h1; simp only [Bool.or_eq_true, Bool.and_eq_true, decide_eq_true_eq] at h1; omega
   rw [if_pos hk] at hok
   refine WC.skip (WC.seq (WC.sr (WL.mv rfl rfl (WL.val (V.neq (OV.p rfl) (OV.p rfl)) rfl (WL.mv rfl rfl (WL.ah (oj := _) rfl rfl rfl GC.f (V.move (OV.p rfl)) rfl (WL.ah (oj := _) rfl rfl rfl GC.f (V.move (OV.p rfl)) rfl ?_)))))))
   refine WL.ah (oj := _) rfl rfl rfl GC.f (V.jQ (OV.p rfl) (OV.g rfl id) (fun hc => by first | omega | (simp at hc; omega))) rfl ?_
   refine WL.ah (oj := _) rfl rfl rfl GC.f (V.jO (OV.p rfl) (OV.g rfl id) (fun hc => by first | omega | (simp at hc; omega))) rfl ?_
   refine WL.ah (oj := _) rfl rfl rfl GC.f (V.move (OV.p rfl)) rfl ?_
   refine WL.ah (oj := _) rfl rfl rfl GC.f (V.jO (OV.g rfl id) (OV.g rfl id) (fun hc => by first | omega | (simp at hc; omega))) rfl ?_
   refine WL.ah (oj := _) rfl rfl rfl GC.f (V.neq (OV.g rfl id) (OV.g rfl id)) rfl (WL.val (V.aS (OV.p rfl) (OV.g rfl id)) rfl (WL.nil ?_))
   refine WC.aM rfl ((by simp; omega)) ?_
   refine WC.skip (WC.sr (WL.call (vs := []) Tryz.call18 trivial (lF _ _) rfl ?_))
   rintro _ H0 ⟨rfl, h0⟩
   subst H0
   refine WL.mv rfl rfl (WL.ah (oj := _) rfl rfl rfl GC.t (V.move (OV.p rfl)) rfl (WL.ah (oj := _) rfl rfl rfl GC.t (V.neq (OV.g rfl id) (OV.p rfl)) rfl (WL.ah (oj := _) rfl rfl rfl GC.t (V.move (OV.g rfl id)) rfl (WL.ah (oj := _) rfl rfl rfl GC.cf (V.move (OV.p rfl)) rfl (WL.ah (oj := _) rfl rfl rfl GC.cf (V.move (OV.p rfl)) rfl (WL.ah (oj := _) rfl rfl rfl GC.cf (V.eql (OV.g rfl id) (OV.g rfl id)) rfl (WL.ah (oj := _) rfl rfl rfl GC.cf (V.move (OV.p rfl)) rfl (WL.ah (oj := _) rfl rfl rfl GC.cf (V.move (OV.p rfl)) rfl (WL.ah (oj := _) rfl rfl rfl GC.cf (V.eql (OV.g rfl id) (OV.g rfl id)) rfl (WL.ah (oj := _) rfl rfl rfl GC.cf (V.move (OV.g rfl id)) rfl (WL.ah (oj := _) rfl rfl rfl GC.ct (V.move (OV.p rfl)) rfl (WL.ah (oj := _) rfl rfl rfl GC.ct (V.move (OV.p rfl)) rfl (WL.ah (oj := _) rfl rfl rfl GC.ct (V.eql (OV.g rfl id) (OV.g rfl id)) rfl (WL.ah (oj := _) rfl rfl rfl GC.cf (V.aD (OV.g rfl id) (OV.g rfl id)) rfl (WL.ah (oj := _) rfl rfl rfl GC.cf (V.P6 Tryz.underlying4 (OV.g rfl id) (OV.g rfl id)) rfl (WL.ah (oj := _) rfl rfl rfl GC.t (V.aS (OV.g rfl id) (OV.g rfl id)) rfl (WL.val (V.aD (OV.p rfl) (OV.g rfl id)) rfl (WL.sg rfl rfl (WL.nil (WC.ret ?_))))))))))))))))))))
   refine aj.ret (H' := F) (aL.tmp rfl rfl) (fun w h => by repeat (first | exact h | replace h := h.tail)) ⟨?_, rfl⟩
   congr 1
   by_cases hy : nS c d = true
   · have e1 := Ko hk hy
     rw [← hX, ← hY] at e1
     rw [e1]; simp
   · have e2 : Y.2 = 1 := by rw [hY]; unfold xQ; rw [if_neg hy]
     rw [e2]; rfl
def xM (slot sec err : Int) : Bool := decide (err = 0) && (decide (slot = 0) || decide (slot = 1)) && decide (0 ≤ sec) && decide (sec ≤ 64)
abbrev dX (s : bW) : List Nat := eU s.bytes
def uj (S : ak) (T : St) (slot sec err : Int) : ak × St × Int :=
  if xM slot sec err = false then (S, T, 1)
  else if (lQ S T).2.1 ≠ 0 then (S, (lQ S T).2.2, (lQ S T).2.1)
  else if (aX S (lQ S T).2.2 0 (dX ((lQ S T).1.confirm slot).1)).2.2 ≠ 0 then aX S (lQ S T).2.2 0 (dX ((lQ S T).1.confirm slot).1)
  else if (aX S (lQ S T).2.2 0 (dX ((lQ S T).1.confirm slot).1)).1.fused < sec then (((aX S (lQ S T).2.2 0 (dX ((lQ S T).1.confirm slot).1)).1.jY sec).1, (aX S (lQ S T).2.2 0 (dX ((lQ S T).1.confirm slot).1)).2.1, ((aX S (lQ S T).2.2 0 (dX ((lQ S T).1.confirm slot).1)).1.jY sec).2)
  else ((aX S (lQ S T).2.2 0 (dX ((lQ S T).1.confirm slot).1)).1, (aX S (lQ S T).2.2 0 (dX ((lQ S T).1.confirm slot).1)).2.1, 0)
theorem Dn (S : ak) (T : St) (aI : Int) : (fC S T aI).2.stale = T.stale ∧ (fC S T aI).2.stands = T.stands := by
  unfold fC
  repeat (first | exact ⟨rfl, rfl⟩ | split)
theorem Iu (S : ak) (T : St) : (lQ S T).2.2.stale = T.stale ∧ (lQ S T).2.2.stands = T.stands := by
  have h := Dn S T 0
  unfold lQ
  repeat (first | exact h | split)
theorem Nf (S : ak) (T : St) : (lQ S T).1.ok = true := by
  unfold lQ
  split
  · rfl
  · split
    · rename_i h
      have h2 := h.2
      unfold bW.parse at h2 ⊢
      split at h2
      · rename_i h3
        rw [if_pos h3]
        unfold bW.good at h3
        simp only [Bool.and_eq_true] at h3
        exact h3.1.2
      · cases h2
    · rfl
theorem y5 {s : bW} (hs : s.ok = true) {slot : Int} (h : slot = 0 ∨ slot = 1) : (s.confirm slot).1.ok = true := by
  have h1 := bW.wS hs
  unfold bW.confirm
  rw [if_neg (by unfold bW.LD; rw [hs]; rcases h with rfl | rfl <;> decide)]
  rcases h with rfl | rfl
  all_goals
    simp [bW.put, bW.ok]
    omega
section
variable {bs bd bc : Nat} {g : Geo} {T : bI} {C : Cw} {K : World} {F : List au} {lw : Value}
theorem Jf (hC : C.Ok) (hg : C.g = g) (hT : T.Ok g) {x : bW} (hx : x.ok = true) (hlong : ∀ l ∈ T.sem.stale, l.length ≤ 1000000) : Does Tryz.prog 69 #[ptr bs 0, x.v] K (C.A bc :: bQ bd bc g :: T.A bs bd g :: F)
    (fun v H' => ∃ (C' : Cw) (T' : bI), C'.Ok ∧ C'.g = g ∧ T'.Ok g ∧ C'.sem = (aX C.sem T.sem 0 (dX x)).1 ∧ T'.sem = (aX C.sem T.sem 0 (dX x)).2.1 ∧ v = .int .i64 (aX C.sem T.sem 0 (dX x)).2.2 ∧ H' = C'.A bc :: bQ bd bc g :: T'.A bs bd g :: F) := by
  have hb := bW.qd hx
  have S9 : (dX x).length = 9 := by unfold dX; rw [jB, bW.jZ hx]
  obtain ⟨X, hX⟩ : ∃ X, X = aX C.sem T.sem 0 (dX x) := ⟨_, rfl⟩
  rw [← hX]
  refine Does.enter Tryz.func69 rfl Tryz.ntmps69 rfl ?_
  simp only [aJ, Nat.reduceAdd]
  refine WC.sr ?_
  refine WL.box (cs := [_, _, _, _, _]) (OV.p rfl) rfl rfl (fun b3 => ?_)
  refine WL.sg rfl rfl (WL.nil (WC.sr ?_))
  refine WL.val (V.aU (vs := [_, _, _, _, _]) ⟨Tryz.isAgg58, Tryz.sizeOf58⟩ (OV.p rfl) rfl (fun _ => by repeat (first | exact aT.gets ⟨rfl, rfl, rfl, rfl, rfl, trivial⟩ | apply aT.up))) rfl ?_
  refine WL.call (vs := [_]) Tryz.call131 ⟨OV.p rfl, trivial⟩ (wh x _ _) rfl ?_
  rintro _ _ (⟨_, bb, rfl, rfl⟩ | ⟨hno, rfl, rfl⟩)
  rotate_left
  · rw [hx] at hno; cases hno
  refine WL.mv rfl rfl (WL.xt rfl rfl rfl (WL.xt rfl rfl rfl (WL.sg rfl rfl (WL.sg rfl rfl (WL.nil (WC.seq (WC.sr (WL.mv rfl rfl (WL.val (V.neq (OV.p rfl) (OV.p rfl)) rfl (WL.nil ?_))))))))))
  refine WC.aM rfl (by first | rfl | (simp; done) | (simp; omega)) ?_
  refine WC.skip (WC.sr (WL.mv rfl rfl (WL.mv rfl rfl ?_)))
  refine WL.sub (Sub.refl _) (fun w h => h.sel 5 [2, 3, 4, 0] rfl) ?_
  refine WL.call (vs := [_, _, _]) Tryz.call16 ⟨OV.p rfl, OV.p rfl, OV.p rfl, trivial⟩ (Ci hC hg hT (aI := 0) (d := dX x) (by rw [show aB .u8 (dX x) = ints .u8 x.bytes by unfold dX; rw [wu hb]]; exact Seq.allI (bW.jZ hx)) (mV hb) (by decide) (by decide) hlong) rfl ?_
  rintro _ _ ⟨C1, T1, Lf, g1, hT1, s1, t1, rfl, rfl⟩
  rw [← hX] at s1 t1 ⊢
  refine WL.sg rfl rfl (WL.nil (WC.ret ?_))
  exact aj.ret (H' := C1.A bc :: bQ bd bc g :: T1.A bs bd g :: F) (aL.tmp rfl rfl) (fun w h => h.sel 4 [0, 1, 2] rfl) ⟨C1, T1, Lf, g1, hT1, s1, t1, rfl, rfl⟩
theorem qU (slot en sec err : Int) : aG Tryz.prog 28 #[.pointer none, ptr bc 0, .agg #[.int .i64 slot, .int .i64 en, .int .i64 sec, lw, .int .i64 err]] K F (.int .i64 3) := by
  refine Does.enter Tryz.func28 rfl Tryz.ntmps28 rfl ?_
  simp only [aJ, Nat.reduceAdd]
  refine WC.sr ?_
  refine WL.box (cs := [_, _, _, _, _]) (OV.p rfl) rfl rfl (fun b5 => ?_)
  refine WL.sg rfl rfl (WL.nil (WC.seq (WC.sr (WL.mv rfl rfl (WL.val (V.ku Tryz.underlying28 (OV.p rfl) (OV.p rfl)) rfl (WL.mv rfl rfl (WL.ah (oj := _) rfl rfl rfl GC.f (V.move (OV.p rfl)) rfl (WL.ah (oj := _) rfl rfl rfl GC.f (V.ku Tryz.underlying27 (OV.g rfl id) (OV.p rfl)) rfl (WL.val (V.aS (OV.p rfl) (OV.g rfl id)) rfl (WL.nil ?_))))))))))
  refine WC.bU rfl (by first | rfl | (simp; done) | (simp; omega)) ?_
  refine WC.sr (WL.sg rfl rfl (WL.nil (WC.ret ?_)))
  exact aj.ret (H' := F) (aL.tmp rfl rfl) (fun w h => by repeat (first | exact h | replace h := h.tail)) ⟨rfl, rfl⟩
theorem qQ (slot en sec err : Int) : aG Tryz.prog 28 #[ptr bs 0, .pointer none, .agg #[.int .i64 slot, .int .i64 en, .int .i64 sec, lw, .int .i64 err]] K F (.int .i64 3) := by
  refine Does.enter Tryz.func28 rfl Tryz.ntmps28 rfl ?_
  simp only [aJ, Nat.reduceAdd]
  refine WC.sr ?_
  refine WL.box (cs := [_, _, _, _, _]) (OV.p rfl) rfl rfl (fun b5 => ?_)
  refine WL.sg rfl rfl (WL.nil (WC.seq (WC.sr (WL.mv rfl rfl (WL.val (V.ku Tryz.underlying28 (OV.p rfl) (OV.p rfl)) rfl (WL.mv rfl rfl (WL.ah (oj := _) rfl rfl rfl GC.f (V.move (OV.p rfl)) rfl (WL.ah (oj := _) rfl rfl rfl GC.f (V.ku Tryz.underlying27 (OV.g rfl id) (OV.p rfl)) rfl (WL.val (V.aS (OV.p rfl) (OV.g rfl id)) rfl (WL.nil ?_))))))))))
  refine WC.bU rfl (by first | rfl | (simp; done) | (simp; omega)) ?_
  refine WC.sr (WL.sg rfl rfl (WL.nil (WC.ret ?_)))
  exact aj.ret (H' := F) (aL.tmp rfl rfl) (fun w h => by repeat (first | exact h | replace h := h.tail)) ⟨rfl, rfl⟩
theorem zT (hl : (T.stands.length : Int) < 11) (slot en sec err : Int) : aG Tryz.prog 28 #[ptr bs 0, ptr bc 0, .agg #[.int .i64 slot, .int .i64 en, .int .i64 sec, lw, .int .i64 err]] K (T.A bs bd g :: F) (.int .i64 1) := by
  refine Does.enter Tryz.func28 rfl Tryz.ntmps28 rfl ?_
  simp only [aJ, Nat.reduceAdd]
  refine WC.sr ?_
  refine WL.box (cs := [_, _, _, _, _]) (OV.p rfl) rfl rfl (fun b5 => ?_)
  refine WL.sg rfl rfl (WL.nil (WC.seq (WC.sr (WL.mv rfl rfl (WL.val (V.ku Tryz.underlying28 (OV.p rfl) (OV.p rfl)) rfl (WL.mv rfl rfl (WL.ah (oj := _) rfl rfl rfl GC.f (V.move (OV.p rfl)) rfl (WL.ah (oj := _) rfl rfl rfl GC.f (V.ku Tryz.underlying27 (OV.g rfl id) (OV.p rfl)) rfl (WL.val (V.aS (OV.p rfl) (OV.g rfl id)) rfl (WL.nil ?_))))))))))
  refine WC.aM rfl (by first | rfl | (simp; done) | (simp; omega)) ?_
  refine WC.skip (WC.seq (WC.sr (WL.val (V.fieldAddr mM (OV.p rfl)) rfl (WL.ld Tryz.isAgg32 rfl rfl ?_))))
  refine WL.val (V.neq (OV.p rfl) (OV.p rfl)) rfl (WL.mv rfl rfl (WL.ah (oj := _) rfl rfl rfl GC.f (V.fieldAddr mU (OV.p rfl)) rfl ?_))
  refine WL.ah (oj := _) rfl rfl rfl GC.f (V.load Tryz.isAgg3 (OV.g rfl id) (fun _ => by repeat (first | exact Rd.here rfl | apply Rd.up))) rfl ?_
  refine WL.ah (oj := _) rfl rfl rfl GC.f (V.neq (OV.g rfl id) (OV.p rfl)) rfl (WL.ah (oj := _) rfl rfl rfl GC.f (V.move (OV.g rfl id)) rfl (WL.ah (oj := _) rfl rfl rfl GC.ct (V.fieldAddr mU (OV.p rfl)) rfl ?_))
  refine WL.ah (oj := _) rfl rfl rfl GC.ct (V.load Tryz.isAgg3 (OV.g rfl id) (fun _ => by repeat (first | exact Rd.here rfl | apply Rd.up))) rfl ?_
  refine WL.ah (oj := _) rfl rfl rfl GC.ct (V.neq (OV.g rfl id) (OV.p rfl)) rfl (WL.ah (oj := _) rfl rfl rfl GC.f (V.aD (OV.g rfl id) (OV.g rfl id)) rfl (WL.val (V.aS (OV.p rfl) (OV.g rfl id)) rfl (WL.mv rfl rfl (WL.ah (oj := _) rfl rfl rfl GC.f (V.fieldAddr lT (OV.p rfl)) rfl ?_))))
  refine WL.ah (oj := _) rfl rfl rfl GC.f (V.load Tryz.isAgg3 (OV.g rfl id) (fun _ => by repeat (first | exact Rd.here rfl | apply Rd.up))) rfl ?_
  refine WL.ah (oj := _) rfl rfl rfl GC.f (V.lss (OV.g rfl id) (OV.p rfl)) rfl (WL.val (V.aS (OV.p rfl) (OV.g rfl id)) rfl (WL.mv rfl rfl (WL.ah (oj := _) rfl rfl rfl GC.f (V.fieldAddr lT (OV.p rfl)) rfl ?_)))
  refine WL.ah (oj := _) rfl rfl rfl GC.f (V.load Tryz.isAgg3 (OV.g rfl id) (fun _ => by repeat (first | exact Rd.here rfl | apply Rd.up))) rfl ?_
  refine WL.ah (oj := _) rfl rfl rfl GC.f (V.gtr (OV.g rfl id) (OV.p rfl)) rfl (WL.val (V.aS (OV.p rfl) (OV.g rfl id)) rfl (WL.nil ?_))
  refine WC.cond rfl (fun hc1 => ?_) (fun hc1 => ?_)
  ·skip
   refine WC.sr (WL.sg rfl rfl (WL.nil (WC.ret ?_)))
   exact aj.ret (H' := T.A bs bd g :: F) (aL.tmp rfl rfl) (fun w h => h.sel 2 [1] rfl) ⟨rfl, rfl⟩
  ·skip
   refine WC.skip (WC.sr (WL.mv rfl rfl ?_))
   refine WL.sub (Sub.refl _) (fun w h => h.sel 2 [1, 0] rfl) ?_
   refine WL.call (vs := [_]) Tryz.call24 ⟨OV.p rfl, trivial⟩ (om hl) rfl ?_
   rintro _ _ ⟨rfl, rfl⟩
   refine WL.mv rfl rfl (WL.xt rfl rfl rfl (WL.xt rfl rfl rfl ?_))
   refine WL.alloc (cs := [(.int .i64 0), (.int .i64 0), (.bool false), (.int .i64 0), (.bool false)]) Tryz.zeroValue58 rfl rfl (fun b7 => ?_)
   refine WL.store (cs := [_, _, _, _, _]) Tryz.sizeOf58 (OV.p rfl) (OV.p rfl) rfl rfl rfl (by repeat (first | exact aQ.here (cs' := [_, _, _, _, _]) rfl rfl | apply aQ.up)) ?_
   refine WL.sg rfl rfl (WL.nil (WC.seq (WC.sr (WL.mv rfl rfl (WL.val (V.neq (OV.p rfl) (OV.p rfl)) rfl (WL.nil ?_))))))
   refine WC.bU rfl (by first | rfl | (simp; done) | (simp; omega)) ?_
   refine WC.sr (WL.mv rfl rfl (WL.sg rfl rfl (WL.nil (WC.ret ?_))))
   exact aj.ret (H' := T.A bs bd g :: F) (aL.tmp rfl rfl) (fun w h => h.sel 3 [1] rfl) ⟨rfl, rfl⟩
theorem Nv (S : ak) (n : Int) : (S.jY n).1.g = S.g := by unfold ak.jY ak.all; repeat (first | exact rfl | split)
theorem Cx (hC : C.Ok) (hg : C.g = g) (hT : T.Ok g) (hl : 11 ≤ (T.stands.length : Int)) (hlong : ∀ l ∈ T.sem.stale, l.length ≤ 1000000) (slot en sec err : Int) : Does Tryz.prog 28 #[ptr bs 0, ptr bc 0, .agg #[.int .i64 slot, .int .i64 en, .int .i64 sec, lw, .int .i64 err]] K (C.A bc :: bQ bd bc g :: T.A bs bd g :: F)
    (fun v H' => ∃ (C' : Cw) (T' : bI), C'.Ok ∧ C'.g = g ∧ T'.Ok g ∧ C'.sem = (uj C.sem T.sem slot sec err).1 ∧ T'.sem = (uj C.sem T.sem slot sec err).2.1 ∧ v = .int .i64 (uj C.sem T.sem slot sec err).2.2 ∧ H' = C'.A bc :: bQ bd bc g :: T'.A bs bd g :: F) := by
  obtain ⟨X, hX⟩ : ∃ X, X = uj C.sem T.sem slot sec err := ⟨_, rfl⟩
  rw [← hX]
  unfold uj at hX
  refine Does.enter Tryz.func28 rfl Tryz.ntmps28 rfl ?_
  simp only [aJ, Nat.reduceAdd]
  refine WC.sr ?_
  refine WL.box (cs := [_, _, _, _, _]) (OV.p rfl) rfl rfl (fun b5 => ?_)
  refine WL.sg rfl rfl (WL.nil (WC.seq (WC.sr (WL.mv rfl rfl (WL.val (V.ku Tryz.underlying28 (OV.p rfl) (OV.p rfl)) rfl (WL.mv rfl rfl (WL.ah (oj := _) rfl rfl rfl GC.f (V.move (OV.p rfl)) rfl (WL.ah (oj := _) rfl rfl rfl GC.f (V.ku Tryz.underlying27 (OV.g rfl id) (OV.p rfl)) rfl (WL.val (V.aS (OV.p rfl) (OV.g rfl id)) rfl (WL.nil ?_))))))))))
  refine WC.aM rfl (by first | rfl | (simp; done) | (simp; omega)) ?_
  refine WC.skip (WC.seq (WC.sr (WL.val (V.fieldAddr mM (OV.p rfl)) rfl (WL.ld Tryz.isAgg32 rfl rfl ?_))))
  refine WL.val (V.neq (OV.p rfl) (OV.p rfl)) rfl (WL.mv rfl rfl (WL.ah (oj := _) rfl rfl rfl GC.f (V.fieldAddr mU (OV.p rfl)) rfl ?_))
  refine WL.ah (oj := _) rfl rfl rfl GC.f (V.load Tryz.isAgg3 (OV.g rfl id) (fun _ => by repeat (first | exact Rd.here rfl | apply Rd.up))) rfl ?_
  refine WL.ah (oj := _) rfl rfl rfl GC.f (V.neq (OV.g rfl id) (OV.p rfl)) rfl (WL.ah (oj := _) rfl rfl rfl GC.f (V.move (OV.g rfl id)) rfl (WL.ah (oj := _) rfl rfl rfl GC.ct (V.fieldAddr mU (OV.p rfl)) rfl ?_))
  refine WL.ah (oj := _) rfl rfl rfl GC.ct (V.load Tryz.isAgg3 (OV.g rfl id) (fun _ => by repeat (first | exact Rd.here rfl | apply Rd.up))) rfl ?_
  refine WL.ah (oj := _) rfl rfl rfl GC.ct (V.neq (OV.g rfl id) (OV.p rfl)) rfl (WL.ah (oj := _) rfl rfl rfl GC.f (V.aD (OV.g rfl id) (OV.g rfl id)) rfl (WL.val (V.aS (OV.p rfl) (OV.g rfl id)) rfl (WL.mv rfl rfl (WL.ah (oj := _) rfl rfl rfl GC.f (V.fieldAddr lT (OV.p rfl)) rfl ?_))))
  refine WL.ah (oj := _) rfl rfl rfl GC.f (V.load Tryz.isAgg3 (OV.g rfl id) (fun _ => by repeat (first | exact Rd.here rfl | apply Rd.up))) rfl ?_
  refine WL.ah (oj := _) rfl rfl rfl GC.f (V.lss (OV.g rfl id) (OV.p rfl)) rfl (WL.val (V.aS (OV.p rfl) (OV.g rfl id)) rfl (WL.mv rfl rfl (WL.ah (oj := _) rfl rfl rfl GC.f (V.fieldAddr lT (OV.p rfl)) rfl ?_)))
  refine WL.ah (oj := _) rfl rfl rfl GC.f (V.load Tryz.isAgg3 (OV.g rfl id) (fun _ => by repeat (first | exact Rd.here rfl | apply Rd.up))) rfl ?_
  refine WL.ah (oj := _) rfl rfl rfl GC.f (V.gtr (OV.g rfl id) (OV.p rfl)) rfl (WL.val (V.aS (OV.p rfl) (OV.g rfl id)) rfl (WL.nil ?_))
  refine WC.cond rfl (fun hc1 => ?_) (fun hc1 => ?_)
  ·skip
   have h1 := hc1
   have hk : xM slot sec err = false := by unfold xM; simp at h1 ⊢; omega
   rw [if_pos hk] at hX
   refine WC.sr (WL.sg rfl rfl (WL.nil (WC.ret ?_)))
   subst hX
   exact aj.ret (H' := C.A bc :: bQ bd bc g :: T.A bs bd g :: F) (aL.tmp rfl rfl) (fun w h => h.sel 4 [1, 2, 3] rfl) ⟨C, T, hC, hg, hT, rfl, rfl, rfl, rfl⟩
  ·skip
   have h1 := hc1
   have hk : xM slot sec err = true := by unfold xM; simp at h1 ⊢; omega
   rw [if_neg (by rw [hk]; decide)] at hX
   have hsl : (slot = 0 ∨ slot = 1) ∧ 0 ≤ sec ∧ sec ≤ 64 := by unfold xM at hk; simp at hk; omega
   refine WC.skip (WC.sr (WL.mv rfl rfl ?_))
   refine WL.sub (Sub.refl _) (fun w h => h.sel 4 [1, 2, 3, 0] rfl) ?_
   refine WL.call (vs := [_]) Tryz.call24 ⟨OV.p rfl, trivial⟩ (nE hC hg hT hl) rfl ?_
   rintro _ _ ⟨T1, hT1, t1, rfl, rfl⟩
   obtain ⟨X1, hX1⟩ : ∃ X1, X1 = lQ C.sem T.sem := ⟨_, rfl⟩
   have hok := Nf C.sem T.sem
   have hst := (Iu C.sem T.sem).1
   rw [← hX1] at t1 hX hok hst ⊢
   refine WL.mv rfl rfl (WL.xt rfl rfl rfl (WL.xt rfl rfl rfl ?_))
   refine WL.alloc (cs := [(.int .i64 0), (.int .i64 0), (.bool false), (.int .i64 0), (.bool false)]) Tryz.zeroValue58 rfl rfl (fun b7 => ?_)
   refine WL.store (cs := [_, _, _, _, _]) Tryz.sizeOf58 (OV.p rfl) (OV.p rfl) rfl rfl rfl (by repeat (first | exact aQ.here (cs' := [_, _, _, _, _]) rfl rfl | apply aQ.up)) ?_
   refine WL.sg rfl rfl (WL.nil (WC.seq (WC.sr (WL.mv rfl rfl (WL.val (V.neq (OV.p rfl) (OV.p rfl)) rfl (WL.nil ?_))))))
   refine WC.cond rfl (fun hc2 => ?_) (fun hc2 => ?_)
   ·simp only [decide_eq_true_eq, decide_eq_false_iff_not, Bool.and_eq_true, Bool.or_eq_true, Bool.and_eq_false_iff, Bool.or_eq_false_iff, Bool.not_eq_true', Bool.not_eq_false', Bool.not_eq_true, Bool.not_eq_false, Int.not_lt, Int.not_le] at hc2
    have h2 := hc2
    rw [if_pos h2] at hX
    refine WC.sr (WL.mv rfl rfl (WL.sg rfl rfl (WL.nil (WC.ret ?_))))
    subst hX
    exact aj.ret (H' := C.A bc :: bQ bd bc g :: T1.A bs bd g :: F) (aL.tmp rfl rfl) (fun w h => h.sel 5 [1, 2, 3] rfl) ⟨C, T1, hC, hg, hT1, rfl, t1, rfl, rfl⟩
   ·simp only [decide_eq_true_eq, decide_eq_false_iff_not, Bool.and_eq_true, Bool.or_eq_true, Bool.and_eq_false_iff, Bool.or_eq_false_iff, Bool.not_eq_true', Bool.not_eq_false', Bool.not_eq_true, Bool.not_eq_false, Int.not_lt, Int.not_le] at hc2
    have h2 := hc2
    rw [if_neg (by omega)] at hX
    refine WC.skip (WC.sr ?_)
    refine WL.val (V.aU (vs := [_, _, _, _, _]) ⟨Tryz.isAgg58, Tryz.sizeOf58⟩ (OV.p rfl) rfl (fun _ => by repeat (first | exact aT.gets ⟨rfl, rfl, rfl, rfl, rfl, trivial⟩ | apply aT.up))) rfl ?_
    refine WL.val (V.fieldAddr mU (OV.p rfl)) rfl (WL.ld Tryz.isAgg3 rfl rfl ?_)
    refine WL.call (vs := [_, _]) Tryz.call94 ⟨OV.p rfl, OV.p rfl, trivial⟩ (zV X1.1 slot _ _) rfl ?_
    rintro _ H0 ⟨rfl, h0⟩
    subst H0
    refine WL.mv rfl rfl (WL.xt rfl rfl rfl (WL.xt rfl rfl rfl ?_))
    refine WL.store (cs := [_, _, _, _, _]) Tryz.sizeOf58 (OV.p rfl) (OV.p rfl) rfl rfl rfl (by repeat (first | exact aQ.here (cs' := [_, _, _, _, _]) rfl rfl | apply aQ.up)) ?_
    refine WL.nil (WC.seq (WC.sr (WL.mv rfl rfl ?_)))
    refine WL.val (V.aU (vs := [_, _, _, _, _]) ⟨Tryz.isAgg58, Tryz.sizeOf58⟩ (OV.p rfl) rfl (fun _ => by repeat (first | exact aT.gets ⟨rfl, rfl, rfl, rfl, rfl, trivial⟩ | apply aT.up))) rfl ?_
    refine WL.sub (Sub.refl _) (fun w h => h.sel 5 [1, 2, 3, 0, 4] rfl) ?_
    refine WL.call (vs := [_, _]) Tryz.call69 ⟨OV.p rfl, OV.p rfl, trivial⟩ (Jf hC hg hT1 (y5 hok hsl.1) (by rw [t1, hst]; exact hlong)) rfl ?_
    rintro _ _ ⟨C2, T2, hC2, g2, Fg, s2, t2, rfl, rfl⟩
    obtain ⟨X2, hX2⟩ : ∃ X2, X2 = aX C.sem T1.sem 0 (dX (X1.1.confirm slot).1) := ⟨_, rfl⟩
    rw [← t1, ← hX2] at hX
    rw [← hX2] at s2 t2 ⊢
    refine WL.sg rfl rfl (WL.nil (WC.sr (WL.mv rfl rfl (WL.val (V.neq (OV.p rfl) (OV.p rfl)) rfl (WL.nil ?_)))))
    refine WC.cond rfl (fun hc3 => ?_) (fun hc3 => ?_)
    ·simp only [decide_eq_true_eq, decide_eq_false_iff_not, Bool.and_eq_true, Bool.or_eq_true, Bool.and_eq_false_iff, Bool.or_eq_false_iff, Bool.not_eq_true', Bool.not_eq_false', Bool.not_eq_true, Bool.not_eq_false, Int.not_lt, Int.not_le] at hc3
     have h3 := hc3
     rw [if_pos h3] at hX
     refine WC.sr (WL.mv rfl rfl (WL.sg rfl rfl (WL.nil (WC.ret ?_))))
     subst hX
     exact aj.ret (H' := C2.A bc :: bQ bd bc g :: T2.A bs bd g :: F) (aL.tmp rfl rfl) (fun w h => h.sel 5 [0, 1, 2] rfl) ⟨C2, T2, hC2, g2, Fg, s2, t2, rfl, rfl⟩
    ·simp only [decide_eq_true_eq, decide_eq_false_iff_not, Bool.and_eq_true, Bool.or_eq_true, Bool.and_eq_false_iff, Bool.or_eq_false_iff, Bool.not_eq_true', Bool.not_eq_false', Bool.not_eq_true, Bool.not_eq_false, Int.not_lt, Int.not_le] at hc3
     have h3 := hc3
     rw [if_neg (by omega)] at hX
     refine WC.skip (WC.seq (WC.seq ?_))
     refine WC.fK (by kernel_rfl) (by kernel_rfl) ?_
     refine WQ.val (V.fieldAddr lT (OV.p rfl)) rfl ?_
     refine WQ.val (V.load Tryz.isAgg3 (OV.p rfl) (fun _ => by repeat (first | exact Rd.here rfl | apply Rd.up))) rfl ?_
     refine WQ.val (V.move (OV.p rfl)) rfl (WQ.call (vs := [_]) Tryz.call27 ⟨OV.p rfl, trivial⟩ (Ir (C := C2)) rfl (WQ.val (V.gtr (OV.p rfl) (OV.p rfl)) rfl (WQ.nil ?_)))
     refine WC.cond rfl (fun hc4 => ?_) (fun hc4 => ?_)
     ·simp only [decide_eq_true_eq, decide_eq_false_iff_not, Bool.and_eq_true, Bool.or_eq_true, Bool.and_eq_false_iff, Bool.or_eq_false_iff, Bool.not_eq_true', Bool.not_eq_false', Bool.not_eq_true, Bool.not_eq_false, Int.not_lt, Int.not_le] at hc4
      have h4 := hc4
      rw [s2] at h4
      rw [if_pos (by omega)] at hX
      refine WC.sr (WL.mv rfl rfl (WL.val (V.fieldAddr lT (OV.p rfl)) rfl (WL.ld Tryz.isAgg3 rfl rfl ?_)))
      refine WL.call (vs := [_, _]) Tryz.call95 ⟨OV.p rfl, OV.p rfl, trivial⟩ (Jp hC2 sec) rfl ?_
      rintro _ _ ⟨C3, Oa, rfl, s3, rfl⟩
      have g3 : C3.g = g := by rw [show C3.g = C3.sem.g from rfl, s3]; rw [Nv]; exact g2
      rw [s2]
      refine WL.sg rfl rfl (WL.nil (WC.ret ?_))
      subst hX
      exact aj.ret (H' := C3.A bc :: bQ bd bc g :: T2.A bs bd g :: F) (aL.tmp rfl rfl) (fun w h => h.sel 5 [0, 1, 2] rfl) ⟨C3, T2, Oa, g3, Fg, by rw [s3, s2], t2, rfl, rfl⟩
     ·simp only [decide_eq_true_eq, decide_eq_false_iff_not, Bool.and_eq_true, Bool.or_eq_true, Bool.and_eq_false_iff, Bool.or_eq_false_iff, Bool.not_eq_true', Bool.not_eq_false', Bool.not_eq_true, Bool.not_eq_false, Int.not_lt, Int.not_le] at hc4
      have h4 := hc4
      rw [s2] at h4
      rw [if_neg (by omega)] at hX
      refine WC.skip (WC.sr (WL.sg rfl rfl (WL.nil (WC.ret ?_))))
      subst hX
      exact aj.ret (H' := C2.A bc :: bQ bd bc g :: T2.A bs bd g :: F) (aL.tmp rfl rfl) (fun w h => h.sel 5 [0, 1, 2] rfl) ⟨C2, T2, hC2, g2, Fg, s2, t2, rfl, rfl⟩
end
end Go.Proofs.YtcedojacbhnbiaaGreat
