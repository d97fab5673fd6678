import Derived.Test.YtcedojacbhnbiaaGreatP5
import Derived.Test.YtcedojacbhnbiaaGreatP3
import Derived.Test.YtcedojacbhnbiaaGreatChecked
namespace Go.Proofs.YtcedojacbhnbiaaGreat
open Go.Sl Go.RowKit
set_option linter.unusedVariables false
set_option linter.unusedSimpArgs false
set_option maxRecDepth 20000
structure Geo where
  (bl pg se sb fl : Int)
  deriving DecidableEq
namespace Geo
abbrev v (g : Geo) : Value := .agg #[.int .i64 g.bl, .int .i64 g.pg, .int .i64 g.se, .int .i64 g.sb, .int .i64 g.fl]
def zero : Geo := ⟨0, 0, 0, 0, 0⟩
def aF (g : Geo) : Prop := 1 ≤ g.bl ∧ g.bl ≤ 256 ∧ 2 ≤ g.pg ∧ g.pg ≤ 64 ∧ 1 ≤ g.se ∧ g.se ≤ 8 ∧ 4 ≤ g.sb ∧ g.sb ≤ 512 ∧ g.sb % 4 = 0 ∧ 1 ≤ g.fl ∧ g.fl ≤ 8 ∧ 16 ≤ g.se * g.sb
instance (g : Geo) : Decidable g.aF := by unfold aF; infer_instance
def may (g : Geo) : Bool := decide g.aF
def more (g : Geo) : Int := (13 * g.fl + 7) / 8
def whole (g : Geo) : Int := g.sb + g.more
def raw (g : Geo) : Int := g.se * g.whole + 1
def room (g : Geo) : Int := g.se * g.sb
theorem qX {a b : Int} {A B : Int} (h1 : 0 ≤ a) (h2 : a ≤ A) (h3 : 0 ≤ b) (h4 : b ≤ B) : 0 ≤ a * b ∧ a * b ≤ A * B := ⟨Int.mul_nonneg h1 h3, Int.mul_le_mul h2 h4 h3 (by omega)⟩
theorem lH {g : Geo} (h : g.may = true) : g.aF := by simpa [may] using h
theorem LM {g : Geo} (h : g.aF) : 2 ≤ g.more ∧ g.more ≤ 13 := by unfold aF at h; unfold more; omega
theorem KS {g : Geo} (h : g.aF) : 6 ≤ g.whole ∧ g.whole ≤ 525 := by have := LM h; unfold aF at h; unfold whole; omega
theorem lX {g : Geo} (h : g.aF) : 7 ≤ g.raw ∧ g.raw ≤ 4201 := by
  have h1 := KS h
  have h2 : 1 ≤ g.se ∧ g.se ≤ 8 := by unfold aF at h; omega
  have h3 := qX (A := 8) (B := 525) (by omega : 0 ≤ g.se) h2.2 (by omega : 0 ≤ g.whole) h1.2
  have h4 : 1 * g.whole ≤ g.se * g.whole := Int.mul_le_mul_of_nonneg_right h2.1 (by omega)
  unfold raw
  omega
end Geo
theorem kM (n low high : Int) (K : World) (F : List au) : aG Tryz.prog 226 #[.int .i64 n, .int .i64 low, .int .i64 high] K F (.bool (decide (low ≤ n) && decide (n ≤ high))) := by
  refine Does.enter Tryz.func226 rfl Tryz.ntmps226 rfl ?_
  simp only [aJ, Nat.reduceAdd]
  refine WC.sr (WL.sg rfl rfl (WL.nil (WC.sr (WL.mv rfl rfl (WL.mv rfl rfl (WL.val (V.geq (OV.p rfl) (OV.p rfl)) rfl (WL.mv rfl rfl (WL.ah (oj := _) rfl rfl rfl GC.t (V.move (OV.p rfl)) rfl (WL.ah (oj := _) rfl rfl rfl GC.t (V.move (OV.p rfl)) rfl (WL.ah (oj := _) rfl rfl rfl GC.t (V.leq (OV.g rfl id) (OV.g rfl id)) rfl (WL.val (V.aD (OV.p rfl) (OV.g rfl id)) rfl (WL.sg rfl rfl (WL.nil (WC.ret ?_))))))))))))))
  exact aj.ret (H' := F) (aL.tmp rfl rfl) (fun w h => by repeat (first | exact h | replace h := h.tail)) ⟨rfl, rfl⟩
theorem Bj (g : Geo) (K : World) (F : List au) : aG Tryz.prog 161 #[g.v] K F (.int .i64 (if g.may then 0 else 1)) := by
  refine Does.enter Tryz.func161 rfl Tryz.ntmps161 rfl ?_
  simp only [aJ, Nat.reduceAdd]
  refine WC.sr ?_
  refine WL.box (cs := [_, _, _, _, _]) (OV.p rfl) rfl rfl (fun b1 => ?_)
  refine WL.sg rfl rfl (WL.nil (WC.sr (WL.val (V.fieldAddr jk (OV.p rfl)) rfl (WL.ld Tryz.isAgg3 rfl rfl ?_))))
  refine WL.call (vs := [_, _, _]) Tryz.call226 ⟨OV.p rfl, OV.p rfl, OV.p rfl, trivial⟩ (kM _ _ _ _ _) rfl ?_
  rintro _ H0 ⟨rfl, h0⟩
  subst H0
  refine WL.mv rfl rfl (WL.ah (oj := _) rfl rfl rfl GC.t (V.fieldAddr pJ (OV.p rfl)) rfl ?_)
  refine WL.ah (oj := _) rfl rfl rfl GC.t (V.load Tryz.isAgg3 (OV.g rfl id) (fun _ => by repeat (first | exact Rd.here rfl | apply Rd.up))) rfl ?_
  refine WL.kN (oj := _) (vs := [_, _, _]) rfl rfl rfl GC.t Tryz.call226 ⟨OV.g rfl id, OV.p rfl, OV.p rfl, trivial⟩ (fun hg => kM _ _ _ _ _) rfl ?_
  refine WL.val (V.aD (OV.p rfl) (OV.g rfl id)) rfl (WL.mv rfl rfl (WL.ah (oj := _) rfl rfl rfl GC.t (V.fieldAddr mR (OV.p rfl)) rfl ?_))
  refine WL.ah (oj := _) rfl rfl rfl GC.t (V.load Tryz.isAgg3 (OV.g rfl id) (fun _ => by repeat (first | exact Rd.here rfl | apply Rd.up))) rfl ?_
  refine WL.kN (oj := _) (vs := [_, _, _]) rfl rfl rfl GC.t Tryz.call226 ⟨OV.g rfl id, OV.p rfl, OV.p rfl, trivial⟩ (fun hg => kM _ _ _ _ _) rfl ?_
  refine WL.val (V.aD (OV.p rfl) (OV.g rfl id)) rfl (WL.mv rfl rfl (WL.ah (oj := _) rfl rfl rfl GC.t (V.fieldAddr gW (OV.p rfl)) rfl ?_))
  refine WL.ah (oj := _) rfl rfl rfl GC.t (V.load Tryz.isAgg3 (OV.g rfl id) (fun _ => by repeat (first | exact Rd.here rfl | apply Rd.up))) rfl ?_
  refine WL.kN (oj := _) (vs := [_, _, _]) rfl rfl rfl GC.t Tryz.call226 ⟨OV.g rfl id, OV.p rfl, OV.p rfl, trivial⟩ (fun hg => kM _ _ _ _ _) rfl ?_
  refine WL.val (V.aD (OV.p rfl) (OV.g rfl id)) rfl (WL.mv rfl rfl (WL.ah (oj := _) rfl rfl rfl GC.t (V.fieldAddr gW (OV.p rfl)) rfl ?_))
  refine WL.ah (oj := _) rfl rfl rfl GC.t (V.load Tryz.isAgg3 (OV.g rfl id) (fun _ => by repeat (first | exact Rd.here rfl | apply Rd.up))) rfl ?_
  refine WL.ah (oj := _) rfl rfl rfl GC.t (V.qH (OV.g rfl id) (OV.p rfl) (fun hc => by first | omega | (simp at hc; omega))) rfl ?_
  refine WL.ah (oj := _) rfl rfl rfl GC.t (V.eql (OV.g rfl id) (OV.p rfl)) rfl (WL.val (V.aD (OV.p rfl) (OV.g rfl id)) rfl (WL.mv rfl rfl (WL.ah (oj := _) rfl rfl rfl GC.t (V.fieldAddr rH (OV.p rfl)) rfl ?_)))
  refine WL.ah (oj := _) rfl rfl rfl GC.t (V.load Tryz.isAgg3 (OV.g rfl id) (fun _ => by repeat (first | exact Rd.here rfl | apply Rd.up))) rfl ?_
  refine WL.kN (oj := _) (vs := [_, _, _]) rfl rfl rfl GC.t Tryz.call226 ⟨OV.g rfl id, OV.p rfl, OV.p rfl, trivial⟩ (fun hg => kM _ _ _ _ _) rfl ?_
  refine WL.val (V.aD (OV.p rfl) (OV.g rfl id)) rfl (WL.mv rfl rfl (WL.ah (oj := _) rfl rfl rfl GC.t (V.fieldAddr mR (OV.p rfl)) rfl ?_))
  refine WL.ah (oj := _) rfl rfl rfl GC.t (V.load Tryz.isAgg3 (OV.g rfl id) (fun _ => by repeat (first | exact Rd.here rfl | apply Rd.up))) rfl ?_
  refine WL.ah (oj := _) rfl rfl rfl GC.t (V.fieldAddr gW (OV.p rfl)) rfl ?_
  refine WL.ah (oj := _) rfl rfl rfl GC.t (V.load Tryz.isAgg3 (OV.g rfl id) (fun _ => by repeat (first | exact Rd.here rfl | apply Rd.up))) rfl ?_
  refine WL.ah (oj := _) rfl rfl rfl GC.t (V.jQ (OV.g rfl id) (OV.g rfl id) (fun hc => by simp at hc; have := Geo.qX (a := g.se) (b := g.sb) (A := 8) (B := 512) (by omega) (by omega) (by omega) (by omega); omega)) rfl ?_
  refine WL.ah (oj := _) rfl rfl rfl GC.t (V.geq (OV.g rfl id) (OV.p rfl)) rfl (WL.val (V.aD (OV.p rfl) (OV.g rfl id)) rfl (WL.sg rfl rfl (WL.nil (WC.seq (WC.sr (WL.mv rfl rfl (WL.val (V.not (OV.p rfl)) rfl (WL.nil ?_))))))))
  refine WC.cond rfl (fun hc0 => ?_) (fun hc0 => ?_)
  ·simp only [decide_eq_true_eq, decide_eq_false_iff_not, Bool.and_eq_true, Bool.or_eq_true, Bool.and_eq_false_iff, Bool.or_eq_false_iff, Bool.not_eq_true', Bool.not_eq_false', Bool.not_eq_true, Bool.not_eq_false, Int.not_lt, Int.not_le] at hc0
   refine WC.sr (WL.sg rfl rfl (WL.nil (WC.ret ?_)))
   refine aj.ret (H' := F) (aL.tmp rfl rfl) (fun w h => by repeat (first | exact h | replace h := h.tail)) ⟨?_, rfl⟩
   rw [if_neg (fun h => by have h := Geo.lH h; unfold Geo.aF at h; omega)]
  ·simp only [decide_eq_true_eq, decide_eq_false_iff_not, Bool.and_eq_true, Bool.or_eq_true, Bool.and_eq_false_iff, Bool.or_eq_false_iff, Bool.not_eq_true', Bool.not_eq_false', Bool.not_eq_true, Bool.not_eq_false, Int.not_lt, Int.not_le] at hc0
   refine WC.skip (WC.sr (WL.sg rfl rfl (WL.nil (WC.ret ?_))))
   refine aj.ret (H' := F) (aL.tmp rfl rfl) (fun w h => by repeat (first | exact h | replace h := h.tail)) ⟨?_, rfl⟩
   rw [if_pos (by unfold Geo.may; rw [decide_eq_true_eq]; unfold Geo.aF; omega)]
theorem D6 (t : Int) (ht : 1 ≤ t ∧ t ≤ 8) (K : World) (F : List au) : aG Tryz.prog 227 #[.int .i64 t] K F (.tuple #[.int .i64 (13 * t), .int .i64 0]) := by
  refine Does.enter Tryz.func227 rfl Tryz.ntmps227 rfl ?_
  simp only [aJ, Nat.reduceAdd]
  refine WC.sr (WL.sg rfl rfl (WL.sg rfl rfl (WL.nil (WC.seq (WC.sr (WL.mv rfl rfl (WL.val (V.lss (OV.p rfl) (OV.p rfl)) rfl (WL.mv rfl rfl (WL.ah (oj := _) rfl rfl rfl GC.f (V.move (OV.p rfl)) rfl (WL.ah (oj := _) rfl rfl rfl GC.f (V.gtr (OV.g rfl id) (OV.p rfl)) rfl (WL.val (V.aS (OV.p rfl) (OV.g rfl id)) rfl (WL.nil ?_))))))))))))
  refine WC.aM rfl ((by simp; omega)) ?_
  refine WC.skip (WC.sr (WL.mv rfl rfl ?_))
  refine WL.val (V.jQ (OV.p rfl) (OV.p rfl) (fun hc => by first | omega | (simp at hc; omega))) rfl ?_
  refine WL.sg rfl rfl (WL.sg rfl rfl (WL.nil (WC.ret ?_)))
  exact aj.ret (H' := F) (aL.dJ rfl rfl rfl) (fun w h => by repeat (first | exact h | replace h := h.tail)) ⟨rfl, rfl⟩
theorem uP (g : Geo) (h : g.aF) (K : World) (F : List au) : aG Tryz.prog 162 #[g.v] K F (.int .i64 g.whole) := by
  have hb := h
  unfold Geo.aF at hb
  refine Does.enter Tryz.func162 rfl Tryz.ntmps162 rfl ?_
  simp only [aJ, Nat.reduceAdd]
  refine WC.sr ?_
  refine WL.box (cs := [_, _, _, _, _]) (OV.p rfl) rfl rfl (fun b1 => ?_)
  refine WL.sg rfl rfl (WL.nil (WC.sr (WL.val (V.fieldAddr rH (OV.p rfl)) rfl (WL.ld Tryz.isAgg3 rfl rfl ?_))))
  refine WL.call (vs := [_]) Tryz.call227 ⟨OV.p rfl, trivial⟩ (D6 _ (by omega) _ _) rfl ?_
  rintro _ H0 ⟨rfl, h0⟩
  subst H0
  refine WL.mv rfl rfl (WL.xt rfl rfl rfl (WL.xt rfl rfl rfl (WL.sg rfl rfl (WL.sg rfl rfl (WL.nil (WC.sr (WL.val (V.fieldAddr gW (OV.p rfl)) rfl (WL.ld Tryz.isAgg3 rfl rfl ?_))))))))
  refine WL.mv rfl rfl (WL.ad rfl rfl rfl ?_)
  refine WL.val (V.rR (OV.p rfl) (OV.p rfl) (fun hc => by first | omega | (simp at hc; omega))) rfl ?_
  refine WL.ad rfl rfl rfl ?_
  refine WL.sg rfl rfl (WL.nil (WC.ret ?_))
  exact aj.ret (H' := F) (aL.tmp rfl rfl) (fun w h => by repeat (first | exact h | replace h := h.tail)) ⟨rfl, rfl⟩
theorem Ca (g : Geo) (K : World) (F : List au) : aG Tryz.prog 96 #[g.v] K F (.tuple (if g.may then #[.int .i64 g.raw, .int .i64 0] else #[.int .i64 0, .int .i64 1])) := by
  refine Does.enter Tryz.func96 rfl Tryz.ntmps96 rfl ?_
  simp only [aJ, Nat.reduceAdd]
  refine WC.sr ?_
  refine WL.box (cs := [_, _, _, _, _]) (OV.p rfl) rfl rfl (fun b1 => ?_)
  refine WL.sg rfl rfl (WL.sg rfl rfl (WL.nil (WC.seq (WC.sr ?_))))
  refine WL.val (V.aU (vs := [_, _, _, _, _]) ⟨Tryz.isAgg23, Tryz.sizeOf23⟩ (OV.p rfl) rfl (fun _ => by repeat (first | exact aT.gets ⟨rfl, rfl, rfl, rfl, rfl, trivial⟩ | apply aT.up))) rfl ?_
  refine WL.call (vs := [_]) Tryz.call161 ⟨OV.p rfl, trivial⟩ (Bj g _ _) rfl ?_
  rintro _ H0 ⟨rfl, h0⟩
  subst H0
  refine WL.sg rfl rfl (WL.nil (WC.sr (WL.mv rfl rfl (WL.val (V.neq (OV.p rfl) (OV.p rfl)) rfl (WL.nil ?_)))))
  refine WC.cond rfl (fun hc0 => ?_) (fun hc0 => ?_)
  ·skip
   have hm : g.may = false := by cases h : g.may <;> simp [h] at hc0 ⊢
   refine WC.sr (WL.mv rfl rfl (WL.sg rfl rfl (WL.sg rfl rfl (WL.nil (WC.ret ?_)))))
   rw [hm]
   exact aj.ret (H' := F) (aL.dJ rfl rfl rfl) (fun w h => by repeat (first | exact h | replace h := h.tail)) ⟨rfl, rfl⟩
  ·skip
   have hm : g.may = true := by cases h : g.may <;> simp [h] at hc0 ⊢
   have hb := Geo.lH hm
   have hr := Geo.lX hb
   unfold Geo.raw at hr
   refine WC.skip (WC.seq ?_)
   refine WC.fK (by kernel_rfl) (by kernel_rfl) ?_
   refine WQ.val (V.fieldAddr mR (OV.p rfl)) rfl ?_
   refine WQ.val (V.load Tryz.isAgg3 (OV.p rfl) (fun _ => by repeat (first | exact Rd.here rfl | apply Rd.up))) rfl ?_
   refine WQ.val (V.aU (vs := [_, _, _, _, _]) ⟨Tryz.isAgg23, Tryz.sizeOf23⟩ (OV.p rfl) rfl (fun _ => by repeat (first | exact aT.gets ⟨rfl, rfl, rfl, rfl, rfl, trivial⟩ | apply aT.up))) rfl ?_
   refine WQ.call (vs := [_]) Tryz.call162 ⟨OV.p rfl, trivial⟩ (uP g hb _ _) rfl ?_
   refine WQ.val (V.jQ (OV.p rfl) (OV.p rfl) (fun hc => by omega)) rfl ?_
   refine WQ.val (V.jO (OV.p rfl) (OV.p rfl) (fun hc => by omega)) rfl ?_
   refine WQ.val (V.assign (OV.p rfl)) rfl (WQ.val (V.assign (OV.p rfl)) rfl (WQ.nil (WC.ret ?_)))
   refine aj.ret (H' := F) (aL.dJ rfl rfl rfl) (fun w h => by repeat (first | exact h | replace h := h.tail)) ⟨?_, rfl⟩
   rw [hm]; rfl
theorem IC (g : Geo) (K : World) (F : List au) : aG Tryz.prog 59 #[g.v] K F (.bool g.may) := by
  refine Does.enter Tryz.func59 rfl Tryz.ntmps59 rfl ?_
  simp only [aJ, Nat.reduceAdd]
  refine WC.sr ?_
  refine WL.box (cs := [_, _, _, _, _]) (OV.p rfl) rfl rfl (fun b1 => ?_)
  refine WL.sg rfl rfl (WL.nil (WC.sr (WL.val (V.fieldAddr jk (OV.p rfl)) rfl (WL.ld Tryz.isAgg3 rfl rfl ?_))))
  refine WL.val (V.geq (OV.p rfl) (OV.p rfl)) rfl (WL.mv rfl rfl (WL.ah (oj := _) rfl rfl rfl GC.t (V.fieldAddr jk (OV.p rfl)) rfl ?_))
  refine WL.ah (oj := _) rfl rfl rfl GC.t (V.load Tryz.isAgg3 (OV.g rfl id) (fun _ => by repeat (first | exact Rd.here rfl | apply Rd.up))) rfl ?_
  refine WL.ah (oj := _) rfl rfl rfl GC.t (V.leq (OV.g rfl id) (OV.p rfl)) rfl (WL.val (V.aD (OV.p rfl) (OV.g rfl id)) rfl (WL.mv rfl rfl (WL.ah (oj := _) rfl rfl rfl GC.t (V.fieldAddr pJ (OV.p rfl)) rfl ?_)))
  refine WL.ah (oj := _) rfl rfl rfl GC.t (V.load Tryz.isAgg3 (OV.g rfl id) (fun _ => by repeat (first | exact Rd.here rfl | apply Rd.up))) rfl ?_
  refine WL.ah (oj := _) rfl rfl rfl GC.t (V.geq (OV.g rfl id) (OV.p rfl)) rfl (WL.val (V.aD (OV.p rfl) (OV.g rfl id)) rfl (WL.mv rfl rfl (WL.ah (oj := _) rfl rfl rfl GC.t (V.fieldAddr pJ (OV.p rfl)) rfl ?_)))
  refine WL.ah (oj := _) rfl rfl rfl GC.t (V.load Tryz.isAgg3 (OV.g rfl id) (fun _ => by repeat (first | exact Rd.here rfl | apply Rd.up))) rfl ?_
  refine WL.ah (oj := _) rfl rfl rfl GC.t (V.leq (OV.g rfl id) (OV.p rfl)) rfl (WL.val (V.aD (OV.p rfl) (OV.g rfl id)) rfl (WL.mv rfl rfl (WL.ah (oj := _) rfl rfl rfl GC.t (V.fieldAddr mR (OV.p rfl)) rfl ?_)))
  refine WL.ah (oj := _) rfl rfl rfl GC.t (V.load Tryz.isAgg3 (OV.g rfl id) (fun _ => by repeat (first | exact Rd.here rfl | apply Rd.up))) rfl ?_
  refine WL.ah (oj := _) rfl rfl rfl GC.t (V.geq (OV.g rfl id) (OV.p rfl)) rfl (WL.val (V.aD (OV.p rfl) (OV.g rfl id)) rfl (WL.mv rfl rfl (WL.ah (oj := _) rfl rfl rfl GC.t (V.fieldAddr mR (OV.p rfl)) rfl ?_)))
  refine WL.ah (oj := _) rfl rfl rfl GC.t (V.load Tryz.isAgg3 (OV.g rfl id) (fun _ => by repeat (first | exact Rd.here rfl | apply Rd.up))) rfl ?_
  refine WL.ah (oj := _) rfl rfl rfl GC.t (V.leq (OV.g rfl id) (OV.p rfl)) rfl (WL.val (V.aD (OV.p rfl) (OV.g rfl id)) rfl (WL.mv rfl rfl (WL.ah (oj := _) rfl rfl rfl GC.t (V.fieldAddr gW (OV.p rfl)) rfl ?_)))
  refine WL.ah (oj := _) rfl rfl rfl GC.t (V.load Tryz.isAgg3 (OV.g rfl id) (fun _ => by repeat (first | exact Rd.here rfl | apply Rd.up))) rfl ?_
  refine WL.ah (oj := _) rfl rfl rfl GC.t (V.geq (OV.g rfl id) (OV.p rfl)) rfl (WL.val (V.aD (OV.p rfl) (OV.g rfl id)) rfl (WL.mv rfl rfl (WL.ah (oj := _) rfl rfl rfl GC.t (V.fieldAddr gW (OV.p rfl)) rfl ?_)))
  refine WL.ah (oj := _) rfl rfl rfl GC.t (V.load Tryz.isAgg3 (OV.g rfl id) (fun _ => by repeat (first | exact Rd.here rfl | apply Rd.up))) rfl ?_
  refine WL.ah (oj := _) rfl rfl rfl GC.t (V.leq (OV.g rfl id) (OV.p rfl)) rfl (WL.val (V.aD (OV.p rfl) (OV.g rfl id)) rfl (WL.mv rfl rfl (WL.ah (oj := _) rfl rfl rfl GC.t (V.fieldAddr gW (OV.p rfl)) rfl ?_)))
  refine WL.ah (oj := _) rfl rfl rfl GC.t (V.load Tryz.isAgg3 (OV.g rfl id) (fun _ => by repeat (first | exact Rd.here rfl | apply Rd.up))) rfl ?_
  refine WL.ah (oj := _) rfl rfl rfl GC.t (V.qH (OV.g rfl id) (OV.p rfl) (fun hc => by first | omega | (simp at hc; omega))) rfl ?_
  refine WL.ah (oj := _) rfl rfl rfl GC.t (V.eql (OV.g rfl id) (OV.p rfl)) rfl (WL.val (V.aD (OV.p rfl) (OV.g rfl id)) rfl (WL.mv rfl rfl (WL.ah (oj := _) rfl rfl rfl GC.t (V.fieldAddr rH (OV.p rfl)) rfl ?_)))
  refine WL.ah (oj := _) rfl rfl rfl GC.t (V.load Tryz.isAgg3 (OV.g rfl id) (fun _ => by repeat (first | exact Rd.here rfl | apply Rd.up))) rfl ?_
  refine WL.ah (oj := _) rfl rfl rfl GC.t (V.geq (OV.g rfl id) (OV.p rfl)) rfl (WL.val (V.aD (OV.p rfl) (OV.g rfl id)) rfl (WL.mv rfl rfl (WL.ah (oj := _) rfl rfl rfl GC.t (V.fieldAddr rH (OV.p rfl)) rfl ?_)))
  refine WL.ah (oj := _) rfl rfl rfl GC.t (V.load Tryz.isAgg3 (OV.g rfl id) (fun _ => by repeat (first | exact Rd.here rfl | apply Rd.up))) rfl ?_
  refine WL.ah (oj := _) rfl rfl rfl GC.t (V.leq (OV.g rfl id) (OV.p rfl)) rfl (WL.val (V.aD (OV.p rfl) (OV.g rfl id)) rfl (WL.mv rfl rfl (WL.ah (oj := _) rfl rfl rfl GC.t (V.fieldAddr mR (OV.p rfl)) rfl ?_)))
  refine WL.ah (oj := _) rfl rfl rfl GC.t (V.load Tryz.isAgg3 (OV.g rfl id) (fun _ => by repeat (first | exact Rd.here rfl | apply Rd.up))) rfl ?_
  refine WL.ah (oj := _) rfl rfl rfl GC.t (V.fieldAddr gW (OV.p rfl)) rfl ?_
  refine WL.ah (oj := _) rfl rfl rfl GC.t (V.load Tryz.isAgg3 (OV.g rfl id) (fun _ => by repeat (first | exact Rd.here rfl | apply Rd.up))) rfl ?_
  refine WL.ah (oj := _) rfl rfl rfl GC.t (V.jQ (OV.g rfl id) (OV.g rfl id) (fun hc => by simp at hc; have := Geo.qX (a := g.se) (b := g.sb) (A := 8) (B := 512) (by omega) (by omega) (by omega) (by omega); omega)) rfl ?_
  refine WL.ah (oj := _) rfl rfl rfl GC.t (V.geq (OV.g rfl id) (OV.p rfl)) rfl (WL.val (V.aD (OV.p rfl) (OV.g rfl id)) rfl (WL.sg rfl rfl (WL.nil (WC.ret ?_))))
  refine aj.ret (H' := F) (aL.tmp rfl rfl) (fun w h => by repeat (first | exact h | replace h := h.tail)) ⟨?_, rfl⟩
  congr 1
  rw [Bool.eq_iff_iff]
  unfold Geo.may
  rw [decide_eq_true_eq]
  unfold Geo.aF
  simp
  omega
theorem Gf (g : Geo) (h : g.aF) (K : World) (F : List au) : aG Tryz.prog 60 #[g.v] K F (.int .i64 g.room) := by
  have hb := h
  unfold Geo.aF at hb
  have := Geo.qX (a := g.se) (b := g.sb) (A := 8) (B := 512) (by omega) (by omega) (by omega) (by omega)
  refine Does.enter Tryz.func60 rfl Tryz.ntmps60 rfl ?_
  simp only [aJ, Nat.reduceAdd]
  refine WC.sr ?_
  refine WL.box (cs := [_, _, _, _, _]) (OV.p rfl) rfl rfl (fun b1 => ?_)
  refine WL.sg rfl rfl (WL.nil (WC.sr (WL.val (V.fieldAddr mR (OV.p rfl)) rfl (WL.ld Tryz.isAgg3 rfl rfl ?_))))
  refine WL.val (V.fieldAddr gW (OV.p rfl)) rfl (WL.ld Tryz.isAgg3 rfl rfl ?_)
  refine WL.val (V.jQ (OV.p rfl) (OV.p rfl) (fun hc => by first | omega | (simp at hc; omega))) rfl ?_
  refine WL.sg rfl rfl (WL.nil (WC.ret ?_))
  exact aj.ret (H' := F) (aL.tmp rfl rfl) (fun w h => by repeat (first | exact h | replace h := h.tail)) ⟨rfl, rfl⟩
def Geo.small (g : Geo) : Bool := !g.may || (decide (g.room ≤ 32) && decide (g.bl ≤ 16) && decide (g.pg ≤ 8))
open Go.Sl Go.ChangeShapes Go.WideShapes Go.ChangeAt Go.RowKit
theorem Js : ownKnob Tryz.prog.godebug = none := by kernel_rfl
theorem xk : laidOutB Tryz.prog = true := by kernel_rfl
theorem nV {P : Program} {W : World} {r : Reach} {base : Nat} {t : TypeId} {k : IntKind} {v : Value} (hu : P.underlying t = some (.int k)) (h : Value.okWide P W r base t v) : ∃ i, v = .int k i ∧ k.min ≤ i ∧ i ≤ k.max := by
  have h' : Cell.okWide P W r base t v := by simpa only [Value.okWide, hu] using h
  exact (Kk h').int hu
set_option maxRecDepth 100000 in
theorem Kq {W : World} {r : Reach} {base : Nat} {v : Value} (h : Value.okWide Tryz.prog W r base 23 v) : ∃ g : Geo, v = g.v := by
  obtain ⟨cs, rfl, hsz, hc⟩ := C9 (ts := [3, 3, 3, 3, 3]) ⟨_, Tryz.underlying23, .inl ⟨_, rfl⟩⟩ (by kernel_rfl) (by kernel_rfl) h
  obtain ⟨l⟩ := cs
  match l, hsz with
  | [c0, c1, c2, c3, c4], _ =>
    obtain ⟨x0, rfl, _⟩ := (hc 0 _ c0 rfl rfl).int Tryz.underlying3
    obtain ⟨x1, rfl, _⟩ := (hc 1 _ c1 rfl rfl).int Tryz.underlying3
    obtain ⟨x2, rfl, _⟩ := (hc 2 _ c2 rfl rfl).int Tryz.underlying3
    obtain ⟨x3, rfl, _⟩ := (hc 3 _ c3 rfl rfl).int Tryz.underlying3
    obtain ⟨x4, rfl, _⟩ := (hc 4 _ c4 rfl rfl).int Tryz.underlying3
    exact ⟨⟨x0, x1, x2, x3, x4⟩, rfl⟩
def nM (P : Program) (fn : Func) (s : ChangeSpec) (c : OpenClaim) : Bool :=
  c.wf (OpenSpec.ofChange s) && fn.params.all (P.readableRec ·) && namedTie P c.named s.vars &&
  (c.stops == []) && (P.stops == []) && (c.knobs == []) && (P.stopKnobs == []) &&
  (c.maps == (fn.params.toList ++ s.plain.varTypes P).any (P.mapsRec ·)) && (c.ifaces == (fn.params.toList ++ s.plain.varTypes P).any (P.ifacesRec ·)) && (c.mapsOut == P.mapsAmong fn.resultTypes.toList) &&
  (c.loops == (fn.params.toList ++ s.plain.varTypes P).any (P.loopsFrom ·)) && (c.wideKeys == (fn.params.toList ++ s.plain.varTypes P ++ fn.resultTypes.toList).any (P.wideKeysFrom ·)) &&
  s.vars.all (P.varReadable ·) && fn.resultTypes.all (fun t => P.readableRec t && decide (t < P.types.size)) && (c.ifacesOut == fn.resultTypes.toList.any (P.ifacesRec ·)) && (c.loopsOut == fn.resultTypes.toList.any (P.loopsFrom ·)) && (c.plainKeys == P.plainKeys) && c.shortTexts.isNone &&
  (c.kinds == (if c.domain.isEmpty then [] else fn.params.toList.map fun t => match P.underlying t with | some (.int k) => some k | _ => none)) && (c.pinned == c.pinnedBy) &&
  (c.veiled == (fn.params.toList ++ s.plain.varTypes P ++ fn.resultTypes.toList).any (P.veiledRec ·)) && c.veiledFits P fn.params.toList (fn.params.toList ++ s.plain.varTypes P ++ fn.resultTypes.toList)
theorem AA {P : Program} {f : FuncId} {fn : Func} {s : ChangeSpec} {c : OpenClaim} (h1 : laidOutB P = true) (h2 : mapsRowed P = true) (h7 : P.stopsHeard = true) (h8 : P.mayEnter = true)
    (h3 : (c.inPlace == P.inPlace f) = true) (h4 : (c.unfollowed == P.unfollowed f) = true) (h5 : (c.recurses == P.recurses f) = true) (h6 : (c.named == P.varsNamed f) = true)
    (h9 : (c.lifted == P.liftsFinal) = true) (h10 : (P.make == some c.make) = true) (rest : nM P fn s c = true) : joinedFacts P f fn s c = true := by
  simp only [nM, Bool.and_eq_true] at rest
  obtain ⟨⟨⟨⟨⟨⟨⟨⟨⟨⟨⟨⟨⟨⟨⟨⟨⟨⟨⟨⟨⟨r1, r2⟩, r3⟩, r4⟩, r5⟩, r6⟩, r7⟩, r8⟩, r9⟩, Sb⟩, RI⟩, Sq⟩, RS⟩, Ru⟩, RA⟩, r16⟩, RD⟩, RZ⟩, RB⟩, Ry⟩, R8⟩, Rt⟩ := rest
  simp only [joinedFacts, Bool.and_eq_true]
  exact ⟨⟨⟨⟨⟨⟨⟨⟨⟨⟨⟨⟨⟨⟨⟨⟨⟨⟨⟨⟨⟨⟨⟨⟨⟨⟨⟨⟨⟨⟨⟨r1, h1⟩, h2⟩, r2⟩, r3⟩, r4⟩, r5⟩, r6⟩, r7⟩, h3⟩, h4⟩, h5⟩, h6⟩, r8⟩, r9⟩, Sb⟩, RI⟩, Sq⟩, RS⟩, Ru⟩, RA⟩, r16⟩, RD⟩, RZ⟩, h7⟩, h8⟩, h9⟩, h10⟩, RB⟩, Ry⟩, R8⟩, Rt⟩
set_option maxRecDepth 100000
theorem Km : mapsRowed Tryz.prog = true := by kernel_rfl
theorem GQ : Program.stopsHeard Tryz.prog = true := by kernel_rfl
theorem Gy : Program.mayEnter Tryz.prog = true := by kernel_rfl
end Go.Proofs.YtcedojacbhnbiaaGreat
