/- The law package casematelaw22: awake and the laws of casematelaw22/more.go. -/
import Derived.Test.YtcgbmifpmaembaaS2
namespace Go.Proofs.Ytcgbmifpmaembaa
open Go.Sl Go.RowKit
set_option linter.unusedVariables false
set_option linter.unusedSimpArgs false
set_option maxRecDepth 20000
theorem SlA.seqI {K : World} {H : List Assn} {A : Option Addr} {cap E : Nat} {k : IntKind} {xs : List Int} : Seq K (SlA (.slice A xs.length cap) E 1 xs.length (ints k xs) :: H) A xs.length 1 (ints k xs) := SlA.seq (by simp [ints])

theorem law22_awake (K : World) (F : List Assn) : Tells Try.prog 9 #[] K F (.bool true) := by
  have i1 : Slo.zero.install 1 = (⟨1, 0, false, 7, false⟩, 0) := by decide
  have i0 : Slo.zero.install 0 = (Slo.zero, 1) := by decide
  have y1 : (Slo.mk 1 0 false 7 false).try_ 1 = (⟨1, 0, false, 6, false⟩, 0) := by decide
  have o1 : (Slo.mk 1 0 false 7 false).order = [1] := by decide
  have ok1 : (Slo.mk 1 0 false 7 false).chk = 0 := by decide
  have b0 : Slo.zero.bytes = [115, 108, 111, 116, 0, 0, 0, 0, 0] := by decide
  refine Does.enter Try.func9 rfl Try.ntmps9 rfl ?_
  simp only [env0, Nat.reduceAdd]
  refine WC.seq ?_
  refine WC.region ?_
  refine WL.val (V.assign (OV.p rfl)) rfl ?_
  refine WL.nil ?_
  refine WC.seq ?_
  refine WC.region ?_
  refine WL.call (vs := []) Try.call18 trivial (slots_Start _ _) rfl ?_
  rintro _ H0 ⟨rfl, h0⟩
  subst H0
  refine WL.call (vs := [_, _]) Try.call10 ⟨OV.p rfl, OV.p rfl, trivial⟩ ((by have := slots_Install Slo.zero 1 K; rw [i1] at this; exact this _)) rfl ?_
  rintro _ H0 ⟨rfl, h0⟩
  subst H0
  refine WL.val (V.move (OV.p rfl)) rfl ?_
  refine WL.val (V.extract (OV.p rfl) rfl) rfl ?_
  refine WL.val (V.extract (OV.p rfl) rfl) rfl ?_
  refine WL.alloc (cs := [(.int .i64 0), (.int .i64 0), (.bool false), (.int .i64 0), (.bool false)]) Try.zeroValue26 rfl rfl (fun b1 => ?_)
  refine WL.store (cs := [_, _, _, _, _]) Try.sizeOf26 (OV.p rfl) (OV.p rfl) rfl rfl rfl (by repeat (first | exact Upd.here (cs' := [_, _, _, _, _]) rfl rfl | apply Upd.up)) ?_
  refine WL.val (V.assign (OV.p rfl)) rfl ?_
  refine WL.nil ?_
  refine WC.seq ?_
  refine WC.region ?_
  refine WL.val (V.loadA (vs := [_, _, _, _, _]) ⟨Try.isAgg26, Try.sizeOf26⟩ (OV.p rfl) rfl (fun _ => by repeat (first | exact Rds.gets ⟨rfl, rfl, rfl, rfl, rfl, trivial⟩ | apply Rds.up))) rfl ?_
  refine WL.call (vs := [_]) Try.call8 ⟨OV.p rfl, trivial⟩ ((by have := slots_Order ⟨1, 0, false, 7, false⟩ K; rw [o1, ok1] at this; exact this _)) rfl ?_
  rintro _ _ ⟨A3, c3, rfl, rfl⟩
  refine WL.val (V.move (OV.p rfl)) rfl ?_
  refine WL.val (V.extract (OV.p rfl) rfl) rfl ?_
  refine WL.val (V.extract (OV.p rfl) rfl) rfl ?_
  refine WL.val (V.assign (OV.p rfl)) rfl ?_
  refine WL.val (V.assign (OV.p rfl)) rfl ?_
  refine WL.nil ?_
  refine WC.seq ?_
  refine WC.region ?_
  refine WL.val (V.loadA (vs := [_, _, _, _, _]) ⟨Try.isAgg26, Try.sizeOf26⟩ (OV.p rfl) rfl (fun _ => by repeat (first | exact Rds.gets ⟨rfl, rfl, rfl, rfl, rfl, trivial⟩ | apply Rds.up))) rfl ?_
  refine WL.call (vs := [_, _]) Try.call11 ⟨OV.p rfl, OV.p rfl, trivial⟩ ((by have := slots_Try ⟨1, 0, false, 7, false⟩ 1 K; rw [y1] at this; exact this _)) rfl ?_
  rintro _ H0 ⟨rfl, h0⟩
  subst H0
  refine WL.val (V.move (OV.p rfl)) rfl ?_
  refine WL.val (V.extract (OV.p rfl) rfl) rfl ?_
  refine WL.val (V.extract (OV.p rfl) rfl) rfl ?_
  refine WL.alloc (cs := [(.int .i64 0), (.int .i64 0), (.bool false), (.int .i64 0), (.bool false)]) Try.zeroValue26 rfl rfl (fun b5 => ?_)
  refine WL.store (cs := [_, _, _, _, _]) Try.sizeOf26 (OV.p rfl) (OV.p rfl) rfl rfl rfl (by repeat (first | exact Upd.here (cs' := [_, _, _, _, _]) rfl rfl | apply Upd.up)) ?_
  refine WL.val (V.assign (OV.p rfl)) rfl ?_
  refine WL.nil ?_
  refine WC.seq ?_
  refine WC.region ?_
  refine WL.call (vs := []) Try.call18 trivial (slots_Start _ _) rfl ?_
  rintro _ H0 ⟨rfl, h0⟩
  subst H0
  refine WL.call (vs := [_, _]) Try.call10 ⟨OV.p rfl, OV.p rfl, trivial⟩ ((by have := slots_Install Slo.zero 0 K; rw [i0] at this; exact this _)) rfl ?_
  rintro _ H0 ⟨rfl, h0⟩
  subst H0
  refine WL.val (V.move (OV.p rfl)) rfl ?_
  refine WL.val (V.extract (OV.p rfl) rfl) rfl ?_
  refine WL.val (V.extract (OV.p rfl) rfl) rfl ?_
  refine WL.alloc (cs := [(.int .i64 0), (.int .i64 0), (.bool false), (.int .i64 0), (.bool false)]) Try.zeroValue26 rfl rfl (fun b7 => ?_)
  refine WL.store (cs := [_, _, _, _, _]) Try.sizeOf26 (OV.p rfl) (OV.p rfl) rfl rfl rfl (by repeat (first | exact Upd.here (cs' := [_, _, _, _, _]) rfl rfl | apply Upd.up)) ?_
  refine WL.val (V.assign (OV.p rfl)) rfl ?_
  refine WL.nil ?_
  refine WC.seq ?_
  refine WC.region ?_
  refine WL.call (vs := []) Try.call18 trivial (slots_Start _ _) rfl ?_
  rintro _ H0 ⟨rfl, h0⟩
  subst H0
  refine WL.call (vs := [_]) Try.call13 ⟨OV.p rfl, trivial⟩ (slots_Bytes Slo.zero _ _) rfl ?_
  rintro v H' (⟨hok, bb, rfl, rfl⟩ | ⟨hok, rfl, rfl⟩)
  rotate_left
  · cases hok
  refine WL.val (V.move (OV.p rfl)) rfl ?_
  refine WL.val (V.extract (OV.p rfl) rfl) rfl ?_
  refine WL.val (V.extract (OV.p rfl) rfl) rfl ?_
  refine WL.val (V.assign (OV.p rfl)) rfl ?_
  refine WL.val (V.assign (OV.p rfl)) rfl ?_
  refine WL.nil ?_
  refine WC.seq ?_
  refine WC.region ?_
  refine WL.val (V.move (OV.p rfl)) rfl ?_
  refine WL.val (V.eql (OV.p rfl) (OV.p rfl)) rfl ?_
  refine WL.val (V.move (OV.p rfl)) rfl ?_
  refine WL.known (oj := _) rfl rfl rfl rfl ?_
  refine WL.val (V.fieldAddr fo26_0 (OV.p rfl)) rfl ?_
  refine WL.known (oj := _) rfl rfl rfl rfl ?_
  refine WL.val (V.load Try.isAgg3 (OV.p rfl) (fun _ => by repeat (first | exact Rd.here rfl | apply Rd.up))) rfl ?_
  refine WL.known (oj := _) rfl rfl rfl rfl ?_
  refine WL.val (V.eql (OV.p rfl) (OV.p rfl)) rfl ?_
  refine WL.val (V.pickAnd (OV.p rfl) (OV.p rfl)) rfl ?_
  refine WL.val (V.move (OV.p rfl)) rfl ?_
  refine WL.known (oj := _) rfl rfl rfl rfl ?_
  refine WL.val (V.fieldAddr fo26_1 (OV.p rfl)) rfl ?_
  refine WL.known (oj := _) rfl rfl rfl rfl ?_
  refine WL.val (V.idxA at24 (OV.p rfl) (OV.p rfl) (fun hc => by first | omega | (simp at hc; omega))) rfl ?_
  refine WL.known (oj := _) rfl rfl rfl rfl ?_
  refine WL.val (V.fieldAddr fo23_0 (OV.p rfl)) rfl ?_
  refine WL.known (oj := _) rfl rfl rfl rfl ?_
  refine WL.val (V.load Try.isAgg3 (OV.p rfl) (fun _ => by repeat (first | exact Rd.here rfl | apply Rd.up))) rfl ?_
  refine WL.known (oj := _) rfl rfl rfl rfl ?_
  refine WL.val (V.eql (OV.p rfl) (OV.p rfl)) rfl ?_
  refine WL.val (V.pickAnd (OV.p rfl) (OV.p rfl)) rfl ?_
  refine WL.val (V.move (OV.p rfl)) rfl ?_
  refine WL.known (oj := _) rfl rfl rfl rfl ?_
  refine WL.val (V.move (OV.p rfl)) rfl ?_
  refine WL.known (oj := _) rfl rfl rfl rfl ?_
  refine WL.buildSlice (E := 3) (cs := [_]) (vs := [(0, _)]) ⟨OV.p rfl, trivial⟩ rfl (bsl27_1_0 _) rfl (fun b52 => ?_)
  refine WL.known (oj := _) rfl rfl rfl rfl ?_
  refine WL.call (vs := [_, _]) Try.call21 ⟨OV.p rfl, OV.p rfl, trivial⟩ (ref01_Ints (xs := [1]) (ys := [1]) K _ (by repeat (first | exact SlA.seq rfl | apply Seq.up)) (by repeat (first | exact Seq.all rfl | apply Seq.up)) (by decide)) rfl ?_
  rintro _ H0 ⟨rfl, h0⟩
  subst H0
  refine WL.val (V.pickAnd (OV.p rfl) (OV.p rfl)) rfl ?_
  refine WL.val (V.move (OV.p rfl)) rfl ?_
  refine WL.known (oj := _) rfl rfl rfl rfl ?_
  refine WL.val (V.move (OV.p rfl)) rfl ?_
  refine WL.known (oj := _) rfl rfl rfl rfl ?_
  refine WL.val (V.eql (OV.p rfl) (OV.p rfl)) rfl ?_
  refine WL.val (V.pickAnd (OV.p rfl) (OV.p rfl)) rfl ?_
  refine WL.val (V.move (OV.p rfl)) rfl ?_
  refine WL.known (oj := _) rfl rfl rfl rfl ?_
  refine WL.val (V.fieldAddr fo26_1 (OV.p rfl)) rfl ?_
  refine WL.known (oj := _) rfl rfl rfl rfl ?_
  refine WL.val (V.idxA at24 (OV.p rfl) (OV.p rfl) (fun hc => by first | omega | (simp at hc; omega))) rfl ?_
  refine WL.known (oj := _) rfl rfl rfl rfl ?_
  refine WL.val (V.fieldAddr fo23_0 (OV.p rfl)) rfl ?_
  refine WL.known (oj := _) rfl rfl rfl rfl ?_
  refine WL.val (V.load Try.isAgg3 (OV.p rfl) (fun _ => by repeat (first | exact Rd.here rfl | apply Rd.up))) rfl ?_
  refine WL.known (oj := _) rfl rfl rfl rfl ?_
  refine WL.val (V.eql (OV.p rfl) (OV.p rfl)) rfl ?_
  refine WL.val (V.pickAnd (OV.p rfl) (OV.p rfl)) rfl ?_
  refine WL.val (V.move (OV.p rfl)) rfl ?_
  refine WL.known (oj := _) rfl rfl rfl rfl ?_
  refine WL.val (V.move (OV.p rfl)) rfl ?_
  refine WL.known (oj := _) rfl rfl rfl rfl ?_
  refine WL.val (V.eql (OV.p rfl) (OV.p rfl)) rfl ?_
  refine WL.val (V.pickAnd (OV.p rfl) (OV.p rfl)) rfl ?_
  refine WL.val (V.move (OV.p rfl)) rfl ?_
  refine WL.known (oj := _) rfl rfl rfl rfl ?_
  refine WL.val (V.move (OV.p rfl)) rfl ?_
  refine WL.known (oj := _) rfl rfl rfl rfl ?_
  refine WL.val (V.eql (OV.p rfl) (OV.p rfl)) rfl ?_
  refine WL.val (V.pickAnd (OV.p rfl) (OV.p rfl)) rfl ?_
  refine WL.val (V.move (OV.p rfl)) rfl ?_
  refine WL.known (oj := _) rfl rfl rfl rfl ?_
  refine WL.val (V.move (OV.p rfl)) rfl ?_
  refine WL.known (oj := _) rfl rfl rfl rfl ?_
  refine WL.val (V.bytesStr Try.underlying36 Try.underlying5 Try.underlying9 (OV.p rfl) (fun _ => by repeat (first | exact Seq.allI (xs := Slo.zero.bytes) rfl | apply Seq.up))) rfl ?_
  refine WL.known (oj := _) rfl rfl rfl rfl ?_
  refine WL.val (V.val_eq (v' := .bool true) (V.eqlS (OV.p rfl) (OV.p rfl)) (fun _ => by rw [show strOfNums Slo.zero.bytes = _ from rfl]; exact congrArg Value.bool (beq_self_eq_true _))) rfl ?_
  refine WL.val (V.pickAnd (OV.p rfl) (OV.p rfl)) rfl ?_
  refine WL.val (V.move (OV.p rfl)) rfl ?_
  refine WL.known (oj := _) rfl rfl rfl rfl ?_
  refine WL.val (V.move (OV.p rfl)) rfl ?_
  refine WL.known (oj := _) rfl rfl rfl rfl ?_
  refine WL.val (V.eql (OV.p rfl) (OV.p rfl)) rfl ?_
  refine WL.val (V.pickAnd (OV.p rfl) (OV.p rfl)) rfl ?_
  refine WL.val (V.assign (OV.p rfl)) rfl ?_
  refine WL.nil ?_
  refine WC.ret ?_
  refine BodyQ.ret (H' := F) (Res.tmp rfl rfl) (fun w h => by repeat (first | exact h | replace h := h.tail)) ⟨rfl, rfl⟩

namespace Slo
/-- Behind the k-th try of the slot that is new. -/
def nth (s : Slo) (k : Nat) : Slo := if s.f = 0 then ⟨1, s.t0, s.g0, 7 - k, false⟩ else ⟨0, 7 - k, false, s.t1, s.g1⟩
section
variable {s : Slo} (hok : s.ok = true)
include hok
theorem install_nth : s.install (1 - s.f) = (s.nth 0, 0) := by
  have hs := ok_spec hok
  unfold install
  rw [if_neg (by rw [ahd_good hok (by omega)]; omega)]
  unfold put nth
  rcases hs.1 with h | h <;> simp [h]
theorem nth_ok {k : Nat} (hk : k ≤ 7) : (s.nth k).ok = true := by
  have hs := ok_spec hok
  unfold nth ok
  rcases hs.1 with h | h <;> simp [h] <;> omega
theorem nth_chk {k : Nat} (hk : k ≤ 7) : (s.nth k).chk = 0 := by unfold chk; rw [if_pos (nth_ok hok hk)]
theorem nth_order {k : Nat} (hk : k < 7) : (s.nth k).order.length ≠ 0 ∧ (s.nth k).order.getD 0 0 = (s.nth k).f := by
  have hs := ok_spec hok
  unfold order
  rw [if_pos (nth_ok hok (by omega))]
  have : (s.nth k).may (s.nth k).f = true := by
    unfold nth may g t
    rcases hs.1 with h | h <;> simp [h] <;> omega
  simp [List.filter, this]
theorem nth_try {k : Nat} (hk : k < 7) : (s.nth k).try_ (s.nth k).f = (s.nth (k + 1), 0) := by
  have hs := ok_spec hok
  have h2 := ok_spec (nth_ok hok (k := k) (by omega))
  unfold try_
  rw [if_neg (by rw [ahd_good (nth_ok hok (by omega)) h2.1]; decide)]
  have h7 : (0 : Int) < 7 - k := by omega
  unfold nth may g t put
  have h8 : (7 : Int) - k - 1 = 7 - (k + 1 : Nat) := by omega
  rcases hs.1 with h | h <;> simp [h, h8] <;> omega
theorem nth_last : ((s.nth 7).try_ (s.nth 7).f).2 = 240 := by
  have hs := ok_spec hok
  have h2 := ok_spec (nth_ok hok (k := 7) (by omega))
  unfold try_
  rw [if_neg (by rw [ahd_good (nth_ok hok (by omega)) h2.1]; decide)]
  unfold nth may g t put
  rcases hs.1 with h | h <;> simp [h]
end
end Slo

theorem law22_SlotsFirst (s : Slo) (K : World) (F : List Assn) : Tells Try.prog 3 #[s.v] K F (.bool true) := by
  obtain ⟨f, t0, g0, t1, g1⟩ := s
  dsimp only [Slo.v]
  refine Does.enter Try.func3 rfl Try.ntmps3 rfl ?_
  simp only [env0, Nat.reduceAdd]
  refine WC.seq ?_
  refine WC.region ?_
  refine WL.box (cs := [_, _, _, _, _]) (OV.p rfl) rfl rfl (fun b1 => ?_)
  refine WL.val (V.assign (OV.p rfl)) rfl ?_
  refine WL.nil ?_
  refine WC.seq ?_
  refine WC.region ?_
  refine WL.val (V.loadA (vs := [_, _, _, _, _]) ⟨Try.isAgg26, Try.sizeOf26⟩ (OV.p rfl) rfl (fun _ => by repeat (first | exact Rds.gets ⟨rfl, rfl, rfl, rfl, rfl, trivial⟩ | apply Rds.up))) rfl ?_
  refine WL.call (vs := [_]) Try.call8 ⟨OV.p rfl, trivial⟩ (slots_Order ⟨f, t0, g0, t1, g1⟩ _ _) rfl ?_
  rintro _ _ ⟨A3, c3, rfl, rfl⟩
  refine WL.val (V.move (OV.p rfl)) rfl ?_
  refine WL.val (V.extract (OV.p rfl) rfl) rfl ?_
  refine WL.val (V.extract (OV.p rfl) rfl) rfl ?_
  refine WL.val (V.assign (OV.p rfl)) rfl ?_
  refine WL.val (V.assign (OV.p rfl)) rfl ?_
  refine WL.nil ?_
  refine WC.seq ?_
  refine WC.seq ?_
  refine WC.region ?_
  refine WL.val (V.move (OV.p rfl)) rfl ?_
  refine WL.val (V.neq (OV.p rfl) (OV.p rfl)) rfl ?_
  refine WL.nil ?_
  refine WC.cond rfl (fun hc0 => ?_) (fun hc0 => ?_)
  · simp only [decide_eq_true_eq, decide_eq_false_iff_not, Bool.and_eq_true, Bool.or_eq_true, Bool.and_eq_false_iff, Bool.or_eq_false_iff, Bool.not_eq_true', Bool.not_eq_false', Bool.not_eq_true, Bool.not_eq_false, Int.not_lt, Int.not_le] at hc0
    refine WC.seq ?_
    refine WC.region ?_
    refine WL.call (vs := []) Try.call9 trivial (law22_awake _ _) rfl ?_
    rintro _ H0 ⟨rfl, h0⟩
    subst H0
    refine WL.val (V.move (OV.p rfl)) rfl ?_
    refine WL.known (oj := _) rfl rfl rfl rfl ?_
    refine WL.val (V.move (OV.p rfl)) rfl ?_
    refine WL.known (oj := _) rfl rfl rfl rfl ?_
    refine WL.val (V.len (t := 27) Try.runUnderlying27 (OV.p rfl)) rfl ?_
    refine WL.known (oj := _) rfl rfl rfl rfl ?_
    refine WL.val (V.eql (OV.p rfl) (OV.p rfl)) rfl ?_
    refine WL.val (V.pickAnd (OV.p rfl) (OV.p rfl)) rfl ?_
    refine WL.val (V.assign (OV.p rfl)) rfl ?_
    refine WL.nil ?_
    refine WC.ret ?_
    have e1 : (Slo.mk f t0 g0 t1 g1).order = [] := by unfold Slo.order; rw [if_neg (by intro h; apply hc0; unfold Slo.chk; rw [if_pos h])]
    rw [e1]
    exact BodyQ.ret (H' := F) (Res.tmp rfl rfl) (fun w h => by repeat (first | exact h | replace h := h.tail)) ⟨rfl, rfl⟩
  · simp only [decide_eq_true_eq, decide_eq_false_iff_not, Bool.and_eq_true, Bool.or_eq_true, Bool.and_eq_false_iff, Bool.or_eq_false_iff, Bool.not_eq_true', Bool.not_eq_false', Bool.not_eq_true, Bool.not_eq_false, Int.not_lt, Int.not_le] at hc0
    have hok := Slo.chk_ok hc0
    have hf := (Slo.ok_spec hok).1
    have e1 : (Slo.mk f t0 g0 t1 g1).order = [f, 1 - f].filter (Slo.mk f t0 g0 t1 g1).may := by unfold Slo.order; rw [if_pos hok]
    dsimp only at hf
    rcases hf with rfl | rfl
    all_goals
      refine WC.skip ?_
      refine WC.seq ?_
      refine WC.seq ?_
      refine WC.regionQ (by kernel_rfl) (by kernel_rfl) ?_
      refine WQ.val (V.move (OV.p rfl)) rfl ?_
      refine WQ.val (V.len (t := 27) Try.runUnderlying27 (OV.p rfl)) rfl ?_
      refine WQ.val (V.eql (OV.p rfl) (OV.p rfl)) rfl ?_
      refine WQ.val (V.move (OV.p rfl)) rfl ?_
      refine WQ.valG (oj := _) rfl rfl rfl GC.t (V.move (OV.p rfl)) rfl ?_
      refine WQ.valG (oj := _) rfl rfl rfl GC.t (V.idxS st27 (OV.g rfl id) (OV.p rfl) (fun hc => by first | omega | (simp at hc; omega)) (fun hc => by repeat (first | exact Seq.int_rd SlA.seqI (by first | omega | (simp at hc; omega)) | apply Rd.up))) rfl ?_
      refine WQ.valG (oj := _) rfl rfl rfl GC.t (V.load Try.isAgg3 (OV.g rfl id) (fun hc => by repeat (first | exact Seq.int_rd SlA.seqI (by first | omega | (simp at hc; omega)) | apply Rd.up))) rfl ?_
      refine WQ.valG (oj := _) rfl rfl rfl GC.t (V.fieldAddr fo26_0 (OV.p rfl)) rfl ?_
      refine WQ.valG (oj := _) rfl rfl rfl GC.t (V.load Try.isAgg3 (OV.g rfl id) (fun _ => by repeat (first | exact Rd.here rfl | apply Rd.up))) rfl ?_
      refine WQ.valG (oj := _) rfl rfl rfl GC.t (V.neq (OV.g rfl id) (OV.g rfl id)) rfl ?_
      refine WQ.valG (oj := _) rfl rfl rfl GC.t (V.move (OV.g rfl id)) rfl ?_
      refine WQ.valG (oj := _) rfl rfl rfl GC.cf (V.move (OV.p rfl)) rfl ?_
      refine WQ.valG (oj := _) rfl rfl rfl GC.cf (V.idxS st27 (OV.g rfl id) (OV.p rfl) (fun hc => by first | omega | (simp at hc; omega)) (fun hc => by repeat (first | exact Seq.int_rd SlA.seqI (by first | omega | (simp at hc; omega)) | apply Rd.up))) rfl ?_
      refine WQ.valG (oj := _) rfl rfl rfl GC.cf (V.load Try.isAgg3 (OV.g rfl id) (fun hc => by repeat (first | exact Seq.int_rd SlA.seqI (by first | omega | (simp at hc; omega)) | apply Rd.up))) rfl ?_
      refine WQ.valG (oj := _) rfl rfl rfl GC.cf (V.fieldAddr fo26_0 (OV.p rfl)) rfl ?_
      refine WQ.valG (oj := _) rfl rfl rfl GC.cf (V.load Try.isAgg3 (OV.g rfl id) (fun _ => by repeat (first | exact Rd.here rfl | apply Rd.up))) rfl ?_
      refine WQ.valG (oj := _) rfl rfl rfl GC.cf (V.subI (OV.p rfl) (OV.g rfl id) (fun hc => by first | omega | (simp at hc; omega))) rfl ?_
      refine WQ.valG (oj := _) rfl rfl rfl GC.cf (V.neq (OV.g rfl id) (OV.g rfl id)) rfl ?_
      refine WQ.valG (oj := _) rfl rfl rfl GC.t (V.pickOr (OV.g rfl id) (OV.g rfl id)) rfl ?_
      refine WQ.val (V.pickAnd (OV.p rfl) (OV.g rfl id)) rfl ?_
      refine WQ.val (V.move (OV.p rfl)) rfl ?_
      refine WQ.valG (oj := _) rfl rfl rfl GC.f (V.move (OV.p rfl)) rfl ?_
      refine WQ.valG (oj := _) rfl rfl rfl GC.f (V.len (t := 27) Try.runUnderlying27 (OV.g rfl id)) rfl ?_
      refine WQ.valG (oj := _) rfl rfl rfl GC.f (V.eql (OV.g rfl id) (OV.p rfl)) rfl ?_
      refine WQ.valG (oj := _) rfl rfl rfl GC.f (V.move (OV.g rfl id)) rfl ?_
      refine WQ.valG (oj := _) rfl rfl rfl GC.ct (V.move (OV.p rfl)) rfl ?_
      refine WQ.valG (oj := _) rfl rfl rfl GC.ct (V.idxS st27 (OV.g rfl id) (OV.p rfl) (fun hc => by first | omega | (simp at hc; omega)) (fun hc => by repeat (first | exact Seq.int_rd SlA.seqI (by first | omega | (simp at hc; omega)) | apply Rd.up))) rfl ?_
      refine WQ.valG (oj := _) rfl rfl rfl GC.ct (V.load Try.isAgg3 (OV.g rfl id) (fun hc => by repeat (first | exact Seq.int_rd SlA.seqI (by first | omega | (simp at hc; omega)) | apply Rd.up))) rfl ?_
      refine WQ.valG (oj := _) rfl rfl rfl GC.ct (V.fieldAddr fo26_0 (OV.p rfl)) rfl ?_
      refine WQ.valG (oj := _) rfl rfl rfl GC.ct (V.load Try.isAgg3 (OV.g rfl id) (fun _ => by repeat (first | exact Rd.here rfl | apply Rd.up))) rfl ?_
      refine WQ.valG (oj := _) rfl rfl rfl GC.ct (V.neq (OV.g rfl id) (OV.g rfl id)) rfl ?_
      refine WQ.valG (oj := _) rfl rfl rfl GC.f (V.pickAnd (OV.g rfl id) (OV.g rfl id)) rfl ?_
      refine WQ.valG (oj := _) rfl rfl rfl GC.f (V.move (OV.g rfl id)) rfl ?_
      refine WQ.valG (oj := _) rfl rfl rfl GC.ct (V.fieldAddr fo26_0 (OV.p rfl)) rfl ?_
      refine WQ.valG (oj := _) rfl rfl rfl GC.ct (V.load Try.isAgg3 (OV.g rfl id) (fun _ => by repeat (first | exact Rd.here rfl | apply Rd.up))) rfl ?_
      refine WQ.valG (oj := _) rfl rfl rfl GC.ct (V.fieldAddr fo26_1 (OV.p rfl)) rfl ?_
      refine WQ.valG (oj := _) rfl rfl rfl GC.ct (V.idxA at24 (OV.g rfl id) (OV.g rfl id) (fun hc => by first | omega | (simp at hc; omega))) rfl ?_
      refine WQ.valG (oj := _) rfl rfl rfl GC.ct (V.fieldAddr fo23_1 (OV.g rfl id)) rfl ?_
      refine WQ.valG (oj := _) rfl rfl rfl GC.ct (V.load Try.isAgg4 (OV.g rfl id) (fun _ => by repeat (first | exact Rd.here rfl | apply Rd.up))) rfl ?_
      refine WQ.valG (oj := _) rfl rfl rfl GC.ct (V.move (OV.g rfl id)) rfl ?_
      refine WQ.valG (oj := _) rfl rfl rfl GC.cf (V.fieldAddr fo26_0 (OV.p rfl)) rfl ?_
      refine WQ.valG (oj := _) rfl rfl rfl GC.cf (V.load Try.isAgg3 (OV.g rfl id) (fun _ => by repeat (first | exact Rd.here rfl | apply Rd.up))) rfl ?_
      refine WQ.valG (oj := _) rfl rfl rfl GC.cf (V.fieldAddr fo26_1 (OV.p rfl)) rfl ?_
      refine WQ.valG (oj := _) rfl rfl rfl GC.cf (V.idxA at24 (OV.g rfl id) (OV.g rfl id) (fun hc => by first | omega | (simp at hc; omega))) rfl ?_
      refine WQ.valG (oj := _) rfl rfl rfl GC.cf (V.fieldAddr fo23_0 (OV.g rfl id)) rfl ?_
      refine WQ.valG (oj := _) rfl rfl rfl GC.cf (V.load Try.isAgg3 (OV.g rfl id) (fun _ => by repeat (first | exact Rd.here rfl | apply Rd.up))) rfl ?_
      refine WQ.valG (oj := _) rfl rfl rfl GC.cf (V.gtr (OV.g rfl id) (OV.p rfl)) rfl ?_
      refine WQ.valG (oj := _) rfl rfl rfl GC.ct (V.pickOr (OV.g rfl id) (OV.g rfl id)) rfl ?_
      refine WQ.valG (oj := _) rfl rfl rfl GC.f (V.pickAnd (OV.g rfl id) (OV.g rfl id)) rfl ?_
      refine WQ.val (V.pickOr (OV.p rfl) (OV.g rfl id)) rfl ?_
      refine WQ.nil ?_
      refine WC.cond rfl (fun hc1 => ?_) (fun hc1 => ?_)
      · skip
        exfalso
        rw [e1] at hc1
        revert hc1
        cases g0 <;> cases g1 <;> by_cases k0 : 0 < t0 <;> by_cases k1 : 0 < t1 <;> simp [List.filter, Slo.may, Slo.g, Slo.t, k0, k1]
      · skip
        refine WC.skip ?_
        refine WC.seq ?_
        refine WC.region ?_
        refine WL.val (V.loadA (vs := [_, _, _, _, _]) ⟨Try.isAgg26, Try.sizeOf26⟩ (OV.p rfl) rfl (fun _ => by repeat (first | exact Rds.gets ⟨rfl, rfl, rfl, rfl, rfl, trivial⟩ | apply Rds.up))) rfl ?_
        refine WL.val (V.fieldAddr fo26_0 (OV.p rfl)) rfl ?_
        refine WL.val (V.load Try.isAgg3 (OV.p rfl) (fun _ => by repeat (first | exact Rd.here rfl | apply Rd.up))) rfl ?_
        refine WL.val (V.subI (OV.p rfl) (OV.p rfl) (fun hc => by first | omega | (simp at hc; omega))) rfl ?_
        refine WL.call (vs := [_, _]) Try.call10 ⟨OV.p rfl, OV.p rfl, trivial⟩ (slots_Install ⟨_, t0, g0, t1, g1⟩ _ _ _) rfl ?_
        rintro _ H0 ⟨rfl, h0⟩
        subst H0
        refine WL.val (V.move (OV.p rfl)) rfl ?_
        refine WL.val (V.extract (OV.p rfl) rfl) rfl ?_
        refine WL.val (V.extract (OV.p rfl) rfl) rfl ?_
        refine WL.alloc (cs := [(.int .i64 0), (.int .i64 0), (.bool false), (.int .i64 0), (.bool false)]) Try.zeroValue26 rfl rfl (fun b5 => ?_)
        refine WL.store (cs := [_, _, _, _, _]) Try.sizeOf26 (OV.p rfl) (OV.p rfl) rfl rfl rfl (by repeat (first | exact Upd.here (cs' := [_, _, _, _, _]) rfl rfl | apply Upd.up)) ?_
        refine WL.val (V.assign (OV.p rfl)) rfl ?_
        refine WL.nil ?_
        refine WC.seq ?_
        refine WC.seq ?_
        refine WC.region ?_
        refine WL.val (V.move (OV.p rfl)) rfl ?_
        refine WL.val (V.neq (OV.p rfl) (OV.p rfl)) rfl ?_
        refine WL.nil ?_
        refine WC.cond rfl (fun hc2 => ?_) (fun hc2 => ?_)
        · skip
          exfalso
          have := Slo.install_nth hok
          simp only at this
          rw [this] at hc2
          simp at hc2
        · skip
          refine WC.skip ?_
          refine WC.seq ?_
          refine WC.seq ?_
          refine WC.region ?_
          refine WL.val (V.assign (OV.p rfl)) rfl ?_
          refine WL.nil ?_
          refine WC.block ?_
          refine WC.loop (σ := Nat) (fun k => [(5, ptr b5 0), (7, .int .i64 (k : Int))]) (fun k => Cells b5 26 [.int .i64 (Slo.nth ⟨_, t0, g0, t1, g1⟩ k).f, .int .i64 (Slo.nth ⟨_, t0, g0, t1, g1⟩ k).t0, .bool (Slo.nth ⟨_, t0, g0, t1, g1⟩ k).g0, .int .i64 (Slo.nth ⟨_, t0, g0, t1, g1⟩ k).t1, .bool (Slo.nth ⟨_, t0, g0, t1, g1⟩ k).g1] :: F) (fun k => k ≤ 7) (fun k => 7 - k) 0 (Nat.zero_le _) (.cons rfl (.cons rfl (.nil _))) (fun w h => Sat.cells_eq (by repeat (first | exact h | replace h := h.drop2)) (by rw [Slo.install_nth hok])) ?_
          rintro k hk
          refine WC.seq ?_
          refine WC.seq ?_
          refine WC.region ?_
          refine WL.val (V.move (OV.p rfl)) rfl ?_
          refine WL.val (V.lss (OV.p rfl) (OV.p rfl)) rfl ?_
          refine WL.nil ?_
          refine WC.cond rfl (fun hc3 => ?_) (fun hc3 => ?_)
          · try simp only [decide_eq_true_eq, decide_eq_false_iff_not, Bool.and_eq_true, Bool.or_eq_true, Bool.and_eq_false_iff, Bool.or_eq_false_iff, Bool.not_eq_true', Bool.not_eq_false', Bool.not_eq_true, Bool.not_eq_false, Int.not_lt, Int.not_le] at hc3
            refine WC.skip ?_
            refine WC.seq ?_
            refine WC.block ?_
            refine WC.seq ?_
            refine WC.region ?_
            refine WL.val (V.loadA (vs := [_, _, _, _, _]) ⟨Try.isAgg26, Try.sizeOf26⟩ (OV.p rfl) rfl (fun _ => by repeat (first | exact Rds.gets ⟨rfl, rfl, rfl, rfl, rfl, trivial⟩ | apply Rds.up))) rfl ?_
            refine WL.call (vs := [_]) Try.call8 ⟨OV.p rfl, trivial⟩ (slots_Order (Slo.nth ⟨_, t0, g0, t1, g1⟩ k) _ _) rfl ?_
            rintro _ _ ⟨A8, c8, rfl, rfl⟩
            refine WL.val (V.move (OV.p rfl)) rfl ?_
            refine WL.val (V.extract (OV.p rfl) rfl) rfl ?_
            refine WL.val (V.extract (OV.p rfl) rfl) rfl ?_
            refine WL.val (V.assign (OV.p rfl)) rfl ?_
            refine WL.val (V.assign (OV.p rfl)) rfl ?_
            refine WL.nil ?_
            refine WC.seq ?_
            refine WC.seq ?_
            have hlen : 0 < (Slo.nth ⟨_, t0, g0, t1, g1⟩ k).order.length := Nat.pos_of_ne_zero (Slo.nth_order hok (k := k) (by omega)).1
            have hfst := (Slo.nth_order hok (k := k) (by omega)).2
            refine WC.regionQ (by kernel_rfl) (by kernel_rfl) ?_
            refine WQ.val (V.move (OV.p rfl)) rfl ?_
            refine WQ.val (V.neq (OV.p rfl) (OV.p rfl)) rfl ?_
            refine WQ.val (V.move (OV.p rfl)) rfl ?_
            refine WQ.valG (oj := _) rfl rfl rfl GC.f (V.move (OV.p rfl)) rfl ?_
            refine WQ.valG (oj := _) rfl rfl rfl GC.f (V.len (t := 27) Try.runUnderlying27 (OV.g rfl id)) rfl ?_
            refine WQ.valG (oj := _) rfl rfl rfl GC.f (V.eql (OV.g rfl id) (OV.p rfl)) rfl ?_
            refine WQ.val (V.pickOr (OV.p rfl) (OV.g rfl id)) rfl ?_
            refine WQ.val (V.move (OV.p rfl)) rfl ?_
            refine WQ.valG (oj := _) rfl rfl rfl GC.f (V.move (OV.p rfl)) rfl ?_
            refine WQ.valG (oj := _) rfl rfl rfl GC.f (V.idxS st27 (OV.g rfl id) (OV.p rfl) (fun hc => by first | omega | (simp at hc; omega)) (fun hc => by repeat (first | exact Seq.int_rd SlA.seqI (by first | omega | (simp at hc; omega)) | apply Rd.up))) rfl ?_
            refine WQ.valG (oj := _) rfl rfl rfl GC.f (V.load Try.isAgg3 (OV.g rfl id) (fun hc => by repeat (first | exact Seq.int_rd SlA.seqI (by first | omega | (simp at hc; omega)) | apply Rd.up))) rfl ?_
            refine WQ.valG (oj := _) rfl rfl rfl GC.f (V.fieldAddr fo26_0 (OV.p rfl)) rfl ?_
            refine WQ.valG (oj := _) rfl rfl rfl GC.f (V.load Try.isAgg3 (OV.g rfl id) (fun _ => by repeat (first | exact Rd.here rfl | apply Rd.up))) rfl ?_
            refine WQ.valG (oj := _) rfl rfl rfl GC.f (V.neq (OV.g rfl id) (OV.g rfl id)) rfl ?_
            refine WQ.val (V.pickOr (OV.p rfl) (OV.g rfl id)) rfl ?_
            refine WQ.nil ?_
            refine WC.cond rfl (fun hc4 => ?_) (fun hc4 => ?_)
            · skip
              exfalso
              rw [Slo.nth_chk hok hk, show Int.toNat 0 = 0 from rfl, hfst] at hc4
              simp at hc4
              rw [hc4] at hlen
              exact absurd hlen (by decide)
            · skip
              refine WC.skip ?_
              refine WC.seq ?_
              refine WC.region ?_
              refine WL.val (V.loadA (vs := [_, _, _, _, _]) ⟨Try.isAgg26, Try.sizeOf26⟩ (OV.p rfl) rfl (fun _ => by repeat (first | exact Rds.gets ⟨rfl, rfl, rfl, rfl, rfl, trivial⟩ | apply Rds.up))) rfl ?_
              refine WL.val (V.fieldAddr fo26_0 (OV.p rfl)) rfl ?_
              refine WL.val (V.load Try.isAgg3 (OV.p rfl) (fun _ => by repeat (first | exact Rd.here rfl | apply Rd.up))) rfl ?_
              refine WL.call (vs := [_, _]) Try.call11 ⟨OV.p rfl, OV.p rfl, trivial⟩ (slots_Try (Slo.nth ⟨_, t0, g0, t1, g1⟩ k) _ _ _) rfl ?_
              rintro _ H0 ⟨rfl, h0⟩
              subst H0
              refine WL.val (V.move (OV.p rfl)) rfl ?_
              refine WL.val (V.extract (OV.p rfl) rfl) rfl ?_
              refine WL.val (V.extract (OV.p rfl) rfl) rfl ?_
              refine WL.alloc (cs := [(.int .i64 0), (.int .i64 0), (.bool false), (.int .i64 0), (.bool false)]) Try.zeroValue26 rfl rfl (fun b10 => ?_)
              refine WL.store (cs := [_, _, _, _, _]) Try.sizeOf26 (OV.p rfl) (OV.p rfl) rfl rfl rfl (by repeat (first | exact Upd.here (cs' := [_, _, _, _, _]) rfl rfl | apply Upd.up)) ?_
              refine WL.val (V.assign (OV.p rfl)) rfl ?_
              refine WL.nil ?_
              refine WC.seq ?_
              refine WC.seq ?_
              refine WC.region ?_
              refine WL.val (V.move (OV.p rfl)) rfl ?_
              refine WL.val (V.neq (OV.p rfl) (OV.p rfl)) rfl ?_
              refine WL.nil ?_
              refine WC.cond rfl (fun hc5 => ?_) (fun hc5 => ?_)
              · skip
                exfalso
                rw [Slo.nth_try hok (by omega)] at hc5
                simp at hc5
              · skip
                refine WC.skip ?_
                refine WC.region ?_
                refine WL.val (V.loadA (vs := [_, _, _, _, _]) ⟨Try.isAgg26, Try.sizeOf26⟩ (OV.p rfl) rfl (fun _ => by repeat (first | exact Rds.gets ⟨rfl, rfl, rfl, rfl, rfl, trivial⟩ | apply Rds.up))) rfl ?_
                refine WL.store (cs := [_, _, _, _, _]) Try.sizeOf26 (OV.p rfl) (OV.p rfl) rfl rfl rfl (by repeat (first | exact Upd.here rfl rfl | apply Upd.up)) ?_
                refine WL.nil ?_
                refine WC.region ?_
                refine WL.val (V.move (OV.p rfl)) rfl ?_
                refine WL.val (V.addI (OV.p rfl) (OV.p rfl) (fun hc => by first | omega | (simp at hc; omega))) rfl ?_
                refine WL.val (V.assign (OV.p rfl)) rfl ?_
                refine WL.nil ?_
                refine ⟨k + 1, by show k + 1 ≤ 7; omega, (by show 7 - (k + 1) < 7 - k; omega), .cons rfl (.cons (look_eq rfl (by simp)) (.nil _)), fun w h => by have h := h.tail.tail; refine Sat.cells_eq h ?_; rw [Slo.nth_try hok (by omega)]; rfl⟩
          · try simp only [decide_eq_true_eq, decide_eq_false_iff_not, Bool.and_eq_true, Bool.or_eq_true, Bool.and_eq_false_iff, Bool.or_eq_false_iff, Bool.not_eq_true', Bool.not_eq_false', Bool.not_eq_true, Bool.not_eq_false, Int.not_lt, Int.not_le] at hc3
            refine WC.exit ?_
            refine WC.seq ?_
            refine WC.region ?_
            refine WL.val (V.loadA (vs := [_, _, _, _, _]) ⟨Try.isAgg26, Try.sizeOf26⟩ (OV.p rfl) rfl (fun _ => by repeat (first | exact Rds.gets ⟨rfl, rfl, rfl, rfl, rfl, trivial⟩ | apply Rds.up))) rfl ?_
            refine WL.val (V.fieldAddr fo26_0 (OV.p rfl)) rfl ?_
            refine WL.val (V.load Try.isAgg3 (OV.p rfl) (fun _ => by repeat (first | exact Rd.here rfl | apply Rd.up))) rfl ?_
            refine WL.call (vs := [_, _]) Try.call11 ⟨OV.p rfl, OV.p rfl, trivial⟩ (slots_Try (Slo.nth ⟨_, t0, g0, t1, g1⟩ k) _ _ _) rfl ?_
            rintro _ H0 ⟨rfl, h0⟩
            subst H0
            refine WL.val (V.move (OV.p rfl)) rfl ?_
            refine WL.val (V.extract (OV.p rfl) rfl) rfl ?_
            refine WL.val (V.extract (OV.p rfl) rfl) rfl ?_
            refine WL.alloc (cs := [(.int .i64 0), (.int .i64 0), (.bool false), (.int .i64 0), (.bool false)]) Try.zeroValue26 rfl rfl (fun b12 => ?_)
            refine WL.store (cs := [_, _, _, _, _]) Try.sizeOf26 (OV.p rfl) (OV.p rfl) rfl rfl rfl (by repeat (first | exact Upd.here (cs' := [_, _, _, _, _]) rfl rfl | apply Upd.up)) ?_
            refine WL.val (V.assign (OV.p rfl)) rfl ?_
            refine WL.nil ?_
            refine WC.seq ?_
            refine WC.region ?_
            refine WL.call (vs := []) Try.call9 trivial (law22_awake _ _) rfl ?_
            rintro _ H0 ⟨rfl, h0⟩
            subst H0
            refine WL.val (V.move (OV.p rfl)) rfl ?_
            refine WL.known (oj := _) rfl rfl rfl rfl ?_
            refine WL.val (V.move (OV.p rfl)) rfl ?_
            refine WL.known (oj := _) rfl rfl rfl rfl ?_
            refine WL.val (V.eql (OV.p rfl) (OV.p rfl)) rfl ?_
            refine WL.val (V.pickAnd (OV.p rfl) (OV.p rfl)) rfl ?_
            refine WL.val (V.assign (OV.p rfl)) rfl ?_
            refine WL.nil ?_
            refine WC.ret ?_
            obtain rfl : k = 7 := by omega
            refine BodyQ.ret (H' := F) (Res.tmp rfl rfl) (fun w h => by repeat (first | exact h | replace h := h.tail)) ⟨?_, rfl⟩
            rw [Slo.nth_last hok]; rfl
end Go.Proofs.Ytcgbmifpmaembaa
