/- casemateref01.Ints; slices of bytes as strings. -/
import Derived.Test.YtcmojpiokjhmhaaTy
namespace Go.Proofs.Ytcmojpiokjhmhaa
open Go.Sl Go.RowKit
set_option linter.unusedVariables false
set_option linter.unusedSimpArgs false
set_option maxRecDepth 20000
/-- Two lists of numbers: are they one? -/
theorem ref01_Ints {A B : Option Addr} {m q cap cap' : Nat} {xs ys : List Int} (K : World) (F : List Assn) (ha : Seq K F A m 1 (ints .i64 xs)) (hb : Seq K F B q 1 (ints .i64 ys)) (hm : (m : Int) ≤ 9223372036854775807) :
    Tells Try.prog 6 #[.slice A m cap, .slice B q cap'] K F (.bool (decide (xs = ys))) := by
  have hl : xs.length = m := by simpa [ints] using ha.len
  have hl' : ys.length = q := by simpa [ints] using hb.len
  refine Does.enter Try.func6 rfl Try.ntmps6 rfl ?_
  simp only [env0, Nat.reduceAdd]
  refine WC.sr ?_
  refine WL.sg rfl rfl ?_
  refine WL.nil ?_
  refine WC.seq ?_
  refine WC.sr ?_
  refine WL.mv rfl rfl ?_
  refine WL.val (V.len (t := 27) Try.runUnderlying27 (OV.p rfl)) rfl ?_
  refine WL.mv rfl rfl ?_
  refine WL.val (V.len (t := 27) Try.runUnderlying27 (OV.p rfl)) rfl ?_
  refine WL.val (V.neq (OV.p rfl) (OV.p rfl)) rfl ?_
  refine WL.nil ?_
  refine WC.cond rfl (fun hc0 => ?_) (fun hc0 => ?_)
  ·simp only [decide_eq_true_eq, decide_eq_false_iff_not, Bool.and_eq_true, Bool.or_eq_true, Bool.and_eq_false_iff, Bool.or_eq_false_iff, Bool.not_eq_true', Bool.not_eq_false', Bool.not_eq_true, Bool.not_eq_false, Int.not_lt, Int.not_le] at hc0
   refine WC.sr ?_
   refine WL.sg rfl rfl ?_
   refine WL.nil ?_
   refine WC.ret ?_
   refine BodyQ.ret (H' := F) (Res.tmp rfl rfl) (fun w h => by repeat (first | exact h | replace h := h.tail)) ⟨?_, rfl⟩
   rw [decide_eq_false]; intro h; subst h; omega
  ·simp only [decide_eq_true_eq, decide_eq_false_iff_not, Bool.and_eq_true, Bool.or_eq_true, Bool.and_eq_false_iff, Bool.or_eq_false_iff, Bool.not_eq_true', Bool.not_eq_false', Bool.not_eq_true, Bool.not_eq_false, Int.not_lt, Int.not_le] at hc0
   obtain rfl : m = q := by omega
   refine WC.skip ?_
   refine WC.seq ?_
   refine WC.sr ?_
   refine WL.sg rfl rfl ?_
   refine WL.nil ?_
   refine WC.block ?_
   refine WC.loop (σ := Nat) (fun k => [(0, .slice A m cap), (1, .slice B m cap'), (5, .int .i64 (k : Int))]) (fun _ => F) (fun k => k ≤ m ∧ ∀ i, i < k → xs.getD i 0 = ys.getD i 0) (fun k => m - k) 0 ⟨Nat.zero_le _, fun i hi => absurd hi (Nat.not_lt_zero i)⟩ (.cons rfl (.cons rfl (.cons rfl (.nil _)))) (fun w h => h) ?_
   rintro k ⟨hk, heq⟩
   refine WC.seq ?_
   refine WC.sr ?_
   refine WL.mv rfl rfl ?_
   refine WL.mv rfl rfl ?_
   refine WL.val (V.len (t := 27) Try.runUnderlying27 (OV.p rfl)) rfl ?_
   refine WL.val (V.lss (OV.p rfl) (OV.p rfl)) rfl ?_
   refine WL.nil ?_
   refine WC.cond rfl (fun hc1 => ?_) (fun hc1 => ?_)
   ·try simp only [decide_eq_true_eq, decide_eq_false_iff_not, Bool.and_eq_true, Bool.or_eq_true, Bool.and_eq_false_iff, Bool.or_eq_false_iff, Bool.not_eq_true', Bool.not_eq_false', Bool.not_eq_true, Bool.not_eq_false, Int.not_lt, Int.not_le] at hc1
    refine WC.skip ?_
    refine WC.seq ?_
    refine WC.block ?_
    refine WC.seq ?_
    refine WC.regionQ (by kernel_rfl) (by kernel_rfl) ?_
    refine WQ.val (V.move (OV.p rfl)) rfl ?_
    refine WQ.val (V.move (OV.p rfl)) rfl ?_
    refine WQ.val (V.idxS st27 (OV.p rfl) (OV.p rfl) (fun hc => by first | omega | (simp at hc; omega)) (fun hc => by repeat (first | exact Seq.int_rd ha (by first | omega | (simp at hc; omega)) | apply Rd.up))) rfl ?_
    refine WQ.val (V.load Try.isAgg3 (OV.p rfl) (fun hc => by repeat (first | exact Seq.int_rd ha (by first | omega | (simp at hc; omega)) | apply Rd.up))) rfl ?_
    refine WQ.val (V.move (OV.p rfl)) rfl ?_
    refine WQ.val (V.move (OV.p rfl)) rfl ?_
    refine WQ.val (V.idxS st27 (OV.p rfl) (OV.p rfl) (fun hc => by first | omega | (simp at hc; omega)) (fun hc => by repeat (first | exact Seq.int_rd hb (by first | omega | (simp at hc; omega)) | apply Rd.up))) rfl ?_
    refine WQ.val (V.load Try.isAgg3 (OV.p rfl) (fun hc => by repeat (first | exact Seq.int_rd hb (by first | omega | (simp at hc; omega)) | apply Rd.up))) rfl ?_
    refine WQ.val (V.neq (OV.p rfl) (OV.p rfl)) rfl ?_
    refine WQ.nil ?_
    refine WC.cond rfl (fun hc2 => ?_) (fun hc2 => ?_)
    ·try simp only [decide_eq_true_eq, decide_eq_false_iff_not, Bool.and_eq_true, Bool.or_eq_true, Bool.and_eq_false_iff, Bool.or_eq_false_iff, Bool.not_eq_true', Bool.not_eq_false', Bool.not_eq_true, Bool.not_eq_false, Int.not_lt, Int.not_le] at hc2
     refine WC.sr ?_
     refine WL.sg rfl rfl ?_
     refine WL.nil ?_
     refine WC.ret ?_
     refine BodyQ.ret (H' := F) (Res.tmp rfl rfl) (fun w h => by repeat (first | exact h | replace h := h.tail)) ⟨?_, rfl⟩
     rw [decide_eq_false]; intro h; subst h; exact hc2 rfl
    ·try simp only [decide_eq_true_eq, decide_eq_false_iff_not, Bool.and_eq_true, Bool.or_eq_true, Bool.and_eq_false_iff, Bool.or_eq_false_iff, Bool.not_eq_true', Bool.not_eq_false', Bool.not_eq_true, Bool.not_eq_false, Int.not_lt, Int.not_le] at hc2
     refine WC.skip ?_
     refine WC.region ?_
     refine WL.mv rfl rfl ?_
     refine WL.ad rfl rfl rfl ?_
     refine WL.sg rfl rfl ?_
     refine WL.nil ?_
     refine ⟨rfl, ?_⟩
     refine ⟨k + 1, ⟨by omega, fun i hi => ?_⟩, (by show m - (k + 1) < m - k; omega), .cons rfl (.cons rfl (.cons (look_eq rfl (by simp)) (.nil _))), fun w h => h⟩
     rcases Nat.lt_succ_iff_lt_or_eq.1 hi with h | h
     · exact heq i h
     · subst h; simpa using hc2
   ·try simp only [decide_eq_true_eq, decide_eq_false_iff_not, Bool.and_eq_true, Bool.or_eq_true, Bool.and_eq_false_iff, Bool.or_eq_false_iff, Bool.not_eq_true', Bool.not_eq_false', Bool.not_eq_true, Bool.not_eq_false, Int.not_lt, Int.not_le] at hc1
    refine WC.exit ?_
    refine WC.sr ?_
    refine WL.sg rfl rfl ?_
    refine WL.nil ?_
    refine WC.ret ?_
    refine BodyQ.ret (H' := F) (Res.tmp rfl rfl) (fun w h => by repeat (first | exact h | replace h := h.tail)) ⟨?_, rfl⟩
    rw [decide_eq_true]
    apply List.ext_getElem (by omega)
    intro i h1 h2
    have := heq i (by omega)
    simpa [List.getD, h1, h2] using this
end Go.Proofs.Ytcmojpiokjhmhaa
