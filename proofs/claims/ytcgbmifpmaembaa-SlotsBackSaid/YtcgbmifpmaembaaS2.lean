/- The functions of the package casemateref22, and casemateref01.Ints, one by one. -/
import Derived.Test.YtcgbmifpmaembaaS1
namespace Go.Proofs.Ytcgbmifpmaembaa
open Go.Sl Go.RowKit
set_option linter.unusedVariables false
set_option linter.unusedSimpArgs false
set_option maxRecDepth 20000

theorem ref22_May (s : Slo) (K : World) (F : List Assn) : Tells Try.prog 19 #[s.v] K F (.bool s.ok) := by
  obtain ⟨f, t0, g0, t1, g1⟩ := s
  dsimp only [Slo.v]
  refine Does.enter Try.func19 rfl Try.ntmps19 rfl ?_
  simp only [env0, Nat.reduceAdd]
  refine WC.seq ?_
  refine WC.region ?_
  refine WL.box (cs := [_, _, _, _, _]) (OV.p rfl) rfl rfl (fun b1 => ?_)
  refine WL.val (V.assign (OV.p rfl)) rfl ?_
  refine WL.nil ?_
  refine WC.seq ?_
  refine WC.seq ?_
  refine WC.region ?_
  refine WL.val (V.assign (OV.p rfl)) rfl ?_
  refine WL.nil ?_
  refine WC.block ?_
  refine WC.rounds 3 ?_
  refine WC.seq ?_
  refine WC.seq ?_
  refine WC.region ?_
  refine WL.val (V.move (OV.p rfl)) rfl ?_
  refine WL.val (V.lss (OV.p rfl) (OV.p rfl)) rfl ?_
  refine WL.nil ?_
  refine WC.condT' rfl (by first | rfl | (simp; done) | (simp; omega)) ?_
  refine WC.skip ?_
  refine WC.seq ?_
  refine WC.block ?_
  refine WC.seq ?_
  refine WC.region ?_
  refine WL.val (V.move (OV.p rfl)) rfl ?_
  refine WL.val (V.fieldAddr fo26_1 (OV.p rfl)) rfl ?_
  refine WL.val (V.idxA at24 (OV.p rfl) (OV.p rfl) (fun hc => by first | omega | (simp at hc; omega))) rfl ?_
  refine WL.val (V.fieldAddr fo23_0 (OV.p rfl)) rfl ?_
  refine WL.val (V.load Try.isAgg3 (OV.p rfl) (fun _ => by repeat (first | exact Rd.here rfl | apply Rd.up))) rfl ?_
  refine WL.val (V.lss (OV.p rfl) (OV.p rfl)) rfl ?_
  refine WL.val (V.move (OV.p rfl)) rfl ?_
  refine WL.valG (oj := _) rfl rfl rfl GC.f (V.move (OV.p rfl)) rfl ?_
  refine WL.valG (oj := _) rfl rfl rfl GC.f (V.fieldAddr fo26_1 (OV.p rfl)) rfl ?_
  refine WL.valG (oj := _) rfl rfl rfl GC.f (V.idxA at24 (OV.g rfl id) (OV.g rfl id) (fun hc => by first | omega | (simp at hc; omega))) rfl ?_
  refine WL.valG (oj := _) rfl rfl rfl GC.f (V.fieldAddr fo23_0 (OV.g rfl id)) rfl ?_
  refine WL.valG (oj := _) rfl rfl rfl GC.f (V.load Try.isAgg3 (OV.g rfl id) (fun _ => by repeat (first | exact Rd.here rfl | apply Rd.up))) rfl ?_
  refine WL.valG (oj := _) rfl rfl rfl GC.f (V.gtr (OV.g rfl id) (OV.p rfl)) rfl ?_
  refine WL.val (V.pickOr (OV.p rfl) (OV.g rfl id)) rfl ?_
  refine WL.nil ?_
  refine WC.cond rfl (fun hc1 => ?_) (fun hc1 => ?_)
  · try simp only [decide_eq_true_eq, decide_eq_false_iff_not, Bool.and_eq_true, Bool.or_eq_true, Bool.and_eq_false_iff, Bool.or_eq_false_iff, Bool.not_eq_true', Bool.not_eq_false', Bool.not_eq_true, Bool.not_eq_false] at hc1
    refine WC.seq ?_
    refine WC.region ?_
    refine WL.val (V.assign (OV.p rfl)) rfl ?_
    refine WL.nil ?_
    refine WC.ret ?_
    refine BodyQ.ret (H' := F) (Res.tmp rfl rfl) (fun w h => by repeat (first | exact h | replace h := h.tail)) ⟨?_, rfl⟩
    congr 1
    rw [Bool.eq_iff_iff]
    simp [Slo.ok]
    omega
  · try simp only [decide_eq_true_eq, decide_eq_false_iff_not, Bool.and_eq_true, Bool.or_eq_true, Bool.and_eq_false_iff, Bool.or_eq_false_iff, Bool.not_eq_true', Bool.not_eq_false', Bool.not_eq_true, Bool.not_eq_false] at hc1
    refine WC.skip ?_
    refine WC.region ?_
    refine WL.val (V.move (OV.p rfl)) rfl ?_
    refine WL.val (V.val_eq (v' := .int .i64 (1)) (V.add (OV.p rfl) (OV.p rfl)) (fun _ => rfl)) rfl ?_
    refine WL.val (V.assign (OV.p rfl)) rfl ?_
    refine WL.nil ?_
    refine WC.seq ?_
    refine WC.seq ?_
    refine WC.region ?_
    refine WL.val (V.move (OV.p rfl)) rfl ?_
    refine WL.val (V.lss (OV.p rfl) (OV.p rfl)) rfl ?_
    refine WL.nil ?_
    refine WC.condT' rfl (by first | rfl | (simp; done) | (simp; omega)) ?_
    refine WC.skip ?_
    refine WC.seq ?_
    refine WC.block ?_
    refine WC.seq ?_
    refine WC.region ?_
    refine WL.val (V.move (OV.p rfl)) rfl ?_
    refine WL.val (V.fieldAddr fo26_1 (OV.p rfl)) rfl ?_
    refine WL.val (V.idxA at24 (OV.p rfl) (OV.p rfl) (fun hc => by first | omega | (simp at hc; omega))) rfl ?_
    refine WL.val (V.fieldAddr fo23_0 (OV.p rfl)) rfl ?_
    refine WL.val (V.load Try.isAgg3 (OV.p rfl) (fun _ => by repeat (first | exact Rd.here rfl | apply Rd.up))) rfl ?_
    refine WL.val (V.lss (OV.p rfl) (OV.p rfl)) rfl ?_
    refine WL.val (V.move (OV.p rfl)) rfl ?_
    refine WL.valG (oj := _) rfl rfl rfl GC.f (V.move (OV.p rfl)) rfl ?_
    refine WL.valG (oj := _) rfl rfl rfl GC.f (V.fieldAddr fo26_1 (OV.p rfl)) rfl ?_
    refine WL.valG (oj := _) rfl rfl rfl GC.f (V.idxA at24 (OV.g rfl id) (OV.g rfl id) (fun hc => by first | omega | (simp at hc; omega))) rfl ?_
    refine WL.valG (oj := _) rfl rfl rfl GC.f (V.fieldAddr fo23_0 (OV.g rfl id)) rfl ?_
    refine WL.valG (oj := _) rfl rfl rfl GC.f (V.load Try.isAgg3 (OV.g rfl id) (fun _ => by repeat (first | exact Rd.here rfl | apply Rd.up))) rfl ?_
    refine WL.valG (oj := _) rfl rfl rfl GC.f (V.gtr (OV.g rfl id) (OV.p rfl)) rfl ?_
    refine WL.val (V.pickOr (OV.p rfl) (OV.g rfl id)) rfl ?_
    refine WL.nil ?_
    refine WC.cond rfl (fun hc1' => ?_) (fun hc1' => ?_)
    · try simp only [decide_eq_true_eq, decide_eq_false_iff_not, Bool.and_eq_true, Bool.or_eq_true, Bool.and_eq_false_iff, Bool.or_eq_false_iff, Bool.not_eq_true', Bool.not_eq_false', Bool.not_eq_true, Bool.not_eq_false] at hc1'
      refine WC.seq ?_
      refine WC.region ?_
      refine WL.val (V.assign (OV.p rfl)) rfl ?_
      refine WL.nil ?_
      refine WC.ret ?_
      refine BodyQ.ret (H' := F) (Res.tmp rfl rfl) (fun w h => by repeat (first | exact h | replace h := h.tail)) ⟨?_, rfl⟩
      congr 1
      rw [Bool.eq_iff_iff]
      simp [Slo.ok]
      omega
    · try simp only [decide_eq_true_eq, decide_eq_false_iff_not, Bool.and_eq_true, Bool.or_eq_true, Bool.and_eq_false_iff, Bool.or_eq_false_iff, Bool.not_eq_true', Bool.not_eq_false', Bool.not_eq_true, Bool.not_eq_false] at hc1'
      refine WC.skip ?_
      refine WC.region ?_
      refine WL.val (V.move (OV.p rfl)) rfl ?_
      refine WL.val (V.val_eq (v' := .int .i64 (2)) (V.add (OV.p rfl) (OV.p rfl)) (fun _ => rfl)) rfl ?_
      refine WL.val (V.assign (OV.p rfl)) rfl ?_
      refine WL.nil ?_
      refine WC.seq ?_
      refine WC.seq ?_
      refine WC.region ?_
      refine WL.val (V.move (OV.p rfl)) rfl ?_
      refine WL.val (V.lss (OV.p rfl) (OV.p rfl)) rfl ?_
      refine WL.nil ?_
      refine WC.condF' rfl (by first | rfl | (simp; done) | (simp; omega)) ?_
      refine WC.exit ?_
      refine WC.seq ?_
      refine WC.region ?_
      refine WL.val (V.fieldAddr fo26_0 (OV.p rfl)) rfl ?_
      refine WL.val (V.load Try.isAgg3 (OV.p rfl) (fun _ => by repeat (first | exact Rd.here rfl | apply Rd.up))) rfl ?_
      refine WL.val (V.eql (OV.p rfl) (OV.p rfl)) rfl ?_
      refine WL.val (V.move (OV.p rfl)) rfl ?_
      refine WL.valG (oj := _) rfl rfl rfl GC.f (V.fieldAddr fo26_0 (OV.p rfl)) rfl ?_
      refine WL.valG (oj := _) rfl rfl rfl GC.f (V.load Try.isAgg3 (OV.g rfl id) (fun _ => by repeat (first | exact Rd.here rfl | apply Rd.up))) rfl ?_
      refine WL.valG (oj := _) rfl rfl rfl GC.f (V.eql (OV.g rfl id) (OV.p rfl)) rfl ?_
      refine WL.val (V.pickOr (OV.p rfl) (OV.g rfl id)) rfl ?_
      refine WL.val (V.assign (OV.p rfl)) rfl ?_
      refine WL.nil ?_
      refine WC.ret ?_
      refine BodyQ.ret (H' := F) (Res.tmp rfl rfl) (fun w h => by repeat (first | exact h | replace h := h.tail)) ⟨?_, rfl⟩
      congr 1
      rw [Bool.eq_iff_iff]
      simp [Slo.ok]
      omega

theorem ref22_Tried (s : Slo) (slot : Int) (h : slot = 0 ∨ slot = 1) (K : World) (F : List Assn) : Tells Try.prog 28 #[s.v, .int .i64 slot] K F (.bool (s.may slot)) := by
  obtain ⟨f, t0, g0, t1, g1⟩ := s
  dsimp only [Slo.v]
  rcases h with rfl | rfl
  all_goals
    refine Does.enter Try.func28 rfl Try.ntmps28 rfl ?_
    simp only [env0, Nat.reduceAdd]
    refine WC.seq ?_
    refine WC.region ?_
    refine WL.box (cs := [_, _, _, _, _]) (OV.p rfl) rfl rfl (fun b2 => ?_)
    refine WL.val (V.assign (OV.p rfl)) rfl ?_
    refine WL.nil ?_
    refine WC.seq ?_
    refine WC.region ?_
    refine WL.val (V.move (OV.p rfl)) rfl ?_
    refine WL.val (V.fieldAddr fo26_1 (OV.p rfl)) rfl ?_
    refine WL.val (V.idxA at24 (OV.p rfl) (OV.p rfl) (fun hc => by first | omega | (simp at hc; omega))) rfl ?_
    refine WL.val (V.fieldAddr fo23_1 (OV.p rfl)) rfl ?_
    refine WL.val (V.load Try.isAgg4 (OV.p rfl) (fun _ => by repeat (first | exact Rd.here rfl | apply Rd.up))) rfl ?_
    refine WL.val (V.move (OV.p rfl)) rfl ?_
    refine WL.valG (oj := _) rfl rfl rfl GC.f (V.move (OV.p rfl)) rfl ?_
    refine WL.valG (oj := _) rfl rfl rfl GC.f (V.fieldAddr fo26_1 (OV.p rfl)) rfl ?_
    refine WL.valG (oj := _) rfl rfl rfl GC.f (V.idxA at24 (OV.g rfl id) (OV.g rfl id) (fun hc => by first | omega | (simp at hc; omega))) rfl ?_
    refine WL.valG (oj := _) rfl rfl rfl GC.f (V.fieldAddr fo23_0 (OV.g rfl id)) rfl ?_
    refine WL.valG (oj := _) rfl rfl rfl GC.f (V.load Try.isAgg3 (OV.g rfl id) (fun _ => by repeat (first | exact Rd.here rfl | apply Rd.up))) rfl ?_
    refine WL.valG (oj := _) rfl rfl rfl GC.f (V.gtr (OV.g rfl id) (OV.p rfl)) rfl ?_
    refine WL.val (V.pickOr (OV.p rfl) (OV.g rfl id)) rfl ?_
    refine WL.val (V.assign (OV.p rfl)) rfl ?_
    refine WL.nil ?_
    refine WC.ret ?_
    exact BodyQ.ret (H' := F) (Res.tmp rfl rfl) (fun w h => by repeat (first | exact h | replace h := h.tail)) ⟨rfl, rfl⟩

theorem ref22_Bytes (s : Slo) (hok : s.ok = true) (K : World) (F : List Assn) : Does Try.prog 20 #[s.v] K F (fun v H' => ∃ A cap, v = .slice A 9 cap ∧ H' = SlA (.slice A 9 cap) 5 1 9 (ints .u8 s.bytes) :: F) := by
  obtain ⟨f, t0, g0, t1, g1⟩ := s
  have hs := Slo.ok_spec hok
  dsimp only at hs
  dsimp only [Slo.v]
  refine Does.enter Try.func20 rfl Try.ntmps20 rfl ?_
  simp only [env0, Nat.reduceAdd]
  refine WC.seq ?_
  refine WC.region ?_
  refine WL.box (cs := [_, _, _, _, _]) (OV.p rfl) rfl rfl (fun b1 => ?_)
  refine WL.val (V.assign (OV.p rfl)) rfl ?_
  refine WL.nil ?_
  refine WC.seq ?_
  refine WC.region ?_
  refine WL.buildSlice (E := 5) (cs := [_, _, _, _]) (vs := [(0, _), (1, _), (2, _), (3, _)]) ⟨OV.p rfl, OV.p rfl, OV.p rfl, OV.p rfl, trivial⟩ rfl (bsl36_4_0_1_2_3 _ _ _ _) rfl (fun b6 => ?_)
  refine WL.convMark Try.underlying36 Try.underlying5 (OV.p rfl) rfl ?_
  refine WL.val (V.assign (OV.p rfl)) rfl ?_
  refine WL.nil ?_
  refine WC.seq ?_
  refine WC.region ?_
  refine WL.val (V.move (OV.p rfl)) rfl ?_
  refine WL.val (V.fieldAddr fo26_0 (OV.p rfl)) rfl ?_
  refine WL.val (V.load Try.isAgg3 (OV.p rfl) (fun _ => by repeat (first | exact Rd.here rfl | apply Rd.up))) rfl ?_
  refine WL.val (V.convI Try.runUnderlying3 Try.runUnderlying5 (OV.p rfl)) rfl ?_
  refine WL.buildSlice (E := 5) (cs := [_]) (vs := [(0, _)]) ⟨OV.p rfl, trivial⟩ rfl (bsl36_1_0 _) rfl (fun b12 => ?_)
  refine WL.appendNew Try.underlying36 el5 (OV.p rfl) (OV.p rfl) (by repeat (first | exact Seq.allZ rfl | apply Seq.up)) (by repeat (first | exact Seq.all rfl | apply Seq.up)) (by omega) (by omega) (by omega) (by omega) rfl rfl (fun A13 c13 hn13 hc13 => ?_)
  refine WL.val (V.assign (OV.p rfl)) rfl ?_
  refine WL.nil ?_
  refine WC.seq ?_
  refine WC.seq ?_
  refine WC.region ?_
  refine WL.val (V.assign (OV.p rfl)) rfl ?_
  refine WL.nil ?_
  refine WC.block ?_
  refine WC.rounds 3 ?_
  refine WC.seq ?_
  refine WC.seq ?_
  refine WC.region ?_
  refine WL.val (V.move (OV.p rfl)) rfl ?_
  refine WL.val (V.lss (OV.p rfl) (OV.p rfl)) rfl ?_
  refine WL.nil ?_
  refine WC.condT' rfl (by first | rfl | (simp; done) | (simp; omega)) ?_
  refine WC.skip ?_
  refine WC.seq ?_
  refine WC.block ?_
  refine WC.seq ?_
  refine WC.region ?_
  refine WL.val (V.assign (OV.p rfl)) rfl ?_
  refine WL.nil ?_
  refine WC.seq ?_
  refine WC.seq ?_
  refine WC.region ?_
  refine WL.val (V.move (OV.p rfl)) rfl ?_
  refine WL.val (V.fieldAddr fo26_1 (OV.p rfl)) rfl ?_
  refine WL.val (V.idxA at24 (OV.p rfl) (OV.p rfl) (fun hc => by first | omega | (simp at hc; omega))) rfl ?_
  refine WL.val (V.fieldAddr fo23_1 (OV.p rfl)) rfl ?_
  refine WL.val (V.load Try.isAgg4 (OV.p rfl) (fun _ => by repeat (first | exact Rd.here rfl | apply Rd.up))) rfl ?_
  refine WL.nil ?_
  refine WC.cond rfl (fun hc1 => ?_) (fun hc1 => ?_)
  · try simp only [decide_eq_true_eq, decide_eq_false_iff_not, Bool.and_eq_true, Bool.or_eq_true, Bool.and_eq_false_iff, Bool.or_eq_false_iff, Bool.not_eq_true', Bool.not_eq_false', Bool.not_eq_true, Bool.not_eq_false, Int.not_lt, Int.not_le] at hc1
    refine WC.region ?_
    refine WL.val (V.assign (OV.p rfl)) rfl ?_
    refine WL.nil ?_
    refine WC.region ?_
    refine WL.val (V.move (OV.p rfl)) rfl ?_
    refine WL.val (V.move (OV.p rfl)) rfl ?_
    refine WL.val (V.fieldAddr fo26_1 (OV.p rfl)) rfl ?_
    refine WL.val (V.idxA at24 (OV.p rfl) (OV.p rfl) (fun hc => by first | omega | (simp at hc; omega))) rfl ?_
    refine WL.val (V.fieldAddr fo23_0 (OV.p rfl)) rfl ?_
    refine WL.val (V.load Try.isAgg3 (OV.p rfl) (fun _ => by repeat (first | exact Rd.here rfl | apply Rd.up))) rfl ?_
    refine WL.val (V.convI Try.runUnderlying3 Try.runUnderlying5 (OV.p rfl)) rfl ?_
    refine WL.val (V.move (OV.p rfl)) rfl ?_
    refine WL.buildSlice (E := 5) (cs := [_, _]) (vs := [(0, _), (1, _)]) ⟨OV.p rfl, OV.p rfl, trivial⟩ rfl (bsl36_2_0_1 _ _) rfl (fun b31 => ?_)
    refine WL.sub (Sub.refl _) (fun w h => h.p1) ?_
    refine WL.append Try.underlying36 el5 (OV.p rfl) (OV.p rfl) (by repeat (first | exact Seq.all rfl | apply Seq.up)) (by simp [Value.oneCell']) (by first | omega | (simp; omega)) rfl rfl (fun A32 c32 hn32 hc32 => ?_)
    refine WL.val (V.assign (OV.p rfl)) rfl ?_
    refine WL.nil ?_
    refine WC.region ?_
    refine WL.val (V.move (OV.p rfl)) rfl ?_
    refine WL.val (V.val_eq (v' := .int .i64 (1)) (V.add (OV.p rfl) (OV.p rfl)) (fun _ => rfl)) rfl ?_
    refine WL.val (V.assign (OV.p rfl)) rfl ?_
    refine WL.nil ?_
    refine WC.seq ?_
    refine WC.seq ?_
    refine WC.region ?_
    refine WL.val (V.move (OV.p rfl)) rfl ?_
    refine WL.val (V.lss (OV.p rfl) (OV.p rfl)) rfl ?_
    refine WL.nil ?_
    refine WC.condT' rfl (by first | rfl | (simp; done) | (simp; omega)) ?_
    refine WC.skip ?_
    refine WC.seq ?_
    refine WC.block ?_
    refine WC.seq ?_
    refine WC.region ?_
    refine WL.val (V.assign (OV.p rfl)) rfl ?_
    refine WL.nil ?_
    refine WC.seq ?_
    refine WC.seq ?_
    refine WC.region ?_
    refine WL.val (V.move (OV.p rfl)) rfl ?_
    refine WL.val (V.fieldAddr fo26_1 (OV.p rfl)) rfl ?_
    refine WL.val (V.idxA at24 (OV.p rfl) (OV.p rfl) (fun hc => by first | omega | (simp at hc; omega))) rfl ?_
    refine WL.val (V.fieldAddr fo23_1 (OV.p rfl)) rfl ?_
    refine WL.val (V.load Try.isAgg4 (OV.p rfl) (fun _ => by repeat (first | exact Rd.here rfl | apply Rd.up))) rfl ?_
    refine WL.nil ?_
    refine WC.cond rfl (fun hc1' => ?_) (fun hc1' => ?_)
    · try simp only [decide_eq_true_eq, decide_eq_false_iff_not, Bool.and_eq_true, Bool.or_eq_true, Bool.and_eq_false_iff, Bool.or_eq_false_iff, Bool.not_eq_true', Bool.not_eq_false', Bool.not_eq_true, Bool.not_eq_false, Int.not_lt, Int.not_le] at hc1'
      refine WC.region ?_
      refine WL.val (V.assign (OV.p rfl)) rfl ?_
      refine WL.nil ?_
      refine WC.region ?_
      refine WL.val (V.move (OV.p rfl)) rfl ?_
      refine WL.val (V.move (OV.p rfl)) rfl ?_
      refine WL.val (V.fieldAddr fo26_1 (OV.p rfl)) rfl ?_
      refine WL.val (V.idxA at24 (OV.p rfl) (OV.p rfl) (fun hc => by first | omega | (simp at hc; omega))) rfl ?_
      refine WL.val (V.fieldAddr fo23_0 (OV.p rfl)) rfl ?_
      refine WL.val (V.load Try.isAgg3 (OV.p rfl) (fun _ => by repeat (first | exact Rd.here rfl | apply Rd.up))) rfl ?_
      refine WL.val (V.convI Try.runUnderlying3 Try.runUnderlying5 (OV.p rfl)) rfl ?_
      refine WL.val (V.move (OV.p rfl)) rfl ?_
      refine WL.buildSlice (E := 5) (cs := [_, _]) (vs := [(0, _), (1, _)]) ⟨OV.p rfl, OV.p rfl, trivial⟩ rfl (bsl36_2_0_1 _ _) rfl (fun b31 => ?_)
      refine WL.sub (Sub.refl _) (fun w h => h.p1) ?_
      refine WL.append Try.underlying36 el5 (OV.p rfl) (OV.p rfl) (by repeat (first | exact Seq.all rfl | apply Seq.up)) (by simp [Value.oneCell']) (by first | omega | (simp; omega)) rfl rfl (fun A32 c32 hn32 hc32 => ?_)
      refine WL.val (V.assign (OV.p rfl)) rfl ?_
      refine WL.nil ?_
      refine WC.region ?_
      refine WL.val (V.move (OV.p rfl)) rfl ?_
      refine WL.val (V.val_eq (v' := .int .i64 (2)) (V.add (OV.p rfl) (OV.p rfl)) (fun _ => rfl)) rfl ?_
      refine WL.val (V.assign (OV.p rfl)) rfl ?_
      refine WL.nil ?_
      refine WC.seq ?_
      refine WC.seq ?_
      refine WC.region ?_
      refine WL.val (V.move (OV.p rfl)) rfl ?_
      refine WL.val (V.lss (OV.p rfl) (OV.p rfl)) rfl ?_
      refine WL.nil ?_
      refine WC.condF' rfl (by first | rfl | (simp; done) | (simp; omega)) ?_
      refine WC.exit ?_
      refine WC.seq ?_
      refine WC.region ?_
      refine WL.val (V.move (OV.p rfl)) rfl ?_
      refine WL.val (V.assign (OV.p rfl)) rfl ?_
      refine WL.nil ?_
      refine WC.ret ?_
      refine BodyQ.ret (H' := SlA _ 5 1 9 (ints .u8 (Slo.mk f t0 g0 t1 g1).bytes) :: F) (Res.tmp rfl rfl) (fun w h => ?_) ⟨_, _, rfl, rfl⟩
      refine Sat.sl_eq (by revert h; exact fun h => by repeat (first | exact h | replace h := h.drop2)) ?_
      rw [wrap_u8 (by omega), wrap_u8 (by omega), wrap_u8 (by omega)]
      unfold Slo.bytes
      rw [if_pos hok]
      simp [ints, Slo.b01, *]
    · try simp only [decide_eq_true_eq, decide_eq_false_iff_not, Bool.and_eq_true, Bool.or_eq_true, Bool.and_eq_false_iff, Bool.or_eq_false_iff, Bool.not_eq_true', Bool.not_eq_false', Bool.not_eq_true, Bool.not_eq_false, Int.not_lt, Int.not_le] at hc1'
      refine WC.skip ?_
      refine WC.region ?_
      refine WL.val (V.move (OV.p rfl)) rfl ?_
      refine WL.val (V.move (OV.p rfl)) rfl ?_
      refine WL.val (V.fieldAddr fo26_1 (OV.p rfl)) rfl ?_
      refine WL.val (V.idxA at24 (OV.p rfl) (OV.p rfl) (fun hc => by first | omega | (simp at hc; omega))) rfl ?_
      refine WL.val (V.fieldAddr fo23_0 (OV.p rfl)) rfl ?_
      refine WL.val (V.load Try.isAgg3 (OV.p rfl) (fun _ => by repeat (first | exact Rd.here rfl | apply Rd.up))) rfl ?_
      refine WL.val (V.convI Try.runUnderlying3 Try.runUnderlying5 (OV.p rfl)) rfl ?_
      refine WL.val (V.move (OV.p rfl)) rfl ?_
      refine WL.buildSlice (E := 5) (cs := [_, _]) (vs := [(0, _), (1, _)]) ⟨OV.p rfl, OV.p rfl, trivial⟩ rfl (bsl36_2_0_1 _ _) rfl (fun b31 => ?_)
      refine WL.sub (Sub.refl _) (fun w h => h.p1) ?_
      refine WL.append Try.underlying36 el5 (OV.p rfl) (OV.p rfl) (by repeat (first | exact Seq.all rfl | apply Seq.up)) (by simp [Value.oneCell']) (by first | omega | (simp; omega)) rfl rfl (fun A32 c32 hn32 hc32 => ?_)
      refine WL.val (V.assign (OV.p rfl)) rfl ?_
      refine WL.nil ?_
      refine WC.region ?_
      refine WL.val (V.move (OV.p rfl)) rfl ?_
      refine WL.val (V.val_eq (v' := .int .i64 (2)) (V.add (OV.p rfl) (OV.p rfl)) (fun _ => rfl)) rfl ?_
      refine WL.val (V.assign (OV.p rfl)) rfl ?_
      refine WL.nil ?_
      refine WC.seq ?_
      refine WC.seq ?_
      refine WC.region ?_
      refine WL.val (V.move (OV.p rfl)) rfl ?_
      refine WL.val (V.lss (OV.p rfl) (OV.p rfl)) rfl ?_
      refine WL.nil ?_
      refine WC.condF' rfl (by first | rfl | (simp; done) | (simp; omega)) ?_
      refine WC.exit ?_
      refine WC.seq ?_
      refine WC.region ?_
      refine WL.val (V.move (OV.p rfl)) rfl ?_
      refine WL.val (V.assign (OV.p rfl)) rfl ?_
      refine WL.nil ?_
      refine WC.ret ?_
      refine BodyQ.ret (H' := SlA _ 5 1 9 (ints .u8 (Slo.mk f t0 g0 t1 g1).bytes) :: F) (Res.tmp rfl rfl) (fun w h => ?_) ⟨_, _, rfl, rfl⟩
      refine Sat.sl_eq (by revert h; exact fun h => by repeat (first | exact h | replace h := h.drop2)) ?_
      rw [wrap_u8 (by omega), wrap_u8 (by omega), wrap_u8 (by omega)]
      unfold Slo.bytes
      rw [if_pos hok]
      simp [ints, Slo.b01, *]
  · try simp only [decide_eq_true_eq, decide_eq_false_iff_not, Bool.and_eq_true, Bool.or_eq_true, Bool.and_eq_false_iff, Bool.or_eq_false_iff, Bool.not_eq_true', Bool.not_eq_false', Bool.not_eq_true, Bool.not_eq_false, Int.not_lt, Int.not_le] at hc1
    refine WC.skip ?_
    refine WC.region ?_
    refine WL.val (V.move (OV.p rfl)) rfl ?_
    refine WL.val (V.move (OV.p rfl)) rfl ?_
    refine WL.val (V.fieldAddr fo26_1 (OV.p rfl)) rfl ?_
    refine WL.val (V.idxA at24 (OV.p rfl) (OV.p rfl) (fun hc => by first | omega | (simp at hc; omega))) rfl ?_
    refine WL.val (V.fieldAddr fo23_0 (OV.p rfl)) rfl ?_
    refine WL.val (V.load Try.isAgg3 (OV.p rfl) (fun _ => by repeat (first | exact Rd.here rfl | apply Rd.up))) rfl ?_
    refine WL.val (V.convI Try.runUnderlying3 Try.runUnderlying5 (OV.p rfl)) rfl ?_
    refine WL.val (V.move (OV.p rfl)) rfl ?_
    refine WL.buildSlice (E := 5) (cs := [_, _]) (vs := [(0, _), (1, _)]) ⟨OV.p rfl, OV.p rfl, trivial⟩ rfl (bsl36_2_0_1 _ _) rfl (fun b31 => ?_)
    refine WL.sub (Sub.refl _) (fun w h => h.p1) ?_
    refine WL.append Try.underlying36 el5 (OV.p rfl) (OV.p rfl) (by repeat (first | exact Seq.all rfl | apply Seq.up)) (by simp [Value.oneCell']) (by first | omega | (simp; omega)) rfl rfl (fun A32 c32 hn32 hc32 => ?_)
    refine WL.val (V.assign (OV.p rfl)) rfl ?_
    refine WL.nil ?_
    refine WC.region ?_
    refine WL.val (V.move (OV.p rfl)) rfl ?_
    refine WL.val (V.val_eq (v' := .int .i64 (1)) (V.add (OV.p rfl) (OV.p rfl)) (fun _ => rfl)) rfl ?_
    refine WL.val (V.assign (OV.p rfl)) rfl ?_
    refine WL.nil ?_
    refine WC.seq ?_
    refine WC.seq ?_
    refine WC.region ?_
    refine WL.val (V.move (OV.p rfl)) rfl ?_
    refine WL.val (V.lss (OV.p rfl) (OV.p rfl)) rfl ?_
    refine WL.nil ?_
    refine WC.condT' rfl (by first | rfl | (simp; done) | (simp; omega)) ?_
    refine WC.skip ?_
    refine WC.seq ?_
    refine WC.block ?_
    refine WC.seq ?_
    refine WC.region ?_
    refine WL.val (V.assign (OV.p rfl)) rfl ?_
    refine WL.nil ?_
    refine WC.seq ?_
    refine WC.seq ?_
    refine WC.region ?_
    refine WL.val (V.move (OV.p rfl)) rfl ?_
    refine WL.val (V.fieldAddr fo26_1 (OV.p rfl)) rfl ?_
    refine WL.val (V.idxA at24 (OV.p rfl) (OV.p rfl) (fun hc => by first | omega | (simp at hc; omega))) rfl ?_
    refine WL.val (V.fieldAddr fo23_1 (OV.p rfl)) rfl ?_
    refine WL.val (V.load Try.isAgg4 (OV.p rfl) (fun _ => by repeat (first | exact Rd.here rfl | apply Rd.up))) rfl ?_
    refine WL.nil ?_
    refine WC.cond rfl (fun hc1' => ?_) (fun hc1' => ?_)
    · try simp only [decide_eq_true_eq, decide_eq_false_iff_not, Bool.and_eq_true, Bool.or_eq_true, Bool.and_eq_false_iff, Bool.or_eq_false_iff, Bool.not_eq_true', Bool.not_eq_false', Bool.not_eq_true, Bool.not_eq_false, Int.not_lt, Int.not_le] at hc1'
      refine WC.region ?_
      refine WL.val (V.assign (OV.p rfl)) rfl ?_
      refine WL.nil ?_
      refine WC.region ?_
      refine WL.val (V.move (OV.p rfl)) rfl ?_
      refine WL.val (V.move (OV.p rfl)) rfl ?_
      refine WL.val (V.fieldAddr fo26_1 (OV.p rfl)) rfl ?_
      refine WL.val (V.idxA at24 (OV.p rfl) (OV.p rfl) (fun hc => by first | omega | (simp at hc; omega))) rfl ?_
      refine WL.val (V.fieldAddr fo23_0 (OV.p rfl)) rfl ?_
      refine WL.val (V.load Try.isAgg3 (OV.p rfl) (fun _ => by repeat (first | exact Rd.here rfl | apply Rd.up))) rfl ?_
      refine WL.val (V.convI Try.runUnderlying3 Try.runUnderlying5 (OV.p rfl)) rfl ?_
      refine WL.val (V.move (OV.p rfl)) rfl ?_
      refine WL.buildSlice (E := 5) (cs := [_, _]) (vs := [(0, _), (1, _)]) ⟨OV.p rfl, OV.p rfl, trivial⟩ rfl (bsl36_2_0_1 _ _) rfl (fun b31 => ?_)
      refine WL.sub (Sub.refl _) (fun w h => h.p1) ?_
      refine WL.append Try.underlying36 el5 (OV.p rfl) (OV.p rfl) (by repeat (first | exact Seq.all rfl | apply Seq.up)) (by simp [Value.oneCell']) (by first | omega | (simp; omega)) rfl rfl (fun A32 c32 hn32 hc32 => ?_)
      refine WL.val (V.assign (OV.p rfl)) rfl ?_
      refine WL.nil ?_
      refine WC.region ?_
      refine WL.val (V.move (OV.p rfl)) rfl ?_
      refine WL.val (V.val_eq (v' := .int .i64 (2)) (V.add (OV.p rfl) (OV.p rfl)) (fun _ => rfl)) rfl ?_
      refine WL.val (V.assign (OV.p rfl)) rfl ?_
      refine WL.nil ?_
      refine WC.seq ?_
      refine WC.seq ?_
      refine WC.region ?_
      refine WL.val (V.move (OV.p rfl)) rfl ?_
      refine WL.val (V.lss (OV.p rfl) (OV.p rfl)) rfl ?_
      refine WL.nil ?_
      refine WC.condF' rfl (by first | rfl | (simp; done) | (simp; omega)) ?_
      refine WC.exit ?_
      refine WC.seq ?_
      refine WC.region ?_
      refine WL.val (V.move (OV.p rfl)) rfl ?_
      refine WL.val (V.assign (OV.p rfl)) rfl ?_
      refine WL.nil ?_
      refine WC.ret ?_
      refine BodyQ.ret (H' := SlA _ 5 1 9 (ints .u8 (Slo.mk f t0 g0 t1 g1).bytes) :: F) (Res.tmp rfl rfl) (fun w h => ?_) ⟨_, _, rfl, rfl⟩
      refine Sat.sl_eq (by revert h; exact fun h => by repeat (first | exact h | replace h := h.drop2)) ?_
      rw [wrap_u8 (by omega), wrap_u8 (by omega), wrap_u8 (by omega)]
      unfold Slo.bytes
      rw [if_pos hok]
      simp [ints, Slo.b01, *]
    · try simp only [decide_eq_true_eq, decide_eq_false_iff_not, Bool.and_eq_true, Bool.or_eq_true, Bool.and_eq_false_iff, Bool.or_eq_false_iff, Bool.not_eq_true', Bool.not_eq_false', Bool.not_eq_true, Bool.not_eq_false, Int.not_lt, Int.not_le] at hc1'
      refine WC.skip ?_
      refine WC.region ?_
      refine WL.val (V.move (OV.p rfl)) rfl ?_
      refine WL.val (V.move (OV.p rfl)) rfl ?_
      refine WL.val (V.fieldAddr fo26_1 (OV.p rfl)) rfl ?_
      refine WL.val (V.idxA at24 (OV.p rfl) (OV.p rfl) (fun hc => by first | omega | (simp at hc; omega))) rfl ?_
      refine WL.val (V.fieldAddr fo23_0 (OV.p rfl)) rfl ?_
      refine WL.val (V.load Try.isAgg3 (OV.p rfl) (fun _ => by repeat (first | exact Rd.here rfl | apply Rd.up))) rfl ?_
      refine WL.val (V.convI Try.runUnderlying3 Try.runUnderlying5 (OV.p rfl)) rfl ?_
      refine WL.val (V.move (OV.p rfl)) rfl ?_
      refine WL.buildSlice (E := 5) (cs := [_, _]) (vs := [(0, _), (1, _)]) ⟨OV.p rfl, OV.p rfl, trivial⟩ rfl (bsl36_2_0_1 _ _) rfl (fun b31 => ?_)
      refine WL.sub (Sub.refl _) (fun w h => h.p1) ?_
      refine WL.append Try.underlying36 el5 (OV.p rfl) (OV.p rfl) (by repeat (first | exact Seq.all rfl | apply Seq.up)) (by simp [Value.oneCell']) (by first | omega | (simp; omega)) rfl rfl (fun A32 c32 hn32 hc32 => ?_)
      refine WL.val (V.assign (OV.p rfl)) rfl ?_
      refine WL.nil ?_
      refine WC.region ?_
      refine WL.val (V.move (OV.p rfl)) rfl ?_
      refine WL.val (V.val_eq (v' := .int .i64 (2)) (V.add (OV.p rfl) (OV.p rfl)) (fun _ => rfl)) rfl ?_
      refine WL.val (V.assign (OV.p rfl)) rfl ?_
      refine WL.nil ?_
      refine WC.seq ?_
      refine WC.seq ?_
      refine WC.region ?_
      refine WL.val (V.move (OV.p rfl)) rfl ?_
      refine WL.val (V.lss (OV.p rfl) (OV.p rfl)) rfl ?_
      refine WL.nil ?_
      refine WC.condF' rfl (by first | rfl | (simp; done) | (simp; omega)) ?_
      refine WC.exit ?_
      refine WC.seq ?_
      refine WC.region ?_
      refine WL.val (V.move (OV.p rfl)) rfl ?_
      refine WL.val (V.assign (OV.p rfl)) rfl ?_
      refine WL.nil ?_
      refine WC.ret ?_
      refine BodyQ.ret (H' := SlA _ 5 1 9 (ints .u8 (Slo.mk f t0 g0 t1 g1).bytes) :: F) (Res.tmp rfl rfl) (fun w h => ?_) ⟨_, _, rfl, rfl⟩
      refine Sat.sl_eq (by revert h; exact fun h => by repeat (first | exact h | replace h := h.drop2)) ?_
      rw [wrap_u8 (by omega), wrap_u8 (by omega), wrap_u8 (by omega)]
      unfold Slo.bytes
      rw [if_pos hok]
      simp [ints, Slo.b01, *]

/-- Two lists of numbers: are they one? -/
theorem ref01_Ints {A B : Option Addr} {m q cap cap' : Nat} {xs ys : List Int} (K : World) (F : List Assn) (ha : Seq K F A m 1 (ints .i64 xs)) (hb : Seq K F B q 1 (ints .i64 ys)) (hm : (m : Int) ≤ 9223372036854775807) :
    Tells Try.prog 21 #[.slice A m cap, .slice B q cap'] K F (.bool (decide (xs = ys))) := by
  have hl : xs.length = m := by simpa [ints] using ha.len
  have hl' : ys.length = q := by simpa [ints] using hb.len
  refine Does.enter Try.func21 rfl Try.ntmps21 rfl ?_
  simp only [env0, Nat.reduceAdd]
  refine WC.seq ?_
  refine WC.region ?_
  refine WL.val (V.assign (OV.p rfl)) rfl ?_
  refine WL.nil ?_
  refine WC.seq ?_
  refine WC.seq ?_
  refine WC.region ?_
  refine WL.val (V.move (OV.p rfl)) rfl ?_
  refine WL.val (V.len (t := 27) Try.runUnderlying27 (OV.p rfl)) rfl ?_
  refine WL.val (V.move (OV.p rfl)) rfl ?_
  refine WL.val (V.len (t := 27) Try.runUnderlying27 (OV.p rfl)) rfl ?_
  refine WL.val (V.neq (OV.p rfl) (OV.p rfl)) rfl ?_
  refine WL.nil ?_
  refine WC.cond rfl (fun hc0 => ?_) (fun hc0 => ?_)
  · simp only [decide_eq_true_eq, decide_eq_false_iff_not, Bool.and_eq_true, Bool.or_eq_true, Bool.and_eq_false_iff, Bool.or_eq_false_iff, Bool.not_eq_true', Bool.not_eq_false', Bool.not_eq_true, Bool.not_eq_false, Int.not_lt, Int.not_le] at hc0
    refine WC.seq ?_
    refine WC.region ?_
    refine WL.val (V.assign (OV.p rfl)) rfl ?_
    refine WL.nil ?_
    refine WC.ret ?_
    refine BodyQ.ret (H' := F) (Res.tmp rfl rfl) (fun w h => by repeat (first | exact h | replace h := h.tail)) ⟨?_, rfl⟩
    rw [decide_eq_false]; intro h; subst h; omega
  · simp only [decide_eq_true_eq, decide_eq_false_iff_not, Bool.and_eq_true, Bool.or_eq_true, Bool.and_eq_false_iff, Bool.or_eq_false_iff, Bool.not_eq_true', Bool.not_eq_false', Bool.not_eq_true, Bool.not_eq_false, Int.not_lt, Int.not_le] at hc0
    obtain rfl : m = q := by omega
    refine WC.skip ?_
    refine WC.seq ?_
    refine WC.seq ?_
    refine WC.region ?_
    refine WL.val (V.assign (OV.p rfl)) rfl ?_
    refine WL.nil ?_
    refine WC.block ?_
    refine WC.loop (σ := Nat) (fun k => [(0, .slice A m cap), (1, .slice B m cap'), (5, .int .i64 (k : Int))]) (fun _ => F) (fun k => k ≤ m ∧ ∀ i, i < k → xs.getD i 0 = ys.getD i 0) (fun k => m - k) 0 ⟨Nat.zero_le _, fun i hi => absurd hi (Nat.not_lt_zero i)⟩ (.cons rfl (.cons rfl (.cons rfl (.nil _)))) (fun w h => h) ?_
    rintro k ⟨hk, heq⟩
    refine WC.seq ?_
    refine WC.seq ?_
    refine WC.region ?_
    refine WL.val (V.move (OV.p rfl)) rfl ?_
    refine WL.val (V.move (OV.p rfl)) rfl ?_
    refine WL.val (V.len (t := 27) Try.runUnderlying27 (OV.p rfl)) rfl ?_
    refine WL.val (V.lss (OV.p rfl) (OV.p rfl)) rfl ?_
    refine WL.nil ?_
    refine WC.cond rfl (fun hc1 => ?_) (fun hc1 => ?_)
    · try simp only [decide_eq_true_eq, decide_eq_false_iff_not, Bool.and_eq_true, Bool.or_eq_true, Bool.and_eq_false_iff, Bool.or_eq_false_iff, Bool.not_eq_true', Bool.not_eq_false', Bool.not_eq_true, Bool.not_eq_false, Int.not_lt, Int.not_le] at hc1
      refine WC.skip ?_
      refine WC.seq ?_
      refine WC.block ?_
      refine WC.seq ?_
      refine WC.regionQ (by kernel_rfl) (by kernel_rfl) ?_
      refine WQ.val (V.move (OV.p rfl)) rfl ?_
      refine WQ.val (V.move (OV.p rfl)) rfl ?_
      refine WQ.val (V.idxS st27 (OV.p rfl) (OV.p rfl) (fun hc => by first | omega | (simp at hc; omega)) (fun hc => by repeat (first | exact Seq.int_rd ha (by first | omega | (simp at hc; omega)) | apply Rd.up))) rfl ?_
      refine WQ.val (V.load Try.isAgg3 (OV.p rfl) (fun hc => by repeat (first | exact Seq.int_rd ha (by first | omega | (simp at hc; omega)) | apply Rd.up))) rfl ?_
      refine WQ.val (V.move (OV.p rfl)) rfl ?_
      refine WQ.val (V.move (OV.p rfl)) rfl ?_
      refine WQ.val (V.idxS st27 (OV.p rfl) (OV.p rfl) (fun hc => by first | omega | (simp at hc; omega)) (fun hc => by repeat (first | exact Seq.int_rd hb (by first | omega | (simp at hc; omega)) | apply Rd.up))) rfl ?_
      refine WQ.val (V.load Try.isAgg3 (OV.p rfl) (fun hc => by repeat (first | exact Seq.int_rd hb (by first | omega | (simp at hc; omega)) | apply Rd.up))) rfl ?_
      refine WQ.val (V.neq (OV.p rfl) (OV.p rfl)) rfl ?_
      refine WQ.nil ?_
      refine WC.cond rfl (fun hc2 => ?_) (fun hc2 => ?_)
      · try simp only [decide_eq_true_eq, decide_eq_false_iff_not, Bool.and_eq_true, Bool.or_eq_true, Bool.and_eq_false_iff, Bool.or_eq_false_iff, Bool.not_eq_true', Bool.not_eq_false', Bool.not_eq_true, Bool.not_eq_false, Int.not_lt, Int.not_le] at hc2
        refine WC.seq ?_
        refine WC.region ?_
        refine WL.val (V.assign (OV.p rfl)) rfl ?_
        refine WL.nil ?_
        refine WC.ret ?_
        refine BodyQ.ret (H' := F) (Res.tmp rfl rfl) (fun w h => by repeat (first | exact h | replace h := h.tail)) ⟨?_, rfl⟩
        rw [decide_eq_false]; intro h; subst h; exact hc2 rfl
      · try simp only [decide_eq_true_eq, decide_eq_false_iff_not, Bool.and_eq_true, Bool.or_eq_true, Bool.and_eq_false_iff, Bool.or_eq_false_iff, Bool.not_eq_true', Bool.not_eq_false', Bool.not_eq_true, Bool.not_eq_false, Int.not_lt, Int.not_le] at hc2
        refine WC.skip ?_
        refine WC.region ?_
        refine WL.val (V.move (OV.p rfl)) rfl ?_
        refine WL.val (V.addI (OV.p rfl) (OV.p rfl) (fun hc => by first | omega | (simp at hc; omega))) rfl ?_
        refine WL.val (V.assign (OV.p rfl)) rfl ?_
        refine WL.nil ?_
        refine ⟨k + 1, ⟨by omega, fun i hi => ?_⟩, (by show m - (k + 1) < m - k; omega), .cons rfl (.cons rfl (.cons (look_eq rfl (by simp)) (.nil _))), fun w h => h⟩
        rcases Nat.lt_succ_iff_lt_or_eq.1 hi with h | h
        · exact heq i h
        · subst h; simpa using hc2
    · try simp only [decide_eq_true_eq, decide_eq_false_iff_not, Bool.and_eq_true, Bool.or_eq_true, Bool.and_eq_false_iff, Bool.or_eq_false_iff, Bool.not_eq_true', Bool.not_eq_false', Bool.not_eq_true, Bool.not_eq_false, Int.not_lt, Int.not_le] at hc1
      refine WC.exit ?_
      refine WC.seq ?_
      refine WC.region ?_
      refine WL.val (V.assign (OV.p rfl)) rfl ?_
      refine WL.nil ?_
      refine WC.ret ?_
      refine BodyQ.ret (H' := F) (Res.tmp rfl rfl) (fun w h => by repeat (first | exact h | replace h := h.tail)) ⟨?_, rfl⟩
      rw [decide_eq_true]
      apply List.ext_getElem (by omega)
      intro i h1 h2
      have := heq i (by omega)
      simpa [List.getD, h1, h2] using this

theorem Slo.ahd_bad {s : Slo} {slot : Int} (h : (s.ok = false ∨ slot < 0) ∨ 1 < slot) : s.ahd slot = 1 := by
  unfold Slo.ahd
  rw [if_neg]
  intro h'
  simp only [Bool.and_eq_true, Bool.or_eq_true, decide_eq_true_eq] at h'
  obtain ⟨h1, h2⟩ := h'
  simp [h1] at h
  omega
theorem Slo.ahd_good {s : Slo} {slot : Int} (h1 : s.ok = true) (h2 : slot = 0 ∨ slot = 1) : s.ahd slot = 0 := by
  unfold Slo.ahd
  rw [if_pos]
  simp [h1, h2]

theorem ref22_Try (s : Slo) (slot : Int) (K : World) (F : List Assn) : Tells Try.prog 15 #[s.v, .int .i64 slot] K F (.tuple #[(s.try_ slot).1.v, .int .i64 (s.try_ slot).2]) := by
  refine Does.enter Try.func15 rfl Try.ntmps15 rfl ?_
  simp only [env0, Nat.reduceAdd]
  refine WC.seq ?_
  refine WC.region ?_
  refine WL.box (cs := [_, _, _, _, _]) (OV.p rfl) rfl rfl (fun b2 => ?_)
  refine WL.alloc (cs := [(.int .i64 0), (.int .i64 0), (.bool false), (.int .i64 0), (.bool false)]) Try.zeroValue26 rfl rfl (fun b4 => ?_)
  refine WL.val (V.assign (OV.p rfl)) rfl ?_
  refine WL.nil ?_
  refine WC.seq ?_
  refine WC.seq ?_
  refine WC.region ?_
  refine WL.val (V.loadA (vs := [_, _, _, _, _]) ⟨Try.isAgg26, Try.sizeOf26⟩ (OV.p rfl) rfl (fun _ => by repeat (first | exact Rds.gets ⟨rfl, rfl, rfl, rfl, rfl, trivial⟩ | apply Rds.up))) rfl ?_
  refine WL.call (vs := [_]) Try.call19 ⟨OV.p rfl, trivial⟩ (ref22_May s _ _) rfl ?_
  rintro _ H0 ⟨rfl, h0⟩
  subst H0
  refine WL.val (V.not (OV.p rfl)) rfl ?_
  refine WL.val (V.move (OV.p rfl)) rfl ?_
  refine WL.valG (oj := _) rfl rfl rfl GC.f (V.move (OV.p rfl)) rfl ?_
  refine WL.valG (oj := _) rfl rfl rfl GC.f (V.lss (OV.g rfl id) (OV.p rfl)) rfl ?_
  refine WL.val (V.pickOr (OV.p rfl) (OV.g rfl id)) rfl ?_
  refine WL.val (V.move (OV.p rfl)) rfl ?_
  refine WL.valG (oj := _) rfl rfl rfl GC.f (V.move (OV.p rfl)) rfl ?_
  refine WL.valG (oj := _) rfl rfl rfl GC.f (V.gtr (OV.g rfl id) (OV.p rfl)) rfl ?_
  refine WL.val (V.pickOr (OV.p rfl) (OV.g rfl id)) rfl ?_
  refine WL.nil ?_
  refine WC.cond rfl (fun hc0 => ?_) (fun hc0 => ?_)
  · simp only [decide_eq_true_eq, decide_eq_false_iff_not, Bool.and_eq_true, Bool.or_eq_true, Bool.and_eq_false_iff, Bool.or_eq_false_iff, Bool.not_eq_true', Bool.not_eq_false', Bool.not_eq_true, Bool.not_eq_false, Int.not_lt, Int.not_le] at hc0
    have e1 : s.try_ slot = (Slo.zero, 1) := by unfold Slo.try_; rw [if_pos (by rw [Slo.ahd_bad hc0]; decide)]
    refine WC.seq ?_
    refine WC.region ?_
    refine WL.val (V.build (vs := []) trivial rfl (bld26 )) rfl ?_
    refine WL.store (cs := [_, _, _, _, _]) Try.sizeOf26 (OV.p rfl) (OV.p rfl) rfl rfl rfl (by repeat (first | exact Upd.here (cs' := [_, _, _, _, _]) rfl rfl | apply Upd.up)) ?_
    refine WL.val (V.assign (OV.p rfl)) rfl ?_
    refine WL.nil ?_
    refine WC.ret ?_
    refine BodyQ.ret (H' := F) (Res.two rfl (R1.cellA (vs := [_, _, _, _, _]) rfl ⟨Try.isAgg26, Try.sizeOf26⟩ rfl (by repeat (first | exact Rds.gets ⟨rfl, rfl, rfl, rfl, rfl, trivial⟩ | apply Rds.up))) (R1.tmp rfl)) (fun w h => by repeat (first | exact h | replace h := h.tail)) ⟨?_, rfl⟩
    rw [e1]; rfl
  · simp only [decide_eq_true_eq, decide_eq_false_iff_not, Bool.and_eq_true, Bool.or_eq_true, Bool.and_eq_false_iff, Bool.or_eq_false_iff, Bool.not_eq_true', Bool.not_eq_false', Bool.not_eq_true, Bool.not_eq_false, Int.not_lt, Int.not_le] at hc0
    have hok := hc0.1.1
    have hsl : slot = 0 ∨ slot = 1 := by omega
    have hs := Slo.ok_spec hok
    have e1 : s.try_ slot = if s.may slot then (s.put slot s.f (if s.g slot then s.t slot else s.t slot - 1) (s.g slot), 0) else (Slo.zero, 240) := by unfold Slo.try_; rw [if_neg (by simp [Slo.ahd_good hok hsl])]
    clear hc0
    rcases hsl with rfl | rfl
    all_goals
      refine WC.skip ?_
      refine WC.seq ?_
      refine WC.seq ?_
      refine WC.region ?_
      refine WL.val (V.loadA (vs := [_, _, _, _, _]) ⟨Try.isAgg26, Try.sizeOf26⟩ (OV.p rfl) rfl (fun _ => by repeat (first | exact Rds.gets ⟨rfl, rfl, rfl, rfl, rfl, trivial⟩ | apply Rds.up))) rfl ?_
      refine WL.val (V.move (OV.p rfl)) rfl ?_
      refine WL.call (vs := [_, _]) Try.call28 ⟨OV.p rfl, OV.p rfl, trivial⟩ (ref22_Tried s _ (by simp) _ _) rfl ?_
      rintro _ H0 ⟨rfl, h0⟩
      subst H0
      refine WL.val (V.not (OV.p rfl)) rfl ?_
      refine WL.nil ?_
      refine WC.cond rfl (fun hc1 => ?_) (fun hc1 => ?_)
      · simp only [decide_eq_true_eq, decide_eq_false_iff_not, Bool.and_eq_true, Bool.or_eq_true, Bool.and_eq_false_iff, Bool.or_eq_false_iff, Bool.not_eq_true', Bool.not_eq_false', Bool.not_eq_true, Bool.not_eq_false] at hc1
        refine WC.seq ?_
        refine WC.region ?_
        refine WL.val (V.build (vs := []) trivial rfl (bld26 )) rfl ?_
        refine WL.store (cs := [_, _, _, _, _]) Try.sizeOf26 (OV.p rfl) (OV.p rfl) rfl rfl rfl (by repeat (first | exact Upd.here (cs' := [_, _, _, _, _]) rfl rfl | apply Upd.up)) ?_
        refine WL.val (V.assign (OV.p rfl)) rfl ?_
        refine WL.nil ?_
        refine WC.ret ?_
        refine BodyQ.ret (H' := F) (Res.two rfl (R1.cellA (vs := [_, _, _, _, _]) rfl ⟨Try.isAgg26, Try.sizeOf26⟩ rfl (by repeat (first | exact Rds.gets ⟨rfl, rfl, rfl, rfl, rfl, trivial⟩ | apply Rds.up))) (R1.tmp rfl)) (fun w h => by repeat (first | exact h | replace h := h.tail)) ⟨?_, rfl⟩
        rw [e1, hc1]
        simp [*, Slo.g, Slo.t, Slo.put, Slo.zero]
      · simp only [decide_eq_true_eq, decide_eq_false_iff_not, Bool.and_eq_true, Bool.or_eq_true, Bool.and_eq_false_iff, Bool.or_eq_false_iff, Bool.not_eq_true', Bool.not_eq_false', Bool.not_eq_true, Bool.not_eq_false] at hc1
        refine WC.skip ?_
        refine WC.seq ?_
        refine WC.seq ?_
        refine WC.region ?_
        refine WL.val (V.move (OV.p rfl)) rfl ?_
        refine WL.val (V.fieldAddr fo26_1 (OV.p rfl)) rfl ?_
        refine WL.val (V.idxA at24 (OV.p rfl) (OV.p rfl) (fun hc => by first | omega | (simp at hc; omega))) rfl ?_
        refine WL.val (V.fieldAddr fo23_1 (OV.p rfl)) rfl ?_
        refine WL.val (V.load Try.isAgg4 (OV.p rfl) (fun _ => by repeat (first | exact Rd.here rfl | apply Rd.up))) rfl ?_
        refine WL.val (V.not (OV.p rfl)) rfl ?_
        refine WL.nil ?_
        refine WC.cond rfl (fun hc2 => ?_) (fun hc2 => ?_)
        · simp only [decide_eq_true_eq, decide_eq_false_iff_not, Bool.and_eq_true, Bool.or_eq_true, Bool.and_eq_false_iff, Bool.or_eq_false_iff, Bool.not_eq_true', Bool.not_eq_false', Bool.not_eq_true, Bool.not_eq_false] at hc2
          refine WC.region ?_
          refine WL.val (V.move (OV.p rfl)) rfl ?_
          refine WL.val (V.fieldAddr fo26_1 (OV.p rfl)) rfl ?_
          refine WL.val (V.idxA at24 (OV.p rfl) (OV.p rfl) (fun hc => by first | omega | (simp at hc; omega))) rfl ?_
          refine WL.val (V.fieldAddr fo23_0 (OV.p rfl)) rfl ?_
          refine WL.val (V.load Try.isAgg3 (OV.p rfl) (fun _ => by repeat (first | exact Rd.here rfl | apply Rd.up))) rfl ?_
          refine WL.val (V.subI (OV.p rfl) (OV.p rfl) (fun hc => by first | omega | (simp at hc; omega))) rfl ?_
          refine WL.val (V.fieldAddr fo26_1 (OV.p rfl)) rfl ?_
          refine WL.val (V.idxA at24 (OV.p rfl) (OV.p rfl) (fun hc => by first | omega | (simp at hc; omega))) rfl ?_
          refine WL.val (V.fieldAddr fo23_0 (OV.p rfl)) rfl ?_
          refine WL.store (cs := [_]) Try.sizeOf3 (OV.p rfl) (OV.p rfl) rfl rfl rfl (by repeat (first | exact Upd.here (cs' := [_, _, _, _, _]) rfl rfl | apply Upd.up)) ?_
          refine WL.nil ?_
          refine WC.seq ?_
          refine WC.region ?_
          refine WL.val (V.loadA (vs := [_, _, _, _, _]) ⟨Try.isAgg26, Try.sizeOf26⟩ (OV.p rfl) rfl (fun _ => by repeat (first | exact Rds.gets ⟨rfl, rfl, rfl, rfl, rfl, trivial⟩ | apply Rds.up))) rfl ?_
          refine WL.store (cs := [_, _, _, _, _]) Try.sizeOf26 (OV.p rfl) (OV.p rfl) rfl rfl rfl (by repeat (first | exact Upd.here (cs' := [_, _, _, _, _]) rfl rfl | apply Upd.up)) ?_
          refine WL.val (V.assign (OV.p rfl)) rfl ?_
          refine WL.nil ?_
          refine WC.ret ?_
          refine BodyQ.ret (H' := F) (Res.two rfl (R1.cellA (vs := [_, _, _, _, _]) rfl ⟨Try.isAgg26, Try.sizeOf26⟩ rfl (by repeat (first | exact Rds.gets ⟨rfl, rfl, rfl, rfl, rfl, trivial⟩ | apply Rds.up))) (R1.tmp rfl)) (fun w h => by repeat (first | exact h | replace h := h.tail)) ⟨?_, rfl⟩
          rw [e1, hc1]
          simp [*, Slo.g, Slo.t, Slo.put, Slo.zero]
        · simp only [decide_eq_true_eq, decide_eq_false_iff_not, Bool.and_eq_true, Bool.or_eq_true, Bool.and_eq_false_iff, Bool.or_eq_false_iff, Bool.not_eq_true', Bool.not_eq_false', Bool.not_eq_true, Bool.not_eq_false] at hc2
          refine WC.skip ?_
          refine WC.seq ?_
          refine WC.region ?_
          refine WL.val (V.loadA (vs := [_, _, _, _, _]) ⟨Try.isAgg26, Try.sizeOf26⟩ (OV.p rfl) rfl (fun _ => by repeat (first | exact Rds.gets ⟨rfl, rfl, rfl, rfl, rfl, trivial⟩ | apply Rds.up))) rfl ?_
          refine WL.store (cs := [_, _, _, _, _]) Try.sizeOf26 (OV.p rfl) (OV.p rfl) rfl rfl rfl (by repeat (first | exact Upd.here (cs' := [_, _, _, _, _]) rfl rfl | apply Upd.up)) ?_
          refine WL.val (V.assign (OV.p rfl)) rfl ?_
          refine WL.nil ?_
          refine WC.ret ?_
          refine BodyQ.ret (H' := F) (Res.two rfl (R1.cellA (vs := [_, _, _, _, _]) rfl ⟨Try.isAgg26, Try.sizeOf26⟩ rfl (by repeat (first | exact Rds.gets ⟨rfl, rfl, rfl, rfl, rfl, trivial⟩ | apply Rds.up))) (R1.tmp rfl)) (fun w h => by repeat (first | exact h | replace h := h.tail)) ⟨?_, rfl⟩
          rw [e1, hc1]
          simp [*, Slo.g, Slo.t, Slo.put, Slo.zero]

theorem ref22_Confirm (s : Slo) (slot : Int) (K : World) (F : List Assn) : Tells Try.prog 16 #[s.v, .int .i64 slot] K F (.tuple #[(s.confirm slot).1.v, .int .i64 (s.confirm slot).2]) := by
  refine Does.enter Try.func16 rfl Try.ntmps16 rfl ?_
  simp only [env0, Nat.reduceAdd]
  refine WC.seq ?_
  refine WC.region ?_
  refine WL.box (cs := [_, _, _, _, _]) (OV.p rfl) rfl rfl (fun b2 => ?_)
  refine WL.alloc (cs := [(.int .i64 0), (.int .i64 0), (.bool false), (.int .i64 0), (.bool false)]) Try.zeroValue26 rfl rfl (fun b4 => ?_)
  refine WL.val (V.assign (OV.p rfl)) rfl ?_
  refine WL.nil ?_
  refine WC.seq ?_
  refine WC.seq ?_
  refine WC.region ?_
  refine WL.val (V.loadA (vs := [_, _, _, _, _]) ⟨Try.isAgg26, Try.sizeOf26⟩ (OV.p rfl) rfl (fun _ => by repeat (first | exact Rds.gets ⟨rfl, rfl, rfl, rfl, rfl, trivial⟩ | apply Rds.up))) rfl ?_
  refine WL.call (vs := [_]) Try.call19 ⟨OV.p rfl, trivial⟩ (ref22_May s _ _) rfl ?_
  rintro _ H0 ⟨rfl, h0⟩
  subst H0
  refine WL.val (V.not (OV.p rfl)) rfl ?_
  refine WL.val (V.move (OV.p rfl)) rfl ?_
  refine WL.valG (oj := _) rfl rfl rfl GC.f (V.move (OV.p rfl)) rfl ?_
  refine WL.valG (oj := _) rfl rfl rfl GC.f (V.lss (OV.g rfl id) (OV.p rfl)) rfl ?_
  refine WL.val (V.pickOr (OV.p rfl) (OV.g rfl id)) rfl ?_
  refine WL.val (V.move (OV.p rfl)) rfl ?_
  refine WL.valG (oj := _) rfl rfl rfl GC.f (V.move (OV.p rfl)) rfl ?_
  refine WL.valG (oj := _) rfl rfl rfl GC.f (V.gtr (OV.g rfl id) (OV.p rfl)) rfl ?_
  refine WL.val (V.pickOr (OV.p rfl) (OV.g rfl id)) rfl ?_
  refine WL.nil ?_
  refine WC.cond rfl (fun hc0 => ?_) (fun hc0 => ?_)
  · simp only [decide_eq_true_eq, decide_eq_false_iff_not, Bool.and_eq_true, Bool.or_eq_true, Bool.and_eq_false_iff, Bool.or_eq_false_iff, Bool.not_eq_true', Bool.not_eq_false', Bool.not_eq_true, Bool.not_eq_false, Int.not_lt, Int.not_le] at hc0
    have e1 : s.confirm slot = (Slo.zero, 1) := by unfold Slo.confirm; rw [if_pos (by rw [Slo.ahd_bad hc0]; decide)]
    refine WC.seq ?_
    refine WC.region ?_
    refine WL.val (V.build (vs := []) trivial rfl (bld26 )) rfl ?_
    refine WL.store (cs := [_, _, _, _, _]) Try.sizeOf26 (OV.p rfl) (OV.p rfl) rfl rfl rfl (by repeat (first | exact Upd.here (cs' := [_, _, _, _, _]) rfl rfl | apply Upd.up)) ?_
    refine WL.val (V.assign (OV.p rfl)) rfl ?_
    refine WL.nil ?_
    refine WC.ret ?_
    refine BodyQ.ret (H' := F) (Res.two rfl (R1.cellA (vs := [_, _, _, _, _]) rfl ⟨Try.isAgg26, Try.sizeOf26⟩ rfl (by repeat (first | exact Rds.gets ⟨rfl, rfl, rfl, rfl, rfl, trivial⟩ | apply Rds.up))) (R1.tmp rfl)) (fun w h => by repeat (first | exact h | replace h := h.tail)) ⟨?_, rfl⟩
    rw [e1]; rfl
  · simp only [decide_eq_true_eq, decide_eq_false_iff_not, Bool.and_eq_true, Bool.or_eq_true, Bool.and_eq_false_iff, Bool.or_eq_false_iff, Bool.not_eq_true', Bool.not_eq_false', Bool.not_eq_true, Bool.not_eq_false, Int.not_lt, Int.not_le] at hc0
    have hok := hc0.1.1
    have hsl : slot = 0 ∨ slot = 1 := by omega
    have e1 : s.confirm slot = (s.put slot slot 0 true, 0) := by unfold Slo.confirm; rw [if_neg (by simp [Slo.ahd_good hok hsl])]
    clear hc0
    rcases hsl with rfl | rfl
    all_goals
      refine WC.skip ?_
      refine WC.seq ?_
      refine WC.region ?_
      refine WL.val (V.move (OV.p rfl)) rfl ?_
      refine WL.val (V.fieldAddr fo26_0 (OV.p rfl)) rfl ?_
      refine WL.store (cs := [_]) Try.sizeOf3 (OV.p rfl) (OV.p rfl) rfl rfl rfl (by repeat (first | exact Upd.here (cs' := [_, _, _, _, _]) rfl rfl | apply Upd.up)) ?_
      refine WL.nil ?_
      refine WC.seq ?_
      refine WC.region ?_
      refine WL.val (V.move (OV.p rfl)) rfl ?_
      refine WL.val (V.build (vs := [(1, _)]) ⟨OV.p rfl, trivial⟩ rfl (bld23_1 _)) rfl ?_
      refine WL.val (V.fieldAddr fo26_1 (OV.p rfl)) rfl ?_
      refine WL.val (V.idxA at24 (OV.p rfl) (OV.p rfl) (fun hc => by first | omega | (simp at hc; omega))) rfl ?_
      refine WL.store (cs := [_, _]) Try.sizeOf23 (OV.p rfl) (OV.p rfl) rfl rfl rfl (by repeat (first | exact Upd.here (cs' := [_, _, _, _, _]) rfl rfl | apply Upd.up)) ?_
      refine WL.nil ?_
      refine WC.seq ?_
      refine WC.region ?_
      refine WL.val (V.loadA (vs := [_, _, _, _, _]) ⟨Try.isAgg26, Try.sizeOf26⟩ (OV.p rfl) rfl (fun _ => by repeat (first | exact Rds.gets ⟨rfl, rfl, rfl, rfl, rfl, trivial⟩ | apply Rds.up))) rfl ?_
      refine WL.store (cs := [_, _, _, _, _]) Try.sizeOf26 (OV.p rfl) (OV.p rfl) rfl rfl rfl (by repeat (first | exact Upd.here (cs' := [_, _, _, _, _]) rfl rfl | apply Upd.up)) ?_
      refine WL.val (V.assign (OV.p rfl)) rfl ?_
      refine WL.nil ?_
      refine WC.ret ?_
      refine BodyQ.ret (H' := F) (Res.two rfl (R1.cellA (vs := [_, _, _, _, _]) rfl ⟨Try.isAgg26, Try.sizeOf26⟩ rfl (by repeat (first | exact Rds.gets ⟨rfl, rfl, rfl, rfl, rfl, trivial⟩ | apply Rds.up))) (R1.tmp rfl)) (fun w h => by repeat (first | exact h | replace h := h.tail)) ⟨?_, rfl⟩
      rw [e1]; rfl

theorem ref22_Install (s : Slo) (slot : Int) (K : World) (F : List Assn) : Tells Try.prog 17 #[s.v, .int .i64 slot] K F (.tuple #[(s.install slot).1.v, .int .i64 (s.install slot).2]) := by
  refine Does.enter Try.func17 rfl Try.ntmps17 rfl ?_
  simp only [env0, Nat.reduceAdd]
  refine WC.seq ?_
  refine WC.region ?_
  refine WL.box (cs := [_, _, _, _, _]) (OV.p rfl) rfl rfl (fun b2 => ?_)
  refine WL.alloc (cs := [(.int .i64 0), (.int .i64 0), (.bool false), (.int .i64 0), (.bool false)]) Try.zeroValue26 rfl rfl (fun b4 => ?_)
  refine WL.val (V.assign (OV.p rfl)) rfl ?_
  refine WL.nil ?_
  refine WC.seq ?_
  refine WC.seq ?_
  refine WC.region ?_
  refine WL.val (V.loadA (vs := [_, _, _, _, _]) ⟨Try.isAgg26, Try.sizeOf26⟩ (OV.p rfl) rfl (fun _ => by repeat (first | exact Rds.gets ⟨rfl, rfl, rfl, rfl, rfl, trivial⟩ | apply Rds.up))) rfl ?_
  refine WL.call (vs := [_]) Try.call19 ⟨OV.p rfl, trivial⟩ (ref22_May s _ _) rfl ?_
  rintro _ H0 ⟨rfl, h0⟩
  subst H0
  refine WL.val (V.not (OV.p rfl)) rfl ?_
  refine WL.val (V.move (OV.p rfl)) rfl ?_
  refine WL.valG (oj := _) rfl rfl rfl GC.f (V.move (OV.p rfl)) rfl ?_
  refine WL.valG (oj := _) rfl rfl rfl GC.f (V.lss (OV.g rfl id) (OV.p rfl)) rfl ?_
  refine WL.val (V.pickOr (OV.p rfl) (OV.g rfl id)) rfl ?_
  refine WL.val (V.move (OV.p rfl)) rfl ?_
  refine WL.valG (oj := _) rfl rfl rfl GC.f (V.move (OV.p rfl)) rfl ?_
  refine WL.valG (oj := _) rfl rfl rfl GC.f (V.gtr (OV.g rfl id) (OV.p rfl)) rfl ?_
  refine WL.val (V.pickOr (OV.p rfl) (OV.g rfl id)) rfl ?_
  refine WL.val (V.move (OV.p rfl)) rfl ?_
  refine WL.valG (oj := _) rfl rfl rfl GC.f (V.move (OV.p rfl)) rfl ?_
  refine WL.valG (oj := _) rfl rfl rfl GC.f (V.fieldAddr fo26_0 (OV.p rfl)) rfl ?_
  refine WL.valG (oj := _) rfl rfl rfl GC.f (V.load Try.isAgg3 (OV.g rfl id) (fun _ => by repeat (first | exact Rd.here rfl | apply Rd.up))) rfl ?_
  refine WL.valG (oj := _) rfl rfl rfl GC.f (V.eql (OV.g rfl id) (OV.g rfl id)) rfl ?_
  refine WL.val (V.pickOr (OV.p rfl) (OV.g rfl id)) rfl ?_
  refine WL.nil ?_
  refine WC.cond rfl (fun hc0 => ?_) (fun hc0 => ?_)
  · simp only [decide_eq_true_eq, decide_eq_false_iff_not, Bool.and_eq_true, Bool.or_eq_true, Bool.and_eq_false_iff, Bool.or_eq_false_iff, Bool.not_eq_true', Bool.not_eq_false', Bool.not_eq_true, Bool.not_eq_false, Int.not_lt, Int.not_le] at hc0
    have e1 : s.install slot = (Slo.zero, 1) := by unfold Slo.install; rw [if_pos]; exact hc0.imp (fun h => by rw [Slo.ahd_bad h]; decide) id
    refine WC.seq ?_
    refine WC.region ?_
    refine WL.val (V.build (vs := []) trivial rfl (bld26 )) rfl ?_
    refine WL.store (cs := [_, _, _, _, _]) Try.sizeOf26 (OV.p rfl) (OV.p rfl) rfl rfl rfl (by repeat (first | exact Upd.here (cs' := [_, _, _, _, _]) rfl rfl | apply Upd.up)) ?_
    refine WL.val (V.assign (OV.p rfl)) rfl ?_
    refine WL.nil ?_
    refine WC.ret ?_
    refine BodyQ.ret (H' := F) (Res.two rfl (R1.cellA (vs := [_, _, _, _, _]) rfl ⟨Try.isAgg26, Try.sizeOf26⟩ rfl (by repeat (first | exact Rds.gets ⟨rfl, rfl, rfl, rfl, rfl, trivial⟩ | apply Rds.up))) (R1.tmp rfl)) (fun w h => by repeat (first | exact h | replace h := h.tail)) ⟨?_, rfl⟩
    rw [e1]; rfl
  · simp only [decide_eq_true_eq, decide_eq_false_iff_not, Bool.and_eq_true, Bool.or_eq_true, Bool.and_eq_false_iff, Bool.or_eq_false_iff, Bool.not_eq_true', Bool.not_eq_false', Bool.not_eq_true, Bool.not_eq_false, Int.not_lt, Int.not_le] at hc0
    have hok := hc0.1.1.1
    have hsl : slot = 0 ∨ slot = 1 := by omega
    have e1 : s.install slot = (s.put slot slot 7 false, 0) := by unfold Slo.install; rw [if_neg]; rintro (h | h); exact h (Slo.ahd_good hok hsl); exact hc0.2 h
    clear hc0
    rcases hsl with rfl | rfl
    all_goals
      refine WC.skip ?_
      refine WC.seq ?_
      refine WC.region ?_
      refine WL.val (V.move (OV.p rfl)) rfl ?_
      refine WL.val (V.fieldAddr fo26_0 (OV.p rfl)) rfl ?_
      refine WL.store (cs := [_]) Try.sizeOf3 (OV.p rfl) (OV.p rfl) rfl rfl rfl (by repeat (first | exact Upd.here (cs' := [_, _, _, _, _]) rfl rfl | apply Upd.up)) ?_
      refine WL.nil ?_
      refine WC.seq ?_
      refine WC.region ?_
      refine WL.val (V.move (OV.p rfl)) rfl ?_
      refine WL.val (V.build (vs := [(0, _)]) ⟨OV.p rfl, trivial⟩ rfl (bld23_0 _)) rfl ?_
      refine WL.val (V.fieldAddr fo26_1 (OV.p rfl)) rfl ?_
      refine WL.val (V.idxA at24 (OV.p rfl) (OV.p rfl) (fun hc => by first | omega | (simp at hc; omega))) rfl ?_
      refine WL.store (cs := [_, _]) Try.sizeOf23 (OV.p rfl) (OV.p rfl) rfl rfl rfl (by repeat (first | exact Upd.here (cs' := [_, _, _, _, _]) rfl rfl | apply Upd.up)) ?_
      refine WL.nil ?_
      refine WC.seq ?_
      refine WC.region ?_
      refine WL.val (V.loadA (vs := [_, _, _, _, _]) ⟨Try.isAgg26, Try.sizeOf26⟩ (OV.p rfl) rfl (fun _ => by repeat (first | exact Rds.gets ⟨rfl, rfl, rfl, rfl, rfl, trivial⟩ | apply Rds.up))) rfl ?_
      refine WL.store (cs := [_, _, _, _, _]) Try.sizeOf26 (OV.p rfl) (OV.p rfl) rfl rfl rfl (by repeat (first | exact Upd.here (cs' := [_, _, _, _, _]) rfl rfl | apply Upd.up)) ?_
      refine WL.val (V.assign (OV.p rfl)) rfl ?_
      refine WL.nil ?_
      refine WC.ret ?_
      refine BodyQ.ret (H' := F) (Res.two rfl (R1.cellA (vs := [_, _, _, _, _]) rfl ⟨Try.isAgg26, Try.sizeOf26⟩ rfl (by repeat (first | exact Rds.gets ⟨rfl, rfl, rfl, rfl, rfl, trivial⟩ | apply Rds.up))) (R1.tmp rfl)) (fun w h => by repeat (first | exact h | replace h := h.tail)) ⟨?_, rfl⟩
      rw [e1]; rfl

theorem ref22_Order (s : Slo) (hok : s.ok = true) (K : World) (F : List Assn) : Does Try.prog 22 #[s.v] K F (fun v H' => ∃ A cap, v = .slice A s.order.length cap ∧ H' = SlA (.slice A s.order.length cap) 3 1 s.order.length (ints .i64 s.order) :: F) := by
  obtain ⟨f, t0, g0, t1, g1⟩ := s
  have hs := Slo.ok_spec hok
  have e1 : (Slo.mk f t0 g0 t1 g1).order = [f, 1 - f].filter (Slo.mk f t0 g0 t1 g1).may := by unfold Slo.order; rw [if_pos hok]
  dsimp only at hs
  dsimp only [Slo.v]
  refine Does.enter Try.func22 rfl Try.ntmps22 rfl ?_
  simp only [env0, Nat.reduceAdd]
  refine WC.seq ?_
  refine WC.region ?_
  refine WL.box (cs := [_, _, _, _, _]) (OV.p rfl) rfl rfl (fun b1 => ?_)
  refine WL.val (V.assign (OV.p rfl)) rfl ?_
  refine WL.nil ?_
  refine WC.seq ?_
  refine WC.sub (Sub.refl _) (fun w h => h.slNil 3 1) ?_
  refine WC.region ?_
  refine WL.val (V.assign (OV.p rfl)) rfl ?_
  refine WL.nil ?_
  refine WC.seq ?_
  refine WC.seq ?_
  refine WC.region ?_
  refine WL.val (V.assign (OV.p rfl)) rfl ?_
  refine WL.nil ?_
  refine WC.block ?_
  refine WC.rounds 3 ?_
  refine WC.seq ?_
  refine WC.seq ?_
  refine WC.region ?_
  refine WL.val (V.move (OV.p rfl)) rfl ?_
  refine WL.val (V.lss (OV.p rfl) (OV.p rfl)) rfl ?_
  refine WL.nil ?_
  refine WC.condT' rfl (by first | rfl | (simp; done) | (simp; omega)) ?_
  refine WC.skip ?_
  refine WC.seq ?_
  refine WC.block ?_
  refine WC.seq ?_
  refine WC.region ?_
  refine WL.val (V.fieldAddr fo26_0 (OV.p rfl)) rfl ?_
  refine WL.val (V.load Try.isAgg3 (OV.p rfl) (fun _ => by repeat (first | exact Rd.here rfl | apply Rd.up))) rfl ?_
  refine WL.val (V.assign (OV.p rfl)) rfl ?_
  refine WL.nil ?_
  refine WC.seq ?_
  refine WC.seq ?_
  refine WC.region ?_
  refine WL.val (V.move (OV.p rfl)) rfl ?_
  refine WL.val (V.eql (OV.p rfl) (OV.p rfl)) rfl ?_
  refine WL.nil ?_
  refine WC.condF' rfl (by first | rfl | (simp; done) | (simp; omega)) ?_
  refine WC.skip ?_
  refine WC.seq ?_
  refine WC.region ?_
  refine WL.val (V.loadA (vs := [_, _, _, _, _]) ⟨Try.isAgg26, Try.sizeOf26⟩ (OV.p rfl) rfl (fun _ => by repeat (first | exact Rds.gets ⟨rfl, rfl, rfl, rfl, rfl, trivial⟩ | apply Rds.up))) rfl ?_
  refine WL.val (V.move (OV.p rfl)) rfl ?_
  refine WL.call (vs := [_, _]) Try.call28 ⟨OV.p rfl, OV.p rfl, trivial⟩ (ref22_Tried ⟨_, _, _, _, _⟩ _ (by omega) _ _) rfl ?_
  rintro _ H0 ⟨rfl, h0⟩
  subst H0
  refine WL.nil ?_
  refine WC.cond rfl (fun hc2 => ?_) (fun hc2 => ?_)
  · skip
    refine WC.region ?_
    refine WL.val (V.move (OV.p rfl)) rfl ?_
    refine WL.val (V.move (OV.p rfl)) rfl ?_
    refine WL.buildSlice (E := 3) (cs := [_]) (vs := [(0, _)]) ⟨OV.p rfl, trivial⟩ rfl (bsl27_1_0 _) rfl (fun b22 => ?_)
    refine WL.sub (Sub.refl _) (fun w h => h.p1) ?_
    refine WL.append Try.underlying27 el3 (OV.p rfl) (OV.p rfl) (by repeat (first | exact Seq.all rfl | apply Seq.up)) (by simp [Value.oneCell']) (by first | omega | (simp; omega)) rfl rfl (fun A23 c23 hn23 hc23 => ?_)
    refine WL.val (V.assign (OV.p rfl)) rfl ?_
    refine WL.nil ?_
    refine WC.region ?_
    refine WL.val (V.move (OV.p rfl)) rfl ?_
    refine WL.val (V.val_eq (v' := .int .i64 (1)) (V.add (OV.p rfl) (OV.p rfl)) (fun _ => rfl)) rfl ?_
    refine WL.val (V.assign (OV.p rfl)) rfl ?_
    refine WL.nil ?_
    refine WC.seq ?_
    refine WC.seq ?_
    refine WC.region ?_
    refine WL.val (V.move (OV.p rfl)) rfl ?_
    refine WL.val (V.lss (OV.p rfl) (OV.p rfl)) rfl ?_
    refine WL.nil ?_
    refine WC.condT' rfl (by first | rfl | (simp; done) | (simp; omega)) ?_
    refine WC.skip ?_
    refine WC.seq ?_
    refine WC.block ?_
    refine WC.seq ?_
    refine WC.region ?_
    refine WL.val (V.fieldAddr fo26_0 (OV.p rfl)) rfl ?_
    refine WL.val (V.load Try.isAgg3 (OV.p rfl) (fun _ => by repeat (first | exact Rd.here rfl | apply Rd.up))) rfl ?_
    refine WL.val (V.assign (OV.p rfl)) rfl ?_
    refine WL.nil ?_
    refine WC.seq ?_
    refine WC.seq ?_
    refine WC.region ?_
    refine WL.val (V.move (OV.p rfl)) rfl ?_
    refine WL.val (V.eql (OV.p rfl) (OV.p rfl)) rfl ?_
    refine WL.nil ?_
    refine WC.condT' rfl (by first | rfl | (simp; done) | (simp; omega)) ?_
    refine WC.region ?_
    refine WL.val (V.fieldAddr fo26_0 (OV.p rfl)) rfl ?_
    refine WL.val (V.load Try.isAgg3 (OV.p rfl) (fun _ => by repeat (first | exact Rd.here rfl | apply Rd.up))) rfl ?_
    refine WL.val (V.subI (OV.p rfl) (OV.p rfl) (fun hc => by first | omega | (simp at hc; omega))) rfl ?_
    refine WL.val (V.assign (OV.p rfl)) rfl ?_
    refine WL.nil ?_
    refine WC.seq ?_
    refine WC.region ?_
    refine WL.val (V.loadA (vs := [_, _, _, _, _]) ⟨Try.isAgg26, Try.sizeOf26⟩ (OV.p rfl) rfl (fun _ => by repeat (first | exact Rds.gets ⟨rfl, rfl, rfl, rfl, rfl, trivial⟩ | apply Rds.up))) rfl ?_
    refine WL.val (V.move (OV.p rfl)) rfl ?_
    refine WL.call (vs := [_, _]) Try.call28 ⟨OV.p rfl, OV.p rfl, trivial⟩ (ref22_Tried ⟨_, _, _, _, _⟩ _ (by omega) _ _) rfl ?_
    rintro _ H0 ⟨rfl, h0⟩
    subst H0
    refine WL.nil ?_
    refine WC.cond rfl (fun hc2' => ?_) (fun hc2' => ?_)
    · skip
      refine WC.region ?_
      refine WL.val (V.move (OV.p rfl)) rfl ?_
      refine WL.val (V.move (OV.p rfl)) rfl ?_
      refine WL.buildSlice (E := 3) (cs := [_]) (vs := [(0, _)]) ⟨OV.p rfl, trivial⟩ rfl (bsl27_1_0 _) rfl (fun b22 => ?_)
      refine WL.sub (Sub.refl _) (fun w h => h.p1) ?_
      refine WL.append Try.underlying27 el3 (OV.p rfl) (OV.p rfl) (by repeat (first | exact Seq.all rfl | apply Seq.up)) (by simp [Value.oneCell']) (by first | omega | (simp; omega)) rfl rfl (fun A23 c23 hn23 hc23 => ?_)
      refine WL.val (V.assign (OV.p rfl)) rfl ?_
      refine WL.nil ?_
      refine WC.region ?_
      refine WL.val (V.move (OV.p rfl)) rfl ?_
      refine WL.val (V.val_eq (v' := .int .i64 (2)) (V.add (OV.p rfl) (OV.p rfl)) (fun _ => rfl)) rfl ?_
      refine WL.val (V.assign (OV.p rfl)) rfl ?_
      refine WL.nil ?_
      refine WC.seq ?_
      refine WC.seq ?_
      refine WC.region ?_
      refine WL.val (V.move (OV.p rfl)) rfl ?_
      refine WL.val (V.lss (OV.p rfl) (OV.p rfl)) rfl ?_
      refine WL.nil ?_
      refine WC.condF' rfl (by first | rfl | (simp; done) | (simp; omega)) ?_
      refine WC.exit ?_
      refine WC.seq ?_
      refine WC.region ?_
      refine WL.val (V.move (OV.p rfl)) rfl ?_
      refine WL.val (V.assign (OV.p rfl)) rfl ?_
      refine WL.nil ?_
      refine WC.ret ?_
      simp only [List.filter, *] at e1
      exact BodyQ.ret (H' := SlA _ 3 1 _ _ :: F) (Res.tmp rfl rfl) (fun w h => by repeat (first | exact h | replace h := h.drop2)) ⟨_, _, by rw [e1]; rfl, by rw [e1]; rfl⟩
    · skip
      refine WC.skip ?_
      refine WC.region ?_
      refine WL.val (V.move (OV.p rfl)) rfl ?_
      refine WL.val (V.val_eq (v' := .int .i64 (2)) (V.add (OV.p rfl) (OV.p rfl)) (fun _ => rfl)) rfl ?_
      refine WL.val (V.assign (OV.p rfl)) rfl ?_
      refine WL.nil ?_
      refine WC.seq ?_
      refine WC.seq ?_
      refine WC.region ?_
      refine WL.val (V.move (OV.p rfl)) rfl ?_
      refine WL.val (V.lss (OV.p rfl) (OV.p rfl)) rfl ?_
      refine WL.nil ?_
      refine WC.condF' rfl (by first | rfl | (simp; done) | (simp; omega)) ?_
      refine WC.exit ?_
      refine WC.seq ?_
      refine WC.region ?_
      refine WL.val (V.move (OV.p rfl)) rfl ?_
      refine WL.val (V.assign (OV.p rfl)) rfl ?_
      refine WL.nil ?_
      refine WC.ret ?_
      simp only [List.filter, *] at e1
      exact BodyQ.ret (H' := SlA _ 3 1 _ _ :: F) (Res.tmp rfl rfl) (fun w h => by repeat (first | exact h | replace h := h.drop2)) ⟨_, _, by rw [e1]; rfl, by rw [e1]; rfl⟩
  · skip
    refine WC.skip ?_
    refine WC.region ?_
    refine WL.val (V.move (OV.p rfl)) rfl ?_
    refine WL.val (V.val_eq (v' := .int .i64 (1)) (V.add (OV.p rfl) (OV.p rfl)) (fun _ => rfl)) rfl ?_
    refine WL.val (V.assign (OV.p rfl)) rfl ?_
    refine WL.nil ?_
    refine WC.seq ?_
    refine WC.seq ?_
    refine WC.region ?_
    refine WL.val (V.move (OV.p rfl)) rfl ?_
    refine WL.val (V.lss (OV.p rfl) (OV.p rfl)) rfl ?_
    refine WL.nil ?_
    refine WC.condT' rfl (by first | rfl | (simp; done) | (simp; omega)) ?_
    refine WC.skip ?_
    refine WC.seq ?_
    refine WC.block ?_
    refine WC.seq ?_
    refine WC.region ?_
    refine WL.val (V.fieldAddr fo26_0 (OV.p rfl)) rfl ?_
    refine WL.val (V.load Try.isAgg3 (OV.p rfl) (fun _ => by repeat (first | exact Rd.here rfl | apply Rd.up))) rfl ?_
    refine WL.val (V.assign (OV.p rfl)) rfl ?_
    refine WL.nil ?_
    refine WC.seq ?_
    refine WC.seq ?_
    refine WC.region ?_
    refine WL.val (V.move (OV.p rfl)) rfl ?_
    refine WL.val (V.eql (OV.p rfl) (OV.p rfl)) rfl ?_
    refine WL.nil ?_
    refine WC.condT' rfl (by first | rfl | (simp; done) | (simp; omega)) ?_
    refine WC.region ?_
    refine WL.val (V.fieldAddr fo26_0 (OV.p rfl)) rfl ?_
    refine WL.val (V.load Try.isAgg3 (OV.p rfl) (fun _ => by repeat (first | exact Rd.here rfl | apply Rd.up))) rfl ?_
    refine WL.val (V.subI (OV.p rfl) (OV.p rfl) (fun hc => by first | omega | (simp at hc; omega))) rfl ?_
    refine WL.val (V.assign (OV.p rfl)) rfl ?_
    refine WL.nil ?_
    refine WC.seq ?_
    refine WC.region ?_
    refine WL.val (V.loadA (vs := [_, _, _, _, _]) ⟨Try.isAgg26, Try.sizeOf26⟩ (OV.p rfl) rfl (fun _ => by repeat (first | exact Rds.gets ⟨rfl, rfl, rfl, rfl, rfl, trivial⟩ | apply Rds.up))) rfl ?_
    refine WL.val (V.move (OV.p rfl)) rfl ?_
    refine WL.call (vs := [_, _]) Try.call28 ⟨OV.p rfl, OV.p rfl, trivial⟩ (ref22_Tried ⟨_, _, _, _, _⟩ _ (by omega) _ _) rfl ?_
    rintro _ H0 ⟨rfl, h0⟩
    subst H0
    refine WL.nil ?_
    refine WC.cond rfl (fun hc2' => ?_) (fun hc2' => ?_)
    · skip
      refine WC.region ?_
      refine WL.val (V.move (OV.p rfl)) rfl ?_
      refine WL.val (V.move (OV.p rfl)) rfl ?_
      refine WL.buildSlice (E := 3) (cs := [_]) (vs := [(0, _)]) ⟨OV.p rfl, trivial⟩ rfl (bsl27_1_0 _) rfl (fun b22 => ?_)
      refine WL.sub (Sub.refl _) (fun w h => h.p1) ?_
      refine WL.append Try.underlying27 el3 (OV.p rfl) (OV.p rfl) (by repeat (first | exact Seq.all rfl | apply Seq.up)) (by simp [Value.oneCell']) (by first | omega | (simp; omega)) rfl rfl (fun A23 c23 hn23 hc23 => ?_)
      refine WL.val (V.assign (OV.p rfl)) rfl ?_
      refine WL.nil ?_
      refine WC.region ?_
      refine WL.val (V.move (OV.p rfl)) rfl ?_
      refine WL.val (V.val_eq (v' := .int .i64 (2)) (V.add (OV.p rfl) (OV.p rfl)) (fun _ => rfl)) rfl ?_
      refine WL.val (V.assign (OV.p rfl)) rfl ?_
      refine WL.nil ?_
      refine WC.seq ?_
      refine WC.seq ?_
      refine WC.region ?_
      refine WL.val (V.move (OV.p rfl)) rfl ?_
      refine WL.val (V.lss (OV.p rfl) (OV.p rfl)) rfl ?_
      refine WL.nil ?_
      refine WC.condF' rfl (by first | rfl | (simp; done) | (simp; omega)) ?_
      refine WC.exit ?_
      refine WC.seq ?_
      refine WC.region ?_
      refine WL.val (V.move (OV.p rfl)) rfl ?_
      refine WL.val (V.assign (OV.p rfl)) rfl ?_
      refine WL.nil ?_
      refine WC.ret ?_
      simp only [List.filter, *] at e1
      exact BodyQ.ret (H' := SlA _ 3 1 _ _ :: F) (Res.tmp rfl rfl) (fun w h => by repeat (first | exact h | replace h := h.drop2)) ⟨_, _, by rw [e1]; rfl, by rw [e1]; rfl⟩
    · skip
      refine WC.skip ?_
      refine WC.region ?_
      refine WL.val (V.move (OV.p rfl)) rfl ?_
      refine WL.val (V.val_eq (v' := .int .i64 (2)) (V.add (OV.p rfl) (OV.p rfl)) (fun _ => rfl)) rfl ?_
      refine WL.val (V.assign (OV.p rfl)) rfl ?_
      refine WL.nil ?_
      refine WC.seq ?_
      refine WC.seq ?_
      refine WC.region ?_
      refine WL.val (V.move (OV.p rfl)) rfl ?_
      refine WL.val (V.lss (OV.p rfl) (OV.p rfl)) rfl ?_
      refine WL.nil ?_
      refine WC.condF' rfl (by first | rfl | (simp; done) | (simp; omega)) ?_
      refine WC.exit ?_
      refine WC.seq ?_
      refine WC.region ?_
      refine WL.val (V.move (OV.p rfl)) rfl ?_
      refine WL.val (V.assign (OV.p rfl)) rfl ?_
      refine WL.nil ?_
      refine WC.ret ?_
      simp only [List.filter, *] at e1
      exact BodyQ.ret (H' := SlA _ 3 1 _ _ :: F) (Res.tmp rfl rfl) (fun w h => by repeat (first | exact h | replace h := h.drop2)) ⟨_, _, by rw [e1]; rfl, by rw [e1]; rfl⟩

theorem ref22_Parse_good {A : Option Addr} {m cap : Nat} {xs : List Int} (hx : IsBytes xs) (K : World) (F : List Assn) (hs : Seq K F A m 1 (ints .u8 xs)) (hok : (Slo.of xs).ok = true) :
    Tells Try.prog 24 #[.slice A m cap] K F (.tuple #[(Slo.parse xs).1.v, .bool (Slo.good xs)]) := by
  have hl : xs.length = m := by simpa [ints] using hs.len
  refine Does.enter Try.func24 rfl Try.ntmps24 rfl ?_
  simp only [env0, Nat.reduceAdd]
  refine WC.seq ?_
  refine WC.region ?_
  refine WL.alloc (cs := [(.int .i64 0), (.int .i64 0), (.bool false), (.int .i64 0), (.bool false)]) Try.zeroValue26 rfl rfl (fun b2 => ?_)
  refine WL.val (V.assign (OV.p rfl)) rfl ?_
  refine WL.nil ?_
  refine WC.seq ?_
  refine WC.region ?_
  refine WL.alloc (cs := [(.int .i64 0), (.int .i64 0), (.bool false), (.int .i64 0), (.bool false)]) Try.zeroValue26 rfl rfl (fun b4 => ?_)
  refine WL.nil ?_
  refine WC.seq ?_
  refine WC.seq ?_
  refine WC.region ?_
  refine WL.val (V.move (OV.p rfl)) rfl ?_
  refine WL.val (V.len (t := 36) Try.runUnderlying36 (OV.p rfl)) rfl ?_
  refine WL.val (V.neq (OV.p rfl) (OV.p rfl)) rfl ?_
  refine WL.nil ?_
  refine WC.cond rfl (fun hc0 => ?_) (fun hc0 => ?_)
  · simp only [decide_eq_true_eq, decide_eq_false_iff_not, Bool.and_eq_true, Bool.or_eq_true, Bool.and_eq_false_iff, Bool.or_eq_false_iff, Bool.not_eq_true', Bool.not_eq_false', Bool.not_eq_true, Bool.not_eq_false, Int.not_lt, Int.not_le] at hc0
    refine WC.seq ?_
    refine WC.region ?_
    refine WL.val (V.loadA (vs := [_, _, _, _, _]) ⟨Try.isAgg26, Try.sizeOf26⟩ (OV.p rfl) rfl (fun _ => by repeat (first | exact Rds.gets ⟨rfl, rfl, rfl, rfl, rfl, trivial⟩ | apply Rds.up))) rfl ?_
    refine WL.store (cs := [_, _, _, _, _]) Try.sizeOf26 (OV.p rfl) (OV.p rfl) rfl rfl rfl (by repeat (first | exact Upd.here (cs' := [_, _, _, _, _]) rfl rfl | apply Upd.up)) ?_
    refine WL.val (V.assign (OV.p rfl)) rfl ?_
    refine WL.nil ?_
    refine WC.ret ?_
    refine BodyQ.ret (H' := F) (Res.two rfl (R1.cellA (vs := [_, _, _, _, _]) rfl ⟨Try.isAgg26, Try.sizeOf26⟩ rfl (by repeat (first | exact Rds.gets ⟨rfl, rfl, rfl, rfl, rfl, trivial⟩ | apply Rds.up))) (R1.tmp rfl)) (fun w h => by repeat (first | exact h | replace h := h.tail)) ⟨?_, rfl⟩
    have hg : Slo.good xs = false := by simp [Slo.good]; omega
    unfold Slo.parse; rw [if_neg (by simp [hg]), hg]; rfl
  · simp only [decide_eq_true_eq, decide_eq_false_iff_not, Bool.and_eq_true, Bool.or_eq_true, Bool.and_eq_false_iff, Bool.or_eq_false_iff, Bool.not_eq_true', Bool.not_eq_false', Bool.not_eq_true, Bool.not_eq_false, Int.not_lt, Int.not_le] at hc0
    obtain rfl : m = 9 := by omega
    refine WC.skip ?_
    refine WC.seq ?_
    refine WC.region ?_
    refine WL.val (V.move (OV.p rfl)) rfl ?_
    refine WL.val (V.idxS st36 (OV.p rfl) (OV.p rfl) (fun hc => by first | omega | (simp at hc; omega)) (fun hc => by repeat (first | exact Seq.int_rd hs (by first | omega | (simp at hc; omega)) | apply Rd.up))) rfl ?_
    refine WL.val (V.load Try.isAgg5 (OV.p rfl) (fun hc => by repeat (first | exact Seq.int_rd hs (by first | omega | (simp at hc; omega)) | apply Rd.up))) rfl ?_
    refine WL.val (V.convW Try.runUnderlying5 Try.runUnderlying3 (OV.p rfl) (fun _ => wrap_i64 (IsBytes.wide hx _))) rfl ?_
    refine WL.val (V.fieldAddr fo26_0 (OV.p rfl)) rfl ?_
    refine WL.store (cs := [_]) Try.sizeOf3 (OV.p rfl) (OV.p rfl) rfl rfl rfl (by repeat (first | exact Upd.here (cs' := [_, _, _, _, _]) rfl rfl | apply Upd.up)) ?_
    refine WL.nil ?_
    refine WC.seq ?_
    refine WC.seq ?_
    refine WC.region ?_
    refine WL.val (V.assign (OV.p rfl)) rfl ?_
    refine WL.nil ?_
    refine WC.block ?_
    refine WC.rounds 3 ?_
    refine WC.seq ?_
    refine WC.seq ?_
    refine WC.region ?_
    refine WL.val (V.move (OV.p rfl)) rfl ?_
    refine WL.val (V.lss (OV.p rfl) (OV.p rfl)) rfl ?_
    refine WL.nil ?_
    refine WC.condT' rfl (by first | rfl | (simp; done) | (simp; omega)) ?_
    refine WC.skip ?_
    refine WC.seq ?_
    refine WC.block ?_
    refine WC.regionA F (by kernel_rfl) ?_
    refine WA.take 0 (fun w h => by repeat (first | exact h | replace h := h.tail)) rfl (by kernel_rfl) (by kernel_rfl) (by kernel_rfl) (fun _ _ _ h => h) (V.move (OV.p rfl)) rfl ?_
    refine WA.take 1 (fun w h => by repeat (first | exact h | replace h := h.tail)) rfl (by kernel_rfl) (by kernel_rfl) (by kernel_rfl) (fun _ _ _ h => h) (V.move (OV.p rfl)) rfl ?_
    refine WA.take 2 (fun w h => by repeat (first | exact h | replace h := h.tail)) rfl (by kernel_rfl) (by kernel_rfl) (by kernel_rfl) (fun _ _ _ h => h) (V.move (OV.p rfl)) rfl ?_
    refine WA.take 3 (fun w h => by repeat (first | exact h | replace h := h.tail)) rfl (by kernel_rfl) (by kernel_rfl) (by kernel_rfl) (fun _ _ _ h => h) (V.val_eq (v' := .int .i64 (0)) (V.mul (OV.p rfl) (OV.p rfl)) (fun _ => rfl)) rfl ?_
    refine WA.take 4 (fun w h => by repeat (first | exact h | replace h := h.tail)) rfl (by kernel_rfl) (by kernel_rfl) (by kernel_rfl) (fun _ _ _ h => h) (V.val_eq (v' := .int .i64 (5)) (V.add (OV.p rfl) (OV.p rfl)) (fun _ => rfl)) rfl ?_
    refine WA.take 5 (fun w h => by repeat (first | exact h | replace h := h.tail)) rfl (by kernel_rfl) (by kernel_rfl) (by kernel_rfl) (fun _ _ _ h => h) (V.idxS st36 (OV.p rfl) (OV.p rfl) (fun hc => by first | omega | (simp at hc; omega)) (fun hc => by repeat (first | exact Seq.int_rd hs (by first | omega | (simp at hc; omega)) | apply Rd.up))) rfl ?_
    refine WA.take 6 (fun w h => by repeat (first | exact h | replace h := h.tail)) rfl (by kernel_rfl) (by kernel_rfl) (by kernel_rfl) (fun _ _ _ h => h) (V.load Try.isAgg5 (OV.p rfl) (fun hc => by repeat (first | exact Seq.int_rd hs (by first | omega | (simp at hc; omega)) | apply Rd.up))) rfl ?_
    refine WA.take 7 (fun w h => by repeat (first | exact h | replace h := h.tail)) rfl (by kernel_rfl) (by kernel_rfl) (by kernel_rfl) (fun _ _ _ h => h) (V.convW Try.runUnderlying5 Try.runUnderlying3 (OV.p rfl) (fun _ => wrap_i64 (IsBytes.wide hx _))) rfl ?_
    refine WA.take 8 (fun w h => by repeat (first | exact h | replace h := h.tail)) rfl (by kernel_rfl) (by kernel_rfl) (by kernel_rfl) (fun _ _ _ h => h) (V.move (OV.p rfl)) rfl ?_
    refine WA.take 9 (fun w h => by repeat (first | exact h | replace h := h.tail)) rfl (by kernel_rfl) (by kernel_rfl) (by kernel_rfl) (fun _ _ _ h => h) (V.move (OV.p rfl)) rfl ?_
    refine WA.take 10 (fun w h => by repeat (first | exact h | replace h := h.tail)) rfl (by kernel_rfl) (by kernel_rfl) (by kernel_rfl) (fun _ _ _ h => h) (V.val_eq (v' := .int .i64 (0)) (V.mul (OV.p rfl) (OV.p rfl)) (fun _ => rfl)) rfl ?_
    refine WA.take 11 (fun w h => by repeat (first | exact h | replace h := h.tail)) rfl (by kernel_rfl) (by kernel_rfl) (by kernel_rfl) (fun _ _ _ h => h) (V.val_eq (v' := .int .i64 (6)) (V.add (OV.p rfl) (OV.p rfl)) (fun _ => rfl)) rfl ?_
    refine WA.take 12 (fun w h => by repeat (first | exact h | replace h := h.tail)) rfl (by kernel_rfl) (by kernel_rfl) (by kernel_rfl) (fun _ _ _ h => h) (V.idxS st36 (OV.p rfl) (OV.p rfl) (fun hc => by first | omega | (simp at hc; omega)) (fun hc => by repeat (first | exact Seq.int_rd hs (by first | omega | (simp at hc; omega)) | apply Rd.up))) rfl ?_
    refine WA.take 13 (fun w h => by repeat (first | exact h | replace h := h.tail)) rfl (by kernel_rfl) (by kernel_rfl) (by kernel_rfl) (fun _ _ _ h => h) (V.load Try.isAgg5 (OV.p rfl) (fun hc => by repeat (first | exact Seq.int_rd hs (by first | omega | (simp at hc; omega)) | apply Rd.up))) rfl ?_
    refine WA.take 14 (fun w h => by repeat (first | exact h | replace h := h.tail)) rfl (by kernel_rfl) (by kernel_rfl) (by kernel_rfl) (fun _ _ _ h => h) (V.eql (OV.p rfl) (OV.p rfl)) rfl ?_
    refine WA.take 15 (fun w h => by repeat (first | exact h | replace h := h.tail)) rfl (by kernel_rfl) (by kernel_rfl) (by kernel_rfl) (fun _ _ _ h => h) (V.build (vs := [(0, _), (1, _)]) ⟨OV.p rfl, OV.p rfl, trivial⟩ rfl (bld23_0_1 _ _)) rfl ?_
    refine WA.take 16 (fun w h => by repeat (first | exact h | replace h := h.tail)) rfl (by kernel_rfl) (by kernel_rfl) (by kernel_rfl) (fun _ _ _ h => h) (V.fieldAddr fo26_1 (OV.p rfl)) rfl ?_
    refine WA.take 17 (fun w h => by repeat (first | exact h | replace h := h.tail)) rfl (by kernel_rfl) (by kernel_rfl) (by kernel_rfl) (fun _ _ _ h => h) (V.idxA at24 (OV.p rfl) (OV.p rfl) (fun hc => by first | omega | (simp at hc; omega))) rfl ?_
    refine WA.one (i := 18) (fun w h => by repeat (first | exact h | replace h := h.tail)) (by kernel_rfl) rfl ?_
    refine WL.store (cs := [_, _]) Try.sizeOf23 (OV.p rfl) (OV.p rfl) rfl rfl rfl (by repeat (first | exact Upd.here (cs' := [_, _, _, _, _]) rfl rfl | apply Upd.up)) ?_
    refine WL.nil ?_
    refine WA.done (by kernel_rfl) (fun w h => by repeat (first | exact h | replace h := h.tail)) ?_
    refine WC.region ?_
    refine WL.val (V.move (OV.p rfl)) rfl ?_
    refine WL.val (V.val_eq (v' := .int .i64 (1)) (V.add (OV.p rfl) (OV.p rfl)) (fun _ => rfl)) rfl ?_
    refine WL.val (V.assign (OV.p rfl)) rfl ?_
    refine WL.nil ?_
    refine WC.seq ?_
    refine WC.seq ?_
    refine WC.region ?_
    refine WL.val (V.move (OV.p rfl)) rfl ?_
    refine WL.val (V.lss (OV.p rfl) (OV.p rfl)) rfl ?_
    refine WL.nil ?_
    refine WC.condT' rfl (by first | rfl | (simp; done) | (simp; omega)) ?_
    refine WC.skip ?_
    refine WC.seq ?_
    refine WC.block ?_
    refine WC.regionA F (by kernel_rfl) ?_
    refine WA.take 0 (fun w h => by repeat (first | exact h | replace h := h.tail)) rfl (by kernel_rfl) (by kernel_rfl) (by kernel_rfl) (fun _ _ _ h => h) (V.move (OV.p rfl)) rfl ?_
    refine WA.take 1 (fun w h => by repeat (first | exact h | replace h := h.tail)) rfl (by kernel_rfl) (by kernel_rfl) (by kernel_rfl) (fun _ _ _ h => h) (V.move (OV.p rfl)) rfl ?_
    refine WA.take 2 (fun w h => by repeat (first | exact h | replace h := h.tail)) rfl (by kernel_rfl) (by kernel_rfl) (by kernel_rfl) (fun _ _ _ h => h) (V.move (OV.p rfl)) rfl ?_
    refine WA.take 3 (fun w h => by repeat (first | exact h | replace h := h.tail)) rfl (by kernel_rfl) (by kernel_rfl) (by kernel_rfl) (fun _ _ _ h => h) (V.val_eq (v' := .int .i64 (2)) (V.mul (OV.p rfl) (OV.p rfl)) (fun _ => rfl)) rfl ?_
    refine WA.take 4 (fun w h => by repeat (first | exact h | replace h := h.tail)) rfl (by kernel_rfl) (by kernel_rfl) (by kernel_rfl) (fun _ _ _ h => h) (V.val_eq (v' := .int .i64 (7)) (V.add (OV.p rfl) (OV.p rfl)) (fun _ => rfl)) rfl ?_
    refine WA.take 5 (fun w h => by repeat (first | exact h | replace h := h.tail)) rfl (by kernel_rfl) (by kernel_rfl) (by kernel_rfl) (fun _ _ _ h => h) (V.idxS st36 (OV.p rfl) (OV.p rfl) (fun hc => by first | omega | (simp at hc; omega)) (fun hc => by repeat (first | exact Seq.int_rd hs (by first | omega | (simp at hc; omega)) | apply Rd.up))) rfl ?_
    refine WA.take 6 (fun w h => by repeat (first | exact h | replace h := h.tail)) rfl (by kernel_rfl) (by kernel_rfl) (by kernel_rfl) (fun _ _ _ h => h) (V.load Try.isAgg5 (OV.p rfl) (fun hc => by repeat (first | exact Seq.int_rd hs (by first | omega | (simp at hc; omega)) | apply Rd.up))) rfl ?_
    refine WA.take 7 (fun w h => by repeat (first | exact h | replace h := h.tail)) rfl (by kernel_rfl) (by kernel_rfl) (by kernel_rfl) (fun _ _ _ h => h) (V.convW Try.runUnderlying5 Try.runUnderlying3 (OV.p rfl) (fun _ => wrap_i64 (IsBytes.wide hx _))) rfl ?_
    refine WA.take 8 (fun w h => by repeat (first | exact h | replace h := h.tail)) rfl (by kernel_rfl) (by kernel_rfl) (by kernel_rfl) (fun _ _ _ h => h) (V.move (OV.p rfl)) rfl ?_
    refine WA.take 9 (fun w h => by repeat (first | exact h | replace h := h.tail)) rfl (by kernel_rfl) (by kernel_rfl) (by kernel_rfl) (fun _ _ _ h => h) (V.move (OV.p rfl)) rfl ?_
    refine WA.take 10 (fun w h => by repeat (first | exact h | replace h := h.tail)) rfl (by kernel_rfl) (by kernel_rfl) (by kernel_rfl) (fun _ _ _ h => h) (V.val_eq (v' := .int .i64 (2)) (V.mul (OV.p rfl) (OV.p rfl)) (fun _ => rfl)) rfl ?_
    refine WA.take 11 (fun w h => by repeat (first | exact h | replace h := h.tail)) rfl (by kernel_rfl) (by kernel_rfl) (by kernel_rfl) (fun _ _ _ h => h) (V.val_eq (v' := .int .i64 (8)) (V.add (OV.p rfl) (OV.p rfl)) (fun _ => rfl)) rfl ?_
    refine WA.take 12 (fun w h => by repeat (first | exact h | replace h := h.tail)) rfl (by kernel_rfl) (by kernel_rfl) (by kernel_rfl) (fun _ _ _ h => h) (V.idxS st36 (OV.p rfl) (OV.p rfl) (fun hc => by first | omega | (simp at hc; omega)) (fun hc => by repeat (first | exact Seq.int_rd hs (by first | omega | (simp at hc; omega)) | apply Rd.up))) rfl ?_
    refine WA.take 13 (fun w h => by repeat (first | exact h | replace h := h.tail)) rfl (by kernel_rfl) (by kernel_rfl) (by kernel_rfl) (fun _ _ _ h => h) (V.load Try.isAgg5 (OV.p rfl) (fun hc => by repeat (first | exact Seq.int_rd hs (by first | omega | (simp at hc; omega)) | apply Rd.up))) rfl ?_
    refine WA.take 14 (fun w h => by repeat (first | exact h | replace h := h.tail)) rfl (by kernel_rfl) (by kernel_rfl) (by kernel_rfl) (fun _ _ _ h => h) (V.eql (OV.p rfl) (OV.p rfl)) rfl ?_
    refine WA.take 15 (fun w h => by repeat (first | exact h | replace h := h.tail)) rfl (by kernel_rfl) (by kernel_rfl) (by kernel_rfl) (fun _ _ _ h => h) (V.build (vs := [(0, _), (1, _)]) ⟨OV.p rfl, OV.p rfl, trivial⟩ rfl (bld23_0_1 _ _)) rfl ?_
    refine WA.take 16 (fun w h => by repeat (first | exact h | replace h := h.tail)) rfl (by kernel_rfl) (by kernel_rfl) (by kernel_rfl) (fun _ _ _ h => h) (V.fieldAddr fo26_1 (OV.p rfl)) rfl ?_
    refine WA.take 17 (fun w h => by repeat (first | exact h | replace h := h.tail)) rfl (by kernel_rfl) (by kernel_rfl) (by kernel_rfl) (fun _ _ _ h => h) (V.idxA at24 (OV.p rfl) (OV.p rfl) (fun hc => by first | omega | (simp at hc; omega))) rfl ?_
    refine WA.one (i := 18) (fun w h => by repeat (first | exact h | replace h := h.tail)) (by kernel_rfl) rfl ?_
    refine WL.store (cs := [_, _]) Try.sizeOf23 (OV.p rfl) (OV.p rfl) rfl rfl rfl (by repeat (first | exact Upd.here (cs' := [_, _, _, _, _]) rfl rfl | apply Upd.up)) ?_
    refine WL.nil ?_
    refine WA.done (by kernel_rfl) (fun w h => by repeat (first | exact h | replace h := h.tail)) ?_
    refine WC.region ?_
    refine WL.val (V.move (OV.p rfl)) rfl ?_
    refine WL.val (V.val_eq (v' := .int .i64 (2)) (V.add (OV.p rfl) (OV.p rfl)) (fun _ => rfl)) rfl ?_
    refine WL.val (V.assign (OV.p rfl)) rfl ?_
    refine WL.nil ?_
    refine WC.seq ?_
    refine WC.seq ?_
    refine WC.region ?_
    refine WL.val (V.move (OV.p rfl)) rfl ?_
    refine WL.val (V.lss (OV.p rfl) (OV.p rfl)) rfl ?_
    refine WL.nil ?_
    refine WC.condF' rfl (by first | rfl | (simp; done) | (simp; omega)) ?_
    refine WC.exit ?_
    refine WC.seq ?_
    refine WC.seq ?_
    refine WC.regionH (by kernel_rfl) ?_
    refine WA.take 0 (fun w h => h) rfl (by kernel_rfl) (by kernel_rfl) (by kernel_rfl) (fun _ _ _ h => h) (V.loadA (vs := [_, _, _, _, _]) ⟨Try.isAgg26, Try.sizeOf26⟩ (OV.p rfl) rfl (fun _ => by repeat (first | exact Rds.gets ⟨rfl, rfl, rfl, rfl, rfl, trivial⟩ | apply Rds.up))) rfl ?_
    refine WA.one (i := 1) (fun w h => by repeat (first | exact h | replace h := h.tail)) (by kernel_rfl) rfl ?_
    refine WL.call (vs := [_]) Try.call19 ⟨OV.p rfl, trivial⟩ ((by have := ref22_May (Slo.of xs) K; rw [hok] at this; exact this _)) rfl ?_
    rintro _ H0 ⟨rfl, h0⟩
    subst H0
    refine WL.nil ?_
    refine WA.take 2 (fun w h => by repeat (first | exact h | replace h := h.tail)) rfl (by kernel_rfl) (by kernel_rfl) (by kernel_rfl) (fun _ _ _ h => h) (V.not (OV.p rfl)) rfl ?_
    refine WA.take 3 (fun w h => by repeat (first | exact h | replace h := h.tail)) rfl (by kernel_rfl) (by kernel_rfl) (by kernel_rfl) (fun _ _ _ h => h) (V.move (OV.p rfl)) rfl ?_
    refine WA.takeK (oj := _) 4 (fun w h => by repeat (first | exact h | replace h := h.tail)) rfl (by kernel_rfl) (by kernel_rfl) (by kernel_rfl) (fun _ _ _ h => h) rfl rfl rfl rfl (V.loadA (vs := [_, _, _, _, _]) ⟨Try.isAgg26, Try.sizeOf26⟩ (OV.p rfl) rfl (fun _ => by repeat (first | exact Rds.gets ⟨rfl, rfl, rfl, rfl, rfl, trivial⟩ | apply Rds.up))) rfl ?_
    refine WA.takeK (oj := _) 7 (fun w h => by repeat (first | exact h | replace h := h.tail)) rfl (by kernel_rfl) (by kernel_rfl) (by kernel_rfl) (fun _ _ _ h => h) rfl rfl rfl rfl (V.move (OV.p rfl)) rfl ?_
    refine WA.two (i := 5) (j := 8) (fun w h => by repeat (first | exact h | replace h := h.tail)) (by kernel_rfl) rfl rfl ?_ ?_
    · refine WL.known (oj := _) rfl rfl rfl rfl ?_
      refine WL.call (vs := [_]) Try.call20 ⟨OV.p rfl, trivial⟩ (ref22_Bytes (Slo.of xs) hok _ _) rfl ?_
      rintro _ _ ⟨A5, c5, rfl, rfl⟩
      refine WL.nil ?_
      refine WA.two (i := 6) (j := 8) (fun w h => by repeat (first | exact h | replace h := h.tail)) (by kernel_rfl) rfl rfl ?_ ?_
      · refine WL.known (oj := _) rfl rfl rfl rfl ?_
        refine WL.val (V.bytesStr Try.underlying36 Try.underlying5 Try.underlying9 (OV.p rfl) (fun hc => SlA.seq (cs := ints .u8 (Slo.of xs).bytes) (by simp [ints, Slo.bytes_length hok]))) rfl ?_
        refine WL.nil ?_
        refine WA.one (i := 8) (fun w h => by repeat (first | exact h | replace h := h.tail)) (by kernel_rfl) rfl ?_
        refine WL.known (oj := _) rfl rfl rfl rfl ?_
        refine WL.val (V.bytesStr Try.underlying36 Try.underlying5 Try.underlying9 (OV.p rfl) (fun hc => by repeat (first | exact hs | apply Seq.up))) rfl ?_
        refine WL.nil ?_
        refine WA.takeK (oj := _) 9 (fun w h => by repeat (first | exact h | replace h := h.tail)) rfl (by kernel_rfl) (by kernel_rfl) (by kernel_rfl) (fun _ _ _ h => h) rfl rfl rfl rfl (V.neqS (OV.p rfl) (OV.p rfl)) rfl ?_
        refine WA.take 10 (fun w h => by repeat (first | exact h | replace h := h.tail)) rfl (by kernel_rfl) (by kernel_rfl) (by kernel_rfl) (fun _ _ _ h => h) (V.pickOr (OV.p rfl) (OV.p rfl)) rfl ?_
        refine WA.done (by kernel_rfl) (fun w h => by repeat (first | exact h | replace h := h.tail)) ?_
        refine WC.cond rfl (fun hc2 => ?_) (fun hc2 => ?_)
        · rw [str_eq (Slo.bytes_isb hok) hx] at hc2; simp at hc2
          refine WC.seq ?_
          refine WC.region ?_
          refine WL.val (V.build (vs := []) trivial rfl (bld26 )) rfl ?_
          refine WL.store (cs := [_, _, _, _, _]) Try.sizeOf26 (OV.p rfl) (OV.p rfl) rfl rfl rfl (by repeat (first | exact Upd.here (cs' := [_, _, _, _, _]) rfl rfl | apply Upd.up)) ?_
          refine WL.val (V.assign (OV.p rfl)) rfl ?_
          refine WL.nil ?_
          refine WC.ret ?_
          refine BodyQ.ret (H' := F) (Res.two rfl (R1.cellA (vs := [_, _, _, _, _]) rfl ⟨Try.isAgg26, Try.sizeOf26⟩ rfl (by repeat (first | exact Rds.gets ⟨rfl, rfl, rfl, rfl, rfl, trivial⟩ | apply Rds.up))) (R1.tmp rfl)) (fun w h => by repeat (first | exact h | replace h := h.tail)) ⟨?_, rfl⟩
          have hg : Slo.good xs = false := by simp [Slo.good, *]
          unfold Slo.parse; rw [if_neg (by simp [hg]), hg]; rfl
        · rw [str_eq (Slo.bytes_isb hok) hx] at hc2; simp at hc2
          refine WC.skip ?_
          refine WC.seq ?_
          refine WC.region ?_
          refine WL.val (V.loadA (vs := [_, _, _, _, _]) ⟨Try.isAgg26, Try.sizeOf26⟩ (OV.p rfl) rfl (fun _ => by repeat (first | exact Rds.gets ⟨rfl, rfl, rfl, rfl, rfl, trivial⟩ | apply Rds.up))) rfl ?_
          refine WL.store (cs := [_, _, _, _, _]) Try.sizeOf26 (OV.p rfl) (OV.p rfl) rfl rfl rfl (by repeat (first | exact Upd.here (cs' := [_, _, _, _, _]) rfl rfl | apply Upd.up)) ?_
          refine WL.val (V.assign (OV.p rfl)) rfl ?_
          refine WL.nil ?_
          refine WC.ret ?_
          refine BodyQ.ret (H' := F) (Res.two rfl (R1.cellA (vs := [_, _, _, _, _]) rfl ⟨Try.isAgg26, Try.sizeOf26⟩ rfl (by repeat (first | exact Rds.gets ⟨rfl, rfl, rfl, rfl, rfl, trivial⟩ | apply Rds.up))) (R1.tmp rfl)) (fun w h => by repeat (first | exact h | replace h := h.tail)) ⟨?_, rfl⟩
          have hg : Slo.good xs = true := by simp [Slo.good, *]
          unfold Slo.parse; rw [if_pos hg, hg]; rfl
      · refine WL.known (oj := _) rfl rfl rfl rfl ?_
        refine WL.val (V.bytesStr Try.underlying36 Try.underlying5 Try.underlying9 (OV.p rfl) (fun hc => by repeat (first | exact hs | apply Seq.up))) rfl ?_
        refine WL.nil ?_
        refine WA.one (i := 6) (fun w h => by repeat (first | exact h | replace h := h.tail)) (by kernel_rfl) rfl ?_
        refine WL.known (oj := _) rfl rfl rfl rfl ?_
        refine WL.val (V.bytesStr Try.underlying36 Try.underlying5 Try.underlying9 (OV.p rfl) (fun hc => SlA.seq (cs := ints .u8 (Slo.of xs).bytes) (by simp [ints, Slo.bytes_length hok]))) rfl ?_
        refine WL.nil ?_
        refine WA.takeK (oj := _) 9 (fun w h => by repeat (first | exact h | replace h := h.tail)) rfl (by kernel_rfl) (by kernel_rfl) (by kernel_rfl) (fun _ _ _ h => h) rfl rfl rfl rfl (V.neqS (OV.p rfl) (OV.p rfl)) rfl ?_
        refine WA.take 10 (fun w h => by repeat (first | exact h | replace h := h.tail)) rfl (by kernel_rfl) (by kernel_rfl) (by kernel_rfl) (fun _ _ _ h => h) (V.pickOr (OV.p rfl) (OV.p rfl)) rfl ?_
        refine WA.done (by kernel_rfl) (fun w h => by repeat (first | exact h | replace h := h.tail)) ?_
        refine WC.cond rfl (fun hc2' => ?_) (fun hc2' => ?_)
        · rw [str_eq (Slo.bytes_isb hok) hx] at hc2'; simp at hc2'
          refine WC.seq ?_
          refine WC.region ?_
          refine WL.val (V.build (vs := []) trivial rfl (bld26 )) rfl ?_
          refine WL.store (cs := [_, _, _, _, _]) Try.sizeOf26 (OV.p rfl) (OV.p rfl) rfl rfl rfl (by repeat (first | exact Upd.here (cs' := [_, _, _, _, _]) rfl rfl | apply Upd.up)) ?_
          refine WL.val (V.assign (OV.p rfl)) rfl ?_
          refine WL.nil ?_
          refine WC.ret ?_
          refine BodyQ.ret (H' := F) (Res.two rfl (R1.cellA (vs := [_, _, _, _, _]) rfl ⟨Try.isAgg26, Try.sizeOf26⟩ rfl (by repeat (first | exact Rds.gets ⟨rfl, rfl, rfl, rfl, rfl, trivial⟩ | apply Rds.up))) (R1.tmp rfl)) (fun w h => by repeat (first | exact h | replace h := h.tail)) ⟨?_, rfl⟩
          have hg : Slo.good xs = false := by simp [Slo.good, *]
          unfold Slo.parse; rw [if_neg (by simp [hg]), hg]; rfl
        · rw [str_eq (Slo.bytes_isb hok) hx] at hc2'; simp at hc2'
          refine WC.skip ?_
          refine WC.seq ?_
          refine WC.region ?_
          refine WL.val (V.loadA (vs := [_, _, _, _, _]) ⟨Try.isAgg26, Try.sizeOf26⟩ (OV.p rfl) rfl (fun _ => by repeat (first | exact Rds.gets ⟨rfl, rfl, rfl, rfl, rfl, trivial⟩ | apply Rds.up))) rfl ?_
          refine WL.store (cs := [_, _, _, _, _]) Try.sizeOf26 (OV.p rfl) (OV.p rfl) rfl rfl rfl (by repeat (first | exact Upd.here (cs' := [_, _, _, _, _]) rfl rfl | apply Upd.up)) ?_
          refine WL.val (V.assign (OV.p rfl)) rfl ?_
          refine WL.nil ?_
          refine WC.ret ?_
          refine BodyQ.ret (H' := F) (Res.two rfl (R1.cellA (vs := [_, _, _, _, _]) rfl ⟨Try.isAgg26, Try.sizeOf26⟩ rfl (by repeat (first | exact Rds.gets ⟨rfl, rfl, rfl, rfl, rfl, trivial⟩ | apply Rds.up))) (R1.tmp rfl)) (fun w h => by repeat (first | exact h | replace h := h.tail)) ⟨?_, rfl⟩
          have hg : Slo.good xs = true := by simp [Slo.good, *]
          unfold Slo.parse; rw [if_pos hg, hg]; rfl
    · refine WL.known (oj := _) rfl rfl rfl rfl ?_
      refine WL.val (V.bytesStr Try.underlying36 Try.underlying5 Try.underlying9 (OV.p rfl) (fun hc => by repeat (first | exact hs | apply Seq.up))) rfl ?_
      refine WL.nil ?_
      refine WA.one (i := 5) (fun w h => by repeat (first | exact h | replace h := h.tail)) (by kernel_rfl) rfl ?_
      refine WL.known (oj := _) rfl rfl rfl rfl ?_
      refine WL.call (vs := [_]) Try.call20 ⟨OV.p rfl, trivial⟩ (ref22_Bytes (Slo.of xs) hok _ _) rfl ?_
      rintro _ _ ⟨A5, c5, rfl, rfl⟩
      refine WL.nil ?_
      refine WA.one (i := 6) (fun w h => by repeat (first | exact h | replace h := h.tail)) (by kernel_rfl) rfl ?_
      refine WL.known (oj := _) rfl rfl rfl rfl ?_
      refine WL.val (V.bytesStr Try.underlying36 Try.underlying5 Try.underlying9 (OV.p rfl) (fun hc => SlA.seq (cs := ints .u8 (Slo.of xs).bytes) (by simp [ints, Slo.bytes_length hok]))) rfl ?_
      refine WL.nil ?_
      refine WA.takeK (oj := _) 9 (fun w h => by repeat (first | exact h | replace h := h.tail)) rfl (by kernel_rfl) (by kernel_rfl) (by kernel_rfl) (fun _ _ _ h => h) rfl rfl rfl rfl (V.neqS (OV.p rfl) (OV.p rfl)) rfl ?_
      refine WA.take 10 (fun w h => by repeat (first | exact h | replace h := h.tail)) rfl (by kernel_rfl) (by kernel_rfl) (by kernel_rfl) (fun _ _ _ h => h) (V.pickOr (OV.p rfl) (OV.p rfl)) rfl ?_
      refine WA.done (by kernel_rfl) (fun w h => by repeat (first | exact h | replace h := h.tail)) ?_
      refine WC.cond rfl (fun hc2'' => ?_) (fun hc2'' => ?_)
      · rw [str_eq (Slo.bytes_isb hok) hx] at hc2''; simp at hc2''
        refine WC.seq ?_
        refine WC.region ?_
        refine WL.val (V.build (vs := []) trivial rfl (bld26 )) rfl ?_
        refine WL.store (cs := [_, _, _, _, _]) Try.sizeOf26 (OV.p rfl) (OV.p rfl) rfl rfl rfl (by repeat (first | exact Upd.here (cs' := [_, _, _, _, _]) rfl rfl | apply Upd.up)) ?_
        refine WL.val (V.assign (OV.p rfl)) rfl ?_
        refine WL.nil ?_
        refine WC.ret ?_
        refine BodyQ.ret (H' := F) (Res.two rfl (R1.cellA (vs := [_, _, _, _, _]) rfl ⟨Try.isAgg26, Try.sizeOf26⟩ rfl (by repeat (first | exact Rds.gets ⟨rfl, rfl, rfl, rfl, rfl, trivial⟩ | apply Rds.up))) (R1.tmp rfl)) (fun w h => by repeat (first | exact h | replace h := h.tail)) ⟨?_, rfl⟩
        have hg : Slo.good xs = false := by simp [Slo.good, *]
        unfold Slo.parse; rw [if_neg (by simp [hg]), hg]; rfl
      · rw [str_eq (Slo.bytes_isb hok) hx] at hc2''; simp at hc2''
        refine WC.skip ?_
        refine WC.seq ?_
        refine WC.region ?_
        refine WL.val (V.loadA (vs := [_, _, _, _, _]) ⟨Try.isAgg26, Try.sizeOf26⟩ (OV.p rfl) rfl (fun _ => by repeat (first | exact Rds.gets ⟨rfl, rfl, rfl, rfl, rfl, trivial⟩ | apply Rds.up))) rfl ?_
        refine WL.store (cs := [_, _, _, _, _]) Try.sizeOf26 (OV.p rfl) (OV.p rfl) rfl rfl rfl (by repeat (first | exact Upd.here (cs' := [_, _, _, _, _]) rfl rfl | apply Upd.up)) ?_
        refine WL.val (V.assign (OV.p rfl)) rfl ?_
        refine WL.nil ?_
        refine WC.ret ?_
        refine BodyQ.ret (H' := F) (Res.two rfl (R1.cellA (vs := [_, _, _, _, _]) rfl ⟨Try.isAgg26, Try.sizeOf26⟩ rfl (by repeat (first | exact Rds.gets ⟨rfl, rfl, rfl, rfl, rfl, trivial⟩ | apply Rds.up))) (R1.tmp rfl)) (fun w h => by repeat (first | exact h | replace h := h.tail)) ⟨?_, rfl⟩
        have hg : Slo.good xs = true := by simp [Slo.good, *]
        unfold Slo.parse; rw [if_pos hg, hg]; rfl

theorem ref22_Parse_bad {A : Option Addr} {m cap : Nat} {xs : List Int} (hx : IsBytes xs) (K : World) (F : List Assn) (hs : Seq K F A m 1 (ints .u8 xs)) (hok : (Slo.of xs).ok = false) :
    Tells Try.prog 24 #[.slice A m cap] K F (.tuple #[(Slo.parse xs).1.v, .bool (Slo.good xs)]) := by
  have hl : xs.length = m := by simpa [ints] using hs.len
  have hg : Slo.good xs = false := by simp [Slo.good, hok]
  refine Does.enter Try.func24 rfl Try.ntmps24 rfl ?_
  simp only [env0, Nat.reduceAdd]
  refine WC.seq ?_
  refine WC.region ?_
  refine WL.alloc (cs := [(.int .i64 0), (.int .i64 0), (.bool false), (.int .i64 0), (.bool false)]) Try.zeroValue26 rfl rfl (fun b2 => ?_)
  refine WL.val (V.assign (OV.p rfl)) rfl ?_
  refine WL.nil ?_
  refine WC.seq ?_
  refine WC.region ?_
  refine WL.alloc (cs := [(.int .i64 0), (.int .i64 0), (.bool false), (.int .i64 0), (.bool false)]) Try.zeroValue26 rfl rfl (fun b4 => ?_)
  refine WL.nil ?_
  refine WC.seq ?_
  refine WC.seq ?_
  refine WC.region ?_
  refine WL.val (V.move (OV.p rfl)) rfl ?_
  refine WL.val (V.len (t := 36) Try.runUnderlying36 (OV.p rfl)) rfl ?_
  refine WL.val (V.neq (OV.p rfl) (OV.p rfl)) rfl ?_
  refine WL.nil ?_
  refine WC.cond rfl (fun hc0 => ?_) (fun hc0 => ?_)
  · simp only [decide_eq_true_eq, decide_eq_false_iff_not, Bool.and_eq_true, Bool.or_eq_true, Bool.and_eq_false_iff, Bool.or_eq_false_iff, Bool.not_eq_true', Bool.not_eq_false', Bool.not_eq_true, Bool.not_eq_false, Int.not_lt, Int.not_le] at hc0
    refine WC.seq ?_
    refine WC.region ?_
    refine WL.val (V.loadA (vs := [_, _, _, _, _]) ⟨Try.isAgg26, Try.sizeOf26⟩ (OV.p rfl) rfl (fun _ => by repeat (first | exact Rds.gets ⟨rfl, rfl, rfl, rfl, rfl, trivial⟩ | apply Rds.up))) rfl ?_
    refine WL.store (cs := [_, _, _, _, _]) Try.sizeOf26 (OV.p rfl) (OV.p rfl) rfl rfl rfl (by repeat (first | exact Upd.here (cs' := [_, _, _, _, _]) rfl rfl | apply Upd.up)) ?_
    refine WL.val (V.assign (OV.p rfl)) rfl ?_
    refine WL.nil ?_
    refine WC.ret ?_
    refine BodyQ.ret (H' := F) (Res.two rfl (R1.cellA (vs := [_, _, _, _, _]) rfl ⟨Try.isAgg26, Try.sizeOf26⟩ rfl (by repeat (first | exact Rds.gets ⟨rfl, rfl, rfl, rfl, rfl, trivial⟩ | apply Rds.up))) (R1.tmp rfl)) (fun w h => by repeat (first | exact h | replace h := h.tail)) ⟨?_, rfl⟩
    unfold Slo.parse; rw [if_neg (by simp [hg]), hg]; rfl
  · simp only [decide_eq_true_eq, decide_eq_false_iff_not, Bool.and_eq_true, Bool.or_eq_true, Bool.and_eq_false_iff, Bool.or_eq_false_iff, Bool.not_eq_true', Bool.not_eq_false', Bool.not_eq_true, Bool.not_eq_false, Int.not_lt, Int.not_le] at hc0
    obtain rfl : m = 9 := by omega
    refine WC.skip ?_
    refine WC.seq ?_
    refine WC.region ?_
    refine WL.val (V.move (OV.p rfl)) rfl ?_
    refine WL.val (V.idxS st36 (OV.p rfl) (OV.p rfl) (fun hc => by first | omega | (simp at hc; omega)) (fun hc => by repeat (first | exact Seq.int_rd hs (by first | omega | (simp at hc; omega)) | apply Rd.up))) rfl ?_
    refine WL.val (V.load Try.isAgg5 (OV.p rfl) (fun hc => by repeat (first | exact Seq.int_rd hs (by first | omega | (simp at hc; omega)) | apply Rd.up))) rfl ?_
    refine WL.val (V.convW Try.runUnderlying5 Try.runUnderlying3 (OV.p rfl) (fun _ => wrap_i64 (IsBytes.wide hx _))) rfl ?_
    refine WL.val (V.fieldAddr fo26_0 (OV.p rfl)) rfl ?_
    refine WL.store (cs := [_]) Try.sizeOf3 (OV.p rfl) (OV.p rfl) rfl rfl rfl (by repeat (first | exact Upd.here (cs' := [_, _, _, _, _]) rfl rfl | apply Upd.up)) ?_
    refine WL.nil ?_
    refine WC.seq ?_
    refine WC.seq ?_
    refine WC.region ?_
    refine WL.val (V.assign (OV.p rfl)) rfl ?_
    refine WL.nil ?_
    refine WC.block ?_
    refine WC.rounds 3 ?_
    refine WC.seq ?_
    refine WC.seq ?_
    refine WC.region ?_
    refine WL.val (V.move (OV.p rfl)) rfl ?_
    refine WL.val (V.lss (OV.p rfl) (OV.p rfl)) rfl ?_
    refine WL.nil ?_
    refine WC.condT' rfl (by first | rfl | (simp; done) | (simp; omega)) ?_
    refine WC.skip ?_
    refine WC.seq ?_
    refine WC.block ?_
    refine WC.regionA F (by kernel_rfl) ?_
    refine WA.take 0 (fun w h => by repeat (first | exact h | replace h := h.tail)) rfl (by kernel_rfl) (by kernel_rfl) (by kernel_rfl) (fun _ _ _ h => h) (V.move (OV.p rfl)) rfl ?_
    refine WA.take 1 (fun w h => by repeat (first | exact h | replace h := h.tail)) rfl (by kernel_rfl) (by kernel_rfl) (by kernel_rfl) (fun _ _ _ h => h) (V.move (OV.p rfl)) rfl ?_
    refine WA.take 2 (fun w h => by repeat (first | exact h | replace h := h.tail)) rfl (by kernel_rfl) (by kernel_rfl) (by kernel_rfl) (fun _ _ _ h => h) (V.move (OV.p rfl)) rfl ?_
    refine WA.take 3 (fun w h => by repeat (first | exact h | replace h := h.tail)) rfl (by kernel_rfl) (by kernel_rfl) (by kernel_rfl) (fun _ _ _ h => h) (V.val_eq (v' := .int .i64 (0)) (V.mul (OV.p rfl) (OV.p rfl)) (fun _ => rfl)) rfl ?_
    refine WA.take 4 (fun w h => by repeat (first | exact h | replace h := h.tail)) rfl (by kernel_rfl) (by kernel_rfl) (by kernel_rfl) (fun _ _ _ h => h) (V.val_eq (v' := .int .i64 (5)) (V.add (OV.p rfl) (OV.p rfl)) (fun _ => rfl)) rfl ?_
    refine WA.take 5 (fun w h => by repeat (first | exact h | replace h := h.tail)) rfl (by kernel_rfl) (by kernel_rfl) (by kernel_rfl) (fun _ _ _ h => h) (V.idxS st36 (OV.p rfl) (OV.p rfl) (fun hc => by first | omega | (simp at hc; omega)) (fun hc => by repeat (first | exact Seq.int_rd hs (by first | omega | (simp at hc; omega)) | apply Rd.up))) rfl ?_
    refine WA.take 6 (fun w h => by repeat (first | exact h | replace h := h.tail)) rfl (by kernel_rfl) (by kernel_rfl) (by kernel_rfl) (fun _ _ _ h => h) (V.load Try.isAgg5 (OV.p rfl) (fun hc => by repeat (first | exact Seq.int_rd hs (by first | omega | (simp at hc; omega)) | apply Rd.up))) rfl ?_
    refine WA.take 7 (fun w h => by repeat (first | exact h | replace h := h.tail)) rfl (by kernel_rfl) (by kernel_rfl) (by kernel_rfl) (fun _ _ _ h => h) (V.convW Try.runUnderlying5 Try.runUnderlying3 (OV.p rfl) (fun _ => wrap_i64 (IsBytes.wide hx _))) rfl ?_
    refine WA.take 8 (fun w h => by repeat (first | exact h | replace h := h.tail)) rfl (by kernel_rfl) (by kernel_rfl) (by kernel_rfl) (fun _ _ _ h => h) (V.move (OV.p rfl)) rfl ?_
    refine WA.take 9 (fun w h => by repeat (first | exact h | replace h := h.tail)) rfl (by kernel_rfl) (by kernel_rfl) (by kernel_rfl) (fun _ _ _ h => h) (V.move (OV.p rfl)) rfl ?_
    refine WA.take 10 (fun w h => by repeat (first | exact h | replace h := h.tail)) rfl (by kernel_rfl) (by kernel_rfl) (by kernel_rfl) (fun _ _ _ h => h) (V.val_eq (v' := .int .i64 (0)) (V.mul (OV.p rfl) (OV.p rfl)) (fun _ => rfl)) rfl ?_
    refine WA.take 11 (fun w h => by repeat (first | exact h | replace h := h.tail)) rfl (by kernel_rfl) (by kernel_rfl) (by kernel_rfl) (fun _ _ _ h => h) (V.val_eq (v' := .int .i64 (6)) (V.add (OV.p rfl) (OV.p rfl)) (fun _ => rfl)) rfl ?_
    refine WA.take 12 (fun w h => by repeat (first | exact h | replace h := h.tail)) rfl (by kernel_rfl) (by kernel_rfl) (by kernel_rfl) (fun _ _ _ h => h) (V.idxS st36 (OV.p rfl) (OV.p rfl) (fun hc => by first | omega | (simp at hc; omega)) (fun hc => by repeat (first | exact Seq.int_rd hs (by first | omega | (simp at hc; omega)) | apply Rd.up))) rfl ?_
    refine WA.take 13 (fun w h => by repeat (first | exact h | replace h := h.tail)) rfl (by kernel_rfl) (by kernel_rfl) (by kernel_rfl) (fun _ _ _ h => h) (V.load Try.isAgg5 (OV.p rfl) (fun hc => by repeat (first | exact Seq.int_rd hs (by first | omega | (simp at hc; omega)) | apply Rd.up))) rfl ?_
    refine WA.take 14 (fun w h => by repeat (first | exact h | replace h := h.tail)) rfl (by kernel_rfl) (by kernel_rfl) (by kernel_rfl) (fun _ _ _ h => h) (V.eql (OV.p rfl) (OV.p rfl)) rfl ?_
    refine WA.take 15 (fun w h => by repeat (first | exact h | replace h := h.tail)) rfl (by kernel_rfl) (by kernel_rfl) (by kernel_rfl) (fun _ _ _ h => h) (V.build (vs := [(0, _), (1, _)]) ⟨OV.p rfl, OV.p rfl, trivial⟩ rfl (bld23_0_1 _ _)) rfl ?_
    refine WA.take 16 (fun w h => by repeat (first | exact h | replace h := h.tail)) rfl (by kernel_rfl) (by kernel_rfl) (by kernel_rfl) (fun _ _ _ h => h) (V.fieldAddr fo26_1 (OV.p rfl)) rfl ?_
    refine WA.take 17 (fun w h => by repeat (first | exact h | replace h := h.tail)) rfl (by kernel_rfl) (by kernel_rfl) (by kernel_rfl) (fun _ _ _ h => h) (V.idxA at24 (OV.p rfl) (OV.p rfl) (fun hc => by first | omega | (simp at hc; omega))) rfl ?_
    refine WA.one (i := 18) (fun w h => by repeat (first | exact h | replace h := h.tail)) (by kernel_rfl) rfl ?_
    refine WL.store (cs := [_, _]) Try.sizeOf23 (OV.p rfl) (OV.p rfl) rfl rfl rfl (by repeat (first | exact Upd.here (cs' := [_, _, _, _, _]) rfl rfl | apply Upd.up)) ?_
    refine WL.nil ?_
    refine WA.done (by kernel_rfl) (fun w h => by repeat (first | exact h | replace h := h.tail)) ?_
    refine WC.region ?_
    refine WL.val (V.move (OV.p rfl)) rfl ?_
    refine WL.val (V.val_eq (v' := .int .i64 (1)) (V.add (OV.p rfl) (OV.p rfl)) (fun _ => rfl)) rfl ?_
    refine WL.val (V.assign (OV.p rfl)) rfl ?_
    refine WL.nil ?_
    refine WC.seq ?_
    refine WC.seq ?_
    refine WC.region ?_
    refine WL.val (V.move (OV.p rfl)) rfl ?_
    refine WL.val (V.lss (OV.p rfl) (OV.p rfl)) rfl ?_
    refine WL.nil ?_
    refine WC.condT' rfl (by first | rfl | (simp; done) | (simp; omega)) ?_
    refine WC.skip ?_
    refine WC.seq ?_
    refine WC.block ?_
    refine WC.regionA F (by kernel_rfl) ?_
    refine WA.take 0 (fun w h => by repeat (first | exact h | replace h := h.tail)) rfl (by kernel_rfl) (by kernel_rfl) (by kernel_rfl) (fun _ _ _ h => h) (V.move (OV.p rfl)) rfl ?_
    refine WA.take 1 (fun w h => by repeat (first | exact h | replace h := h.tail)) rfl (by kernel_rfl) (by kernel_rfl) (by kernel_rfl) (fun _ _ _ h => h) (V.move (OV.p rfl)) rfl ?_
    refine WA.take 2 (fun w h => by repeat (first | exact h | replace h := h.tail)) rfl (by kernel_rfl) (by kernel_rfl) (by kernel_rfl) (fun _ _ _ h => h) (V.move (OV.p rfl)) rfl ?_
    refine WA.take 3 (fun w h => by repeat (first | exact h | replace h := h.tail)) rfl (by kernel_rfl) (by kernel_rfl) (by kernel_rfl) (fun _ _ _ h => h) (V.val_eq (v' := .int .i64 (2)) (V.mul (OV.p rfl) (OV.p rfl)) (fun _ => rfl)) rfl ?_
    refine WA.take 4 (fun w h => by repeat (first | exact h | replace h := h.tail)) rfl (by kernel_rfl) (by kernel_rfl) (by kernel_rfl) (fun _ _ _ h => h) (V.val_eq (v' := .int .i64 (7)) (V.add (OV.p rfl) (OV.p rfl)) (fun _ => rfl)) rfl ?_
    refine WA.take 5 (fun w h => by repeat (first | exact h | replace h := h.tail)) rfl (by kernel_rfl) (by kernel_rfl) (by kernel_rfl) (fun _ _ _ h => h) (V.idxS st36 (OV.p rfl) (OV.p rfl) (fun hc => by first | omega | (simp at hc; omega)) (fun hc => by repeat (first | exact Seq.int_rd hs (by first | omega | (simp at hc; omega)) | apply Rd.up))) rfl ?_
    refine WA.take 6 (fun w h => by repeat (first | exact h | replace h := h.tail)) rfl (by kernel_rfl) (by kernel_rfl) (by kernel_rfl) (fun _ _ _ h => h) (V.load Try.isAgg5 (OV.p rfl) (fun hc => by repeat (first | exact Seq.int_rd hs (by first | omega | (simp at hc; omega)) | apply Rd.up))) rfl ?_
    refine WA.take 7 (fun w h => by repeat (first | exact h | replace h := h.tail)) rfl (by kernel_rfl) (by kernel_rfl) (by kernel_rfl) (fun _ _ _ h => h) (V.convW Try.runUnderlying5 Try.runUnderlying3 (OV.p rfl) (fun _ => wrap_i64 (IsBytes.wide hx _))) rfl ?_
    refine WA.take 8 (fun w h => by repeat (first | exact h | replace h := h.tail)) rfl (by kernel_rfl) (by kernel_rfl) (by kernel_rfl) (fun _ _ _ h => h) (V.move (OV.p rfl)) rfl ?_
    refine WA.take 9 (fun w h => by repeat (first | exact h | replace h := h.tail)) rfl (by kernel_rfl) (by kernel_rfl) (by kernel_rfl) (fun _ _ _ h => h) (V.move (OV.p rfl)) rfl ?_
    refine WA.take 10 (fun w h => by repeat (first | exact h | replace h := h.tail)) rfl (by kernel_rfl) (by kernel_rfl) (by kernel_rfl) (fun _ _ _ h => h) (V.val_eq (v' := .int .i64 (2)) (V.mul (OV.p rfl) (OV.p rfl)) (fun _ => rfl)) rfl ?_
    refine WA.take 11 (fun w h => by repeat (first | exact h | replace h := h.tail)) rfl (by kernel_rfl) (by kernel_rfl) (by kernel_rfl) (fun _ _ _ h => h) (V.val_eq (v' := .int .i64 (8)) (V.add (OV.p rfl) (OV.p rfl)) (fun _ => rfl)) rfl ?_
    refine WA.take 12 (fun w h => by repeat (first | exact h | replace h := h.tail)) rfl (by kernel_rfl) (by kernel_rfl) (by kernel_rfl) (fun _ _ _ h => h) (V.idxS st36 (OV.p rfl) (OV.p rfl) (fun hc => by first | omega | (simp at hc; omega)) (fun hc => by repeat (first | exact Seq.int_rd hs (by first | omega | (simp at hc; omega)) | apply Rd.up))) rfl ?_
    refine WA.take 13 (fun w h => by repeat (first | exact h | replace h := h.tail)) rfl (by kernel_rfl) (by kernel_rfl) (by kernel_rfl) (fun _ _ _ h => h) (V.load Try.isAgg5 (OV.p rfl) (fun hc => by repeat (first | exact Seq.int_rd hs (by first | omega | (simp at hc; omega)) | apply Rd.up))) rfl ?_
    refine WA.take 14 (fun w h => by repeat (first | exact h | replace h := h.tail)) rfl (by kernel_rfl) (by kernel_rfl) (by kernel_rfl) (fun _ _ _ h => h) (V.eql (OV.p rfl) (OV.p rfl)) rfl ?_
    refine WA.take 15 (fun w h => by repeat (first | exact h | replace h := h.tail)) rfl (by kernel_rfl) (by kernel_rfl) (by kernel_rfl) (fun _ _ _ h => h) (V.build (vs := [(0, _), (1, _)]) ⟨OV.p rfl, OV.p rfl, trivial⟩ rfl (bld23_0_1 _ _)) rfl ?_
    refine WA.take 16 (fun w h => by repeat (first | exact h | replace h := h.tail)) rfl (by kernel_rfl) (by kernel_rfl) (by kernel_rfl) (fun _ _ _ h => h) (V.fieldAddr fo26_1 (OV.p rfl)) rfl ?_
    refine WA.take 17 (fun w h => by repeat (first | exact h | replace h := h.tail)) rfl (by kernel_rfl) (by kernel_rfl) (by kernel_rfl) (fun _ _ _ h => h) (V.idxA at24 (OV.p rfl) (OV.p rfl) (fun hc => by first | omega | (simp at hc; omega))) rfl ?_
    refine WA.one (i := 18) (fun w h => by repeat (first | exact h | replace h := h.tail)) (by kernel_rfl) rfl ?_
    refine WL.store (cs := [_, _]) Try.sizeOf23 (OV.p rfl) (OV.p rfl) rfl rfl rfl (by repeat (first | exact Upd.here (cs' := [_, _, _, _, _]) rfl rfl | apply Upd.up)) ?_
    refine WL.nil ?_
    refine WA.done (by kernel_rfl) (fun w h => by repeat (first | exact h | replace h := h.tail)) ?_
    refine WC.region ?_
    refine WL.val (V.move (OV.p rfl)) rfl ?_
    refine WL.val (V.val_eq (v' := .int .i64 (2)) (V.add (OV.p rfl) (OV.p rfl)) (fun _ => rfl)) rfl ?_
    refine WL.val (V.assign (OV.p rfl)) rfl ?_
    refine WL.nil ?_
    refine WC.seq ?_
    refine WC.seq ?_
    refine WC.region ?_
    refine WL.val (V.move (OV.p rfl)) rfl ?_
    refine WL.val (V.lss (OV.p rfl) (OV.p rfl)) rfl ?_
    refine WL.nil ?_
    refine WC.condF' rfl (by first | rfl | (simp; done) | (simp; omega)) ?_
    refine WC.exit ?_
    refine WC.seq ?_
    refine WC.seq ?_
    refine WC.regionH (by kernel_rfl) ?_
    refine WA.take 0 (fun w h => h) rfl (by kernel_rfl) (by kernel_rfl) (by kernel_rfl) (fun _ _ _ h => h) (V.loadA (vs := [_, _, _, _, _]) ⟨Try.isAgg26, Try.sizeOf26⟩ (OV.p rfl) rfl (fun _ => by repeat (first | exact Rds.gets ⟨rfl, rfl, rfl, rfl, rfl, trivial⟩ | apply Rds.up))) rfl ?_
    refine WA.one (i := 1) (fun w h => by repeat (first | exact h | replace h := h.tail)) (by kernel_rfl) rfl ?_
    refine WL.call (vs := [_]) Try.call19 ⟨OV.p rfl, trivial⟩ ((by have := ref22_May (Slo.of xs) K; rw [hok] at this; exact this _)) rfl ?_
    rintro _ H0 ⟨rfl, h0⟩
    subst H0
    refine WL.nil ?_
    refine WA.take 2 (fun w h => by repeat (first | exact h | replace h := h.tail)) rfl (by kernel_rfl) (by kernel_rfl) (by kernel_rfl) (fun _ _ _ h => h) (V.not (OV.p rfl)) rfl ?_
    refine WA.take 3 (fun w h => by repeat (first | exact h | replace h := h.tail)) rfl (by kernel_rfl) (by kernel_rfl) (by kernel_rfl) (fun _ _ _ h => h) (V.move (OV.p rfl)) rfl ?_
    refine WA.takeF (oj := _) 4 (fun w h => by repeat (first | exact h | replace h := h.tail)) rfl (by kernel_rfl) (by kernel_rfl) (by kernel_rfl) (fun _ _ _ h => h) rfl rfl rfl rfl rfl ?_
    refine WA.takeF (oj := _) 5 (fun w h => by repeat (first | exact h | replace h := h.tail)) rfl (by kernel_rfl) (by kernel_rfl) (by kernel_rfl) (fun _ _ _ h => h) rfl rfl rfl rfl rfl ?_
    refine WA.takeF (oj := _) 6 (fun w h => by repeat (first | exact h | replace h := h.tail)) rfl (by kernel_rfl) (by kernel_rfl) (by kernel_rfl) (fun _ _ _ h => h) rfl rfl rfl rfl rfl ?_
    refine WA.takeF (oj := _) 7 (fun w h => by repeat (first | exact h | replace h := h.tail)) rfl (by kernel_rfl) (by kernel_rfl) (by kernel_rfl) (fun _ _ _ h => h) rfl rfl rfl rfl rfl ?_
    refine WA.takeF (oj := _) 8 (fun w h => by repeat (first | exact h | replace h := h.tail)) rfl (by kernel_rfl) (by kernel_rfl) (by kernel_rfl) (fun _ _ _ h => h) rfl rfl rfl rfl rfl ?_
    refine WA.takeF (oj := _) 9 (fun w h => by repeat (first | exact h | replace h := h.tail)) rfl (by kernel_rfl) (by kernel_rfl) (by kernel_rfl) (fun _ _ _ h => h) rfl rfl rfl rfl rfl ?_
    refine WA.take 10 (fun w h => by repeat (first | exact h | replace h := h.tail)) rfl (by kernel_rfl) (by kernel_rfl) (by kernel_rfl) (fun _ _ _ h => h) (V.pickT (OV.p rfl) (OV.p rfl)) rfl ?_
    refine WA.done (by kernel_rfl) (fun w h => by repeat (first | exact h | replace h := h.tail)) ?_
    refine WC.condT' rfl (by first | rfl | (simp; done) | (simp; omega)) ?_
    refine WC.seq ?_
    refine WC.region ?_
    refine WL.val (V.build (vs := []) trivial rfl (bld26 )) rfl ?_
    refine WL.store (cs := [_, _, _, _, _]) Try.sizeOf26 (OV.p rfl) (OV.p rfl) rfl rfl rfl (by repeat (first | exact Upd.here (cs' := [_, _, _, _, _]) rfl rfl | apply Upd.up)) ?_
    refine WL.val (V.assign (OV.p rfl)) rfl ?_
    refine WL.nil ?_
    refine WC.ret ?_
    refine BodyQ.ret (H' := F) (Res.two rfl (R1.cellA (vs := [_, _, _, _, _]) rfl ⟨Try.isAgg26, Try.sizeOf26⟩ rfl (by repeat (first | exact Rds.gets ⟨rfl, rfl, rfl, rfl, rfl, trivial⟩ | apply Rds.up))) (R1.tmp rfl)) (fun w h => by repeat (first | exact h | replace h := h.tail)) ⟨?_, rfl⟩
    unfold Slo.parse; rw [if_neg (by simp [hg]), hg]; rfl

theorem ref22_Parse {A : Option Addr} {m cap : Nat} {xs : List Int} (hx : IsBytes xs) (K : World) (F : List Assn) (hs : Seq K F A m 1 (ints .u8 xs)) :
    Tells Try.prog 24 #[.slice A m cap] K F (.tuple #[(Slo.parse xs).1.v, .bool (Slo.good xs)]) := by
  cases hok : (Slo.of xs).ok with
  | true => exact ref22_Parse_good hx K F hs hok
  | false => exact ref22_Parse_bad hx K F hs hok
end Go.Proofs.Ytcgbmifpmaembaa
