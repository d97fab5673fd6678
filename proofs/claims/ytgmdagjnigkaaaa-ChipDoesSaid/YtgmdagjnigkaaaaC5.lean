/- The chip: Mark and Burn, with their closures. -/
import Derived.Test.YtgmdagjnigkaaaaC4
namespace Go.Proofs.Ytgmdagjnigkaaaa
open Go.Sl Go.RowKit
set_option linter.unusedVariables false
set_option linter.unusedSimpArgs false
set_option maxRecDepth 20000

section
variable {bc : Nat} {C : Cw} {K : World} {F : List Assn}
theorem chip_Mark1 {b b2 b3 : Nat} {k : Int} (h2 : Rd K F (some ⟨b2, 0, none⟩) (ptr bc 0)) (h3 : Rd K F (some ⟨b3, 0, none⟩) (.int .i64 k)) : Does Try.prog 51 #[ptr b2 0, ptr b3 0] K (C.A bc :: F) (fun v H' => H' = (C.mark k).A bc :: F) := by
  refine Does.openC ?_
  dsimp only [Cw.parts, List.cons_append, List.nil_append]
  refine Does.enter Try.func51 rfl Try.ntmps51 rfl ?_
  simp only [env0, Nat.reduceAdd]
  refine WC.regionA F (by kernel_rfl) ?_
  refine WA.take 0 (fun w h => by repeat (first | exact h | replace h := h.tail)) rfl (by kernel_rfl) (by kernel_rfl) (by kernel_rfl) (fun _ _ _ h => h) (V.load Try.isAgg25 (OV.p rfl) (fun _ => h2)) rfl ?_
  refine WA.take 1 (fun w h => by repeat (first | exact h | replace h := h.tail)) rfl (by kernel_rfl) (by kernel_rfl) (by kernel_rfl) (fun _ _ _ h => h) (V.nilCheck (OV.p rfl)) rfl ?_
  refine WA.take 2 (fun w h => by repeat (first | exact h | replace h := h.tail)) rfl (by kernel_rfl) (by kernel_rfl) (by kernel_rfl) (fun _ _ _ h => h) (V.fieldAddr fo77_5 (OV.p rfl)) rfl ?_
  refine WA.take 4 (fun w h => by repeat (first | exact h | replace h := h.tail)) rfl (by kernel_rfl) (by kernel_rfl) (by kernel_rfl) (fun _ _ _ h => h) (V.load Try.isAgg3 (OV.p rfl) (fun _ => h3)) rfl ?_
  refine WA.one (i := 3) (fun w h => by repeat (first | exact h | replace h := h.tail)) (by kernel_rfl) rfl ?_
  refine WL.val (V.load Try.isAgg75 (OV.p rfl) (fun _ => by repeat (first | exact Rd.here rfl | apply Rd.up))) rfl ?_
  refine WL.nil ?_
  refine WA.one (i := 5) (fun w h => by repeat (first | exact h | replace h := h.tail)) (by kernel_rfl) rfl ?_
  refine WL.mapUpdateR (k := _) Try.underlying75 kl3 (OV.p rfl) (OV.p rfl) (OV.p rfl) (by repeat (first | exact Repl.here | apply Repl.up)) ?_
  refine WL.nil ?_
  refine WA.done (by kernel_rfl) (fun w h => by repeat (first | exact h | replace h := h.tail)) ?_
  exact BodyQ.ret (H' := (C.mark k).A bc :: F) (Res.none rfl) (fun w h => Sat.all (l := (C.mark k).parts bc) (by rw [boolF_upd] at h; exact h)) rfl
theorem chip_Burn1 {b2 b3 : Nat} {k : Int} (h2 : Rd K F (some ⟨b2, 0, none⟩) (ptr bc 0)) (h3 : Rd K F (some ⟨b3, 0, none⟩) (.int .i64 k)) : Does Try.prog 52 #[ptr b3 0, ptr b2 0] K (C.A bc :: F) (fun v H' => H' = (C.burn k).A bc :: F) := by
  refine Does.openC ?_
  dsimp only [Cw.parts, List.cons_append, List.nil_append]
  refine Does.enter Try.func52 rfl Try.ntmps52 rfl ?_
  simp only [env0, Nat.reduceAdd]
  refine WC.region ?_
  refine WL.val (V.load Try.isAgg25 (OV.p rfl) (fun _ => by repeat (first | exact h2 | apply Rd.up))) rfl ?_
  refine WL.val (V.load Try.isAgg3 (OV.p rfl) (fun _ => by repeat (first | exact h3 | apply Rd.up))) rfl ?_
  refine WL.val (V.nilCheck (OV.p rfl)) rfl ?_
  refine WL.val (V.fieldAddr fo77_7 (OV.p rfl)) rfl ?_
  refine WL.store (cs := [_]) Try.sizeOf3 (OV.p rfl) (OV.p rfl) rfl rfl rfl (by repeat (first | exact Upd.here rfl rfl | apply Upd.up)) ?_
  refine WL.nil ?_
  exact BodyQ.ret (H' := (C.burn k).A bc :: F) (Res.none rfl) (fun w h => Sat.all (l := (C.burn k).parts bc) h) rfl
theorem chip_all (hC : C.Ok) {f : FuncId} {caps : List Value} {C1 : Cw} (hf : Callable Try.prog f) (hdo : Does Try.prog f caps.toArray K (C.deed.A bc :: F) (fun v H' => H' = C1.A bc :: F)) :
    Does Try.prog 50 #[ptr bc 0, .func (.func f) #[] caps.toArray] K (C.A bc :: F) (fun v H' => v = .int .i64 (Chip.after C.sem.cut) ∧ H' = (if !C.sem.cut || decide (0 < C.keep) then C1 else C.deed).A bc :: F) := by
  refine Does.openC ?_
  dsimp only [Cw.parts, List.cons_append, List.nil_append]
  refine Does.enter Try.func50 rfl Try.ntmps50 rfl ?_
  simp only [env0, Nat.reduceAdd]
  refine WC.seq ?_
  refine WC.region ?_
  refine WL.val (V.assign (OV.p rfl)) rfl ?_
  refine WL.nil ?_
  refine WC.seq ?_
  refine WC.region ?_
  refine WL.val (V.move (OV.p rfl)) rfl ?_
  refine WL.call (vs := [_]) Try.call46 ⟨OV.p rfl, trivial⟩ (chip_deed (C := C) hC.left) rfl ?_
  rintro _ _ ⟨rfl, rfl⟩
  refine WL.val (V.assign (OV.p rfl)) rfl ?_
  refine WL.nil ?_
  refine WC.seq ?_
  refine WC.seq ?_
  refine WC.region ?_
  refine WL.val (V.move (OV.p rfl)) rfl ?_
  refine WL.val (V.not (OV.p rfl)) rfl ?_
  refine WL.val (V.move (OV.p rfl)) rfl ?_
  refine WL.valG (oj := _) rfl rfl rfl GC.f (V.move (OV.p rfl)) rfl ?_
  refine WL.valG (oj := _) rfl rfl rfl GC.f (V.nilCheck (OV.g rfl id)) rfl ?_
  refine WL.valG (oj := _) rfl rfl rfl GC.f (V.fieldAddr fo77_10 (OV.g rfl id)) rfl ?_
  refine WL.valG (oj := _) rfl rfl rfl GC.f (V.load Try.isAgg3 (OV.g rfl id) (fun _ => by repeat (first | exact Rd.here rfl | apply Rd.up))) rfl ?_
  refine WL.valG (oj := _) rfl rfl rfl GC.f (V.gtr (OV.g rfl id) (OV.p rfl)) rfl ?_
  refine WL.val (V.pickOr (OV.p rfl) (OV.g rfl id)) rfl ?_
  refine WL.nil ?_
  refine WC.cond rfl (fun hc0 => ?_) (fun hc0 => ?_)
  · skip
    have h0 := hc0
    refine WC.region ?_
    refine WL.val (V.move (OV.p rfl)) rfl ?_
    refine WL.sub (Sub.refl _) (fun w h => Sat.all (l := C.deed.parts bc) h) ?_
    refine WL.callV (first := []) (captured := caps) (vs := []) hf (OV.p rfl) trivial hdo rfl ?_
    rintro _ _ rfl
    refine WL.nil ?_
    refine WC.seq ?_
    refine WC.region ?_
    refine WL.val (V.move (OV.p rfl)) rfl ?_
    refine WL.val (V.move (OV.p rfl)) rfl ?_
    refine WL.call (vs := [_, _]) Try.call47 ⟨OV.p rfl, OV.p rfl, trivial⟩ (chip_after _ _) rfl ?_
    rintro _ H0 ⟨rfl, h0⟩
    subst H0
    refine WL.val (V.assign (OV.p rfl)) rfl ?_
    refine WL.nil ?_
    refine WC.ret ?_
    first
    | exact BodyQ.ret (H' := C1.A bc :: F) (Res.tmp rfl rfl) (fun w h => h) ⟨rfl, by rw [if_pos (show (!C.sem.cut || decide (0 < C.keep)) = true from h0)]⟩
    | exact BodyQ.ret (H' := C.deed.A bc :: F) (Res.tmp rfl rfl) (fun w h => Sat.all (l := C.deed.parts bc) h) ⟨rfl, by rw [if_neg (show ¬ (!C.sem.cut || decide (0 < C.keep)) = true by rw [show (!C.sem.cut || decide (0 < C.keep)) = false from h0]; decide)]⟩
  · skip
    have h0 := hc0
    refine WC.skip ?_
    refine WC.seq ?_
    refine WC.region ?_
    refine WL.val (V.move (OV.p rfl)) rfl ?_
    refine WL.val (V.move (OV.p rfl)) rfl ?_
    refine WL.call (vs := [_, _]) Try.call47 ⟨OV.p rfl, OV.p rfl, trivial⟩ (chip_after _ _) rfl ?_
    rintro _ H0 ⟨rfl, h0⟩
    subst H0
    refine WL.val (V.assign (OV.p rfl)) rfl ?_
    refine WL.nil ?_
    refine WC.ret ?_
    first
    | exact BodyQ.ret (H' := C1.A bc :: F) (Res.tmp rfl rfl) (fun w h => h) ⟨rfl, by rw [if_pos (show (!C.sem.cut || decide (0 < C.keep)) = true from h0)]⟩
    | exact BodyQ.ret (H' := C.deed.A bc :: F) (Res.tmp rfl rfl) (fun w h => Sat.all (l := C.deed.parts bc) h) ⟨rfl, by rw [if_neg (show ¬ (!C.sem.cut || decide (0 < C.keep)) = true by rw [show (!C.sem.cut || decide (0 < C.keep)) = false from h0]; decide)]⟩
end
theorem ite_A {c : Bool} {C1 C2 : Cw} {S1 S2 : Chip} (h1 : C1.sem = S1) (h2 : C2.sem = S2) : (if c then C1 else C2).sem = if c then S1 else S2 := by cases c <;> simp [h1, h2]
theorem ite_Ok {c : Bool} {C1 C2 : Cw} (h1 : C1.Ok) (h2 : C2.Ok) : (if c then C1 else C2).Ok := by cases c <;> simp [h1, h2]
theorem chip_Mark {bc : Nat} {C : Cw} (hC : C.Ok) (b : Int) {K : World} {F : List Assn} :
    Does Try.prog 23 #[ptr bc 0, .int .i64 b] K (C.A bc :: F)
      (fun v H' => ∃ C' : Cw, C'.Ok ∧ H' = C'.A bc :: F ∧ C'.sem = (C.sem.mark b).1 ∧ v = .int .i64 (C.sem.mark b).2) := by
  refine Does.openC ?_
  dsimp only [Cw.parts, List.cons_append, List.nil_append]
  refine Does.enter Try.func23 rfl Try.ntmps23 rfl ?_
  simp only [env0, Nat.reduceAdd]
  refine WC.seq ?_
  refine WC.region ?_
  refine WL.box (cs := [_]) (OV.p rfl) rfl rfl (fun b2 => ?_)
  refine WL.box (cs := [_]) (OV.p rfl) rfl rfl (fun b3 => ?_)
  refine WL.val (V.assign (OV.p rfl)) rfl ?_
  refine WL.nil ?_
  refine WC.seq ?_
  refine WC.seq ?_
  refine WC.region ?_
  refine WL.val (V.load Try.isAgg25 (OV.p rfl) (fun _ => by repeat (first | exact Rd.here rfl | apply Rd.up))) rfl ?_
  refine WL.call (vs := [_]) Try.call43 ⟨OV.p rfl, trivial⟩ (chip_ready (C := C) (by repeat (first | exact Rds.all | apply Rds.up))) rfl ?_
  rintro _ H0 ⟨rfl, h0⟩
  subst H0
  refine WL.val (V.assign (OV.p rfl)) rfl ?_
  refine WL.nil ?_
  refine WC.seq ?_
  refine WC.region ?_
  refine WL.val (V.move (OV.p rfl)) rfl ?_
  refine WL.val (V.neq (OV.p rfl) (OV.p rfl)) rfl ?_
  refine WL.nil ?_
  refine WC.cond rfl (fun hc0 => ?_) (fun hc0 => ?_)
  · skip
    have hup : C.up = false := by cases h : C.up <;> simp [Chip.ready, Cw.sem, h] at hc0 ⊢
    refine WC.seq ?_
    refine WC.region ?_
    refine WL.val (V.move (OV.p rfl)) rfl ?_
    refine WL.val (V.assign (OV.p rfl)) rfl ?_
    refine WL.nil ?_
    refine WC.ret ?_
    have e1 : C.sem.mark b = (C.sem, 70) := by unfold Chip.mark; rw [if_pos (show C.sem.up = false from hup)]
    rw [e1]
    exact BodyQ.ret (H' := C.A bc :: F) (Res.tmp rfl rfl) (fun w h => Sat.all (l := C.parts bc) h.tail.tail) ⟨C, hC, rfl, rfl, by unfold Chip.ready; rw [if_neg (by show ¬ C.up = true; rw [hup]; decide)]⟩
  · skip
    have hup : C.up = true := by cases h : C.up <;> simp [Chip.ready, Cw.sem, h] at hc0 ⊢
    refine WC.skip ?_
    refine WC.seq ?_
    refine WC.seq ?_
    refine WC.region ?_
    refine WL.val (V.load Try.isAgg25 (OV.p rfl) (fun _ => by repeat (first | exact Rd.here rfl | apply Rd.up))) rfl ?_
    refine WL.val (V.load Try.isAgg3 (OV.p rfl) (fun _ => by repeat (first | exact Rd.here rfl | apply Rd.up))) rfl ?_
    refine WL.call (vs := [_, _]) Try.call41 ⟨OV.p rfl, OV.p rfl, trivial⟩ (chip_block (C := C) b (by repeat (first | exact Rds.all | apply Rds.up))) rfl ?_
    rintro _ H0 ⟨rfl, h0⟩
    subst H0
    refine WL.val (V.not (OV.p rfl)) rfl ?_
    refine WL.nil ?_
    refine WC.cond rfl (fun hc1 => ?_) (fun hc1 => ?_)
    · simp only [decide_eq_true_eq, decide_eq_false_iff_not, Bool.and_eq_true, Bool.or_eq_true, Bool.and_eq_false_iff, Bool.or_eq_false_iff, Bool.not_eq_true', Bool.not_eq_false', Bool.not_eq_true, Bool.not_eq_false, decide_eq_true_eq, decide_eq_false_iff_not] at hc1
      refine WC.seq ?_
      refine WC.region ?_
      refine WL.val (V.assign (OV.p rfl)) rfl ?_
      refine WL.nil ?_
      refine WC.ret ?_
      have e1 : C.sem.mark b = (C.sem, 1) := by unfold Chip.mark; rw [if_neg (by show ¬ C.up = false; rw [hup]; decide), if_pos hc1]
      rw [e1]
      exact BodyQ.ret (H' := C.A bc :: F) (Res.tmp rfl rfl) (fun w h => Sat.all (l := C.parts bc) h.tail.tail) ⟨C, hC, rfl, rfl, rfl⟩
    · simp only [decide_eq_true_eq, decide_eq_false_iff_not, Bool.and_eq_true, Bool.or_eq_true, Bool.and_eq_false_iff, Bool.or_eq_false_iff, Bool.not_eq_true', Bool.not_eq_false', Bool.not_eq_true, Bool.not_eq_false, decide_eq_true_eq, decide_eq_false_iff_not] at hc1
      refine WC.skip ?_
      refine WC.seq ?_
      refine WC.region ?_
      refine WL.val (V.load Try.isAgg25 (OV.p rfl) (fun _ => by repeat (first | exact Rd.here rfl | apply Rd.up))) rfl ?_
      refine WL.val (V.makeFunc (us := []) (vs := [_, _]) trivial ⟨OV.p rfl, OV.p rfl, trivial⟩) rfl ?_
      refine WL.sub (Sub.refl _) (fun w h => Sat.all (l := C.parts bc) (h.sel 9 [2, 3, 4, 5, 6, 7, 8, 0, 1] rfl)) ?_
      refine WL.call (vs := [_, _]) Try.call50 ⟨OV.p rfl, OV.p rfl, trivial⟩ (chip_all (caps := [ptr b2 0, ptr b3 0]) (C1 := C.deed.mark b) hC Try.call51 (chip_Mark1 (b := 0) (by repeat (first | exact Rd.here rfl | apply Rd.up)) (by repeat (first | exact Rd.here rfl | apply Rd.up)))) rfl ?_
      rintro _ _ ⟨rfl, rfl⟩
      refine WL.val (V.assign (OV.p rfl)) rfl ?_
      refine WL.nil ?_
      refine WC.ret ?_
      have e1 : C.sem.mark b = C.sem.all fun T => { T with marked := fun k => if k = b then true else T.marked k } := by unfold Chip.mark; rw [if_neg (by show ¬ C.up = false; rw [hup]; decide), if_neg (by rw [hc1]; decide)]
      rw [e1]
      exact BodyQ.ret (H' := (if !C.sem.cut || decide (0 < C.keep) then C.deed.mark b else C.deed).A bc :: F) (Res.tmp rfl rfl) (fun w h => h.sel 3 [0] rfl) ⟨_, ite_Ok hC.deed.mark hC.deed, rfl, ite_A rfl rfl, rfl⟩
theorem chip_Burn {bc : Nat} {C : Cw} (hC : C.Ok) (n : Int) {K : World} {F : List Assn} :
    Does Try.prog 24 #[ptr bc 0, .int .i64 n] K (C.A bc :: F)
      (fun v H' => ∃ C' : Cw, C'.Ok ∧ H' = C'.A bc :: F ∧ C'.sem = (C.sem.burn n).1 ∧ v = .int .i64 (C.sem.burn n).2) := by
  refine Does.openC ?_
  dsimp only [Cw.parts, List.cons_append, List.nil_append]
  refine Does.enter Try.func24 rfl Try.ntmps24 rfl ?_
  simp only [env0, Nat.reduceAdd]
  refine WC.seq ?_
  refine WC.region ?_
  refine WL.box (cs := [_]) (OV.p rfl) rfl rfl (fun b2 => ?_)
  refine WL.box (cs := [_]) (OV.p rfl) rfl rfl (fun b3 => ?_)
  refine WL.val (V.assign (OV.p rfl)) rfl ?_
  refine WL.nil ?_
  refine WC.seq ?_
  refine WC.seq ?_
  refine WC.region ?_
  refine WL.val (V.load Try.isAgg25 (OV.p rfl) (fun _ => by repeat (first | exact Rd.here rfl | apply Rd.up))) rfl ?_
  refine WL.call (vs := [_]) Try.call43 ⟨OV.p rfl, trivial⟩ (chip_ready (C := C) (by repeat (first | exact Rds.all | apply Rds.up))) rfl ?_
  rintro _ H0 ⟨rfl, h0⟩
  subst H0
  refine WL.val (V.assign (OV.p rfl)) rfl ?_
  refine WL.nil ?_
  refine WC.seq ?_
  refine WC.region ?_
  refine WL.val (V.move (OV.p rfl)) rfl ?_
  refine WL.val (V.neq (OV.p rfl) (OV.p rfl)) rfl ?_
  refine WL.nil ?_
  refine WC.cond rfl (fun hc0 => ?_) (fun hc0 => ?_)
  · skip
    have hup : C.up = false := by cases h : C.up <;> simp [Chip.ready, Cw.sem, h] at hc0 ⊢
    refine WC.seq ?_
    refine WC.region ?_
    refine WL.val (V.move (OV.p rfl)) rfl ?_
    refine WL.val (V.assign (OV.p rfl)) rfl ?_
    refine WL.nil ?_
    refine WC.ret ?_
    have e1 : C.sem.burn n = (C.sem, 70) := by unfold Chip.burn; rw [if_pos (show C.sem.up = false from hup)]
    rw [e1]
    exact BodyQ.ret (H' := C.A bc :: F) (Res.tmp rfl rfl) (fun w h => Sat.all (l := C.parts bc) h.tail.tail) ⟨C, hC, rfl, rfl, by unfold Chip.ready; rw [if_neg (by show ¬ C.up = true; rw [hup]; decide)]⟩
  · skip
    have hup : C.up = true := by cases h : C.up <;> simp [Chip.ready, Cw.sem, h] at hc0 ⊢
    have hu : ¬ C.sem.up = false := by show ¬ C.up = false; rw [hup]; decide
    refine WC.skip ?_
    refine WC.seq ?_
    refine WC.block ?_
    refine WC.seq ?_
    refine WC.region ?_
    refine WL.val (V.load Try.isAgg3 (OV.p rfl) (fun _ => by repeat (first | exact Rd.here rfl | apply Rd.up))) rfl ?_
    refine WL.val (V.gtr (OV.p rfl) (OV.p rfl)) rfl ?_
    refine WL.val (V.assign (OV.p rfl)) rfl ?_
    refine WL.nil ?_
    refine WC.cond rfl (fun hc1 => ?_) (fun hc1 => ?_)
    · simp only [decide_eq_true_eq, decide_eq_false_iff_not] at hc1
      refine WC.seq ?_
      refine WC.region ?_
      refine WL.val (V.assign (OV.p rfl)) rfl ?_
      refine WL.nil ?_
      refine WC.ret ?_
      have e1 : C.sem.burn n = (C.sem, 1) := by unfold Chip.burn; rw [if_neg hu, if_pos hc1]
      rw [e1]
      exact BodyQ.ret (H' := C.A bc :: F) (Res.tmp rfl rfl) (fun w h => Sat.all (l := C.parts bc) h.tail.tail) ⟨C, hC, rfl, rfl, rfl⟩
    · simp only [decide_eq_true_eq, decide_eq_false_iff_not] at hc1
      refine WC.seq ?_
      refine WC.regionQ (by kernel_rfl) (by kernel_rfl) ?_
      refine WQ.val (V.load Try.isAgg3 (OV.p rfl) (fun _ => by repeat (first | exact Rd.here rfl | apply Rd.up))) rfl ?_
      refine WQ.val (V.load Try.isAgg25 (OV.p rfl) (fun _ => by repeat (first | exact Rd.here rfl | apply Rd.up))) rfl ?_
      refine WQ.val (V.nilCheck (OV.p rfl)) rfl ?_
      refine WQ.val (V.fieldAddr fo77_7 (OV.p rfl)) rfl ?_
      refine WQ.val (V.load Try.isAgg3 (OV.p rfl) (fun _ => by repeat (first | exact Rd.here rfl | apply Rd.up))) rfl ?_
      refine WQ.val (V.lss (OV.p rfl) (OV.p rfl)) rfl ?_
      refine WQ.val (V.assign (OV.p rfl)) rfl ?_
      refine WQ.nil ?_
      refine WC.cond rfl (fun hc2 => ?_) (fun hc2 => ?_)
      · simp only [decide_eq_true_eq, decide_eq_false_iff_not] at hc2
        refine WC.seq ?_
        refine WC.region ?_
        refine WL.val (V.assign (OV.p rfl)) rfl ?_
        refine WL.nil ?_
        refine WC.ret ?_
        have e1 : C.sem.burn n = (C.sem, 74) := by unfold Chip.burn; rw [if_neg hu, if_neg hc1, if_pos (show n < C.sem.fuse from hc2)]
        rw [e1]
        exact BodyQ.ret (H' := C.A bc :: F) (Res.tmp rfl rfl) (fun w h => Sat.all (l := C.parts bc) h.tail.tail) ⟨C, hC, rfl, rfl, rfl⟩
      · simp only [decide_eq_true_eq, decide_eq_false_iff_not] at hc2
        refine WC.skip ?_
        refine WC.seq ?_
        refine WC.region ?_
        refine WL.val (V.load Try.isAgg25 (OV.p rfl) (fun _ => by repeat (first | exact Rd.here rfl | apply Rd.up))) rfl ?_
        refine WL.val (V.makeFunc (us := []) (vs := [_, _]) trivial ⟨OV.p rfl, OV.p rfl, trivial⟩) rfl ?_
        refine WL.sub (Sub.refl _) (fun w h => Sat.all (l := C.parts bc) (h.sel 9 [2, 3, 4, 5, 6, 7, 8, 0, 1] rfl)) ?_
        refine WL.call (vs := [_, _]) Try.call50 ⟨OV.p rfl, OV.p rfl, trivial⟩ (chip_all (caps := [ptr b3 0, ptr b2 0]) (C1 := C.deed.burn n) hC Try.call52 (chip_Burn1 (by repeat (first | exact Rd.here rfl | apply Rd.up)) (by repeat (first | exact Rd.here rfl | apply Rd.up)))) rfl ?_
        rintro _ _ ⟨rfl, rfl⟩
        refine WL.val (V.assign (OV.p rfl)) rfl ?_
        refine WL.nil ?_
        refine WC.ret ?_
        have e1 : C.sem.burn n = C.sem.all fun T => { T with fuse := n } := by unfold Chip.burn; rw [if_neg hu, if_neg hc1, if_neg (show ¬ n < C.sem.fuse from hc2)]
        rw [e1]
        exact BodyQ.ret (H' := (if !C.sem.cut || decide (0 < C.keep) then C.deed.burn n else C.deed).A bc :: F) (Res.tmp rfl rfl) (fun w h => h.sel 3 [0] rfl) ⟨_, ite_Ok hC.deed.burn hC.deed, rfl, ite_A rfl rfl, rfl⟩
end Go.Proofs.Ytgmdagjnigkaaaa
