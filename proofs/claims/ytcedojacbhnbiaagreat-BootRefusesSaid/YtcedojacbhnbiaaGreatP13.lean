import Derived.Test.YtcedojacbhnbiaaGreatP12
import Derived.KernelRfl
namespace Go.Proofs.YtcedojacbhnbiaaGreat
open Go.Sl Go.RowKit
set_option linter.unusedVariables false
set_option linter.unusedSimpArgs false
set_option maxRecDepth 20000
section
variable {bc : Nat} {C : Cw} {K : World} {F : List au}
theorem Gn {b b2 b3 : Nat} {k : Int} (h2 : Rd K F (some ⟨b2, 0, none⟩) (ptr bc 0)) (h3 : Rd K F (some ⟨b3, 0, none⟩) (.int .i64 k)) : Does Tryz.prog 230 #[ptr b2 0, ptr b3 0] K (C.A bc :: F) (fun v H' => H' = (C.mark k).A bc :: F) := by
  refine Does.mq ?_
  dsimp only [Cw.parts, List.cons_append, List.nil_append]
  refine Does.enter Tryz.func230 rfl Tryz.ntmps230 rfl ?_
  simp only [aJ, Nat.reduceAdd]
  refine WC.dY F (by kernel_rfl) ?_
  refine WA.t 0 rfl (V.load Tryz.isAgg27 (OV.p rfl) (fun _ => h2)) ?_
  refine WA.t 1 rfl (V.nilCheck (OV.p rfl)) (WA.t 2 rfl (V.fieldAddr Cn (OV.p rfl)) ?_)
  refine WA.t 4 rfl (V.load Tryz.isAgg3 (OV.p rfl) (fun _ => h3)) ?_
  refine WA.o 3 rfl (WL.ld Tryz.isAgg163 rfl rfl ?_)
  refine WL.nil (WA.o 5 rfl ?_)
  refine WL.nN (k := _) Tryz.underlying163 OA (OV.p rfl) (OV.p rfl) (OV.p rfl) (by repeat (first | exact jT.here | apply jT.up)) ?_
  refine WL.nil (WA.fin ?_)
  exact aj.ret (H' := (C.mark k).A bc :: F) (aL.none rfl) (fun w h => Sat.all (l := (C.mark k).parts bc) (by rw [Az] at h; exact h)) rfl
theorem Gw {b2 b3 : Nat} {k : Int} (h2 : Rd K F (some ⟨b2, 0, none⟩) (ptr bc 0)) (h3 : Rd K F (some ⟨b3, 0, none⟩) (.int .i64 k)) : Does Tryz.prog 160 #[ptr b3 0, ptr b2 0] K (C.A bc :: F) (fun v H' => H' = (C.jY k).A bc :: F) := by
  refine Does.mq ?_
  dsimp only [Cw.parts, List.cons_append, List.nil_append]
  refine Does.enter Tryz.func160 rfl Tryz.ntmps160 rfl ?_
  simp only [aJ, Nat.reduceAdd]
  refine WC.region ?_
  refine WL.val (V.load Tryz.isAgg27 (OV.p rfl) (fun _ => by repeat (first | exact h2 | apply Rd.up))) rfl ?_
  refine WL.val (V.load Tryz.isAgg3 (OV.p rfl) (fun _ => by repeat (first | exact h3 | apply Rd.up))) rfl ?_
  refine WL.nc rfl rfl (WL.val (V.fieldAddr Cq (OV.p rfl)) rfl ?_)
  refine WL.store (cs := [_]) Tryz.sizeOf3 (OV.p rfl) (OV.p rfl) rfl rfl rfl (by repeat (first | exact aQ.here rfl rfl | apply aQ.up)) ?_
  refine WL.nil ?_
  exact aj.ret (H' := (C.jY k).A bc :: F) (aL.none rfl) (fun w h => Sat.all (l := (C.jY k).parts bc) h) rfl
theorem EH (hC : C.Ok) {f : FuncId} {caps : List Value} {C1 : Cw} (hf : eP Tryz.prog f) (hdo : Does Tryz.prog f caps.toArray K (C.deed.A bc :: F) (fun v H' => H' = C1.A bc :: F)) :
    Does Tryz.prog 159 #[ptr bc 0, .func (.func f) #[] caps.toArray] K (C.A bc :: F) (fun v H' => v = .int .i64 (ak.after C.sem.cut) ∧ H' = (if !C.sem.cut || decide (0 < C.keep) then C1 else C.deed).A bc :: F) := by
  refine Does.mq ?_
  dsimp only [Cw.parts, List.cons_append, List.nil_append]
  refine Does.enter Tryz.func159 rfl Tryz.ntmps159 rfl ?_
  simp only [aJ, Nat.reduceAdd]
  refine WC.sr (WL.sg rfl rfl (WL.nil (WC.sr (WL.mv rfl rfl (WL.call (vs := [_]) Tryz.call224 ⟨OV.p rfl, trivial⟩ (vg (C := C) hC.left) rfl ?_)))))
  rintro _ _ ⟨rfl, rfl⟩
  refine WL.sg rfl rfl (WL.nil (WC.seq (WC.sr (WL.mv rfl rfl (WL.val (V.not (OV.p rfl)) rfl (WL.mv rfl rfl (WL.ah (oj := _) rfl rfl rfl GC.f (V.move (OV.p rfl)) rfl (WL.ah (oj := _) rfl rfl rfl GC.f (V.nilCheck (OV.g rfl id)) rfl (WL.ah (oj := _) rfl rfl rfl GC.f (V.fieldAddr xW (OV.g rfl id)) rfl ?_)))))))))
  refine WL.ah (oj := _) rfl rfl rfl GC.f (V.load Tryz.isAgg3 (OV.g rfl id) (fun _ => by repeat (first | exact Rd.here rfl | apply Rd.up))) rfl ?_
  refine WL.ah (oj := _) rfl rfl rfl GC.f (V.gtr (OV.g rfl id) (OV.p rfl)) rfl (WL.val (V.aS (OV.p rfl) (OV.g rfl id)) rfl (WL.nil ?_))
  refine WC.cond rfl (fun hc0 => ?_) (fun hc0 => ?_)
  ·skip
   have h0 := hc0
   refine WC.region (WL.mv rfl rfl ?_)
   refine WL.sub (Sub.refl _) (fun w h => Sat.all (l := C.deed.parts bc) h) ?_
   refine WL.kV (first := []) (captured := caps) (vs := []) hf (OV.p rfl) trivial hdo rfl ?_
   rintro _ _ rfl
   refine WL.nil (WC.sr (WL.mv rfl rfl (WL.mv rfl rfl (WL.call (vs := [_, _]) Tryz.call225 ⟨OV.p rfl, OV.p rfl, trivial⟩ (jl _ _) rfl ?_))))
   rintro _ H0 ⟨rfl, h0⟩
   subst H0
   refine WL.sg rfl rfl (WL.nil (WC.ret ?_))
   first
   | exact aj.ret (H' := C1.A bc :: F) (aL.tmp rfl rfl) (fun w h => h) ⟨rfl, by rw [if_pos (show (!C.sem.cut || decide (0 < C.keep)) = true from h0)]⟩
   | exact aj.ret (H' := C.deed.A bc :: F) (aL.tmp rfl rfl) (fun w h => Sat.all (l := C.deed.parts bc) h) ⟨rfl, by rw [if_neg (show ¬ (!C.sem.cut || decide (0 < C.keep)) = true by rw [show (!C.sem.cut || decide (0 < C.keep)) = false from h0]; decide)]⟩
  ·skip
   have h0 := hc0
   refine WC.skip (WC.sr (WL.mv rfl rfl (WL.mv rfl rfl (WL.call (vs := [_, _]) Tryz.call225 ⟨OV.p rfl, OV.p rfl, trivial⟩ (jl _ _) rfl ?_))))
   rintro _ H0 ⟨rfl, h0⟩
   subst H0
   refine WL.sg rfl rfl (WL.nil (WC.ret ?_))
   first
   | exact aj.ret (H' := C1.A bc :: F) (aL.tmp rfl rfl) (fun w h => h) ⟨rfl, by rw [if_pos (show (!C.sem.cut || decide (0 < C.keep)) = true from h0)]⟩
   | exact aj.ret (H' := C.deed.A bc :: F) (aL.tmp rfl rfl) (fun w h => Sat.all (l := C.deed.parts bc) h) ⟨rfl, by rw [if_neg (show ¬ (!C.sem.cut || decide (0 < C.keep)) = true by rw [show (!C.sem.cut || decide (0 < C.keep)) = false from h0]; decide)]⟩
end
theorem MW {c : Bool} {C1 C2 : Cw} {S1 S2 : ak} (h1 : C1.sem = S1) (h2 : C2.sem = S2) : (if c then C1 else C2).sem = if c then S1 else S2 := by cases c <;> simp [h1, h2]
theorem Kn {c : Bool} {C1 C2 : Cw} (h1 : C1.Ok) (h2 : C2.Ok) : (if c then C1 else C2).Ok := by cases c <;> simp [h1, h2]
theorem Iq {bc : Nat} {C : Cw} (hC : C.Ok) (b : Int) {K : World} {F : List au} :
    Does Tryz.prog 173 #[ptr bc 0, .int .i64 b] K (C.A bc :: F)
      (fun v H' => ∃ C' : Cw, C'.Ok ∧ H' = C'.A bc :: F ∧ C'.sem = (C.sem.mark b).1 ∧ v = .int .i64 (C.sem.mark b).2) := by
  refine Does.mq ?_
  dsimp only [Cw.parts, List.cons_append, List.nil_append]
  refine Does.enter Tryz.func173 rfl Tryz.ntmps173 rfl ?_
  simp only [aJ, Nat.reduceAdd]
  refine WC.sr ?_
  refine WL.box (cs := [_]) (OV.p rfl) rfl rfl (fun b2 => ?_)
  refine WL.box (cs := [_]) (OV.p rfl) rfl rfl (fun b3 => ?_)
  refine WL.sg rfl rfl (WL.nil (WC.seq (WC.sr (WL.ld Tryz.isAgg27 rfl rfl ?_))))
  refine WL.call (vs := [_]) Tryz.call93 ⟨OV.p rfl, trivial⟩ (fM (C := C) (by repeat (first | exact aT.all | apply aT.up))) rfl ?_
  rintro _ H0 ⟨rfl, h0⟩
  subst H0
  refine WL.sg rfl rfl (WL.nil (WC.sr (WL.mv rfl rfl (WL.val (V.neq (OV.p rfl) (OV.p rfl)) rfl (WL.nil ?_)))))
  refine WC.cond rfl (fun hc0 => ?_) (fun hc0 => ?_)
  ·skip
   have hup : C.up = false := by cases h : C.up <;> simp [ak.ready, Cw.sem, h] at hc0 ⊢
   refine WC.sr (WL.mv rfl rfl (WL.sg rfl rfl (WL.nil (WC.ret ?_))))
   have e1 : C.sem.mark b = (C.sem, 70) := by unfold ak.mark; rw [if_pos (show C.sem.up = false from hup)]
   rw [e1]
   exact aj.ret (H' := C.A bc :: F) (aL.tmp rfl rfl) (fun w h => Sat.all (l := C.parts bc) h.tail.tail) ⟨C, hC, rfl, rfl, by unfold ak.ready; rw [if_neg (by show ¬ C.up = true; rw [hup]; decide)]⟩
  ·skip
   have hup : C.up = true := by cases h : C.up <;> simp [ak.ready, Cw.sem, h] at hc0 ⊢
   refine WC.skip (WC.seq (WC.sr (WL.ld Tryz.isAgg27 rfl rfl ?_)))
   refine WL.ld Tryz.isAgg3 rfl rfl ?_
   refine WL.call (vs := [_, _]) Tryz.call97 ⟨OV.p rfl, OV.p rfl, trivial⟩ (mO (C := C) b (by repeat (first | exact aT.all | apply aT.up))) rfl ?_
   rintro _ H0 ⟨rfl, h0⟩
   subst H0
   refine WL.val (V.not (OV.p rfl)) rfl (WL.nil ?_)
   refine WC.cond rfl (fun hc1 => ?_) (fun hc1 => ?_)
   ·simp only [decide_eq_true_eq, decide_eq_false_iff_not, Bool.and_eq_true, Bool.or_eq_true, Bool.and_eq_false_iff, Bool.or_eq_false_iff, Bool.not_eq_true', Bool.not_eq_false', Bool.not_eq_true, Bool.not_eq_false, decide_eq_true_eq, decide_eq_false_iff_not] at hc1
    refine WC.sr (WL.sg rfl rfl (WL.nil (WC.ret ?_)))
    have e1 : C.sem.mark b = (C.sem, 1) := by unfold ak.mark; rw [if_neg (by show ¬ C.up = false; rw [hup]; decide), if_pos hc1]
    rw [e1]
    exact aj.ret (H' := C.A bc :: F) (aL.tmp rfl rfl) (fun w h => Sat.all (l := C.parts bc) h.tail.tail) ⟨C, hC, rfl, rfl, rfl⟩
   ·simp only [decide_eq_true_eq, decide_eq_false_iff_not, Bool.and_eq_true, Bool.or_eq_true, Bool.and_eq_false_iff, Bool.or_eq_false_iff, Bool.not_eq_true', Bool.not_eq_false', Bool.not_eq_true, Bool.not_eq_false, decide_eq_true_eq, decide_eq_false_iff_not] at hc1
    refine WC.skip (WC.sr (WL.ld Tryz.isAgg27 rfl rfl ?_))
    refine WL.val (V.makeFunc (us := []) (vs := [_, _]) trivial ⟨OV.p rfl, OV.p rfl, trivial⟩) rfl ?_
    refine WL.sub (Sub.refl _) (fun w h => Sat.all (l := C.parts bc) (h.sel 9 [2, 3, 4, 5, 6, 7, 8, 0, 1] rfl)) ?_
    refine WL.call (vs := [_, _]) Tryz.call159 ⟨OV.p rfl, OV.p rfl, trivial⟩ (EH (caps := [ptr b2 0, ptr b3 0]) (C1 := C.deed.mark b) hC Tryz.call230 (Gn (b := 0) (by repeat (first | exact Rd.here rfl | apply Rd.up)) (by repeat (first | exact Rd.here rfl | apply Rd.up)))) rfl ?_
    rintro _ _ ⟨rfl, rfl⟩
    refine WL.sg rfl rfl (WL.nil (WC.ret ?_))
    have e1 : C.sem.mark b = C.sem.all fun T => { T with marked := fun k => if k = b then true else T.marked k } := by unfold ak.mark; rw [if_neg (by show ¬ C.up = false; rw [hup]; decide), if_neg (by rw [hc1]; decide)]
    rw [e1]
    exact aj.ret (H' := (if !C.sem.cut || decide (0 < C.keep) then C.deed.mark b else C.deed).A bc :: F) (aL.tmp rfl rfl) (fun w h => h.sel 3 [0] rfl) ⟨_, Kn hC.deed.mark hC.deed, rfl, MW rfl rfl, rfl⟩
theorem Jp {bc : Nat} {C : Cw} (hC : C.Ok) (n : Int) {K : World} {F : List au} :
    Does Tryz.prog 95 #[ptr bc 0, .int .i64 n] K (C.A bc :: F)
      (fun v H' => ∃ C' : Cw, C'.Ok ∧ H' = C'.A bc :: F ∧ C'.sem = (C.sem.jY n).1 ∧ v = .int .i64 (C.sem.jY n).2) := by
  refine Does.mq ?_
  dsimp only [Cw.parts, List.cons_append, List.nil_append]
  refine Does.enter Tryz.func95 rfl Tryz.ntmps95 rfl ?_
  simp only [aJ, Nat.reduceAdd]
  refine WC.sr ?_
  refine WL.box (cs := [_]) (OV.p rfl) rfl rfl (fun b2 => ?_)
  refine WL.box (cs := [_]) (OV.p rfl) rfl rfl (fun b3 => ?_)
  refine WL.sg rfl rfl (WL.nil (WC.seq (WC.sr (WL.ld Tryz.isAgg27 rfl rfl ?_))))
  refine WL.call (vs := [_]) Tryz.call93 ⟨OV.p rfl, trivial⟩ (fM (C := C) (by repeat (first | exact aT.all | apply aT.up))) rfl ?_
  rintro _ H0 ⟨rfl, h0⟩
  subst H0
  refine WL.sg rfl rfl (WL.nil (WC.sr (WL.mv rfl rfl (WL.val (V.neq (OV.p rfl) (OV.p rfl)) rfl (WL.nil ?_)))))
  refine WC.cond rfl (fun hc0 => ?_) (fun hc0 => ?_)
  ·skip
   have hup : C.up = false := by cases h : C.up <;> simp [ak.ready, Cw.sem, h] at hc0 ⊢
   refine WC.sr (WL.mv rfl rfl (WL.sg rfl rfl (WL.nil (WC.ret ?_))))
   have e1 : C.sem.jY n = (C.sem, 70) := by unfold ak.jY; rw [if_pos (show C.sem.up = false from hup)]
   rw [e1]
   exact aj.ret (H' := C.A bc :: F) (aL.tmp rfl rfl) (fun w h => Sat.all (l := C.parts bc) h.tail.tail) ⟨C, hC, rfl, rfl, by unfold ak.ready; rw [if_neg (by show ¬ C.up = true; rw [hup]; decide)]⟩
  ·skip
   have hup : C.up = true := by cases h : C.up <;> simp [ak.ready, Cw.sem, h] at hc0 ⊢
   have hu : ¬ C.sem.up = false := by show ¬ C.up = false; rw [hup]; decide
   refine WC.skip (WC.seq (WC.block (WC.sr (WL.ld Tryz.isAgg3 rfl rfl ?_))))
   refine WL.val (V.gtr (OV.p rfl) (OV.p rfl)) rfl (WL.sg rfl rfl (WL.nil ?_))
   refine WC.cond rfl (fun hc1 => ?_) (fun hc1 => ?_)
   ·simp only [decide_eq_true_eq, decide_eq_false_iff_not] at hc1
    refine WC.sr (WL.sg rfl rfl (WL.nil (WC.ret ?_)))
    have e1 : C.sem.jY n = (C.sem, 1) := by unfold ak.jY; rw [if_neg hu, if_pos hc1]
    rw [e1]
    exact aj.ret (H' := C.A bc :: F) (aL.tmp rfl rfl) (fun w h => Sat.all (l := C.parts bc) h.tail.tail) ⟨C, hC, rfl, rfl, rfl⟩
   ·simp only [decide_eq_true_eq, decide_eq_false_iff_not] at hc1
    refine WC.seq ?_
    refine WC.fK (by kernel_rfl) (by kernel_rfl) ?_
    refine WQ.val (V.load Tryz.isAgg3 (OV.p rfl) (fun _ => by repeat (first | exact Rd.here rfl | apply Rd.up))) rfl ?_
    refine WQ.val (V.load Tryz.isAgg27 (OV.p rfl) (fun _ => by repeat (first | exact Rd.here rfl | apply Rd.up))) rfl ?_
    refine WQ.val (V.nilCheck (OV.p rfl)) rfl (WQ.val (V.fieldAddr Cq (OV.p rfl)) rfl ?_)
    refine WQ.val (V.load Tryz.isAgg3 (OV.p rfl) (fun _ => by repeat (first | exact Rd.here rfl | apply Rd.up))) rfl ?_
    refine WQ.val (V.lss (OV.p rfl) (OV.p rfl)) rfl (WQ.val (V.assign (OV.p rfl)) rfl (WQ.nil ?_))
    refine WC.cond rfl (fun hc2 => ?_) (fun hc2 => ?_)
    ·simp only [decide_eq_true_eq, decide_eq_false_iff_not] at hc2
     refine WC.sr (WL.sg rfl rfl (WL.nil (WC.ret ?_)))
     have e1 : C.sem.jY n = (C.sem, 74) := by unfold ak.jY; rw [if_neg hu, if_neg hc1, if_pos (show n < C.sem.fuse from hc2)]
     rw [e1]
     exact aj.ret (H' := C.A bc :: F) (aL.tmp rfl rfl) (fun w h => Sat.all (l := C.parts bc) h.tail.tail) ⟨C, hC, rfl, rfl, rfl⟩
    ·simp only [decide_eq_true_eq, decide_eq_false_iff_not] at hc2
     refine WC.skip (WC.sr (WL.ld Tryz.isAgg27 rfl rfl ?_))
     refine WL.val (V.makeFunc (us := []) (vs := [_, _]) trivial ⟨OV.p rfl, OV.p rfl, trivial⟩) rfl ?_
     refine WL.sub (Sub.refl _) (fun w h => Sat.all (l := C.parts bc) (h.sel 9 [2, 3, 4, 5, 6, 7, 8, 0, 1] rfl)) ?_
     refine WL.call (vs := [_, _]) Tryz.call159 ⟨OV.p rfl, OV.p rfl, trivial⟩ (EH (caps := [ptr b3 0, ptr b2 0]) (C1 := C.deed.jY n) hC Tryz.call160 (Gw (by repeat (first | exact Rd.here rfl | apply Rd.up)) (by repeat (first | exact Rd.here rfl | apply Rd.up)))) rfl ?_
     rintro _ _ ⟨rfl, rfl⟩
     refine WL.sg rfl rfl (WL.nil (WC.ret ?_))
     have e1 : C.sem.jY n = C.sem.all fun T => { T with fuse := n } := by unfold ak.jY; rw [if_neg hu, if_neg hc1, if_neg (show ¬ n < C.sem.fuse from hc2)]
     rw [e1]
     exact aj.ret (H' := (if !C.sem.cut || decide (0 < C.keep) then C.deed.jY n else C.deed).A bc :: F) (aL.tmp rfl rfl) (fun w h => h.sel 3 [0] rfl) ⟨_, Kn hC.deed.jY hC.deed, rfl, MW rfl rfl, rfl⟩
def wD (x k : Int) : Int := ((x.toNat ^^^ 2 ^ k.toNat : Nat) : Int)
def yB (ys : List Int) (i : Int) : List Int := ys.set (i / 8).toNat (wD (ys.getD (i / 8).toNat 0) (i % 8))
def turn (xs l : List Int) : List Int := l.foldl yB xs
theorem yA {x k : Int} (hx : 0 ≤ x ∧ x < 256) (hk : 0 ≤ k ∧ k < 8) : bitsOf .xor .u8 x (IntKind.u8.wrap (1 * 2 ^ (min k.toNat IntKind.u8.bits))) = wD x k ∧ 0 ≤ wD x k ∧ wD x k < 256 := by
  have h : ((List.range 256).all fun a => (List.range 8).all fun j => decide (bitsOf .xor .u8 (a : Int) (IntKind.u8.wrap (1 * 2 ^ (min j IntKind.u8.bits))) = wD a j) && decide (0 ≤ wD a j) && decide (wD a j < 256)) = true := by kernel_rfl
  have h1 := List.all_eq_true.1 h x.toNat (List.mem_range.2 (by omega))
  have h2 := List.all_eq_true.1 h1 k.toNat (List.mem_range.2 (by omega))
  simp only [Bool.and_eq_true, decide_eq_true_eq] at h2
  rw [show ((x.toNat : Nat) : Int) = x by omega, show ((k.toNat : Nat) : Int) = k by omega] at h2
  exact ⟨h2.1.1, h2.1.2, h2.2⟩
theorem uD (ys : List Int) (i : Int) : (yB ys i).length = ys.length := by simp [yB]
theorem iK : ∀ (l xs : List Int), (turn xs l).length = xs.length
  | [], _ => rfl
  | i :: l, xs => by rw [turn, List.foldl_cons, ← turn, iK l, uD]
theorem Im {ys : List Int} {i : Int} (h : aZ ys) (hi : 0 ≤ i ∧ i < 8 * ys.length) : aZ (yB ys i) := fun x hx => by
  rcases List.mem_or_eq_of_mem_set hx with h1 | rfl
  · exact h x h1
  · have hlt : (i / 8).toNat < ys.length := by omega
    rw [List.getD, List.getElem?_eq_getElem hlt]
    exact (yA (h _ (List.getElem_mem hlt)) (by omega)).2
theorem xX : ∀ {l xs : List Int}, aZ xs → (∀ i ∈ l, 0 ≤ i ∧ i < 8 * (xs.length : Int)) → aZ (turn xs l)
  | [], _, h, _ => h
  | i :: l, xs, h, hi => by
    rw [turn, List.foldl_cons, ← turn]
    exact xX (Im h (hi i (.head _))) (fun j hj => by rw [uD]; exact hi j (.tail _ hj))
theorem Iz {xs l : List Int} {j : Nat} (h : j < l.length) : turn xs (l.take (j + 1)) = yB (turn xs (l.take j)) (l.getD j 0) := by
  rw [List.take_add_one, List.getElem?_eq_getElem h, turn, turn, List.foldl_append]
  simp [List.getD, h]
theorem Ay {A B : Option Addr} {m q cap cap' : Nat} {xs l : List Int} (hx : aZ xs) {K : World} {F : List au} (hs : Seq K F A m 1 (ints .u8 xs)) (hl : Seq K F B q 1 (ints .i64 l)) (hi : ∀ i ∈ l, 0 ≤ i ∧ i < 8 * (xs.length : Int)) (hmx : m ≤ 100000) (hq : q ≤ maxLen) :
    Does Tryz.prog 223 #[.slice A m cap, .slice B q cap'] K F (fun v H' => ∃ b, v = .tuple #[.slice (some ⟨b, 0, none⟩) m m, .int .i64 0] ∧ H' = Cells b 5 (ints .u8 (turn xs l)) :: F) := by
  have hxl : xs.length = m := by simpa [ints] using hs.len
  have hll : l.length = q := by simpa [ints] using hl.len
  have hq' : q ≤ 9223372036854775807 := by simpa [maxLen] using hq
  refine Does.enter Tryz.func223 rfl Tryz.ntmps223 rfl ?_
  simp only [aJ, Nat.reduceAdd]
  refine WC.sr (WL.sg rfl rfl (WL.sg rfl rfl (WL.nil (WC.sr (WL.mv rfl rfl (WL.val (V.len (t := 34) Tryz.runUnderlying34 (OV.p rfl)) rfl ?_))))))
  refine WL.l7 (m := m) Tryz.underlying34 vP (OV.p rfl) (OV.p rfl) rfl rfl (by omega) rfl rfl rfl (fun b6 => ?_)
  refine WL.sg rfl rfl (WL.nil (WC.sr (WL.mv rfl rfl (WL.mv rfl rfl ?_))))
  refine WL.wY dB (OV.p rfl) (OV.p rfl) (by repeat (first | exact hs | apply Seq.up)) (Nat.le_refl _) (ow _ _) (aQ.front (by simp [ints]; omega)) rfl ?_
  refine WL.nil (WC.seq (WC.sr (WL.mv rfl rfl (WL.val (V.len (t := 124) Tryz.runUnderlying124 (OV.p rfl)) rfl (WL.mv rfl rfl (WL.nil (WC.block ?_)))))))
  refine WC.loop (σ := Nat) (fun j => [(0, .slice A m cap), (6, .slice (some ⟨b6, 0, none⟩) m m), (15, .slice B q cap'), (16, .int .i64 (q : Int)), (17, .int .i64 (j : Int))]) (fun j => Cells b6 5 (ints .u8 (turn xs (l.take j))) :: F) (fun j => j ≤ q) (fun j => q - j) 0 (Nat.zero_le _) (.cons rfl (.cons rfl (.cons rfl (.cons rfl (.cons rfl (.nil _)))))) (fun w h => Sat.aV h (by rw [List.drop_eq_nil_of_le (by simp [ints]; omega)]; simp [turn])) ?_
  rintro j hj
  refine WC.sr (WL.val (V.lss (OV.p rfl) (OV.p rfl)) rfl (WL.nil (WC.seq ?_)))
  refine WC.cond rfl (fun hc0 => ?_) (fun hc0 => ?_)
  ·try simp only [decide_eq_true_eq, decide_eq_false_iff_not, Bool.and_eq_true, Bool.or_eq_true, Bool.and_eq_false_iff, Bool.or_eq_false_iff, Bool.not_eq_true', Bool.not_eq_false', Bool.not_eq_true, Bool.not_eq_false, Int.not_lt, Int.not_le] at hc0
   refine WC.skip (WC.seq (WC.block (WC.sr ?_)))
   refine WL.val (V.fu bO (OV.p rfl) (OV.p rfl) (fun hc => by omega) (fun hc => by repeat (first | exact Seq.fB hl (by omega) | apply Rd.up))) rfl ?_
   refine WL.val (V.load Tryz.isAgg3 (OV.p rfl) (fun hc => by repeat (first | exact Seq.fB hl (by omega) | apply Rd.up))) rfl ?_
   refine WL.sg rfl rfl (WL.nil (WC.seq (WC.seq ?_)))
   have hjq : j < q := by omega
   have hij : 0 ≤ l.getD j 0 ∧ l.getD j 0 < 8 * (xs.length : Int) := by
     rw [List.getD, List.getElem?_eq_getElem (by omega)]
     exact hi _ (List.getElem_mem _)
   rw [show (j : Int).toNat = j by omega]
   refine WC.region (WL.mv rfl rfl (WL.val (V.lss (OV.p rfl) (OV.p rfl)) rfl (WL.mv rfl rfl (WL.ah (oj := _) rfl rfl rfl GC.f (V.move (OV.p rfl)) rfl (WL.ah (oj := _) rfl rfl rfl GC.f (V.move (OV.p rfl)) rfl (WL.ah (oj := _) rfl rfl rfl GC.f (V.len (t := 34) Tryz.runUnderlying34 (OV.g rfl id)) rfl ?_))))))
   refine WL.ah (oj := _) rfl rfl rfl GC.f (V.jQ (OV.p rfl) (OV.g rfl id) (fun hc => by first | omega | (simp at hc; omega))) rfl ?_
   refine WL.ah (oj := _) rfl rfl rfl GC.f (V.geq (OV.g rfl id) (OV.g rfl id)) rfl (WL.val (V.aS (OV.p rfl) (OV.g rfl id)) rfl (WL.nil ?_))
   refine WC.aM rfl ((by simp only [Bool.or_eq_false_iff, decide_eq_false_iff_not]; omega)) ?_
   refine WC.skip ?_
   refine WC.dY F (by kernel_rfl) ?_
   refine WA.t 0 rfl (V.move (OV.p rfl)) (WA.t 1 rfl (V.move (OV.p rfl)) ?_)
   refine WA.t 2 rfl (V.rR (OV.p rfl) (OV.p rfl) (fun hc => by omega)) ?_
   refine WA.t 3 rfl (V.bP dB (OV.p rfl) (OV.p rfl) (fun hc => by omega)) ?_
   refine WA.t 5 rfl (V.move (OV.p rfl)) ?_
   refine WA.t 6 rfl (V.qH (OV.p rfl) (OV.p rfl) (fun hc => by first | omega | (simp at hc; omega))) ?_
   refine WA.t 7 rfl (V.shl (OV.p rfl) (OV.p rfl) (by omega)) ?_
   refine WA.o 4 rfl ?_
   refine WL.val (V.load Tryz.isAgg5 (OV.p rfl) (fun _ => Rd.here (v := .int .u8 ((turn xs (l.take j)).getD (l.getD j 0 / 8).toNat 0)) (by rw [Nat.zero_add, Nat.mul_one]; exact mD _ _ (by rw [iK]; omega)))) rfl ?_
   refine WL.nil (WA.t 8 rfl (V.xor (OV.p rfl) (OV.p rfl)) ?_)
   refine WA.t 9 rfl (V.bP dB (OV.p rfl) (OV.p rfl) (fun hc => by first | omega | (simp at hc; omega))) ?_
   refine WA.o 10 rfl ?_
   refine WL.store (cs := [_]) Tryz.sizeOf5 (OV.p rfl) (OV.p rfl) rfl rfl rfl (aQ.at_ (by rw [Nat.zero_add, Nat.mul_one, bK, iK]; omega)) ?_
   refine WL.nil (WA.fin (WC.region (WL.ad rfl rfl rfl ?_)))
   refine WL.mv rfl rfl (WL.nil ?_)
   refine ⟨rfl, ?_⟩
   refine ⟨j + 1, (by show j + 1 ≤ q; omega), (by show q - (j + 1) < q - j; omega), .cons rfl (.cons rfl (.cons rfl (.cons rfl (.cons (look_eq rfl (by simp)) (.nil _))))), fun w h => Sat.aV h ?_⟩
   have hib := xX (xs := xs) (l := l.take j) hx (fun i h => hi i (List.mem_of_mem_take h))
   have hlt : (l.getD j 0 / 8).toNat < (turn xs (l.take j)).length := by rw [iK]; omega
   rw [Iz (by omega), Nat.zero_add, Nat.mul_one, (yA (x := (turn xs (l.take j)).getD (l.getD j 0 / 8).toNat 0) (by rw [List.getD, List.getElem?_eq_getElem hlt]; exact hib _ (List.getElem_mem hlt)) (by omega)).1, ints_set]
   rfl
  ·try simp only [decide_eq_true_eq, decide_eq_false_iff_not, Bool.and_eq_true, Bool.or_eq_true, Bool.and_eq_false_iff, Bool.or_eq_false_iff, Bool.not_eq_true', Bool.not_eq_false', Bool.not_eq_true, Bool.not_eq_false, Int.not_lt, Int.not_le] at hc0
   refine WC.exit (WC.sr (WL.mv rfl rfl (WL.sg rfl rfl (WL.sg rfl rfl (WL.nil (WC.ret ?_))))))
   obtain rfl : j = q := by omega
   refine aj.ret (H' := Cells b6 _ _ :: F) (aL.dJ rfl rfl rfl) (fun w h => Sat.aV h ?_) ⟨b6, rfl, rfl⟩
   rw [List.take_of_length_le (by omega)]
def ak.dP (S : ak) (b p : Int) : Int := if S.up = false then 70 else if S.page b p = false then 1 else 0
def ak.reads (S : ak) (b p : Int) : List Int := turn ((S.pages (b, p)).getD S.blank) ((S.wrong (b, p)).getD [])
theorem Cw.Ok.Bu {C : Cw} (hC : C.Ok) (b p : Int) : (C.sem.reads b p).length = C.g.raw.toNat := by
  have hr := Geo.lX hC.aF
  unfold ak.reads
  rw [iK]
  have h1 : C.sem.pages (b, p) = (C.pages (b, p)).map (·.2.2) := rfl
  rw [h1]
  cases h : C.pages (b, p) with
  | none => exact List.length_replicate
  | some e => have := (hC.page _ e h).2.1; simp; omega
theorem Cw.Ok.DZ {C : Cw} (hC : C.Ok) (b p : Int) : aZ ((C.sem.pages (b, p)).getD C.sem.blank) := by
  have h1 : C.sem.pages (b, p) = (C.pages (b, p)).map (·.2.2) := rfl
  rw [h1]
  cases h : C.pages (b, p) with
  | none => exact aZ.uQ (by omega)
  | some e => exact (hC.page _ e h).2.2
theorem Cw.Ok.JC {C : Cw} (hC : C.Ok) (b p : Int) : (((C.sem.pages (b, p)).getD C.sem.blank).length : Int) = C.g.raw := by
  have hr := Geo.lX hC.aF
  have h1 : C.sem.pages (b, p) = (C.pages (b, p)).map (·.2.2) := rfl
  rw [h1]
  cases h : C.pages (b, p) with
  | none =>
    show ((List.replicate C.g.raw.toNat 255).length : Int) = C.g.raw
    rw [List.length_replicate]; omega
  | some e => exact (hC.page _ e h).2.1
theorem Cw.Ok.DI {C : Cw} (hC : C.Ok) (b p : Int) : ∃ Aw cw lw, (C.jf (b, p)).getD (.slice none 0 0) = .slice Aw lw.length cw ∧ eB C.own Aw lw.length 1 (ints .i64 lw) ∧ (∀ i ∈ lw, 0 ≤ i ∧ i < 8 * C.g.raw) ∧ lw = (C.sem.wrong (b, p)).getD [] ∧ lw.length ≤ maxLen := by
  have h1 : C.sem.wrong (b, p) = (C.wrong (b, p)).map (·.2.2) := rfl
  have h2 : C.jf (b, p) = (C.wrong (b, p)).map Cw.jo := rfl
  rw [h1, h2]
  cases h : C.wrong (b, p) with
  | none => exact ⟨none, 0, [], rfl, eB.nil, fun i hi => by simp at hi, rfl, Nat.zero_le _⟩
  | some e => have := hC.wr _ e h; exact ⟨e.1, e.2.1, e.2.2, rfl, this.1, this.2.1, rfl, this.2.2⟩
theorem Bd {bc : Nat} {C : Cw} (hC : C.Ok) (b p : Int) {K : World} {F : List au} :
    Does Tryz.prog 155 #[ptr bc 0, .int .i64 b, .int .i64 p] K (C.A bc :: F)
      (fun v H' => (C.sem.dP b p = 0 ∧ ∃ bo, v = .tuple #[.slice (some ⟨bo, 0, none⟩) C.g.raw.toNat C.g.raw.toNat, .int .i64 0] ∧ H' = Cells bo 5 (ints .u8 (C.sem.reads b p)) :: C.A bc :: F) ∨
        (C.sem.dP b p ≠ 0 ∧ v = .tuple #[.slice none 0 0, .int .i64 (C.sem.dP b p)] ∧ H' = C.A bc :: F)) := by
  have hr := Geo.lX hC.aF
  obtain ⟨Aw, cw, lw, hw1, hw2, hw3, hw4, hwl⟩ := hC.DI b p
  have hbl := hC.JC b p
  have hbb := hC.DZ b p
  have hre : turn ((C.sem.pages (b, p)).getD C.sem.blank) lw = C.sem.reads b p := by unfold ak.reads; rw [hw4]
  refine Does.mq ?_
  dsimp only [Cw.parts, List.cons_append, List.nil_append]
  cases hpg : C.pages (b, p) with
  | none =>
    have hb0 : (C.sem.pages (b, p)).getD C.sem.blank = List.replicate C.g.raw.toNat 255 := by
      rw [show C.sem.pages (b, p) = (C.pages (b, p)).map (·.2.2) from rfl, hpg]; rfl
    rw [hb0] at hre hbl hbb
    refine Does.enter Tryz.func155 rfl Tryz.ntmps155 rfl ?_
    simp only [aJ, Nat.reduceAdd]
    refine WC.sr (WL.sg rfl rfl (WL.sg rfl rfl (WL.nil (WC.seq (WC.sr (WL.mv rfl rfl ?_))))))
    refine WL.call (vs := [_]) Tryz.call93 ⟨OV.p rfl, trivial⟩ (fM (C := C) (by repeat (first | exact aT.all | apply aT.up))) rfl ?_
    rintro _ H0 ⟨rfl, h0⟩
    subst H0
    refine WL.sg rfl rfl (WL.nil (WC.sr (WL.mv rfl rfl (WL.val (V.neq (OV.p rfl) (OV.p rfl)) rfl (WL.nil ?_)))))
    refine WC.cond rfl (fun hc0 => ?_) (fun hc0 => ?_)
    ·skip
     have hup : C.up = false := by cases h : C.up <;> simp [ak.ready, Cw.sem, h] at hc0 ⊢
     refine WC.sr (WL.mv rfl rfl (WL.sg rfl rfl (WL.sg rfl rfl (WL.nil (WC.ret ?_)))))
     have e1 : C.sem.dP b p = 70 := by unfold ak.dP; rw [if_pos (show C.sem.up = false from hup)]
     have e2 : C.sem.ready = 70 := by unfold ak.ready; rw [if_neg (by show ¬ C.up = true; rw [hup]; decide)]
     rw [e2]
     exact aj.ret (H' := C.A bc :: F) (aL.dJ rfl rfl rfl) (fun w h => Sat.all (l := C.parts bc) h) (.inr ⟨by rw [e1]; decide, by rw [e1], rfl⟩)
    ·skip
     have hup : C.up = true := by cases h : C.up <;> simp [ak.ready, Cw.sem, h] at hc0 ⊢
     refine WC.skip (WC.seq (WC.sr (WL.mv rfl rfl (WL.mv rfl rfl (WL.mv rfl rfl ?_)))))
     refine WL.call (vs := [_, _, _]) Tryz.call221 ⟨OV.p rfl, OV.p rfl, OV.p rfl, trivial⟩ (vw (C := C) b p (by repeat (first | exact aT.all | apply aT.up))) rfl ?_
     rintro _ H0 ⟨rfl, h0⟩
     subst H0
     refine WL.val (V.not (OV.p rfl)) rfl (WL.nil ?_)
     refine WC.cond rfl (fun hc1 => ?_) (fun hc1 => ?_)
     ·simp only [decide_eq_true_eq, decide_eq_false_iff_not, Bool.and_eq_true, Bool.or_eq_true, Bool.and_eq_false_iff, Bool.or_eq_false_iff, Bool.not_eq_true', Bool.not_eq_false', Bool.not_eq_true, Bool.not_eq_false] at hc1
      have h1 := hc1
      refine WC.sr (WL.sg rfl rfl (WL.sg rfl rfl (WL.nil (WC.ret ?_))))
      have e1 : C.sem.dP b p = 1 := by unfold ak.dP; rw [if_neg (by show ¬ C.up = false; rw [hup]; decide), if_pos h1]
      exact aj.ret (H' := C.A bc :: F) (aL.dJ rfl rfl rfl) (fun w h => Sat.all (l := C.parts bc) h) (.inr ⟨by rw [e1]; decide, by rw [e1], rfl⟩)
     ·simp only [decide_eq_true_eq, decide_eq_false_iff_not, Bool.and_eq_true, Bool.or_eq_true, Bool.and_eq_false_iff, Bool.or_eq_false_iff, Bool.not_eq_true', Bool.not_eq_false', Bool.not_eq_true, Bool.not_eq_false] at hc1
      have h1 := hc1
      refine WC.skip (WC.sr (WL.mv rfl rfl (WL.nc rfl rfl (WL.val (V.fieldAddr qw (OV.p rfl)) rfl (WL.ld Tryz.isAgg161 rfl rfl ?_)))))
      refine WL.mv rfl rfl (WL.mv rfl rfl (WL.val (V.build (vs := [(0, _), (1, _)]) ⟨OV.p rfl, OV.p rfl, trivial⟩ rfl (fq _ _)) rfl ?_))
      refine WL.val (V.aA (v' := .tuple #[.slice none 0 0, .bool false]) (V.D8 (k := (b, p)) Tryz.underlying161 Tryz.zeroValue34 qM (OV.p rfl) (OV.p rfl) (fun _ => by repeat (first | exact zW.here | apply zW.up))) (fun _ => by unfold Cw.gB; rw [hpg]; rfl)) rfl ?_
      refine WL.mv rfl rfl (WL.xt rfl rfl rfl (WL.xt rfl rfl rfl (WL.sg rfl rfl (WL.sg rfl rfl (WL.nil (WC.seq (WC.sr (WL.mv rfl rfl (WL.val (V.not (OV.p rfl)) rfl (WL.nil ?_))))))))))
      refine WC.bU rfl (by first | rfl | (simp; done) | (simp; omega)) ?_
      refine WC.region (WL.mv rfl rfl ?_)
      refine WL.call (vs := [_]) Tryz.call222 ⟨OV.p rfl, trivial⟩ (yN (C := C) hC.aF (by repeat (first | exact aT.all | apply aT.up))) rfl ?_
      rintro _ _ ⟨bo, rfl, rfl⟩
      refine WL.sg rfl rfl (WL.nil (WC.sr (WL.mv rfl rfl (WL.mv rfl rfl (WL.nc rfl rfl (WL.val (V.fieldAddr w9 (OV.p rfl)) rfl (WL.ld Tryz.isAgg162 rfl rfl ?_)))))))
      refine WL.mv rfl rfl (WL.mv rfl rfl (WL.val (V.build (vs := [(0, _), (1, _)]) ⟨OV.p rfl, OV.p rfl, trivial⟩ rfl (fq _ _)) rfl ?_))
      refine WL.val (V.aA (v' := .slice Aw lw.length cw) (V.lookup (k := (b, p)) Tryz.underlying162 Tryz.zeroValue124 qM (OV.p rfl) (OV.p rfl) (fun _ => by repeat (first | exact zW.here | apply zW.up))) (fun _ => hw1)) rfl ?_
      refine WL.call (vs := [_, _]) Tryz.call223 ⟨OV.p rfl, OV.p rfl, trivial⟩ (Ay hbb (by repeat (first | exact Seq.allI (by simp) | apply Seq.up)) (by repeat (first | exact eB.seq hw2 | apply Seq.up)) (by rw [hbl]; exact hw3) (by omega) hwl) rfl ?_
      rintro _ _ ⟨bt, rfl, rfl⟩
      refine WL.xt rfl rfl rfl (WL.xt rfl rfl rfl (WL.sg rfl rfl (WL.sg rfl rfl (WL.nil (WC.ret ?_)))))
      have e1 : C.sem.dP b p = 0 := by unfold ak.dP; rw [if_neg (by show ¬ C.up = false; rw [hup]; decide), if_neg (by rw [h1]; decide)]
      refine aj.ret (H' := Cells bt _ (ints .u8 (C.sem.reads b p)) :: C.A bc :: F) (aL.dJ rfl rfl rfl) (fun w h => ?_) (.inl ⟨e1, bt, rfl, rfl⟩)
      rw [hre] at h
      exact (Sat.all (l := C.parts bc) (h.sel 9 [2, 3, 4, 5, 6, 7, 8, 0] rfl)).p1
  | some e =>
    obtain ⟨Ap, cp, xp⟩ := e
    have hpe := hC.page _ _ hpg
    have hb0 : (C.sem.pages (b, p)).getD C.sem.blank = xp := by
      rw [show C.sem.pages (b, p) = (C.pages (b, p)).map (·.2.2) from rfl, hpg]; rfl
    rw [hb0] at hre hbl hbb
    have hxl : xp.length = C.g.raw.toNat := by omega
    have hsp : eB C.own Ap xp.length 1 (ints .u8 xp) := hpe.1
    refine Does.enter Tryz.func155 rfl Tryz.ntmps155 rfl ?_
    simp only [aJ, Nat.reduceAdd]
    refine WC.sr (WL.sg rfl rfl (WL.sg rfl rfl (WL.nil (WC.seq (WC.sr (WL.mv rfl rfl ?_))))))
    refine WL.call (vs := [_]) Tryz.call93 ⟨OV.p rfl, trivial⟩ (fM (C := C) (by repeat (first | exact aT.all | apply aT.up))) rfl ?_
    rintro _ H0 ⟨rfl, h0⟩
    subst H0
    refine WL.sg rfl rfl (WL.nil (WC.sr (WL.mv rfl rfl (WL.val (V.neq (OV.p rfl) (OV.p rfl)) rfl (WL.nil ?_)))))
    refine WC.cond rfl (fun hc0 => ?_) (fun hc0 => ?_)
    ·skip
     have hup : C.up = false := by cases h : C.up <;> simp [ak.ready, Cw.sem, h] at hc0 ⊢
     refine WC.sr (WL.mv rfl rfl (WL.sg rfl rfl (WL.sg rfl rfl (WL.nil (WC.ret ?_)))))
     have e1 : C.sem.dP b p = 70 := by unfold ak.dP; rw [if_pos (show C.sem.up = false from hup)]
     have e2 : C.sem.ready = 70 := by unfold ak.ready; rw [if_neg (by show ¬ C.up = true; rw [hup]; decide)]
     rw [e2]
     exact aj.ret (H' := C.A bc :: F) (aL.dJ rfl rfl rfl) (fun w h => Sat.all (l := C.parts bc) h) (.inr ⟨by rw [e1]; decide, by rw [e1], rfl⟩)
    ·skip
     have hup : C.up = true := by cases h : C.up <;> simp [ak.ready, Cw.sem, h] at hc0 ⊢
     refine WC.skip (WC.seq (WC.sr (WL.mv rfl rfl (WL.mv rfl rfl (WL.mv rfl rfl ?_)))))
     refine WL.call (vs := [_, _, _]) Tryz.call221 ⟨OV.p rfl, OV.p rfl, OV.p rfl, trivial⟩ (vw (C := C) b p (by repeat (first | exact aT.all | apply aT.up))) rfl ?_
     rintro _ H0 ⟨rfl, h0⟩
     subst H0
     refine WL.val (V.not (OV.p rfl)) rfl (WL.nil ?_)
     refine WC.cond rfl (fun hc1 => ?_) (fun hc1 => ?_)
     ·simp only [decide_eq_true_eq, decide_eq_false_iff_not, Bool.and_eq_true, Bool.or_eq_true, Bool.and_eq_false_iff, Bool.or_eq_false_iff, Bool.not_eq_true', Bool.not_eq_false', Bool.not_eq_true, Bool.not_eq_false] at hc1
      have h1 := hc1
      refine WC.sr (WL.sg rfl rfl (WL.sg rfl rfl (WL.nil (WC.ret ?_))))
      have e1 : C.sem.dP b p = 1 := by unfold ak.dP; rw [if_neg (by show ¬ C.up = false; rw [hup]; decide), if_pos h1]
      exact aj.ret (H' := C.A bc :: F) (aL.dJ rfl rfl rfl) (fun w h => Sat.all (l := C.parts bc) h) (.inr ⟨by rw [e1]; decide, by rw [e1], rfl⟩)
     ·simp only [decide_eq_true_eq, decide_eq_false_iff_not, Bool.and_eq_true, Bool.or_eq_true, Bool.and_eq_false_iff, Bool.or_eq_false_iff, Bool.not_eq_true', Bool.not_eq_false', Bool.not_eq_true, Bool.not_eq_false] at hc1
      have h1 := hc1
      refine WC.skip (WC.sr (WL.mv rfl rfl (WL.nc rfl rfl (WL.val (V.fieldAddr qw (OV.p rfl)) rfl (WL.ld Tryz.isAgg161 rfl rfl ?_)))))
      refine WL.mv rfl rfl (WL.mv rfl rfl (WL.val (V.build (vs := [(0, _), (1, _)]) ⟨OV.p rfl, OV.p rfl, trivial⟩ rfl (fq _ _)) rfl ?_))
      refine WL.val (V.aA (v' := .tuple #[.slice Ap xp.length cp, .bool true]) (V.D8 (k := (b, p)) Tryz.underlying161 Tryz.zeroValue34 qM (OV.p rfl) (OV.p rfl) (fun _ => by repeat (first | exact zW.here | apply zW.up))) (fun _ => by unfold Cw.gB; rw [hpg]; rfl)) rfl ?_
      refine WL.mv rfl rfl (WL.xt rfl rfl rfl (WL.xt rfl rfl rfl (WL.sg rfl rfl (WL.sg rfl rfl (WL.nil (WC.seq (WC.sr (WL.mv rfl rfl (WL.val (V.not (OV.p rfl)) rfl (WL.nil ?_))))))))))
      refine WC.aM rfl (by first | rfl | (simp; done) | (simp; omega)) ?_
      refine WC.skip (WC.sr (WL.mv rfl rfl (WL.mv rfl rfl (WL.nc rfl rfl (WL.val (V.fieldAddr w9 (OV.p rfl)) rfl (WL.ld Tryz.isAgg162 rfl rfl ?_))))))
      refine WL.mv rfl rfl (WL.mv rfl rfl (WL.val (V.build (vs := [(0, _), (1, _)]) ⟨OV.p rfl, OV.p rfl, trivial⟩ rfl (fq _ _)) rfl ?_))
      refine WL.val (V.aA (v' := .slice Aw lw.length cw) (V.lookup (k := (b, p)) Tryz.underlying162 Tryz.zeroValue124 qM (OV.p rfl) (OV.p rfl) (fun _ => by repeat (first | exact zW.here | apply zW.up))) (fun _ => hw1)) rfl ?_
      refine WL.call (vs := [_, _]) Tryz.call223 ⟨OV.p rfl, OV.p rfl, trivial⟩ (Ay hbb (by repeat (first | exact eB.seq hsp | apply Seq.up)) (by repeat (first | exact eB.seq hw2 | apply Seq.up)) (by rw [hbl]; exact hw3) (by omega) hwl) rfl ?_
      rintro _ _ ⟨bt, rfl, rfl⟩
      refine WL.xt rfl rfl rfl (WL.xt rfl rfl rfl (WL.sg rfl rfl (WL.sg rfl rfl (WL.nil (WC.ret ?_)))))
      have e1 : C.sem.dP b p = 0 := by unfold ak.dP; rw [if_neg (by show ¬ C.up = false; rw [hup]; decide), if_neg (by rw [h1]; decide)]
      refine aj.ret (H' := Cells bt _ (ints .u8 (C.sem.reads b p)) :: C.A bc :: F) (aL.dJ rfl rfl rfl) (fun w h => ?_) (.inl ⟨e1, bt, by rw [hxl], rfl⟩)
      rw [hre] at h
      exact (Sat.all (l := C.parts bc) (h.sel 8 [1, 2, 3, 4, 5, 6, 7, 0] rfl)).p1
def Cw.new (g : Geo) (m : Int → Bool) (bp bw bn bm bk : Nat) : Cw := ⟨g, fun _ => none, fun _ => none, List.replicate g.bl.toNat 0, m, fun _ => false, 0, true, 0, 0, bp, bw, bn, bm, bk, []⟩
def ak.new (g : Geo) (l : List Int) : ak := ⟨g, fun _ => none, fun _ => none, List.replicate g.bl.toNat 0, fun k => decide (k ∈ l), fun _ => false, 0, true, 0, 0⟩
theorem Cw.Nt {g : Geo} (h : g.aF) (m : Int → Bool) (bp bw bn bm bk : Nat) : (Cw.new g m bp bw bn bm bk).Ok := by
  refine ⟨h, fun p e he => (by have h : (none : Option (Option Addr × Nat × List Int)) = some e := he; cases h), fun p e he => (by have h : (none : Option (Option Addr × Nat × List Int)) = some e := he; cases h), ?_, fun x hx => ?_, (by show (0 : Int) ≤ 0 ∧ (0 : Int) ≤ 9223372036854775807; decide)⟩
  · show ((List.replicate g.bl.toNat 0).length : Int) = g.bl
    rw [List.length_replicate]; unfold Geo.aF at h; omega
  · rw [List.eq_of_mem_replicate hx]; unfold Geo.aF at h; show (0 : Int) ≤ 0 ∧ 0 ≤ g.pg; omega
theorem CK {l : List Int} {j : Nat} (h : j < l.length) : (fun k' => if k' = l.getD j 0 then true else decide (k' ∈ l.take j)) = fun k => decide (k ∈ l.take (j + 1)) := by
  funext k
  have hg : l.getD j 0 = l[j] := by simp [List.getD, h]
  have ht : l.take (j + 1) = l.take j ++ [l[j]] := by rw [List.take_add_one, List.getElem?_eq_getElem h]; rfl
  rw [hg, ht]
  by_cases hk : k = l[j]
  · rw [if_pos hk, decide_eq_true (List.mem_append.2 (.inr (List.mem_singleton.2 hk)))]
  · rw [if_neg hk]
    exact decide_eq_decide.2 ⟨fun h => List.mem_append_left _ h, fun h => (List.mem_append.1 h).elim id fun h => absurd (List.mem_singleton.1 h) hk⟩
theorem yt (g : Geo) {B : Option Addr} {q cap : Nat} {l : List Int} {K : World} {F : List au} (hl : Seq K F B q 1 (ints .i64 l)) (hq : q ≤ 9223372036854775807) :
    Does Tryz.prog 29 #[g.v, .slice B q cap] K F (fun v H' =>
      (g.may = true ∧ (∀ x ∈ l, 0 ≤ x ∧ x < g.bl) ∧ ∃ bc, ∃ C : Cw, C.Ok ∧ C.sem = ak.new g l ∧ v = .tuple #[ptr bc 0, .int .i64 0] ∧ H' = C.A bc :: F) ∨
      (¬ (g.may = true ∧ ∀ x ∈ l, 0 ≤ x ∧ x < g.bl) ∧ v = .tuple #[.pointer none, .int .i64 1] ∧ H' = F)) := by
  have hll : l.length = q := by simpa [ints] using hl.len
  cases hm : g.may with
  | false =>
    refine Does.enter Tryz.func29 rfl Tryz.ntmps29 rfl ?_
    simp only [aJ, Nat.reduceAdd]
    refine WC.sr ?_
    refine WL.box (cs := [_, _, _, _, _]) (OV.p rfl) rfl rfl (fun b2 => ?_)
    refine WL.sg rfl rfl (WL.sg rfl rfl (WL.nil (WC.sr ?_)))
    refine WL.val (V.aU (vs := [_, _, _, _, _]) ⟨Tryz.isAgg23, Tryz.sizeOf23⟩ (OV.p rfl) rfl (fun _ => by repeat (first | exact aT.gets ⟨rfl, rfl, rfl, rfl, rfl, trivial⟩ | apply aT.up))) rfl ?_
    refine WL.call (vs := [_]) Tryz.call96 ⟨OV.p rfl, trivial⟩ (aG.eq (v' := .tuple #[.int .i64 0, .int .i64 1]) (Ca g _ _) (by rw [hm]; rfl)) rfl ?_
    rintro _ H0 ⟨rfl, h0⟩
    subst H0
    refine WL.mv rfl rfl (WL.xt rfl rfl rfl (WL.xt rfl rfl rfl (WL.sg rfl rfl (WL.sg rfl rfl (WL.nil (WC.seq (WC.sr (WL.mv rfl rfl (WL.val (V.neq (OV.p rfl) (OV.p rfl)) rfl (WL.nil ?_))))))))))
    refine WC.bU rfl (by first | rfl | (simp; done) | (simp; omega)) ?_
    refine WC.sr (WL.mv rfl rfl (WL.sg rfl rfl (WL.sg rfl rfl (WL.nil (WC.ret ?_)))))
    exact aj.ret (H' := F) (aL.dJ rfl rfl rfl) (fun w h => by repeat (first | exact h | replace h := h.tail)) (.inr ⟨fun h => (by cases h.1), rfl, rfl⟩)
  | true =>
    have hg := Geo.lH hm
    have hgb := hg
    unfold Geo.aF at hgb
    refine Does.enter Tryz.func29 rfl Tryz.ntmps29 rfl ?_
    simp only [aJ, Nat.reduceAdd]
    refine WC.sr ?_
    refine WL.box (cs := [_, _, _, _, _]) (OV.p rfl) rfl rfl (fun b2 => ?_)
    refine WL.sg rfl rfl (WL.sg rfl rfl (WL.nil (WC.sr ?_)))
    refine WL.val (V.aU (vs := [_, _, _, _, _]) ⟨Tryz.isAgg23, Tryz.sizeOf23⟩ (OV.p rfl) rfl (fun _ => by repeat (first | exact aT.gets ⟨rfl, rfl, rfl, rfl, rfl, trivial⟩ | apply aT.up))) rfl ?_
    refine WL.call (vs := [_]) Tryz.call96 ⟨OV.p rfl, trivial⟩ (aG.eq (v' := .tuple #[.int .i64 g.raw, .int .i64 0]) (Ca g _ _) (by rw [hm]; rfl)) rfl ?_
    rintro _ H0 ⟨rfl, h0⟩
    subst H0
    refine WL.mv rfl rfl (WL.xt rfl rfl rfl (WL.xt rfl rfl rfl (WL.sg rfl rfl (WL.sg rfl rfl (WL.nil (WC.seq (WC.sr (WL.mv rfl rfl (WL.val (V.neq (OV.p rfl) (OV.p rfl)) rfl (WL.nil ?_))))))))))
    refine WC.aM rfl (by first | rfl | (simp; done) | (simp; omega)) ?_
    refine WC.skip (WC.seq ?_)
    refine WC.xC (by kernel_rfl) ?_
    refine WA.t 0 rfl (V.aU (vs := [_, _, _, _, _]) ⟨Tryz.isAgg23, Tryz.sizeOf23⟩ (OV.p rfl) rfl (fun _ => by repeat (first | exact aT.gets ⟨rfl, rfl, rfl, rfl, rfl, trivial⟩ | apply aT.up))) ?_
    refine WA.t 1 rfl (V.move (OV.p rfl)) (WA.t 4 rfl (V.fieldAddr jk (OV.p rfl)) ?_)
    refine WA.t 5 rfl (V.load Tryz.isAgg3 (OV.p rfl) (fun _ => by repeat (first | exact Rd.here rfl | apply Rd.up))) ?_
    refine WA.par (fuel := 3) (e0 := [(24, .int .i64 g.bl), (20, .int .i64 g.raw), (19, g.v), (1, .slice B q cap)]) (Et := #[true, true, true, true, true, true, true, true, true, false, false, false]) [⟨2, 21, fun b => .map (some b), fun b => cu b dW fun _ => none⟩, ⟨3, 22, fun b => .map (some b), fun b => cu b dW fun _ => none⟩, ⟨6, 25, fun b => .slice (some ⟨b, 0, none⟩) g.bl.toNat g.bl.toNat, fun b => Cells b 3 (List.replicate g.bl.toNat (.int .i64 0))⟩, ⟨7, 26, fun b => .map (some b), fun b => cu b kI fun _ => none⟩, ⟨8, 27, fun b => .map (some b), fun b => cu b kI fun _ => none⟩] _ rfl rfl rfl (.cons rfl (.cons rfl (.cons rfl (.cons rfl (.nil _))))) (by kernel_rfl) ?_ (fun w h => h) (fun bs hbs => ?_)
    · intro x hx
      simp only [List.mem_cons, List.not_mem_nil, or_false] at hx
      rcases hx with rfl | rfl | rfl | rfl | rfl
      · exact ⟨_, rfl, fun e' H' Q' hE h => WL.makeMap dW rfl h⟩
      · exact ⟨_, rfl, fun e' H' Q' hE h => WL.makeMap dW rfl h⟩
      · exact ⟨_, rfl, fun e' H' Q' hE h => WL.l7 (m := g.bl.toNat) Tryz.underlying124 el3 (OV.p (hE 24 _ rfl)) (OV.p (hE 24 _ rfl)) (by omega) (by omega) (by omega) rfl rfl rfl h⟩
      · exact ⟨_, rfl, fun e' H' Q' hE h => WL.makeMap kI rfl h⟩
      · exact ⟨_, rfl, fun e' H' Q' hE h => WL.makeMap kI rfl h⟩
    obtain ⟨NT, N9, Ms, NP, NC, rfl⟩ : ∃ a b c d e, bs = [a, b, c, d, e] := by
      match bs, hbs with
      | [a, b, c, d, e], _ => exact ⟨a, b, c, d, e, rfl⟩
    simp only [List.zip_cons_cons, List.zip_nil_right, List.map_cons, List.map_nil, List.cons_append, List.nil_append]
    refine WA.t 9 rfl (V.build (vs := [(0, _), (1, _), (2, _), (3, _), (4, _), (5, _), (6, _), (8, _)]) ⟨OV.p rfl, OV.p rfl, OV.p rfl, OV.p rfl, OV.p rfl, OV.p rfl, OV.p rfl, OV.p rfl, trivial⟩ rfl (nR _ _ _ _ _ _ _ _ _ _ _ _ _ _)) (WA.o 10 rfl ?_)
    refine WL.box (cs := [_, _, _, _, _, _, _, _, _, _, _, _, _, _, _]) (OV.p rfl) rfl rfl (fun I8 => ?_)
    refine WL.nil (WA.t 11 rfl (V.assign (OV.p rfl)) (WA.fin (WC.seq (WC.sr (WL.mv rfl rfl (WL.val (V.len (t := 124) Tryz.runUnderlying124 (OV.p rfl)) rfl (WL.mv rfl rfl (WL.nil (WC.block ?_)))))))))
    refine WC.loop (σ := Nat) (fun j => [(8, ptr I8 0), (30, .slice B q cap), (31, .int .i64 (q : Int)), (32, .int .i64 (j : Int))]) (fun j => Cells I8 165 (Cw.new g (fun _ => false) NT N9 Ms NP NC).cells :: cu NT dW (fun _ => none) :: cu N9 dW (fun _ => none) :: Cells Ms 3 (ints .i64 (List.replicate g.bl.toNat 0)) :: cu NP kI (gV fun k => decide (k ∈ l.take j)) :: cu NC kI (fun _ => none) :: F) (fun j => j ≤ q ∧ ∀ x ∈ l.take j, 0 ≤ x ∧ x < g.bl) (fun j => q - j) 0 ⟨Nat.zero_le _, fun x hx => (by cases hx)⟩ (.cons rfl (.cons rfl (.cons rfl (.cons rfl (.nil _))))) (fun w h => ?_) ?_
    · rw [yK]
      have e1 : (Cw.new g (fun _ => false) NT N9 Ms NP NC).cells = _ := rfl
      refine Sat.aV (h.sel 7 [0, 1, 2, 3, 4, 5] rfl) ?_
      simp [Cw.cells, Cw.new]
    rintro j ⟨hj, hin⟩
    refine WC.sr (WL.val (V.lss (OV.p rfl) (OV.p rfl)) rfl (WL.nil (WC.seq ?_)))
    refine WC.cond rfl (fun hc1 => ?_) (fun hc1 => ?_)
    ·try simp only [decide_eq_true_eq, decide_eq_false_iff_not, Bool.and_eq_true, Bool.or_eq_true, Bool.and_eq_false_iff, Bool.or_eq_false_iff, Bool.not_eq_true', Bool.not_eq_false', Bool.not_eq_true, Bool.not_eq_false, Int.not_lt, Int.not_le] at hc1
     refine WC.skip (WC.seq (WC.block (WC.sr ?_)))
     refine WL.val (V.fu bO (OV.p rfl) (OV.p rfl) (fun hc => by first | omega | (simp at hc; omega)) (fun hc => by repeat (first | exact Seq.fB hl (by first | omega | (simp at hc; omega)) | apply Rd.up))) rfl ?_
     refine WL.val (V.load Tryz.isAgg3 (OV.p rfl) (fun hc => by repeat (first | exact Seq.fB hl (by first | omega | (simp at hc; omega)) | apply Rd.up))) rfl ?_
     refine WL.sg rfl rfl (WL.nil (WC.seq (WC.sr (WL.mv rfl rfl (WL.mv rfl rfl ?_)))))
     refine WL.call (vs := [_, _]) Tryz.call97 ⟨OV.p rfl, OV.p rfl, trivial⟩ (mO (C := Cw.new g (fun _ => false) NT N9 Ms NP NC) _ (by repeat (first | exact aT.all | apply aT.up))) rfl ?_
     rintro _ H0 ⟨rfl, h0⟩
     subst H0
     refine WL.val (V.not (OV.p rfl)) rfl (WL.nil ?_)
     refine WC.cond rfl (fun hc2 => ?_) (fun hc2 => ?_)
     ·skip
      have h2 := hc2
      refine WC.sr (WL.sg rfl rfl (WL.sg rfl rfl (WL.nil (WC.ret ?_))))
      refine aj.ret (H' := F) (aL.dJ rfl rfl rfl) (fun w h => by repeat (first | exact h | replace h := h.tail)) (.inr ⟨fun h => ?_, rfl, rfl⟩)
      have h3 := h.2 (l.getD (j : Int).toNat 0) (by rw [List.getD, List.getElem?_eq_getElem (by omega)]; exact List.getElem_mem _)
      simp [ak.block, Cw.sem, Cw.new] at h2
      simp at h3
      omega
     ·skip
      have h2 := hc2
      refine WC.skip (WC.region (WL.mv rfl rfl (WL.nc rfl rfl (WL.val (V.fieldAddr Cn (OV.p rfl)) rfl (WL.ld Tryz.isAgg163 rfl rfl ?_)))))
      refine WL.mv rfl rfl ?_
      refine WL.nN (k := _) Tryz.underlying163 OA (OV.p rfl) (OV.p rfl) (OV.p rfl) (by repeat (first | exact jT.here | apply jT.up)) ?_
      refine WL.nil (WC.region (WL.ad rfl rfl rfl ?_))
      refine WL.mv rfl rfl (WL.nil ?_)
      refine ⟨rfl, ?_⟩
      refine ⟨j + 1, ⟨by show j + 1 ≤ q; omega, fun x hx => ?_⟩, (by show q - (j + 1) < q - j; omega), .cons rfl (.cons rfl (.cons rfl (.cons (look_eq rfl (by simp)) (.nil _)))), fun w h => ?_⟩
      · rw [List.take_add_one, List.getElem?_eq_getElem (by omega)] at hx
        rcases List.mem_append.1 hx with hx | hx
        · exact hin x hx
        · have hx' : x = l.getD (j : Int).toNat 0 := by
            simp at hx
            rw [show (j : Int).toNat = j by omega]
            simp [List.getD, show j < l.length by omega, hx]
          subst hx'
          simp [ak.block, Cw.sem, Cw.new] at h2
          exact h2
      · rw [Az, show (j : Int).toNat = j by omega, CK (by omega)] at h
        exact h
    ·try simp only [decide_eq_true_eq, decide_eq_false_iff_not, Bool.and_eq_true, Bool.or_eq_true, Bool.and_eq_false_iff, Bool.or_eq_false_iff, Bool.not_eq_true', Bool.not_eq_false', Bool.not_eq_true, Bool.not_eq_false, Int.not_lt, Int.not_le] at hc1
     refine WC.exit (WC.sr (WL.mv rfl rfl (WL.sg rfl rfl (WL.sg rfl rfl (WL.nil (WC.ret ?_))))))
     obtain rfl : j = q := by omega
     rw [List.take_of_length_le (by omega)] at hin
     refine aj.ret (H' := (Cw.new g (fun k => decide (k ∈ l.take j)) NT N9 Ms NP NC).A I8 :: F) (aL.dJ rfl rfl rfl) (fun w h => ?_) (.inl ⟨(by first | trivial | rfl), hin, I8, _, Cw.Nt hg _ _ _ _ _ _, ?_, rfl, rfl⟩)
     · have h1 := (Sat.all (l := []) h).sel 7 [1, 2, 3, 4, 5, 6, 0] rfl
       exact Sat.all (l := (Cw.new g (fun k => decide (k ∈ l.take j)) NT N9 Ms NP NC).parts I8) h1
     · rw [List.take_of_length_le (by omega)]
       rfl
theorem Dk {A : Option Addr} {m cap : Nat} {xs : List Int} {K : World} {F : List au} (hs : Seq K F A m 1 (ints .u8 xs)) (hm : m ≤ 1000000) :
    Does Tryz.prog 125 #[.slice A m cap] K F (fun v H' => ∃ A' cap', v = .slice A' m cap' ∧ H' = bC (.slice A' m cap') 5 1 m (ints .u8 xs) :: F) := by
  have hl : xs.length = m := by simpa [ints] using hs.len
  refine Does.have_ (p := A = none → xs = []) (fun w hw hA => by subst hA; simpa [ints] using hs.Ed hw) (fun hnil => ?_)
  refine Does.enter Tryz.func125 rfl Tryz.ntmps125 rfl ?_
  simp only [aJ, Nat.reduceAdd]
  refine WC.sr (WL.sg rfl rfl (WL.nil (WC.seq (WC.sr (WL.mv rfl rfl (WL.val (V.KF Tryz.underlying34 (OV.p rfl)) rfl (WL.nil ?_)))))))
  refine WC.cond rfl (fun hc0 => ?_) (fun hc0 => ?_)
  ·skip
   have hA : A = none := by cases A <;> simp at hc0 ⊢
   subst hA
   have hx := hnil rfl
   subst hx
   obtain rfl : m = 0 := hl.symm
   refine WC.sr (WL.sg rfl rfl (WL.nil (WC.ret ?_)))
   exact aj.ret (H' := bC (.slice none 0 0) _ 1 0 [] :: F) (aL.tmp rfl rfl) (fun w h => Sat.iA h _ _) ⟨none, 0, rfl, rfl⟩
  ·skip
   refine WC.skip (WC.sr ?_)
   refine WL.buildSlice (E := 5) (cs := []) (vs := []) trivial rfl (Mt ) rfl (fun b5 => ?_)
   refine WL.mv rfl rfl ?_
   refine WL.sub (Sub.refl _) (fun w h => Sat.Dc (m := 0) (cap := 0) (s := 1) h rfl (Nat.le_refl _) (Nat.zero_le _)) ?_
   refine WL.append (m := 0) (cs := []) Tryz.underlying34 vP (OV.p rfl) (OV.p rfl) (by repeat (first | exact hs | apply Seq.up)) (ow _ _) (by omega) rfl rfl (fun A' c' hn' hc' => ?_)
   refine WL.sg rfl rfl (WL.nil (WC.ret ?_))
   refine aj.ret (H' := bC (.slice A' m c') _ 1 m (ints .u8 xs) :: F) (aL.tmp rfl (look_eq rfl (by simp))) (fun w h => ?_) ⟨A', c', rfl, rfl⟩
   simpa using h
namespace Cw
end Cw
end Go.Proofs.YtcedojacbhnbiaaGreat
