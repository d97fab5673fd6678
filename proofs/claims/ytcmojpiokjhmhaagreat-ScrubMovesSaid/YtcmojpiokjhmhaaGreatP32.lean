import Derived.Test.YtcmojpiokjhmhaaGreatP31
import Derived.Test.YtcmojpiokjhmhaaGreatP4
namespace Go.Proofs.YtcmojpiokjhmhaaGreat
open Go.Sl Go.RowKit
set_option linter.unusedVariables false
set_option linter.unusedSimpArgs false
set_option maxRecDepth 20000
theorem F9 (g : Geo) (K : World) (F : List ak) : aL Tryz.prog 65 #[g.v] K F (.bool (g.may && decide (g.room ≤ 32) && decide (g.bl ≤ 12) && decide (g.pg ≤ 5))) := by
  refine Does.enter Tryz.func65 rfl Tryz.ntmps65 rfl ?_
  simp only [aI, Nat.reduceAdd]
  refine WC.sr ?_
  refine WL.box (cs := [_, _, _, _, _]) (OV.p rfl) rfl rfl (fun b1 => ?_)
  refine WL.sg rfl rfl (WL.nil (WC.sr ?_))
  refine WL.val (V.bB (vs := [_, _, _, _, _]) ⟨Tryz.isAgg23, Tryz.sizeOf23⟩ (OV.p rfl) rfl (fun _ => by repeat (first | exact bD.gets ⟨rfl, rfl, rfl, rfl, rfl, trivial⟩ | apply bD.up))) rfl ?_
  refine WL.call (vs := [_]) Tryz.call43 ⟨OV.p rfl, trivial⟩ (JR g _ _) rfl ?_
  rintro _ H0 ⟨rfl, h0⟩
  subst H0
  refine WL.mv rfl rfl ?_
  refine WL.av (oj := _) rfl rfl rfl GC.t (V.bB (vs := [_, _, _, _, _]) ⟨Tryz.isAgg23, Tryz.sizeOf23⟩ (OV.p rfl) rfl (fun _ => by repeat (first | exact bD.gets ⟨rfl, rfl, rfl, rfl, rfl, trivial⟩ | apply bD.up))) rfl ?_
  refine WL.oV (oj := _) (vs := [_]) rfl rfl rfl GC.t Tryz.call44 ⟨OV.g rfl id, trivial⟩ (fun hg => zN g (Geo.mE (by simpa using hg)) _ _) rfl ?_
  refine WL.av (oj := _) rfl rfl rfl GC.t (V.leq (OV.g rfl id) (OV.p rfl)) rfl (WL.val (V.aJ (OV.p rfl) (OV.g rfl id)) rfl (WL.mv rfl rfl (WL.av (oj := _) rfl rfl rfl GC.t (V.fieldAddr jI (OV.p rfl)) rfl ?_)))
  refine WL.av (oj := _) rfl rfl rfl GC.t (V.load Tryz.isAgg3 (OV.g rfl id) (fun _ => by repeat (first | exact Rd.here rfl | apply Rd.up))) rfl ?_
  refine WL.av (oj := _) rfl rfl rfl GC.t (V.leq (OV.g rfl id) (OV.p rfl)) rfl (WL.val (V.aJ (OV.p rfl) (OV.g rfl id)) rfl (WL.mv rfl rfl (WL.av (oj := _) rfl rfl rfl GC.t (V.fieldAddr nR (OV.p rfl)) rfl ?_)))
  refine WL.av (oj := _) rfl rfl rfl GC.t (V.load Tryz.isAgg3 (OV.g rfl id) (fun _ => by repeat (first | exact Rd.here rfl | apply Rd.up))) rfl ?_
  refine WL.av (oj := _) rfl rfl rfl GC.t (V.leq (OV.g rfl id) (OV.p rfl)) rfl (WL.val (V.aJ (OV.p rfl) (OV.g rfl id)) rfl (WL.sg rfl rfl (WL.nil (WC.ret ?_))))
  exact au.ret (H' := F) (aO.tmp rfl rfl) (fun w h => by repeat (first | exact h | replace h := h.tail)) ⟨rfl, rfl⟩
theorem HY (K : World) (F : List ak) : aL Tryz.prog 69 #[] K F (Geo.mk 5 3 1 16 1).v := by
  refine Does.enter Tryz.func69 rfl Tryz.ntmps69 rfl ?_
  simp only [aI, Nat.reduceAdd]
  refine WC.sr ?_
  refine WL.alloc (cs := [(.int .i64 0), (.int .i64 0), (.int .i64 0), (.int .i64 0), (.int .i64 0)]) Tryz.zeroValue23 rfl rfl (fun b0 => ?_)
  refine WL.nil (WC.sr (WL.val (V.build (vs := [(0, _), (1, _), (2, _), (3, _), (4, _)]) ⟨OV.p rfl, OV.p rfl, OV.p rfl, OV.p rfl, OV.p rfl, trivial⟩ rfl (yF _ _ _ _ _)) rfl ?_))
  refine WL.store (cs := [_, _, _, _, _]) Tryz.sizeOf23 (OV.p rfl) (OV.p rfl) rfl rfl rfl (by repeat (first | exact bA.here (cs' := [_, _, _, _, _]) rfl rfl | apply bA.up)) ?_
  refine WL.nil (WC.ret ?_)
  exact au.ret (H' := F) (aO.one rfl (R1.xZ (vs := [_, _, _, _, _]) rfl ⟨Tryz.isAgg23, Tryz.sizeOf23⟩ rfl (by repeat (first | exact bD.gets ⟨rfl, rfl, rfl, rfl, rfl, trivial⟩ | apply bD.up)))) (fun w h => by repeat (first | exact h | replace h := h.tail)) ⟨rfl, rfl⟩
section
variable {K : World} {F : List ak}
theorem AZ {g : Geo} (hv : g.may = true) {aj : Nat} (hl : 1 ≤ aj ∧ aj ≤ 64) (h19 : g.bl ≤ 19) : Does Tryz.prog 66 #[g.v, .int .i64 (aj : Int)] K F
    (fun v H' => ∃ (bc bd bs : Nat) (C : Cw) (T : bC), C.Ok ∧ C.g = g ∧ T.Ok g ∧ C.sem = ah.new g [] ∧ T.sem = gY (ah.new g []) aj ∧ v = .tuple #[ptr bc 0, ptr bd 0, ptr bs 0] ∧ H' = C.A bc :: bK bd bc g :: T.A bs bd g :: F) := by
  refine Does.enter Tryz.func66 rfl Tryz.ntmps66 rfl ?_
  simp only [aI, Nat.reduceAdd]
  refine WC.sr ?_
  refine WL.box (cs := [_, _, _, _, _]) (OV.p rfl) rfl rfl (fun b2 => ?_)
  refine WL.sg rfl rfl (WL.sg rfl rfl (WL.sg rfl rfl (WL.nil (WC.sr ?_))))
  refine WL.val (V.bB (vs := [_, _, _, _, _]) ⟨Tryz.isAgg23, Tryz.sizeOf23⟩ (OV.p rfl) rfl (fun _ => by repeat (first | exact bD.gets ⟨rfl, rfl, rfl, rfl, rfl, trivial⟩ | apply bD.up))) rfl ?_
  refine WL.call (vs := [_, _]) Tryz.call10 ⟨OV.p rfl, OV.p rfl, trivial⟩ (Me g (l := []) Seq.nil (by decide)) rfl ?_
  rintro _ _ (⟨hm, hin, bc, C0, hC0, s0, rfl, rfl⟩ | ⟨hno, rfl, rfl⟩)
  rotate_left
  · exact (hno ⟨hv, fun x hx => by simp at hx⟩).elim
  have g0 : C0.g = g := by rw [show C0.g = C0.sem.g from rfl, s0]; rfl
  refine WL.mv rfl rfl (WL.xt rfl rfl rfl (WL.xt rfl rfl rfl (WL.sg rfl rfl (WL.sg rfl rfl (WL.nil (WC.sr (WL.mv rfl rfl (WL.call (vs := [_]) Tryz.call48 ⟨OV.p rfl, trivial⟩ (Gz hC0 g0) rfl ?_))))))))
  rintro _ _ ⟨bd, rfl, rfl⟩
  refine WL.mv rfl rfl (WL.xt rfl rfl rfl (WL.xt rfl rfl rfl (WL.sg rfl rfl (WL.sg rfl rfl (WL.nil (WC.sr (WL.mv rfl rfl (WL.mv rfl rfl ?_))))))))
  refine WL.call (vs := [_, _]) Tryz.call41 ⟨OV.p rfl, OV.p rfl, trivial⟩ (y9 hC0 g0 hl h19 (vT hC0.aD (by rw [s0]; rfl))) rfl ?_
  rintro _ _ ⟨bs, T0, hT0, t0, rfl, rfl⟩
  refine WL.mv rfl rfl (WL.xt rfl rfl rfl (WL.xt rfl rfl rfl (WL.sg rfl rfl (WL.sg rfl rfl (WL.nil (WC.seq (WC.sr (WL.mv rfl rfl (WL.val (V.neq (OV.p rfl) (OV.p rfl)) rfl (WL.mv rfl rfl (WL.av (oj := _) rfl rfl rfl GC.f (V.move (OV.p rfl)) rfl (WL.av (oj := _) rfl rfl rfl GC.f (V.neq (OV.g rfl id) (OV.p rfl)) rfl (WL.val (V.bH (OV.p rfl) (OV.g rfl id)) rfl (WL.mv rfl rfl (WL.av (oj := _) rfl rfl rfl GC.f (V.move (OV.p rfl)) rfl (WL.av (oj := _) rfl rfl rfl GC.f (V.neq (OV.g rfl id) (OV.p rfl)) rfl (WL.val (V.bH (OV.p rfl) (OV.g rfl id)) rfl (WL.nil ?_))))))))))))))))))
  refine WC.aQ rfl (by first | rfl | (simp; done) | (simp; omega)) ?_
  refine WC.skip (WC.sr (WL.mv rfl rfl (WL.mv rfl rfl (WL.mv rfl rfl (WL.sg rfl rfl (WL.sg rfl rfl (WL.sg rfl rfl (WL.nil (WC.ret ?_)))))))))
  exact au.ret (H' := C0.A bc :: bK bd bc g :: T0.A bs bd g :: F) (aO.r9 rfl rfl rfl rfl) (fun w h => h.sel 4 [0, 1, 2] rfl) ⟨bc, bd, bs, C0, T0, hC0, g0, hT0, s0, by rw [t0, s0], rfl, rfl⟩
def qd (S : ah) (aj : Nat) (aB page : Int) (xs : List Int) : ah :=
  if 0 ≤ aB ∧ aB < (aj : Int) ∧ 0 ≤ (fK aj S.bQ).getD aB.toNat 0 then S.flip ((fK aj S.bQ).getD aB.toNat 0) page xs else S
theorem xR {g : Geo} {C : Cw} {bc bd : Nat} (hC : C.Ok) (hg : C.g = g) (h19 : g.bl ≤ 19) (he : C.sem.gV = 0) {aj : Nat} (hl : 1 ≤ aj ∧ aj ≤ 64) (aB page : Int) {B : Option Addr} {m cap : Nat} {xs : List Int} (hs : Seq K F B m 1 (ints .i64 xs)) (hm : m ≤ 1000000) :
    Does Tryz.prog 67 #[ptr bc 0, ptr bd 0, .int .i64 (aj : Int), .int .i64 aB, .int .i64 page, .slice B m cap] K (C.A bc :: bK bd bc g :: F)
    (fun v H' => ∃ C' : Cw, C'.Ok ∧ C'.g = g ∧ C'.sem = qd C.sem aj aB page xs ∧ H' = C'.A bc :: bK bd bc g :: F) := by
  have hgm : g.aD := by rw [← hg]; exact hC.aD
  have hsf := pI (S := C.sem) hC.aD
  have hfl : C.sem.bQ.length ≤ 19 := by
    have h1 := ah.fF C.sem C.sem.g.bl.toNat
    have h2 : C.sem.g.bl.toNat ≤ 19 := by rw [show C.sem.g = C.g from rfl, hg]; omega
    unfold ah.bQ
    refine Nat.le_trans (List.length_filterMap_le _ _) ?_
    unfold ah.good; omega
  obtain ⟨fs, hfs⟩ : ∃ fs, fs = C.sem.bQ := ⟨_, rfl⟩
  have hpl := jm aj fs
  obtain ⟨R, hR⟩ : ∃ R, R = qd C.sem aj aB page xs := ⟨_, rfl⟩
  rw [← hR]
  unfold qd at hR
  rw [← hfs] at hR
  obtain ⟨x, hx⟩ : ∃ x, x = (fK aj fs).getD aB.toNat 0 := ⟨_, rfl⟩
  rw [← hx] at hR
  refine Does.enter Tryz.func67 rfl Tryz.ntmps67 rfl ?_
  simp only [aI, Nat.reduceAdd]
  refine WC.sr (WL.mv rfl rfl (WL.call (vs := [_]) Tryz.call73 ⟨OV.p rfl, trivial⟩ (xL hC hg h19 he) rfl ?_))
  rintro _ _ ⟨Af, cf, rfl, rfl⟩
  rw [← hfs] at hfl hsf ⊢
  refine WL.mv rfl rfl (WL.xt rfl rfl rfl (WL.xt rfl rfl rfl (WL.sg rfl rfl (WL.sg rfl rfl (WL.nil (WC.seq (WC.sr (WL.mv rfl rfl (WL.val (V.neq (OV.p rfl) (OV.p rfl)) rfl (WL.nil ?_))))))))))
  refine WC.aQ rfl (by first | rfl | (simp; done) | (simp; omega)) ?_
  refine WC.skip (WC.sr (WL.mv rfl rfl (WL.mv rfl rfl ?_)))
  refine WL.call (vs := [_, _]) Tryz.call75 ⟨OV.p rfl, OV.p rfl, trivial⟩ (xH (fs := fs) hl (by repeat (first | exact aU.seq (dN _) | apply Seq.up)) rfl (by omega) (fun x hx => by have := Hd.Ei (hsf x hx).2; omega)) rfl ?_
  rintro _ _ ⟨Ap, cp, rfl, rfl⟩
  have hrd : ∀ {H : List ak}, 0 ≤ aB → aB < (aj : Int) → Rd K (aU (.slice Ap aj cp) 3 1 aj (ints .i64 (fK aj fs)) :: H) (Ap.map (·.add (aB.toNat * 1))) (.int .i64 x) := fun {H} h1 h2 => by
    have hs2 : Seq K (aU (.slice Ap aj cp) 3 1 aj (ints .i64 (fK aj fs)) :: H) Ap aj 1 (ints .i64 (fK aj fs)) := aU.seq (by rw [aG, hpl, Nat.mul_one])
    have := hs2.rd aB.toNat (.int .i64 x) (by simp [ints, hx, List.getD, hpl, show aB.toNat < aj by omega])
    rwa [Nat.mul_one]
  refine WL.mv rfl rfl (WL.xt rfl rfl rfl (WL.xt rfl rfl rfl (WL.xt rfl rfl rfl (WL.sg rfl rfl (WL.sg rfl rfl (WL.sg rfl rfl (WL.nil (WC.sr (WL.mv rfl rfl (WL.val (V.eql (OV.p rfl) (OV.p rfl)) rfl (WL.mv rfl rfl (WL.av (oj := _) rfl rfl rfl GC.t (V.move (OV.p rfl)) rfl (WL.av (oj := _) rfl rfl rfl GC.t (V.geq (OV.g rfl id) (OV.p rfl)) rfl (WL.val (V.aJ (OV.p rfl) (OV.g rfl id)) rfl (WL.mv rfl rfl (WL.av (oj := _) rfl rfl rfl GC.t (V.move (OV.p rfl)) rfl (WL.av (oj := _) rfl rfl rfl GC.t (V.move (OV.p rfl)) rfl (WL.av (oj := _) rfl rfl rfl GC.t (V.len (t := 24) Tryz.runUnderlying24 (OV.g rfl id)) rfl (WL.av (oj := _) rfl rfl rfl GC.t (V.lss (OV.g rfl id) (OV.g rfl id)) rfl (WL.val (V.aJ (OV.p rfl) (OV.g rfl id)) rfl (WL.mv rfl rfl (WL.av (oj := _) rfl rfl rfl GC.t (V.move (OV.p rfl)) rfl (WL.av (oj := _) rfl rfl rfl GC.t (V.move (OV.p rfl)) rfl ?_)))))))))))))))))))))))
  refine WL.av (oj := _) rfl rfl rfl GC.t (V.dS bZ (OV.g rfl id) (OV.g rfl id) (fun hc => by simp at hc; omega) (fun hc => by simp at hc; exact hrd (by omega) (by omega))) rfl ?_
  refine WL.av (oj := _) rfl rfl rfl GC.t (V.load Tryz.isAgg3 (OV.g rfl id) (fun hc => by simp at hc; exact hrd (by omega) (by omega))) rfl ?_
  refine WL.av (oj := _) rfl rfl rfl GC.t (V.geq (OV.g rfl id) (OV.p rfl)) rfl (WL.val (V.aJ (OV.p rfl) (OV.g rfl id)) rfl (WL.nil ?_))
  refine WC.cond rfl (fun hc1 => ?_) (fun hc1 => ?_)
  ·simp only [Bool.and_eq_true, Bool.and_eq_false_iff, decide_eq_true_eq, decide_eq_false_iff_not] at hc1
   have h1 := hc1
   rw [if_pos ⟨by omega, by omega, by omega⟩] at hR
   refine WC.region (WL.mv rfl rfl (WL.mv rfl rfl (WL.mv rfl rfl ?_)))
   refine WL.val (V.dS bZ (OV.p rfl) (OV.p rfl) (fun _ => by omega) (fun _ => hrd (by omega) (by omega))) rfl ?_
   refine WL.val (V.load Tryz.isAgg3 (OV.p rfl) (fun _ => hrd (by omega) (by omega))) rfl ?_
   refine WL.mv rfl rfl (WL.mv rfl rfl ?_)
   refine WL.sub (H' := C.A bc :: bK bd bc g :: F) (Sub.refl _) (fun w h => h.sel 4 [1, 2] rfl) ?_
   refine WL.call (vs := [_, _, _, _]) Tryz.call25 ⟨OV.p rfl, OV.p rfl, OV.p rfl, OV.p rfl, trivial⟩ (JD hC x page hs.up hm) rfl ?_
   rintro _ _ ⟨C2, hC2, rfl, s2⟩
   refine WL.nil ?_
   first
   | exact au.normal (H' := C2.A bc :: bK bd bc g :: F) (aO.none rfl) (fun w h => h) ⟨C2, hC2, by rw [show C2.g = C2.sem.g from rfl, s2]; unfold ah.flip; split <;> exact hg, by rw [s2, hR], rfl⟩
   | exact au.normal (H' := C.A bc :: bK bd bc g :: F) (aO.none rfl) (fun w h => h.sel 4 [1, 2] rfl) ⟨C, hC, hg, hR.symm, rfl⟩
  ·simp only [Bool.and_eq_true, Bool.and_eq_false_iff, decide_eq_true_eq, decide_eq_false_iff_not] at hc1
   have h1 := hc1
   rw [if_neg (by rintro ⟨k1, k2, k3⟩; rcases h1 with h | h; simp at h; omega; omega)] at hR
   refine WC.skip ?_
   first
   | exact au.normal (H' := C2.A bc :: bK bd bc g :: F) (aO.none rfl) (fun w h => h) ⟨C2, hC2, by rw [show C2.g = C2.sem.g from rfl, s2]; unfold ah.flip; split <;> exact hg, by rw [s2, hR], rfl⟩
   | exact au.normal (H' := C.A bc :: bK bd bc g :: F) (aO.none rfl) (fun w h => h.sel 4 [1, 2] rfl) ⟨C, hC, hg, hR.symm, rfl⟩
def xV (g : Geo) (ss : List ByteArray) (n : Nat) : Bool :=
  g.may && decide (g.room ≤ 32) && decide (g.bl ≤ 12) && decide (g.pg ≤ 5) && decide (1 ≤ (ss.length : Int)) && decide ((ss.length : Int) < g.bl) && decide ((n : Int) ≤ 30) && ss.all fun s => decide ((s.size : Int) ≤ g.cap)
theorem nA (g : Geo) {A B : Option Addr} {m cap q cap' : Nat} {ss : List ByteArray} (hs : Seq K F A m 1 (strs ss)) (hl : ss.length = m) : aL Tryz.prog 29 #[g.v, .slice A m cap, .slice B q cap'] K F (.bool (xV g ss q)) := by
  obtain ⟨R, hR⟩ : ∃ R, R = xV g ss q := ⟨_, rfl⟩
  rw [← hR]
  unfold xV at hR
  rw [hl] at hR
  refine Does.enter Tryz.func29 rfl Tryz.ntmps29 rfl ?_
  simp only [aI, Nat.reduceAdd]
  refine WC.sr ?_
  refine WL.box (cs := [_, _, _, _, _]) (OV.p rfl) rfl rfl (fun b3 => ?_)
  refine WL.sg rfl rfl (WL.nil (WC.seq (WC.sr ?_)))
  refine WL.val (V.bB (vs := [_, _, _, _, _]) ⟨Tryz.isAgg23, Tryz.sizeOf23⟩ (OV.p rfl) rfl (fun _ => by repeat (first | exact bD.gets ⟨rfl, rfl, rfl, rfl, rfl, trivial⟩ | apply bD.up))) rfl ?_
  refine WL.call (vs := [_]) Tryz.call65 ⟨OV.p rfl, trivial⟩ (F9 g _ _) rfl ?_
  rintro _ H0 ⟨rfl, h0⟩
  subst H0
  refine WL.val (V.not (OV.p rfl)) rfl (WL.mv rfl rfl (WL.av (oj := _) rfl rfl rfl GC.f (V.move (OV.p rfl)) rfl (WL.av (oj := _) rfl rfl rfl GC.f (V.len (t := 38) Tryz.runUnderlying38 (OV.g rfl id)) rfl (WL.av (oj := _) rfl rfl rfl GC.f (V.lss (OV.g rfl id) (OV.p rfl)) rfl (WL.val (V.bH (OV.p rfl) (OV.g rfl id)) rfl (WL.mv rfl rfl (WL.av (oj := _) rfl rfl rfl GC.f (V.move (OV.p rfl)) rfl (WL.av (oj := _) rfl rfl rfl GC.f (V.len (t := 38) Tryz.runUnderlying38 (OV.g rfl id)) rfl (WL.av (oj := _) rfl rfl rfl GC.f (V.fieldAddr jI (OV.p rfl)) rfl ?_)))))))))
  refine WL.av (oj := _) rfl rfl rfl GC.f (V.load Tryz.isAgg3 (OV.g rfl id) (fun _ => by repeat (first | exact Rd.here rfl | apply Rd.up))) rfl ?_
  refine WL.av (oj := _) rfl rfl rfl GC.f (V.geq (OV.g rfl id) (OV.g rfl id)) rfl (WL.val (V.bH (OV.p rfl) (OV.g rfl id)) rfl (WL.mv rfl rfl (WL.av (oj := _) rfl rfl rfl GC.f (V.move (OV.p rfl)) rfl (WL.av (oj := _) rfl rfl rfl GC.f (V.len (t := 56) Tryz.runUnderlying56 (OV.g rfl id)) rfl (WL.av (oj := _) rfl rfl rfl GC.f (V.gtr (OV.g rfl id) (OV.p rfl)) rfl (WL.val (V.bH (OV.p rfl) (OV.g rfl id)) rfl (WL.nil ?_)))))))
  refine WC.cond rfl (fun hc0 => ?_) (fun hc0 => ?_)
  ·simp only [Bool.or_eq_true, Bool.or_eq_false_iff, Bool.and_eq_true, decide_eq_true_eq, decide_eq_false_iff_not, Bool.not_eq_true', Bool.not_eq_false'] at hc0
   have h0 := hc0
   have TU : R = false := by
     rw [hR, ← Bool.not_eq_true]
     intro hh
     simp only [Bool.and_eq_true, decide_eq_true_eq] at hh
     rcases h0 with ((h | h) | h) | h
     · rw [← Bool.not_eq_true] at h
       exact h (by simp only [Bool.and_eq_true, decide_eq_true_eq]; exact hh.1.1.1.1)
     · omega
     · omega
     · omega
   refine WC.sr (WL.sg rfl rfl (WL.nil (WC.ret ?_)))
   exact au.ret (H' := F) (aO.tmp rfl rfl) (fun w h => by repeat (first | exact h | replace h := h.tail)) ⟨by rw [TU], rfl⟩
  ·simp only [Bool.or_eq_true, Bool.or_eq_false_iff, Bool.and_eq_true, decide_eq_true_eq, decide_eq_false_iff_not, Bool.not_eq_true', Bool.not_eq_false'] at hc0
   have h0 := hc0
   obtain ⟨⟨⟨⟨⟨⟨hmay, h32⟩, h12⟩, Rx⟩, hm1⟩, hm2⟩, hq⟩ := h0
   have Iw := Geo.mE hmay
   have hR2 : R = ss.all fun s => decide ((s.size : Int) ≤ g.cap) := by
     rw [hR, hmay, decide_eq_true h32, decide_eq_true h12, decide_eq_true Rx, decide_eq_true (by omega), decide_eq_true (by omega), decide_eq_true (by omega)]; rfl
   refine WC.skip (WC.seq (WC.sr (WL.sg rfl rfl (WL.nil (WC.block ?_)))))
   refine WC.loop (σ := Nat) (fun i => [(1, .slice A m cap), (3, ptr b3 0), (7, .int .i64 (i : Int))]) (fun _ => Cells b3 23 [.int .i64 g.bl, .int .i64 g.pg, .int .i64 g.se, .int .i64 g.sb, .int .i64 g.fl] :: F) (fun i => i ≤ m ∧ (ss.take i).all (fun s => decide ((s.size : Int) ≤ g.cap)) = true) (fun i => m - i) 0 ⟨Nat.zero_le _, rfl⟩ (.cons rfl (.cons rfl (.cons rfl (.nil _)))) (fun w h => h) ?_
   rintro i ⟨hi, hall⟩
   refine WC.seq (WC.sr (WL.mv rfl rfl (WL.mv rfl rfl (WL.val (V.len (t := 38) Tryz.runUnderlying38 (OV.p rfl)) rfl (WL.val (V.lss (OV.p rfl) (OV.p rfl)) rfl (WL.nil ?_))))))
   refine WC.cond rfl (fun hc1 => ?_) (fun hc1 => ?_)
   ·simp only [decide_eq_true_eq, decide_eq_false_iff_not] at hc1
    have him : i < m := by omega
    have hti : (i : Int).toNat = i := by omega
    obtain ⟨s, hsd⟩ : ∃ s, ss[i]? = some s := ⟨_, List.getElem?_eq_getElem (by omega)⟩
    have hrd : Rd K F (A.map (·.add ((i : Int).toNat * 1))) (.string s) := by
      have := Seq.Gr hs him
      rw [show ss.getD i ByteArray.empty = s by simp [List.getD, hsd]] at this
      rw [hti]; exact this
    refine WC.skip (WC.seq (WC.block (WC.seq ?_)))
    refine WC.eG (by kernel_rfl) (by kernel_rfl) ?_
    refine WQ.val (V.move (OV.p rfl)) rfl (WQ.val (V.move (OV.p rfl)) rfl ?_)
    refine WQ.val (V.dS Pf (OV.p rfl) (OV.p rfl) (fun _ => by omega) (fun _ => by repeat (first | exact hrd | apply Rd.up))) rfl ?_
    refine WQ.val (V.load Tryz.isAgg9 (OV.p rfl) (fun _ => by repeat (first | exact hrd | apply Rd.up))) rfl ?_
    refine WQ.val (V.lenStr Tryz.runUnderlying9 (OV.p rfl)) rfl ?_
    refine WQ.val (V.bB (vs := [_, _, _, _, _]) ⟨Tryz.isAgg23, Tryz.sizeOf23⟩ (OV.p rfl) rfl (fun _ => by repeat (first | exact bD.gets ⟨rfl, rfl, rfl, rfl, rfl, trivial⟩ | apply bD.up))) rfl ?_
    refine WQ.call (vs := [_]) Tryz.call15 ⟨OV.p rfl, trivial⟩ (Kl Iw) rfl (WQ.val (V.gtr (OV.p rfl) (OV.p rfl)) rfl (WQ.nil ?_))
    refine WC.cond rfl (fun hc2 => ?_) (fun hc2 => ?_)
    ·simp only [decide_eq_true_eq, decide_eq_false_iff_not] at hc2
     have h2 := hc2
     refine WC.sr (WL.sg rfl rfl (WL.nil (WC.ret ?_)))
     refine au.ret (H' := F) (aO.tmp rfl rfl) (fun w h => by repeat (first | exact h | replace h := h.tail)) ⟨?_, rfl⟩
     rw [hR2]
     have : ss.all (fun s => decide ((s.size : Int) ≤ g.cap)) = false := by
       rw [← Bool.not_eq_true]
       intro h
       have := List.all_eq_true.1 h s (List.mem_of_getElem? hsd)
       simp at this
       omega
     rw [this]
    ·simp only [decide_eq_true_eq, decide_eq_false_iff_not] at hc2
     have h2 := hc2
     refine WC.skip (WC.region (WL.mv rfl rfl (WL.ad rfl rfl rfl ?_)))
     refine WL.sg rfl rfl (WL.nil ?_)
     refine ⟨rfl, ?_⟩
     refine ⟨i + 1, ⟨by show i + 1 ≤ m; omega, ?_⟩, (by show m - (i + 1) < m - i; omega), .cons rfl (.cons rfl (.cons (look_eq rfl (by simp)) (.nil _))), fun w h => h⟩
     rw [List.take_add_one, hsd, List.all_append, hall]
     show (decide ((s.size : Int) ≤ g.cap) && true) = true
     rw [decide_eq_true (by omega)]; rfl
   ·simp only [decide_eq_true_eq, decide_eq_false_iff_not] at hc1
    refine WC.exit (WC.sr (WL.sg rfl rfl (WL.nil (WC.ret ?_))))
    refine au.ret (H' := F) (aO.tmp rfl rfl) (fun w h => by repeat (first | exact h | replace h := h.tail)) ⟨?_, rfl⟩
    obtain rfl : i = m := by omega
    rw [List.take_of_length_le (by omega)] at hall
    rw [hR2, hall]
structure Wg where
  (aB page from_ many : Int)
abbrev Wg.cells (x : Wg) : List Value := [.int .i64 x.aB, .int .i64 x.page, .int .i64 x.from_, .int .i64 x.many]
theorem Wg.elem {A : Option Addr} {n : Nat} {ws : List Wg} (h : Seq K F A n 4 (ws.map Wg.cells).flatten) {i : Nat} {o : Wg} (hi : ws[i]? = some o) {j : Nat} {v : Value} (hj : o.cells[j]? = some v) : Rd K F (A.map (·.add (i * 4 + j))) v :=
  h.rd _ _ (kQ (fun x hx => by obtain ⟨o, _, rfl⟩ := List.mem_map.1 hx; rfl) (by rw [List.getElem?_map, hi]; rfl) hj)
theorem bS.gV {aj n : Nat} {S : ah} {T : St} {m : Lm} (h : bS aj n S T m) : S.gV = 0 := by
  obtain ⟨st, hI⟩ := h.si
  exact vT hI.ci.aD h.up
theorem bS.QX {aj n : Nat} {S : ah} {T : St} {m : Lm} (h : bS aj n S T m) (aB page : Int) {xs : List Int} (hps : ∀ x ∈ xs, 0 ≤ x ∧ x < (8 * S.g.dG : Nat)) (hl : xs.length ≤ S.g.fl.toNat) : bS aj n (qd S aj aB page xs) T m ∧ (qd S aj aB page xs).left = S.left ∧ (qd S aj aB page xs).g = S.g := by
  unfold qd
  split
  · exact ⟨h.flip _ _ hps hl, by unfold ah.flip; split <;> rfl, by unfold ah.flip; split <;> rfl⟩
  · exact ⟨h, rfl, rfl⟩
theorem qA (ss : List ByteArray) (n : Nat) : ∀ i, i < n → su ss n i = some (o7 ss i) := fun i hi => if_pos hi
set_option maxHeartbeats 1000000 in
theorem lH {g : Geo} {A B : Option Addr} {m cap q cap' : Nat} {ss : List ByteArray} {ws : List Wg} (hs : Seq K F A m 1 (strs ss)) (hl : ss.length = m) (hw : Seq K F B q 4 (ws.map Wg.cells).flatten) (hwl : ws.length = q) (hmay : xV g ss q = true) :
    Does Tryz.prog 30 #[g.v, .slice A m cap, .slice B q cap'] K F
    (fun v H' => ∃ (bc bd bs : Nat) (C : Cw) (T : bC), C.Ok ∧ C.g = g ∧ T.Ok g ∧ bS m m C.sem T.sem (su ss m) ∧ C.sem.left = 0 ∧ v = .tuple #[ptr bc 0, ptr bd 0, ptr bs 0] ∧ H' = C.A bc :: bK bd bc g :: T.A bs bd g :: F) := by
  unfold xV at hmay
  simp only [Bool.and_eq_true, decide_eq_true_eq, List.all_eq_true] at hmay
  obtain ⟨⟨⟨⟨⟨⟨⟨hv, h32⟩, h12⟩, Rx⟩, hm1⟩, hm2⟩, hq⟩, hsz⟩ := hmay
  rw [hl] at hm1 hm2
  have Iw := Geo.mE hv
  have hgb := Iw
  unfold Geo.aD at hgb
  have hcb := Geo.nT Iw
  refine Does.enter Tryz.func30 rfl Tryz.ntmps30 rfl ?_
  simp only [aI, Nat.reduceAdd]
  refine WC.sr ?_
  refine WL.box (cs := [_, _, _, _, _]) (OV.p rfl) rfl rfl (fun b3 => ?_)
  refine WL.sg rfl rfl (WL.sg rfl rfl (WL.sg rfl rfl (WL.nil (WC.sr ?_))))
  refine WL.val (V.bB (vs := [_, _, _, _, _]) ⟨Tryz.isAgg23, Tryz.sizeOf23⟩ (OV.p rfl) rfl (fun _ => by repeat (first | exact bD.gets ⟨rfl, rfl, rfl, rfl, rfl, trivial⟩ | apply bD.up))) rfl ?_
  refine WL.mv rfl rfl (WL.val (V.len (t := 38) Tryz.runUnderlying38 (OV.p rfl)) rfl ?_)
  refine WL.call (vs := [_, _]) Tryz.call66 ⟨OV.p rfl, OV.p rfl, trivial⟩ (AZ hv (aj := m) (by omega) (by omega)) rfl ?_
  rintro _ _ ⟨bc, bd, bs, C0, T0, hC0, g0, hT0, s0, t0, rfl, rfl⟩
  refine WL.mv rfl rfl (WL.xt rfl rfl rfl (WL.xt rfl rfl rfl (WL.xt rfl rfl rfl (WL.sg rfl rfl (WL.sg rfl rfl (WL.sg rfl rfl (WL.nil (WC.seq (WC.sr (WL.mv rfl rfl (WL.val (V.lQ Tryz.underlying33 (OV.p rfl) (OV.p rfl)) rfl (WL.nil ?_))))))))))))
  refine WC.aQ rfl (by first | rfl | (simp; done) | (simp; omega)) ?_
  refine WC.skip (WC.seq (WC.sr (WL.sg rfl rfl (WL.nil (WC.block ?_)))))
  have hH0 : bS m 0 C0.sem T0.sem (su ss 0) := by
    rw [t0, s0, show su ss 0 = fun _ => none by funext k; unfold su; rw [if_neg (Nat.not_lt_zero k)]]
    exact bS.new Iw (by omega) (by omega)
  refine WC.loop (σ := Nat × Cw × bC) (fun s => [(1, .slice A m cap), (2, .slice B q cap'), (3, ptr b3 0), (9, ptr bc 0), (10, ptr bd 0), (11, ptr bs 0), (12, .int .i64 (s.1 : Int))]) (fun s => s.2.1.A bc :: bK bd bc g :: s.2.2.A bs bd g :: Cells b3 23 [.int .i64 g.bl, .int .i64 g.pg, .int .i64 g.se, .int .i64 g.sb, .int .i64 g.fl] :: F) (fun s => s.1 ≤ m ∧ s.2.1.Ok ∧ s.2.1.g = g ∧ s.2.2.Ok g ∧ bS m s.1 s.2.1.sem s.2.2.sem (su ss s.1) ∧ s.2.1.sem.left = 0) (fun s => m - s.1) (0, C0, T0) ⟨Nat.zero_le _, hC0, g0, hT0, hH0, by rw [s0]; rfl⟩ (.cons rfl (.cons rfl (.cons rfl (.cons rfl (.cons rfl (.cons rfl (.cons rfl (.nil _)))))))) (fun w h => h) ?_
  rintro ⟨i, C, T⟩ ⟨hi, hC, hg', hT, hHi, hl0⟩
  dsimp only at hi hC hg' hT hHi hl0 ⊢
  have hgs : C.sem.g = g := hg'
  refine WC.seq (WC.sr (WL.mv rfl rfl (WL.mv rfl rfl (WL.val (V.len (t := 38) Tryz.runUnderlying38 (OV.p rfl)) rfl (WL.val (V.lss (OV.p rfl) (OV.p rfl)) rfl (WL.nil ?_))))))
  refine WC.cond rfl (fun hc1 => ?_) (fun hc1 => ?_)
  ·simp only [decide_eq_true_eq, decide_eq_false_iff_not] at hc1
   have him : i < m := by omega
   have hti : (i : Int).toNat = i := by omega
   obtain ⟨s, hsd⟩ : ∃ s, s = ss.getD i ByteArray.empty := ⟨_, rfl⟩
   have hrd : Rd K F (A.map (·.add ((i : Int).toNat * 1))) (.string s) := by rw [hti, hsd]; exact Seq.Gr hs him
   have hdl := Gb ss i
   rw [← hsd] at hdl
   obtain ⟨d, hd⟩ : ∃ d, d = o7 ss i := ⟨_, rfl⟩
   have BI : Small 256 d := by rw [hd]; exact Gs ss i
   rw [← hd] at hdl
   have hdc : (d.length : Int) ≤ g.cap := by
     rw [hdl]
     have := hsz s (by rw [hsd]; exact ng (by omega))
     simpa using this
   refine WC.skip (WC.seq (WC.block (WC.sr (WL.mv rfl rfl (WL.mv rfl rfl (WL.mv rfl rfl (WL.mv rfl rfl ?_)))))))
   refine WL.val (V.dS Pf (OV.p rfl) (OV.p rfl) (fun _ => by omega) (fun _ => by repeat (first | exact hrd | apply Rd.up))) rfl ?_
   refine WL.val (V.load Tryz.isAgg9 (OV.p rfl) (fun _ => by repeat (first | exact hrd | apply Rd.up))) rfl ?_
   refine WL.Lh (s := s) rfl Tryz.underlying9 Tryz.underlying43 Tryz.underlying5 (OV.p rfl) rfl (fun SS UW Sb hcp Ja => ?_)
   refine WL.sub (Sub.refl _) (fun w h => h.sel 4 [1, 2, 3, 0] rfl) ?_
   have hsn : ∀ H' : List ak, Seq K (jG SS 5 Sb :: H') (some ⟨SS, 0, none⟩) s.size 1 (aA .u8 d) := fun H' => by
     have := Ja H'
     rw [xP (mM s)] at this
     rw [hd]
     unfold o7
     rw [← hsd]; exact this
   have hlong := hHi.long (by omega)
   obtain ⟨c1, c2, c3⟩ := hHi.change (by omega) him BI (by rw [hgs]; exact hdc)
   obtain ⟨c4, c5⟩ := c2 hl0
   have hnx : bS m (i + 1) (aK C.sem T.sem (i : Int) d).1 (aK C.sem T.sem (i : Int) d).2.1 (su ss (i + 1)) := by
     rcases c3 with ⟨_, h, _⟩ | ⟨h, _⟩
     · rw [← Ji, ← hd]; exact h
     · rw [c5] at h; exact absurd h (by decide)
   refine WL.call (vs := [_, _, _]) Tryz.call18 ⟨OV.p rfl, OV.p rfl, OV.p rfl, trivial⟩ (kN (d := d) hC hg' hT (hsn _) BI hcp (by omega) (fun l hl => Nat.le_trans (hlong l hl) (by decide))) rfl ?_
   rintro v41 _ ⟨C2, T2, hC2, g2, nM, s2, t2, hv2, rfl⟩
   rw [c5] at hv2
   subst hv2
   rw [← s2, ← t2] at hnx
   rw [← s2] at c4
   refine WL.val (V.neq (OV.p rfl) (OV.p rfl)) rfl (WL.nil ?_)
   refine WC.aQ rfl (by first | rfl | (simp; done) | (simp; omega)) ?_
   refine WC.skip (WC.region (WL.mv rfl rfl (WL.ad rfl rfl rfl ?_)))
   refine WL.sg rfl rfl (WL.nil ?_)
   refine ⟨rfl, ?_⟩
   exact ⟨(i + 1, C2, T2), ⟨him, hC2, g2, nM, hnx, c4⟩, (by show m - (i + 1) < m - i; omega), .cons rfl (.cons rfl (.cons rfl (.cons rfl (.cons rfl (.cons rfl (.cons (look_eq rfl (by simp)) (.nil _))))))), fun w h => h.sel 5 [0, 1, 2, 4] rfl⟩
  ·simp only [decide_eq_true_eq, decide_eq_false_iff_not] at hc1
   refine WC.exit (WC.seq ?_)
   obtain rfl : i = m := by omega
   obtain ⟨nb, hnb⟩ : ∃ nb, nb = 8 * g.sb + 13 * g.fl := ⟨_, rfl⟩
   refine WC.region (WL.val (V.fieldAddr ig (OV.p rfl)) rfl (WL.ld Tryz.isAgg3 rfl rfl ?_))
   refine WL.val (V.jF (OV.p rfl) (OV.p rfl) (fun hc => by first | omega | (simp at hc; omega))) rfl ?_
   refine WL.val (V.fieldAddr oJ (OV.p rfl)) rfl (WL.ld Tryz.isAgg3 rfl rfl ?_)
   refine WL.val (V.jF (OV.p rfl) (OV.p rfl) (fun hc => by first | omega | (simp at hc; omega))) rfl ?_
   refine WL.ad rfl rfl rfl ?_
   refine WL.sg rfl rfl (WL.nil (WC.seq (WC.sr (WL.sg rfl rfl (WL.nil (WC.block ?_))))))
   refine WC.loop (σ := Nat × Cw) (fun s => [(1, .slice A i cap), (2, .slice B q cap'), (3, ptr b3 0), (9, ptr bc 0), (10, ptr bd 0), (11, ptr bs 0), (13, .int .i64 nb), (14, .int .i64 (s.1 : Int))]) (fun s => s.2.A bc :: bK bd bc g :: T.A bs bd g :: Cells b3 23 [.int .i64 g.bl, .int .i64 g.pg, .int .i64 g.se, .int .i64 g.sb, .int .i64 g.fl] :: F) (fun s => s.1 ≤ q ∧ s.2.Ok ∧ s.2.g = g ∧ bS i i s.2.sem T.sem (su ss i) ∧ s.2.sem.left = 0) (fun s => q - s.1) (0, C) ⟨Nat.zero_le _, hC, hg', hHi, hl0⟩ (.cons rfl (.cons rfl (.cons rfl (.cons rfl (.cons rfl (.cons rfl (.cons (look_eq rfl (by rw [hnb])) (.cons rfl (.nil _))))))))) (fun w h => h) ?_
   rintro ⟨k, C3⟩ ⟨hk, Kr, g3, hH3, hl3⟩
   dsimp only at hk Kr g3 hH3 hl3 ⊢
   refine WC.seq (WC.sr (WL.mv rfl rfl (WL.mv rfl rfl (WL.val (V.len (t := 56) Tryz.runUnderlying56 (OV.p rfl)) rfl (WL.val (V.lss (OV.p rfl) (OV.p rfl)) rfl (WL.nil ?_))))))
   refine WC.cond rfl (fun hc3 => ?_) (fun hc3 => ?_)
   ·simp only [decide_eq_true_eq, decide_eq_false_iff_not] at hc3
    have hkq : k < q := by omega
    have htk : (k : Int).toNat = k := by omega
    obtain ⟨o, ho'⟩ : ∃ o, ws[k]? = some o := ⟨_, List.getElem?_eq_getElem (by omega)⟩
    have hel : ∀ (j : Nat) v, o.cells[j]? = some v → Rd K F (B.map (·.add (k * 4 + j))) v := fun j v hj => Wg.elem hw ho' hj
    obtain ⟨fl, hfl⟩ : ∃ fl : Nat, g.fl = (fl : Int) := ⟨g.fl.toNat, by omega⟩
    obtain ⟨h0, hh0⟩ : ∃ h0, h0 = (max o.from_ 0) % nb := ⟨_, rfl⟩
    have Uf := Int.emod_nonneg (max o.from_ 0) (show nb ≠ 0 by omega)
    have UQ := Int.emod_lt_of_pos (max o.from_ 0) (show 0 < nb by omega)
    rw [← hh0] at Uf UQ
    have hst : ∀ i : Nat, jq g o.from_ (i + 1) = jq g o.from_ i ++ [(h0 + (i : Int)) % nb] := fun i => by rw [Dc, ← hnb, ← hh0]
    refine WC.skip (WC.seq (WC.block (WC.sr (WL.mv rfl rfl (WL.mv rfl rfl ?_)))))
    refine WL.val (V.aC (v' := sp B (k * 4)) (V.dS Rp (OV.p rfl) (OV.p rfl) (fun hc => by omega) (fun hc => by rw [htk]; repeat (first | exact hel 0 _ rfl | apply Rd.up))) (fun _ => by rw [htk])) rfl ?_
    refine WL.val (V.CQ (vs := o.cells) ⟨Tryz.isAgg103, Tryz.sizeOf103⟩ (OV.p rfl) rfl (by decide) (fun _ j v hj => by repeat (first | exact hel j v hj | apply Rd.up))) rfl ?_
    refine WL.alloc (cs := [(.int .i64 0), (.int .i64 0), (.int .i64 0), (.int .i64 0)]) Tryz.zeroValue103 rfl rfl (fun b15 => ?_)
    refine WL.store (cs := [_, _, _, _]) Tryz.sizeOf103 (OV.p rfl) (OV.p rfl) rfl rfl rfl (by repeat (first | exact bA.here (cs' := [_, _, _, _]) rfl rfl | apply bA.up)) ?_
    refine WL.nil (WC.sr (WL.sg rfl rfl (WL.nil (WC.seq (WC.sr (WL.sg rfl rfl (WL.nil (WC.block ?_))))))))
    refine WC.loop (σ := Nat × Option Addr × Nat) (fun s => [(1, .slice A i cap), (2, .slice B q cap'), (3, ptr b3 0), (9, ptr bc 0), (10, ptr bd 0), (11, ptr bs 0), (13, .int .i64 nb), (14, .int .i64 (k : Int)), (15, ptr b15 0), (16, .slice s.2.1 s.1 s.2.2), (17, .int .i64 (s.1 : Int))]) (fun s => aU (.slice s.2.1 s.1 s.2.2) 3 1 s.1 (ints .i64 (jq g o.from_ s.1)) :: Cells b15 103 o.cells :: C3.A bc :: bK bd bc g :: T.A bs bd g :: Cells b3 23 [.int .i64 g.bl, .int .i64 g.pg, .int .i64 g.se, .int .i64 g.sb, .int .i64 g.fl] :: F) (fun s => s.1 ≤ fl) (fun s => fl - s.1) (0, none, 0) (Nat.zero_le _) (.cons rfl (.cons rfl (.cons rfl (.cons rfl (.cons rfl (.cons rfl (.cons rfl (.cons rfl (.cons rfl (.cons rfl (.cons rfl (.nil _)))))))))))) (fun w h => Sat.fO h _ _) ?_
    rintro ⟨p, Ap, cp⟩ hp
    dsimp only at hp ⊢
    refine WC.seq (WC.sr (WL.mv rfl rfl (WL.val (V.fieldAddr Nk (OV.p rfl)) rfl (WL.ld Tryz.isAgg3 rfl rfl ?_))))
    refine WL.val (V.lss (OV.p rfl) (OV.p rfl)) rfl (WL.mv rfl rfl (WL.av (oj := _) rfl rfl rfl GC.t (V.move (OV.p rfl)) rfl (WL.av (oj := _) rfl rfl rfl GC.t (V.fieldAddr oJ (OV.p rfl)) rfl ?_)))
    refine WL.av (oj := _) rfl rfl rfl GC.t (V.load Tryz.isAgg3 (OV.g rfl id) (fun _ => by repeat (first | exact Rd.here rfl | apply Rd.up))) rfl ?_
    refine WL.av (oj := _) rfl rfl rfl GC.t (V.lss (OV.g rfl id) (OV.g rfl id)) rfl (WL.val (V.aJ (OV.p rfl) (OV.g rfl id)) rfl (WL.mv rfl rfl (WL.av (oj := _) rfl rfl rfl GC.t (V.fieldAddr Iu (OV.p rfl)) rfl ?_)))
    refine WL.av (oj := _) rfl rfl rfl GC.t (V.load Tryz.isAgg3 (OV.g rfl id) (fun _ => by repeat (first | exact Rd.here rfl | apply Rd.up))) rfl ?_
    refine WL.av (oj := _) rfl rfl rfl GC.t (V.geq (OV.g rfl id) (OV.p rfl)) rfl (WL.val (V.aJ (OV.p rfl) (OV.g rfl id)) rfl (WL.nil ?_))
    refine WC.cond rfl (fun hc4 => ?_) (fun hc4 => ?_)
    ·simp only [Bool.and_eq_true, Bool.and_eq_false_iff, decide_eq_true_eq, decide_eq_false_iff_not] at hc4
     have h4 := hc4
     have hpf : p < fl := by omega
     have hmx : max o.from_ 0 = o.from_ := by omega
     refine WC.skip (WC.seq (WC.block (WC.region (WL.mv rfl rfl (WL.val (V.fieldAddr Iu (OV.p rfl)) rfl (WL.ld Tryz.isAgg3 rfl rfl ?_))))))
     refine WL.mv rfl rfl ?_
     refine WL.val (V.aC (v' := .int .i64 h0) (V.o8 (OV.p rfl) (OV.p rfl) (fun _ => by omega)) (fun _ => by rw [hh0, hmx])) rfl ?_
     refine WL.mv rfl rfl (WL.ad rfl rfl rfl ?_)
     refine WL.mv rfl rfl ?_
     refine WL.val (V.o8 (OV.p rfl) (OV.p rfl) (fun _ => by omega)) rfl ?_
     refine WL.buildSlice (E := 3) (cs := [_]) (vs := [(0, _)]) ⟨OV.p rfl, trivial⟩ rfl (bT _) rfl (fun Vz => ?_)
     refine WL.sub (Sub.refl _) (fun w h => h.p1) ?_
     refine WL.append (m := p) (q := 1) (news := [.int .i64 ((h0 + (p : Int)) % nb)]) Tryz.underlying24 el3 (OV.p rfl) (OV.p rfl) (Seq.all rfl) (by intro u hu; rw [List.mem_singleton.1 hu]; rfl) (by omega) rfl rfl (fun A5 c5 EJ ny => ?_)
     refine WL.sg rfl rfl (WL.nil (WC.region (WL.mv rfl rfl (WL.ad rfl rfl rfl ?_))))
     refine WL.sg rfl rfl (WL.nil ?_)
     refine ⟨rfl, ?_⟩
     refine ⟨(p + 1, A5, c5), hpf, (by show fl - (p + 1) < fl - p; omega), .cons rfl (.cons rfl (.cons rfl (.cons rfl (.cons rfl (.cons rfl (.cons rfl (.cons rfl (.cons rfl (.cons rfl (.cons (look_eq rfl (by simp)) (.nil _))))))))))), fun w h => ?_⟩
     dsimp only
     rw [hst, bf]
     exact h.sel 3 [0, 2] rfl
    ·simp only [Bool.and_eq_true, Bool.and_eq_false_iff, decide_eq_true_eq, decide_eq_false_iff_not] at hc4
     have h4 := hc4
     refine WC.exit (WC.region (WL.mv rfl rfl (WL.mv rfl rfl (WL.mv rfl rfl (WL.val (V.len (t := 38) Tryz.runUnderlying38 (OV.p rfl)) rfl (WL.val (V.fieldAddr NW (OV.p rfl)) rfl (WL.ld Tryz.isAgg3 rfl rfl ?_)))))))
     refine WL.val (V.fieldAddr Nt (OV.p rfl)) rfl (WL.ld Tryz.isAgg3 rfl rfl ?_)
     refine WL.mv rfl rfl ?_
     refine WL.sub (H' := C3.A bc :: bK bd bc g :: aU (.slice Ap p cp) 3 1 p (ints .i64 (jq g o.from_ p)) :: T.A bs bd g :: Cells b3 23 [.int .i64 g.bl, .int .i64 g.pg, .int .i64 g.se, .int .i64 g.sb, .int .i64 g.fl] :: F) (Sub.refl _) (fun w h => h.sel 5 [2, 3, 0, 4] rfl) ?_
     refine WL.call (vs := [_, _, _, _, _, _]) Tryz.call67 ⟨OV.p rfl, OV.p rfl, OV.p rfl, OV.p rfl, OV.p rfl, OV.p rfl, trivial⟩ (xR Kr g3 (by omega) hH3.gV (aj := i) (by omega) o.aB o.page (aU.seq (by rw [aG, pW, Nat.mul_one])) (by omega)) rfl ?_
     rintro _ _ ⟨C4, M6, g4, s4, rfl⟩
     obtain ⟨k1, k2, k3⟩ := hH3.QX o.aB o.page (xs := jq g o.from_ p) (by rw [show C3.sem.g = g from g3]; exact GK Iw) (by rw [pW, show C3.sem.g = g from g3]; omega)
     rw [← s4] at k1 k2
     refine WL.nil (WC.region (WL.mv rfl rfl (WL.ad rfl rfl rfl ?_)))
     refine WL.sg rfl rfl (WL.nil ?_)
     refine ⟨rfl, ?_⟩
     exact ⟨(k + 1, C4), ⟨hkq, M6, g4, k1, k2.trans hl3⟩, (by show q - (k + 1) < q - k; omega), .cons rfl (.cons rfl (.cons rfl (.cons rfl (.cons rfl (.cons rfl (.cons rfl (.cons (look_eq rfl (by simp)) (.nil _)))))))), fun w h => h.sel 4 [0, 1, 3] rfl⟩
   ·simp only [decide_eq_true_eq, decide_eq_false_iff_not] at hc3
    refine WC.exit (WC.sr (WL.mv rfl rfl (WL.mv rfl rfl (WL.mv rfl rfl (WL.sg rfl rfl (WL.sg rfl rfl (WL.sg rfl rfl (WL.nil (WC.ret ?_)))))))))
    exact au.ret (H' := C3.A bc :: bK bd bc g :: T.A bs bd g :: F) (aO.r9 rfl rfl rfl rfl) (fun w h => h.sel 4 [0, 1, 2] rfl) ⟨bc, bd, bs, C3, T, Kr, g3, hT, hH3, hl3, rfl, rfl⟩
theorem wN {g : Geo} {C : Cw} {T : bC} {bc bd bs n : Nat} (hC : C.Ok) (hg : C.g = g) (hT : T.Ok g) {A : Option Addr} {m cap : Nat} {ss : List ByteArray} (hs : Seq K F A m 1 (strs ss)) (hl : ss.length = m) (hH : bS m n C.sem T.sem (su ss m)) :
    Does Tryz.prog 35 #[ptr bs 0, .slice A m cap] K (C.A bc :: bK bd bc g :: T.A bs bd g :: F)
    (fun v H' => v = .bool true ∧ ∃ T' : bC, T'.Ok g ∧ T'.sem = T.sem ∧ H' = C.A bc :: bK bd bc g :: T'.A bs bd g :: F) := by
  have hbl := hH.bl
  refine Does.enter Tryz.func35 rfl Tryz.ntmps35 rfl ?_
  simp only [aI, Nat.reduceAdd]
  refine WC.sr (WL.sg rfl rfl (WL.nil (WC.seq (WC.sr (WL.sg rfl rfl (WL.nil (WC.block ?_)))))))
  refine WC.loop (σ := Nat × bC) (fun s => [(0, ptr bs 0), (1, .slice A m cap), (5, .int .i64 (s.1 : Int))]) (fun s => C.A bc :: bK bd bc g :: s.2.A bs bd g :: F) (fun s => s.1 ≤ m ∧ s.2.Ok g ∧ s.2.sem = T.sem) (fun s => m - s.1) (0, T) ⟨Nat.zero_le _, hT, rfl⟩ (.cons rfl (.cons rfl (.cons rfl (.nil _)))) (fun w h => h) ?_
  rintro ⟨i, T2⟩ ⟨hi, nM, e2⟩
  dsimp only at hi nM e2 ⊢
  refine WC.seq (WC.sr (WL.mv rfl rfl (WL.mv rfl rfl (WL.val (V.len (t := 38) Tryz.runUnderlying38 (OV.p rfl)) rfl (WL.val (V.lss (OV.p rfl) (OV.p rfl)) rfl (WL.nil ?_))))))
  refine WC.cond rfl (fun hc0 => ?_) (fun hc0 => ?_)
  ·simp only [decide_eq_true_eq, decide_eq_false_iff_not] at hc0
   have him : i < m := by omega
   have hti : (i : Int).toNat = i := by omega
   have hrd : Rd K F (A.map (·.add ((i : Int).toNat * 1))) (.string (ss.getD i ByteArray.empty)) := by rw [hti]; exact Seq.Gr hs him
   obtain ⟨N, hG⟩ : ∃ N, bN C.sem T2.sem (i : Int) = (⟨0, o7 ss i, N⟩, T2.sem) := by
     rw [e2]
     exact ⟨_, hH.rd (qA ss m) him⟩
   refine WC.skip (WC.seq (WC.block (WC.sr (WL.mv rfl rfl (WL.mv rfl rfl (WL.call (vs := [_, _]) Tryz.call36 ⟨OV.p rfl, OV.p rfl, trivial⟩ (oD hC hg nM (i : Int)) rfl ?_))))))
   rintro _ _ ⟨A9, c9, T3, jO, t3, rfl, rfl⟩
   rw [hG] at t3 ⊢
   dsimp only at t3 ⊢
   have U0 : ∀ {H : List ak}, Seq K (aU (.slice A9 (o7 ss i).length c9) 5 1 (o7 ss i).length (aA .u8 (o7 ss i)) :: H) A9 (o7 ss i).length 1 (ints .u8 (aZ (o7 ss i))) := fun {H} => by rw [← l5]; exact aU.seq (by rw [aH, Nat.mul_one])
   refine WL.mv rfl rfl (WL.xt rfl rfl rfl (WL.xt rfl rfl rfl (WL.xt rfl rfl rfl (WL.sg rfl rfl (WL.sg rfl rfl (WL.sg rfl rfl (WL.nil (WC.seq ?_))))))))
   refine WC.eG (by kernel_rfl) (by kernel_rfl) ?_
   refine WQ.val (V.move (OV.p rfl)) rfl (WQ.val (V.neq (OV.p rfl) (OV.p rfl)) rfl (WQ.val (V.move (OV.p rfl)) rfl (WQ.av (oj := _) rfl rfl rfl GC.f (V.move (OV.p rfl)) rfl ?_)))
   refine WQ.av (oj := _) rfl rfl rfl GC.f (V.Ac (xs := aZ (o7 ss i)) Tryz.underlying43 Tryz.underlying5 Tryz.underlying9 (OV.g rfl id) (fun _ => U0)) rfl ?_
   refine WQ.av (oj := _) rfl rfl rfl GC.f (V.move (OV.p rfl)) rfl (WQ.av (oj := _) rfl rfl rfl GC.f (V.move (OV.p rfl)) rfl ?_)
   refine WQ.av (oj := _) rfl rfl rfl GC.f (V.dS Pf (OV.g rfl id) (OV.g rfl id) (fun hc => by omega) (fun hc => by repeat (first | exact hrd | apply Rd.up))) rfl ?_
   refine WQ.av (oj := _) rfl rfl rfl GC.f (V.load Tryz.isAgg9 (OV.g rfl id) (fun hc => by repeat (first | exact hrd | apply Rd.up))) rfl ?_
   refine WQ.av (oj := _) rfl rfl rfl GC.f (V.RY (OV.g rfl id) (OV.g rfl id)) rfl (WQ.val (V.bH (OV.p rfl) (OV.g rfl id)) rfl (WQ.nil ?_))
   refine WC.aQ rfl ((by rw [K5]; simp)) ?_
   refine WC.skip (WC.region (WL.mv rfl rfl (WL.ad rfl rfl rfl ?_)))
   refine WL.sg rfl rfl (WL.nil ?_)
   refine ⟨rfl, ?_⟩
   exact ⟨(i + 1, T3), ⟨him, jO, t3.trans e2⟩, (by show m - (i + 1) < m - i; omega), .cons rfl (.cons rfl (.cons (look_eq rfl (by simp)) (.nil _))), fun w h => h.tail⟩
  ·simp only [decide_eq_true_eq, decide_eq_false_iff_not] at hc0
   refine WC.exit (WC.sr (WL.sg rfl rfl (WL.nil (WC.ret ?_))))
   exact au.ret (H' := C.A bc :: bK bd bc g :: T2.A bs bd g :: F) (aO.tmp rfl rfl) (fun w h => h) ⟨rfl, T2, nM, e2, rfl⟩
def fP (l : List Int) (limit : Int) : Nat → List Int
  | 0 => []
  | k + 1 => if limit ≤ l.getD k 0 then fP l limit k ++ [(k : Int)] else fP l limit k
theorem wI (l : List Int) (limit : Int) : ∀ k, (fP l limit k).length ≤ k
  | 0 => Nat.le_refl _
  | k + 1 => by
    have := wI l limit k
    rw [fP]
    split
    · rw [List.length_append]; exact Nat.succ_le_succ this
    · omega
theorem GA {A : Option Addr} {m cap : Nat} {l : List Int} (limit : Int) (hs : Seq K F A m 1 (ints .i64 l)) (hl : l.length = m) (hm : m ≤ 1000000) : Does Tryz.prog 37 #[.slice A m cap, .int .i64 limit] K F
    (fun v H' => ∃ A' c', v = .slice A' (fP l limit m).length c' ∧ H' = aU (.slice A' (fP l limit m).length c') 3 1 (fP l limit m).length (ints .i64 (fP l limit m)) :: F) := by
  refine Does.enter Tryz.func37 rfl Tryz.ntmps37 rfl ?_
  simp only [aI, Nat.reduceAdd]
  refine WC.sr (WL.sg rfl rfl (WL.nil (WC.sr (WL.sg rfl rfl (WL.nil (WC.seq (WC.sr (WL.sg rfl rfl (WL.nil (WC.block ?_))))))))))
  refine WC.loop (σ := Nat × Option Addr × Nat) (fun s => [(0, .slice A m cap), (1, .int .i64 limit), (5, .slice s.2.1 (fP l limit s.1).length s.2.2), (6, .int .i64 (s.1 : Int))]) (fun s => aU (.slice s.2.1 (fP l limit s.1).length s.2.2) 3 1 (fP l limit s.1).length (ints .i64 (fP l limit s.1)) :: F) (fun s => s.1 ≤ m) (fun s => m - s.1) (0, none, 0) (Nat.zero_le _) (.cons rfl (.cons rfl (.cons rfl (.cons rfl (.nil _))))) (fun w h => Sat.fO h _ _) ?_
  rintro ⟨k, A2, c2⟩ hk
  dsimp only at hk ⊢
  have hwl := wI l limit k
  refine WC.seq (WC.sr (WL.mv rfl rfl (WL.mv rfl rfl (WL.val (V.len (t := 24) Tryz.runUnderlying24 (OV.p rfl)) rfl (WL.val (V.lss (OV.p rfl) (OV.p rfl)) rfl (WL.nil ?_))))))
  refine WC.cond rfl (fun hc0 => ?_) (fun hc0 => ?_)
  ·simp only [decide_eq_true_eq, decide_eq_false_iff_not] at hc0
   have hkm : k < m := by omega
   have htk : (k : Int).toNat = k := by omega
   have hrd : Rd K F (A.map (·.add ((k : Int).toNat * 1))) (.int .i64 (l.getD k 0)) := by
     have := hs.rd k (.int .i64 (l.getD k 0)) (by simp [ints, List.getD, show k < l.length by omega])
     rwa [htk, Nat.mul_one]
   refine WC.skip (WC.seq (WC.block (WC.sr (WL.mv rfl rfl (WL.mv rfl rfl ?_)))))
   refine WL.val (V.dS bZ (OV.p rfl) (OV.p rfl) (fun _ => by omega) (fun _ => by repeat (first | exact hrd | apply Rd.up))) rfl ?_
   refine WL.val (V.load Tryz.isAgg3 (OV.p rfl) (fun _ => by repeat (first | exact hrd | apply Rd.up))) rfl ?_
   refine WL.mv rfl rfl (WL.val (V.geq (OV.p rfl) (OV.p rfl)) rfl (WL.nil ?_))
   refine WC.cond rfl (fun hc1 => ?_) (fun hc1 => ?_)
   ·simp only [decide_eq_true_eq, decide_eq_false_iff_not] at hc1
    have h1 := hc1
    have hws : fP l limit (k + 1) = fP l limit k ++ [(k : Int)] := by rw [fP, if_pos (by omega)]
    refine WC.region (WL.mv rfl rfl (WL.mv rfl rfl ?_))
    refine WL.buildSlice (E := 3) (cs := [_]) (vs := [(0, _)]) ⟨OV.p rfl, trivial⟩ rfl (bT _) rfl (fun PV => ?_)
    refine WL.sub (Sub.refl _) (fun w h => h.p1) ?_
    refine WL.append (m := (fP l limit k).length) (q := 1) (news := [.int .i64 (k : Int)]) Tryz.underlying24 el3 (OV.p rfl) (OV.p rfl) (Seq.all rfl) (by intro u hu; rw [List.mem_singleton.1 hu]; rfl) (by omega) rfl rfl (fun A5 c5 EJ ny => ?_)
    refine WL.sg rfl rfl (WL.nil (WC.region (WL.mv rfl rfl (WL.ad rfl rfl rfl ?_))))
    refine WL.sg rfl rfl (WL.nil ?_)
    refine ⟨rfl, ?_⟩
    first
    | exact ⟨(k + 1, A5, c5), hkm, (by show m - (k + 1) < m - k; omega), .cons rfl (.cons rfl (.cons (look_eq rfl (by dsimp only; rw [hws, List.length_append]; rfl)) (.cons (look_eq rfl (by simp)) (.nil _)))), fun w h => by
        dsimp only
        rw [hws, List.length_append, bf]
        exact h.sel 2 [0] rfl⟩
    | exact ⟨(k + 1, A2, c2), hkm, (by show m - (k + 1) < m - k; omega), .cons rfl (.cons rfl (.cons (look_eq rfl (by dsimp only; rw [hws])) (.cons (look_eq rfl (by simp)) (.nil _)))), fun w h => by
        dsimp only
        rw [hws]
        exact h⟩
   ·simp only [decide_eq_true_eq, decide_eq_false_iff_not] at hc1
    have h1 := hc1
    have hws : fP l limit (k + 1) = fP l limit k := by rw [fP, if_neg (by omega)]
    refine WC.skip (WC.region (WL.mv rfl rfl (WL.ad rfl rfl rfl ?_)))
    refine WL.sg rfl rfl (WL.nil ?_)
    refine ⟨rfl, ?_⟩
    first
    | exact ⟨(k + 1, A5, c5), hkm, (by show m - (k + 1) < m - k; omega), .cons rfl (.cons rfl (.cons (look_eq rfl (by dsimp only; rw [hws, List.length_append]; rfl)) (.cons (look_eq rfl (by simp)) (.nil _)))), fun w h => by
        dsimp only
        rw [hws, List.length_append, bf]
        exact h.sel 2 [0] rfl⟩
    | exact ⟨(k + 1, A2, c2), hkm, (by show m - (k + 1) < m - k; omega), .cons rfl (.cons rfl (.cons (look_eq rfl (by dsimp only; rw [hws])) (.cons (look_eq rfl (by simp)) (.nil _)))), fun w h => by
        dsimp only
        rw [hws]
        exact h⟩
  ·simp only [decide_eq_true_eq, decide_eq_false_iff_not] at hc0
   refine WC.exit (WC.sr (WL.mv rfl rfl (WL.sg rfl rfl (WL.nil (WC.ret ?_)))))
   obtain rfl : k = m := by omega
   exact au.ret (H' := aU (.slice A2 (fP l limit k).length c2) 3 1 (fP l limit k).length (ints .i64 (fP l limit k)) :: F) (aO.tmp rfl rfl) (fun w h => h) ⟨A2, c2, rfl, rfl⟩
end
theorem oF {A B : Option Addr} {m q cap cap' : Nat} {xs ys : List Int} (K : World) (F : List ak) (ha : Seq K F A m 1 (ints .i64 xs)) (hb : Seq K F B q 1 (ints .i64 ys)) (hm : (m : Int) ≤ 9223372036854775807) :
    aL Tryz.prog 34 #[.slice A m cap, .slice B q cap'] K F (.bool (decide (xs = ys))) := by
  have hl : xs.length = m := by simpa [ints] using ha.len
  have hl' : ys.length = q := by simpa [ints] using hb.len
  refine Does.enter Tryz.func34 rfl Tryz.ntmps34 rfl ?_
  simp only [aI, Nat.reduceAdd]
  refine WC.sr (WL.sg rfl rfl (WL.nil (WC.seq (WC.sr (WL.mv rfl rfl (WL.val (V.len (t := 24) Tryz.runUnderlying24 (OV.p rfl)) rfl (WL.mv rfl rfl (WL.val (V.len (t := 24) Tryz.runUnderlying24 (OV.p rfl)) rfl (WL.val (V.neq (OV.p rfl) (OV.p rfl)) rfl (WL.nil ?_))))))))))
  refine WC.cond rfl (fun hc0 => ?_) (fun hc0 => ?_)
  ·simp only [decide_eq_true_eq, decide_eq_false_iff_not, Bool.and_eq_true, Bool.or_eq_true, Bool.and_eq_false_iff, Bool.or_eq_false_iff, Bool.not_eq_true', Bool.not_eq_false', Bool.not_eq_true, Bool.not_eq_false, Int.not_lt, Int.not_le] at hc0
   refine WC.sr (WL.sg rfl rfl (WL.nil (WC.ret ?_)))
   refine au.ret (H' := F) (aO.tmp rfl rfl) (fun w h => by repeat (first | exact h | replace h := h.tail)) ⟨?_, rfl⟩
   rw [decide_eq_false]; intro h; subst h; omega
  ·simp only [decide_eq_true_eq, decide_eq_false_iff_not, Bool.and_eq_true, Bool.or_eq_true, Bool.and_eq_false_iff, Bool.or_eq_false_iff, Bool.not_eq_true', Bool.not_eq_false', Bool.not_eq_true, Bool.not_eq_false, Int.not_lt, Int.not_le] at hc0
   obtain rfl : m = q := by omega
   refine WC.skip (WC.seq (WC.sr (WL.sg rfl rfl (WL.nil (WC.block ?_)))))
   refine WC.loop (σ := Nat) (fun k => [(0, .slice A m cap), (1, .slice B m cap'), (5, .int .i64 (k : Int))]) (fun _ => F) (fun k => k ≤ m ∧ ∀ i, i < k → xs.getD i 0 = ys.getD i 0) (fun k => m - k) 0 ⟨Nat.zero_le _, fun i hi => absurd hi (Nat.not_lt_zero i)⟩ (.cons rfl (.cons rfl (.cons rfl (.nil _)))) (fun w h => h) ?_
   rintro k ⟨hk, heq⟩
   refine WC.seq (WC.sr (WL.mv rfl rfl (WL.mv rfl rfl (WL.val (V.len (t := 24) Tryz.runUnderlying24 (OV.p rfl)) rfl (WL.val (V.lss (OV.p rfl) (OV.p rfl)) rfl (WL.nil ?_))))))
   refine WC.cond rfl (fun hc1 => ?_) (fun hc1 => ?_)
   ·try simp only [decide_eq_true_eq, decide_eq_false_iff_not, Bool.and_eq_true, Bool.or_eq_true, Bool.and_eq_false_iff, Bool.or_eq_false_iff, Bool.not_eq_true', Bool.not_eq_false', Bool.not_eq_true, Bool.not_eq_false, Int.not_lt, Int.not_le] at hc1
    refine WC.skip (WC.seq (WC.block (WC.seq ?_)))
    refine WC.eG (by kernel_rfl) (by kernel_rfl) ?_
    refine WQ.val (V.move (OV.p rfl)) rfl (WQ.val (V.move (OV.p rfl)) rfl ?_)
    refine WQ.val (V.dS bZ (OV.p rfl) (OV.p rfl) (fun hc => by first | omega | (simp at hc; omega)) (fun hc => by repeat (first | exact Seq.iY ha (by first | omega | (simp at hc; omega)) | apply Rd.up))) rfl ?_
    refine WQ.val (V.load Tryz.isAgg3 (OV.p rfl) (fun hc => by repeat (first | exact Seq.iY ha (by first | omega | (simp at hc; omega)) | apply Rd.up))) rfl ?_
    refine WQ.val (V.move (OV.p rfl)) rfl (WQ.val (V.move (OV.p rfl)) rfl ?_)
    refine WQ.val (V.dS bZ (OV.p rfl) (OV.p rfl) (fun hc => by first | omega | (simp at hc; omega)) (fun hc => by repeat (first | exact Seq.iY hb (by first | omega | (simp at hc; omega)) | apply Rd.up))) rfl ?_
    refine WQ.val (V.load Tryz.isAgg3 (OV.p rfl) (fun hc => by repeat (first | exact Seq.iY hb (by first | omega | (simp at hc; omega)) | apply Rd.up))) rfl ?_
    refine WQ.val (V.neq (OV.p rfl) (OV.p rfl)) rfl (WQ.nil ?_)
    refine WC.cond rfl (fun hc2 => ?_) (fun hc2 => ?_)
    ·try simp only [decide_eq_true_eq, decide_eq_false_iff_not, Bool.and_eq_true, Bool.or_eq_true, Bool.and_eq_false_iff, Bool.or_eq_false_iff, Bool.not_eq_true', Bool.not_eq_false', Bool.not_eq_true, Bool.not_eq_false, Int.not_lt, Int.not_le] at hc2
     refine WC.sr (WL.sg rfl rfl (WL.nil (WC.ret ?_)))
     refine au.ret (H' := F) (aO.tmp rfl rfl) (fun w h => by repeat (first | exact h | replace h := h.tail)) ⟨?_, rfl⟩
     rw [decide_eq_false]; intro h; subst h; exact hc2 rfl
    ·try simp only [decide_eq_true_eq, decide_eq_false_iff_not, Bool.and_eq_true, Bool.or_eq_true, Bool.and_eq_false_iff, Bool.or_eq_false_iff, Bool.not_eq_true', Bool.not_eq_false', Bool.not_eq_true, Bool.not_eq_false, Int.not_lt, Int.not_le] at hc2
     refine WC.skip (WC.region (WL.mv rfl rfl (WL.ad rfl rfl rfl ?_)))
     refine WL.sg rfl rfl (WL.nil ?_)
     refine ⟨rfl, ?_⟩
     refine ⟨k + 1, ⟨by omega, fun i hi => ?_⟩, (by show m - (k + 1) < m - k; omega), .cons rfl (.cons rfl (.cons (look_eq rfl (by simp)) (.nil _))), fun w h => h⟩
     rcases Nat.lt_succ_iff_lt_or_eq.1 hi with h | h
     · exact heq i h
     · subst h; simpa using hc2
   ·try simp only [decide_eq_true_eq, decide_eq_false_iff_not, Bool.and_eq_true, Bool.or_eq_true, Bool.and_eq_false_iff, Bool.or_eq_false_iff, Bool.not_eq_true', Bool.not_eq_false', Bool.not_eq_true, Bool.not_eq_false, Int.not_lt, Int.not_le] at hc1
    refine WC.exit (WC.sr (WL.sg rfl rfl (WL.nil (WC.ret ?_))))
    refine au.ret (H' := F) (aO.tmp rfl rfl) (fun w h => by repeat (first | exact h | replace h := h.tail)) ⟨?_, rfl⟩
    rw [decide_eq_true]
    apply List.ext_getElem (by omega)
    intro i h1 h2
    have := heq i (by omega)
    simpa [List.getD, h1, h2] using this
end Go.Proofs.YtcmojpiokjhmhaaGreat
