/- attach: byNumber, whole. -/
import Derived.Test.YtcmojpiokjhmhaaT2
namespace Go.Proofs.Ytcmojpiokjhmhaa
open Go.Sl Go.RowKit
set_option linter.unusedVariables false
set_option linter.unusedSimpArgs false
set_option maxRecDepth 20000

def cmpI (x y : Int) : Int := if x < y then -1 else if y < x then 1 else 0
def orI (a b : Int) : Int := if a ≠ 0 then a else b
def cmpN (x y : Fd) : Int := orI (cmpI x.hd.num y.hd.num) (cmpI y.block x.block)
def cmpS (x y : Fd) : Int := orI (cmpI x.hd.num y.hd.num) (cmpI x.block y.block)
def cmpM (x y : Fd) : Int := cmpI x.hd.num y.hd.num
section
variable {K : World} {F : List Assn}
theorem cmp_isNaN (x : Int) : Tells Try.prog 16 #[.int .i64 x] K F (.bool false) := by
  refine Does.enter Try.func16 rfl Try.ntmps16 rfl ?_
  simp only [env0, Nat.reduceAdd]
  refine WC.sr ?_
  refine WL.sg rfl rfl ?_
  refine WL.nil ?_
  refine WC.sr ?_
  refine WL.mv rfl rfl ?_
  refine WL.mv rfl rfl ?_
  refine WL.val (V.neq (OV.p rfl) (OV.p rfl)) rfl ?_
  refine WL.sg rfl rfl ?_
  refine WL.nil ?_
  refine WC.ret ?_
  exact BodyQ.ret (H' := F) (Res.tmp rfl rfl) (fun w h => h) ⟨by simp, rfl⟩
theorem cmp_Compare (x y : Int) : Tells Try.prog 11 #[.int .i64 x, .int .i64 y] K F (.int .i64 (cmpI x y)) := by
  refine Does.enter Try.func11 rfl Try.ntmps11 rfl ?_
  simp only [env0, Nat.reduceAdd]
  refine WC.sr ?_
  refine WL.sg rfl rfl ?_
  refine WL.nil ?_
  refine WC.sr ?_
  refine WL.mv rfl rfl ?_
  refine WL.call (vs := [_]) Try.call16 ⟨OV.p rfl, trivial⟩ (cmp_isNaN _) rfl ?_
  rintro _ H0 ⟨rfl, h0⟩
  subst H0
  refine WL.sg rfl rfl ?_
  refine WL.nil ?_
  refine WC.sr ?_
  refine WL.mv rfl rfl ?_
  refine WL.call (vs := [_]) Try.call16 ⟨OV.p rfl, trivial⟩ (cmp_isNaN _) rfl ?_
  rintro _ H0 ⟨rfl, h0⟩
  subst H0
  refine WL.sg rfl rfl ?_
  refine WL.nil ?_
  refine WC.seq ?_
  refine WC.sr ?_
  refine WL.mv rfl rfl ?_
  refine WL.nil ?_
  refine WC.condF' rfl (by first | rfl | (simp; done) | (simp; omega)) ?_
  refine WC.skip ?_
  refine WC.seq ?_
  refine WC.sr ?_
  refine WL.mv rfl rfl ?_
  refine WL.nil ?_
  refine WC.condF' rfl (by first | rfl | (simp; done) | (simp; omega)) ?_
  refine WC.skip ?_
  refine WC.seq ?_
  refine WC.sr ?_
  refine WL.mv rfl rfl ?_
  refine WL.mv rfl rfl ?_
  refine WL.val (V.lss (OV.p rfl) (OV.p rfl)) rfl ?_
  refine WL.nil ?_
  refine WC.cond rfl (fun hc3 => ?_) (fun hc3 => ?_)
  ·simp only [decide_eq_true_eq, decide_eq_false_iff_not] at hc3
   have h3 := hc3
   refine WC.sr ?_
   refine WL.sg rfl rfl ?_
   refine WL.nil ?_
   refine WC.ret ?_
   exact BodyQ.ret (H' := F) (Res.tmp rfl rfl) (fun w h => h) ⟨by unfold cmpI; rw [if_pos h3], rfl⟩
  ·simp only [decide_eq_true_eq, decide_eq_false_iff_not] at hc3
   have h3 := hc3
   refine WC.skip ?_
   refine WC.seq ?_
   refine WC.sr ?_
   refine WL.mv rfl rfl ?_
   refine WL.mv rfl rfl ?_
   refine WL.val (V.gtr (OV.p rfl) (OV.p rfl)) rfl ?_
   refine WL.nil ?_
   refine WC.cond rfl (fun hc4 => ?_) (fun hc4 => ?_)
   ·simp only [decide_eq_true_eq, decide_eq_false_iff_not] at hc4
    have h4 := hc4
    refine WC.sr ?_
    refine WL.sg rfl rfl ?_
    refine WL.nil ?_
    refine WC.ret ?_
    exact BodyQ.ret (H' := F) (Res.tmp rfl rfl) (fun w h => h) ⟨by unfold cmpI; rw [if_neg h3, if_pos (by omega)], rfl⟩
   ·simp only [decide_eq_true_eq, decide_eq_false_iff_not] at hc4
    have h4 := hc4
    refine WC.skip ?_
    refine WC.sr ?_
    refine WL.sg rfl rfl ?_
    refine WL.nil ?_
    refine WC.ret ?_
    exact BodyQ.ret (H' := F) (Res.tmp rfl rfl) (fun w h => h) ⟨by unfold cmpI; rw [if_neg h3, if_neg (by omega)], rfl⟩
theorem cmp_Or2 {B : Option Addr} {cap : Nat} {x y : Int} (hq : Seq K F B 2 1 [.int .i64 x, .int .i64 y]) : Tells Try.prog 15 #[.slice B 2 cap] K F (.int .i64 (orI x y)) := by
  have rd : ∀ (i : Nat) v, [Value.int .i64 x, .int .i64 y][i]? = some v → Rd K F (B.map (·.add (i * 1))) v := fun i v hi => by rw [Nat.mul_one]; exact hq.rd i v hi
  refine Does.enter Try.func15 rfl Try.ntmps15 rfl ?_
  simp only [env0, Nat.reduceAdd]
  refine WC.sr ?_
  refine WL.sg rfl rfl ?_
  refine WL.nil ?_
  refine WC.sr ?_
  refine WL.sg rfl rfl ?_
  refine WL.nil ?_
  refine WC.seq ?_
  refine WC.sr ?_
  refine WL.mv rfl rfl ?_
  refine WL.val (V.len (t := 27) Try.runUnderlying27 (OV.p rfl)) rfl ?_
  refine WL.mv rfl rfl ?_
  refine WL.nil ?_
  refine WC.block ?_
  refine WC.rounds 3 ?_
  refine WC.sr ?_
  refine WL.val (V.lss (OV.p rfl) (OV.p rfl)) rfl ?_
  refine WL.nil ?_
  refine WC.seq ?_
  refine WC.condT' rfl (by first | rfl | (simp; done) | (simp; omega)) ?_
  refine WC.skip ?_
  refine WC.seq ?_
  refine WC.block ?_
  refine WC.sr ?_
  refine WL.val (V.idxS st27 (OV.p rfl) (OV.p rfl) (fun _ => by decide) (fun _ => by first | exact rd 0 _ rfl | exact rd 1 _ rfl)) rfl ?_
  refine WL.val (V.load Try.isAgg3 (OV.p rfl) (fun _ => by first | exact rd 0 _ rfl | exact rd 1 _ rfl)) rfl ?_
  refine WL.sg rfl rfl ?_
  refine WL.nil ?_
  refine WC.sr ?_
  refine WL.mv rfl rfl ?_
  refine WL.mv rfl rfl ?_
  refine WL.val (V.neq (OV.p rfl) (OV.p rfl)) rfl ?_
  refine WL.nil ?_
  refine WC.cond rfl (fun hc1 => ?_) (fun hc1 => ?_)
  ·simp only [Bool.not_eq_true', Bool.not_eq_false', decide_eq_true_eq, decide_eq_false_iff_not] at hc1
   have h1 := hc1
   refine WC.sr ?_
   refine WL.mv rfl rfl ?_
   refine WL.sg rfl rfl ?_
   refine WL.nil ?_
   refine WC.ret ?_
   first
   | exact BodyQ.ret (H' := F) (Res.tmp rfl rfl) (fun w h => h) ⟨by unfold orI; rw [if_pos h1], rfl⟩
   | (refine BodyQ.ret (H' := F) (Res.tmp rfl rfl) (fun w h => h) ⟨?_, rfl⟩
      unfold orI
      rw [if_neg (by omega)])
  ·simp only [Bool.not_eq_true', Bool.not_eq_false', decide_eq_true_eq, decide_eq_false_iff_not] at hc1
   have h1 := hc1
   refine WC.skip ?_
   refine WC.region ?_
   refine WL.val (V.val_eq (v' := .int .i64 (1)) (V.add (OV.p rfl) (OV.p rfl)) (fun _ => rfl)) rfl ?_
   refine WL.mv rfl rfl ?_
   refine WL.nil ?_
   refine WC.sr ?_
   refine WL.val (V.lss (OV.p rfl) (OV.p rfl)) rfl ?_
   refine WL.nil ?_
   refine WC.seq ?_
   refine WC.condT' rfl (by first | rfl | (simp; done) | (simp; omega)) ?_
   refine WC.skip ?_
   refine WC.seq ?_
   refine WC.block ?_
   refine WC.sr ?_
   refine WL.val (V.idxS st27 (OV.p rfl) (OV.p rfl) (fun _ => by decide) (fun _ => by first | exact rd 0 _ rfl | exact rd 1 _ rfl)) rfl ?_
   refine WL.val (V.load Try.isAgg3 (OV.p rfl) (fun _ => by first | exact rd 0 _ rfl | exact rd 1 _ rfl)) rfl ?_
   refine WL.sg rfl rfl ?_
   refine WL.nil ?_
   refine WC.sr ?_
   refine WL.mv rfl rfl ?_
   refine WL.mv rfl rfl ?_
   refine WL.val (V.neq (OV.p rfl) (OV.p rfl)) rfl ?_
   refine WL.nil ?_
   refine WC.cond rfl (fun hc1' => ?_) (fun hc1' => ?_)
   ·simp only [Bool.not_eq_true', Bool.not_eq_false', decide_eq_true_eq, decide_eq_false_iff_not] at hc1'
    have h1 := hc1'
    refine WC.sr ?_
    refine WL.mv rfl rfl ?_
    refine WL.sg rfl rfl ?_
    refine WL.nil ?_
    refine WC.ret ?_
    first
    | exact BodyQ.ret (H' := F) (Res.tmp rfl rfl) (fun w h => h) ⟨by unfold orI; rw [if_pos h1], rfl⟩
    | (refine BodyQ.ret (H' := F) (Res.tmp rfl rfl) (fun w h => h) ⟨?_, rfl⟩
       unfold orI
       rw [if_neg (by omega)])
   ·simp only [Bool.not_eq_true', Bool.not_eq_false', decide_eq_true_eq, decide_eq_false_iff_not] at hc1'
    have h1 := hc1'
    refine WC.skip ?_
    refine WC.region ?_
    refine WL.val (V.val_eq (v' := .int .i64 (2)) (V.add (OV.p rfl) (OV.p rfl)) (fun _ => rfl)) rfl ?_
    refine WL.mv rfl rfl ?_
    refine WL.nil ?_
    refine WC.sr ?_
    refine WL.val (V.lss (OV.p rfl) (OV.p rfl)) rfl ?_
    refine WL.nil ?_
    refine WC.seq ?_
    refine WC.condF' rfl (by first | rfl | (simp; done) | (simp; omega)) ?_
    refine WC.exit ?_
    refine WC.sr ?_
    refine WL.mv rfl rfl ?_
    refine WL.sg rfl rfl ?_
    refine WL.nil ?_
    refine WC.ret ?_
    refine BodyQ.ret (H' := F) (Res.tmp rfl rfl) (fun w h => h) ⟨?_, rfl⟩
    unfold orI
    rw [if_neg (by omega)]
    congr 1; omega
theorem byNumber_is : CmpIs 8 cmpN := ⟨Try.call8, fun K F x y => by
  refine Does.enter Try.func8 rfl Try.ntmps8 rfl ?_
  simp only [env0, Nat.reduceAdd]
  refine WC.sr ?_
  refine WL.box (cs := [_, _, _, _, _]) (OV.p rfl) rfl rfl (fun b2 => ?_)
  refine WL.box (cs := [_, _, _, _, _]) (OV.p rfl) rfl rfl (fun b3 => ?_)
  refine WL.sg rfl rfl ?_
  refine WL.nil ?_
  refine WC.seq ?_
  refine WC.regionH (by kernel_rfl) ?_
  refine WA.t 0 rfl (V.fieldAddr fo26_1 (OV.p rfl)) ?_
  refine WA.t 1 rfl (V.fieldAddr fo24_2 (OV.p rfl)) ?_
  refine WA.t 2 rfl (V.load Try.isAgg3 (OV.p rfl) (fun _ => by repeat (first | exact Rd.here rfl | apply Rd.up))) ?_
  refine WA.t 3 rfl (V.fieldAddr fo26_1 (OV.p rfl)) ?_
  refine WA.t 4 rfl (V.fieldAddr fo24_2 (OV.p rfl)) ?_
  refine WA.t 5 rfl (V.load Try.isAgg3 (OV.p rfl) (fun _ => by repeat (first | exact Rd.here rfl | apply Rd.up))) ?_
  refine WA.t 7 rfl (V.fieldAddr fo26_0 (OV.p rfl)) ?_
  refine WA.t 8 rfl (V.load Try.isAgg3 (OV.p rfl) (fun _ => by repeat (first | exact Rd.here rfl | apply Rd.up))) ?_
  refine WA.t 9 rfl (V.fieldAddr fo26_0 (OV.p rfl)) ?_
  refine WA.t 10 rfl (V.load Try.isAgg3 (OV.p rfl) (fun _ => by repeat (first | exact Rd.here rfl | apply Rd.up))) ?_
  refine WA.o 6 rfl ?_
  refine WL.call (vs := [_, _]) Try.call11 ⟨OV.p rfl, OV.p rfl, trivial⟩ (cmp_Compare _ _) rfl ?_
  rintro _ H0 ⟨rfl, h0⟩
  subst H0
  refine WL.nil ?_
  refine WA.o 11 rfl ?_
  refine WL.call (vs := [_, _]) Try.call11 ⟨OV.p rfl, OV.p rfl, trivial⟩ (cmp_Compare _ _) rfl ?_
  rintro _ H0 ⟨rfl, h0⟩
  subst H0
  refine WL.nil ?_
  refine WA.o 12 rfl ?_
  refine WL.buildSlice (E := 3) (cs := [_, _]) (vs := [(0, _), (1, _)]) ⟨OV.p rfl, OV.p rfl, trivial⟩ rfl (bsl27_2_0_1 _ _) rfl (fun b17 => ?_)
  refine WL.nil ?_
  refine WA.o 13 rfl ?_
  refine WL.call (vs := [_]) Try.call15 ⟨OV.p rfl, trivial⟩ (cmp_Or2 (Seq.all rfl)) rfl ?_
  rintro _ H0 ⟨rfl, h0⟩
  subst H0
  refine WL.nil ?_
  refine WA.t 14 rfl (V.assign (OV.p rfl)) ?_
  refine WA.fin ?_
  refine WC.ret ?_
  exact BodyQ.ret (H' := F) (Res.tmp rfl rfl) (fun w h => h.drop 3) ⟨rfl, rfl⟩
  ⟩
theorem stale1_is : CmpIs 17 cmpS := ⟨Try.call17, fun K F x y => by
  refine Does.enter Try.func17 rfl Try.ntmps17 rfl ?_
  simp only [env0, Nat.reduceAdd]
  refine WC.sr ?_
  refine WL.box (cs := [_, _, _, _, _]) (OV.p rfl) rfl rfl (fun b2 => ?_)
  refine WL.box (cs := [_, _, _, _, _]) (OV.p rfl) rfl rfl (fun b3 => ?_)
  refine WL.sg rfl rfl ?_
  refine WL.nil ?_
  refine WC.seq ?_
  refine WC.regionH (by kernel_rfl) ?_
  refine WA.t 0 rfl (V.fieldAddr fo26_1 (OV.p rfl)) ?_
  refine WA.t 1 rfl (V.fieldAddr fo24_2 (OV.p rfl)) ?_
  refine WA.t 2 rfl (V.load Try.isAgg3 (OV.p rfl) (fun _ => by repeat (first | exact Rd.here rfl | apply Rd.up))) ?_
  refine WA.t 3 rfl (V.fieldAddr fo26_1 (OV.p rfl)) ?_
  refine WA.t 4 rfl (V.fieldAddr fo24_2 (OV.p rfl)) ?_
  refine WA.t 5 rfl (V.load Try.isAgg3 (OV.p rfl) (fun _ => by repeat (first | exact Rd.here rfl | apply Rd.up))) ?_
  refine WA.t 7 rfl (V.fieldAddr fo26_0 (OV.p rfl)) ?_
  refine WA.t 8 rfl (V.load Try.isAgg3 (OV.p rfl) (fun _ => by repeat (first | exact Rd.here rfl | apply Rd.up))) ?_
  refine WA.t 9 rfl (V.fieldAddr fo26_0 (OV.p rfl)) ?_
  refine WA.t 10 rfl (V.load Try.isAgg3 (OV.p rfl) (fun _ => by repeat (first | exact Rd.here rfl | apply Rd.up))) ?_
  refine WA.o 6 rfl ?_
  refine WL.call (vs := [_, _]) Try.call11 ⟨OV.p rfl, OV.p rfl, trivial⟩ (cmp_Compare _ _) rfl ?_
  rintro _ H0 ⟨rfl, h0⟩
  subst H0
  refine WL.nil ?_
  refine WA.o 11 rfl ?_
  refine WL.call (vs := [_, _]) Try.call11 ⟨OV.p rfl, OV.p rfl, trivial⟩ (cmp_Compare _ _) rfl ?_
  rintro _ H0 ⟨rfl, h0⟩
  subst H0
  refine WL.nil ?_
  refine WA.o 12 rfl ?_
  refine WL.buildSlice (E := 3) (cs := [_, _]) (vs := [(0, _), (1, _)]) ⟨OV.p rfl, OV.p rfl, trivial⟩ rfl (bsl27_2_0_1 _ _) rfl (fun b17 => ?_)
  refine WL.nil ?_
  refine WA.o 13 rfl ?_
  refine WL.call (vs := [_]) Try.call15 ⟨OV.p rfl, trivial⟩ (cmp_Or2 (Seq.all rfl)) rfl ?_
  rintro _ H0 ⟨rfl, h0⟩
  subst H0
  refine WL.nil ?_
  refine WA.t 14 rfl (V.assign (OV.p rfl)) ?_
  refine WA.fin ?_
  refine WC.ret ?_
  exact BodyQ.ret (H' := F) (Res.tmp rfl rfl) (fun w h => h.drop 3) ⟨rfl, rfl⟩
  ⟩
theorem pick1_is : CmpIs 10 cmpM := ⟨Try.call10, fun K F x y => by
  refine Does.enter Try.func10 rfl Try.ntmps10 rfl ?_
  simp only [env0, Nat.reduceAdd]
  refine WC.sr ?_
  refine WL.box (cs := [_, _, _, _, _]) (OV.p rfl) rfl rfl (fun b2 => ?_)
  refine WL.box (cs := [_, _, _, _, _]) (OV.p rfl) rfl rfl (fun b3 => ?_)
  refine WL.sg rfl rfl ?_
  refine WL.nil ?_
  refine WC.sr ?_
  refine WL.val (V.fieldAddr fo26_1 (OV.p rfl)) rfl ?_
  refine WL.val (V.fieldAddr fo24_2 (OV.p rfl)) rfl ?_
  refine WL.ld Try.isAgg3 rfl rfl ?_
  refine WL.val (V.fieldAddr fo26_1 (OV.p rfl)) rfl ?_
  refine WL.val (V.fieldAddr fo24_2 (OV.p rfl)) rfl ?_
  refine WL.ld Try.isAgg3 rfl rfl ?_
  refine WL.call (vs := [_, _]) Try.call11 ⟨OV.p rfl, OV.p rfl, trivial⟩ (cmp_Compare _ _) rfl ?_
  rintro _ H0 ⟨rfl, h0⟩
  subst H0
  refine WL.sg rfl rfl ?_
  refine WL.nil ?_
  refine WC.ret ?_
  exact BodyQ.ret (H' := F) (Res.tmp rfl rfl) (fun w h => h.drop 2) ⟨rfl, rfl⟩
  ⟩
abbrev ltOf (c : Fd → Fd → Int) : Fd → Fd → Bool := fun x y => decide (c x y < 0)
theorem insertion_nil {f : Nat} : Does Try.prog 19 #[.slice none 0 0, .int .i64 0, .int .i64 0, .func (.func f) #[] #[]] K F (fun v H' => H' = F) := by
  refine Does.enter Try.func19 rfl Try.ntmps19 rfl ?_
  simp only [env0, Nat.reduceAdd]
  refine WC.sr ?_
  refine WL.mv rfl rfl ?_
  refine WL.ad rfl rfl rfl ?_
  refine WL.sg rfl rfl ?_
  refine WL.nil ?_
  refine WC.block ?_
  refine WC.rounds 1 ?_
  refine WC.seq ?_
  refine WC.sr ?_
  refine WL.mv rfl rfl ?_
  refine WL.mv rfl rfl ?_
  refine WL.val (V.lss (OV.p rfl) (OV.p rfl)) rfl ?_
  refine WL.nil ?_
  refine WC.condF' rfl (by first | rfl | (simp; done) | (simp; omega)) ?_
  refine WC.exit ?_
  exact BodyQ.normal (H' := F) (Res.none rfl) (fun w h => h) rfl
theorem stable_found {f m : Nat} {S : Value} {H2 : List Assn} (hins : Does Try.prog 19 #[S, .int .i64 0, .int .i64 (m : Int), .func (.func f) #[] #[]] K F (fun v H' => H' = H2)) (hm : m < 20) :
    Does Try.prog 18 #[S, .int .i64 (m : Int), .func (.func f) #[] #[]] K F (fun v H' => H' = H2) := by
  refine Does.enter Try.func18 rfl Try.ntmps18 rfl ?_
  simp only [env0, Nat.reduceAdd]
  refine WC.sr ?_
  refine WL.sg rfl rfl ?_
  refine WL.nil ?_
  refine WC.sr ?_
  refine WL.mv rfl rfl ?_
  refine WL.sg rfl rfl ?_
  refine WL.sg rfl rfl ?_
  refine WL.nil ?_
  refine WC.seq ?_
  refine WC.block ?_
  refine WC.rounds 1 ?_
  refine WC.seq ?_
  refine WC.sr ?_
  refine WL.mv rfl rfl ?_
  refine WL.mv rfl rfl ?_
  refine WL.val (V.leq (OV.p rfl) (OV.p rfl)) rfl ?_
  refine WL.nil ?_
  refine WC.condF' rfl (by first | rfl | (simp; done) | (simp; omega)) ?_
  refine WC.exit ?_
  refine WC.sr ?_
  refine WL.mv rfl rfl ?_
  refine WL.mv rfl rfl ?_
  refine WL.mv rfl rfl ?_
  refine WL.mv rfl rfl ?_
  refine WL.call (vs := [_, _, _, _]) Try.call19 ⟨OV.p rfl, OV.p rfl, OV.p rfl, OV.p rfl, trivial⟩ (hins) rfl ?_
  rintro v H0 h0
  subst h0
  refine WL.nil ?_
  refine WC.block ?_
  refine WC.rounds 1 ?_
  refine WC.seq ?_
  refine WC.sr ?_
  refine WL.mv rfl rfl ?_
  refine WL.mv rfl rfl ?_
  refine WL.val (V.lss (OV.p rfl) (OV.p rfl)) rfl ?_
  refine WL.nil ?_
  refine WC.condF' rfl (by first | rfl | (simp; done) | (simp; omega)) ?_
  refine WC.exit ?_
  exact BodyQ.normal (H' := H0) (Res.none rfl) (fun w h => h) rfl
theorem sort_found {f : Nat} {c : Fd → Fd → Int} (hf : CmpIs f c) {A : Option Addr} {m cap : Nat} {ys : List Fd} (hm : ys.length = m) (h20 : m < 20) :
    Does Try.prog 14 #[.slice A m cap, .func (.func f) #[] #[]] K (SlA (.slice A m cap) 26 5 m (flatF ys) :: F)
      (fun v H' => ∀ w, Sat K w H' → Sat K w (SlA (.slice A m cap) 26 5 m (flatF (isort (ltOf c) ys)) :: F)) := by
  cases A with
  | none =>
    refine Does.have_ (p := m = 0 ∧ cap = 0) (fun w hw => ⟨(SlA.nilCs hw).1, (SlA.nilCs hw).2.1⟩) (fun h0 => ?_)
    obtain ⟨h1, h2⟩ := h0
    subst h2
    have hy : ys = [] := List.eq_nil_of_length_eq_zero (by omega)
    subst hy
    obtain rfl : m = 0 := by omega
    have hst := stable_found (K := K) (F := SlA (.slice none 0 0) 26 5 0 (flatF []) :: F) (f := f) (m := 0) (S := .slice none 0 0) insertion_nil (by decide)
    refine Does.enter Try.func14 rfl Try.ntmps14 rfl ?_
    simp only [env0, Nat.reduceAdd]
    refine WC.region ?_
    refine WL.mv rfl rfl ?_
    refine WL.mv rfl rfl ?_
    refine WL.val (V.len (t := 22) Try.runUnderlying22 (OV.p rfl)) rfl ?_
    refine WL.mv rfl rfl ?_
    refine WL.call (vs := [_, _, _]) Try.call18 ⟨OV.p rfl, OV.p rfl, OV.p rfl, trivial⟩ (hst) rfl ?_
    rintro v H0 h0
    subst h0
    refine WL.nil ?_
    exact BodyQ.normal (H' := SlA (.slice none 0 0) 26 5 0 (flatF []) :: F) (Res.none rfl) (fun w h => h) (fun w h => h)
  | some a =>
    refine Does.have_ (p := ∃ g, a = ⟨g, 0, none⟩) (fun w hw => SlA.addr hw) (fun ⟨g, hg⟩ => ?_)
    subst hg
    refine Does.ex (fun w hw => Sat.slCells hw) (fun r hr => ?_)
    obtain ⟨r1, r2, r3, r4⟩ := hr
    have hst := stable_found (insertion_found (K := K) (F := F) hf (b := g) (m := m) (cap := cap) (ys := ys) (r := r) hm (by omega)) h20
    refine Does.enter Try.func14 rfl Try.ntmps14 rfl ?_
    simp only [env0, Nat.reduceAdd]
    refine WC.region ?_
    refine WL.mv rfl rfl ?_
    refine WL.mv rfl rfl ?_
    refine WL.val (V.len (t := 22) Try.runUnderlying22 (OV.p rfl)) rfl ?_
    refine WL.mv rfl rfl ?_
    refine WL.call (vs := [_, _, _]) Try.call18 ⟨OV.p rfl, OV.p rfl, OV.p rfl, trivial⟩ (hst) rfl ?_
    rintro v H0 h0
    subst h0
    refine WL.nil ?_
    refine BodyQ.normal (H' := Cells g 26 (flatF (isort (ltOf c) ys) ++ r) :: F) (Res.none rfl) (fun w h => h) (fun w h => ?_)
    have hfl : (flatF (isort (ltOf c) ys)).length = m * 5 := by rw [flatF_length, isort_length, hm]
    have hfl0 : (flatF ys).length = m * 5 := by rw [flatF_length, hm]
    have h' := Sat.toSl (m := m) (cap := cap) (s := 5) h (by rw [List.length_append] at r1 ⊢; omega) r3 r4
    rw [List.take_left' hfl] at h'
    exact h'
end
/-! ### Rows -/
structure FRow where
  A : Option Addr
  c : Nat
  l : List Fd
abbrev FRow.v (x : FRow) : Value := .slice x.A x.l.length x.c
def FRow.row (x : FRow) : Assn := SlA (.slice x.A x.l.length x.c) 26 5 x.l.length (flatF x.l)
def isOf (leb : Nat) (x : Fd) : Bool := x.whole && decide (x.hd.leb = (leb : Int))
def rowsF (lebs : Nat) (fs : List Fd) : List (List Fd) := (List.range lebs).map fun leb => fs.filter (isOf leb)
theorem rowsF_length (lebs : Nat) (fs : List Fd) : (rowsF lebs fs).length = lebs := by simp [rowsF]
theorem rowsF_add {lebs : Nat} {fs : List Fd} {x : Fd} {leb : Nat} (hl : leb < lebs) (hx : x.whole = true) (hxl : x.hd.leb = (leb : Int)) : rowsF lebs (fs ++ [x]) = (rowsF lebs fs).set leb (fs.filter (isOf leb) ++ [x]) := by
  apply List.ext_getElem
  · simp [rowsF]
  · intro i h1 h2
    rw [List.getElem_set]
    simp only [rowsF, List.getElem_map, List.getElem_range, List.filter_append]
    by_cases h : leb = i
    · subst h
      rw [if_pos rfl]
      congr 1
      rw [List.filter_cons, if_pos (by unfold isOf; rw [hx, hxl]; simp)]; rfl
    · rw [if_neg h, List.filter_cons, if_neg (by unfold isOf; rw [hx, hxl]; simp; omega)]
      simp
theorem rowsF_skip {lebs : Nat} {fs : List Fd} {x : Fd} (h : ∀ leb, leb < lebs → isOf leb x = false) : rowsF lebs (fs ++ [x]) = rowsF lebs fs := by
  unfold rowsF
  apply List.map_congr_left
  intro i hi
  rw [List.filter_append, List.filter_cons, if_neg (by rw [h i (List.mem_range.1 hi)]; decide)]
  simp
end Go.Proofs.Ytcmojpiokjhmhaa
