import Derived.Test.YtohkefolnmcjnaaGreatP20
/- attach: byNumber, whole. -/
namespace Go.Proofs.YtohkefolnmcjnaaGreat
open Go.Sl Go.RowKit
set_option linter.unusedVariables false
set_option linter.unusedSimpArgs false
set_option maxRecDepth 20000

def cmpI (x y : Int) : Int := if x < y then -1 else if y < x then 1 else 0
def orI (a b : Int) : Int := if a ≠ 0 then a else b
def cmpN (x y : Fd) : Int := orI (cmpI x.hd.num y.hd.num) (cmpI y.block x.block)
def cmpS (x y : Fd) : Int := orI (cmpI x.hd.num y.hd.num) (cmpI x.block y.block)
def cmpM (x y : Fd) : Int := cmpI x.hd.num y.hd.num
section
variable {K : World} {F : List Assn}
theorem cmp_isNaN (x : Int) : Tells Tryz.prog 174 #[.int .i64 x] K F (.bool false) := by
  refine Does.enter Tryz.func174 rfl Tryz.ntmps174 rfl ?_
  simp only [env0, Nat.reduceAdd]
  refine WC.sr ?_
  refine WL.val (V.assign (OV.p rfl)) rfl ?_
  refine WL.nil ?_
  refine WC.sr ?_
  refine WL.val (V.move (OV.p rfl)) rfl ?_
  refine WL.val (V.move (OV.p rfl)) rfl ?_
  refine WL.val (V.neq (OV.p rfl) (OV.p rfl)) rfl ?_
  refine WL.val (V.assign (OV.p rfl)) rfl ?_
  refine WL.nil ?_
  refine WC.ret ?_
  exact BodyQ.ret (H' := F) (Res.tmp rfl rfl) (fun w h => h) ⟨by simp, rfl⟩
theorem cmp_Compare (x y : Int) : Tells Tryz.prog 132 #[.int .i64 x, .int .i64 y] K F (.int .i64 (cmpI x y)) := by
  refine Does.enter Tryz.func132 rfl Tryz.ntmps132 rfl ?_
  simp only [env0, Nat.reduceAdd]
  refine WC.sr ?_
  refine WL.val (V.assign (OV.p rfl)) rfl ?_
  refine WL.nil ?_
  refine WC.sr ?_
  refine WL.val (V.move (OV.p rfl)) rfl ?_
  refine WL.call (vs := [_]) Tryz.call174 ⟨OV.p rfl, trivial⟩ (cmp_isNaN _) rfl ?_
  rintro _ H0 ⟨rfl, h0⟩
  subst H0
  refine WL.val (V.assign (OV.p rfl)) rfl ?_
  refine WL.nil ?_
  refine WC.sr ?_
  refine WL.val (V.move (OV.p rfl)) rfl ?_
  refine WL.call (vs := [_]) Tryz.call174 ⟨OV.p rfl, trivial⟩ (cmp_isNaN _) rfl ?_
  rintro _ H0 ⟨rfl, h0⟩
  subst H0
  refine WL.val (V.assign (OV.p rfl)) rfl ?_
  refine WL.nil ?_
  refine WC.seq ?_
  refine WC.sr ?_
  refine WL.val (V.move (OV.p rfl)) rfl ?_
  refine WL.nil ?_
  refine WC.condF' rfl (by first | rfl | (simp; done) | (simp; omega)) ?_
  refine WC.skip ?_
  refine WC.seq ?_
  refine WC.sr ?_
  refine WL.val (V.move (OV.p rfl)) rfl ?_
  refine WL.nil ?_
  refine WC.condF' rfl (by first | rfl | (simp; done) | (simp; omega)) ?_
  refine WC.skip ?_
  refine WC.seq ?_
  refine WC.sr ?_
  refine WL.val (V.move (OV.p rfl)) rfl ?_
  refine WL.val (V.move (OV.p rfl)) rfl ?_
  refine WL.val (V.lss (OV.p rfl) (OV.p rfl)) rfl ?_
  refine WL.nil ?_
  refine WC.cond rfl (fun hc3 => ?_) (fun hc3 => ?_)
  ·simp only [decide_eq_true_eq, decide_eq_false_iff_not] at hc3
   have h3 := hc3
   refine WC.sr ?_
   refine WL.val (V.assign (OV.p rfl)) rfl ?_
   refine WL.nil ?_
   refine WC.ret ?_
   exact BodyQ.ret (H' := F) (Res.tmp rfl rfl) (fun w h => h) ⟨by unfold cmpI; rw [if_pos h3], rfl⟩
  ·simp only [decide_eq_true_eq, decide_eq_false_iff_not] at hc3
   have h3 := hc3
   refine WC.skip ?_
   refine WC.seq ?_
   refine WC.sr ?_
   refine WL.val (V.move (OV.p rfl)) rfl ?_
   refine WL.val (V.move (OV.p rfl)) rfl ?_
   refine WL.val (V.gtr (OV.p rfl) (OV.p rfl)) rfl ?_
   refine WL.nil ?_
   refine WC.cond rfl (fun hc4 => ?_) (fun hc4 => ?_)
   ·simp only [decide_eq_true_eq, decide_eq_false_iff_not] at hc4
    have h4 := hc4
    refine WC.sr ?_
    refine WL.val (V.assign (OV.p rfl)) rfl ?_
    refine WL.nil ?_
    refine WC.ret ?_
    exact BodyQ.ret (H' := F) (Res.tmp rfl rfl) (fun w h => h) ⟨by unfold cmpI; rw [if_neg h3, if_pos (by omega)], rfl⟩
   ·simp only [decide_eq_true_eq, decide_eq_false_iff_not] at hc4
    have h4 := hc4
    refine WC.skip ?_
    refine WC.sr ?_
    refine WL.val (V.assign (OV.p rfl)) rfl ?_
    refine WL.nil ?_
    refine WC.ret ?_
    exact BodyQ.ret (H' := F) (Res.tmp rfl rfl) (fun w h => h) ⟨by unfold cmpI; rw [if_neg h3, if_neg (by omega)], rfl⟩
theorem cmp_Or2 {B : Option Addr} {cap : Nat} {x y : Int} (hq : Seq K F B 2 1 [.int .i64 x, .int .i64 y]) : Tells Tryz.prog 135 #[.slice B 2 cap] K F (.int .i64 (orI x y)) := by
  have rd : ∀ (i : Nat) v, [Value.int .i64 x, .int .i64 y][i]? = some v → Rd K F (B.map (·.add (i * 1))) v := fun i v hi => by rw [Nat.mul_one]; exact hq.rd i v hi
  refine Does.enter Tryz.func135 rfl Tryz.ntmps135 rfl ?_
  simp only [env0, Nat.reduceAdd]
  refine WC.sr ?_
  refine WL.val (V.assign (OV.p rfl)) rfl ?_
  refine WL.nil ?_
  refine WC.sr ?_
  refine WL.val (V.assign (OV.p rfl)) rfl ?_
  refine WL.nil ?_
  refine WC.seq ?_
  refine WC.sr ?_
  refine WL.val (V.move (OV.p rfl)) rfl ?_
  refine WL.val (V.len (t := 42) Tryz.runUnderlying42 (OV.p rfl)) rfl ?_
  refine WL.val (V.move (OV.p rfl)) rfl ?_
  refine WL.nil ?_
  refine WC.block ?_
  refine WC.rounds 3 ?_
  refine WC.sr ?_
  refine WL.val (V.lss (OV.p rfl) (OV.p rfl)) rfl ?_
  refine WL.nil ?_
  refine WC.seq ?_
  refine WC.condT' rfl (by first | rfl | (simp; done) | (simp; omega)) ?_
  refine WC.skip ?_
  refine WC.seq ?_
  refine WC.block ?_
  refine WC.sr ?_
  refine WL.val (V.idxS st42 (OV.p rfl) (OV.p rfl) (fun _ => by decide) (fun _ => by first | exact rd 0 _ rfl | exact rd 1 _ rfl)) rfl ?_
  refine WL.val (V.load Tryz.isAgg3 (OV.p rfl) (fun _ => by first | exact rd 0 _ rfl | exact rd 1 _ rfl)) rfl ?_
  refine WL.val (V.assign (OV.p rfl)) rfl ?_
  refine WL.nil ?_
  refine WC.sr ?_
  refine WL.val (V.move (OV.p rfl)) rfl ?_
  refine WL.val (V.move (OV.p rfl)) rfl ?_
  refine WL.val (V.neq (OV.p rfl) (OV.p rfl)) rfl ?_
  refine WL.nil ?_
  refine WC.cond rfl (fun hc1 => ?_) (fun hc1 => ?_)
  ·simp only [Bool.not_eq_true', Bool.not_eq_false', decide_eq_true_eq, decide_eq_false_iff_not] at hc1
   have h1 := hc1
   refine WC.sr ?_
   refine WL.val (V.move (OV.p rfl)) rfl ?_
   refine WL.val (V.assign (OV.p rfl)) rfl ?_
   refine WL.nil ?_
   refine WC.ret ?_
   first
   | exact BodyQ.ret (H' := F) (Res.tmp rfl rfl) (fun w h => h) ⟨by unfold orI; rw [if_pos h1], rfl⟩
   | (refine BodyQ.ret (H' := F) (Res.tmp rfl rfl) (fun w h => h) ⟨?_, rfl⟩
      unfold orI
      rw [if_neg (by omega)])
  ·simp only [Bool.not_eq_true', Bool.not_eq_false', decide_eq_true_eq, decide_eq_false_iff_not] at hc1
   have h1 := hc1
   refine WC.skip ?_
   refine WC.region ?_
   refine WL.val (V.val_eq (v' := .int .i64 (1)) (V.add (OV.p rfl) (OV.p rfl)) (fun _ => rfl)) rfl ?_
   refine WL.val (V.move (OV.p rfl)) rfl ?_
   refine WL.nil ?_
   refine WC.sr ?_
   refine WL.val (V.lss (OV.p rfl) (OV.p rfl)) rfl ?_
   refine WL.nil ?_
   refine WC.seq ?_
   refine WC.condT' rfl (by first | rfl | (simp; done) | (simp; omega)) ?_
   refine WC.skip ?_
   refine WC.seq ?_
   refine WC.block ?_
   refine WC.sr ?_
   refine WL.val (V.idxS st42 (OV.p rfl) (OV.p rfl) (fun _ => by decide) (fun _ => by first | exact rd 0 _ rfl | exact rd 1 _ rfl)) rfl ?_
   refine WL.val (V.load Tryz.isAgg3 (OV.p rfl) (fun _ => by first | exact rd 0 _ rfl | exact rd 1 _ rfl)) rfl ?_
   refine WL.val (V.assign (OV.p rfl)) rfl ?_
   refine WL.nil ?_
   refine WC.sr ?_
   refine WL.val (V.move (OV.p rfl)) rfl ?_
   refine WL.val (V.move (OV.p rfl)) rfl ?_
   refine WL.val (V.neq (OV.p rfl) (OV.p rfl)) rfl ?_
   refine WL.nil ?_
   refine WC.cond rfl (fun hc1' => ?_) (fun hc1' => ?_)
   ·simp only [Bool.not_eq_true', Bool.not_eq_false', decide_eq_true_eq, decide_eq_false_iff_not] at hc1'
    have h1 := hc1'
    refine WC.sr ?_
    refine WL.val (V.move (OV.p rfl)) rfl ?_
    refine WL.val (V.assign (OV.p rfl)) rfl ?_
    refine WL.nil ?_
    refine WC.ret ?_
    first
    | exact BodyQ.ret (H' := F) (Res.tmp rfl rfl) (fun w h => h) ⟨by unfold orI; rw [if_pos h1], rfl⟩
    | (refine BodyQ.ret (H' := F) (Res.tmp rfl rfl) (fun w h => h) ⟨?_, rfl⟩
       unfold orI
       rw [if_neg (by omega)])
   ·simp only [Bool.not_eq_true', Bool.not_eq_false', decide_eq_true_eq, decide_eq_false_iff_not] at hc1'
    have h1 := hc1'
    refine WC.skip ?_
    refine WC.region ?_
    refine WL.val (V.val_eq (v' := .int .i64 (2)) (V.add (OV.p rfl) (OV.p rfl)) (fun _ => rfl)) rfl ?_
    refine WL.val (V.move (OV.p rfl)) rfl ?_
    refine WL.nil ?_
    refine WC.sr ?_
    refine WL.val (V.lss (OV.p rfl) (OV.p rfl)) rfl ?_
    refine WL.nil ?_
    refine WC.seq ?_
    refine WC.condF' rfl (by first | rfl | (simp; done) | (simp; omega)) ?_
    refine WC.exit ?_
    refine WC.sr ?_
    refine WL.val (V.move (OV.p rfl)) rfl ?_
    refine WL.val (V.assign (OV.p rfl)) rfl ?_
    refine WL.nil ?_
    refine WC.ret ?_
    refine BodyQ.ret (H' := F) (Res.tmp rfl rfl) (fun w h => h) ⟨?_, rfl⟩
    unfold orI
    rw [if_neg (by omega)]
    congr 1; omega
theorem byNumber_is : CmpIs 129 cmpN := ⟨Tryz.call129, fun K F x y => by
  refine Does.enter Tryz.func129 rfl Tryz.ntmps129 rfl ?_
  simp only [env0, Nat.reduceAdd]
  refine WC.sr ?_
  refine WL.box (cs := [_, _, _, _, _]) (OV.p rfl) rfl rfl (fun b2 => ?_)
  refine WL.box (cs := [_, _, _, _, _]) (OV.p rfl) rfl rfl (fun b3 => ?_)
  refine WL.val (V.assign (OV.p rfl)) rfl ?_
  refine WL.nil ?_
  refine WC.seq ?_
  refine WC.regionH (by kernel_rfl) ?_
  refine WA.t 0 rfl (V.fieldAddr fo167_1 (OV.p rfl)) ?_
  refine WA.t 1 rfl (V.fieldAddr fo129_2 (OV.p rfl)) ?_
  refine WA.t 2 rfl (V.load Tryz.isAgg3 (OV.p rfl) (fun _ => by repeat (first | exact Rd.here rfl | apply Rd.up))) ?_
  refine WA.t 3 rfl (V.fieldAddr fo167_1 (OV.p rfl)) ?_
  refine WA.t 4 rfl (V.fieldAddr fo129_2 (OV.p rfl)) ?_
  refine WA.t 5 rfl (V.load Tryz.isAgg3 (OV.p rfl) (fun _ => by repeat (first | exact Rd.here rfl | apply Rd.up))) ?_
  refine WA.t 7 rfl (V.fieldAddr fo167_0 (OV.p rfl)) ?_
  refine WA.t 8 rfl (V.load Tryz.isAgg3 (OV.p rfl) (fun _ => by repeat (first | exact Rd.here rfl | apply Rd.up))) ?_
  refine WA.t 9 rfl (V.fieldAddr fo167_0 (OV.p rfl)) ?_
  refine WA.t 10 rfl (V.load Tryz.isAgg3 (OV.p rfl) (fun _ => by repeat (first | exact Rd.here rfl | apply Rd.up))) ?_
  refine WA.o 6 rfl ?_
  refine WL.call (vs := [_, _]) Tryz.call132 ⟨OV.p rfl, OV.p rfl, trivial⟩ (cmp_Compare _ _) rfl ?_
  rintro _ H0 ⟨rfl, h0⟩
  subst H0
  refine WL.nil ?_
  refine WA.o 11 rfl ?_
  refine WL.call (vs := [_, _]) Tryz.call132 ⟨OV.p rfl, OV.p rfl, trivial⟩ (cmp_Compare _ _) rfl ?_
  rintro _ H0 ⟨rfl, h0⟩
  subst H0
  refine WL.nil ?_
  refine WA.o 12 rfl ?_
  refine WL.buildSlice (E := 3) (cs := [_, _]) (vs := [(0, _), (1, _)]) ⟨OV.p rfl, OV.p rfl, trivial⟩ rfl (bsl42_2_0_1 _ _) rfl (fun b17 => ?_)
  refine WL.nil ?_
  refine WA.o 13 rfl ?_
  refine WL.call (vs := [_]) Tryz.call135 ⟨OV.p rfl, trivial⟩ (cmp_Or2 (Seq.all rfl)) rfl ?_
  rintro _ H0 ⟨rfl, h0⟩
  subst H0
  refine WL.nil ?_
  refine WA.t 14 rfl (V.assign (OV.p rfl)) ?_
  refine WA.fin ?_
  refine WC.ret ?_
  exact BodyQ.ret (H' := F) (Res.tmp rfl rfl) (fun w h => h.drop 3) ⟨rfl, rfl⟩
  ⟩
theorem stale1_is : CmpIs 134 cmpS := ⟨Tryz.call134, fun K F x y => by
  refine Does.enter Tryz.func134 rfl Tryz.ntmps134 rfl ?_
  simp only [env0, Nat.reduceAdd]
  refine WC.sr ?_
  refine WL.box (cs := [_, _, _, _, _]) (OV.p rfl) rfl rfl (fun b2 => ?_)
  refine WL.box (cs := [_, _, _, _, _]) (OV.p rfl) rfl rfl (fun b3 => ?_)
  refine WL.val (V.assign (OV.p rfl)) rfl ?_
  refine WL.nil ?_
  refine WC.seq ?_
  refine WC.regionH (by kernel_rfl) ?_
  refine WA.t 0 rfl (V.fieldAddr fo167_1 (OV.p rfl)) ?_
  refine WA.t 1 rfl (V.fieldAddr fo129_2 (OV.p rfl)) ?_
  refine WA.t 2 rfl (V.load Tryz.isAgg3 (OV.p rfl) (fun _ => by repeat (first | exact Rd.here rfl | apply Rd.up))) ?_
  refine WA.t 3 rfl (V.fieldAddr fo167_1 (OV.p rfl)) ?_
  refine WA.t 4 rfl (V.fieldAddr fo129_2 (OV.p rfl)) ?_
  refine WA.t 5 rfl (V.load Tryz.isAgg3 (OV.p rfl) (fun _ => by repeat (first | exact Rd.here rfl | apply Rd.up))) ?_
  refine WA.t 7 rfl (V.fieldAddr fo167_0 (OV.p rfl)) ?_
  refine WA.t 8 rfl (V.load Tryz.isAgg3 (OV.p rfl) (fun _ => by repeat (first | exact Rd.here rfl | apply Rd.up))) ?_
  refine WA.t 9 rfl (V.fieldAddr fo167_0 (OV.p rfl)) ?_
  refine WA.t 10 rfl (V.load Tryz.isAgg3 (OV.p rfl) (fun _ => by repeat (first | exact Rd.here rfl | apply Rd.up))) ?_
  refine WA.o 6 rfl ?_
  refine WL.call (vs := [_, _]) Tryz.call132 ⟨OV.p rfl, OV.p rfl, trivial⟩ (cmp_Compare _ _) rfl ?_
  rintro _ H0 ⟨rfl, h0⟩
  subst H0
  refine WL.nil ?_
  refine WA.o 11 rfl ?_
  refine WL.call (vs := [_, _]) Tryz.call132 ⟨OV.p rfl, OV.p rfl, trivial⟩ (cmp_Compare _ _) rfl ?_
  rintro _ H0 ⟨rfl, h0⟩
  subst H0
  refine WL.nil ?_
  refine WA.o 12 rfl ?_
  refine WL.buildSlice (E := 3) (cs := [_, _]) (vs := [(0, _), (1, _)]) ⟨OV.p rfl, OV.p rfl, trivial⟩ rfl (bsl42_2_0_1 _ _) rfl (fun b17 => ?_)
  refine WL.nil ?_
  refine WA.o 13 rfl ?_
  refine WL.call (vs := [_]) Tryz.call135 ⟨OV.p rfl, trivial⟩ (cmp_Or2 (Seq.all rfl)) rfl ?_
  rintro _ H0 ⟨rfl, h0⟩
  subst H0
  refine WL.nil ?_
  refine WA.t 14 rfl (V.assign (OV.p rfl)) ?_
  refine WA.fin ?_
  refine WC.ret ?_
  exact BodyQ.ret (H' := F) (Res.tmp rfl rfl) (fun w h => h.drop 3) ⟨rfl, rfl⟩
  ⟩
theorem pick1_is : CmpIs 131 cmpM := ⟨Tryz.call131, fun K F x y => by
  refine Does.enter Tryz.func131 rfl Tryz.ntmps131 rfl ?_
  simp only [env0, Nat.reduceAdd]
  refine WC.sr ?_
  refine WL.box (cs := [_, _, _, _, _]) (OV.p rfl) rfl rfl (fun b2 => ?_)
  refine WL.box (cs := [_, _, _, _, _]) (OV.p rfl) rfl rfl (fun b3 => ?_)
  refine WL.val (V.assign (OV.p rfl)) rfl ?_
  refine WL.nil ?_
  refine WC.sr ?_
  refine WL.val (V.fieldAddr fo167_1 (OV.p rfl)) rfl ?_
  refine WL.val (V.fieldAddr fo129_2 (OV.p rfl)) rfl ?_
  refine WL.val (V.load Tryz.isAgg3 (OV.p rfl) (fun _ => by repeat (first | exact Rd.here rfl | apply Rd.up))) rfl ?_
  refine WL.val (V.fieldAddr fo167_1 (OV.p rfl)) rfl ?_
  refine WL.val (V.fieldAddr fo129_2 (OV.p rfl)) rfl ?_
  refine WL.val (V.load Tryz.isAgg3 (OV.p rfl) (fun _ => by repeat (first | exact Rd.here rfl | apply Rd.up))) rfl ?_
  refine WL.call (vs := [_, _]) Tryz.call132 ⟨OV.p rfl, OV.p rfl, trivial⟩ (cmp_Compare _ _) rfl ?_
  rintro _ H0 ⟨rfl, h0⟩
  subst H0
  refine WL.val (V.assign (OV.p rfl)) rfl ?_
  refine WL.nil ?_
  refine WC.ret ?_
  exact BodyQ.ret (H' := F) (Res.tmp rfl rfl) (fun w h => h.drop 2) ⟨rfl, rfl⟩
  ⟩
abbrev ltOf (c : Fd → Fd → Int) : Fd → Fd → Bool := fun x y => decide (c x y < 0)
theorem insertion_nil {f : Nat} : Does Tryz.prog 197 #[.slice none 0 0, .int .i64 0, .int .i64 0, .func (.func f) #[] #[]] K F (fun v H' => H' = F) := by
  refine Does.enter Tryz.func197 rfl Tryz.ntmps197 rfl ?_
  simp only [env0, Nat.reduceAdd]
  refine WC.sr ?_
  refine WL.val (V.move (OV.p rfl)) rfl ?_
  refine WL.val (V.addI (OV.p rfl) (OV.p rfl) (fun hc => by first | omega | (simp at hc; omega))) rfl ?_
  refine WL.val (V.assign (OV.p rfl)) rfl ?_
  refine WL.nil ?_
  refine WC.block ?_
  refine WC.rounds 1 ?_
  refine WC.seq ?_
  refine WC.sr ?_
  refine WL.val (V.move (OV.p rfl)) rfl ?_
  refine WL.val (V.move (OV.p rfl)) rfl ?_
  refine WL.val (V.lss (OV.p rfl) (OV.p rfl)) rfl ?_
  refine WL.nil ?_
  refine WC.condF' rfl (by first | rfl | (simp; done) | (simp; omega)) ?_
  refine WC.exit ?_
  exact BodyQ.normal (H' := F) (Res.none rfl) (fun w h => h) rfl
theorem stable_found {f m : Nat} {S : Value} {H2 : List Assn} (hins : Does Tryz.prog 197 #[S, .int .i64 0, .int .i64 (m : Int), .func (.func f) #[] #[]] K F (fun v H' => H' = H2)) (hm : m < 20) :
    Does Tryz.prog 175 #[S, .int .i64 (m : Int), .func (.func f) #[] #[]] K F (fun v H' => H' = H2) := by
  refine Does.enter Tryz.func175 rfl Tryz.ntmps175 rfl ?_
  simp only [env0, Nat.reduceAdd]
  refine WC.sr ?_
  refine WL.val (V.assign (OV.p rfl)) rfl ?_
  refine WL.nil ?_
  refine WC.sr ?_
  refine WL.val (V.move (OV.p rfl)) rfl ?_
  refine WL.val (V.assign (OV.p rfl)) rfl ?_
  refine WL.val (V.assign (OV.p rfl)) rfl ?_
  refine WL.nil ?_
  refine WC.seq ?_
  refine WC.block ?_
  refine WC.rounds 1 ?_
  refine WC.seq ?_
  refine WC.sr ?_
  refine WL.val (V.move (OV.p rfl)) rfl ?_
  refine WL.val (V.move (OV.p rfl)) rfl ?_
  refine WL.val (V.leq (OV.p rfl) (OV.p rfl)) rfl ?_
  refine WL.nil ?_
  refine WC.condF' rfl (by first | rfl | (simp; done) | (simp; omega)) ?_
  refine WC.exit ?_
  refine WC.sr ?_
  refine WL.val (V.move (OV.p rfl)) rfl ?_
  refine WL.val (V.move (OV.p rfl)) rfl ?_
  refine WL.val (V.move (OV.p rfl)) rfl ?_
  refine WL.val (V.move (OV.p rfl)) rfl ?_
  refine WL.call (vs := [_, _, _, _]) Tryz.call197 ⟨OV.p rfl, OV.p rfl, OV.p rfl, OV.p rfl, trivial⟩ (hins) rfl ?_
  rintro v H0 h0
  subst h0
  refine WL.nil ?_
  refine WC.block ?_
  refine WC.rounds 1 ?_
  refine WC.seq ?_
  refine WC.sr ?_
  refine WL.val (V.move (OV.p rfl)) rfl ?_
  refine WL.val (V.move (OV.p rfl)) rfl ?_
  refine WL.val (V.lss (OV.p rfl) (OV.p rfl)) rfl ?_
  refine WL.nil ?_
  refine WC.condF' rfl (by first | rfl | (simp; done) | (simp; omega)) ?_
  refine WC.exit ?_
  exact BodyQ.normal (H' := H0) (Res.none rfl) (fun w h => h) rfl
theorem sort_found {f : Nat} {c : Fd → Fd → Int} (hf : CmpIs f c) {A : Option Addr} {m cap : Nat} {ys : List Fd} (hm : ys.length = m) (h20 : m < 20) :
    Does Tryz.prog 133 #[.slice A m cap, .func (.func f) #[] #[]] K (SlA (.slice A m cap) 167 5 m (flatF ys) :: F)
      (fun v H' => ∀ w, Sat K w H' → Sat K w (SlA (.slice A m cap) 167 5 m (flatF (isort (ltOf c) ys)) :: F)) := by
  cases A with
  | none =>
    refine Does.have_ (p := m = 0 ∧ cap = 0) (fun w hw => ⟨(SlA.nilCs hw).1, (SlA.nilCs hw).2.1⟩) (fun h0 => ?_)
    obtain ⟨h1, h2⟩ := h0
    subst h2
    have hy : ys = [] := List.eq_nil_of_length_eq_zero (by omega)
    subst hy
    obtain rfl : m = 0 := by omega
    have hst := stable_found (K := K) (F := SlA (.slice none 0 0) 167 5 0 (flatF []) :: F) (f := f) (m := 0) (S := .slice none 0 0) insertion_nil (by decide)
    refine Does.enter Tryz.func133 rfl Tryz.ntmps133 rfl ?_
    simp only [env0, Nat.reduceAdd]
    refine WC.region ?_
    refine WL.val (V.move (OV.p rfl)) rfl ?_
    refine WL.val (V.move (OV.p rfl)) rfl ?_
    refine WL.val (V.len (t := 133) Tryz.runUnderlying133 (OV.p rfl)) rfl ?_
    refine WL.val (V.move (OV.p rfl)) rfl ?_
    refine WL.call (vs := [_, _, _]) Tryz.call175 ⟨OV.p rfl, OV.p rfl, OV.p rfl, trivial⟩ (hst) rfl ?_
    rintro v H0 h0
    subst h0
    refine WL.nil ?_
    exact BodyQ.normal (H' := SlA (.slice none 0 0) 167 5 0 (flatF []) :: F) (Res.none rfl) (fun w h => h) (fun w h => h)
  | some a =>
    refine Does.have_ (p := ∃ g, a = ⟨g, 0, none⟩) (fun w hw => SlA.addr hw) (fun ⟨g, hg⟩ => ?_)
    subst hg
    refine Does.ex (fun w hw => Sat.slCells hw) (fun r hr => ?_)
    obtain ⟨r1, r2, r3, r4⟩ := hr
    have hst := stable_found (insertion_found (K := K) (F := F) hf (b := g) (m := m) (cap := cap) (ys := ys) (r := r) hm (by omega)) h20
    refine Does.enter Tryz.func133 rfl Tryz.ntmps133 rfl ?_
    simp only [env0, Nat.reduceAdd]
    refine WC.region ?_
    refine WL.val (V.move (OV.p rfl)) rfl ?_
    refine WL.val (V.move (OV.p rfl)) rfl ?_
    refine WL.val (V.len (t := 133) Tryz.runUnderlying133 (OV.p rfl)) rfl ?_
    refine WL.val (V.move (OV.p rfl)) rfl ?_
    refine WL.call (vs := [_, _, _]) Tryz.call175 ⟨OV.p rfl, OV.p rfl, OV.p rfl, trivial⟩ (hst) rfl ?_
    rintro v H0 h0
    subst h0
    refine WL.nil ?_
    refine BodyQ.normal (H' := Cells g 167 (flatF (isort (ltOf c) ys) ++ r) :: F) (Res.none rfl) (fun w h => h) (fun w h => ?_)
    have hfl : (flatF (isort (ltOf c) ys)).length = m * 5 := by rw [flatF_length, isort_length, hm]
    have hfl0 : (flatF ys).length = m * 5 := by rw [flatF_length, hm]
    have h' := Sat.toSl (m := m) (cap := cap) (s := 5) h (by rw [List.length_append] at r1 ⊢; omega) r3 r4
    rw [List.take_left' hfl] at h'
    exact h'
end
/-! ### Rows -/
structure FRow where
  A : Option Addr
  c : Nat
  l : List Fd
abbrev FRow.v (x : FRow) : Value := .slice x.A x.l.length x.c
def FRow.row (x : FRow) : Assn := SlA (.slice x.A x.l.length x.c) 167 5 x.l.length (flatF x.l)
def isOf (leb : Nat) (x : Fd) : Bool := x.whole && decide (x.hd.leb = (leb : Int))
def rowsF (lebs : Nat) (fs : List Fd) : List (List Fd) := (List.range lebs).map fun leb => fs.filter (isOf leb)
theorem rowsF_length (lebs : Nat) (fs : List Fd) : (rowsF lebs fs).length = lebs := by simp [rowsF]
theorem rowsF_add {lebs : Nat} {fs : List Fd} {x : Fd} {leb : Nat} (hl : leb < lebs) (hx : x.whole = true) (hxl : x.hd.leb = (leb : Int)) : rowsF lebs (fs ++ [x]) = (rowsF lebs fs).set leb (fs.filter (isOf leb) ++ [x]) := by
  apply List.ext_getElem
  · simp [rowsF]
  · intro i h1 h2
    rw [List.getElem_set]
    simp only [rowsF, List.getElem_map, List.getElem_range, List.filter_append]
    by_cases h : leb = i
    · subst h
      rw [if_pos rfl]
      congr 1
      rw [List.filter_cons, if_pos (by unfold isOf; rw [hx, hxl]; simp)]; rfl
    · rw [if_neg h, List.filter_cons, if_neg (by unfold isOf; rw [hx, hxl]; simp; omega)]
      simp
theorem rowsF_skip {lebs : Nat} {fs : List Fd} {x : Fd} (h : ∀ leb, leb < lebs → isOf leb x = false) : rowsF lebs (fs ++ [x]) = rowsF lebs fs := by
  unfold rowsF
  apply List.map_congr_left
  intro i hi
  rw [List.filter_append, List.filter_cons, if_neg (by rw [h i (List.mem_range.1 hi)]; decide)]
  simp
end Go.Proofs.YtohkefolnmcjnaaGreat
/- attach: whole, walked. -/
namespace Go.Proofs.YtohkefolnmcjnaaGreat
open Go.Sl Go.RowKit
set_option linter.unusedVariables false
set_option linter.unusedSimpArgs false
set_option maxRecDepth 20000

def FRow.sort (c : Fd → Fd → Int) (x : FRow) : FRow := { x with l := isort (ltOf c) x.l }
theorem FRow.sort_v (c : Fd → Fd → Int) (x : FRow) : (x.sort c).v = x.v := by
  show Value.slice x.A (isort (ltOf c) x.l).length x.c = _
  rw [isort_length]
def fr0 : FRow := ⟨none, 0, []⟩
def srtTo (c : Fd → Fd → Int) (rs : List FRow) : Nat → List FRow
  | 0 => rs
  | j + 1 => (srtTo c rs j).set j ((rs.getD j fr0).sort c)
theorem srtTo_length (c : Fd → Fd → Int) (rs : List FRow) : ∀ j, (srtTo c rs j).length = rs.length
  | 0 => rfl
  | j + 1 => by rw [srtTo, List.length_set, srtTo_length]
theorem srtTo_get (c : Fd → Fd → Int) (rs : List FRow) : ∀ j, j ≤ rs.length → ∀ i, (srtTo c rs j)[i]? = if i < j then (rs[i]?).map (FRow.sort c) else rs[i]?
  | 0, _, i => by simp [srtTo]
  | j + 1, hj, i => by
    rw [srtTo, List.getElem?_set, srtTo_length, srtTo_get c rs j (by omega)]
    by_cases h : j = i
    · subst h
      rw [if_pos rfl, if_pos (by omega), if_pos (by omega)]
      simp [List.getD, show j < rs.length by omega]
    · rw [if_neg h]
      by_cases h2 : i < j
      · rw [if_pos h2, if_pos (by omega)]
      · rw [if_neg h2, if_neg (by omega)]
theorem srtTo_v (c : Fd → Fd → Int) (rs : List FRow) (j : Nat) (hj : j ≤ rs.length) : (srtTo c rs j).map FRow.v = rs.map FRow.v := by
  apply List.ext_getElem?
  intro i
  rw [List.getElem?_map, List.getElem?_map, srtTo_get c rs j hj]
  split
  · rw [Option.map_map]
    congr 1
    funext x
    exact FRow.sort_v c x
  · rfl
theorem srtTo_l (c : Fd → Fd → Int) (rs : List FRow) : (srtTo c rs rs.length).map FRow.l = (rs.map FRow.l).map (isort (ltOf c)) := by
  apply List.ext_getElem?
  intro i
  rw [List.getElem?_map, List.getElem?_map, List.getElem?_map, srtTo_get c rs _ (Nat.le_refl _)]
  by_cases h : i < rs.length
  · rw [if_pos h, Option.map_map, Option.map_map]; rfl
  · rw [if_neg h, List.getElem?_eq_none (by omega)]; rfl
theorem flatF_snoc (l : List Fd) (x : Fd) : flatF (l ++ [x]) = flatF l ++ x.cells := by simp [flatF]
theorem found_rd {K : World} {F : List Assn} {A : Option Addr} {n : Nat} {fs : List Fd} (hs : Seq K F A n 5 (flatF fs)) {k : Nat} {x : Fd} (hx : fs[k]? = some x) {j : Nat} {v : Value} (hj : x.cells[j]? = some v) : Rd K F (A.map (·.add (k * 5 + j))) v :=
  hs.rd _ _ (flat_get (s := 5) Fd.len fs k j x v hx hj)
section
variable {K : World} {F : List Assn}
theorem attach_whole {f : Nat} {c : Fd → Fd → Int} (hf : CmpIs f c) {lebs n cap : Nat} {A : Option Addr} {fs : List Fd} (hl : 1 ≤ lebs ∧ lebs ≤ 64) (hs : Seq K F A n 5 (flatF fs)) (hn : fs.length = n) (h20 : n < 20) :
    Does Tryz.prog 128 #[.int .i64 (lebs : Int), .slice A n cap, .func (.func f) #[] #[]] K F
      (fun v H' => ∃ bo : Nat, ∃ rs : List FRow, rs.length = lebs ∧ rs.map FRow.l = (rowsF lebs fs).map (isort (ltOf c)) ∧ v = .tuple #[.slice (some ⟨bo, 0, none⟩) lebs lebs, .int .i64 0] ∧ H' = Cells bo 133 (rs.map FRow.v) :: AllA (rs.map FRow.row) :: F) := by
  refine Does.enter Tryz.func128 rfl Tryz.ntmps128 rfl ?_
  simp only [env0, Nat.reduceAdd]
  refine WC.sr ?_
  refine WL.val (V.assign (OV.p rfl)) rfl ?_
  refine WL.val (V.assign (OV.p rfl)) rfl ?_
  refine WL.nil ?_
  refine WC.seq ?_
  refine WC.sr ?_
  refine WL.val (V.move (OV.p rfl)) rfl ?_
  refine WL.val (V.lss (OV.p rfl) (OV.p rfl)) rfl ?_
  refine WL.val (V.move (OV.p rfl)) rfl ?_
  refine WL.valG (oj := _) rfl rfl rfl GC.f (V.move (OV.p rfl)) rfl ?_
  refine WL.valG (oj := _) rfl rfl rfl GC.f (V.gtr (OV.g rfl id) (OV.p rfl)) rfl ?_
  refine WL.val (V.pickOr (OV.p rfl) (OV.g rfl id)) rfl ?_
  refine WL.nil ?_
  refine WC.condF' rfl ((by simp; omega)) ?_
  refine WC.skip ?_
  refine WC.sr ?_
  refine WL.val (V.move (OV.p rfl)) rfl ?_
  refine WL.make1 (m := lebs) Tryz.underlying168 el133 (OV.p rfl) (OV.p rfl) rfl rfl (by omega) rfl rfl rfl (fun bo => ?_)
  refine WL.val (V.assign (OV.p rfl)) rfl ?_
  refine WL.nil ?_
  refine WC.seq ?_
  refine WC.sr ?_
  refine WL.val (V.move (OV.p rfl)) rfl ?_
  refine WL.val (V.len (t := 133) Tryz.runUnderlying133 (OV.p rfl)) rfl ?_
  refine WL.val (V.move (OV.p rfl)) rfl ?_
  refine WL.nil ?_
  refine WC.block ?_
  refine WC.loop (σ := Nat × List FRow) (fun s => [(0, .int .i64 (lebs : Int)), (2, .func (.func f) #[] #[]), (8, .slice (some ⟨bo, 0, none⟩) lebs lebs), (22, .slice A n cap), (23, .int .i64 (n : Int)), (24, .int .i64 (s.1 : Int))]) (fun s => Cells bo 133 (s.2.map FRow.v) :: AllA (s.2.map FRow.row) :: F) (fun s => s.1 ≤ n ∧ s.2.length = lebs ∧ s.2.map FRow.l = rowsF lebs (fs.take s.1)) (fun s => n - s.1) (0, List.replicate lebs fr0) ⟨Nat.zero_le _, List.length_replicate, by
    rw [List.map_replicate]
    apply List.ext_getElem
    · simp [rowsF]
    · intro i h1 h2; simp [rowsF, fr0]⟩ (.cons rfl (.cons rfl (.cons rfl (.cons rfl (.cons rfl (.cons rfl (.nil _))))))) (fun w h => by
    dsimp only
    rw [List.map_replicate, List.map_replicate]
    have key : ∀ m, ∀ H, Sat K w H → Sat K w (List.replicate m fr0.row ++ H) := fun m => by
      induction m with
      | zero => intro H h; exact h
      | succ m ih => intro H h; exact Sat.slNil (ih H h) _ _
    have h1 : Sat K w (List.replicate lebs fr0.row ++ (Cells bo 133 (List.replicate lebs fr0.v) :: F)) := key lebs _ h
    exact (Sat.all h1).p1) ?_
  rintro ⟨k, rs⟩ ⟨hk, hrl, hrs⟩
  dsimp only at hk hrl hrs ⊢
  refine WC.sr ?_
  refine WL.val (V.lss (OV.p rfl) (OV.p rfl)) rfl ?_
  refine WL.nil ?_
  refine WC.seq ?_
  refine WC.cond rfl (fun hc1 => ?_) (fun hc1 => ?_)
  ·simp only [decide_eq_true_eq, decide_eq_false_iff_not] at hc1
   obtain ⟨x, hx⟩ : ∃ x, fs[k]? = some x := ⟨_, List.getElem?_eq_getElem (by omega)⟩
   have hel : ∀ (j : Nat) v, x.cells[j]? = some v → Rd K F (A.map (·.add (k * 5 + j))) v := fun j v hj => found_rd hs hx hj
   have htk : fs.take (k + 1) = fs.take k ++ [x] := by rw [List.take_add_one, hx]; rfl
   have hti : (k : Int).toNat = k := by omega
   refine WC.skip ?_
   refine WC.seq ?_
   refine WC.block ?_
   refine WC.sr ?_
   refine WL.val (V.val_eq (v' := sp A (k * 5)) (V.idxS st133 (OV.p rfl) (OV.p rfl) (fun hc => by omega) (fun hc => by rw [hti]; repeat (first | exact hel 0 _ rfl | apply Rd.up))) (fun _ => by rw [hti])) rfl ?_
   refine WL.val (V.loadS (vs := x.cells) ⟨Tryz.isAgg167, Tryz.sizeOf167⟩ (OV.p rfl) rfl (by decide) (fun _ j v hj => by repeat (first | exact hel j v hj | apply Rd.up))) rfl ?_
   refine WL.alloc (cs := [(.int .i64 0), (.int .i64 0), (.int .i64 0), (.int .i64 0), (.bool false)]) Tryz.zeroValue167 rfl rfl (fun b10 => ?_)
   refine WL.store (cs := [_, _, _, _, _]) Tryz.sizeOf167 (OV.p rfl) (OV.p rfl) rfl rfl rfl (by repeat (first | exact Upd.here (cs' := [_, _, _, _, _]) rfl rfl | apply Upd.up)) ?_
   refine WL.nil ?_
   refine WC.sr ?_
   refine WL.val (V.fieldAddr fo167_1 (OV.p rfl)) rfl ?_
   refine WL.val (V.fieldAddr fo129_0 (OV.p rfl)) rfl ?_
   refine WL.val (V.load Tryz.isAgg3 (OV.p rfl) (fun _ => by repeat (first | exact Rd.here rfl | apply Rd.up))) rfl ?_
   refine WL.val (V.assign (OV.p rfl)) rfl ?_
   refine WL.nil ?_
   refine WC.sr ?_
   refine WL.val (V.fieldAddr fo167_2 (OV.p rfl)) rfl ?_
   refine WL.val (V.load Tryz.isAgg4 (OV.p rfl) (fun _ => by repeat (first | exact Rd.here rfl | apply Rd.up))) rfl ?_
   refine WL.val (V.move (OV.p rfl)) rfl ?_
   refine WL.valG (oj := _) rfl rfl rfl GC.t (V.move (OV.p rfl)) rfl ?_
   refine WL.valG (oj := _) rfl rfl rfl GC.t (V.geq (OV.g rfl id) (OV.p rfl)) rfl ?_
   refine WL.val (V.pickAnd (OV.p rfl) (OV.g rfl id)) rfl ?_
   refine WL.val (V.move (OV.p rfl)) rfl ?_
   refine WL.valG (oj := _) rfl rfl rfl GC.t (V.move (OV.p rfl)) rfl ?_
   refine WL.valG (oj := _) rfl rfl rfl GC.t (V.move (OV.p rfl)) rfl ?_
   refine WL.valG (oj := _) rfl rfl rfl GC.t (V.lss (OV.g rfl id) (OV.g rfl id)) rfl ?_
   refine WL.val (V.pickAnd (OV.p rfl) (OV.g rfl id)) rfl ?_
   refine WL.nil ?_
   refine WC.cond rfl (fun hc2 => ?_) (fun hc2 => ?_)
   ·simp only [Bool.and_eq_true, Bool.and_eq_false_iff, decide_eq_true_eq, decide_eq_false_iff_not] at hc2
    have h2 := hc2
    obtain ⟨lb, hlb⟩ : ∃ lb : Nat, x.hd.leb = (lb : Int) := ⟨x.hd.leb.toNat, by omega⟩
    have hll : lb < lebs := by omega
    obtain ⟨r, hr⟩ : ∃ r, r = rs[lb]'(by omega) := ⟨_, rfl⟩
    have hrg : rs[lb]? = some r := by rw [hr]; exact List.getElem?_eq_getElem (by omega)
    have hrl2 : r.l = (fs.take k).filter (isOf lb) := by
      have h3 : (rs.map FRow.l)[lb]? = some r.l := by rw [List.getElem?_map, hrg]; rfl
      rw [hrs] at h3
      simp only [rowsF, List.getElem?_map, List.getElem?_range hll, Option.map_some] at h3
      injection h3 with h3
      exact h3.symm
    have hrb : r.l.length ≤ 20 := by rw [hrl2]; exact Nat.le_trans (List.length_filter_le _ _) (by rw [List.length_take]; omega)
    have hrow : (rs.map FRow.row)[lb]'(by rw [List.length_map]; omega) = r.row := by rw [List.getElem_map, hr]
    have hvg : (rs.map FRow.v)[0 + x.hd.leb.toNat * 1]? = some r.v := by rw [hlb, show 0 + ((lb : Nat) : Int).toNat * 1 = lb by omega, List.getElem?_map, hrg]; rfl
    refine WC.sub (H' := SlA (.slice r.A r.l.length r.c) 167 5 r.l.length (flatF r.l) :: Cells bo 133 (rs.map FRow.v) :: AllA ((rs.map FRow.row).eraseIdx lb) :: Cells b10 167 x.cells :: F) (Sub.refl _) (fun w h => by
      have h4 := Sat.takeA (k := lb) (by rw [List.length_map]; omega) (h.sel 3 [2, 1, 0] rfl)
      rw [hrow] at h4
      exact h4.sel 4 [0, 2, 1, 3] rfl) ?_
    refine WC.regionA (AllA ((rs.map FRow.row).eraseIdx lb) :: Cells b10 167 x.cells :: F) (by kernel_rfl) ?_
    refine WA.t 0 rfl (V.move (OV.p rfl)) ?_
    refine WA.t 1 rfl (V.move (OV.p rfl)) ?_
    refine WA.t 2 rfl (V.move (OV.p rfl)) ?_
    refine WA.t 3 rfl (V.move (OV.p rfl)) ?_
    refine WA.t 4 rfl (V.idxB st168 (OV.p rfl) (OV.p rfl) (fun hc => by omega)) ?_
    refine WA.t 6 rfl (V.loadA (vs := [_, _, _, _, _]) ⟨Tryz.isAgg167, Tryz.sizeOf167⟩ (OV.p rfl) rfl (fun _ => by repeat (first | exact Rds.gets ⟨rfl, rfl, rfl, rfl, rfl, trivial⟩ | apply Rds.up))) ?_
    refine WA.two (i := 5) (j := 7) (fun w h => by repeat (first | exact h | replace h := h.tail)) (by kernel_rfl) rfl rfl ?_ ?_
    ·refine WL.val (V.load Tryz.isAgg133 (OV.p rfl) (fun _ => by repeat (first | exact Rd.here hvg | apply Rd.up))) rfl ?_
     refine WL.nil ?_
     refine WA.o 7 rfl ?_
     refine WL.buildSlice (E := 167) (cs := [_, _, _, _, _]) (vs := [(0, _)]) ⟨OV.p rfl, trivial⟩ rfl (bsl133_1_0 _ _ _ _ _) rfl (fun b49 => ?_)
     refine WL.nil ?_
     refine WA.o 8 rfl ?_
     refine WL.sub (Sub.refl _) (fun w h => h.p1) ?_
     refine WL.append (m := r.l.length) (q := 1) (news := x.cells) Tryz.underlying133 el167 (OV.p rfl) (OV.p rfl) (Seq.all rfl) (fun u hu => by simpa using List.all_eq_true.1 (flatF_one x) u hu) (by omega) rfl rfl (fun A5 c5 hA5 hc5 => ?_)
     refine WL.nil ?_
     refine WA.t 9 rfl (V.idxB st168 (OV.p rfl) (OV.p rfl) (fun hc => by omega)) ?_
     refine WA.o 10 rfl ?_
     refine WL.store (cs := [_]) Tryz.sizeOf133 (OV.p rfl) (OV.p rfl) rfl rfl rfl (Upd.up (Upd.up (Upd.at_ (by rw [List.length_map]; omega)))) ?_
     refine WL.nil ?_
     refine WA.fin ?_
     refine WC.region ?_
     refine WL.val (V.addI (OV.p rfl) (OV.p rfl) (fun hc => by first | omega | (simp at hc; omega))) rfl ?_
     refine WL.val (V.move (OV.p rfl)) rfl ?_
     refine WL.nil ?_
     refine ⟨rfl, ?_⟩
     first
     | (refine ⟨(k + 1, rs.set lb ⟨A5, c5, r.l ++ [x]⟩), ⟨by show k + 1 ≤ n; omega, by show (rs.set _ _).length = lebs; rw [List.length_set]; exact hrl, ?_⟩, (by show n - (k + 1) < n - k; omega), .cons rfl (.cons rfl (.cons rfl (.cons rfl (.cons rfl (.cons (look_eq rfl (by simp)) (.nil _)))))), fun w h => ?_⟩
        · show (rs.set lb _).map FRow.l = _
          rw [htk, rowsF_add hll h2.1.1 hlb, List.map_set, hrs, ← hrl2]
        · have h5 := h.sel 5 [0, 3, 2] rfl
          have e1 : SlA (.slice A5 (r.l.length + 1) c5) 167 5 (r.l.length + 1) (flatF r.l ++ x.cells) = FRow.row ⟨A5, c5, r.l ++ [x]⟩ := by
            unfold FRow.row
            rw [flatF_snoc, List.length_append]; rfl
          rw [e1] at h5
          have h6 := Sat.putA (l := rs.map FRow.row) (k := lb) (by rw [List.length_map]; omega) h5
          have e2 : (rs.map FRow.v).set (0 + x.hd.leb.toNat * 1) (.slice A5 (r.l.length + 1) c5) = (rs.set lb ⟨A5, c5, r.l ++ [x]⟩).map FRow.v := by
            rw [hlb, show 0 + ((lb : Nat) : Int).toNat * 1 = lb by omega, List.map_set]
            show _ = (rs.map FRow.v).set lb (.slice A5 (r.l ++ [x]).length c5)
            rw [List.length_append]; rfl
          rw [e2, ← List.map_set] at h6
          exact h6.p1)
     | (refine ⟨(k + 1, rs), ⟨by show k + 1 ≤ n; omega, hrl, ?_⟩, (by show n - (k + 1) < n - k; omega), .cons rfl (.cons rfl (.cons rfl (.cons rfl (.cons rfl (.cons (look_eq rfl (by simp)) (.nil _)))))), fun w h => h.drop 1⟩
        show rs.map FRow.l = _
        rw [htk, rowsF_skip hskip, hrs])
    ·refine WL.buildSlice (E := 167) (cs := [_, _, _, _, _]) (vs := [(0, _)]) ⟨OV.p rfl, trivial⟩ rfl (bsl133_1_0 _ _ _ _ _) rfl (fun b49 => ?_)
     refine WL.nil ?_
     refine WA.o 5 rfl ?_
     refine WL.val (V.load Tryz.isAgg133 (OV.p rfl) (fun _ => by repeat (first | exact Rd.here hvg | apply Rd.up))) rfl ?_
     refine WL.nil ?_
     refine WA.o 8 rfl ?_
     refine WL.sub (Sub.refl _) (fun w h => h.p1) ?_
     refine WL.append (m := r.l.length) (q := 1) (news := x.cells) Tryz.underlying133 el167 (OV.p rfl) (OV.p rfl) (Seq.all rfl) (fun u hu => by simpa using List.all_eq_true.1 (flatF_one x) u hu) (by omega) rfl rfl (fun A5 c5 hA5 hc5 => ?_)
     refine WL.nil ?_
     refine WA.t 9 rfl (V.idxB st168 (OV.p rfl) (OV.p rfl) (fun hc => by omega)) ?_
     refine WA.o 10 rfl ?_
     refine WL.store (cs := [_]) Tryz.sizeOf133 (OV.p rfl) (OV.p rfl) rfl rfl rfl (Upd.up (Upd.up (Upd.at_ (by rw [List.length_map]; omega)))) ?_
     refine WL.nil ?_
     refine WA.fin ?_
     refine WC.region ?_
     refine WL.val (V.addI (OV.p rfl) (OV.p rfl) (fun hc => by first | omega | (simp at hc; omega))) rfl ?_
     refine WL.val (V.move (OV.p rfl)) rfl ?_
     refine WL.nil ?_
     refine ⟨rfl, ?_⟩
     first
     | (refine ⟨(k + 1, rs.set lb ⟨A5, c5, r.l ++ [x]⟩), ⟨by show k + 1 ≤ n; omega, by show (rs.set _ _).length = lebs; rw [List.length_set]; exact hrl, ?_⟩, (by show n - (k + 1) < n - k; omega), .cons rfl (.cons rfl (.cons rfl (.cons rfl (.cons rfl (.cons (look_eq rfl (by simp)) (.nil _)))))), fun w h => ?_⟩
        · show (rs.set lb _).map FRow.l = _
          rw [htk, rowsF_add hll h2.1.1 hlb, List.map_set, hrs, ← hrl2]
        · have h5 := h.sel 5 [0, 3, 2] rfl
          have e1 : SlA (.slice A5 (r.l.length + 1) c5) 167 5 (r.l.length + 1) (flatF r.l ++ x.cells) = FRow.row ⟨A5, c5, r.l ++ [x]⟩ := by
            unfold FRow.row
            rw [flatF_snoc, List.length_append]; rfl
          rw [e1] at h5
          have h6 := Sat.putA (l := rs.map FRow.row) (k := lb) (by rw [List.length_map]; omega) h5
          have e2 : (rs.map FRow.v).set (0 + x.hd.leb.toNat * 1) (.slice A5 (r.l.length + 1) c5) = (rs.set lb ⟨A5, c5, r.l ++ [x]⟩).map FRow.v := by
            rw [hlb, show 0 + ((lb : Nat) : Int).toNat * 1 = lb by omega, List.map_set]
            show _ = (rs.map FRow.v).set lb (.slice A5 (r.l ++ [x]).length c5)
            rw [List.length_append]; rfl
          rw [e2, ← List.map_set] at h6
          exact h6.p1)
     | (refine ⟨(k + 1, rs), ⟨by show k + 1 ≤ n; omega, hrl, ?_⟩, (by show n - (k + 1) < n - k; omega), .cons rfl (.cons rfl (.cons rfl (.cons rfl (.cons rfl (.cons (look_eq rfl (by simp)) (.nil _)))))), fun w h => h.drop 1⟩
        show rs.map FRow.l = _
        rw [htk, rowsF_skip hskip, hrs])
   ·simp only [Bool.and_eq_true, Bool.and_eq_false_iff, decide_eq_true_eq, decide_eq_false_iff_not] at hc2
    have h2 := hc2
    have hskip : ∀ leb, leb < lebs → isOf leb x = false := fun leb hl2 => by
      unfold isOf
      rcases h2 with (h | h) | h
      · rw [h]; rfl
      · rw [decide_eq_false (show ¬ x.hd.leb = (leb : Int) by omega), Bool.and_false]
      · rw [decide_eq_false (show ¬ x.hd.leb = (leb : Int) by omega), Bool.and_false]
    refine WC.skip ?_
    refine WC.region ?_
    refine WL.val (V.addI (OV.p rfl) (OV.p rfl) (fun hc => by first | omega | (simp at hc; omega))) rfl ?_
    refine WL.val (V.move (OV.p rfl)) rfl ?_
    refine WL.nil ?_
    refine ⟨rfl, ?_⟩
    first
    | (refine ⟨(k + 1, rs.set lb ⟨A5, c5, r.l ++ [x]⟩), ⟨by show k + 1 ≤ n; omega, by show (rs.set _ _).length = lebs; rw [List.length_set]; exact hrl, ?_⟩, (by show n - (k + 1) < n - k; omega), .cons rfl (.cons rfl (.cons rfl (.cons rfl (.cons rfl (.cons (look_eq rfl (by simp)) (.nil _)))))), fun w h => ?_⟩
       · show (rs.set lb _).map FRow.l = _
         rw [htk, rowsF_add hll h2.1.1 hlb, List.map_set, hrs, ← hrl2]
       · have h5 := h.sel 5 [0, 3, 2] rfl
         have e1 : SlA (.slice A5 (r.l.length + 1) c5) 167 5 (r.l.length + 1) (flatF r.l ++ x.cells) = FRow.row ⟨A5, c5, r.l ++ [x]⟩ := by
           unfold FRow.row
           rw [flatF_snoc, List.length_append]; rfl
         rw [e1] at h5
         have h6 := Sat.putA (l := rs.map FRow.row) (k := lb) (by rw [List.length_map]; omega) h5
         have e2 : (rs.map FRow.v).set (0 + x.hd.leb.toNat * 1) (.slice A5 (r.l.length + 1) c5) = (rs.set lb ⟨A5, c5, r.l ++ [x]⟩).map FRow.v := by
           rw [hlb, show 0 + ((lb : Nat) : Int).toNat * 1 = lb by omega, List.map_set]
           show _ = (rs.map FRow.v).set lb (.slice A5 (r.l ++ [x]).length c5)
           rw [List.length_append]; rfl
         rw [e2, ← List.map_set] at h6
         exact h6.p1)
    | (refine ⟨(k + 1, rs), ⟨by show k + 1 ≤ n; omega, hrl, ?_⟩, (by show n - (k + 1) < n - k; omega), .cons rfl (.cons rfl (.cons rfl (.cons rfl (.cons rfl (.cons (look_eq rfl (by simp)) (.nil _)))))), fun w h => h.drop 1⟩
       show rs.map FRow.l = _
       rw [htk, rowsF_skip hskip, hrs])
  ·simp only [decide_eq_true_eq, decide_eq_false_iff_not] at hc1
   refine WC.exit ?_
   refine WC.seq ?_
   refine WC.seq ?_
   obtain rfl : k = n := by omega
   rw [List.take_of_length_le (by omega)] at hrs
   refine WC.region ?_
   refine WL.val (V.move (OV.p rfl)) rfl ?_
   refine WL.val (V.len (t := 168) Tryz.runUnderlying168 (OV.p rfl)) rfl ?_
   refine WL.val (V.move (OV.p rfl)) rfl ?_
   refine WL.nil ?_
   refine WC.block ?_
   refine WC.loop (σ := Nat) (fun j => [(2, .func (.func f) #[] #[]), (8, .slice (some ⟨bo, 0, none⟩) lebs lebs), (53, .slice (some ⟨bo, 0, none⟩) lebs lebs), (54, .int .i64 (lebs : Int)), (55, .int .i64 (j : Int))]) (fun j => Cells bo 133 (rs.map FRow.v) :: AllA ((srtTo c rs j).map FRow.row) :: F) (fun j => j ≤ lebs) (fun j => lebs - j) 0 (Nat.zero_le _) (.cons rfl (.cons rfl (.cons rfl (.cons rfl (.cons rfl (.nil _)))))) (fun w h => h) ?_
   rintro j hj
   refine WC.sr ?_
   refine WL.val (V.lss (OV.p rfl) (OV.p rfl)) rfl ?_
   refine WL.nil ?_
   refine WC.seq ?_
   refine WC.cond rfl (fun hc3 => ?_) (fun hc3 => ?_)
   ·simp only [decide_eq_true_eq, decide_eq_false_iff_not] at hc3
    have hjl : j < lebs := by omega
    obtain ⟨r, hr⟩ : ∃ r, r = rs[j]'(by omega) := ⟨_, rfl⟩
    have hrg : rs[j]? = some r := by rw [hr]; exact List.getElem?_eq_getElem (by omega)
    have hsl := srtTo_length c rs j
    have hrj : (srtTo c rs j)[j]? = some r := by rw [srtTo_get c rs j (by omega), if_neg (Nat.lt_irrefl _)]; exact hrg
    have hrow : ((srtTo c rs j).map FRow.row)[j]'(by rw [List.length_map]; omega) = r.row := by
      rw [List.getElem_map]
      congr 1
      rw [List.getElem?_eq_getElem (by omega)] at hrj
      injection hrj
    have hvg : (rs.map FRow.v)[0 + ((j : Nat) : Int).toNat * 1]? = some r.v := by rw [show 0 + ((j : Nat) : Int).toNat * 1 = j by omega, List.getElem?_map, hrg]; rfl
    have hrb : r.l.length < 20 := by
      have h3 : (rs.map FRow.l)[j]? = some r.l := by rw [List.getElem?_map, hrg]; rfl
      rw [hrs] at h3
      simp only [rowsF, List.getElem?_map, List.getElem?_range hjl, Option.map_some] at h3
      injection h3 with h3
      rw [← h3]
      exact Nat.lt_of_le_of_lt (List.length_filter_le _ _) (by omega)
    refine WC.skip ?_
    refine WC.seq ?_
    refine WC.block ?_
    refine WC.sr ?_
    refine WL.val (V.idxB st168 (OV.p rfl) (OV.p rfl) (fun hc => by omega)) rfl ?_
    refine WL.val (V.load Tryz.isAgg133 (OV.p rfl) (fun _ => Rd.here hvg)) rfl ?_
    refine WL.val (V.assign (OV.p rfl)) rfl ?_
    refine WL.nil ?_
    refine WC.sub (H' := SlA (.slice r.A r.l.length r.c) 167 5 r.l.length (flatF r.l) :: AllA (((srtTo c rs j).map FRow.row).eraseIdx j) :: Cells bo 133 (rs.map FRow.v) :: F) (Sub.refl _) (fun w h => by
      have h4 := Sat.takeA (k := j) (by rw [List.length_map]; omega) h.p1
      rw [hrow] at h4
      exact h4) ?_
    refine WC.region ?_
    refine WL.val (V.move (OV.p rfl)) rfl ?_
    refine WL.val (V.move (OV.p rfl)) rfl ?_
    refine WL.call (vs := [_, _]) Tryz.call133 ⟨OV.p rfl, OV.p rfl, trivial⟩ (sort_found hf rfl hrb) rfl ?_
    rintro v0 H0 h0
    refine WL.nil ?_
    refine WC.region ?_
    refine WL.val (V.addI (OV.p rfl) (OV.p rfl) (fun hc => by first | omega | (simp at hc; omega))) rfl ?_
    refine WL.val (V.move (OV.p rfl)) rfl ?_
    refine WL.nil ?_
    refine ⟨rfl, ?_⟩
    refine ⟨j + 1, hjl, (by show lebs - (j + 1) < lebs - j; omega), .cons rfl (.cons rfl (.cons rfl (.cons rfl (.cons (look_eq rfl (by simp)) (.nil _))))), fun w h => ?_⟩
    have h5 := h0 w h
    have e1 : SlA (.slice r.A r.l.length r.c) 167 5 r.l.length (flatF (isort (ltOf c) r.l)) = (r.sort c).row := by
      unfold FRow.row FRow.sort
      rw [isort_length]
    rw [e1] at h5
    have h6 := Sat.putA (l := (srtTo c rs j).map FRow.row) (k := j) (by rw [List.length_map]; omega) h5
    have e3 : rs.getD j fr0 = r := by simp [List.getD, hrg]
    rw [← List.map_set] at h6
    dsimp only
    rw [srtTo, e3]
    exact h6.p1
   ·simp only [decide_eq_true_eq, decide_eq_false_iff_not] at hc3
    refine WC.exit ?_
    refine WC.sr ?_
    refine WL.val (V.move (OV.p rfl)) rfl ?_
    refine WL.val (V.assign (OV.p rfl)) rfl ?_
    refine WL.val (V.assign (OV.p rfl)) rfl ?_
    refine WL.nil ?_
    refine WC.ret ?_
    obtain rfl : j = lebs := by omega
    refine BodyQ.ret (H' := Cells bo 133 ((srtTo c rs j).map FRow.v) :: AllA ((srtTo c rs j).map FRow.row) :: F) (Res.tmp2 rfl rfl rfl) (fun w h => by rw [srtTo_v c rs j (by omega)]; exact h) ⟨bo, srtTo c rs j, by rw [srtTo_length, hrl], ?_, rfl, rfl⟩
    have h7 := srtTo_l c rs
    rw [hrl] at h7
    rw [h7, hrs]
end
end Go.Proofs.YtohkefolnmcjnaaGreat
