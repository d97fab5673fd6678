import Derived.Test.YtohkefolnmcjnaaGreatP26
/- The laws StoreNil and StoreOpens. -/
namespace Go.Proofs.YtohkefolnmcjnaaGreat
open Go.Sl Go.RowKit
set_option linter.unusedVariables false
set_option linter.unusedSimpArgs false
set_option maxRecDepth 20000

theorem law11_StoreNil (leb : Int) {A : Option Addr} {m cap : Nat} (K : World) (F : List Assn) : Tells Tryz.prog 5 #[.int .i64 leb, .slice A m cap] K F (.bool true) := by
  refine Does.enter Tryz.func5 rfl Tryz.ntmps5 rfl ?_
  simp only [env0, Nat.reduceAdd]
  refine WC.sr ?_
  refine WL.val (V.assign (OV.p rfl)) rfl ?_
  refine WL.nil ?_
  refine WC.sr ?_
  refine WL.val (V.assign (OV.p rfl)) rfl ?_
  refine WL.nil ?_
  refine WC.sr ?_
  refine WL.val (V.move (OV.p rfl)) rfl ?_
  refine WL.val (V.move (OV.p rfl)) rfl ?_
  refine WL.call (vs := [_, _]) Tryz.call28 ⟨OV.p rfl, OV.p rfl, trivial⟩ (nil_Read leb) rfl ?_
  rintro _ H0 ⟨rfl, h0⟩
  subst H0
  refine WL.val (V.move (OV.p rfl)) rfl ?_
  refine WL.val (V.extract (OV.p rfl) rfl) rfl ?_
  refine WL.val (V.extract (OV.p rfl) rfl) rfl ?_
  refine WL.val (V.extract (OV.p rfl) rfl) rfl ?_
  refine WL.val (V.assign (OV.p rfl)) rfl ?_
  refine WL.val (V.assign (OV.p rfl)) rfl ?_
  refine WL.val (V.assign (OV.p rfl)) rfl ?_
  refine WL.nil ?_
  refine WC.sr ?_
  refine WL.val (V.move (OV.p rfl)) rfl ?_
  refine WL.call (vs := [_, _]) Tryz.call29 ⟨OV.p rfl, OV.p rfl, trivial⟩ (store_OpenN) rfl ?_
  rintro _ H0 ⟨rfl, h0⟩
  subst H0
  refine WL.val (V.move (OV.p rfl)) rfl ?_
  refine WL.val (V.extract (OV.p rfl) rfl) rfl ?_
  refine WL.val (V.extract (OV.p rfl) rfl) rfl ?_
  refine WL.val (V.assign (OV.p rfl)) rfl ?_
  refine WL.val (V.assign (OV.p rfl)) rfl ?_
  refine WL.nil ?_
  refine WC.sr ?_
  refine WL.call (vs := []) Tryz.call30 trivial (law11_awake _ _) rfl ?_
  rintro _ H0 ⟨rfl, h0⟩
  subst H0
  refine WL.val (V.move (OV.p rfl)) rfl ?_
  refine WL.valG (oj := _) rfl rfl rfl GC.t (V.move (OV.p rfl)) rfl ?_
  refine WL.valG (oj := _) rfl rfl rfl GC.t (V.eql (OV.g rfl id) (OV.p rfl)) rfl ?_
  refine WL.val (V.pickAnd (OV.p rfl) (OV.g rfl id)) rfl ?_
  refine WL.val (V.move (OV.p rfl)) rfl ?_
  refine WL.valG (oj := _) rfl rfl rfl GC.t (V.move (OV.p rfl)) rfl ?_
  refine WL.valG (oj := _) rfl rfl rfl GC.t (V.len (t := 38) Tryz.runUnderlying38 (OV.g rfl id)) rfl ?_
  refine WL.valG (oj := _) rfl rfl rfl GC.t (V.move (OV.p rfl)) rfl ?_
  refine WL.valG (oj := _) rfl rfl rfl GC.t (V.addI (OV.g rfl id) (OV.g rfl id) (fun hc => by first | omega | (simp at hc; omega))) rfl ?_
  refine WL.valG (oj := _) rfl rfl rfl GC.t (V.eql (OV.g rfl id) (OV.p rfl)) rfl ?_
  refine WL.val (V.pickAnd (OV.p rfl) (OV.g rfl id)) rfl ?_
  refine WL.val (V.move (OV.p rfl)) rfl ?_
  refine WL.valG (oj := _) rfl rfl rfl GC.t (V.move (OV.p rfl)) rfl ?_
  refine WL.valG (oj := _) rfl rfl rfl GC.t (V.eql (OV.g rfl id) (OV.p rfl)) rfl ?_
  refine WL.val (V.pickAnd (OV.p rfl) (OV.g rfl id)) rfl ?_
  refine WL.val (V.move (OV.p rfl)) rfl ?_
  refine WL.valG (oj := _) rfl rfl rfl GC.t (V.move (OV.p rfl)) rfl ?_
  refine WL.valG (oj := _) rfl rfl rfl GC.t (V.move (OV.p rfl)) rfl ?_
  refine WL.valG (oj := _) rfl rfl rfl GC.t (V.move (OV.p rfl)) rfl ?_
  refine WL.callG (oj := _) (vs := [_, _, _]) rfl rfl rfl GC.t Tryz.call31 ⟨OV.g rfl id, OV.g rfl id, OV.g rfl id, trivial⟩ (fun hg => nil_Change leb) rfl ?_
  refine WL.valG (oj := _) rfl rfl rfl GC.t (V.eql (OV.g rfl id) (OV.p rfl)) rfl ?_
  refine WL.val (V.pickAnd (OV.p rfl) (OV.g rfl id)) rfl ?_
  refine WL.val (V.move (OV.p rfl)) rfl ?_
  refine WL.valG (oj := _) rfl rfl rfl GC.t (V.move (OV.p rfl)) rfl ?_
  refine WL.valG (oj := _) rfl rfl rfl GC.t (V.move (OV.p rfl)) rfl ?_
  refine WL.callG (oj := _) (vs := [_, _]) rfl rfl rfl GC.t Tryz.call32 ⟨OV.g rfl id, OV.g rfl id, trivial⟩ (fun hg => nil_Unmap leb) rfl ?_
  refine WL.valG (oj := _) rfl rfl rfl GC.t (V.eql (OV.g rfl id) (OV.p rfl)) rfl ?_
  refine WL.val (V.pickAnd (OV.p rfl) (OV.g rfl id)) rfl ?_
  refine WL.val (V.move (OV.p rfl)) rfl ?_
  refine WL.valG (oj := _) rfl rfl rfl GC.t (V.move (OV.p rfl)) rfl ?_
  refine WL.callG (oj := _) (vs := [_]) rfl rfl rfl GC.t Tryz.call33 ⟨OV.g rfl id, trivial⟩ (fun hg => nil_Lebs) rfl ?_
  refine WL.valG (oj := _) rfl rfl rfl GC.t (V.move (OV.p rfl)) rfl ?_
  refine WL.callG (oj := _) (vs := [_]) rfl rfl rfl GC.t Tryz.call34 ⟨OV.g rfl id, trivial⟩ (fun hg => nil_Cap) rfl ?_
  refine WL.valG (oj := _) rfl rfl rfl GC.t (V.addI (OV.g rfl id) (OV.g rfl id) (fun hc => by first | omega | (simp at hc; omega))) rfl ?_
  refine WL.valG (oj := _) rfl rfl rfl GC.t (V.eql (OV.g rfl id) (OV.p rfl)) rfl ?_
  refine WL.val (V.pickAnd (OV.p rfl) (OV.g rfl id)) rfl ?_
  refine WL.val (V.move (OV.p rfl)) rfl ?_
  refine WL.valG (oj := _) rfl rfl rfl GC.t (V.move (OV.p rfl)) rfl ?_
  refine WL.valG (oj := _) rfl rfl rfl GC.t (V.move (OV.p rfl)) rfl ?_
  refine WL.callG (oj := _) (vs := [_, _]) rfl rfl rfl GC.t Tryz.call35 ⟨OV.g rfl id, OV.g rfl id, trivial⟩ (fun hg => nil_Has leb) rfl ?_
  refine WL.valG (oj := _) rfl rfl rfl GC.t (V.not (OV.g rfl id)) rfl ?_
  refine WL.val (V.pickAnd (OV.p rfl) (OV.g rfl id)) rfl ?_
  refine WL.val (V.assign (OV.p rfl)) rfl ?_
  refine WL.nil ?_
  refine WC.ret ?_
  exact BodyQ.ret (H' := F) (Res.tmp rfl rfl) (fun w h => h) ⟨rfl, rfl⟩
theorem scanE_up {S : Chip} (hg : S.g.mays) (hu : S.up = true) : S.scanE = 0 := by
  unfold Geo.mays at hg
  have e1 : ¬ ((0 : Int) < 0 ∨ S.g.bl ≤ 0 ∨ (0 : Int) < 0 ∨ S.g.pg ≤ 0 ∨ (decide ((0 : Int) ≤ 0) && decide (0 ≤ S.g.pg)) = false) := by
    simp; omega
  have e2 : S.ahead 0 0 (decide ((0 : Int) ≤ 0) && decide (0 ≤ S.g.pg)) = if S.bad 0 = true then 73 else 0 := by
    unfold Chip.ahead
    rw [if_neg (by rw [hu]; decide), if_neg e1]
  unfold Chip.scanE Chip.dWhole
  rw [e2]
  cases S.bad 0 <;> rfl
theorem scanE_off {S : Chip} (hu : S.up = false) : S.scanE = 70 := by
  unfold Chip.scanE Chip.dWhole Chip.ahead
  rw [hu]; rfl
theorem law11_StoreOpens (g : Geo) (lebs : Int) (K : World) (F : List Assn) : Tells Tryz.prog 6 #[g.v, .int .i64 lebs] K F (.bool true) := by
  by_cases hl : lebs < 1 ∨ 64 < lebs
  · skip
    refine Does.enter Tryz.func6 rfl Tryz.ntmps6 rfl ?_
    simp only [env0, Nat.reduceAdd]
    refine WC.sr ?_
    refine WL.box (cs := [_, _, _, _, _]) (OV.p rfl) rfl rfl (fun b2 => ?_)
    refine WL.val (V.assign (OV.p rfl)) rfl ?_
    refine WL.nil ?_
    refine WC.seq ?_
    refine WC.sr ?_
    refine WL.val (V.loadA (vs := [_, _, _, _, _]) ⟨Tryz.isAgg23, Tryz.sizeOf23⟩ (OV.p rfl) rfl (fun _ => by repeat (first | exact Rds.gets ⟨rfl, rfl, rfl, rfl, rfl, trivial⟩ | apply Rds.up))) rfl ?_
    refine WL.call (vs := [_]) Tryz.call36 ⟨OV.p rfl, trivial⟩ (law11_small g _ _) rfl ?_
    rintro _ H0 ⟨rfl, h0⟩
    subst H0
    refine WL.val (V.not (OV.p rfl)) rfl ?_
    refine WL.nil ?_
    refine WC.cond rfl (fun hc0 => ?_) (fun hc0 => ?_)
    ·skip
     have h0 := hc0
     refine WC.sr ?_
     refine WL.val (V.assign (OV.p rfl)) rfl ?_
     refine WL.nil ?_
     refine WC.ret ?_
     exact BodyQ.ret (H' := F) (Res.tmp rfl rfl) (fun w h => h.drop 1) ⟨rfl, rfl⟩
    ·skip
     have h0 := hc0
     simp only [Bool.not_eq_true', Bool.not_eq_false', Bool.and_eq_true, decide_eq_true_eq] at h0
     have hmay := h0.1.1.1
     have hgm := Geo.mays_of hmay
     have hgb := hgm
     unfold Geo.mays at hgb
     refine WC.skip ?_
     refine WC.sr ?_
     refine WL.val (V.loadA (vs := [_, _, _, _, _]) ⟨Tryz.isAgg23, Tryz.sizeOf23⟩ (OV.p rfl) rfl (fun _ => by repeat (first | exact Rds.gets ⟨rfl, rfl, rfl, rfl, rfl, trivial⟩ | apply Rds.up))) rfl ?_
     refine WL.call (vs := [_, _]) Tryz.call13 ⟨OV.p rfl, OV.p rfl, trivial⟩ (chip_New g (l := []) Seq.nil (by decide)) rfl ?_
     rintro _ _ (⟨hm, hin, bc, C0, hC0, s0, rfl, rfl⟩ | ⟨hno, rfl, rfl⟩)
     rotate_left
     · exact (hno ⟨hmay, fun x hx => by simp at hx⟩).elim
     have g0 : C0.g = g := by rw [show C0.g = C0.sem.g from rfl, s0]; rfl
     refine WL.val (V.move (OV.p rfl)) rfl ?_
     refine WL.val (V.extract (OV.p rfl) rfl) rfl ?_
     refine WL.val (V.extract (OV.p rfl) rfl) rfl ?_
     refine WL.val (V.assign (OV.p rfl)) rfl ?_
     refine WL.val (V.assign (OV.p rfl)) rfl ?_
     refine WL.nil ?_
     refine WC.sr ?_
     refine WL.val (V.move (OV.p rfl)) rfl ?_
     refine WL.call (vs := [_]) Tryz.call14 ⟨OV.p rfl, trivial⟩ (drive_NewG hC0 g0) rfl ?_
     rintro _ _ ⟨bd, rfl, rfl⟩
     refine WL.val (V.move (OV.p rfl)) rfl ?_
     refine WL.val (V.extract (OV.p rfl) rfl) rfl ?_
     refine WL.val (V.extract (OV.p rfl) rfl) rfl ?_
     refine WL.val (V.assign (OV.p rfl)) rfl ?_
     refine WL.val (V.assign (OV.p rfl)) rfl ?_
     refine WL.nil ?_
     refine WC.seq ?_
     refine WC.sr ?_
     refine WL.val (V.move (OV.p rfl)) rfl ?_
     refine WL.val (V.neq (OV.p rfl) (OV.p rfl)) rfl ?_
     refine WL.val (V.move (OV.p rfl)) rfl ?_
     refine WL.valG (oj := _) rfl rfl rfl GC.f (V.move (OV.p rfl)) rfl ?_
     refine WL.valG (oj := _) rfl rfl rfl GC.f (V.neq (OV.g rfl id) (OV.p rfl)) rfl ?_
     refine WL.val (V.pickOr (OV.p rfl) (OV.g rfl id)) rfl ?_
     refine WL.nil ?_
     refine WC.condF' rfl (by first | rfl | (simp; done) | (simp; omega)) ?_
     refine WC.skip ?_
     refine WC.sr ?_
     refine WL.val (V.move (OV.p rfl)) rfl ?_
     refine WL.val (V.move (OV.p rfl)) rfl ?_
     refine WL.call (vs := [_, _]) Tryz.call29 ⟨OV.p rfl, OV.p rfl, trivial⟩ (store_OpenB (p := .pointer none) hl) rfl ?_
     rintro _ H0 ⟨rfl, h0⟩
     subst H0
     refine WL.val (V.move (OV.p rfl)) rfl ?_
     refine WL.val (V.extract (OV.p rfl) rfl) rfl ?_
     refine WL.val (V.extract (OV.p rfl) rfl) rfl ?_
     refine WL.val (V.assign (OV.p rfl)) rfl ?_
     refine WL.val (V.assign (OV.p rfl)) rfl ?_
     refine WL.nil ?_
     refine WC.sr ?_
     refine WL.val (V.move (OV.p rfl)) rfl ?_
     refine WL.sub (Sub.refl _) (fun w h => h.sel 2 [0, 1] rfl) ?_
     refine WL.call (vs := [_]) Tryz.call37 ⟨OV.p rfl, trivial⟩ (chip_Off) rfl ?_
     rintro _ _ rfl
     refine WL.nil ?_
     refine WC.sr ?_
     refine WL.val (V.move (OV.p rfl)) rfl ?_
     refine WL.val (V.move (OV.p rfl)) rfl ?_
     refine WL.call (vs := [_, _]) Tryz.call29 ⟨OV.p rfl, OV.p rfl, trivial⟩ (store_OpenB (p := .pointer none) hl) rfl ?_
     rintro _ H0 ⟨rfl, h0⟩
     subst H0
     refine WL.val (V.move (OV.p rfl)) rfl ?_
     refine WL.val (V.extract (OV.p rfl) rfl) rfl ?_
     refine WL.val (V.extract (OV.p rfl) rfl) rfl ?_
     refine WL.val (V.assign (OV.p rfl)) rfl ?_
     refine WL.val (V.assign (OV.p rfl)) rfl ?_
     refine WL.nil ?_
     refine WC.seq ?_
     refine WC.sr ?_
     refine WL.val (V.move (OV.p rfl)) rfl ?_
     refine WL.val (V.lss (OV.p rfl) (OV.p rfl)) rfl ?_
     refine WL.val (V.move (OV.p rfl)) rfl ?_
     refine WL.valG (oj := _) rfl rfl rfl GC.f (V.move (OV.p rfl)) rfl ?_
     refine WL.valG (oj := _) rfl rfl rfl GC.f (V.gtr (OV.g rfl id) (OV.p rfl)) rfl ?_
     refine WL.val (V.pickOr (OV.p rfl) (OV.g rfl id)) rfl ?_
     refine WL.nil ?_
     refine WC.condT' rfl ((by simpa using hl)) ?_
     refine WC.sr ?_
     refine WL.call (vs := []) Tryz.call30 trivial (law11_awake _ _) rfl ?_
     rintro _ H0 ⟨rfl, h0⟩
     subst H0
     refine WL.val (V.move (OV.p rfl)) rfl ?_
     refine WL.valG (oj := _) rfl rfl rfl GC.t (V.move (OV.p rfl)) rfl ?_
     refine WL.valG (oj := _) rfl rfl rfl GC.t (V.eqlP Tryz.underlying56 (OV.g rfl id) (OV.p rfl)) rfl ?_
     refine WL.val (V.pickAnd (OV.p rfl) (OV.g rfl id)) rfl ?_
     refine WL.val (V.move (OV.p rfl)) rfl ?_
     refine WL.valG (oj := _) rfl rfl rfl GC.t (V.move (OV.p rfl)) rfl ?_
     refine WL.valG (oj := _) rfl rfl rfl GC.t (V.eqlP Tryz.underlying56 (OV.g rfl id) (OV.p rfl)) rfl ?_
     refine WL.val (V.pickAnd (OV.p rfl) (OV.g rfl id)) rfl ?_
     refine WL.val (V.move (OV.p rfl)) rfl ?_
     refine WL.valG (oj := _) rfl rfl rfl GC.t (V.move (OV.p rfl)) rfl ?_
     refine WL.valG (oj := _) rfl rfl rfl GC.t (V.eql (OV.g rfl id) (OV.p rfl)) rfl ?_
     refine WL.val (V.pickAnd (OV.p rfl) (OV.g rfl id)) rfl ?_
     refine WL.val (V.move (OV.p rfl)) rfl ?_
     refine WL.valG (oj := _) rfl rfl rfl GC.t (V.move (OV.p rfl)) rfl ?_
     refine WL.valG (oj := _) rfl rfl rfl GC.t (V.move (OV.p rfl)) rfl ?_
     refine WL.valG (oj := _) rfl rfl rfl GC.t (V.eql (OV.g rfl id) (OV.g rfl id)) rfl ?_
     refine WL.val (V.pickAnd (OV.p rfl) (OV.g rfl id)) rfl ?_
     refine WL.val (V.assign (OV.p rfl)) rfl ?_
     refine WL.nil ?_
     refine WC.ret ?_
     exact BodyQ.ret (H' := F) (Res.tmp rfl rfl) (fun w h => h.drop 3) ⟨by simp, rfl⟩
  · obtain ⟨n, rfl⟩ : ∃ n : Nat, lebs = (n : Int) := ⟨lebs.toNat, by omega⟩
    have hn : 1 ≤ n ∧ n ≤ 64 := by omega
    refine Does.enter Tryz.func6 rfl Tryz.ntmps6 rfl ?_
    simp only [env0, Nat.reduceAdd]
    refine WC.sr ?_
    refine WL.box (cs := [_, _, _, _, _]) (OV.p rfl) rfl rfl (fun b2 => ?_)
    refine WL.val (V.assign (OV.p rfl)) rfl ?_
    refine WL.nil ?_
    refine WC.seq ?_
    refine WC.sr ?_
    refine WL.val (V.loadA (vs := [_, _, _, _, _]) ⟨Tryz.isAgg23, Tryz.sizeOf23⟩ (OV.p rfl) rfl (fun _ => by repeat (first | exact Rds.gets ⟨rfl, rfl, rfl, rfl, rfl, trivial⟩ | apply Rds.up))) rfl ?_
    refine WL.call (vs := [_]) Tryz.call36 ⟨OV.p rfl, trivial⟩ (law11_small g _ _) rfl ?_
    rintro _ H0 ⟨rfl, h0⟩
    subst H0
    refine WL.val (V.not (OV.p rfl)) rfl ?_
    refine WL.nil ?_
    refine WC.cond rfl (fun hc0 => ?_) (fun hc0 => ?_)
    ·skip
     have h0 := hc0
     refine WC.sr ?_
     refine WL.val (V.assign (OV.p rfl)) rfl ?_
     refine WL.nil ?_
     refine WC.ret ?_
     exact BodyQ.ret (H' := F) (Res.tmp rfl rfl) (fun w h => h.drop 1) ⟨rfl, rfl⟩
    ·skip
     have h0 := hc0
     simp only [Bool.not_eq_true', Bool.not_eq_false', Bool.and_eq_true, decide_eq_true_eq] at h0
     have hmay := h0.1.1.1
     have hgm := Geo.mays_of hmay
     have hgb := hgm
     unfold Geo.mays at hgb
     refine WC.skip ?_
     refine WC.sr ?_
     refine WL.val (V.loadA (vs := [_, _, _, _, _]) ⟨Tryz.isAgg23, Tryz.sizeOf23⟩ (OV.p rfl) rfl (fun _ => by repeat (first | exact Rds.gets ⟨rfl, rfl, rfl, rfl, rfl, trivial⟩ | apply Rds.up))) rfl ?_
     refine WL.call (vs := [_, _]) Tryz.call13 ⟨OV.p rfl, OV.p rfl, trivial⟩ (chip_New g (l := []) Seq.nil (by decide)) rfl ?_
     rintro _ _ (⟨hm, hin, bc, C0, hC0, s0, rfl, rfl⟩ | ⟨hno, rfl, rfl⟩)
     rotate_left
     · exact (hno ⟨hmay, fun x hx => by simp at hx⟩).elim
     have g0 : C0.g = g := by rw [show C0.g = C0.sem.g from rfl, s0]; rfl
     have u0 : C0.sem.up = true := by rw [s0]; rfl
     refine WL.val (V.move (OV.p rfl)) rfl ?_
     refine WL.val (V.extract (OV.p rfl) rfl) rfl ?_
     refine WL.val (V.extract (OV.p rfl) rfl) rfl ?_
     refine WL.val (V.assign (OV.p rfl)) rfl ?_
     refine WL.val (V.assign (OV.p rfl)) rfl ?_
     refine WL.nil ?_
     refine WC.sr ?_
     refine WL.val (V.move (OV.p rfl)) rfl ?_
     refine WL.call (vs := [_]) Tryz.call14 ⟨OV.p rfl, trivial⟩ (drive_NewG hC0 g0) rfl ?_
     rintro _ _ ⟨bd, rfl, rfl⟩
     refine WL.val (V.move (OV.p rfl)) rfl ?_
     refine WL.val (V.extract (OV.p rfl) rfl) rfl ?_
     refine WL.val (V.extract (OV.p rfl) rfl) rfl ?_
     refine WL.val (V.assign (OV.p rfl)) rfl ?_
     refine WL.val (V.assign (OV.p rfl)) rfl ?_
     refine WL.nil ?_
     refine WC.seq ?_
     refine WC.sr ?_
     refine WL.val (V.move (OV.p rfl)) rfl ?_
     refine WL.val (V.neq (OV.p rfl) (OV.p rfl)) rfl ?_
     refine WL.val (V.move (OV.p rfl)) rfl ?_
     refine WL.valG (oj := _) rfl rfl rfl GC.f (V.move (OV.p rfl)) rfl ?_
     refine WL.valG (oj := _) rfl rfl rfl GC.f (V.neq (OV.g rfl id) (OV.p rfl)) rfl ?_
     refine WL.val (V.pickOr (OV.p rfl) (OV.g rfl id)) rfl ?_
     refine WL.nil ?_
     refine WC.condF' rfl (by first | rfl | (simp; done) | (simp; omega)) ?_
     refine WC.skip ?_
     refine WC.sr ?_
     refine WL.val (V.move (OV.p rfl)) rfl ?_
     refine WL.val (V.move (OV.p rfl)) rfl ?_
     refine WL.call (vs := [_, _]) Tryz.call29 ⟨OV.p rfl, OV.p rfl, trivial⟩ (store_Open hC0 g0 hn (by omega) (scanE_up hC0.mays u0)) rfl ?_
     rintro _ _ ⟨bs, T, hT, t0, rfl, rfl⟩
     have hlb : (T.stands.length : Int) = (n : Int) := by
       have e1 : T.stands = pickF n C0.sem.scanF := congrArg St.stands t0
       rw [e1, pickF_length]
     refine WL.val (V.move (OV.p rfl)) rfl ?_
     refine WL.val (V.extract (OV.p rfl) rfl) rfl ?_
     refine WL.val (V.extract (OV.p rfl) rfl) rfl ?_
     refine WL.val (V.assign (OV.p rfl)) rfl ?_
     refine WL.val (V.assign (OV.p rfl)) rfl ?_
     refine WL.nil ?_
     refine WC.sr ?_
     refine WL.val (V.move (OV.p rfl)) rfl ?_
     refine WL.call (vs := [_]) Tryz.call37 ⟨OV.p rfl, trivial⟩ (chip_Off) rfl ?_
     rintro _ _ rfl
     have e70 : C0.off.sem.scanE = 70 := scanE_off rfl
     refine WL.nil ?_
     refine WC.sr ?_
     refine WL.val (V.move (OV.p rfl)) rfl ?_
     refine WL.val (V.move (OV.p rfl)) rfl ?_
     refine WL.call (vs := [_, _]) Tryz.call29 ⟨OV.p rfl, OV.p rfl, trivial⟩ (Tells.eq (store_OpenE hC0.off g0 hn (by rw [e70]; decide)) (by rw [e70])) rfl ?_
     rintro _ H0 ⟨rfl, h0⟩
     subst H0
     refine WL.val (V.move (OV.p rfl)) rfl ?_
     refine WL.val (V.extract (OV.p rfl) rfl) rfl ?_
     refine WL.val (V.extract (OV.p rfl) rfl) rfl ?_
     refine WL.val (V.assign (OV.p rfl)) rfl ?_
     refine WL.val (V.assign (OV.p rfl)) rfl ?_
     refine WL.nil ?_
     refine WC.seq ?_
     refine WC.sr ?_
     refine WL.val (V.move (OV.p rfl)) rfl ?_
     refine WL.val (V.lss (OV.p rfl) (OV.p rfl)) rfl ?_
     refine WL.val (V.move (OV.p rfl)) rfl ?_
     refine WL.valG (oj := _) rfl rfl rfl GC.f (V.move (OV.p rfl)) rfl ?_
     refine WL.valG (oj := _) rfl rfl rfl GC.f (V.gtr (OV.g rfl id) (OV.p rfl)) rfl ?_
     refine WL.val (V.pickOr (OV.p rfl) (OV.g rfl id)) rfl ?_
     refine WL.nil ?_
     refine WC.condF' rfl ((by simp; omega)) ?_
     refine WC.skip ?_
     refine WC.sr ?_
     refine WL.call (vs := []) Tryz.call30 trivial (law11_awake _ _) rfl ?_
     rintro _ H0 ⟨rfl, h0⟩
     subst H0
     refine WL.val (V.move (OV.p rfl)) rfl ?_
     refine WL.valG (oj := _) rfl rfl rfl GC.t (V.move (OV.p rfl)) rfl ?_
     refine WL.valG (oj := _) rfl rfl rfl GC.t (V.neqP Tryz.underlying56 (OV.g rfl id) (OV.p rfl)) rfl ?_
     refine WL.val (V.pickAnd (OV.p rfl) (OV.g rfl id)) rfl ?_
     refine WL.val (V.move (OV.p rfl)) rfl ?_
     refine WL.valG (oj := _) rfl rfl rfl GC.t (V.move (OV.p rfl)) rfl ?_
     refine WL.valG (oj := _) rfl rfl rfl GC.t (V.eql (OV.g rfl id) (OV.p rfl)) rfl ?_
     refine WL.val (V.pickAnd (OV.p rfl) (OV.g rfl id)) rfl ?_
     refine WL.val (V.move (OV.p rfl)) rfl ?_
     refine WL.valG (oj := _) rfl rfl rfl GC.t (V.move (OV.p rfl)) rfl ?_
     refine WL.valG (oj := _) rfl rfl rfl GC.t (V.eqlP Tryz.underlying56 (OV.g rfl id) (OV.p rfl)) rfl ?_
     refine WL.val (V.pickAnd (OV.p rfl) (OV.g rfl id)) rfl ?_
     refine WL.val (V.move (OV.p rfl)) rfl ?_
     refine WL.valG (oj := _) rfl rfl rfl GC.t (V.move (OV.p rfl)) rfl ?_
     refine WL.valG (oj := _) rfl rfl rfl GC.t (V.eql (OV.g rfl id) (OV.p rfl)) rfl ?_
     refine WL.val (V.pickAnd (OV.p rfl) (OV.g rfl id)) rfl ?_
     refine WL.val (V.move (OV.p rfl)) rfl ?_
     refine WL.known (oj := _) rfl rfl rfl rfl ?_
     refine WL.val (V.move (OV.p rfl)) rfl ?_
     refine WL.known (oj := _) rfl rfl rfl rfl ?_
     refine WL.sub (Sub.refl _) (fun w h => h.sel 3 [2, 0, 1] rfl) ?_
     refine WL.call (vs := [_]) Tryz.call33 ⟨OV.p rfl, trivial⟩ (store_Lebs) rfl ?_
     rintro _ _ ⟨rfl, rfl⟩
     refine WL.known (oj := _) rfl rfl rfl rfl ?_
     refine WL.val (V.move (OV.p rfl)) rfl ?_
     refine WL.known (oj := _) rfl rfl rfl rfl ?_
     refine WL.val (V.eql (OV.p rfl) (OV.p rfl)) rfl ?_
     refine WL.val (V.pickAnd (OV.p rfl) (OV.p rfl)) rfl ?_
     refine WL.val (V.assign (OV.p rfl)) rfl ?_
     refine WL.nil ?_
     refine WC.ret ?_
     exact BodyQ.ret (H' := F) (Res.tmp rfl rfl) (fun w h => h.drop 4) ⟨by simp [hlb], rfl⟩
end Go.Proofs.YtohkefolnmcjnaaGreat
