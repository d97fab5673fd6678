/- The laws of casematelaw08. -/
import Derived.Test.YtohkefolnmcjnaaD9
namespace Go.Proofs.Ytohkefolnmcjnaa
open Go.Sl Go.RowKit
set_option linter.unusedVariables false
set_option linter.unusedSimpArgs false
set_option maxRecDepth 20000

theorem law08_DriveNil (b p : Int) {A : Option Addr} {m cap : Nat} (K : World) (F : List Assn) : Tells Try.prog 5 #[.int .i64 b, .int .i64 p, .slice A m cap] K F (.bool true) := by
  refine Does.enter Try.func5 rfl Try.ntmps5 rfl ?_
  simp only [env0, Nat.reduceAdd]
  refine WC.seq ?_
  refine WC.region ?_
  refine WL.val (V.assign (OV.p rfl)) rfl ?_
  refine WL.nil ?_
  refine WC.seq ?_
  refine WC.region ?_
  refine WL.val (V.assign (OV.p rfl)) rfl ?_
  refine WL.nil ?_
  refine WC.seq ?_
  refine WC.region ?_
  refine WL.val (V.move (OV.p rfl)) rfl ?_
  refine WL.val (V.move (OV.p rfl)) rfl ?_
  refine WL.val (V.move (OV.p rfl)) rfl ?_
  refine WL.call (vs := [_, _, _]) Try.call14 ⟨OV.p rfl, OV.p rfl, OV.p rfl, trivial⟩ (nilD_Read b p) rfl ?_
  rintro _ H0 ⟨rfl, h0⟩
  subst H0
  refine WL.val (V.move (OV.p rfl)) rfl ?_
  refine WL.val (V.extract (OV.p rfl) rfl) rfl ?_
  refine WL.val (V.extract (OV.p rfl) rfl) rfl ?_
  refine WL.val (V.extract (OV.p rfl) rfl) rfl ?_
  refine WL.val (V.assign (OV.p rfl)) rfl ?_
  refine WL.val (V.assign (OV.p rfl)) rfl ?_
  refine WL.val (V.assign (OV.p rfl)) rfl ?_
  refine WL.nil ?_
  refine WC.seq ?_
  refine WC.region ?_
  refine WL.val (V.move (OV.p rfl)) rfl ?_
  refine WL.val (V.move (OV.p rfl)) rfl ?_
  refine WL.val (V.move (OV.p rfl)) rfl ?_
  refine WL.call (vs := [_, _, _]) Try.call17 ⟨OV.p rfl, OV.p rfl, OV.p rfl, trivial⟩ (nilD_Whole b p) rfl ?_
  rintro _ H0 ⟨rfl, h0⟩
  subst H0
  refine WL.val (V.move (OV.p rfl)) rfl ?_
  refine WL.val (V.extract (OV.p rfl) rfl) rfl ?_
  refine WL.val (V.extract (OV.p rfl) rfl) rfl ?_
  refine WL.val (V.assign (OV.p rfl)) rfl ?_
  refine WL.val (V.assign (OV.p rfl)) rfl ?_
  refine WL.nil ?_
  refine WC.seq ?_
  refine WC.region ?_
  refine WL.call (vs := []) Try.call16 trivial (law08_awake _ _) rfl ?_
  rintro _ H0 ⟨rfl, h0⟩
  subst H0
  refine WL.val (V.move (OV.p rfl)) rfl ?_
  refine WL.valG (oj := _) rfl rfl rfl GC.t (V.move (OV.p rfl)) rfl ?_
  refine WL.valG (oj := _) rfl rfl rfl GC.t (V.eql (OV.g rfl id) (OV.p rfl)) rfl ?_
  refine WL.val (V.pickAnd (OV.p rfl) (OV.g rfl id)) rfl ?_
  refine WL.val (V.move (OV.p rfl)) rfl ?_
  refine WL.valG (oj := _) rfl rfl rfl GC.t (V.move (OV.p rfl)) rfl ?_
  refine WL.valG (oj := _) rfl rfl rfl GC.t (V.len (t := 24) Try.runUnderlying24 (OV.g rfl id)) rfl ?_
  refine WL.valG (oj := _) rfl rfl rfl GC.t (V.move (OV.p rfl)) rfl ?_
  refine WL.valG (oj := _) rfl rfl rfl GC.t (V.addI (OV.g rfl id) (OV.g rfl id) (fun hc => by first | omega | (simp at hc; omega))) rfl ?_
  refine WL.valG (oj := _) rfl rfl rfl GC.t (V.eql (OV.g rfl id) (OV.p rfl)) rfl ?_
  refine WL.val (V.pickAnd (OV.p rfl) (OV.g rfl id)) rfl ?_
  refine WL.val (V.move (OV.p rfl)) rfl ?_
  refine WL.valG (oj := _) rfl rfl rfl GC.t (V.move (OV.p rfl)) rfl ?_
  refine WL.valG (oj := _) rfl rfl rfl GC.t (V.eql (OV.g rfl id) (OV.p rfl)) rfl ?_
  refine WL.val (V.pickAnd (OV.p rfl) (OV.g rfl id)) rfl ?_
  refine WL.val (V.move (OV.p rfl)) rfl ?_
  refine WL.valG (oj := _) rfl rfl rfl GC.t (V.move (OV.p rfl)) rfl ?_
  refine WL.valG (oj := _) rfl rfl rfl GC.t (V.not (OV.g rfl id)) rfl ?_
  refine WL.val (V.pickAnd (OV.p rfl) (OV.g rfl id)) rfl ?_
  refine WL.val (V.move (OV.p rfl)) rfl ?_
  refine WL.valG (oj := _) rfl rfl rfl GC.t (V.move (OV.p rfl)) rfl ?_
  refine WL.valG (oj := _) rfl rfl rfl GC.t (V.move (OV.p rfl)) rfl ?_
  refine WL.valG (oj := _) rfl rfl rfl GC.t (V.move (OV.p rfl)) rfl ?_
  refine WL.valG (oj := _) rfl rfl rfl GC.t (V.move (OV.p rfl)) rfl ?_
  refine WL.callG (oj := _) (vs := [_, _, _, _]) rfl rfl rfl GC.t Try.call12 ⟨OV.g rfl id, OV.g rfl id, OV.g rfl id, OV.g rfl id, trivial⟩ (fun hg => nilD_Write b p) rfl ?_
  refine WL.valG (oj := _) rfl rfl rfl GC.t (V.eql (OV.g rfl id) (OV.p rfl)) rfl ?_
  refine WL.val (V.pickAnd (OV.p rfl) (OV.g rfl id)) rfl ?_
  refine WL.val (V.move (OV.p rfl)) rfl ?_
  refine WL.valG (oj := _) rfl rfl rfl GC.t (V.move (OV.p rfl)) rfl ?_
  refine WL.valG (oj := _) rfl rfl rfl GC.t (V.move (OV.p rfl)) rfl ?_
  refine WL.callG (oj := _) (vs := [_, _]) rfl rfl rfl GC.t Try.call13 ⟨OV.g rfl id, OV.g rfl id, trivial⟩ (fun hg => nilD_Erase b) rfl ?_
  refine WL.valG (oj := _) rfl rfl rfl GC.t (V.eql (OV.g rfl id) (OV.p rfl)) rfl ?_
  refine WL.val (V.pickAnd (OV.p rfl) (OV.g rfl id)) rfl ?_
  refine WL.val (V.move (OV.p rfl)) rfl ?_
  refine WL.valG (oj := _) rfl rfl rfl GC.t (V.move (OV.p rfl)) rfl ?_
  refine WL.callG (oj := _) (vs := [_]) rfl rfl rfl GC.t Try.call15 ⟨OV.g rfl id, trivial⟩ (fun hg => nilD_Good) rfl ?_
  refine WL.valG (oj := _) rfl rfl rfl GC.t (V.len (t := 39) Try.runUnderlying39 (OV.g rfl id)) rfl ?_
  refine WL.valG (oj := _) rfl rfl rfl GC.t (V.eql (OV.g rfl id) (OV.p rfl)) rfl ?_
  refine WL.val (V.pickAnd (OV.p rfl) (OV.g rfl id)) rfl ?_
  refine WL.val (V.move (OV.p rfl)) rfl ?_
  refine WL.valG (oj := _) rfl rfl rfl GC.t (V.move (OV.p rfl)) rfl ?_
  refine WL.callG (oj := _) (vs := [_]) rfl rfl rfl GC.t Try.call18 ⟨OV.g rfl id, trivial⟩ (fun hg => nilD_Geometry) rfl ?_
  refine WL.valG (oj := _) rfl rfl rfl GC.t (V.build (vs := []) trivial rfl (bld23 )) rfl ?_
  refine WL.valG (oj := _) rfl rfl rfl GC.t (V.eqlA (by kernel_rfl) (OV.g rfl id) (OV.g rfl id) (eqt23 _ _ _ _ _ _ _ _ _ _)) rfl ?_
  refine WL.val (V.pickAnd (OV.p rfl) (OV.g rfl id)) rfl ?_
  refine WL.val (V.assign (OV.p rfl)) rfl ?_
  refine WL.nil ?_
  refine WC.ret ?_
  exact BodyQ.ret (H' := F) (Res.tmp rfl rfl) (fun w h => h) ⟨rfl, rfl⟩
theorem intsOf_natsOf {xs : List Int} (h : IsBytes xs) : intsOf (natsOf xs) = xs := by
  unfold intsOf natsOf
  rw [List.map_map]
  conv => rhs; rw [← List.map_id xs]
  apply List.map_congr_left
  intro x hx
  have := h x hx
  show ((x.toNat : Nat) : Int) = x
  omega
theorem law08_DriveBad (g : Geo) (b : Int) {A : Option Addr} {m cap : Nat} {xs : List Int} {K : World} {F : List Assn} (hs : Seq K F A m 1 (ints .u8 xs)) (hx : IsBytes xs) (hmc : m ≤ cap) :
    Tells Try.prog 3 #[g.v, .int .i64 b, .slice A m cap] K F (.bool true) := by
  have hl : xs.length = m := by simpa [ints] using hs.len
  obtain ⟨d, hd⟩ : ∃ d, d = natsOf xs := ⟨_, rfl⟩
  have hd8 : Small 256 d := by rw [hd]; exact natsOf_small hx
  have hdl : d.length = m := by rw [hd, natsOf_length]; exact hl
  have hsd : Seq K F A m 1 (nats .u8 d) := by rw [hd, ← ints_natsOf hx]; exact hs
  refine Does.enter Try.func3 rfl Try.ntmps3 rfl ?_
  simp only [env0, Nat.reduceAdd]
  refine WC.seq ?_
  refine WC.region ?_
  refine WL.box (cs := [_, _, _, _, _]) (OV.p rfl) rfl rfl (fun b3 => ?_)
  refine WL.val (V.assign (OV.p rfl)) rfl ?_
  refine WL.nil ?_
  refine WC.seq ?_
  refine WC.seq ?_
  refine WC.region ?_
  refine WL.val (V.loadA (vs := [_, _, _, _, _]) ⟨Try.isAgg23, Try.sizeOf23⟩ (OV.p rfl) rfl (fun _ => by repeat (first | exact Rds.gets ⟨rfl, rfl, rfl, rfl, rfl, trivial⟩ | apply Rds.up))) rfl ?_
  refine WL.call (vs := [_]) Try.call7 ⟨OV.p rfl, trivial⟩ (law08_small g _ _) rfl ?_
  rintro _ H0 ⟨rfl, h0⟩
  subst H0
  refine WL.val (V.not (OV.p rfl)) rfl ?_
  refine WL.val (V.move (OV.p rfl)) rfl ?_
  refine WL.valG (oj := _) rfl rfl rfl GC.f (V.move (OV.p rfl)) rfl ?_
  refine WL.valG (oj := _) rfl rfl rfl GC.f (V.lss (OV.g rfl id) (OV.p rfl)) rfl ?_
  refine WL.val (V.pickOr (OV.p rfl) (OV.g rfl id)) rfl ?_
  refine WL.val (V.move (OV.p rfl)) rfl ?_
  refine WL.valG (oj := _) rfl rfl rfl GC.f (V.move (OV.p rfl)) rfl ?_
  refine WL.valG (oj := _) rfl rfl rfl GC.f (V.fieldAddr fo23_0 (OV.p rfl)) rfl ?_
  refine WL.valG (oj := _) rfl rfl rfl GC.f (V.load Try.isAgg3 (OV.g rfl id) (fun _ => by repeat (first | exact Rd.here rfl | apply Rd.up))) rfl ?_
  refine WL.valG (oj := _) rfl rfl rfl GC.f (V.geq (OV.g rfl id) (OV.g rfl id)) rfl ?_
  refine WL.val (V.pickOr (OV.p rfl) (OV.g rfl id)) rfl ?_
  refine WL.val (V.move (OV.p rfl)) rfl ?_
  refine WL.valG (oj := _) rfl rfl rfl GC.f (V.move (OV.p rfl)) rfl ?_
  refine WL.valG (oj := _) rfl rfl rfl GC.f (V.len (t := 24) Try.runUnderlying24 (OV.g rfl id)) rfl ?_
  refine WL.valG (oj := _) rfl rfl rfl GC.f (V.loadA (vs := [_, _, _, _, _]) ⟨Try.isAgg23, Try.sizeOf23⟩ (OV.p rfl) rfl (fun _ => by repeat (first | exact Rds.gets ⟨rfl, rfl, rfl, rfl, rfl, trivial⟩ | apply Rds.up))) rfl ?_
  refine WL.callG (oj := _) (vs := [_]) rfl rfl rfl GC.f Try.call8 ⟨OV.g rfl id, trivial⟩ (fun hg => ref06_Room g (Geo.mays_of (by revert hg; cases h : g.may <;> simp)) _ _) rfl ?_
  refine WL.valG (oj := _) rfl rfl rfl GC.f (V.neq (OV.g rfl id) (OV.g rfl id)) rfl ?_
  refine WL.val (V.pickOr (OV.p rfl) (OV.g rfl id)) rfl ?_
  refine WL.nil ?_
  refine WC.cond rfl (fun hc0 => ?_) (fun hc0 => ?_)
  · simp only [Bool.or_eq_true, Bool.or_eq_false_iff, Bool.and_eq_true, decide_eq_true_eq, decide_eq_false_iff_not, Bool.not_eq_true', Bool.not_eq_false'] at hc0
    refine WC.seq ?_
    refine WC.region ?_
    refine WL.val (V.assign (OV.p rfl)) rfl ?_
    refine WL.nil ?_
    refine WC.ret ?_
    exact BodyQ.ret (H' := F) (Res.tmp rfl rfl) (fun w h => h.drop 1) ⟨rfl, rfl⟩
  · simp only [Bool.or_eq_true, Bool.or_eq_false_iff, Bool.and_eq_true, decide_eq_true_eq, decide_eq_false_iff_not, Bool.not_eq_true', Bool.not_eq_false'] at hc0
    obtain ⟨⟨⟨⟨⟨⟨hmay, h32⟩, h16⟩, hp8⟩, hb1⟩, hb2⟩, hm1⟩ := hc0
    have hg := Geo.mays_of hmay
    have hgb := hg
    unfold Geo.mays at hgb
    have hrm := Geo.room_nat hg
    have hin : 0 ≤ b ∧ b < g.bl ∧ (0 : Int) ≤ 0 ∧ 0 < g.pg := by omega
    have hroom : d.length = g.se.toNat * g.sb.toNat := by omega
    obtain ⟨S1, hS1⟩ : ∃ S, S = (Chip.new g []).weaken b := ⟨_, rfl⟩
    have e1 : S1 = { Chip.new g [] with weak := fun k => if k = b then true else false } := by rw [hS1]; unfold Chip.weaken; rw [if_pos (Chip.block_ok ⟨hin.1, hin.2.1⟩)]; rfl
    obtain ⟨S2, hS2⟩ : ∃ S : Chip, S = { S1 with marked := fun k => if k = b then true else S1.marked k } := ⟨_, rfl⟩
    have w1 : S1.dWrite b 0 d = (S2, 72) := by rw [hS2]; exact Chip.dWrite_weak (by rw [e1]; exact hg) (by rw [e1]; rfl) (by rw [e1]; exact hin) (by rw [e1]; rfl) hd8 (by rw [e1]; exact hroom) (by rw [e1]; exact Chip.next_new (g := g) (l := [])) (by rw [e1]; rfl) (by rw [e1]; exact if_pos rfl)
    have u2 : S2.up = true := by rw [hS2, e1]; rfl
    have g2 : S2.g = g := by rw [hS2, e1]; rfl
    have m2 : ∀ k, S2.marked k = decide (k = b) := fun k => by rw [hS2, e1]; show (if k = b then true else decide (k ∈ ([] : List Int))) = _; by_cases h : k = b <;> simp [h]
    have a2 : S2.ahead b 0 true = 73 := Chip.ahead_bad u2 (by rw [g2]; exact hin) (by rw [m2]; exact decide_eq_true rfl)
    have w2 : S2.dWrite b 0 d = (S2, 73) := by
      have e : decide (d.length = S2.room) = true := decide_eq_true (by unfold Chip.room; rw [g2]; exact hroom)
      unfold Chip.dWrite
      rw [e, a2]; rfl
    have w3 : S2.dErase b = (S2, 73) := by unfold Chip.dErase; rw [a2]; rfl
    have w4 : S2.dRead b 0 = ⟨73, [], 0⟩ := by unfold Chip.dRead; rw [a2]; rfl
    have w5 := Chip.goodTo_one u2 m2 hin.1 g.bl.toNat
    have hgd : S2.good = S2.goodTo g.bl.toNat := by unfold Chip.good; rw [g2]
    rw [← hgd, if_pos (by omega)] at w5
    refine WC.skip ?_
    refine WC.seq ?_
    refine WC.region ?_
    refine WL.val (V.loadA (vs := [_, _, _, _, _]) ⟨Try.isAgg23, Try.sizeOf23⟩ (OV.p rfl) rfl (fun _ => by repeat (first | exact Rds.gets ⟨rfl, rfl, rfl, rfl, rfl, trivial⟩ | apply Rds.up))) rfl ?_
    refine WL.call (vs := [_, _]) Try.call9 ⟨OV.p rfl, OV.p rfl, trivial⟩ (chip_New g (l := []) Seq.nil (by decide)) rfl ?_
    rintro _ _ (⟨hm, hin0, bc, C0, hC0, s0, rfl, rfl⟩ | ⟨hno, rfl, rfl⟩)
    rotate_left
    · exact (hno ⟨hmay, fun x hx => by simp at hx⟩).elim
    have g0 : C0.g = g := by rw [show C0.g = C0.sem.g from rfl, s0]; rfl
    refine WL.val (V.move (OV.p rfl)) rfl ?_
    refine WL.val (V.extract (OV.p rfl) rfl) rfl ?_
    refine WL.val (V.extract (OV.p rfl) rfl) rfl ?_
    refine WL.val (V.assign (OV.p rfl)) rfl ?_
    refine WL.val (V.assign (OV.p rfl)) rfl ?_
    refine WL.nil ?_
    refine WC.seq ?_
    refine WC.region ?_
    refine WL.val (V.move (OV.p rfl)) rfl ?_
    refine WL.call (vs := [_]) Try.call10 ⟨OV.p rfl, trivial⟩ (drive_NewG hC0 g0) rfl ?_
    rintro _ _ ⟨bd, rfl, rfl⟩
    refine WL.val (V.move (OV.p rfl)) rfl ?_
    refine WL.val (V.extract (OV.p rfl) rfl) rfl ?_
    refine WL.val (V.extract (OV.p rfl) rfl) rfl ?_
    refine WL.val (V.assign (OV.p rfl)) rfl ?_
    refine WL.val (V.assign (OV.p rfl)) rfl ?_
    refine WL.nil ?_
    refine WC.seq ?_
    refine WC.seq ?_
    refine WC.region ?_
    refine WL.val (V.move (OV.p rfl)) rfl ?_
    refine WL.val (V.neq (OV.p rfl) (OV.p rfl)) rfl ?_
    refine WL.val (V.move (OV.p rfl)) rfl ?_
    refine WL.valG (oj := _) rfl rfl rfl GC.f (V.move (OV.p rfl)) rfl ?_
    refine WL.valG (oj := _) rfl rfl rfl GC.f (V.neq (OV.g rfl id) (OV.p rfl)) rfl ?_
    refine WL.val (V.pickOr (OV.p rfl) (OV.g rfl id)) rfl ?_
    refine WL.val (V.move (OV.p rfl)) rfl ?_
    refine WL.valG (oj := _) rfl rfl rfl GC.f (V.move (OV.p rfl)) rfl ?_
    refine WL.valG (oj := _) rfl rfl rfl GC.f (V.eqlP Try.underlying31 (OV.g rfl id) (OV.p rfl)) rfl ?_
    refine WL.val (V.pickOr (OV.p rfl) (OV.g rfl id)) rfl ?_
    refine WL.nil ?_
    refine WC.condF' rfl (by first | rfl | (simp; done) | (simp; omega)) ?_
    refine WC.skip ?_
    refine WC.seq ?_
    refine WC.region ?_
    refine WL.val (V.move (OV.p rfl)) rfl ?_
    refine WL.val (V.move (OV.p rfl)) rfl ?_
    refine WL.call (vs := [_, _]) Try.call11 ⟨OV.p rfl, OV.p rfl, trivial⟩ (chip_WeakG hC0 g0 b) rfl ?_
    rintro _ _ ⟨C1, hC1, g1, rfl, s1⟩
    rw [s0, ← hS1] at s1
    refine WL.nil ?_
    refine WC.seq ?_
    refine WC.region ?_
    refine WL.val (V.move (OV.p rfl)) rfl ?_
    refine WL.val (V.move (OV.p rfl)) rfl ?_
    refine WL.val (V.move (OV.p rfl)) rfl ?_
    refine WL.call (vs := [_, _, _, _]) Try.call12 ⟨OV.p rfl, OV.p rfl, OV.p rfl, OV.p rfl, trivial⟩ (drive_WriteG hC1 g1 b 0 (by repeat (first | exact hsd | apply Seq.up)) hd8 hmc (by omega)) rfl ?_
    rintro v2 _ ⟨C2, hC2, g2', rfl, s2, hv2⟩
    rw [s1, w1] at s2 hv2
    subst hv2
    refine WL.val (V.assign (OV.p rfl)) rfl ?_
    refine WL.nil ?_
    refine WC.seq ?_
    refine WC.region ?_
    refine WL.val (V.move (OV.p rfl)) rfl ?_
    refine WL.val (V.move (OV.p rfl)) rfl ?_
    refine WL.val (V.move (OV.p rfl)) rfl ?_
    refine WL.call (vs := [_, _, _, _]) Try.call12 ⟨OV.p rfl, OV.p rfl, OV.p rfl, OV.p rfl, trivial⟩ (drive_WriteG hC2 g2' b 0 (by repeat (first | exact hsd | apply Seq.up)) hd8 hmc (by omega)) rfl ?_
    rintro v3 _ ⟨C3, hC3, g3', rfl, s3, hv3⟩
    rw [s2, w2] at s3 hv3
    subst hv3
    refine WL.val (V.assign (OV.p rfl)) rfl ?_
    refine WL.nil ?_
    refine WC.seq ?_
    refine WC.region ?_
    refine WL.val (V.move (OV.p rfl)) rfl ?_
    refine WL.val (V.move (OV.p rfl)) rfl ?_
    refine WL.call (vs := [_, _]) Try.call13 ⟨OV.p rfl, OV.p rfl, trivial⟩ (drive_EraseG hC3 g3' b) rfl ?_
    rintro v4 _ ⟨C4, hC4, g4', rfl, s4, hv4⟩
    rw [s3, w3] at s4 hv4
    subst hv4
    refine WL.val (V.assign (OV.p rfl)) rfl ?_
    refine WL.nil ?_
    refine WC.seq ?_
    refine WC.region ?_
    refine WL.val (V.move (OV.p rfl)) rfl ?_
    refine WL.val (V.move (OV.p rfl)) rfl ?_
    refine WL.call (vs := [_, _, _]) Try.call14 ⟨OV.p rfl, OV.p rfl, OV.p rfl, trivial⟩ (drive_ReadG hC4 g4' b 0) rfl ?_
    rintro _ _ ⟨A5, c5, rfl, rfl⟩
    rw [s4, w4]
    refine WL.sub (Sub.refl _) (fun w h => h.drop 1) ?_
    refine WL.val (V.move (OV.p rfl)) rfl ?_
    refine WL.val (V.extract (OV.p rfl) rfl) rfl ?_
    refine WL.val (V.extract (OV.p rfl) rfl) rfl ?_
    refine WL.val (V.extract (OV.p rfl) rfl) rfl ?_
    refine WL.val (V.assign (OV.p rfl)) rfl ?_
    refine WL.val (V.assign (OV.p rfl)) rfl ?_
    refine WL.val (V.assign (OV.p rfl)) rfl ?_
    refine WL.nil ?_
    refine WC.seq ?_
    refine WC.region ?_
    refine WL.val (V.move (OV.p rfl)) rfl ?_
    refine WL.call (vs := [_]) Try.call15 ⟨OV.p rfl, trivial⟩ (drive_GoodG hC4 g4') rfl ?_
    rintro _ _ ⟨A6, c6, rfl, rfl⟩
    rw [s4]
    refine WL.val (V.assign (OV.p rfl)) rfl ?_
    refine WL.nil ?_
    refine WC.seq ?_
    refine WC.seq ?_
    refine WC.region ?_
    refine WL.val (V.assign (OV.p rfl)) rfl ?_
    refine WL.nil ?_
    refine WC.block ?_
    refine WC.loop (σ := Nat) (fun i => [(1, .int .i64 b), (3, ptr b3 0), (11, .int .i64 72), (12, .int .i64 73), (13, .int .i64 73), (16, .int .i64 73), (17, .slice A6 S2.good.length c6), (18, .int .i64 (i : Int))]) (fun _ => _) (fun i => i ≤ S2.good.length) (fun i => S2.good.length - i) 0 (Nat.zero_le _) (.cons rfl (.cons rfl (.cons rfl (.cons rfl (.cons rfl (.cons rfl (.cons rfl (.cons rfl (.nil _))))))))) (fun w h => h) ?_
    rintro i hi
    refine WC.seq ?_
    refine WC.seq ?_
    refine WC.region ?_
    refine WL.val (V.move (OV.p rfl)) rfl ?_
    refine WL.val (V.move (OV.p rfl)) rfl ?_
    refine WL.val (V.len (t := 39) Try.runUnderlying39 (OV.p rfl)) rfl ?_
    refine WL.val (V.lss (OV.p rfl) (OV.p rfl)) rfl ?_
    refine WL.nil ?_
    refine WC.cond rfl (fun hc2 => ?_) (fun hc2 => ?_)
    · simp only [decide_eq_true_eq, decide_eq_false_iff_not] at hc2
      refine WC.skip ?_
      refine WC.seq ?_
      refine WC.block ?_
      refine WC.seq ?_
      have hil : i < S2.good.length := by omega
      have hrd : ∀ {H : List Assn}, Rd K (SlA (.slice A6 S2.good.length c6) 3 1 S2.good.length (ints .i64 S2.good) :: H) (A6.map (·.add ((i : Int).toNat * 1))) (.int .i64 (S2.good.getD i 0)) := fun {H} => by
        have hq : Seq K (SlA (.slice A6 S2.good.length c6) 3 1 S2.good.length (ints .i64 S2.good) :: H) A6 S2.good.length 1 (ints .i64 S2.good) := SlA.seq (by simp [ints])
        have := hq.int_rd (j := (i : Int)) ⟨by omega, by omega⟩
        simpa using this
      have hne : S2.good.getD i 0 ≠ b := fun h => w5.2 (by rw [← h]; simp only [List.getD, List.getElem?_eq_getElem hil]; exact List.getElem_mem hil)
      refine WC.region ?_
      refine WL.val (V.move (OV.p rfl)) rfl ?_
      refine WL.val (V.move (OV.p rfl)) rfl ?_
      refine WL.val (V.idxS st39 (OV.p rfl) (OV.p rfl) (fun hc => by omega) (fun hc => hrd)) rfl ?_
      refine WL.val (V.load Try.isAgg3 (OV.p rfl) (fun hc => hrd)) rfl ?_
      refine WL.val (V.move (OV.p rfl)) rfl ?_
      refine WL.val (V.eql (OV.p rfl) (OV.p rfl)) rfl ?_
      refine WL.nil ?_
      refine WC.condF' rfl ((decide_eq_false hne)) ?_
      refine WC.skip ?_
      refine WC.region ?_
      refine WL.val (V.move (OV.p rfl)) rfl ?_
      refine WL.val (V.addI (OV.p rfl) (OV.p rfl) (fun hc => by first | omega | (simp at hc; omega))) rfl ?_
      refine WL.val (V.assign (OV.p rfl)) rfl ?_
      refine WL.nil ?_
      refine ⟨rfl, ?_⟩
      exact ⟨i + 1, (by show i + 1 ≤ S2.good.length; omega), (by show S2.good.length - (i + 1) < S2.good.length - i; omega), .cons rfl (.cons rfl (.cons rfl (.cons rfl (.cons rfl (.cons rfl (.cons rfl (.cons (look_eq rfl (by simp)) (.nil _)))))))), fun w h => h⟩
    · simp only [decide_eq_true_eq, decide_eq_false_iff_not] at hc2
      refine WC.exit ?_
      refine WC.seq ?_
      refine WC.region ?_
      refine WL.call (vs := []) Try.call16 trivial (law08_awake _ _) rfl ?_
      rintro _ H0 ⟨rfl, h0⟩
      subst H0
      refine WL.val (V.move (OV.p rfl)) rfl ?_
      refine WL.valG (oj := _) rfl rfl rfl GC.t (V.move (OV.p rfl)) rfl ?_
      refine WL.valG (oj := _) rfl rfl rfl GC.t (V.eql (OV.g rfl id) (OV.p rfl)) rfl ?_
      refine WL.val (V.pickAnd (OV.p rfl) (OV.g rfl id)) rfl ?_
      refine WL.val (V.move (OV.p rfl)) rfl ?_
      refine WL.valG (oj := _) rfl rfl rfl GC.t (V.move (OV.p rfl)) rfl ?_
      refine WL.valG (oj := _) rfl rfl rfl GC.t (V.eql (OV.g rfl id) (OV.p rfl)) rfl ?_
      refine WL.val (V.pickAnd (OV.p rfl) (OV.g rfl id)) rfl ?_
      refine WL.val (V.move (OV.p rfl)) rfl ?_
      refine WL.valG (oj := _) rfl rfl rfl GC.t (V.move (OV.p rfl)) rfl ?_
      refine WL.valG (oj := _) rfl rfl rfl GC.t (V.eql (OV.g rfl id) (OV.p rfl)) rfl ?_
      refine WL.val (V.pickAnd (OV.p rfl) (OV.g rfl id)) rfl ?_
      refine WL.val (V.move (OV.p rfl)) rfl ?_
      refine WL.valG (oj := _) rfl rfl rfl GC.t (V.move (OV.p rfl)) rfl ?_
      refine WL.valG (oj := _) rfl rfl rfl GC.t (V.eql (OV.g rfl id) (OV.p rfl)) rfl ?_
      refine WL.val (V.pickAnd (OV.p rfl) (OV.g rfl id)) rfl ?_
      refine WL.val (V.move (OV.p rfl)) rfl ?_
      refine WL.valG (oj := _) rfl rfl rfl GC.t (V.move (OV.p rfl)) rfl ?_
      refine WL.valG (oj := _) rfl rfl rfl GC.t (V.len (t := 39) Try.runUnderlying39 (OV.g rfl id)) rfl ?_
      refine WL.valG (oj := _) rfl rfl rfl GC.t (V.fieldAddr fo23_0 (OV.p rfl)) rfl ?_
      refine WL.valG (oj := _) rfl rfl rfl GC.t (V.load Try.isAgg3 (OV.g rfl id) (fun _ => by repeat (first | exact Rd.here rfl | apply Rd.up))) rfl ?_
      refine WL.valG (oj := _) rfl rfl rfl GC.t (V.subI (OV.g rfl id) (OV.p rfl) (fun hc => by first | omega | (simp at hc; omega))) rfl ?_
      refine WL.valG (oj := _) rfl rfl rfl GC.t (V.eql (OV.g rfl id) (OV.g rfl id)) rfl ?_
      refine WL.val (V.pickAnd (OV.p rfl) (OV.g rfl id)) rfl ?_
      refine WL.val (V.assign (OV.p rfl)) rfl ?_
      refine WL.nil ?_
      refine WC.ret ?_
      refine BodyQ.ret (H' := F) (Res.tmp rfl rfl) (fun w h => h.drop 4) ⟨?_, rfl⟩
      have h5 := w5.1
      simp [h5]
      omega
end Go.Proofs.Ytohkefolnmcjnaa
