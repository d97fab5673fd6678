/- The laws DriveOthers and DriveTorn of casematelaw08. -/
import Derived.Test.YtohkefolnmcjnaaD8
namespace Go.Proofs.Ytohkefolnmcjnaa
open Go.Sl Go.RowKit
set_option linter.unusedVariables false
set_option linter.unusedSimpArgs false
set_option maxRecDepth 20000

theorem law08_DriveOthers (g : Geo) (a b : Int) {A : Option Addr} {m cap : Nat} {xs : List Int} {K : World} {F : List Assn} (hs : Seq K F A m 1 (ints .u8 xs)) (hx : IsBytes xs) (hmc : m ≤ cap) :
    Tells Try.prog 4 #[g.v, .int .i64 a, .int .i64 b, .slice A m cap] K F (.bool true) := by
  have hl : xs.length = m := by simpa [ints] using hs.len
  obtain ⟨d, hd⟩ : ∃ d, d = natsOf xs := ⟨_, rfl⟩
  have hd8 : Small 256 d := by rw [hd]; exact natsOf_small hx
  have hdl : d.length = m := by rw [hd, natsOf_length]; exact hl
  have hsd : Seq K F A m 1 (nats .u8 d) := by rw [hd, ← ints_natsOf hx]; exact hs
  have hdx : nats .u8 d = ints .u8 xs := by rw [hd, ← ints_natsOf hx]
  refine Does.enter Try.func4 rfl Try.ntmps4 rfl ?_
  simp only [env0, Nat.reduceAdd]
  refine WC.seq ?_
  refine WC.region ?_
  refine WL.box (cs := [_, _, _, _, _]) (OV.p rfl) rfl rfl (fun b4 => ?_)
  refine WL.val (V.assign (OV.p rfl)) rfl ?_
  refine WL.nil ?_
  refine WC.seq ?_
  refine WC.seq ?_
  refine WC.region ?_
  refine WL.val (V.loadA (vs := [_, _, _, _, _]) ⟨Try.isAgg23, Try.sizeOf23⟩ (OV.p rfl) rfl (fun _ => by repeat (first | exact Rds.gets ⟨rfl, rfl, rfl, rfl, rfl, trivial⟩ | apply Rds.up))) rfl ?_
  refine WL.call (vs := [_]) Try.call7 ⟨OV.p rfl, trivial⟩ (law08_small g _ _) rfl ?_
  rintro _ H0 ⟨rfl, h0⟩
  subst H0
  refine WL.val (V.not (OV.p rfl)) rfl ?_
  refine WL.val (V.move (OV.p rfl)) rfl ?_
  refine WL.valG (oj := _) rfl rfl rfl GC.f (V.move (OV.p rfl)) rfl ?_
  refine WL.valG (oj := _) rfl rfl rfl GC.f (V.lss (OV.g rfl id) (OV.p rfl)) rfl ?_
  refine WL.val (V.pickOr (OV.p rfl) (OV.g rfl id)) rfl ?_
  refine WL.val (V.move (OV.p rfl)) rfl ?_
  refine WL.valG (oj := _) rfl rfl rfl GC.f (V.move (OV.p rfl)) rfl ?_
  refine WL.valG (oj := _) rfl rfl rfl GC.f (V.fieldAddr fo23_0 (OV.p rfl)) rfl ?_
  refine WL.valG (oj := _) rfl rfl rfl GC.f (V.load Try.isAgg3 (OV.g rfl id) (fun _ => by repeat (first | exact Rd.here rfl | apply Rd.up))) rfl ?_
  refine WL.valG (oj := _) rfl rfl rfl GC.f (V.geq (OV.g rfl id) (OV.g rfl id)) rfl ?_
  refine WL.val (V.pickOr (OV.p rfl) (OV.g rfl id)) rfl ?_
  refine WL.val (V.move (OV.p rfl)) rfl ?_
  refine WL.valG (oj := _) rfl rfl rfl GC.f (V.move (OV.p rfl)) rfl ?_
  refine WL.valG (oj := _) rfl rfl rfl GC.f (V.lss (OV.g rfl id) (OV.p rfl)) rfl ?_
  refine WL.val (V.pickOr (OV.p rfl) (OV.g rfl id)) rfl ?_
  refine WL.val (V.move (OV.p rfl)) rfl ?_
  refine WL.valG (oj := _) rfl rfl rfl GC.f (V.move (OV.p rfl)) rfl ?_
  refine WL.valG (oj := _) rfl rfl rfl GC.f (V.fieldAddr fo23_0 (OV.p rfl)) rfl ?_
  refine WL.valG (oj := _) rfl rfl rfl GC.f (V.load Try.isAgg3 (OV.g rfl id) (fun _ => by repeat (first | exact Rd.here rfl | apply Rd.up))) rfl ?_
  refine WL.valG (oj := _) rfl rfl rfl GC.f (V.geq (OV.g rfl id) (OV.g rfl id)) rfl ?_
  refine WL.val (V.pickOr (OV.p rfl) (OV.g rfl id)) rfl ?_
  refine WL.val (V.move (OV.p rfl)) rfl ?_
  refine WL.valG (oj := _) rfl rfl rfl GC.f (V.move (OV.p rfl)) rfl ?_
  refine WL.valG (oj := _) rfl rfl rfl GC.f (V.move (OV.p rfl)) rfl ?_
  refine WL.valG (oj := _) rfl rfl rfl GC.f (V.eql (OV.g rfl id) (OV.g rfl id)) rfl ?_
  refine WL.val (V.pickOr (OV.p rfl) (OV.g rfl id)) rfl ?_
  refine WL.val (V.move (OV.p rfl)) rfl ?_
  refine WL.valG (oj := _) rfl rfl rfl GC.f (V.move (OV.p rfl)) rfl ?_
  refine WL.valG (oj := _) rfl rfl rfl GC.f (V.len (t := 24) Try.runUnderlying24 (OV.g rfl id)) rfl ?_
  refine WL.valG (oj := _) rfl rfl rfl GC.f (V.loadA (vs := [_, _, _, _, _]) ⟨Try.isAgg23, Try.sizeOf23⟩ (OV.p rfl) rfl (fun _ => by repeat (first | exact Rds.gets ⟨rfl, rfl, rfl, rfl, rfl, trivial⟩ | apply Rds.up))) rfl ?_
  refine WL.callG (oj := _) (vs := [_]) rfl rfl rfl GC.f Try.call8 ⟨OV.g rfl id, trivial⟩ (fun hg => ref06_Room g (Geo.mays_of (by revert hg; cases h : g.may <;> simp)) _ _) rfl ?_
  refine WL.valG (oj := _) rfl rfl rfl GC.f (V.neq (OV.g rfl id) (OV.g rfl id)) rfl ?_
  refine WL.val (V.pickOr (OV.p rfl) (OV.g rfl id)) rfl ?_
  refine WL.nil ?_
  refine WC.cond rfl (fun hc0 => ?_) (fun hc0 => ?_)
  · simp only [Bool.or_eq_true, Bool.or_eq_false_iff, Bool.and_eq_true, decide_eq_true_eq, decide_eq_false_iff_not, Bool.not_eq_true', Bool.not_eq_false'] at hc0
    refine WC.seq ?_
    refine WC.region ?_
    refine WL.val (V.assign (OV.p rfl)) rfl ?_
    refine WL.nil ?_
    refine WC.ret ?_
    exact BodyQ.ret (H' := F) (Res.tmp rfl rfl) (fun w h => h.drop 1) ⟨rfl, rfl⟩
  · simp only [Bool.or_eq_true, Bool.or_eq_false_iff, Bool.and_eq_true, decide_eq_true_eq, decide_eq_false_iff_not, Bool.not_eq_true', Bool.not_eq_false'] at hc0
    obtain ⟨⟨⟨⟨⟨⟨⟨⟨⟨hmay, h32⟩, h16⟩, hp8⟩, ha1⟩, ha2⟩, hb1⟩, hb2⟩, hab⟩, hm1⟩ := hc0
    have hg := Geo.mays_of hmay
    have hgb := hg
    unfold Geo.mays at hgb
    have hrm := Geo.room_nat hg
    have hina : 0 ≤ a ∧ a < g.bl ∧ (0 : Int) ≤ 0 ∧ 0 < g.pg := by omega
    have hinb : 0 ≤ b ∧ b < g.bl ∧ (0 : Int) ≤ 0 ∧ 0 < g.pg := by omega
    have hroom : d.length = g.se.toNat * g.sb.toNat := by omega
    obtain ⟨P, hP⟩ : ∃ P, P = intsOf (Chip.packG g d) := ⟨_, rfl⟩
    obtain ⟨S0, hS0⟩ : ∃ S, S = Chip.new g [] := ⟨_, rfl⟩
    obtain ⟨S1, hS1⟩ : ∃ S : Chip, S = { S0 with pages := Chip.upds S0.pages (a, 0) (some P), next := S0.setNext a (0 + 1) } := ⟨_, rfl⟩
    have w1 : S0.dWrite a 0 d = (S1, 0) := by rw [hS1, hP]; rw [show g = S0.g by rw [hS0]; rfl]; exact Chip.dWrite_ok (by rw [hS0]; exact hg) (by rw [hS0]; rfl) (by rw [hS0]; exact hina) (by rw [hS0]; rfl) hd8 (by rw [hS0]; exact hroom) (by rw [hS0]; exact Chip.next_new) (by rw [hS0]; rfl) (by rw [hS0]; rfl)
    obtain ⟨S2, hS2⟩ : ∃ S : Chip, S = { S1 with pages := Chip.upds S1.pages (b, 0) (some P), next := S1.setNext b (0 + 1) } := ⟨_, rfl⟩
    have hnb : S1.nextOf b = 0 := by
      have h0 : S0.nextOf b = 0 := by rw [hS0]; exact Chip.next_new
      have h1 := Chip.nextOf_set' (S := S0) (b := a) (v := 0 + 1) (x := b) hina.1 hinb.1 (by rw [hS0]; show b < ((List.replicate g.bl.toNat (0 : Int)).length : Int); rw [List.length_replicate]; omega)
      rw [if_neg (fun h => hab h.symm), h0] at h1
      rw [hS1]; exact h1
    have w2 : S1.dWrite b 0 d = (S2, 0) := by rw [hS2, hP]; rw [show g = S1.g by rw [hS1, hS0]; rfl]; exact Chip.dWrite_ok (by rw [hS1, hS0]; exact hg) (by rw [hS1, hS0]; rfl) (by rw [hS1, hS0]; exact hinb) (by rw [hS1, hS0]; rfl) hd8 (by rw [hS1, hS0]; exact hroom) hnb (by rw [hS1, hS0]; rfl) (by rw [hS1, hS0]; rfl)
    obtain ⟨S3, hS3⟩ : ∃ S : Chip, S = { S2 with pages := Chip.dropTo S2.pages a S2.g.pg, wrong := Chip.dropTo S2.wrong a S2.g.pg, next := S2.setNext a 0 } := ⟨_, rfl⟩
    have w3 : S2.dErase a = (S3, 0) := by rw [hS3]; exact Chip.dErase_ok (by rw [hS2, hS1, hS0]; rfl) (by rw [hS2, hS1, hS0]; exact ⟨hina.1, hina.2.1⟩) (by rw [hS2, hS1, hS0]; exact hina.2.2.2) (by rw [hS2, hS1, hS0]; rfl) (by rw [hS2, hS1, hS0]; rfl) (by rw [hS2, hS1, hS0]; rfl)
    have g3 : S3.g = g := by rw [hS3, hS2, hS1, hS0]; rfl
    have u3 : S3.up = true := by rw [hS3, hS2, hS1, hS0]; rfl
    have m3 : ∀ x, S3.marked x = false := fun x => by rw [hS3, hS2, hS1, hS0]; rfl
    have r3 : ∀ k, S3.wrong k = none := fun k => by rw [hS3, hS2, hS1, hS0]; show Chip.dropTo (fun _ => none) a _ k = none; unfold Chip.dropTo; split <;> rfl
    have w4 : S3.dRead b 0 = ⟨0, d, 0⟩ := by
      refine Chip.dRead_page (by rw [g3]; exact hg) u3 (by rw [g3]; exact hinb) (m3 b) hd8 (by unfold Chip.room; rw [g3]; exact hroom) ?_ (r3 _)
      rw [g3, ← hP, hS3, hS2]
      show Chip.dropTo (Chip.upds S1.pages (b, 0) (some P)) a _ (b, 0) = some P
      unfold Chip.dropTo Chip.upds
      rw [if_neg (fun h => hab h.1.symm), if_pos rfl]
    have w5 : S3.dRead a 0 = ⟨61, [], 0⟩ := by
      have hst : S3.stateG a 0 = 61 := by
        refine Chip.stateG_blank (by rw [g3]; exact hg) ?_ (r3 _)
        rw [hS3, hS2, hS1, hS0]
        show Chip.dropTo _ a g.pg (a, 0) = none
        unfold Chip.dropTo
        rw [if_pos ⟨rfl, Int.le_refl _, hina.2.2.2⟩]
      rw [Chip.dRead_err u3 (by rw [g3]; exact hina) (m3 a) (by rw [hst]; decide), hst]; rfl
    refine WC.skip ?_
    refine WC.seq ?_
    refine WC.region ?_
    refine WL.val (V.loadA (vs := [_, _, _, _, _]) ⟨Try.isAgg23, Try.sizeOf23⟩ (OV.p rfl) rfl (fun _ => by repeat (first | exact Rds.gets ⟨rfl, rfl, rfl, rfl, rfl, trivial⟩ | apply Rds.up))) rfl ?_
    refine WL.call (vs := [_, _]) Try.call9 ⟨OV.p rfl, OV.p rfl, trivial⟩ (chip_New g (l := []) Seq.nil (by decide)) rfl ?_
    rintro _ _ (⟨hm, hin0, bc, C0, hC0, s0, rfl, rfl⟩ | ⟨hno, rfl, rfl⟩)
    rotate_left
    · exact (hno ⟨hmay, fun x hx => by simp at hx⟩).elim
    have g0 : C0.g = g := by rw [show C0.g = C0.sem.g from rfl, s0]; rfl
    rw [← hS0] at s0
    refine WL.val (V.move (OV.p rfl)) rfl ?_
    refine WL.val (V.extract (OV.p rfl) rfl) rfl ?_
    refine WL.val (V.extract (OV.p rfl) rfl) rfl ?_
    refine WL.val (V.assign (OV.p rfl)) rfl ?_
    refine WL.val (V.assign (OV.p rfl)) rfl ?_
    refine WL.nil ?_
    refine WC.seq ?_
    refine WC.region ?_
    refine WL.val (V.move (OV.p rfl)) rfl ?_
    refine WL.call (vs := [_]) Try.call10 ⟨OV.p rfl, trivial⟩ (drive_NewG hC0 g0) rfl ?_
    rintro _ _ ⟨bd, rfl, rfl⟩
    refine WL.val (V.move (OV.p rfl)) rfl ?_
    refine WL.val (V.extract (OV.p rfl) rfl) rfl ?_
    refine WL.val (V.extract (OV.p rfl) rfl) rfl ?_
    refine WL.val (V.assign (OV.p rfl)) rfl ?_
    refine WL.val (V.assign (OV.p rfl)) rfl ?_
    refine WL.nil ?_
    refine WC.seq ?_
    refine WC.seq ?_
    refine WC.region ?_
    refine WL.val (V.move (OV.p rfl)) rfl ?_
    refine WL.val (V.neq (OV.p rfl) (OV.p rfl)) rfl ?_
    refine WL.val (V.move (OV.p rfl)) rfl ?_
    refine WL.valG (oj := _) rfl rfl rfl GC.f (V.move (OV.p rfl)) rfl ?_
    refine WL.valG (oj := _) rfl rfl rfl GC.f (V.neq (OV.g rfl id) (OV.p rfl)) rfl ?_
    refine WL.val (V.pickOr (OV.p rfl) (OV.g rfl id)) rfl ?_
    refine WL.val (V.move (OV.p rfl)) rfl ?_
    refine WL.valG (oj := _) rfl rfl rfl GC.f (V.move (OV.p rfl)) rfl ?_
    refine WL.valG (oj := _) rfl rfl rfl GC.f (V.eqlP Try.underlying31 (OV.g rfl id) (OV.p rfl)) rfl ?_
    refine WL.val (V.pickOr (OV.p rfl) (OV.g rfl id)) rfl ?_
    refine WL.nil ?_
    refine WC.condF' rfl (by first | rfl | (simp; done) | (simp; omega)) ?_
    refine WC.skip ?_
    refine WC.seq ?_
    refine WC.seq ?_
    refine WC.region ?_
    refine WL.val (V.move (OV.p rfl)) rfl ?_
    refine WL.val (V.move (OV.p rfl)) rfl ?_
    refine WL.val (V.move (OV.p rfl)) rfl ?_
    refine WL.call (vs := [_, _, _, _]) Try.call12 ⟨OV.p rfl, OV.p rfl, OV.p rfl, OV.p rfl, trivial⟩ (drive_WriteG hC0 g0 a 0 (by repeat (first | exact hsd | apply Seq.up)) hd8 hmc (by omega)) rfl ?_
    rintro v1 _ ⟨C1, hC1, g1', rfl, s1, hv1⟩
    rw [s0, w1] at s1 hv1
    subst hv1
    refine WL.val (V.neq (OV.p rfl) (OV.p rfl)) rfl ?_
    refine WL.val (V.move (OV.p rfl)) rfl ?_
    refine WL.known (oj := _) rfl rfl rfl rfl ?_
    refine WL.val (V.move (OV.p rfl)) rfl ?_
    refine WL.known (oj := _) rfl rfl rfl rfl ?_
    refine WL.val (V.move (OV.p rfl)) rfl ?_
    refine WL.known (oj := _) rfl rfl rfl rfl ?_
    refine WL.val (V.move (OV.p rfl)) rfl ?_
    refine WL.known (oj := _) rfl rfl rfl rfl ?_
    refine WL.call (vs := [_, _, _, _]) Try.call12 ⟨OV.p rfl, OV.p rfl, OV.p rfl, OV.p rfl, trivial⟩ (drive_WriteG hC1 g1' b 0 (by repeat (first | exact hsd | apply Seq.up)) hd8 hmc (by omega)) rfl ?_
    rintro v2 _ ⟨C2, hC2, g2', rfl, s2, hv2⟩
    rw [s1, w2] at s2 hv2
    subst hv2
    refine WL.known (oj := _) rfl rfl rfl rfl ?_
    refine WL.val (V.neq (OV.p rfl) (OV.p rfl)) rfl ?_
    refine WL.val (V.pickOr (OV.p rfl) (OV.p rfl)) rfl ?_
    refine WL.val (V.move (OV.p rfl)) rfl ?_
    refine WL.known (oj := _) rfl rfl rfl rfl ?_
    refine WL.val (V.move (OV.p rfl)) rfl ?_
    refine WL.known (oj := _) rfl rfl rfl rfl ?_
    refine WL.val (V.move (OV.p rfl)) rfl ?_
    refine WL.known (oj := _) rfl rfl rfl rfl ?_
    refine WL.call (vs := [_, _]) Try.call13 ⟨OV.p rfl, OV.p rfl, trivial⟩ (drive_EraseG hC2 g2' a) rfl ?_
    rintro v3 _ ⟨C3, hC3, g3', rfl, s3, hv3⟩
    rw [s2, w3] at s3 hv3
    subst hv3
    refine WL.known (oj := _) rfl rfl rfl rfl ?_
    refine WL.val (V.neq (OV.p rfl) (OV.p rfl)) rfl ?_
    refine WL.val (V.pickOr (OV.p rfl) (OV.p rfl)) rfl ?_
    refine WL.nil ?_
    refine WC.condF' rfl (by first | rfl | (simp; done) | (simp; omega)) ?_
    refine WC.skip ?_
    refine WC.seq ?_
    refine WC.region ?_
    refine WL.val (V.move (OV.p rfl)) rfl ?_
    refine WL.val (V.move (OV.p rfl)) rfl ?_
    refine WL.call (vs := [_, _, _]) Try.call14 ⟨OV.p rfl, OV.p rfl, OV.p rfl, trivial⟩ (drive_ReadG hC3 g3' b 0) rfl ?_
    rintro _ _ ⟨A4, c4, rfl, rfl⟩
    rw [s3, w4]
    refine WL.sub (Sub.refl _) (fun w h => h.sel 3 [1, 2, 0] rfl) ?_
    refine WL.val (V.move (OV.p rfl)) rfl ?_
    refine WL.val (V.extract (OV.p rfl) rfl) rfl ?_
    refine WL.val (V.extract (OV.p rfl) rfl) rfl ?_
    refine WL.val (V.extract (OV.p rfl) rfl) rfl ?_
    refine WL.val (V.assign (OV.p rfl)) rfl ?_
    refine WL.val (V.assign (OV.p rfl)) rfl ?_
    refine WL.val (V.assign (OV.p rfl)) rfl ?_
    refine WL.nil ?_
    refine WC.seq ?_
    refine WC.region ?_
    refine WL.val (V.move (OV.p rfl)) rfl ?_
    refine WL.val (V.move (OV.p rfl)) rfl ?_
    refine WL.call (vs := [_, _, _]) Try.call14 ⟨OV.p rfl, OV.p rfl, OV.p rfl, trivial⟩ (drive_ReadG hC3 g3' a 0) rfl ?_
    rintro _ _ ⟨A5, c5, rfl, rfl⟩
    rw [s3, w5]
    refine WL.val (V.move (OV.p rfl)) rfl ?_
    refine WL.val (V.extract (OV.p rfl) rfl) rfl ?_
    refine WL.val (V.extract (OV.p rfl) rfl) rfl ?_
    refine WL.val (V.extract (OV.p rfl) rfl) rfl ?_
    refine WL.val (V.assign (OV.p rfl)) rfl ?_
    refine WL.val (V.assign (OV.p rfl)) rfl ?_
    refine WL.val (V.assign (OV.p rfl)) rfl ?_
    refine WL.nil ?_
    refine WC.seq ?_
    refine WC.region ?_
    refine WL.call (vs := []) Try.call16 trivial (law08_awake _ _) rfl ?_
    rintro _ H0 ⟨rfl, h0⟩
    subst H0
    refine WL.val (V.move (OV.p rfl)) rfl ?_
    refine WL.known (oj := _) rfl rfl rfl rfl ?_
    refine WL.val (V.move (OV.p rfl)) rfl ?_
    refine WL.known (oj := _) rfl rfl rfl rfl ?_
    refine WL.val (V.eql (OV.p rfl) (OV.p rfl)) rfl ?_
    refine WL.val (V.pickAnd (OV.p rfl) (OV.p rfl)) rfl ?_
    refine WL.val (V.move (OV.p rfl)) rfl ?_
    refine WL.known (oj := _) rfl rfl rfl rfl ?_
    refine WL.val (V.move (OV.p rfl)) rfl ?_
    refine WL.known (oj := _) rfl rfl rfl rfl ?_
    refine WL.val (V.bytesStr (xs := xs) Try.underlying24 Try.underlying5 Try.underlying9 (OV.p rfl) (fun _ => by rw [← hdx]; exact Seq.up (Seq.up (Seq.up (SlA.seq (by rw [nats_length, Nat.mul_one])))))) rfl ?_
    refine WL.known (oj := _) rfl rfl rfl rfl ?_
    refine WL.val (V.move (OV.p rfl)) rfl ?_
    refine WL.known (oj := _) rfl rfl rfl rfl ?_
    refine WL.val (V.bytesStr (xs := xs) Try.underlying24 Try.underlying5 Try.underlying9 (OV.p rfl) (fun _ => by repeat (first | exact hs | apply Seq.up))) rfl ?_
    refine WL.known (oj := _) rfl rfl rfl rfl ?_
    refine WL.val (V.val_eq (v' := .bool true) (V.eqlS (OV.p rfl) (OV.p rfl)) (fun _ => by simp)) rfl ?_
    refine WL.val (V.pickAnd (OV.p rfl) (OV.p rfl)) rfl ?_
    refine WL.val (V.move (OV.p rfl)) rfl ?_
    refine WL.known (oj := _) rfl rfl rfl rfl ?_
    refine WL.val (V.move (OV.p rfl)) rfl ?_
    refine WL.known (oj := _) rfl rfl rfl rfl ?_
    refine WL.val (V.eql (OV.p rfl) (OV.p rfl)) rfl ?_
    refine WL.val (V.pickAnd (OV.p rfl) (OV.p rfl)) rfl ?_
    refine WL.val (V.assign (OV.p rfl)) rfl ?_
    refine WL.nil ?_
    refine WC.ret ?_
    exact BodyQ.ret (H' := F) (Res.tmp rfl rfl) (fun w h => h.drop 5) ⟨rfl, rfl⟩
theorem law08_DriveTorn (g : Geo) (keep : Int) {A : Option Addr} {m cap : Nat} {xs : List Int} {K : World} {F : List Assn} (hs : Seq K F A m 1 (ints .u8 xs)) (hx : IsBytes xs) (hmc : m ≤ cap) :
    Tells Try.prog 6 #[g.v, .slice A m cap, .int .i64 keep] K F (.bool true) := by
  have hl : xs.length = m := by simpa [ints] using hs.len
  obtain ⟨d, hd⟩ : ∃ d, d = natsOf xs := ⟨_, rfl⟩
  have hd8 : Small 256 d := by rw [hd]; exact natsOf_small hx
  have hdl : d.length = m := by rw [hd, natsOf_length]; exact hl
  have hsd : Seq K F A m 1 (nats .u8 d) := by rw [hd, ← ints_natsOf hx]; exact hs
  have hdx : nats .u8 d = ints .u8 xs := by rw [hd, ← ints_natsOf hx]
  refine Does.enter Try.func6 rfl Try.ntmps6 rfl ?_
  simp only [env0, Nat.reduceAdd]
  refine WC.seq ?_
  refine WC.region ?_
  refine WL.box (cs := [_, _, _, _, _]) (OV.p rfl) rfl rfl (fun b3 => ?_)
  refine WL.val (V.assign (OV.p rfl)) rfl ?_
  refine WL.nil ?_
  refine WC.seq ?_
  refine WC.seq ?_
  refine WC.region ?_
  refine WL.val (V.loadA (vs := [_, _, _, _, _]) ⟨Try.isAgg23, Try.sizeOf23⟩ (OV.p rfl) rfl (fun _ => by repeat (first | exact Rds.gets ⟨rfl, rfl, rfl, rfl, rfl, trivial⟩ | apply Rds.up))) rfl ?_
  refine WL.call (vs := [_]) Try.call7 ⟨OV.p rfl, trivial⟩ (law08_small g _ _) rfl ?_
  rintro _ H0 ⟨rfl, h0⟩
  subst H0
  refine WL.val (V.not (OV.p rfl)) rfl ?_
  refine WL.val (V.move (OV.p rfl)) rfl ?_
  refine WL.valG (oj := _) rfl rfl rfl GC.f (V.move (OV.p rfl)) rfl ?_
  refine WL.valG (oj := _) rfl rfl rfl GC.f (V.len (t := 24) Try.runUnderlying24 (OV.g rfl id)) rfl ?_
  refine WL.valG (oj := _) rfl rfl rfl GC.f (V.loadA (vs := [_, _, _, _, _]) ⟨Try.isAgg23, Try.sizeOf23⟩ (OV.p rfl) rfl (fun _ => by repeat (first | exact Rds.gets ⟨rfl, rfl, rfl, rfl, rfl, trivial⟩ | apply Rds.up))) rfl ?_
  refine WL.callG (oj := _) (vs := [_]) rfl rfl rfl GC.f Try.call8 ⟨OV.g rfl id, trivial⟩ (fun hg => ref06_Room g (Geo.mays_of (by revert hg; cases h : g.may <;> simp)) _ _) rfl ?_
  refine WL.valG (oj := _) rfl rfl rfl GC.f (V.neq (OV.g rfl id) (OV.g rfl id)) rfl ?_
  refine WL.val (V.pickOr (OV.p rfl) (OV.g rfl id)) rfl ?_
  refine WL.val (V.move (OV.p rfl)) rfl ?_
  refine WL.valG (oj := _) rfl rfl rfl GC.f (V.move (OV.p rfl)) rfl ?_
  refine WL.valG (oj := _) rfl rfl rfl GC.f (V.loadA (vs := [_, _, _, _, _]) ⟨Try.isAgg23, Try.sizeOf23⟩ (OV.p rfl) rfl (fun _ => by repeat (first | exact Rds.gets ⟨rfl, rfl, rfl, rfl, rfl, trivial⟩ | apply Rds.up))) rfl ?_
  refine WL.callG (oj := _) (vs := [_]) rfl rfl rfl GC.f Try.call19 ⟨OV.g rfl id, trivial⟩ (fun hg => ref06_Raw g (Geo.mays_of (by revert hg; cases h : g.may <;> simp)) _ _) rfl ?_
  refine WL.valG (oj := _) rfl rfl rfl GC.f (V.geq (OV.g rfl id) (OV.g rfl id)) rfl ?_
  refine WL.val (V.pickOr (OV.p rfl) (OV.g rfl id)) rfl ?_
  refine WL.nil ?_
  refine WC.cond rfl (fun hc0 => ?_) (fun hc0 => ?_)
  · simp only [Bool.or_eq_true, Bool.or_eq_false_iff, Bool.and_eq_true, decide_eq_true_eq, decide_eq_false_iff_not, Bool.not_eq_true', Bool.not_eq_false'] at hc0
    refine WC.seq ?_
    refine WC.region ?_
    refine WL.val (V.assign (OV.p rfl)) rfl ?_
    refine WL.nil ?_
    refine WC.ret ?_
    exact BodyQ.ret (H' := F) (Res.tmp rfl rfl) (fun w h => h.drop 1) ⟨rfl, rfl⟩
  · simp only [Bool.or_eq_true, Bool.or_eq_false_iff, Bool.and_eq_true, decide_eq_true_eq, decide_eq_false_iff_not, Bool.not_eq_true', Bool.not_eq_false'] at hc0
    obtain ⟨⟨⟨⟨⟨hmay, h32⟩, h16⟩, hp8⟩, hm1⟩, hke⟩ := hc0
    have hg := Geo.mays_of hmay
    have hgb := hg
    unfold Geo.mays at hgb
    have hrm := Geo.room_nat hg
    have hrn := Geo.raw_nat hg
    have hin : (0 : Int) ≤ 0 ∧ 0 < g.bl ∧ (0 : Int) ≤ 0 ∧ 0 < g.pg := by omega
    have hroom : d.length = g.se.toNat * g.sb.toNat := by omega
    obtain ⟨P, hP⟩ : ∃ P, P = intsOf (Chip.packG g d) := ⟨_, rfl⟩
    have hPl : (P.length : Int) = g.raw := by rw [hP]; exact Chip.pack_len (S := Chip.new g []) hg hd8 hroom
    obtain ⟨S1, hS1⟩ : ∃ S, S = (Chip.new g []).arm 1 keep := ⟨_, rfl⟩
    obtain ⟨k, hk⟩ : ∃ k, k = (S1.kept (P.length : Int)).toNat := ⟨_, rfl⟩
    have hkr : k < rawN g.se.toNat g.sb.toNat g.fl.toNat := by
      have hr1 : 1 ≤ rawN g.se.toNat g.sb.toNat g.fl.toNat := by unfold rawN; omega
      rw [hk, hS1]
      show (min (max keep 0) (P.length : Int)).toNat < _
      omega
    obtain ⟨Q, hQ⟩ : ∃ Q, Q = P.take k ++ (List.replicate g.raw.toNat (255 : Int)).drop k := ⟨_, rfl⟩
    obtain ⟨S2, hS2⟩ : ∃ S : Chip, S = { S1.deed with pages := Chip.upds S1.deed.pages (0, 0) (some Q), next := S1.deed.setNext 0 (0 + 1) } := ⟨_, rfl⟩
    have w2 : S1.dWrite 0 0 d = (S2, 70) := by
      have e1 : S1.program 0 0 P = (S2, 70) := by
        unfold Chip.program
        rw [if_neg (by rw [hS1]; show ¬ true = false; decide), if_neg (by rw [Chip.page_ok (by rw [hS1]; exact hin)]; rintro (h | h); cases h; exact h (by rw [hS1]; exact hPl)), if_neg (fun h => h (by rw [hS1]; exact (Chip.next_new (g := g) (l := []) (b := 0)).symm)), if_pos (by rw [hS1]; rfl), hS2, hQ, hk]
        simp only [hS1]; rfl
      rw [Chip.dWrite_prog (by rw [hS1]; rfl) (by rw [hS1]; exact hin) (by rw [hS1]; rfl) (by rw [hS1]; exact hroom), show S1.g = g by rw [hS1]; rfl, ← hP, e1]
      rfl
    obtain ⟨S3, hS3⟩ : ∃ S, S = S2.on := ⟨_, rfl⟩
    have g3 : S3.g = g := by rw [hS3, hS2, hS1]; rfl
    have u3 : S3.up = true := by rw [hS3]; rfl
    have l3 : S3.left = 0 := by rw [hS3, hS2, hS1]; rfl
    have m3 : ∀ x, S3.marked x = false := fun x => by rw [hS3, hS2, hS1]; rfl
    have r3 : ∀ k, S3.wrong k = none := fun k => by rw [hS3, hS2, hS1]; rfl
    have hQb : S3.rawN 0 0 = natsOf Q := by
      unfold Chip.rawN Chip.reads
      rw [r3, show S3.pages (0, 0) = some Q by rw [hS3, hS2]; show Chip.upds S1.deed.pages (0, 0) (some Q) (0, 0) = some Q; unfold Chip.upds; exact if_pos rfl]; rfl
    have hQ2 : (natsOf Q).getD (g.se.toNat * (g.sb.toNat + moreLen g.fl.toNat)) 0 = 255 := by
      have hr1 : rawN g.se.toNat g.sb.toNat g.fl.toNat = g.se.toNat * (g.sb.toNat + moreLen g.fl.toNat) + 1 := rfl
      have hPl2 : P.length = rawN g.se.toNat g.sb.toNat g.fl.toNat := by omega
      obtain ⟨z, hz⟩ : ∃ z, z = g.se.toNat * (g.sb.toNat + moreLen g.fl.toNat) := ⟨_, rfl⟩
      rw [← hz] at hr1 ⊢
      have hr2 : g.raw.toNat = z + 1 := by omega
      rw [hQ, hr2]
      unfold natsOf
      rw [List.map_append, List.getD, List.getElem?_append_right (by simp; omega), List.drop_replicate, List.map_replicate, List.getElem?_replicate, if_pos (by simp; omega)]; rfl
    have hst : S3.stateG 0 0 = 60 ∨ S3.stateG 0 0 = 61 := by unfold Chip.stateG; rw [g3, hQb]; exact Chip.state_255 hQ2
    obtain ⟨st, hstv⟩ : ∃ st, st = S3.stateG 0 0 := ⟨_, rfl⟩
    rw [← hstv] at hst
    have w3 : S3.dRead 0 0 = ⟨(st : Int), [], 0⟩ := by rw [hstv]; exact Chip.dRead_err u3 (by rw [g3]; exact hin) (m3 0) (by rw [← hstv]; omega)
    have w4 : S3.dWhole 0 1 = (false, 0) := by
      have e1 : (decide ((0 : Int) ≤ 1) && decide (1 ≤ S3.g.pg)) = true := by rw [g3, decide_eq_true (by omega), decide_eq_true (by omega)]; rfl
      have e2 := Chip.ahead_ok (S := S3) (b := 0) (p := 0) u3 (by rw [g3]; exact hin) (m3 0)
      unfold Chip.dWhole
      rw [e1, e2, if_neg (by decide), if_neg (fun h => h rfl)]
      show (Chip.wholeTo S3 0 1, (0 : Int)) = (false, 0)
      rw [Chip.wholeTo, show S3.stateG 0 ((0 : Nat) : Int) = st from hstv.symm, decide_eq_false (by omega), Bool.and_false]
    obtain ⟨S4, hS4⟩ : ∃ S : Chip, S = { S3 with pages := Chip.dropTo S3.pages 0 S3.g.pg, wrong := Chip.dropTo S3.wrong 0 S3.g.pg, next := S3.setNext 0 0 } := ⟨_, rfl⟩
    have w5 : S3.dErase 0 = (S4, 0) := by rw [hS4]; exact Chip.dErase_ok u3 (by rw [g3]; exact ⟨hin.1, hin.2.1⟩) (by rw [g3]; exact hin.2.2.2) (m3 0) l3 (by rw [hS3, hS2, hS1]; rfl)
    have g4 : S4.g = g := by rw [hS4]; exact g3
    have hn4 : S4.nextOf 0 = 0 := by
      have hlen : (0 : Int) < S3.next.length := by rw [hS3, hS2, hS1]; show (0 : Int) < (((List.replicate g.bl.toNat (0 : Int)).set _ _).length : Int); rw [List.length_set, List.length_replicate]; omega
      have h1 := Chip.nextOf_set' (S := S3) (b := 0) (v := 0) (x := 0) (by decide) (by decide) hlen
      rw [if_pos rfl] at h1
      rw [hS4]; exact h1
    obtain ⟨S5, hS5⟩ : ∃ S : Chip, S = { S4 with pages := Chip.upds S4.pages (0, 0) (some P), next := S4.setNext 0 (0 + 1) } := ⟨_, rfl⟩
    have w6 : S4.dWrite 0 0 d = (S5, 0) := by rw [hS5, hP, ← g4]; exact Chip.dWrite_ok (by rw [g4]; exact hg) (by rw [hS4]; exact u3) (by rw [g4]; exact hin) (by rw [hS4]; exact m3 0) hd8 (by unfold Chip.room; rw [g4]; exact hroom) hn4 (by rw [hS4]; exact l3) (by rw [hS4, hS3, hS2, hS1]; rfl)
    have g5 : S5.g = g := by rw [hS5]; exact g4
    have w7 : S5.dRead 0 0 = ⟨0, d, 0⟩ := by
      refine Chip.dRead_page (by rw [g5]; exact hg) (by rw [hS5, hS4]; exact u3) (by rw [g5]; exact hin) (by rw [hS5, hS4]; exact m3 0) hd8 (by unfold Chip.room; rw [g5]; exact hroom) ?_ ?_
      · rw [g5, ← hP, hS5]; show Chip.upds S4.pages (0, 0) (some P) (0, 0) = some P; unfold Chip.upds; exact if_pos rfl
      · rw [hS5, hS4]; show Chip.dropTo S3.wrong 0 _ (0, 0) = none; unfold Chip.dropTo; split; rfl; exact r3 _
    refine WC.skip ?_
    refine WC.seq ?_
    refine WC.region ?_
    refine WL.val (V.loadA (vs := [_, _, _, _, _]) ⟨Try.isAgg23, Try.sizeOf23⟩ (OV.p rfl) rfl (fun _ => by repeat (first | exact Rds.gets ⟨rfl, rfl, rfl, rfl, rfl, trivial⟩ | apply Rds.up))) rfl ?_
    refine WL.call (vs := [_, _]) Try.call9 ⟨OV.p rfl, OV.p rfl, trivial⟩ (chip_New g (l := []) Seq.nil (by decide)) rfl ?_
    rintro _ _ (⟨hm, hin0, bc, C0, hC0, s0, rfl, rfl⟩ | ⟨hno, rfl, rfl⟩)
    rotate_left
    · exact (hno ⟨hmay, fun x hx => by simp at hx⟩).elim
    have g0 : C0.g = g := by rw [show C0.g = C0.sem.g from rfl, s0]; rfl
    refine WL.val (V.move (OV.p rfl)) rfl ?_
    refine WL.val (V.extract (OV.p rfl) rfl) rfl ?_
    refine WL.val (V.extract (OV.p rfl) rfl) rfl ?_
    refine WL.val (V.assign (OV.p rfl)) rfl ?_
    refine WL.val (V.assign (OV.p rfl)) rfl ?_
    refine WL.nil ?_
    refine WC.seq ?_
    refine WC.region ?_
    refine WL.val (V.move (OV.p rfl)) rfl ?_
    refine WL.call (vs := [_]) Try.call10 ⟨OV.p rfl, trivial⟩ (drive_NewG hC0 g0) rfl ?_
    rintro _ _ ⟨bd, rfl, rfl⟩
    refine WL.val (V.move (OV.p rfl)) rfl ?_
    refine WL.val (V.extract (OV.p rfl) rfl) rfl ?_
    refine WL.val (V.extract (OV.p rfl) rfl) rfl ?_
    refine WL.val (V.assign (OV.p rfl)) rfl ?_
    refine WL.val (V.assign (OV.p rfl)) rfl ?_
    refine WL.nil ?_
    refine WC.seq ?_
    refine WC.seq ?_
    refine WC.region ?_
    refine WL.val (V.move (OV.p rfl)) rfl ?_
    refine WL.val (V.neq (OV.p rfl) (OV.p rfl)) rfl ?_
    refine WL.val (V.move (OV.p rfl)) rfl ?_
    refine WL.valG (oj := _) rfl rfl rfl GC.f (V.move (OV.p rfl)) rfl ?_
    refine WL.valG (oj := _) rfl rfl rfl GC.f (V.neq (OV.g rfl id) (OV.p rfl)) rfl ?_
    refine WL.val (V.pickOr (OV.p rfl) (OV.g rfl id)) rfl ?_
    refine WL.val (V.move (OV.p rfl)) rfl ?_
    refine WL.valG (oj := _) rfl rfl rfl GC.f (V.move (OV.p rfl)) rfl ?_
    refine WL.valG (oj := _) rfl rfl rfl GC.f (V.eqlP Try.underlying31 (OV.g rfl id) (OV.p rfl)) rfl ?_
    refine WL.val (V.pickOr (OV.p rfl) (OV.g rfl id)) rfl ?_
    refine WL.nil ?_
    refine WC.condF' rfl (by first | rfl | (simp; done) | (simp; omega)) ?_
    refine WC.skip ?_
    refine WC.seq ?_
    refine WC.region ?_
    refine WL.val (V.move (OV.p rfl)) rfl ?_
    refine WL.val (V.move (OV.p rfl)) rfl ?_
    refine WL.call (vs := [_, _, _]) Try.call20 ⟨OV.p rfl, OV.p rfl, OV.p rfl, trivial⟩ (chip_Arm (C := C0) 1 keep) rfl ?_
    rintro v1 _ rfl
    have s1 : (C0.arm 1 keep).sem = S1 := by rw [hS1, ← s0]; rfl
    refine WL.nil ?_
    refine WC.seq ?_
    refine WC.region ?_
    refine WL.val (V.move (OV.p rfl)) rfl ?_
    refine WL.val (V.move (OV.p rfl)) rfl ?_
    refine WL.call (vs := [_, _, _, _]) Try.call12 ⟨OV.p rfl, OV.p rfl, OV.p rfl, OV.p rfl, trivial⟩ (drive_WriteG (hC0.arm (by decide)) g0 0 0 (by repeat (first | exact hsd | apply Seq.up)) hd8 hmc (by omega)) rfl ?_
    rintro v2 _ ⟨C2, hC2, g2', rfl, s2, hv2⟩
    rw [s1, w2] at s2 hv2
    subst hv2
    refine WL.val (V.assign (OV.p rfl)) rfl ?_
    refine WL.nil ?_
    refine WC.seq ?_
    refine WC.region ?_
    refine WL.val (V.move (OV.p rfl)) rfl ?_
    refine WL.call (vs := [_]) Try.call21 ⟨OV.p rfl, trivial⟩ (chip_On (C := C2)) rfl ?_
    rintro v3 _ rfl
    have s3 : C2.on.sem = S3 := by rw [hS3]; show C2.sem.on = S2.on; rw [s2]
    refine WL.nil ?_
    refine WC.seq ?_
    refine WC.region ?_
    refine WL.val (V.move (OV.p rfl)) rfl ?_
    refine WL.call (vs := [_, _, _]) Try.call14 ⟨OV.p rfl, OV.p rfl, OV.p rfl, trivial⟩ (drive_ReadG hC2.on g2' 0 0) rfl ?_
    rintro _ _ ⟨A4, c4, rfl, rfl⟩
    rw [s3, w3]
    refine WL.sub (Sub.refl _) (fun w h => h.drop 1) ?_
    refine WL.val (V.move (OV.p rfl)) rfl ?_
    refine WL.val (V.extract (OV.p rfl) rfl) rfl ?_
    refine WL.val (V.extract (OV.p rfl) rfl) rfl ?_
    refine WL.val (V.extract (OV.p rfl) rfl) rfl ?_
    refine WL.val (V.assign (OV.p rfl)) rfl ?_
    refine WL.val (V.assign (OV.p rfl)) rfl ?_
    refine WL.val (V.assign (OV.p rfl)) rfl ?_
    refine WL.nil ?_
    refine WC.seq ?_
    refine WC.region ?_
    refine WL.val (V.move (OV.p rfl)) rfl ?_
    refine WL.call (vs := [_, _, _]) Try.call17 ⟨OV.p rfl, OV.p rfl, OV.p rfl, trivial⟩ (Tells.eq (v' := .tuple #[.bool false, .int .i64 0]) (drive_WholeG hC2.on g2' 0 1 (by decide)) (by rw [s3, w4])) rfl ?_
    rintro _ H0 ⟨rfl, h0⟩
    subst H0
    refine WL.val (V.move (OV.p rfl)) rfl ?_
    refine WL.val (V.extract (OV.p rfl) rfl) rfl ?_
    refine WL.val (V.extract (OV.p rfl) rfl) rfl ?_
    refine WL.val (V.assign (OV.p rfl)) rfl ?_
    refine WL.val (V.assign (OV.p rfl)) rfl ?_
    refine WL.nil ?_
    refine WC.seq ?_
    refine WC.seq ?_
    refine WC.region ?_
    refine WL.val (V.move (OV.p rfl)) rfl ?_
    refine WL.val (V.neq (OV.p rfl) (OV.p rfl)) rfl ?_
    refine WL.val (V.move (OV.p rfl)) rfl ?_
    refine WL.valG (oj := _) rfl rfl rfl GC.f (V.move (OV.p rfl)) rfl ?_
    refine WL.valG (oj := _) rfl rfl rfl GC.f (V.neq (OV.g rfl id) (OV.p rfl)) rfl ?_
    refine WL.valG (oj := _) rfl rfl rfl GC.f (V.move (OV.g rfl id)) rfl ?_
    refine WL.valG (oj := _) rfl rfl rfl GC.ct (V.move (OV.p rfl)) rfl ?_
    refine WL.valG (oj := _) rfl rfl rfl GC.ct (V.neq (OV.g rfl id) (OV.p rfl)) rfl ?_
    refine WL.valG (oj := _) rfl rfl rfl GC.f (V.pickAnd (OV.g rfl id) (OV.g rfl id)) rfl ?_
    refine WL.val (V.pickOr (OV.p rfl) (OV.g rfl id)) rfl ?_
    refine WL.val (V.move (OV.p rfl)) rfl ?_
    refine WL.valG (oj := _) rfl rfl rfl GC.f (V.move (OV.p rfl)) rfl ?_
    refine WL.val (V.pickOr (OV.p rfl) (OV.g rfl id)) rfl ?_
    refine WL.val (V.move (OV.p rfl)) rfl ?_
    refine WL.valG (oj := _) rfl rfl rfl GC.f (V.move (OV.p rfl)) rfl ?_
    refine WL.valG (oj := _) rfl rfl rfl GC.f (V.neq (OV.g rfl id) (OV.p rfl)) rfl ?_
    refine WL.val (V.pickOr (OV.p rfl) (OV.g rfl id)) rfl ?_
    refine WL.nil ?_
    refine WC.condF' rfl ((by rcases hst with h | h <;> simp [h])) ?_
    refine WC.skip ?_
    refine WC.seq ?_
    refine WC.region ?_
    refine WL.val (V.move (OV.p rfl)) rfl ?_
    refine WL.call (vs := [_, _]) Try.call13 ⟨OV.p rfl, OV.p rfl, trivial⟩ (drive_EraseG hC2.on g2' 0) rfl ?_
    rintro v5 _ ⟨C5, hC5, g5', rfl, s5, hv5⟩
    rw [s3, w5] at s5 hv5
    subst hv5
    refine WL.val (V.assign (OV.p rfl)) rfl ?_
    refine WL.nil ?_
    refine WC.seq ?_
    refine WC.region ?_
    refine WL.val (V.move (OV.p rfl)) rfl ?_
    refine WL.val (V.move (OV.p rfl)) rfl ?_
    refine WL.call (vs := [_, _, _, _]) Try.call12 ⟨OV.p rfl, OV.p rfl, OV.p rfl, OV.p rfl, trivial⟩ (drive_WriteG hC5 g5' 0 0 (by repeat (first | exact hsd | apply Seq.up)) hd8 hmc (by omega)) rfl ?_
    rintro v6 _ ⟨C6, hC6, g6', rfl, s6, hv6⟩
    rw [s5, w6] at s6 hv6
    subst hv6
    refine WL.val (V.assign (OV.p rfl)) rfl ?_
    refine WL.nil ?_
    refine WC.seq ?_
    refine WC.region ?_
    refine WL.val (V.move (OV.p rfl)) rfl ?_
    refine WL.call (vs := [_, _, _]) Try.call14 ⟨OV.p rfl, OV.p rfl, OV.p rfl, trivial⟩ (drive_ReadG hC6 g6' 0 0) rfl ?_
    rintro _ _ ⟨A7, c7, rfl, rfl⟩
    rw [s6, w7]
    refine WL.val (V.move (OV.p rfl)) rfl ?_
    refine WL.val (V.extract (OV.p rfl) rfl) rfl ?_
    refine WL.val (V.extract (OV.p rfl) rfl) rfl ?_
    refine WL.val (V.extract (OV.p rfl) rfl) rfl ?_
    refine WL.val (V.assign (OV.p rfl)) rfl ?_
    refine WL.val (V.assign (OV.p rfl)) rfl ?_
    refine WL.val (V.assign (OV.p rfl)) rfl ?_
    refine WL.nil ?_
    refine WC.seq ?_
    refine WC.region ?_
    refine WL.call (vs := []) Try.call16 trivial (law08_awake _ _) rfl ?_
    rintro _ H0 ⟨rfl, h0⟩
    subst H0
    refine WL.val (V.move (OV.p rfl)) rfl ?_
    refine WL.known (oj := _) rfl rfl rfl rfl ?_
    refine WL.val (V.move (OV.p rfl)) rfl ?_
    refine WL.known (oj := _) rfl rfl rfl rfl ?_
    refine WL.val (V.eql (OV.p rfl) (OV.p rfl)) rfl ?_
    refine WL.val (V.pickAnd (OV.p rfl) (OV.p rfl)) rfl ?_
    refine WL.val (V.move (OV.p rfl)) rfl ?_
    refine WL.known (oj := _) rfl rfl rfl rfl ?_
    refine WL.val (V.move (OV.p rfl)) rfl ?_
    refine WL.known (oj := _) rfl rfl rfl rfl ?_
    refine WL.val (V.eql (OV.p rfl) (OV.p rfl)) rfl ?_
    refine WL.val (V.pickAnd (OV.p rfl) (OV.p rfl)) rfl ?_
    refine WL.val (V.move (OV.p rfl)) rfl ?_
    refine WL.known (oj := _) rfl rfl rfl rfl ?_
    refine WL.val (V.move (OV.p rfl)) rfl ?_
    refine WL.known (oj := _) rfl rfl rfl rfl ?_
    refine WL.val (V.eql (OV.p rfl) (OV.p rfl)) rfl ?_
    refine WL.val (V.pickAnd (OV.p rfl) (OV.p rfl)) rfl ?_
    refine WL.val (V.move (OV.p rfl)) rfl ?_
    refine WL.known (oj := _) rfl rfl rfl rfl ?_
    refine WL.val (V.move (OV.p rfl)) rfl ?_
    refine WL.known (oj := _) rfl rfl rfl rfl ?_
    refine WL.val (V.bytesStr (xs := xs) Try.underlying24 Try.underlying5 Try.underlying9 (OV.p rfl) (fun _ => by rw [← hdx]; exact SlA.seq (by rw [nats_length, Nat.mul_one]))) rfl ?_
    refine WL.known (oj := _) rfl rfl rfl rfl ?_
    refine WL.val (V.move (OV.p rfl)) rfl ?_
    refine WL.known (oj := _) rfl rfl rfl rfl ?_
    refine WL.val (V.bytesStr (xs := xs) Try.underlying24 Try.underlying5 Try.underlying9 (OV.p rfl) (fun _ => by repeat (first | exact hs | apply Seq.up))) rfl ?_
    refine WL.known (oj := _) rfl rfl rfl rfl ?_
    refine WL.val (V.val_eq (v' := .bool true) (V.eqlS (OV.p rfl) (OV.p rfl)) (fun _ => by simp)) rfl ?_
    refine WL.val (V.pickAnd (OV.p rfl) (OV.p rfl)) rfl ?_
    refine WL.val (V.assign (OV.p rfl)) rfl ?_
    refine WL.nil ?_
    refine WC.ret ?_
    exact BodyQ.ret (H' := F) (Res.tmp rfl rfl) (fun w h => h.drop 4) ⟨rfl, rfl⟩
end Go.Proofs.Ytohkefolnmcjnaa
