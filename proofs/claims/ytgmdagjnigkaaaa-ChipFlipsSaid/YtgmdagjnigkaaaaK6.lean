/- The law ChipFlips of casematelaw07/more.go. -/
import Derived.Test.YtgmdagjnigkaaaaK3
import Derived.Test.YtgmdagjnigkaaaaF4
namespace Go.Proofs.Ytgmdagjnigkaaaa
open Go.Sl Go.RowKit
set_option linter.unusedVariables false
set_option linter.unusedSimpArgs false
set_option maxRecDepth 20000

theorem one_of {l : List Int} {x : Int} (hs : l.Pairwise (· < ·)) (hm : ∀ i, i ∈ l ↔ i = x) : l = [x] := by
  match l, hs with
  | [], _ => exact absurd ((hm x).2 rfl) (by simp)
  | [a], _ => rw [(hm a).1 (by simp)]
  | a :: b :: l, h =>
    have e1 := (hm a).1 (by simp)
    have e2 := (hm b).1 (by simp)
    have := (List.pairwise_cons.1 h).1 b (by simp)
    omega
theorem flipL_two {raw x : Int} (h : 0 ≤ x ∧ x < 8 * raw) : flipL raw [x, x] = [x] := one_of (flipL_sorted _ _) fun i => by
  rw [mem_flipL]
  constructor
  · rintro ⟨h1, _⟩; simpa using h1
  · rintro rfl; exact ⟨by simp, h⟩
theorem flip8_255 {k : Int} (hk : 0 ≤ k ∧ k < 8) : flip8 255 k ≠ 255 := by
  have h : ((List.range 8).all fun j => decide (flip8 255 (j : Int) ≠ 255)) = true := by decide
  have := List.all_eq_true.1 h k.toNat (List.mem_range.2 (by omega))
  rw [show ((k.toNat : Nat) : Int) = k by omega] at this
  simpa using this
theorem Chip.reads_new (g : Geo) (l : List Int) (b p : Int) : (Chip.new g l).reads b p = List.replicate g.raw.toNat 255 := rfl

theorem law07_ChipFlips (g : Geo) (block page other bit : Int) (hw : bit ≤ 9223372036854775807) (K : World) (F : List Assn) : Tells Try.prog 8 #[g.v, .int .i64 block, .int .i64 page, .int .i64 other, .int .i64 bit] K F (.bool true) := by
  refine Does.enter Try.func8 rfl Try.ntmps8 rfl ?_
  simp only [env0, Nat.reduceAdd]
  refine WC.seq ?_
  refine WC.region ?_
  refine WL.box (cs := [_, _, _, _, _]) (OV.p rfl) rfl rfl (fun b5 => ?_)
  refine WL.val (V.assign (OV.p rfl)) rfl ?_
  refine WL.nil ?_
  refine WC.seq ?_
  refine WC.seq ?_
  refine WC.region ?_
  refine WL.val (V.loadA (vs := [_, _, _, _, _]) ⟨Try.isAgg23, Try.sizeOf23⟩ (OV.p rfl) rfl (fun _ => by repeat (first | exact Rds.gets ⟨rfl, rfl, rfl, rfl, rfl, trivial⟩ | apply Rds.up))) rfl ?_
  refine WL.call (vs := [_]) Try.call11 ⟨OV.p rfl, trivial⟩ (law07_small g _ _) rfl ?_
  rintro _ H0 ⟨rfl, h0⟩
  subst H0
  refine WL.val (V.not (OV.p rfl)) rfl ?_
  refine WL.val (V.move (OV.p rfl)) rfl ?_
  refine WL.valG (oj := _) rfl rfl rfl GC.f (V.loadA (vs := [_, _, _, _, _]) ⟨Try.isAgg23, Try.sizeOf23⟩ (OV.p rfl) rfl (fun _ => by repeat (first | exact Rds.gets ⟨rfl, rfl, rfl, rfl, rfl, trivial⟩ | apply Rds.up))) rfl ?_
  refine WL.callG (oj := _) (vs := [_]) rfl rfl rfl GC.f Try.call12 ⟨OV.g rfl id, trivial⟩ (fun hg => ref06_May g _ _) rfl ?_
  refine WL.valG (oj := _) rfl rfl rfl GC.f (V.not (OV.g rfl id)) rfl ?_
  refine WL.val (V.pickOr (OV.p rfl) (OV.g rfl id)) rfl ?_
  refine WL.val (V.move (OV.p rfl)) rfl ?_
  refine WL.valG (oj := _) rfl rfl rfl GC.f (V.move (OV.p rfl)) rfl ?_
  refine WL.valG (oj := _) rfl rfl rfl GC.f (V.lss (OV.g rfl id) (OV.p rfl)) rfl ?_
  refine WL.val (V.pickOr (OV.p rfl) (OV.g rfl id)) rfl ?_
  refine WL.val (V.move (OV.p rfl)) rfl ?_
  refine WL.valG (oj := _) rfl rfl rfl GC.f (V.move (OV.p rfl)) rfl ?_
  refine WL.valG (oj := _) rfl rfl rfl GC.f (V.fieldAddr fo23_0 (OV.p rfl)) rfl ?_
  refine WL.valG (oj := _) rfl rfl rfl GC.f (V.load Try.isAgg3 (OV.g rfl id) (fun _ => by repeat (first | exact Rd.here rfl | apply Rd.up))) rfl ?_
  refine WL.valG (oj := _) rfl rfl rfl GC.f (V.geq (OV.g rfl id) (OV.g rfl id)) rfl ?_
  refine WL.val (V.pickOr (OV.p rfl) (OV.g rfl id)) rfl ?_
  refine WL.val (V.move (OV.p rfl)) rfl ?_
  refine WL.valG (oj := _) rfl rfl rfl GC.f (V.move (OV.p rfl)) rfl ?_
  refine WL.valG (oj := _) rfl rfl rfl GC.f (V.lss (OV.g rfl id) (OV.p rfl)) rfl ?_
  refine WL.val (V.pickOr (OV.p rfl) (OV.g rfl id)) rfl ?_
  refine WL.val (V.move (OV.p rfl)) rfl ?_
  refine WL.valG (oj := _) rfl rfl rfl GC.f (V.move (OV.p rfl)) rfl ?_
  refine WL.valG (oj := _) rfl rfl rfl GC.f (V.fieldAddr fo23_1 (OV.p rfl)) rfl ?_
  refine WL.valG (oj := _) rfl rfl rfl GC.f (V.load Try.isAgg3 (OV.g rfl id) (fun _ => by repeat (first | exact Rd.here rfl | apply Rd.up))) rfl ?_
  refine WL.valG (oj := _) rfl rfl rfl GC.f (V.geq (OV.g rfl id) (OV.g rfl id)) rfl ?_
  refine WL.val (V.pickOr (OV.p rfl) (OV.g rfl id)) rfl ?_
  refine WL.val (V.move (OV.p rfl)) rfl ?_
  refine WL.valG (oj := _) rfl rfl rfl GC.f (V.move (OV.p rfl)) rfl ?_
  refine WL.valG (oj := _) rfl rfl rfl GC.f (V.lss (OV.g rfl id) (OV.p rfl)) rfl ?_
  refine WL.val (V.pickOr (OV.p rfl) (OV.g rfl id)) rfl ?_
  refine WL.val (V.move (OV.p rfl)) rfl ?_
  refine WL.valG (oj := _) rfl rfl rfl GC.f (V.move (OV.p rfl)) rfl ?_
  refine WL.valG (oj := _) rfl rfl rfl GC.f (V.fieldAddr fo23_1 (OV.p rfl)) rfl ?_
  refine WL.valG (oj := _) rfl rfl rfl GC.f (V.load Try.isAgg3 (OV.g rfl id) (fun _ => by repeat (first | exact Rd.here rfl | apply Rd.up))) rfl ?_
  refine WL.valG (oj := _) rfl rfl rfl GC.f (V.geq (OV.g rfl id) (OV.g rfl id)) rfl ?_
  refine WL.val (V.pickOr (OV.p rfl) (OV.g rfl id)) rfl ?_
  refine WL.val (V.move (OV.p rfl)) rfl ?_
  refine WL.valG (oj := _) rfl rfl rfl GC.f (V.move (OV.p rfl)) rfl ?_
  refine WL.valG (oj := _) rfl rfl rfl GC.f (V.move (OV.p rfl)) rfl ?_
  refine WL.valG (oj := _) rfl rfl rfl GC.f (V.eql (OV.g rfl id) (OV.g rfl id)) rfl ?_
  refine WL.val (V.pickOr (OV.p rfl) (OV.g rfl id)) rfl ?_
  refine WL.val (V.move (OV.p rfl)) rfl ?_
  refine WL.valG (oj := _) rfl rfl rfl GC.f (V.move (OV.p rfl)) rfl ?_
  refine WL.valG (oj := _) rfl rfl rfl GC.f (V.lss (OV.g rfl id) (OV.p rfl)) rfl ?_
  refine WL.val (V.pickOr (OV.p rfl) (OV.g rfl id)) rfl ?_
  refine WL.val (V.move (OV.p rfl)) rfl ?_
  refine WL.valG (oj := _) rfl rfl rfl GC.f (V.move (OV.p rfl)) rfl ?_
  refine WL.valG (oj := _) rfl rfl rfl GC.f (V.loadA (vs := [_, _, _, _, _]) ⟨Try.isAgg23, Try.sizeOf23⟩ (OV.p rfl) rfl (fun _ => by repeat (first | exact Rds.gets ⟨rfl, rfl, rfl, rfl, rfl, trivial⟩ | apply Rds.up))) rfl ?_
  refine WL.callG (oj := _) (vs := [_]) rfl rfl rfl GC.f Try.call14 ⟨OV.g rfl id, trivial⟩ (fun hg => ref06_Raw g (Geo.mays_of (by revert hg; cases h : g.may <;> simp)) _ _) rfl ?_
  refine WL.valG (oj := _) rfl rfl rfl GC.f (V.mulI (OV.p rfl) (OV.g rfl id) (fun hc => by have := Geo.raw_bd (g := g) (Geo.mays_of (by revert hc; cases h : g.may <;> simp)); omega)) rfl ?_
  refine WL.valG (oj := _) rfl rfl rfl GC.f (V.geq (OV.g rfl id) (OV.g rfl id)) rfl ?_
  refine WL.val (V.pickOr (OV.p rfl) (OV.g rfl id)) rfl ?_
  refine WL.nil ?_
  refine WC.cond rfl (fun hc0 => ?_) (fun hc0 => ?_)
  · simp only [decide_eq_true_eq, decide_eq_false_iff_not, Bool.and_eq_true, Bool.or_eq_true, Bool.and_eq_false_iff, Bool.or_eq_false_iff, Bool.not_eq_true', Bool.not_eq_false', Bool.not_eq_true, Bool.not_eq_false, Int.not_lt, Int.not_le] at hc0
    refine WC.seq ?_
    refine WC.region ?_
    refine WL.val (V.assign (OV.p rfl)) rfl ?_
    refine WL.nil ?_
    refine WC.ret ?_
    exact BodyQ.ret (H' := F) (Res.tmp rfl rfl) (fun w h => by repeat (first | exact h | replace h := h.tail)) ⟨rfl, rfl⟩
  · simp only [decide_eq_true_eq, decide_eq_false_iff_not, Bool.and_eq_true, Bool.or_eq_true, Bool.and_eq_false_iff, Bool.or_eq_false_iff, Bool.not_eq_true', Bool.not_eq_false', Bool.not_eq_true, Bool.not_eq_false, Int.not_lt, Int.not_le] at hc0
    obtain ⟨⟨⟨⟨⟨⟨⟨⟨⟨⟨hsm, hmay⟩, hb1⟩, hb2⟩, hp1⟩, hp2⟩, ho1⟩, ho2⟩, hpo⟩, hi1⟩, hi2⟩ := hc0
    have hg := Geo.mays_of hmay
    have hr := Geo.raw_bd hg
    have hgb := hg
    unfold Geo.mays at hgb
    obtain ⟨S0, hS0⟩ : ∃ S, S = Chip.new g [] := ⟨_, rfl⟩
    obtain ⟨S1, hS1⟩ : ∃ S, S = S0.flip block page [bit, bit] := ⟨_, rfl⟩
    have hpg : ∀ S : Chip, S.g = g → S.page block page = true := fun S h => Chip.page_of ⟨hb1, by rw [h]; exact hb2, hp1, by rw [h]; exact hp2⟩
    have hpo' : ∀ S : Chip, S.g = g → S.page block other = true := fun S h => Chip.page_of ⟨hb1, by rw [h]; exact hb2, ho1, by rw [h]; exact ho2⟩
    have hfl : flipL g.raw [bit, bit] = [bit] := flipL_two ⟨hi1, hi2⟩
    have e1 : S1 = { S0 with wrong := Chip.upds S0.wrong (block, page) (some [bit]) } := by
      rw [hS1]; unfold Chip.flip; rw [if_pos (hpg S0 (by rw [hS0]; rfl)), show S0.raw = g.raw by rw [hS0]; rfl, hfl]
    have hrd : ∀ S : Chip, S.g = g → S.up = true → S.readErr block page = 0 ∧ S.readErr block other = 0 := fun S h1 h2 => by
      constructor <;> (unfold Chip.readErr; rw [if_neg (by rw [h2]; decide)])
      · rw [if_neg (by rw [hpg S h1]; decide)]
      · rw [if_neg (by rw [hpo' S h1]; decide)]
    obtain ⟨W, hW⟩ : ∃ W, W = List.replicate g.raw.toNat (255 : Int) := ⟨_, rfl⟩
    have hWl : W.length = g.raw.toNat := by rw [hW, List.length_replicate]
    have hWb : IsBytes W := by rw [hW]; exact IsBytes.repl (by omega)
    have hWg : ∀ k : Nat, k < g.raw.toNat → W.getD k 0 = 255 := fun k hk => by rw [hW, List.getD, List.getElem?_replicate, if_pos hk]; rfl
    have r0 : S0.reads block page = W := by rw [hS0, Chip.reads_new, hW]
    have hne : (block, other) ≠ (block, page) := fun h => hpo (by injection h with _ h; exact h.symm)
    have r1 : S1.reads block page = turn1 W bit := by rw [e1, hS0, hW]; show turn _ ((Chip.upds _ _ _ _).getD []) = _; unfold Chip.upds; rw [if_pos rfl]; rfl
    have r2 : S1.reads block other = W := by rw [e1, hS0, hW]; show turn _ ((Chip.upds _ _ _ _).getD []) = _; unfold Chip.upds; rw [if_neg hne]; rfl
    have hTl : (turn1 W bit).length = g.raw.toNat := by rw [turn1_length, hWl]
    have hTb : IsBytes (turn1 W bit) := turn1_isb hWb (by rw [hWl]; omega)
    have hT : ∀ k : Nat, k < g.raw.toNat → ((turn1 W bit).getD k 0 = 255 ↔ ¬ (k : Int) = bit / 8) := fun k hk => by
      unfold turn1
      rw [List.getD, List.getElem?_set]
      by_cases h : (bit / 8).toNat = k
      · rw [if_pos h, if_pos (by rw [hWl]; omega), hWg _ (by omega)]
        have := flip8_255 (k := bit % 8) (by omega)
        simp [this]; omega
      · rw [if_neg h, ← List.getD, hWg k hk]; simp; omega
    have p4 := Chip.erase_ok (S := S1) (b := block) (by rw [e1, hS0]; rfl) (Chip.block_of ⟨hb1, by rw [e1, hS0]; exact hb2⟩) (by rw [e1, hS0]; show (0 : Int) ≠ 1; decide) (by rw [e1, hS0]; rfl)
    obtain ⟨S2, hS2⟩ : ∃ S, S = (S1.erase block).1 := ⟨_, rfl⟩
    have r4 : S2.reads block page = W := by
      rw [hS2, p4]
      unfold Chip.reads
      have e5 : Chip.dropTo S1.deed.pages block S1.g.pg (block, page) = none := by unfold Chip.dropTo; rw [if_pos ⟨rfl, hp1, by rw [e1, hS0]; exact hp2⟩]
      have e6 : Chip.dropTo S1.deed.wrong block S1.g.pg (block, page) = none := by unfold Chip.dropTo; rw [if_pos ⟨rfl, hp1, by rw [e1, hS0]; exact hp2⟩]
      show turn ((Chip.dropTo S1.deed.pages block S1.g.pg (block, page)).getD _) ((Chip.dropTo S1.deed.wrong block S1.g.pg (block, page)).getD []) = W
      rw [e5, e6, hW, e1, hS0]; rfl
    have hg1 : S1.g = g := by rw [e1, hS0]; rfl
    have hu1 : S1.up = true := by rw [e1, hS0]; rfl
    have hg2 : S2.g = g := by rw [hS2, p4]; exact hg1
    have hu2 : S2.up = true := by rw [hS2, p4, e1, hS0]; rfl
    refine WC.skip ?_
    refine WC.seq ?_
    refine WC.region ?_
    refine WL.val (V.loadA (vs := [_, _, _, _, _]) ⟨Try.isAgg23, Try.sizeOf23⟩ (OV.p rfl) rfl (fun _ => by repeat (first | exact Rds.gets ⟨rfl, rfl, rfl, rfl, rfl, trivial⟩ | apply Rds.up))) rfl ?_
    refine WL.call (vs := [_, _]) Try.call13 ⟨OV.p rfl, OV.p rfl, trivial⟩ (chip_New g (l := []) Seq.nilI (by omega)) rfl ?_
    rintro _ _ (⟨hm, hin, bc, C0, hC0, s0, rfl, rfl⟩ | ⟨hno, rfl, rfl⟩)
    rotate_left
    · exact (hno ⟨hmay, fun x hx => (by cases hx)⟩).elim
    rw [← hS0] at s0
    have q0 : C0.g.raw.toNat = g.raw.toNat := by rw [show C0.g = C0.sem.g from rfl, s0, hS0]; rfl
    refine WL.val (V.move (OV.p rfl)) rfl ?_
    refine WL.val (V.extract (OV.p rfl) rfl) rfl ?_
    refine WL.val (V.extract (OV.p rfl) rfl) rfl ?_
    refine WL.val (V.assign (OV.p rfl)) rfl ?_
    refine WL.val (V.assign (OV.p rfl)) rfl ?_
    refine WL.nil ?_
    refine WC.seq ?_
    refine WC.seq ?_
    refine WC.region ?_
    refine WL.val (V.move (OV.p rfl)) rfl ?_
    refine WL.val (V.neq (OV.p rfl) (OV.p rfl)) rfl ?_
    refine WL.val (V.move (OV.p rfl)) rfl ?_
    refine WL.valG (oj := _) rfl rfl rfl GC.f (V.move (OV.p rfl)) rfl ?_
    refine WL.valG (oj := _) rfl rfl rfl GC.f (V.eqlP Try.underlying25 (OV.g rfl id) (OV.p rfl)) rfl ?_
    refine WL.val (V.pickOr (OV.p rfl) (OV.g rfl id)) rfl ?_
    refine WL.nil ?_
    refine WC.condF' rfl (by first | rfl | (simp; done) | (simp; omega)) ?_
    refine WC.skip ?_
    refine WC.seq ?_
    refine WC.region ?_
    refine WL.val (V.move (OV.p rfl)) rfl ?_
    refine WL.val (V.move (OV.p rfl)) rfl ?_
    refine WL.val (V.move (OV.p rfl)) rfl ?_
    refine WL.call (vs := [_, _, _]) Try.call19 ⟨OV.p rfl, OV.p rfl, OV.p rfl, trivial⟩ (chip_Read hC0 block page) rfl ?_
    rintro _ _ (⟨_, b0, rfl, rfl⟩ | ⟨hno, rfl, rfl⟩)
    rotate_left
    · rw [s0] at hno; exact (hno (hrd S0 (by rw [hS0]; rfl) (by rw [hS0]; rfl)).1).elim
    rw [s0, q0, r0]
    refine WL.val (V.move (OV.p rfl)) rfl ?_
    refine WL.val (V.extract (OV.p rfl) rfl) rfl ?_
    refine WL.val (V.extract (OV.p rfl) rfl) rfl ?_
    refine WL.val (V.assign (OV.p rfl)) rfl ?_
    refine WL.val (V.assign (OV.p rfl)) rfl ?_
    refine WL.nil ?_
    refine WC.seq ?_
    refine WC.region ?_
    refine WL.val (V.move (OV.p rfl)) rfl ?_
    refine WL.val (V.move (OV.p rfl)) rfl ?_
    refine WL.val (V.move (OV.p rfl)) rfl ?_
    refine WL.val (V.move (OV.p rfl)) rfl ?_
    refine WL.val (V.move (OV.p rfl)) rfl ?_
    refine WL.buildSlice (E := 3) (cs := [_, _]) (vs := [(0, _), (1, _)]) ⟨OV.p rfl, OV.p rfl, trivial⟩ rfl (bsl40_2_0_1 _ _) rfl (fun b102 => ?_)
    refine WL.sub (Sub.refl _) (fun w h => h.p2) ?_
    refine WL.call (vs := [_, _, _, _]) Try.call33 ⟨OV.p rfl, OV.p rfl, OV.p rfl, OV.p rfl, trivial⟩ (chip_Flip hC0 (xs := [bit, bit]) block page (Seq.allI (k := .i64) (xs := [bit, bit]) rfl) (by omega)) rfl ?_
    rintro v1 _ ⟨C1, hC1, rfl, s1⟩
    rw [s0, ← hS1] at s1
    have q1 : C1.g.raw.toNat = g.raw.toNat := by rw [show C1.g = C1.sem.g from rfl, s1, hg1]
    refine WL.nil ?_
    refine WC.seq ?_
    refine WC.region ?_
    refine WL.val (V.move (OV.p rfl)) rfl ?_
    refine WL.val (V.move (OV.p rfl)) rfl ?_
    refine WL.val (V.move (OV.p rfl)) rfl ?_
    refine WL.call (vs := [_, _, _]) Try.call19 ⟨OV.p rfl, OV.p rfl, OV.p rfl, trivial⟩ (chip_Read hC1 block page) rfl ?_
    rintro _ _ (⟨_, b1, rfl, rfl⟩ | ⟨hno, rfl, rfl⟩)
    rotate_left
    · rw [s1] at hno; exact (hno (hrd S1 hg1 hu1).1).elim
    rw [s1, q1, r1]
    refine WL.val (V.move (OV.p rfl)) rfl ?_
    refine WL.val (V.extract (OV.p rfl) rfl) rfl ?_
    refine WL.val (V.extract (OV.p rfl) rfl) rfl ?_
    refine WL.val (V.assign (OV.p rfl)) rfl ?_
    refine WL.val (V.assign (OV.p rfl)) rfl ?_
    refine WL.nil ?_
    refine WC.seq ?_
    refine WC.region ?_
    refine WL.val (V.move (OV.p rfl)) rfl ?_
    refine WL.val (V.move (OV.p rfl)) rfl ?_
    refine WL.val (V.move (OV.p rfl)) rfl ?_
    refine WL.sub (Sub.refl _) (fun w h => h.p1) ?_
    refine WL.call (vs := [_, _, _]) Try.call19 ⟨OV.p rfl, OV.p rfl, OV.p rfl, trivial⟩ (chip_Read hC1 block page) rfl ?_
    rintro _ _ (⟨_, b2, rfl, rfl⟩ | ⟨hno, rfl, rfl⟩)
    rotate_left
    · rw [s1] at hno; exact (hno (hrd S1 hg1 hu1).1).elim
    rw [s1, q1, r1]
    refine WL.val (V.move (OV.p rfl)) rfl ?_
    refine WL.val (V.extract (OV.p rfl) rfl) rfl ?_
    refine WL.val (V.extract (OV.p rfl) rfl) rfl ?_
    refine WL.val (V.assign (OV.p rfl)) rfl ?_
    refine WL.val (V.assign (OV.p rfl)) rfl ?_
    refine WL.nil ?_
    refine WC.seq ?_
    refine WC.region ?_
    refine WL.val (V.move (OV.p rfl)) rfl ?_
    refine WL.val (V.move (OV.p rfl)) rfl ?_
    refine WL.val (V.move (OV.p rfl)) rfl ?_
    refine WL.sub (Sub.refl _) (fun w h => h.p1) ?_
    refine WL.call (vs := [_, _, _]) Try.call19 ⟨OV.p rfl, OV.p rfl, OV.p rfl, trivial⟩ (chip_Read hC1 block other) rfl ?_
    rintro _ _ (⟨_, b3, rfl, rfl⟩ | ⟨hno, rfl, rfl⟩)
    rotate_left
    · rw [s1] at hno; exact (hno (hrd S1 hg1 hu1).2).elim
    rw [s1, q1, r2]
    refine WL.val (V.move (OV.p rfl)) rfl ?_
    refine WL.val (V.extract (OV.p rfl) rfl) rfl ?_
    refine WL.val (V.extract (OV.p rfl) rfl) rfl ?_
    refine WL.val (V.assign (OV.p rfl)) rfl ?_
    refine WL.val (V.assign (OV.p rfl)) rfl ?_
    refine WL.nil ?_
    refine WC.seq ?_
    refine WC.seq ?_
    refine WC.region ?_
    refine WL.val (V.move (OV.p rfl)) rfl ?_
    refine WL.val (V.neq (OV.p rfl) (OV.p rfl)) rfl ?_
    refine WL.val (V.move (OV.p rfl)) rfl ?_
    refine WL.valG (oj := _) rfl rfl rfl GC.f (V.move (OV.p rfl)) rfl ?_
    refine WL.valG (oj := _) rfl rfl rfl GC.f (V.move (OV.p rfl)) rfl ?_
    refine WL.valG (oj := _) rfl rfl rfl GC.f (V.neq (OV.g rfl id) (OV.g rfl id)) rfl ?_
    refine WL.val (V.pickOr (OV.p rfl) (OV.g rfl id)) rfl ?_
    refine WL.val (V.move (OV.p rfl)) rfl ?_
    refine WL.valG (oj := _) rfl rfl rfl GC.f (V.move (OV.p rfl)) rfl ?_
    refine WL.valG (oj := _) rfl rfl rfl GC.f (V.move (OV.p rfl)) rfl ?_
    refine WL.valG (oj := _) rfl rfl rfl GC.f (V.neq (OV.g rfl id) (OV.g rfl id)) rfl ?_
    refine WL.val (V.pickOr (OV.p rfl) (OV.g rfl id)) rfl ?_
    refine WL.val (V.move (OV.p rfl)) rfl ?_
    refine WL.valG (oj := _) rfl rfl rfl GC.f (V.move (OV.p rfl)) rfl ?_
    refine WL.valG (oj := _) rfl rfl rfl GC.f (V.move (OV.p rfl)) rfl ?_
    refine WL.valG (oj := _) rfl rfl rfl GC.f (V.neq (OV.g rfl id) (OV.g rfl id)) rfl ?_
    refine WL.val (V.pickOr (OV.p rfl) (OV.g rfl id)) rfl ?_
    refine WL.val (V.move (OV.p rfl)) rfl ?_
    refine WL.valG (oj := _) rfl rfl rfl GC.f (V.move (OV.p rfl)) rfl ?_
    refine WL.valG (oj := _) rfl rfl rfl GC.f (V.bytesStr (xs := turn1 W bit) Try.underlying29 Try.underlying5 Try.underlying9 (OV.g rfl id) (fun hc => by repeat (first | exact Seq.allI hTl | apply Seq.up))) rfl ?_
    refine WL.valG (oj := _) rfl rfl rfl GC.f (V.move (OV.p rfl)) rfl ?_
    refine WL.valG (oj := _) rfl rfl rfl GC.f (V.bytesStr (xs := turn1 W bit) Try.underlying29 Try.underlying5 Try.underlying9 (OV.g rfl id) (fun hc => by repeat (first | exact Seq.allI hTl | apply Seq.up))) rfl ?_
    refine WL.valG (oj := _) rfl rfl rfl GC.f (V.neqS (OV.g rfl id) (OV.g rfl id)) rfl ?_
    refine WL.val (V.pickOr (OV.p rfl) (OV.g rfl id)) rfl ?_
    refine WL.val (V.move (OV.p rfl)) rfl ?_
    refine WL.valG (oj := _) rfl rfl rfl GC.f (V.move (OV.p rfl)) rfl ?_
    refine WL.valG (oj := _) rfl rfl rfl GC.f (V.bytesStr (xs := W) Try.underlying29 Try.underlying5 Try.underlying9 (OV.g rfl id) (fun hc => by repeat (first | exact Seq.allI hWl | apply Seq.up))) rfl ?_
    refine WL.valG (oj := _) rfl rfl rfl GC.f (V.move (OV.p rfl)) rfl ?_
    refine WL.valG (oj := _) rfl rfl rfl GC.f (V.bytesStr (xs := W) Try.underlying29 Try.underlying5 Try.underlying9 (OV.g rfl id) (fun hc => by repeat (first | exact Seq.allI hWl | apply Seq.up))) rfl ?_
    refine WL.valG (oj := _) rfl rfl rfl GC.f (V.neqS (OV.g rfl id) (OV.g rfl id)) rfl ?_
    refine WL.val (V.pickOr (OV.p rfl) (OV.g rfl id)) rfl ?_
    refine WL.val (V.move (OV.p rfl)) rfl ?_
    refine WL.valG (oj := _) rfl rfl rfl GC.f (V.move (OV.p rfl)) rfl ?_
    refine WL.valG (oj := _) rfl rfl rfl GC.f (V.len (t := 29) Try.runUnderlying29 (OV.g rfl id)) rfl ?_
    refine WL.valG (oj := _) rfl rfl rfl GC.f (V.move (OV.p rfl)) rfl ?_
    refine WL.valG (oj := _) rfl rfl rfl GC.f (V.len (t := 29) Try.runUnderlying29 (OV.g rfl id)) rfl ?_
    refine WL.valG (oj := _) rfl rfl rfl GC.f (V.neq (OV.g rfl id) (OV.g rfl id)) rfl ?_
    refine WL.val (V.pickOr (OV.p rfl) (OV.g rfl id)) rfl ?_
    refine WL.nil ?_
    refine WC.condF' rfl ((by simp)) ?_
    refine WC.skip ?_
    refine WC.seq ?_
    refine WC.seq ?_
    refine WC.region ?_
    refine WL.val (V.assign (OV.p rfl)) rfl ?_
    refine WL.nil ?_
    refine WC.block ?_
    refine WC.loop (σ := Nat) (fun k => [(1, .int .i64 block), (2, .int .i64 page), (4, .int .i64 bit), (11, ptr bc 0), (13, .slice (some ⟨b0, 0, none⟩) g.raw.toNat g.raw.toNat), (15, .slice (some ⟨b1, 0, none⟩) g.raw.toNat g.raw.toNat), (21, .int .i64 (k : Int))]) (fun k => C1.A bc :: Cells b1 5 (ints .u8 (turn1 W bit)) :: Cells b0 5 (ints .u8 W) :: F) (fun k => k ≤ g.raw.toNat) (fun k => g.raw.toNat - k) 0 (Nat.zero_le _) (.cons rfl (.cons rfl (.cons rfl (.cons rfl (.cons rfl (.cons rfl (.cons rfl (.nil _)))))))) (fun w h => h.sel 7 [1, 3, 5] rfl) ?_
    rintro k hk
    refine WC.seq ?_
    refine WC.seq ?_
    refine WC.region ?_
    refine WL.val (V.move (OV.p rfl)) rfl ?_
    refine WL.val (V.move (OV.p rfl)) rfl ?_
    refine WL.val (V.len (t := 29) Try.runUnderlying29 (OV.p rfl)) rfl ?_
    refine WL.val (V.lss (OV.p rfl) (OV.p rfl)) rfl ?_
    refine WL.nil ?_
    refine WC.cond rfl (fun hc3 => ?_) (fun hc3 => ?_)
    · simp only [decide_eq_true_eq, decide_eq_false_iff_not] at hc3
      refine WC.skip ?_
      refine WC.seq ?_
      refine WC.block ?_
      refine WC.seq ?_
      have hk2 : k < g.raw.toNat := by omega
      have hg3 : (ints .u8 (turn1 W bit))[0 + (k : Int).toNat * 1]? = some (.int .u8 ((turn1 W bit).getD k 0)) := by rw [show 0 + (k : Int).toNat * 1 = k by omega]; exact ints_getD _ _ (by omega)
      have hg4 : (ints .u8 W)[0 + (k : Int).toNat * 1]? = some (.int .u8 255) := by rw [show 0 + (k : Int).toNat * 1 = k by omega, ← hWg k hk2]; exact ints_getD _ _ (by omega)
      refine WC.regionQ (by kernel_rfl) (by kernel_rfl) ?_
      refine WQ.val (V.move (OV.p rfl)) rfl ?_
      refine WQ.val (V.move (OV.p rfl)) rfl ?_
      refine WQ.val (V.idxB st29 (OV.p rfl) (OV.p rfl) (fun hc => by omega)) rfl ?_
      refine WQ.val (V.load Try.isAgg5 (OV.p rfl) (fun _ => by repeat (first | exact Rd.here hg3 | apply Rd.up))) rfl ?_
      refine WQ.val (V.move (OV.p rfl)) rfl ?_
      refine WQ.val (V.move (OV.p rfl)) rfl ?_
      refine WQ.val (V.idxB st29 (OV.p rfl) (OV.p rfl) (fun hc => by omega)) rfl ?_
      refine WQ.val (V.load Try.isAgg5 (OV.p rfl) (fun _ => by repeat (first | exact Rd.here hg4 | apply Rd.up))) rfl ?_
      refine WQ.val (V.neq (OV.p rfl) (OV.p rfl)) rfl ?_
      refine WQ.val (V.move (OV.p rfl)) rfl ?_
      refine WQ.val (V.move (OV.p rfl)) rfl ?_
      refine WQ.val (V.quoI (OV.p rfl) (OV.p rfl) (fun hc => by first | omega | (simp at hc; omega))) rfl ?_
      refine WQ.val (V.eql (OV.p rfl) (OV.p rfl)) rfl ?_
      refine WQ.val (V.neqB Try.underlying4 (OV.p rfl) (OV.p rfl)) rfl ?_
      refine WQ.nil ?_
      refine WC.condF' rfl ((by have h9 := hT k hk2; by_cases h8 : (k : Int) = bit / 8 <;> simp [h8] at h9 ⊢ <;> exact h9)) ?_
      refine WC.skip ?_
      refine WC.region ?_
      refine WL.val (V.move (OV.p rfl)) rfl ?_
      refine WL.val (V.addI (OV.p rfl) (OV.p rfl) (fun hc => by first | omega | (simp at hc; omega))) rfl ?_
      refine WL.val (V.assign (OV.p rfl)) rfl ?_
      refine WL.nil ?_
      exact ⟨k + 1, (by show k + 1 ≤ _; omega), (by show g.raw.toNat - (k + 1) < g.raw.toNat - k; omega), .cons rfl (.cons rfl (.cons rfl (.cons rfl (.cons rfl (.cons rfl (.cons (look_eq rfl (by simp)) (.nil _))))))), fun w h => h⟩
    · simp only [decide_eq_true_eq, decide_eq_false_iff_not] at hc3
      refine WC.exit ?_
      refine WC.seq ?_
      refine WC.region ?_
      refine WL.val (V.move (OV.p rfl)) rfl ?_
      refine WL.val (V.move (OV.p rfl)) rfl ?_
      refine WL.call (vs := [_, _]) Try.call20 ⟨OV.p rfl, OV.p rfl, trivial⟩ (chip_Erase hC1 block) rfl ?_
      rintro v4 _ ⟨C2, hC2, rfl, s5, hv4⟩
      rw [s1, p4] at hv4
      rw [s1, ← hS2] at s5
      subst hv4
      have q2 : C2.g.raw.toNat = g.raw.toNat := by rw [show C2.g = C2.sem.g from rfl, s5, hg2]
      refine WL.val (V.assign (OV.p rfl)) rfl ?_
      refine WL.nil ?_
      refine WC.seq ?_
      refine WC.region ?_
      refine WL.val (V.move (OV.p rfl)) rfl ?_
      refine WL.val (V.move (OV.p rfl)) rfl ?_
      refine WL.val (V.move (OV.p rfl)) rfl ?_
      refine WL.call (vs := [_, _, _]) Try.call19 ⟨OV.p rfl, OV.p rfl, OV.p rfl, trivial⟩ (chip_Read hC2 block page) rfl ?_
      rintro _ _ (⟨_, b4, rfl, rfl⟩ | ⟨hno, rfl, rfl⟩)
      rotate_left
      · rw [s5] at hno; exact (hno (hrd S2 hg2 hu2).1).elim
      rw [s5, q2, r4]
      refine WL.val (V.move (OV.p rfl)) rfl ?_
      refine WL.val (V.extract (OV.p rfl) rfl) rfl ?_
      refine WL.val (V.extract (OV.p rfl) rfl) rfl ?_
      refine WL.val (V.assign (OV.p rfl)) rfl ?_
      refine WL.val (V.assign (OV.p rfl)) rfl ?_
      refine WL.nil ?_
      refine WC.seq ?_
      refine WC.region ?_
      refine WL.call (vs := []) Try.call17 trivial (law07_awake _ _) rfl ?_
      rintro _ H0 ⟨rfl, h0⟩
      subst H0
      refine WL.val (V.move (OV.p rfl)) rfl ?_
      refine WL.known (oj := _) rfl rfl rfl rfl ?_
      refine WL.val (V.move (OV.p rfl)) rfl ?_
      refine WL.known (oj := _) rfl rfl rfl rfl ?_
      refine WL.val (V.eql (OV.p rfl) (OV.p rfl)) rfl ?_
      refine WL.val (V.pickAnd (OV.p rfl) (OV.p rfl)) rfl ?_
      refine WL.val (V.move (OV.p rfl)) rfl ?_
      refine WL.known (oj := _) rfl rfl rfl rfl ?_
      refine WL.val (V.move (OV.p rfl)) rfl ?_
      refine WL.known (oj := _) rfl rfl rfl rfl ?_
      refine WL.val (V.eql (OV.p rfl) (OV.p rfl)) rfl ?_
      refine WL.val (V.pickAnd (OV.p rfl) (OV.p rfl)) rfl ?_
      refine WL.val (V.move (OV.p rfl)) rfl ?_
      refine WL.known (oj := _) rfl rfl rfl rfl ?_
      refine WL.val (V.move (OV.p rfl)) rfl ?_
      refine WL.known (oj := _) rfl rfl rfl rfl ?_
      refine WL.val (V.bytesStr (xs := W) Try.underlying29 Try.underlying5 Try.underlying9 (OV.p rfl) (fun hc => by repeat (first | exact Seq.allI hWl | apply Seq.up))) rfl ?_
      refine WL.known (oj := _) rfl rfl rfl rfl ?_
      refine WL.val (V.move (OV.p rfl)) rfl ?_
      refine WL.known (oj := _) rfl rfl rfl rfl ?_
      refine WL.val (V.bytesStr (xs := W) Try.underlying29 Try.underlying5 Try.underlying9 (OV.p rfl) (fun hc => by repeat (first | exact Seq.allI hWl | apply Seq.up))) rfl ?_
      refine WL.known (oj := _) rfl rfl rfl rfl ?_
      refine WL.val (V.eqlS (OV.p rfl) (OV.p rfl)) rfl ?_
      refine WL.val (V.pickAnd (OV.p rfl) (OV.p rfl)) rfl ?_
      refine WL.val (V.assign (OV.p rfl)) rfl ?_
      refine WL.nil ?_
      refine WC.ret ?_
      exact BodyQ.ret (H' := F) (Res.tmp rfl rfl) (fun w h => by repeat (first | exact h | replace h := h.tail)) ⟨by simp, rfl⟩
end Go.Proofs.Ytgmdagjnigkaaaa
