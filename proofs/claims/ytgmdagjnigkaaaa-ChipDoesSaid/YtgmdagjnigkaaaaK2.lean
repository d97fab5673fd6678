/- The law ChipCuts of casematelaw07/more.go. -/
import Derived.Test.YtgmdagjnigkaaaaK1
namespace Go.Proofs.Ytgmdagjnigkaaaa
open Go.Sl Go.RowKit
set_option linter.unusedVariables false
set_option linter.unusedSimpArgs false
set_option maxRecDepth 20000

namespace Chip
variable {S : Chip} {b p : Int} {xs : List Int}
theorem program_cut (h1 : S.up = true) (h2 : S.page b p = true) (h3 : (xs.length : Int) = S.raw) (h4 : p = S.nextOf b) (h5 : S.left = 1) :
    S.program b p xs = ({ S.deed with pages := upds S.deed.pages (b, p) (some (xs.take (S.kept xs.length).toNat ++ S.blank.drop (S.kept xs.length).toNat)), next := S.deed.setNext b (p + 1) }, 70) := by
  unfold program
  rw [if_neg (by rw [h1]; decide), if_neg (by rw [h2]; rintro (h | h); cases h; exact h h3), if_neg (by rw [← h4]; exact fun h => h rfl), if_pos (by unfold cut; rw [h5]; rfl)]
theorem program_ok (h1 : S.up = true) (h2 : S.page b p = true) (h3 : (xs.length : Int) = S.raw) (h4 : p = S.nextOf b) (h5 : S.left ≠ 1) (h6 : S.weak b = false) :
    S.program b p xs = ({ S.deed with pages := upds S.deed.pages (b, p) (some xs), next := S.deed.setNext b (p + 1) }, 0) := by
  unfold program
  rw [if_neg (by rw [h1]; decide), if_neg (by rw [h2]; rintro (h | h); cases h; exact h h3), if_neg (by rw [← h4]; exact fun h => h rfl), if_neg (by unfold cut; rw [decide_eq_false h5]; decide), if_neg (by rw [h6]; decide)]
theorem program_order (h1 : S.up = true) (h2 : S.page b p = true) (h3 : (xs.length : Int) = S.raw) (h4 : p ≠ S.nextOf b) : S.program b p xs = (S, 71) := by
  unfold program
  rw [if_neg (by rw [h1]; decide), if_neg (by rw [h2]; rintro (h | h); cases h; exact h h3), if_pos h4]
theorem erase_ok (h1 : S.up = true) (h2 : S.block b = true) (h5 : S.left ≠ 1) (h6 : S.weak b = false) :
    S.erase b = ({ S.deed with pages := dropTo S.deed.pages b S.g.pg, wrong := dropTo S.deed.wrong b S.g.pg, next := S.deed.setNext b 0 }, 0) := by
  unfold erase
  rw [if_neg (by rw [h1]; decide), if_neg (by rw [h2]; decide), if_neg (by unfold cut; rw [decide_eq_false h5]; decide), if_neg (by rw [h6]; decide)]
theorem page_of (h : 0 ≤ b ∧ b < S.g.bl ∧ 0 ≤ p ∧ p < S.g.pg) : S.page b p = true := by
  simp only [page, block, Bool.and_eq_true, decide_eq_true_eq]; omega
theorem block_of (h : 0 ≤ b ∧ b < S.g.bl) : S.block b = true := by
  simp only [block, Bool.and_eq_true, decide_eq_true_eq]; omega
theorem nextOf_new {g : Geo} {l : List Int} : (new g l).nextOf b = 0 := by
  show (List.replicate g.bl.toNat (0 : Int)).getD b.toNat 0 = 0
  rw [List.getD, List.getElem?_replicate]
  split <;> rfl
end Chip

theorem law07_ChipCuts (g : Geo) (block : Int) (fill : Int) (hf : 0 ≤ fill ∧ fill < 256) (keep : Int) (K : World) (F : List Assn) : Tells Try.prog 5 #[g.v, .int .i64 block, .int .u8 fill, .int .i64 keep] K F (.bool true) := by
  refine Does.enter Try.func5 rfl Try.ntmps5 rfl ?_
  simp only [env0, Nat.reduceAdd]
  refine WC.seq ?_
  refine WC.region ?_
  refine WL.box (cs := [_, _, _, _, _]) (OV.p rfl) rfl rfl (fun b4 => ?_)
  refine WL.val (V.assign (OV.p rfl)) rfl ?_
  refine WL.nil ?_
  refine WC.seq ?_
  refine WC.seq ?_
  refine WC.region ?_
  refine WL.val (V.loadA (vs := [_, _, _, _, _]) ⟨Try.isAgg23, Try.sizeOf23⟩ (OV.p rfl) rfl (fun _ => by repeat (first | exact Rds.gets ⟨rfl, rfl, rfl, rfl, rfl, trivial⟩ | apply Rds.up))) rfl ?_
  refine WL.call (vs := [_]) Try.call11 ⟨OV.p rfl, trivial⟩ (law07_small g _ _) rfl ?_
  rintro _ H0 ⟨rfl, h0⟩
  subst H0
  refine WL.val (V.not (OV.p rfl)) rfl ?_
  refine WL.val (V.move (OV.p rfl)) rfl ?_
  refine WL.valG (oj := _) rfl rfl rfl GC.f (V.loadA (vs := [_, _, _, _, _]) ⟨Try.isAgg23, Try.sizeOf23⟩ (OV.p rfl) rfl (fun _ => by repeat (first | exact Rds.gets ⟨rfl, rfl, rfl, rfl, rfl, trivial⟩ | apply Rds.up))) rfl ?_
  refine WL.callG (oj := _) (vs := [_]) rfl rfl rfl GC.f Try.call12 ⟨OV.g rfl id, trivial⟩ (fun hg => ref06_May g _ _) rfl ?_
  refine WL.valG (oj := _) rfl rfl rfl GC.f (V.not (OV.g rfl id)) rfl ?_
  refine WL.val (V.pickOr (OV.p rfl) (OV.g rfl id)) rfl ?_
  refine WL.val (V.move (OV.p rfl)) rfl ?_
  refine WL.valG (oj := _) rfl rfl rfl GC.f (V.move (OV.p rfl)) rfl ?_
  refine WL.valG (oj := _) rfl rfl rfl GC.f (V.lss (OV.g rfl id) (OV.p rfl)) rfl ?_
  refine WL.val (V.pickOr (OV.p rfl) (OV.g rfl id)) rfl ?_
  refine WL.val (V.move (OV.p rfl)) rfl ?_
  refine WL.valG (oj := _) rfl rfl rfl GC.f (V.move (OV.p rfl)) rfl ?_
  refine WL.valG (oj := _) rfl rfl rfl GC.f (V.fieldAddr fo23_0 (OV.p rfl)) rfl ?_
  refine WL.valG (oj := _) rfl rfl rfl GC.f (V.load Try.isAgg3 (OV.g rfl id) (fun _ => by repeat (first | exact Rd.here rfl | apply Rd.up))) rfl ?_
  refine WL.valG (oj := _) rfl rfl rfl GC.f (V.geq (OV.g rfl id) (OV.g rfl id)) rfl ?_
  refine WL.val (V.pickOr (OV.p rfl) (OV.g rfl id)) rfl ?_
  refine WL.nil ?_
  refine WC.cond rfl (fun hc0 => ?_) (fun hc0 => ?_)
  · simp only [decide_eq_true_eq, decide_eq_false_iff_not, Bool.and_eq_true, Bool.or_eq_true, Bool.and_eq_false_iff, Bool.or_eq_false_iff, Bool.not_eq_true', Bool.not_eq_false', Bool.not_eq_true, Bool.not_eq_false, Int.not_lt, Int.not_le] at hc0
    refine WC.seq ?_
    refine WC.region ?_
    refine WL.val (V.assign (OV.p rfl)) rfl ?_
    refine WL.nil ?_
    refine WC.ret ?_
    exact BodyQ.ret (H' := F) (Res.tmp rfl rfl) (fun w h => by repeat (first | exact h | replace h := h.tail)) ⟨rfl, rfl⟩
  · simp only [decide_eq_true_eq, decide_eq_false_iff_not, Bool.and_eq_true, Bool.or_eq_true, Bool.and_eq_false_iff, Bool.or_eq_false_iff, Bool.not_eq_true', Bool.not_eq_false', Bool.not_eq_true, Bool.not_eq_false, Int.not_lt, Int.not_le] at hc0
    obtain ⟨⟨⟨hsm, hmay⟩, hn1⟩, hn2⟩ := hc0
    have hg := Geo.mays_of hmay
    have hr := Geo.raw_bd hg
    have hgb := hg
    unfold Geo.mays at hgb
    have hzl : (List.replicate g.raw.toNat fill).length = g.raw.toNat := List.length_replicate
    have hz : IsBytes (List.replicate g.raw.toNat fill) := IsBytes.repl hf
    obtain ⟨R, hR⟩ : ∃ R, R = List.replicate g.raw.toNat fill := ⟨_, rfl⟩
    rw [← hR] at hz hzl
    have hRl : (R.length : Int) = g.raw := by omega
    obtain ⟨S1, hS1⟩ : ∃ S, S = (Chip.new g []).arm 1 keep := ⟨_, rfl⟩
    have p1 := Chip.program_cut (S := S1) (b := block) (p := 0) (xs := R) (by rw [hS1]; rfl) (Chip.page_of (by rw [hS1]; exact ⟨hn1, hn2, Int.le_refl _, by show 0 < g.pg; omega⟩)) (by rw [hS1]; exact hRl) (by rw [hS1]; exact (Chip.nextOf_new (g := g) (b := block) (l := [])).symm) (by rw [hS1]; rfl)
    obtain ⟨S2, hS2⟩ : ∃ S, S = (S1.program block 0 R).1 := ⟨_, rfl⟩
    have hkd : S1.kept R.length = min (max keep 0) g.raw := by rw [hS1, hRl]; rfl
    have p2 : (S1.program block 0 R).2 = 70 := by rw [p1]
    have hu2 : S2.up = false := by rw [hS2, p1, hS1]; rfl
    have hg2 : S2.g = g := by rw [hS2, p1, hS1]; rfl
    have hl2 : S2.left = 0 := by rw [hS2, p1, hS1]; rfl
    have hw2 : ∀ x, S2.weak x = false := fun x => by rw [hS2, p1, hS1]; rfl
    have hx2 : S2.nextOf block = 1 := by
      rw [hS2, p1]
      show (S1.next.set block.toNat (0 + 1)).getD block.toNat 0 = 1
      rw [nextOf_set hn1 hn1 (by rw [hS1]; show block < ((List.replicate g.bl.toNat (0 : Int)).length : Int); rw [List.length_replicate]; omega), if_pos rfl]; rfl
    have hn2l : (S2.next.length : Int) = g.bl := by
      rw [hS2, p1]
      show ((S1.next.set block.toNat (0 + 1)).length : Int) = g.bl
      rw [List.length_set, hS1]; show ((List.replicate g.bl.toNat (0 : Int)).length : Int) = g.bl; rw [List.length_replicate]; omega
    have hread : S2.on.reads block 0 = R.take (S1.kept R.length).toNat ++ S1.blank.drop (S1.kept R.length).toNat := by
      unfold Chip.reads
      have e1 : S2.on.pages (block, 0) = some (R.take (S1.kept R.length).toNat ++ S1.blank.drop (S1.kept R.length).toNat) := by rw [hS2, p1]; show Chip.upds _ _ _ _ = _; unfold Chip.upds; rw [if_pos rfl]
      have e2 : S2.on.wrong (block, 0) = none := by rw [hS2, p1, hS1]; rfl
      rw [e1, e2]; rfl
    have hrd : ∀ k : Nat, (k : Int) < g.raw → (S2.on.reads block 0).getD k 0 = if (k : Int) < keep then fill else 255 := by
      intro k hk
      have hbl : S1.blank = List.replicate g.raw.toNat 255 := by rw [hS1]; rfl
      rw [hread, hbl, hkd, hR]
      simp only [List.getD, List.getElem?_append, List.length_take, List.length_replicate, List.getElem?_take, List.getElem?_drop, List.getElem?_replicate]
      by_cases hkk : (k : Int) < keep
      · rw [if_pos hkk, if_pos (by omega), if_pos (by omega), if_pos (by omega)]; rfl
      · rw [if_neg hkk, if_neg (by omega), if_pos (by omega)]; rfl
    have e3 : S2.on.readErr block 0 = 0 := by unfold Chip.readErr; rw [if_neg (by show ¬ true = false; decide), if_neg (by rw [Chip.page_of (S := S2.on) ⟨hn1, by show block < S2.g.bl; rw [hg2]; exact hn2, Int.le_refl _, by show 0 < S2.g.pg; rw [hg2]; omega⟩]; decide)]
    have p3 : S2.on.program block 0 R = (S2.on, 71) := Chip.program_order rfl (Chip.page_of ⟨hn1, by show block < S2.g.bl; rw [hg2]; exact hn2, Int.le_refl _, by show 0 < S2.g.pg; rw [hg2]; omega⟩) (by show (R.length : Int) = S2.g.raw; rw [hg2]; exact hRl) (by rw [show S2.on.nextOf block = S2.nextOf block from rfl, hx2]; decide)
    have p4 := Chip.erase_ok (S := S2.on) (b := block) rfl (Chip.block_of ⟨hn1, by show block < S2.g.bl; rw [hg2]; exact hn2⟩) (by rw [show S2.on.left = S2.left from rfl, hl2]; decide) (hw2 block)
    obtain ⟨S4, hS4⟩ : ∃ S, S = (S2.on.erase block).1 := ⟨_, rfl⟩
    have hg4 : S4.g = g := by rw [hS4, p4]; exact hg2
    have p5 := Chip.program_ok (S := S4) (b := block) (p := 0) (xs := R) (by rw [hS4, p4]; show (true && !decide (S2.left = 1)) = true; rw [hl2]; rfl) (Chip.page_of ⟨hn1, by rw [hg4]; exact hn2, Int.le_refl _, by rw [hg4]; omega⟩) (by show _ = S4.g.raw; rw [hg4]; exact hRl) (by rw [hS4, p4]; show 0 = (S2.next.set block.toNat 0).getD block.toNat 0; rw [nextOf_set (S := S2) hn1 hn1 (by omega), if_pos rfl]) (by rw [hS4, p4]; show (if S2.left = 0 then 0 else S2.left - 1) ≠ 1; rw [if_pos hl2]; decide) (by rw [hS4, p4]; exact hw2 block)
    refine WC.skip ?_
    refine WC.seq ?_
    refine WC.region ?_
    refine WL.val (V.loadA (vs := [_, _, _, _, _]) ⟨Try.isAgg23, Try.sizeOf23⟩ (OV.p rfl) rfl (fun _ => by repeat (first | exact Rds.gets ⟨rfl, rfl, rfl, rfl, rfl, trivial⟩ | apply Rds.up))) rfl ?_
    refine WL.call (vs := [_, _]) Try.call13 ⟨OV.p rfl, OV.p rfl, trivial⟩ (chip_New g (l := []) Seq.nilI (by omega)) rfl ?_
    rintro _ _ (⟨hm, hin, bc, C0, hC0, s0, rfl, rfl⟩ | ⟨hno, rfl, rfl⟩)
    rotate_left
    · exact (hno ⟨hmay, fun x hx => (by cases hx)⟩).elim
    refine WL.val (V.move (OV.p rfl)) rfl ?_
    refine WL.val (V.extract (OV.p rfl) rfl) rfl ?_
    refine WL.val (V.extract (OV.p rfl) rfl) rfl ?_
    refine WL.val (V.assign (OV.p rfl)) rfl ?_
    refine WL.val (V.assign (OV.p rfl)) rfl ?_
    refine WL.nil ?_
    refine WC.seq ?_
    refine WC.seq ?_
    refine WC.region ?_
    refine WL.val (V.move (OV.p rfl)) rfl ?_
    refine WL.val (V.neq (OV.p rfl) (OV.p rfl)) rfl ?_
    refine WL.val (V.move (OV.p rfl)) rfl ?_
    refine WL.valG (oj := _) rfl rfl rfl GC.f (V.move (OV.p rfl)) rfl ?_
    refine WL.valG (oj := _) rfl rfl rfl GC.f (V.eqlP Try.underlying25 (OV.g rfl id) (OV.p rfl)) rfl ?_
    refine WL.val (V.pickOr (OV.p rfl) (OV.g rfl id)) rfl ?_
    refine WL.nil ?_
    refine WC.condF' rfl (by first | rfl | (simp; done) | (simp; omega)) ?_
    refine WC.skip ?_
    refine WC.seq ?_
    refine WC.region ?_
    refine WL.val (V.loadA (vs := [_, _, _, _, _]) ⟨Try.isAgg23, Try.sizeOf23⟩ (OV.p rfl) rfl (fun _ => by repeat (first | exact Rds.gets ⟨rfl, rfl, rfl, rfl, rfl, trivial⟩ | apply Rds.up))) rfl ?_
    refine WL.call (vs := [_]) Try.call14 ⟨OV.p rfl, trivial⟩ (ref06_Raw g hg _ _) rfl ?_
    rintro _ H0 ⟨rfl, h0⟩
    subst H0
    refine WL.make1 (m := g.raw.toNat) Try.underlying29 el5 (OV.p rfl) (OV.p rfl) (by omega) (by omega) (by omega) rfl rfl rfl (fun b50 => ?_)
    refine WL.val (V.assign (OV.p rfl)) rfl ?_
    refine WL.nil ?_
    refine WC.seq ?_
    refine WC.seq ?_
    refine WC.region ?_
    refine WL.val (V.assign (OV.p rfl)) rfl ?_
    refine WL.nil ?_
    refine WC.block ?_
    refine WC.loop (σ := Nat) (fun i => [(1, .int .i64 block), (2, .int .u8 fill), (3, .int .i64 keep), (9, ptr bc 0), (11, .slice (some ⟨b50, 0, none⟩) g.raw.toNat g.raw.toNat), (12, .int .i64 (i : Int))]) (fun i => Cells b50 5 (ints .u8 (List.replicate i fill ++ List.replicate (g.raw.toNat - i) 0)) :: C0.A bc :: F) (fun i => i ≤ g.raw.toNat) (fun i => g.raw.toNat - i) 0 (Nat.zero_le _) (.cons rfl (.cons rfl (.cons rfl (.cons rfl (.cons rfl (.cons rfl (.nil _))))))) (fun w h => Sat.cells_eq (h.sel 3 [0, 1] rfl) (by simp [ints])) ?_
    rintro i hi
    refine WC.seq ?_
    refine WC.seq ?_
    refine WC.region ?_
    refine WL.val (V.move (OV.p rfl)) rfl ?_
    refine WL.val (V.move (OV.p rfl)) rfl ?_
    refine WL.val (V.len (t := 29) Try.runUnderlying29 (OV.p rfl)) rfl ?_
    refine WL.val (V.lss (OV.p rfl) (OV.p rfl)) rfl ?_
    refine WL.nil ?_
    refine WC.cond rfl (fun hc2 => ?_) (fun hc2 => ?_)
    · try simp only [decide_eq_true_eq, decide_eq_false_iff_not, Bool.and_eq_true, Bool.or_eq_true, Bool.and_eq_false_iff, Bool.or_eq_false_iff, Bool.not_eq_true', Bool.not_eq_false', Bool.not_eq_true, Bool.not_eq_false, Int.not_lt, Int.not_le] at hc2
      refine WC.skip ?_
      refine WC.seq ?_
      refine WC.block ?_
      refine WC.region ?_
      refine WL.val (V.move (OV.p rfl)) rfl ?_
      refine WL.val (V.move (OV.p rfl)) rfl ?_
      refine WL.val (V.move (OV.p rfl)) rfl ?_
      refine WL.val (V.idxB st29 (OV.p rfl) (OV.p rfl) (fun hc => by first | omega | (simp at hc; omega))) rfl ?_
      refine WL.store (cs := [_]) Try.sizeOf5 (OV.p rfl) (OV.p rfl) rfl rfl rfl (Upd.at_ (by simp [ints]; omega)) ?_
      refine WL.nil ?_
      refine WC.region ?_
      refine WL.val (V.move (OV.p rfl)) rfl ?_
      refine WL.val (V.addI (OV.p rfl) (OV.p rfl) (fun hc => by first | omega | (simp at hc; omega))) rfl ?_
      refine WL.val (V.assign (OV.p rfl)) rfl ?_
      refine WL.nil ?_
      refine ⟨rfl, ?_⟩
      refine ⟨i + 1, (by show i + 1 ≤ _; omega), (by show g.raw.toNat - (i + 1) < g.raw.toNat - i; omega), .cons rfl (.cons rfl (.cons rfl (.cons rfl (.cons rfl (.cons (look_eq rfl (by simp)) (.nil _)))))), fun w h => Sat.cells_eq h ?_⟩
      rw [show 0 + (i : Int).toNat * 1 = i by simp, ints_set, replicate_step (by omega)]
    · try simp only [decide_eq_true_eq, decide_eq_false_iff_not, Bool.and_eq_true, Bool.or_eq_true, Bool.and_eq_false_iff, Bool.or_eq_false_iff, Bool.not_eq_true', Bool.not_eq_false', Bool.not_eq_true, Bool.not_eq_false, Int.not_lt, Int.not_le] at hc2
      refine WC.exit ?_
      refine WC.seq ?_
      obtain rfl : i = g.raw.toNat := by omega
      have hRR : List.replicate g.raw.toNat fill ++ List.replicate (g.raw.toNat - g.raw.toNat) 0 = R := by rw [hR]; simp
      rw [hRR]
      refine WC.sub (Sub.refl _) (fun w h => h.p1) ?_
      have hsq : ∀ {H : List Assn}, Seq K (Cells b50 5 (ints .u8 R) :: H) (some ⟨b50, 0, none⟩) g.raw.toNat 1 (ints .u8 R) := Seq.allI hzl
      refine WC.region ?_
      refine WL.val (V.move (OV.p rfl)) rfl ?_
      refine WL.val (V.move (OV.p rfl)) rfl ?_
      refine WL.call (vs := [_, _, _]) Try.call15 ⟨OV.p rfl, OV.p rfl, OV.p rfl, trivial⟩ (chip_Arm (C := C0) 1 keep) rfl ?_
      rintro _ _ rfl
      have s1 : (C0.arm 1 keep).sem = S1 := by rw [show (C0.arm 1 keep).sem = C0.sem.arm 1 keep from rfl, s0, hS1]
      refine WL.nil ?_
      refine WC.seq ?_
      refine WC.region ?_
      refine WL.val (V.move (OV.p rfl)) rfl ?_
      refine WL.val (V.move (OV.p rfl)) rfl ?_
      refine WL.val (V.move (OV.p rfl)) rfl ?_
      refine WL.call (vs := [_, _, _, _]) Try.call16 ⟨OV.p rfl, OV.p rfl, OV.p rfl, OV.p rfl, trivial⟩ (chip_Program (hC0.arm (by decide)) block 0 hz hsq (Nat.le_refl _)) rfl ?_
      rintro v1 _ ⟨C2, hC2, rfl, s2, hv1⟩
      rw [s1, p2] at hv1
      rw [s1, ← hS2] at s2
      subst hv1
      refine WL.val (V.assign (OV.p rfl)) rfl ?_
      refine WL.nil ?_
      refine WC.seq ?_
      refine WC.region ?_
      refine WL.val (V.move (OV.p rfl)) rfl ?_
      refine WL.val (V.move (OV.p rfl)) rfl ?_
      refine WL.call (vs := [_, _, _]) Try.call19 ⟨OV.p rfl, OV.p rfl, OV.p rfl, trivial⟩ (chip_Read hC2 block 0) rfl ?_
      rintro _ _ (⟨hno, bo, rfl, rfl⟩ | ⟨_, rfl, rfl⟩)
      · exfalso
        rw [s2] at hno
        unfold Chip.readErr at hno
        rw [if_pos hu2] at hno
        exact absurd hno (by decide)
      have hre : C2.sem.readErr block 0 = 70 := by rw [s2]; unfold Chip.readErr; rw [if_pos hu2]
      rw [hre]
      refine WL.val (V.move (OV.p rfl)) rfl ?_
      refine WL.val (V.extract (OV.p rfl) rfl) rfl ?_
      refine WL.val (V.extract (OV.p rfl) rfl) rfl ?_
      refine WL.val (V.assign (OV.p rfl)) rfl ?_
      refine WL.val (V.assign (OV.p rfl)) rfl ?_
      refine WL.nil ?_
      refine WC.seq ?_
      refine WC.seq ?_
      refine WC.region ?_
      refine WL.val (V.move (OV.p rfl)) rfl ?_
      refine WL.val (V.neq (OV.p rfl) (OV.p rfl)) rfl ?_
      refine WL.val (V.move (OV.p rfl)) rfl ?_
      refine WL.valG (oj := _) rfl rfl rfl GC.f (V.move (OV.p rfl)) rfl ?_
      refine WL.callG (oj := _) (vs := [_]) rfl rfl rfl GC.f Try.call18 ⟨OV.g rfl id, trivial⟩ (fun hg => Tells.eq (v' := .bool false) (chip_Up (C := C2)) (by rw [show C2.up = C2.sem.up from rfl, s2, hu2])) rfl ?_
      refine WL.val (V.pickOr (OV.p rfl) (OV.g rfl id)) rfl ?_
      refine WL.val (V.move (OV.p rfl)) rfl ?_
      refine WL.valG (oj := _) rfl rfl rfl GC.f (V.move (OV.p rfl)) rfl ?_
      refine WL.valG (oj := _) rfl rfl rfl GC.f (V.neq (OV.g rfl id) (OV.p rfl)) rfl ?_
      refine WL.val (V.pickOr (OV.p rfl) (OV.g rfl id)) rfl ?_
      refine WL.nil ?_
      refine WC.condF' rfl (by first | rfl | (simp; done) | (simp; omega)) ?_
      refine WC.skip ?_
      refine WC.seq ?_
      refine WC.region ?_
      refine WL.val (V.move (OV.p rfl)) rfl ?_
      refine WL.call (vs := [_]) Try.call21 ⟨OV.p rfl, trivial⟩ (chip_On (C := C2)) rfl ?_
      rintro _ _ rfl
      have s3 : C2.on.sem = S2.on := by rw [show C2.on.sem = C2.sem.on from rfl, s2]
      refine WL.nil ?_
      refine WC.seq ?_
      refine WC.region ?_
      refine WL.val (V.move (OV.p rfl)) rfl ?_
      refine WL.val (V.move (OV.p rfl)) rfl ?_
      refine WL.call (vs := [_, _, _]) Try.call19 ⟨OV.p rfl, OV.p rfl, OV.p rfl, trivial⟩ (chip_Read hC2.on block 0) rfl ?_
      rintro _ _ (⟨_, bo, rfl, rfl⟩ | ⟨hno, rfl, rfl⟩)
      rotate_left
      · rw [s3] at hno; exact (hno e3).elim
      have hrlen := hC2.on.reads_len block 0
      have hg3 : C2.on.g.raw.toNat = g.raw.toNat := by rw [show C2.on.g = C2.on.sem.g from rfl, s3, show S2.on.g = S2.g from rfl, hg2]
      rw [s3, hg3] at hrlen
      rw [s3, hg3]
      refine WL.val (V.move (OV.p rfl)) rfl ?_
      refine WL.val (V.extract (OV.p rfl) rfl) rfl ?_
      refine WL.val (V.extract (OV.p rfl) rfl) rfl ?_
      refine WL.val (V.assign (OV.p rfl)) rfl ?_
      refine WL.val (V.assign (OV.p rfl)) rfl ?_
      refine WL.nil ?_
      refine WC.seq ?_
      refine WC.seq ?_
      refine WC.region ?_
      refine WL.val (V.move (OV.p rfl)) rfl ?_
      refine WL.val (V.neq (OV.p rfl) (OV.p rfl)) rfl ?_
      refine WL.val (V.move (OV.p rfl)) rfl ?_
      refine WL.valG (oj := _) rfl rfl rfl GC.f (V.move (OV.p rfl)) rfl ?_
      refine WL.valG (oj := _) rfl rfl rfl GC.f (V.len (t := 29) Try.runUnderlying29 (OV.g rfl id)) rfl ?_
      refine WL.valG (oj := _) rfl rfl rfl GC.f (V.move (OV.p rfl)) rfl ?_
      refine WL.valG (oj := _) rfl rfl rfl GC.f (V.len (t := 29) Try.runUnderlying29 (OV.g rfl id)) rfl ?_
      refine WL.valG (oj := _) rfl rfl rfl GC.f (V.neq (OV.g rfl id) (OV.g rfl id)) rfl ?_
      refine WL.val (V.pickOr (OV.p rfl) (OV.g rfl id)) rfl ?_
      refine WL.nil ?_
      refine WC.condF' rfl (by first | rfl | (simp; done) | (simp; omega)) ?_
      refine WC.skip ?_
      refine WC.seq ?_
      refine WC.seq ?_
      refine WC.region ?_
      refine WL.val (V.assign (OV.p rfl)) rfl ?_
      refine WL.nil ?_
      refine WC.block ?_
      refine WC.loop (σ := Nat) (fun k => [(1, .int .i64 block), (2, .int .u8 fill), (3, .int .i64 keep), (9, ptr bc 0), (11, .slice (some ⟨b50, 0, none⟩) g.raw.toNat g.raw.toNat), (16, .slice (some ⟨bo, 0, none⟩) g.raw.toNat g.raw.toNat), (18, .int .i64 (k : Int))]) (fun k => Cells bo 5 (ints .u8 (S2.on.reads block 0)) :: C2.on.A bc :: Cells b50 5 (ints .u8 R) :: F) (fun k => k ≤ g.raw.toNat) (fun k => g.raw.toNat - k) 0 (Nat.zero_le _) (.cons rfl (.cons rfl (.cons rfl (.cons rfl (.cons rfl (.cons rfl (.cons rfl (.nil _)))))))) (fun w h => h) ?_
      rintro k hk
      refine WC.seq ?_
      refine WC.seq ?_
      refine WC.region ?_
      refine WL.val (V.move (OV.p rfl)) rfl ?_
      refine WL.val (V.move (OV.p rfl)) rfl ?_
      refine WL.val (V.len (t := 29) Try.runUnderlying29 (OV.p rfl)) rfl ?_
      refine WL.val (V.lss (OV.p rfl) (OV.p rfl)) rfl ?_
      refine WL.nil ?_
      refine WC.cond rfl (fun hc5 => ?_) (fun hc5 => ?_)
      · try simp only [decide_eq_true_eq, decide_eq_false_iff_not, Bool.and_eq_true, Bool.or_eq_true, Bool.and_eq_false_iff, Bool.or_eq_false_iff, Bool.not_eq_true', Bool.not_eq_false', Bool.not_eq_true, Bool.not_eq_false, Int.not_lt, Int.not_le] at hc5
        refine WC.skip ?_
        refine WC.seq ?_
        refine WC.block ?_
        refine WC.seq ?_
        have hget : (ints .u8 (S2.on.reads block 0))[0 + (k : Int).toNat * 1]? = some (.int .u8 (if (k : Int) < keep then fill else 255)) := by
          rw [Nat.zero_add, Nat.mul_one, ← hrd k (by omega), show (k : Int).toNat = k by omega]
          exact ints_getD _ _ (by omega)
        refine WC.region ?_
        refine WL.val (V.move (OV.p rfl)) rfl ?_
        refine WL.val (V.move (OV.p rfl)) rfl ?_
        refine WL.val (V.lss (OV.p rfl) (OV.p rfl)) rfl ?_
        refine WL.val (V.move (OV.p rfl)) rfl ?_
        refine WL.valG (oj := _) rfl rfl rfl GC.t (V.move (OV.p rfl)) rfl ?_
        refine WL.valG (oj := _) rfl rfl rfl GC.t (V.move (OV.p rfl)) rfl ?_
        refine WL.valG (oj := _) rfl rfl rfl GC.t (V.idxB st29 (OV.g rfl id) (OV.g rfl id) (fun hc => by first | omega | (simp at hc; omega))) rfl ?_
        refine WL.valG (oj := _) rfl rfl rfl GC.t (V.load Try.isAgg5 (OV.g rfl id) (fun _ => by repeat (first | exact Rd.here hget | apply Rd.up))) rfl ?_
        refine WL.valG (oj := _) rfl rfl rfl GC.t (V.move (OV.p rfl)) rfl ?_
        refine WL.valG (oj := _) rfl rfl rfl GC.t (V.neq (OV.g rfl id) (OV.g rfl id)) rfl ?_
        refine WL.val (V.pickAnd (OV.p rfl) (OV.g rfl id)) rfl ?_
        refine WL.val (V.move (OV.p rfl)) rfl ?_
        refine WL.valG (oj := _) rfl rfl rfl GC.f (V.move (OV.p rfl)) rfl ?_
        refine WL.valG (oj := _) rfl rfl rfl GC.f (V.move (OV.p rfl)) rfl ?_
        refine WL.valG (oj := _) rfl rfl rfl GC.f (V.geq (OV.g rfl id) (OV.g rfl id)) rfl ?_
        refine WL.valG (oj := _) rfl rfl rfl GC.f (V.move (OV.g rfl id)) rfl ?_
        refine WL.valG (oj := _) rfl rfl rfl GC.ct (V.move (OV.p rfl)) rfl ?_
        refine WL.valG (oj := _) rfl rfl rfl GC.ct (V.move (OV.p rfl)) rfl ?_
        refine WL.valG (oj := _) rfl rfl rfl GC.ct (V.idxB st29 (OV.g rfl id) (OV.g rfl id) (fun hc => by first | omega | (simp at hc; omega))) rfl ?_
        refine WL.valG (oj := _) rfl rfl rfl GC.ct (V.load Try.isAgg5 (OV.g rfl id) (fun _ => by repeat (first | exact Rd.here hget | apply Rd.up))) rfl ?_
        refine WL.valG (oj := _) rfl rfl rfl GC.ct (V.neq (OV.g rfl id) (OV.p rfl)) rfl ?_
        refine WL.valG (oj := _) rfl rfl rfl GC.f (V.pickAnd (OV.g rfl id) (OV.g rfl id)) rfl ?_
        refine WL.val (V.pickOr (OV.p rfl) (OV.g rfl id)) rfl ?_
        refine WL.nil ?_
        refine WC.condF' rfl ((by by_cases hkk : (k : Int) < keep <;> simp [hkk] <;> omega)) ?_
        refine WC.skip ?_
        refine WC.region ?_
        refine WL.val (V.move (OV.p rfl)) rfl ?_
        refine WL.val (V.addI (OV.p rfl) (OV.p rfl) (fun hc => by first | omega | (simp at hc; omega))) rfl ?_
        refine WL.val (V.assign (OV.p rfl)) rfl ?_
        refine WL.nil ?_
        refine ⟨rfl, ?_⟩
        exact ⟨k + 1, (by show k + 1 ≤ _; omega), (by show g.raw.toNat - (k + 1) < g.raw.toNat - k; omega), .cons rfl (.cons rfl (.cons rfl (.cons rfl (.cons rfl (.cons rfl (.cons (look_eq rfl (by simp)) (.nil _))))))), fun w h => h⟩
      · try simp only [decide_eq_true_eq, decide_eq_false_iff_not, Bool.and_eq_true, Bool.or_eq_true, Bool.and_eq_false_iff, Bool.or_eq_false_iff, Bool.not_eq_true', Bool.not_eq_false', Bool.not_eq_true, Bool.not_eq_false, Int.not_lt, Int.not_le] at hc5
        refine WC.exit ?_
        refine WC.seq ?_
        refine WC.sub (Sub.refl _) (fun w h => h.p1.sel 3 [0, 2] rfl) ?_
        refine WC.region ?_
        refine WL.call (vs := []) Try.call17 trivial (law07_awake _ _) rfl ?_
        rintro _ H0 ⟨rfl, h0⟩
        subst H0
        refine WL.val (V.move (OV.p rfl)) rfl ?_
        refine WL.known (oj := _) rfl rfl rfl rfl ?_
        refine WL.val (V.move (OV.p rfl)) rfl ?_
        refine WL.known (oj := _) rfl rfl rfl rfl ?_
        refine WL.val (V.move (OV.p rfl)) rfl ?_
        refine WL.known (oj := _) rfl rfl rfl rfl ?_
        refine WL.val (V.move (OV.p rfl)) rfl ?_
        refine WL.known (oj := _) rfl rfl rfl rfl ?_
        refine WL.call (vs := [_, _, _, _]) Try.call16 ⟨OV.p rfl, OV.p rfl, OV.p rfl, OV.p rfl, trivial⟩ (chip_Program hC2.on block 0 hz hsq (Nat.le_refl _)) rfl ?_
        rintro v3 _ ⟨C3, hC3, rfl, s4, hv3⟩
        rw [s3, p3] at hv3 s4
        subst hv3
        refine WL.known (oj := _) rfl rfl rfl rfl ?_
        refine WL.val (V.eql (OV.p rfl) (OV.p rfl)) rfl ?_
        refine WL.val (V.pickAnd (OV.p rfl) (OV.p rfl)) rfl ?_
        refine WL.val (V.move (OV.p rfl)) rfl ?_
        refine WL.known (oj := _) rfl rfl rfl rfl ?_
        refine WL.val (V.move (OV.p rfl)) rfl ?_
        refine WL.known (oj := _) rfl rfl rfl rfl ?_
        refine WL.val (V.move (OV.p rfl)) rfl ?_
        refine WL.known (oj := _) rfl rfl rfl rfl ?_
        refine WL.call (vs := [_, _]) Try.call20 ⟨OV.p rfl, OV.p rfl, trivial⟩ (chip_Erase hC3 block) rfl ?_
        rintro v4 _ ⟨C4, hC4, rfl, s5, hv4⟩
        rw [s4, p4] at hv4
        rw [s4, ← hS4] at s5
        subst hv4
        refine WL.known (oj := _) rfl rfl rfl rfl ?_
        refine WL.val (V.eql (OV.p rfl) (OV.p rfl)) rfl ?_
        refine WL.val (V.pickAnd (OV.p rfl) (OV.p rfl)) rfl ?_
        refine WL.val (V.move (OV.p rfl)) rfl ?_
        refine WL.known (oj := _) rfl rfl rfl rfl ?_
        refine WL.val (V.move (OV.p rfl)) rfl ?_
        refine WL.known (oj := _) rfl rfl rfl rfl ?_
        refine WL.val (V.move (OV.p rfl)) rfl ?_
        refine WL.known (oj := _) rfl rfl rfl rfl ?_
        refine WL.val (V.move (OV.p rfl)) rfl ?_
        refine WL.known (oj := _) rfl rfl rfl rfl ?_
        refine WL.call (vs := [_, _, _, _]) Try.call16 ⟨OV.p rfl, OV.p rfl, OV.p rfl, OV.p rfl, trivial⟩ (chip_Program hC4 block 0 hz hsq (Nat.le_refl _)) rfl ?_
        rintro v5 _ ⟨C5, hC5, rfl, s6, hv5⟩
        rw [s5, p5] at hv5
        subst hv5
        refine WL.known (oj := _) rfl rfl rfl rfl ?_
        refine WL.val (V.eql (OV.p rfl) (OV.p rfl)) rfl ?_
        refine WL.val (V.pickAnd (OV.p rfl) (OV.p rfl)) rfl ?_
        refine WL.val (V.assign (OV.p rfl)) rfl ?_
        refine WL.nil ?_
        refine WC.ret ?_
        exact BodyQ.ret (H' := F) (Res.tmp rfl rfl) (fun w h => by repeat (first | exact h | replace h := h.tail)) ⟨rfl, rfl⟩
end Go.Proofs.Ytgmdagjnigkaaaa
