/- The law ChipOnce of casematelaw07/law.go. -/
import Derived.Test.YtgmdagjnigkaaaaK2
namespace Go.Proofs.Ytgmdagjnigkaaaa
open Go.Sl Go.RowKit
set_option linter.unusedVariables false
set_option linter.unusedSimpArgs false
set_option maxRecDepth 20000

/-- A chip without weak blocks, wrong bits or deeds to be cut, the block's next page p. -/
structure OInv (g : Geo) (block : Int) (S : Chip) (p : Int) : Prop where
  geo : S.g = g
  up : S.up = true
  left : S.left = 0
  weak : ∀ x, S.weak x = false
  len : (S.next.length : Int) = g.bl
  next : S.nextOf block = p
  wrong : ∀ k, S.wrong k = none
variable {g : Geo} {block : Int} {S : Chip} {p : Int} {R : List Int}
theorem OInv.new (hg : g.mays) : OInv g block (Chip.new g []) 0 := by
  unfold Geo.mays at hg
  refine ⟨rfl, rfl, rfl, fun _ => rfl, ?_, Chip.nextOf_new, fun _ => rfl⟩
  show ((List.replicate g.bl.toNat (0 : Int)).length : Int) = g.bl
  rw [List.length_replicate]; omega
theorem OInv.page (h : OInv g block S p) (hb : 0 ≤ block ∧ block < g.bl) {q : Int} (hq : 0 ≤ q ∧ q < g.pg) : S.page block q = true := Chip.page_of (by rw [h.geo]; exact ⟨hb.1, hb.2, hq.1, hq.2⟩)
theorem OInv.prog (h : OInv g block S p) (hb : 0 ≤ block ∧ block < g.bl) (hp : 0 ≤ p ∧ p < g.pg) (hR : (R.length : Int) = g.raw) :
    (S.program block p R).2 = 0 ∧ OInv g block (S.program block p R).1 (p + 1) ∧ (S.program block p R).1.pages (block, p) = some R := by
  have e := Chip.program_ok (S := S) (b := block) (p := p) (xs := R) h.up (h.page hb hp) (by show _ = S.g.raw; rw [h.geo]; exact hR) h.next.symm (by rw [h.left]; decide) (h.weak block)
  rw [e]
  refine ⟨rfl, ⟨h.geo, ?_, ?_, h.weak, ?_, ?_, h.wrong⟩, ?_⟩
  · show (S.up && !decide (S.left = 1)) = true
    rw [h.up, h.left]; rfl
  · show (if S.left = 0 then 0 else S.left - 1) = 0
    rw [if_pos h.left]
  · show ((S.next.set block.toNat (p + 1)).length : Int) = g.bl
    rw [List.length_set]; exact h.len
  · show (S.next.set block.toNat (p + 1)).getD block.toNat 0 = p + 1
    rw [nextOf_set hb.1 hb.1 (by rw [h.len]; exact hb.2), if_pos rfl]
  · show Chip.upds _ _ _ _ = _
    unfold Chip.upds; rw [if_pos rfl]
theorem OInv.again (h : OInv g block S (p + 1)) (hb : 0 ≤ block ∧ block < g.bl) (hp : 0 ≤ p ∧ p < g.pg) (hR : (R.length : Int) = g.raw) : S.program block p R = (S, 71) :=
  Chip.program_order h.up (h.page hb hp) (by show _ = S.g.raw; rw [h.geo]; exact hR) (by rw [h.next]; omega)
theorem OInv.read (h : OInv g block S p) (hb : 0 ≤ block ∧ block < g.bl) {q : Int} (hq : 0 ≤ q ∧ q < g.pg) : S.readErr block q = 0 ∧ S.reads block q = (S.pages (block, q)).getD S.blank := by
  refine ⟨?_, ?_⟩
  · unfold Chip.readErr; rw [if_neg (by rw [h.up]; decide), if_neg (by rw [h.page hb hq]; decide)]
  · unfold Chip.reads; rw [h.wrong]; rfl
theorem OInv.erase (h : OInv g block S p) (hb : 0 ≤ block ∧ block < g.bl) : (S.erase block).2 = 0 ∧ OInv g block (S.erase block).1 0 ∧ ∀ q, 0 ≤ q → q < g.pg → (S.erase block).1.pages (block, q) = none := by
  have e := Chip.erase_ok (S := S) (b := block) h.up (Chip.block_of (by rw [h.geo]; exact hb)) (by rw [h.left]; decide) (h.weak block)
  rw [e]
  refine ⟨rfl, ⟨h.geo, ?_, ?_, h.weak, ?_, ?_, fun k => ?_⟩, fun q h1 h2 => ?_⟩
  · show (S.up && !decide (S.left = 1)) = true
    rw [h.up, h.left]; rfl
  · show (if S.left = 0 then 0 else S.left - 1) = 0
    rw [if_pos h.left]
  · show ((S.next.set block.toNat 0).length : Int) = g.bl
    rw [List.length_set]; exact h.len
  · show (S.next.set block.toNat 0).getD block.toNat 0 = 0
    rw [nextOf_set hb.1 hb.1 (by rw [h.len]; exact hb.2), if_pos rfl]
  · show Chip.dropTo _ _ _ _ = _
    unfold Chip.dropTo
    split
    · rfl
    · exact h.wrong k
  · show Chip.dropTo _ _ _ _ = _
    unfold Chip.dropTo
    rw [if_pos ⟨rfl, h1, by show q < S.g.pg; rw [h.geo]; exact h2⟩]

theorem law07_ChipOnce (g : Geo) (block : Int) (fill : Int) (hf : 0 ≤ fill ∧ fill < 256) (K : World) (F : List Assn) : Tells Try.prog 4 #[g.v, .int .i64 block, .int .u8 fill] K F (.bool true) := by
  refine Does.enter Try.func4 rfl Try.ntmps4 rfl ?_
  simp only [env0, Nat.reduceAdd]
  refine WC.seq ?_
  refine WC.region ?_
  refine WL.box (cs := [_, _, _, _, _]) (OV.p rfl) rfl rfl (fun b3 => ?_)
  refine WL.val (V.assign (OV.p rfl)) rfl ?_
  refine WL.nil ?_
  refine WC.seq ?_
  refine WC.seq ?_
  refine WC.region ?_
  refine WL.val (V.loadA (vs := [_, _, _, _, _]) ⟨Try.isAgg23, Try.sizeOf23⟩ (OV.p rfl) rfl (fun _ => by repeat (first | exact Rds.gets ⟨rfl, rfl, rfl, rfl, rfl, trivial⟩ | apply Rds.up))) rfl ?_
  refine WL.call (vs := [_]) Try.call11 ⟨OV.p rfl, trivial⟩ (law07_small g _ _) rfl ?_
  rintro _ H0 ⟨rfl, h0⟩
  subst H0
  refine WL.val (V.not (OV.p rfl)) rfl ?_
  refine WL.val (V.move (OV.p rfl)) rfl ?_
  refine WL.valG (oj := _) rfl rfl rfl GC.f (V.loadA (vs := [_, _, _, _, _]) ⟨Try.isAgg23, Try.sizeOf23⟩ (OV.p rfl) rfl (fun _ => by repeat (first | exact Rds.gets ⟨rfl, rfl, rfl, rfl, rfl, trivial⟩ | apply Rds.up))) rfl ?_
  refine WL.callG (oj := _) (vs := [_]) rfl rfl rfl GC.f Try.call12 ⟨OV.g rfl id, trivial⟩ (fun hg => ref06_May g _ _) rfl ?_
  refine WL.valG (oj := _) rfl rfl rfl GC.f (V.not (OV.g rfl id)) rfl ?_
  refine WL.val (V.pickOr (OV.p rfl) (OV.g rfl id)) rfl ?_
  refine WL.val (V.move (OV.p rfl)) rfl ?_
  refine WL.valG (oj := _) rfl rfl rfl GC.f (V.move (OV.p rfl)) rfl ?_
  refine WL.valG (oj := _) rfl rfl rfl GC.f (V.lss (OV.g rfl id) (OV.p rfl)) rfl ?_
  refine WL.val (V.pickOr (OV.p rfl) (OV.g rfl id)) rfl ?_
  refine WL.val (V.move (OV.p rfl)) rfl ?_
  refine WL.valG (oj := _) rfl rfl rfl GC.f (V.move (OV.p rfl)) rfl ?_
  refine WL.valG (oj := _) rfl rfl rfl GC.f (V.fieldAddr fo23_0 (OV.p rfl)) rfl ?_
  refine WL.valG (oj := _) rfl rfl rfl GC.f (V.load Try.isAgg3 (OV.g rfl id) (fun _ => by repeat (first | exact Rd.here rfl | apply Rd.up))) rfl ?_
  refine WL.valG (oj := _) rfl rfl rfl GC.f (V.geq (OV.g rfl id) (OV.g rfl id)) rfl ?_
  refine WL.val (V.pickOr (OV.p rfl) (OV.g rfl id)) rfl ?_
  refine WL.nil ?_
  refine WC.cond rfl (fun hc0 => ?_) (fun hc0 => ?_)
  · simp only [decide_eq_true_eq, decide_eq_false_iff_not, Bool.and_eq_true, Bool.or_eq_true, Bool.and_eq_false_iff, Bool.or_eq_false_iff, Bool.not_eq_true', Bool.not_eq_false', Bool.not_eq_true, Bool.not_eq_false, Int.not_lt, Int.not_le] at hc0
    refine WC.seq ?_
    refine WC.region ?_
    refine WL.val (V.assign (OV.p rfl)) rfl ?_
    refine WL.nil ?_
    refine WC.ret ?_
    exact BodyQ.ret (H' := F) (Res.tmp rfl rfl) (fun w h => by repeat (first | exact h | replace h := h.tail)) ⟨rfl, rfl⟩
  · simp only [decide_eq_true_eq, decide_eq_false_iff_not, Bool.and_eq_true, Bool.or_eq_true, Bool.and_eq_false_iff, Bool.or_eq_false_iff, Bool.not_eq_true', Bool.not_eq_false', Bool.not_eq_true, Bool.not_eq_false, Int.not_lt, Int.not_le] at hc0
    obtain ⟨⟨⟨hsm, hmay⟩, hn1⟩, hn2⟩ := hc0
    have hg := Geo.mays_of hmay
    have hr := Geo.raw_bd hg
    have hgb := hg
    unfold Geo.mays at hgb
    have hzl : (List.replicate g.raw.toNat fill).length = g.raw.toNat := List.length_replicate
    have hz : IsBytes (List.replicate g.raw.toNat fill) := IsBytes.repl hf
    obtain ⟨R, hR⟩ : ∃ R, R = List.replicate g.raw.toNat fill := ⟨_, rfl⟩
    rw [← hR] at hz hzl
    have hRl : (R.length : Int) = g.raw := by omega
    have hbb : IsBytes (List.replicate g.raw.toNat 255) := IsBytes.repl (by omega)
    have hbl : (List.replicate g.raw.toNat (255 : Int)).length = g.raw.toNat := List.length_replicate
    obtain ⟨BL, hBL⟩ : ∃ R, R = List.replicate g.raw.toNat (255 : Int) := ⟨_, rfl⟩
    rw [← hBL] at hbb hbl
    refine WC.skip ?_
    refine WC.seq ?_
    refine WC.region ?_
    refine WL.val (V.loadA (vs := [_, _, _, _, _]) ⟨Try.isAgg23, Try.sizeOf23⟩ (OV.p rfl) rfl (fun _ => by repeat (first | exact Rds.gets ⟨rfl, rfl, rfl, rfl, rfl, trivial⟩ | apply Rds.up))) rfl ?_
    refine WL.call (vs := [_, _]) Try.call13 ⟨OV.p rfl, OV.p rfl, trivial⟩ (chip_New g (l := []) Seq.nilI (by omega)) rfl ?_
    rintro _ _ (⟨hm, hin, bc, C0, hC0, s0, rfl, rfl⟩ | ⟨hno, rfl, rfl⟩)
    rotate_left
    · exact (hno ⟨hmay, fun x hx => (by cases hx)⟩).elim
    refine WL.val (V.move (OV.p rfl)) rfl ?_
    refine WL.val (V.extract (OV.p rfl) rfl) rfl ?_
    refine WL.val (V.extract (OV.p rfl) rfl) rfl ?_
    refine WL.val (V.assign (OV.p rfl)) rfl ?_
    refine WL.val (V.assign (OV.p rfl)) rfl ?_
    refine WL.nil ?_
    refine WC.seq ?_
    refine WC.seq ?_
    refine WC.region ?_
    refine WL.val (V.move (OV.p rfl)) rfl ?_
    refine WL.val (V.neq (OV.p rfl) (OV.p rfl)) rfl ?_
    refine WL.val (V.move (OV.p rfl)) rfl ?_
    refine WL.valG (oj := _) rfl rfl rfl GC.f (V.move (OV.p rfl)) rfl ?_
    refine WL.valG (oj := _) rfl rfl rfl GC.f (V.eqlP Try.underlying25 (OV.g rfl id) (OV.p rfl)) rfl ?_
    refine WL.val (V.pickOr (OV.p rfl) (OV.g rfl id)) rfl ?_
    refine WL.nil ?_
    refine WC.condF' rfl (by first | rfl | (simp; done) | (simp; omega)) ?_
    refine WC.skip ?_
    refine WC.seq ?_
    refine WC.region ?_
    refine WL.val (V.loadA (vs := [_, _, _, _, _]) ⟨Try.isAgg23, Try.sizeOf23⟩ (OV.p rfl) rfl (fun _ => by repeat (first | exact Rds.gets ⟨rfl, rfl, rfl, rfl, rfl, trivial⟩ | apply Rds.up))) rfl ?_
    refine WL.call (vs := [_]) Try.call14 ⟨OV.p rfl, trivial⟩ (ref06_Raw g hg _ _) rfl ?_
    rintro _ H0 ⟨rfl, h0⟩
    subst H0
    refine WL.make1 (m := g.raw.toNat) Try.underlying29 el5 (OV.p rfl) (OV.p rfl) (by omega) (by omega) (by omega) rfl rfl rfl (fun b49 => ?_)
    refine WL.val (V.assign (OV.p rfl)) rfl ?_
    refine WL.nil ?_
    refine WC.seq ?_
    refine WC.region ?_
    refine WL.val (V.move (OV.p rfl)) rfl ?_
    refine WL.val (V.len (t := 29) Try.runUnderlying29 (OV.p rfl)) rfl ?_
    refine WL.make1 (m := g.raw.toNat) Try.underlying29 el5 (OV.p rfl) (OV.p rfl) rfl rfl (by omega) rfl rfl rfl (fun b52 => ?_)
    refine WL.val (V.assign (OV.p rfl)) rfl ?_
    refine WL.nil ?_
    refine WC.seq ?_
    refine WC.seq ?_
    refine WC.region ?_
    refine WL.val (V.assign (OV.p rfl)) rfl ?_
    refine WL.nil ?_
    refine WC.block ?_
    refine WC.loop (σ := Nat) (fun i => [(1, .int .i64 block), (2, .int .u8 fill), (3, ptr b3 0), (7, ptr bc 0), (9, .slice (some ⟨b49, 0, none⟩) g.raw.toNat g.raw.toNat), (10, .slice (some ⟨b52, 0, none⟩) g.raw.toNat g.raw.toNat), (11, .int .i64 (i : Int))]) (fun i => Cells b52 5 (ints .u8 (List.replicate i 255 ++ List.replicate (g.raw.toNat - i) 0)) :: Cells b49 5 (ints .u8 (List.replicate i fill ++ List.replicate (g.raw.toNat - i) 0)) :: C0.A bc :: Cells b3 23 [.int .i64 g.bl, .int .i64 g.pg, .int .i64 g.se, .int .i64 g.sb, .int .i64 g.fl] :: F) (fun i => i ≤ g.raw.toNat) (fun i => g.raw.toNat - i) 0 (Nat.zero_le _) (.cons rfl (.cons rfl (.cons rfl (.cons rfl (.cons rfl (.cons rfl (.cons rfl (.nil _)))))))) (fun w h => by have h := (Sat.cells_eq (cs' := ints .u8 (List.replicate 0 255 ++ List.replicate (g.raw.toNat - 0) 0)) h (by simp [ints])).p1; exact (Sat.cells_eq (cs' := ints .u8 (List.replicate 0 fill ++ List.replicate (g.raw.toNat - 0) 0)) h (by simp [ints])).p1) ?_
    rintro i hi
    refine WC.seq ?_
    refine WC.seq ?_
    refine WC.region ?_
    refine WL.val (V.move (OV.p rfl)) rfl ?_
    refine WL.val (V.move (OV.p rfl)) rfl ?_
    refine WL.val (V.len (t := 29) Try.runUnderlying29 (OV.p rfl)) rfl ?_
    refine WL.val (V.lss (OV.p rfl) (OV.p rfl)) rfl ?_
    refine WL.nil ?_
    refine WC.cond rfl (fun hc2 => ?_) (fun hc2 => ?_)
    · try simp only [decide_eq_true_eq, decide_eq_false_iff_not, Bool.and_eq_true, Bool.or_eq_true, Bool.and_eq_false_iff, Bool.or_eq_false_iff, Bool.not_eq_true', Bool.not_eq_false', Bool.not_eq_true, Bool.not_eq_false, Int.not_lt, Int.not_le] at hc2
      refine WC.skip ?_
      refine WC.seq ?_
      refine WC.block ?_
      refine WC.seq ?_
      refine WC.region ?_
      refine WL.val (V.move (OV.p rfl)) rfl ?_
      refine WL.val (V.move (OV.p rfl)) rfl ?_
      refine WL.val (V.move (OV.p rfl)) rfl ?_
      refine WL.val (V.idxB st29 (OV.p rfl) (OV.p rfl) (fun hc => by omega)) rfl ?_
      refine WL.store (cs := [_]) Try.sizeOf5 (OV.p rfl) (OV.p rfl) rfl rfl rfl (Upd.up (Upd.at_ (by simp [ints]; omega))) ?_
      refine WL.nil ?_
      refine WC.region ?_
      refine WL.val (V.move (OV.p rfl)) rfl ?_
      refine WL.val (V.move (OV.p rfl)) rfl ?_
      refine WL.val (V.idxB st29 (OV.p rfl) (OV.p rfl) (fun hc => by first | omega | (simp at hc; omega))) rfl ?_
      refine WL.store (cs := [_]) Try.sizeOf5 (OV.p rfl) (OV.p rfl) rfl rfl rfl (Upd.at_ (by simp [ints]; omega)) ?_
      refine WL.nil ?_
      refine WC.region ?_
      refine WL.val (V.move (OV.p rfl)) rfl ?_
      refine WL.val (V.addI (OV.p rfl) (OV.p rfl) (fun hc => by first | omega | (simp at hc; omega))) rfl ?_
      refine WL.val (V.assign (OV.p rfl)) rfl ?_
      refine WL.nil ?_
      refine ⟨rfl, ?_⟩
      refine ⟨i + 1, (by show i + 1 ≤ _; omega), (by show g.raw.toNat - (i + 1) < g.raw.toNat - i; omega), .cons rfl (.cons rfl (.cons rfl (.cons rfl (.cons rfl (.cons rfl (.cons (look_eq rfl (by simp)) (.nil _))))))), fun w h => ?_⟩
      rw [show 0 + (i : Int).toNat * 1 = i by simp, ints_set, ints_set, replicate_step (by omega), replicate_step (by omega)] at h
      exact h
    · try simp only [decide_eq_true_eq, decide_eq_false_iff_not, Bool.and_eq_true, Bool.or_eq_true, Bool.and_eq_false_iff, Bool.or_eq_false_iff, Bool.not_eq_true', Bool.not_eq_false', Bool.not_eq_true, Bool.not_eq_false, Int.not_lt, Int.not_le] at hc2
      refine WC.exit ?_
      refine WC.seq ?_
      refine WC.seq ?_
      obtain rfl : i = g.raw.toNat := by omega
      have hRR : List.replicate g.raw.toNat fill ++ List.replicate (g.raw.toNat - g.raw.toNat) 0 = R := by rw [hR]; simp
      have hBB : List.replicate g.raw.toNat (255 : Int) ++ List.replicate (g.raw.toNat - g.raw.toNat) 0 = BL := by rw [hBL]; simp
      rw [hRR, hBB]
      have hsq : ∀ {H : List Assn}, Seq K (Cells b49 5 (ints .u8 R) :: H) (some ⟨b49, 0, none⟩) g.raw.toNat 1 (ints .u8 R) := Seq.allI hzl
      have hsb : ∀ {H : List Assn}, Seq K (Cells b52 5 (ints .u8 BL) :: H) (some ⟨b52, 0, none⟩) g.raw.toNat 1 (ints .u8 BL) := Seq.allI hbl
      refine WC.region ?_
      refine WL.val (V.assign (OV.p rfl)) rfl ?_
      refine WL.nil ?_
      refine WC.block ?_
      refine WC.loop (σ := Nat × Cw) (fun x => [(1, .int .i64 block), (3, ptr b3 0), (7, ptr bc 0), (9, .slice (some ⟨b49, 0, none⟩) g.raw.toNat g.raw.toNat), (10, .slice (some ⟨b52, 0, none⟩) g.raw.toNat g.raw.toNat), (12, .int .i64 (x.1 : Int))]) (fun x => x.2.A bc :: Cells b49 5 (ints .u8 R) :: Cells b52 5 (ints .u8 BL) :: Cells b3 23 [.int .i64 g.bl, .int .i64 g.pg, .int .i64 g.se, .int .i64 g.sb, .int .i64 g.fl] :: F) (fun x => (x.1 : Int) ≤ g.pg ∧ x.2.Ok ∧ OInv g block x.2.sem x.1) (fun x => g.pg.toNat - x.1) (0, C0) ⟨by show ((0 : Nat) : Int) ≤ g.pg; omega, hC0, by show OInv g block C0.sem ((0 : Nat) : Int); rw [s0]; exact OInv.new hg⟩ (.cons rfl (.cons rfl (.cons rfl (.cons rfl (.cons rfl (.cons rfl (.nil _))))))) (fun w h => h.sel 3 [2, 1, 0] rfl) ?_
      rintro ⟨p, D⟩ ⟨hp, hD, hI⟩
      dsimp only at hp hD hI ⊢
      refine WC.seq ?_
      refine WC.seq ?_
      refine WC.region ?_
      refine WL.val (V.move (OV.p rfl)) rfl ?_
      refine WL.val (V.fieldAddr fo23_1 (OV.p rfl)) rfl ?_
      refine WL.val (V.load Try.isAgg3 (OV.p rfl) (fun _ => by repeat (first | exact Rd.here rfl | apply Rd.up))) rfl ?_
      refine WL.val (V.lss (OV.p rfl) (OV.p rfl)) rfl ?_
      refine WL.nil ?_
      refine WC.cond rfl (fun hc3 => ?_) (fun hc3 => ?_)
      · try simp only [decide_eq_true_eq, decide_eq_false_iff_not, Bool.and_eq_true, Bool.or_eq_true, Bool.and_eq_false_iff, Bool.or_eq_false_iff, Bool.not_eq_true', Bool.not_eq_false', Bool.not_eq_true, Bool.not_eq_false, Int.not_lt, Int.not_le] at hc3
        refine WC.skip ?_
        refine WC.seq ?_
        refine WC.block ?_
        refine WC.seq ?_
        refine WC.seq ?_
        have hst := hI.prog (R := R) ⟨hn1, hn2⟩ ⟨by omega, by omega⟩ hRl
        refine WC.region ?_
        refine WL.val (V.move (OV.p rfl)) rfl ?_
        refine WL.val (V.move (OV.p rfl)) rfl ?_
        refine WL.val (V.move (OV.p rfl)) rfl ?_
        refine WL.val (V.move (OV.p rfl)) rfl ?_
        refine WL.call (vs := [_, _, _, _]) Try.call16 ⟨OV.p rfl, OV.p rfl, OV.p rfl, OV.p rfl, trivial⟩ (chip_Program hD block p hz hsq (Nat.le_refl _)) rfl ?_
        rintro v1 _ ⟨D1, hD1, rfl, s1, hv1⟩
        rw [hst.1] at hv1
        subst hv1
        have hI1 : OInv g block D1.sem (p + 1) := by rw [s1]; exact hst.2.1
        have hag := hI1.again (R := R) ⟨hn1, hn2⟩ ⟨by omega, by omega⟩ hRl
        refine WL.val (V.neq (OV.p rfl) (OV.p rfl)) rfl ?_
        refine WL.val (V.move (OV.p rfl)) rfl ?_
        refine WL.known (oj := _) rfl rfl rfl rfl ?_
        refine WL.val (V.move (OV.p rfl)) rfl ?_
        refine WL.known (oj := _) rfl rfl rfl rfl ?_
        refine WL.val (V.move (OV.p rfl)) rfl ?_
        refine WL.known (oj := _) rfl rfl rfl rfl ?_
        refine WL.val (V.move (OV.p rfl)) rfl ?_
        refine WL.known (oj := _) rfl rfl rfl rfl ?_
        refine WL.val (V.move (OV.p rfl)) rfl ?_
        refine WL.known (oj := _) rfl rfl rfl rfl ?_
        refine WL.call (vs := [_, _, _, _]) Try.call16 ⟨OV.p rfl, OV.p rfl, OV.p rfl, OV.p rfl, trivial⟩ (chip_Program hD1 block p hz hsq (Nat.le_refl _)) rfl ?_
        rintro v2 _ ⟨D2, hD2, rfl, s2, hv2⟩
        rw [hag] at hv2 s2
        replace s2 : D2.sem = D1.sem := s2
        subst hv2
        have hrd := hI1.read ⟨hn1, hn2⟩ (q := p) ⟨by omega, by omega⟩
        rw [← s2] at hrd
        have hpg : D2.sem.pages (block, (p : Int)) = some R := by rw [s2, s1]; exact hst.2.2
        rw [hpg] at hrd
        refine WL.known (oj := _) rfl rfl rfl rfl ?_
        refine WL.val (V.neq (OV.p rfl) (OV.p rfl)) rfl ?_
        refine WL.val (V.pickOr (OV.p rfl) (OV.p rfl)) rfl ?_
        refine WL.nil ?_
        refine WC.condF' rfl (by first | rfl | (simp; done) | (simp; omega)) ?_
        refine WC.skip ?_
        refine WC.seq ?_
        refine WC.region ?_
        refine WL.val (V.move (OV.p rfl)) rfl ?_
        refine WL.val (V.move (OV.p rfl)) rfl ?_
        refine WL.val (V.move (OV.p rfl)) rfl ?_
        refine WL.call (vs := [_, _, _]) Try.call19 ⟨OV.p rfl, OV.p rfl, OV.p rfl, trivial⟩ (chip_Read hD2 block p) rfl ?_
        rintro _ _ (⟨_, bo, rfl, rfl⟩ | ⟨hno, rfl, rfl⟩)
        rotate_left
        · exact (hno hrd.1).elim
        have hg3 : D2.g.raw.toNat = g.raw.toNat := by rw [show D2.g = D2.sem.g from rfl, s2, hI1.geo]
        rw [hrd.2, hg3, show (some R).getD D2.sem.blank = R from rfl]
        refine WL.val (V.move (OV.p rfl)) rfl ?_
        refine WL.val (V.extract (OV.p rfl) rfl) rfl ?_
        refine WL.val (V.extract (OV.p rfl) rfl) rfl ?_
        refine WL.val (V.assign (OV.p rfl)) rfl ?_
        refine WL.val (V.assign (OV.p rfl)) rfl ?_
        refine WL.nil ?_
        refine WC.seq ?_
        refine WC.region ?_
        refine WL.val (V.move (OV.p rfl)) rfl ?_
        refine WL.val (V.neq (OV.p rfl) (OV.p rfl)) rfl ?_
        refine WL.val (V.move (OV.p rfl)) rfl ?_
        refine WL.valG (oj := _) rfl rfl rfl GC.f (V.move (OV.p rfl)) rfl ?_
        refine WL.valG (oj := _) rfl rfl rfl GC.f (V.bytesStr (xs := R) Try.underlying29 Try.underlying5 Try.underlying9 (OV.g rfl id) (fun hc => by repeat (first | exact Seq.allI hzl | apply Seq.up))) rfl ?_
        refine WL.valG (oj := _) rfl rfl rfl GC.f (V.move (OV.p rfl)) rfl ?_
        refine WL.valG (oj := _) rfl rfl rfl GC.f (V.bytesStr (xs := R) Try.underlying29 Try.underlying5 Try.underlying9 (OV.g rfl id) (fun hc => by repeat (first | exact hsq | apply Seq.up))) rfl ?_
        refine WL.valG (oj := _) rfl rfl rfl GC.f (V.neqS (OV.g rfl id) (OV.g rfl id)) rfl ?_
        refine WL.val (V.pickOr (OV.p rfl) (OV.g rfl id)) rfl ?_
        refine WL.nil ?_
        refine WC.condF' rfl (by first | rfl | (simp; done) | (simp; omega)) ?_
        refine WC.skip ?_
        refine WC.region ?_
        refine WL.val (V.move (OV.p rfl)) rfl ?_
        refine WL.val (V.addI (OV.p rfl) (OV.p rfl) (fun hc => by first | omega | (simp at hc; omega))) rfl ?_
        refine WL.val (V.assign (OV.p rfl)) rfl ?_
        refine WL.nil ?_
        refine ⟨rfl, ?_⟩
        exact ⟨(p + 1, D2), ⟨by show ((p + 1 : Nat) : Int) ≤ g.pg; omega, hD2, by show OInv g block D2.sem ((p + 1 : Nat) : Int); rw [s2]; exact hI1⟩, (by show g.pg.toNat - (p + 1) < g.pg.toNat - p; omega), .cons rfl (.cons rfl (.cons rfl (.cons rfl (.cons rfl (.cons (look_eq rfl (by simp)) (.nil _)))))), fun w h => h.tail⟩
      · try simp only [decide_eq_true_eq, decide_eq_false_iff_not, Bool.and_eq_true, Bool.or_eq_true, Bool.and_eq_false_iff, Bool.or_eq_false_iff, Bool.not_eq_true', Bool.not_eq_false', Bool.not_eq_true, Bool.not_eq_false, Int.not_lt, Int.not_le] at hc3
        refine WC.exit ?_
        refine WC.seq ?_
        refine WC.seq ?_
        have hst := hI.erase ⟨hn1, hn2⟩
        refine WC.region ?_
        refine WL.val (V.move (OV.p rfl)) rfl ?_
        refine WL.val (V.move (OV.p rfl)) rfl ?_
        refine WL.call (vs := [_, _]) Try.call20 ⟨OV.p rfl, OV.p rfl, trivial⟩ (chip_Erase hD block) rfl ?_
        rintro v4 _ ⟨C4, hC4, rfl, s4, hv4⟩
        rw [hst.1] at hv4
        subst hv4
        have hI4 : OInv g block C4.sem 0 := by rw [s4]; exact hst.2.1
        have hp4 : ∀ q, 0 ≤ q → q < g.pg → C4.sem.pages (block, q) = none := by rw [s4]; exact hst.2.2
        refine WL.val (V.neq (OV.p rfl) (OV.p rfl)) rfl ?_
        refine WL.nil ?_
        refine WC.condF' rfl (by first | rfl | (simp; done) | (simp; omega)) ?_
        refine WC.skip ?_
        refine WC.seq ?_
        refine WC.seq ?_
        refine WC.region ?_
        refine WL.val (V.assign (OV.p rfl)) rfl ?_
        refine WL.nil ?_
        refine WC.block ?_
        refine WC.loop (σ := Nat) (fun p => [(1, .int .i64 block), (3, ptr b3 0), (7, ptr bc 0), (9, .slice (some ⟨b49, 0, none⟩) g.raw.toNat g.raw.toNat), (10, .slice (some ⟨b52, 0, none⟩) g.raw.toNat g.raw.toNat), (15, .int .i64 (p : Int))]) (fun p => C4.A bc :: Cells b49 5 (ints .u8 R) :: Cells b52 5 (ints .u8 BL) :: Cells b3 23 [.int .i64 g.bl, .int .i64 g.pg, .int .i64 g.se, .int .i64 g.sb, .int .i64 g.fl] :: F) (fun p => (p : Int) ≤ g.pg) (fun p => g.pg.toNat - p) 0 (by show ((0 : Nat) : Int) ≤ g.pg; omega) (.cons rfl (.cons rfl (.cons rfl (.cons rfl (.cons rfl (.cons rfl (.nil _))))))) (fun w h => h) ?_
        rintro q hq
        refine WC.seq ?_
        refine WC.seq ?_
        refine WC.region ?_
        refine WL.val (V.move (OV.p rfl)) rfl ?_
        refine WL.val (V.fieldAddr fo23_1 (OV.p rfl)) rfl ?_
        refine WL.val (V.load Try.isAgg3 (OV.p rfl) (fun _ => by repeat (first | exact Rd.here rfl | apply Rd.up))) rfl ?_
        refine WL.val (V.lss (OV.p rfl) (OV.p rfl)) rfl ?_
        refine WL.nil ?_
        refine WC.cond rfl (fun hc7 => ?_) (fun hc7 => ?_)
        · try simp only [decide_eq_true_eq, decide_eq_false_iff_not, Bool.and_eq_true, Bool.or_eq_true, Bool.and_eq_false_iff, Bool.or_eq_false_iff, Bool.not_eq_true', Bool.not_eq_false', Bool.not_eq_true, Bool.not_eq_false, Int.not_lt, Int.not_le] at hc7
          refine WC.skip ?_
          refine WC.seq ?_
          refine WC.block ?_
          refine WC.seq ?_
          have hrd := hI4.read ⟨hn1, hn2⟩ (q := q) ⟨by omega, by omega⟩
          rw [hp4 q (by omega) (by omega)] at hrd
          have hbk : C4.sem.blank = BL := by rw [hBL, show C4.sem.blank = List.replicate C4.sem.g.raw.toNat 255 from rfl, hI4.geo]
          have hg4 : C4.g.raw.toNat = g.raw.toNat := by rw [show C4.g = C4.sem.g from rfl, hI4.geo]
          refine WC.region ?_
          refine WL.val (V.move (OV.p rfl)) rfl ?_
          refine WL.val (V.move (OV.p rfl)) rfl ?_
          refine WL.val (V.move (OV.p rfl)) rfl ?_
          refine WL.call (vs := [_, _, _]) Try.call19 ⟨OV.p rfl, OV.p rfl, OV.p rfl, trivial⟩ (chip_Read hC4 block q) rfl ?_
          rintro _ _ (⟨_, bo, rfl, rfl⟩ | ⟨hno, rfl, rfl⟩)
          rotate_left
          · exact (hno hrd.1).elim
          rw [hrd.2, hg4, show (none : Option (List Int)).getD C4.sem.blank = BL from hbk]
          refine WL.val (V.move (OV.p rfl)) rfl ?_
          refine WL.val (V.extract (OV.p rfl) rfl) rfl ?_
          refine WL.val (V.extract (OV.p rfl) rfl) rfl ?_
          refine WL.val (V.assign (OV.p rfl)) rfl ?_
          refine WL.val (V.assign (OV.p rfl)) rfl ?_
          refine WL.nil ?_
          refine WC.seq ?_
          refine WC.region ?_
          refine WL.val (V.move (OV.p rfl)) rfl ?_
          refine WL.val (V.neq (OV.p rfl) (OV.p rfl)) rfl ?_
          refine WL.val (V.move (OV.p rfl)) rfl ?_
          refine WL.valG (oj := _) rfl rfl rfl GC.f (V.move (OV.p rfl)) rfl ?_
          refine WL.valG (oj := _) rfl rfl rfl GC.f (V.bytesStr (xs := BL) Try.underlying29 Try.underlying5 Try.underlying9 (OV.g rfl id) (fun hc => by repeat (first | exact Seq.allI hbl | apply Seq.up))) rfl ?_
          refine WL.valG (oj := _) rfl rfl rfl GC.f (V.move (OV.p rfl)) rfl ?_
          refine WL.valG (oj := _) rfl rfl rfl GC.f (V.bytesStr (xs := BL) Try.underlying29 Try.underlying5 Try.underlying9 (OV.g rfl id) (fun hc => by repeat (first | exact hsb | apply Seq.up))) rfl ?_
          refine WL.valG (oj := _) rfl rfl rfl GC.f (V.neqS (OV.g rfl id) (OV.g rfl id)) rfl ?_
          refine WL.val (V.pickOr (OV.p rfl) (OV.g rfl id)) rfl ?_
          refine WL.nil ?_
          refine WC.condF' rfl (by first | rfl | (simp; done) | (simp; omega)) ?_
          refine WC.skip ?_
          refine WC.region ?_
          refine WL.val (V.move (OV.p rfl)) rfl ?_
          refine WL.val (V.addI (OV.p rfl) (OV.p rfl) (fun hc => by first | omega | (simp at hc; omega))) rfl ?_
          refine WL.val (V.assign (OV.p rfl)) rfl ?_
          refine WL.nil ?_
          refine ⟨rfl, ?_⟩
          exact ⟨q + 1, (by show ((q + 1 : Nat) : Int) ≤ g.pg; omega), (by show g.pg.toNat - (q + 1) < g.pg.toNat - q; omega), .cons rfl (.cons rfl (.cons rfl (.cons rfl (.cons rfl (.cons (look_eq rfl (by simp)) (.nil _)))))), fun w h => h.tail⟩
        · try simp only [decide_eq_true_eq, decide_eq_false_iff_not, Bool.and_eq_true, Bool.or_eq_true, Bool.and_eq_false_iff, Bool.or_eq_false_iff, Bool.not_eq_true', Bool.not_eq_false', Bool.not_eq_true, Bool.not_eq_false, Int.not_lt, Int.not_le] at hc7
          refine WC.exit ?_
          refine WC.seq ?_
          have hst := hI4.prog (R := R) ⟨hn1, hn2⟩ ⟨by omega, by omega⟩ hRl
          refine WC.region ?_
          refine WL.call (vs := []) Try.call17 trivial (law07_awake _ _) rfl ?_
          rintro _ H0 ⟨rfl, h0⟩
          subst H0
          refine WL.val (V.move (OV.p rfl)) rfl ?_
          refine WL.known (oj := _) rfl rfl rfl rfl ?_
          refine WL.val (V.move (OV.p rfl)) rfl ?_
          refine WL.known (oj := _) rfl rfl rfl rfl ?_
          refine WL.val (V.move (OV.p rfl)) rfl ?_
          refine WL.known (oj := _) rfl rfl rfl rfl ?_
          refine WL.val (V.move (OV.p rfl)) rfl ?_
          refine WL.known (oj := _) rfl rfl rfl rfl ?_
          refine WL.call (vs := [_, _, _, _]) Try.call16 ⟨OV.p rfl, OV.p rfl, OV.p rfl, OV.p rfl, trivial⟩ (chip_Program hC4 block 0 hz hsq (Nat.le_refl _)) rfl ?_
          rintro v5 _ ⟨C5, hC5, rfl, s6, hv5⟩
          rw [hst.1] at hv5
          subst hv5
          refine WL.known (oj := _) rfl rfl rfl rfl ?_
          refine WL.val (V.eql (OV.p rfl) (OV.p rfl)) rfl ?_
          refine WL.val (V.pickAnd (OV.p rfl) (OV.p rfl)) rfl ?_
          refine WL.val (V.assign (OV.p rfl)) rfl ?_
          refine WL.nil ?_
          refine WC.ret ?_
          exact BodyQ.ret (H' := F) (Res.tmp rfl rfl) (fun w h => by repeat (first | exact h | replace h := h.tail)) ⟨rfl, rfl⟩
end Go.Proofs.Ytgmdagjnigkaaaa
