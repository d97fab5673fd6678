/- The law ChipCounts of casematelaw07/more.go. -/
import Derived.Test.YtgmdagjnigkaaaaC9
namespace Go.Proofs.Ytgmdagjnigkaaaa
open Go.Sl Go.RowKit
set_option linter.unusedVariables false
set_option linter.unusedSimpArgs false
set_option maxRecDepth 20000

/-- Ahead of page p of block b, all pages ahead of it programmed in order: what is left till the cut, or that it was. -/
def CInv (g : Geo) (n : Int) (S : Chip) (b p done : Int) : Prop :=
  S.g = g ∧ (∀ x, S.weak x = false) ∧ (S.next.length : Int) = g.bl ∧
    ((b * g.pg + p < n ∧ S.up = true ∧ S.left = n - (b * g.pg + p) ∧ (∀ x, b ≤ x → x < g.bl → S.nextOf x = if x = b then p else 0) ∧ done = b * g.pg + p) ∨ (n ≤ b * g.pg + p ∧ S.up = false ∧ done = n - 1))
theorem nextOf_set {S : Chip} {b v x : Int} (hb : 0 ≤ b) (hx : 0 ≤ x) (hl : x < S.next.length) : (S.next.set b.toNat v).getD x.toNat 0 = if x = b then v else S.nextOf x := by
  unfold Chip.nextOf
  simp only [List.getD, List.getElem?_set]
  by_cases h : x = b
  · subst h
    rw [if_pos rfl, if_pos (by omega), if_pos rfl]; rfl
  · rw [if_neg (by omega), if_neg h]
theorem CInv.start {g : Geo} {n : Int} (hg : g.mays) (hn : 1 ≤ n) : CInv g n ((Chip.new g []).arm n 0) 0 0 0 := by
  unfold Geo.mays at hg
  refine ⟨rfl, fun _ => rfl, ?_, .inl ⟨by simp; omega, rfl, by show max n 0 = n - (0 * g.pg + 0); omega, fun x h1 h2 => ?_, by simp⟩⟩
  · show ((List.replicate g.bl.toNat 0).length : Int) = g.bl
    rw [List.length_replicate]; omega
  · have : Chip.nextOf ((Chip.new g []).arm n 0) x = 0 := by
      show (List.replicate g.bl.toNat (0 : Int)).getD x.toNat 0 = 0
      rw [List.getD, List.getElem?_replicate]
      split <;> rfl
    rw [this]; split <;> rfl
theorem CInv.row {g : Geo} {n : Int} {S : Chip} {b p done : Int} (hp : p = g.pg) (h : CInv g n S b p done) : CInv g n S (b + 1) 0 done := by
  subst hp
  obtain ⟨h1, h2, h3, h4⟩ := h
  have e : (b + 1) * g.pg + 0 = b * g.pg + g.pg := by rw [Int.add_mul]; omega
  unfold CInv
  rw [e]
  refine ⟨h1, h2, h3, h4.imp (fun ⟨k1, k2, k3, k4, k5⟩ => ⟨k1, k2, k3, fun x hx hx' => ?_, k5⟩) id⟩
  rw [k4 x (by omega) hx', if_neg (by omega)]
  split <;> rfl
theorem CInv.step {g : Geo} {n : Int} {S : Chip} {b p done : Int} {xs : List Int} (h : CInv g n S b p done) (hb : 0 ≤ b ∧ b < g.bl) (hp : 0 ≤ p ∧ p < g.pg) (hx : (xs.length : Int) = g.raw) :
    ((S.program b p xs).2 = 0 ∧ CInv g n (S.program b p xs).1 b (p + 1) (done + 1)) ∨ ((S.program b p xs).2 = 70 ∧ CInv g n (S.program b p xs).1 b (p + 1) done) := by
  obtain ⟨h1, h2, h3, h4⟩ := h
  have e : b * g.pg + (p + 1) = b * g.pg + p + 1 := by omega
  rcases h4 with ⟨k1, k2, k3, k4, k5⟩ | ⟨k1, k2, k3⟩
  · have hpage : S.page b p = true := by
      simp only [Chip.page, Chip.block, h1, Bool.and_eq_true, decide_eq_true_eq]; omega
    have hnx : S.nextOf b = p := by rw [k4 b (Int.le_refl _) hb.2, if_pos rfl]
    have hraw : S.raw = g.raw := by unfold Chip.raw; rw [h1]
    have n1 : ¬ S.up = false := by rw [k2]; decide
    have n2 : ¬ (S.page b p = false ∨ (xs.length : Int) ≠ S.raw) := by rw [hpage, hraw]; rintro (h | h); cases h; exact h hx
    have n3 : ¬ p ≠ S.nextOf b := by rw [hnx]; exact fun h => h rfl
    have hlen : b < S.next.length := by omega
    by_cases hc : S.left = 1
    · right
      have hcut : S.cut = true := by unfold Chip.cut; rw [hc]; rfl
      have e1 : S.program b p xs = ({ S.deed with pages := Chip.upds S.deed.pages (b, p) (some (xs.take (S.kept xs.length).toNat ++ S.blank.drop (S.kept xs.length).toNat)), next := S.deed.setNext b (p + 1) }, 70) := by
        unfold Chip.program; rw [if_neg n1, if_neg n2, if_neg n3, if_pos hcut]
      rw [e1]
      refine ⟨rfl, h1, h2, ?_, .inr ⟨by rw [e]; omega, ?_, by omega⟩⟩
      · show ((S.next.set b.toNat (p + 1)).length : Int) = g.bl
        rw [List.length_set]; exact h3
      · show (S.up && !S.cut) = false
        rw [hcut]; simp
    · left
      have hcut : S.cut = false := by unfold Chip.cut; rw [decide_eq_false hc]
      have e1 : S.program b p xs = ({ S.deed with pages := Chip.upds S.deed.pages (b, p) (some xs), next := S.deed.setNext b (p + 1) }, 0) := by
        unfold Chip.program; rw [if_neg n1, if_neg n2, if_neg n3, if_neg (by rw [hcut]; decide), if_neg (by rw [h2]; decide)]
      rw [e1]
      refine ⟨rfl, h1, h2, ?_, .inl ⟨by rw [e]; omega, ?_, ?_, fun x hx hx' => ?_, by omega⟩⟩
      · show ((S.next.set b.toNat (p + 1)).length : Int) = g.bl
        rw [List.length_set]; exact h3
      · show (S.up && !S.cut) = true
        rw [hcut, k2]; rfl
      · show (if S.left = 0 then 0 else S.left - 1) = n - (b * g.pg + (p + 1))
        rw [e, if_neg (by omega)]; omega
      · show (S.next.set b.toNat (p + 1)).getD x.toNat 0 = _
        rw [nextOf_set hb.1 (by omega) (by omega), k4 x hx hx']
        split <;> rfl
  · right
    have e1 : S.program b p xs = (S, 70) := by unfold Chip.program; rw [if_pos k2]
    rw [e1]
    exact ⟨rfl, h1, h2, h3, .inr ⟨by rw [e]; omega, k2, k3⟩⟩

theorem law07_ChipCounts (g : Geo) (n : Int) (K : World) (F : List Assn) : Tells Try.prog 3 #[g.v, .int .i64 n] K F (.bool true) := by
  refine Does.enter Try.func3 rfl Try.ntmps3 rfl ?_
  simp only [env0, Nat.reduceAdd]
  refine WC.seq ?_
  refine WC.region ?_
  refine WL.box (cs := [_, _, _, _, _]) (OV.p rfl) rfl rfl (fun b2 => ?_)
  refine WL.val (V.assign (OV.p rfl)) rfl ?_
  refine WL.nil ?_
  refine WC.seq ?_
  refine WC.seq ?_
  refine WC.region ?_
  refine WL.val (V.loadA (vs := [_, _, _, _, _]) ⟨Try.isAgg23, Try.sizeOf23⟩ (OV.p rfl) rfl (fun _ => by repeat (first | exact Rds.gets ⟨rfl, rfl, rfl, rfl, rfl, trivial⟩ | apply Rds.up))) rfl ?_
  refine WL.call (vs := [_]) Try.call11 ⟨OV.p rfl, trivial⟩ (law07_small g _ _) rfl ?_
  rintro _ H0 ⟨rfl, h0⟩
  subst H0
  refine WL.val (V.not (OV.p rfl)) rfl ?_
  refine WL.val (V.move (OV.p rfl)) rfl ?_
  refine WL.valG (oj := _) rfl rfl rfl GC.f (V.loadA (vs := [_, _, _, _, _]) ⟨Try.isAgg23, Try.sizeOf23⟩ (OV.p rfl) rfl (fun _ => by repeat (first | exact Rds.gets ⟨rfl, rfl, rfl, rfl, rfl, trivial⟩ | apply Rds.up))) rfl ?_
  refine WL.callG (oj := _) (vs := [_]) rfl rfl rfl GC.f Try.call12 ⟨OV.g rfl id, trivial⟩ (fun hg => ref06_May g _ _) rfl ?_
  refine WL.valG (oj := _) rfl rfl rfl GC.f (V.not (OV.g rfl id)) rfl ?_
  refine WL.val (V.pickOr (OV.p rfl) (OV.g rfl id)) rfl ?_
  refine WL.val (V.move (OV.p rfl)) rfl ?_
  refine WL.valG (oj := _) rfl rfl rfl GC.f (V.move (OV.p rfl)) rfl ?_
  refine WL.valG (oj := _) rfl rfl rfl GC.f (V.lss (OV.g rfl id) (OV.p rfl)) rfl ?_
  refine WL.val (V.pickOr (OV.p rfl) (OV.g rfl id)) rfl ?_
  refine WL.val (V.move (OV.p rfl)) rfl ?_
  refine WL.valG (oj := _) rfl rfl rfl GC.f (V.move (OV.p rfl)) rfl ?_
  refine WL.valG (oj := _) rfl rfl rfl GC.f (V.fieldAddr fo23_0 (OV.p rfl)) rfl ?_
  refine WL.valG (oj := _) rfl rfl rfl GC.f (V.load Try.isAgg3 (OV.g rfl id) (fun _ => by repeat (first | exact Rd.here rfl | apply Rd.up))) rfl ?_
  refine WL.valG (oj := _) rfl rfl rfl GC.f (V.fieldAddr fo23_1 (OV.p rfl)) rfl ?_
  refine WL.valG (oj := _) rfl rfl rfl GC.f (V.load Try.isAgg3 (OV.g rfl id) (fun _ => by repeat (first | exact Rd.here rfl | apply Rd.up))) rfl ?_
  refine WL.valG (oj := _) rfl rfl rfl GC.f (V.mulI (OV.g rfl id) (OV.g rfl id) (fun hc => by simp at hc; have hm := Geo.mays_of hc.1.2; unfold Geo.mays at hm; have := Geo.mul_bd (a := g.bl) (b := g.pg) (A := 256) (B := 64) (by omega) (by omega) (by omega) (by omega); omega)) rfl ?_
  refine WL.valG (oj := _) rfl rfl rfl GC.f (V.gtr (OV.g rfl id) (OV.g rfl id)) rfl ?_
  refine WL.val (V.pickOr (OV.p rfl) (OV.g rfl id)) rfl ?_
  refine WL.nil ?_
  refine WC.cond rfl (fun hc0 => ?_) (fun hc0 => ?_)
  · simp only [decide_eq_true_eq, decide_eq_false_iff_not, Bool.and_eq_true, Bool.or_eq_true, Bool.and_eq_false_iff, Bool.or_eq_false_iff, Bool.not_eq_true', Bool.not_eq_false', Bool.not_eq_true, Bool.not_eq_false, Int.not_lt, Int.not_le] at hc0
    refine WC.seq ?_
    refine WC.region ?_
    refine WL.val (V.assign (OV.p rfl)) rfl ?_
    refine WL.nil ?_
    refine WC.ret ?_
    exact BodyQ.ret (H' := F) (Res.tmp rfl rfl) (fun w h => by repeat (first | exact h | replace h := h.tail)) ⟨rfl, rfl⟩
  · simp only [decide_eq_true_eq, decide_eq_false_iff_not, Bool.and_eq_true, Bool.or_eq_true, Bool.and_eq_false_iff, Bool.or_eq_false_iff, Bool.not_eq_true', Bool.not_eq_false', Bool.not_eq_true, Bool.not_eq_false, Int.not_lt, Int.not_le] at hc0
    obtain ⟨⟨⟨hsm, hmay⟩, hn1⟩, hn2⟩ := hc0
    have hg := Geo.mays_of hmay
    have hr := Geo.raw_bd hg
    have hgb := hg
    unfold Geo.mays at hgb
    have hbp := Geo.mul_bd (a := g.bl) (b := g.pg) (A := 256) (B := 64) (by omega) (by omega) (by omega) (by omega)
    have hzl : (List.replicate g.raw.toNat (0 : Int)).length = g.raw.toNat := List.length_replicate
    have hz : IsBytes (List.replicate g.raw.toNat 0) := IsBytes.repl (by omega)
    refine WC.skip ?_
    refine WC.seq ?_
    refine WC.region ?_
    refine WL.val (V.loadA (vs := [_, _, _, _, _]) ⟨Try.isAgg23, Try.sizeOf23⟩ (OV.p rfl) rfl (fun _ => by repeat (first | exact Rds.gets ⟨rfl, rfl, rfl, rfl, rfl, trivial⟩ | apply Rds.up))) rfl ?_
    refine WL.call (vs := [_, _]) Try.call13 ⟨OV.p rfl, OV.p rfl, trivial⟩ (chip_New g (l := []) Seq.nilI (by omega)) rfl ?_
    rintro _ _ (⟨hm, hin, bc, C0, hC0, s0, rfl, rfl⟩ | ⟨hno, rfl, rfl⟩)
    rotate_left
    · exact (hno ⟨hmay, fun x hx => (by cases hx)⟩).elim
    refine WL.val (V.move (OV.p rfl)) rfl ?_
    refine WL.val (V.extract (OV.p rfl) rfl) rfl ?_
    refine WL.val (V.extract (OV.p rfl) rfl) rfl ?_
    refine WL.val (V.assign (OV.p rfl)) rfl ?_
    refine WL.val (V.assign (OV.p rfl)) rfl ?_
    refine WL.nil ?_
    refine WC.seq ?_
    refine WC.seq ?_
    refine WC.region ?_
    refine WL.val (V.move (OV.p rfl)) rfl ?_
    refine WL.val (V.neq (OV.p rfl) (OV.p rfl)) rfl ?_
    refine WL.val (V.move (OV.p rfl)) rfl ?_
    refine WL.valG (oj := _) rfl rfl rfl GC.f (V.move (OV.p rfl)) rfl ?_
    refine WL.valG (oj := _) rfl rfl rfl GC.f (V.eqlP Try.underlying25 (OV.g rfl id) (OV.p rfl)) rfl ?_
    refine WL.val (V.pickOr (OV.p rfl) (OV.g rfl id)) rfl ?_
    refine WL.nil ?_
    refine WC.condF' rfl (by first | rfl | (simp; done) | (simp; omega)) ?_
    refine WC.skip ?_
    refine WC.seq ?_
    refine WC.region ?_
    refine WL.val (V.loadA (vs := [_, _, _, _, _]) ⟨Try.isAgg23, Try.sizeOf23⟩ (OV.p rfl) rfl (fun _ => by repeat (first | exact Rds.gets ⟨rfl, rfl, rfl, rfl, rfl, trivial⟩ | apply Rds.up))) rfl ?_
    refine WL.call (vs := [_]) Try.call14 ⟨OV.p rfl, trivial⟩ (ref06_Raw g hg _ _) rfl ?_
    rintro _ H0 ⟨rfl, h0⟩
    subst H0
    refine WL.make1 (m := g.raw.toNat) Try.underlying29 el5 (OV.p rfl) (OV.p rfl) (by omega) (by omega) (by omega) rfl rfl rfl (fun b46 => ?_)
    refine WL.sub (Sub.refl _) (fun w h => h.p1) ?_
    have hsq : ∀ {H : List Assn}, Seq K (Cells b46 5 (List.replicate g.raw.toNat (.int .u8 0)) :: H) (some ⟨b46, 0, none⟩) g.raw.toNat 1 (ints .u8 (List.replicate g.raw.toNat 0)) := by
      intro H; rw [← ints_replicate]; exact Seq.allI hzl
    refine WL.val (V.assign (OV.p rfl)) rfl ?_
    refine WL.nil ?_
    refine WC.seq ?_
    refine WC.region ?_
    refine WL.val (V.move (OV.p rfl)) rfl ?_
    refine WL.val (V.move (OV.p rfl)) rfl ?_
    refine WL.call (vs := [_, _, _]) Try.call15 ⟨OV.p rfl, OV.p rfl, OV.p rfl, trivial⟩ (chip_Arm (C := C0) n 0) rfl ?_
    rintro _ _ rfl
    have s1 : (C0.arm n 0).sem = (Chip.new g []).arm n 0 := by rw [show (C0.arm n 0).sem = C0.sem.arm n 0 from rfl, s0]
    refine WL.nil ?_
    refine WC.seq ?_
    refine WC.region ?_
    refine WL.val (V.assign (OV.p rfl)) rfl ?_
    refine WL.nil ?_
    refine WC.seq ?_
    refine WC.seq ?_
    refine WC.region ?_
    refine WL.val (V.assign (OV.p rfl)) rfl ?_
    refine WL.nil ?_
    refine WC.block ?_
    refine WC.loop (σ := Nat × Cw × Int) (fun x => [(1, .int .i64 n), (2, ptr b2 0), (5, ptr bc 0), (7, .slice (some ⟨b46, 0, none⟩) g.raw.toNat g.raw.toNat), (8, .int .i64 x.2.2), (9, .int .i64 (x.1 : Int))]) (fun x => x.2.1.A bc :: Cells b46 5 (List.replicate g.raw.toNat (.int .u8 0)) :: Cells b2 23 [.int .i64 g.bl, .int .i64 g.pg, .int .i64 g.se, .int .i64 g.sb, .int .i64 g.fl] :: F) (fun x => (x.1 : Int) ≤ g.bl ∧ x.2.1.Ok ∧ CInv g n x.2.1.sem x.1 0 x.2.2) (fun x => g.bl.toNat - x.1) (0, C0.arm n 0, 0) ⟨by show ((0 : Nat) : Int) ≤ g.bl; omega, hC0.arm (by omega), by rw [s1]; exact CInv.start hg hn1⟩ (.cons rfl (.cons rfl (.cons rfl (.cons rfl (.cons rfl (.cons rfl (.nil _))))))) (fun w h => h) ?_
    rintro ⟨b, C, done⟩ ⟨hb, hC, hI⟩
    dsimp only at hb hC hI ⊢
    refine WC.seq ?_
    refine WC.seq ?_
    refine WC.region ?_
    refine WL.val (V.move (OV.p rfl)) rfl ?_
    refine WL.val (V.fieldAddr fo23_0 (OV.p rfl)) rfl ?_
    refine WL.val (V.load Try.isAgg3 (OV.p rfl) (fun _ => by repeat (first | exact Rd.here rfl | apply Rd.up))) rfl ?_
    refine WL.val (V.lss (OV.p rfl) (OV.p rfl)) rfl ?_
    refine WL.nil ?_
    refine WC.cond rfl (fun hc2 => ?_) (fun hc2 => ?_)
    · try simp only [decide_eq_true_eq, decide_eq_false_iff_not, Bool.and_eq_true, Bool.or_eq_true, Bool.and_eq_false_iff, Bool.or_eq_false_iff, Bool.not_eq_true', Bool.not_eq_false', Bool.not_eq_true, Bool.not_eq_false, Int.not_lt, Int.not_le] at hc2
      refine WC.skip ?_
      refine WC.seq ?_
      refine WC.block ?_
      refine WC.seq ?_
      refine WC.region ?_
      refine WL.val (V.assign (OV.p rfl)) rfl ?_
      refine WL.nil ?_
      refine WC.block ?_
      refine WC.loop (σ := Nat × Cw × Int) (fun x => [(1, .int .i64 n), (2, ptr b2 0), (5, ptr bc 0), (7, .slice (some ⟨b46, 0, none⟩) g.raw.toNat g.raw.toNat), (8, .int .i64 x.2.2), (9, .int .i64 (b : Int)), (10, .int .i64 (x.1 : Int))]) (fun x => x.2.1.A bc :: Cells b46 5 (List.replicate g.raw.toNat (.int .u8 0)) :: Cells b2 23 [.int .i64 g.bl, .int .i64 g.pg, .int .i64 g.se, .int .i64 g.sb, .int .i64 g.fl] :: F) (fun x => (x.1 : Int) ≤ g.pg ∧ x.2.1.Ok ∧ CInv g n x.2.1.sem b x.1 x.2.2) (fun x => g.pg.toNat - x.1) (0, C, done) ⟨by show ((0 : Nat) : Int) ≤ g.pg; omega, hC, hI⟩ (.cons rfl (.cons rfl (.cons rfl (.cons rfl (.cons rfl (.cons rfl (.cons rfl (.nil _)))))))) (fun w h => h) ?_
      rintro ⟨p, D, dn⟩ ⟨hp, hD, hJ⟩
      dsimp only at hp hD hJ ⊢
      refine WC.seq ?_
      refine WC.seq ?_
      refine WC.region ?_
      refine WL.val (V.move (OV.p rfl)) rfl ?_
      refine WL.val (V.fieldAddr fo23_1 (OV.p rfl)) rfl ?_
      refine WL.val (V.load Try.isAgg3 (OV.p rfl) (fun _ => by repeat (first | exact Rd.here rfl | apply Rd.up))) rfl ?_
      refine WL.val (V.lss (OV.p rfl) (OV.p rfl)) rfl ?_
      refine WL.nil ?_
      refine WC.cond rfl (fun hc3 => ?_) (fun hc3 => ?_)
      · try simp only [decide_eq_true_eq, decide_eq_false_iff_not, Bool.and_eq_true, Bool.or_eq_true, Bool.and_eq_false_iff, Bool.or_eq_false_iff, Bool.not_eq_true', Bool.not_eq_false', Bool.not_eq_true, Bool.not_eq_false, Int.not_lt, Int.not_le] at hc3
        refine WC.skip ?_
        refine WC.seq ?_
        refine WC.block ?_
        refine WC.seq ?_
        refine WC.region ?_
        refine WL.val (V.move (OV.p rfl)) rfl ?_
        refine WL.val (V.move (OV.p rfl)) rfl ?_
        refine WL.val (V.move (OV.p rfl)) rfl ?_
        refine WL.val (V.move (OV.p rfl)) rfl ?_
        refine WL.call (vs := [_, _, _, _]) Try.call16 ⟨OV.p rfl, OV.p rfl, OV.p rfl, OV.p rfl, trivial⟩ (chip_Program hD b p hz hsq (Nat.le_refl _)) rfl ?_
        rintro v1 _ ⟨D1, hD1, rfl, s3, hv⟩
        have hst := hJ.step (xs := List.replicate g.raw.toNat 0) (by omega) (by omega) (by rw [hzl]; omega)
        rw [← s3] at hst
        subst hv
        refine WL.val (V.assign (OV.p rfl)) rfl ?_
        refine WL.nil ?_
        refine WC.seq ?_
        refine WC.region ?_
        refine WL.val (V.move (OV.p rfl)) rfl ?_
        refine WL.val (V.eql (OV.p rfl) (OV.p rfl)) rfl ?_
        refine WL.nil ?_
        refine WC.cond rfl (fun hc4 => ?_) (fun hc4 => ?_)
        · simp only [decide_eq_true_eq, decide_eq_false_iff_not, Bool.and_eq_true, Bool.or_eq_true, Bool.and_eq_false_iff, Bool.or_eq_false_iff, Bool.not_eq_true', Bool.not_eq_false', Bool.not_eq_true, Bool.not_eq_false, Int.not_lt, Int.not_le] at hc4
          have h4 := hc4
          refine WC.region ?_
          refine WL.val (V.move (OV.p rfl)) rfl ?_
          refine WL.val (V.addI (OV.p rfl) (OV.p rfl) (fun hc => by obtain ⟨_, _, _, hh⟩ := hJ; have := Geo.mul_bd (a := (b : Int)) (b := g.pg) (A := 256) (B := 64) (by omega) (by omega) (by omega) (by omega); omega)) rfl ?_
          refine WL.val (V.assign (OV.p rfl)) rfl ?_
          refine WL.nil ?_
          refine WC.region ?_
          refine WL.val (V.move (OV.p rfl)) rfl ?_
          refine WL.val (V.addI (OV.p rfl) (OV.p rfl) (fun hc => by first | omega | (simp at hc; omega))) rfl ?_
          refine WL.val (V.assign (OV.p rfl)) rfl ?_
          refine WL.nil ?_
          refine ⟨rfl, ?_⟩
          first
          | exact ⟨(p + 1, D1, dn + 1), ⟨by show ((p + 1 : Nat) : Int) ≤ g.pg; omega, hD1, by rcases hst with ⟨_, h⟩ | ⟨h, _⟩; exact h; exact absurd (h4.symm.trans h) (by decide)⟩, (by show g.pg.toNat - (p + 1) < g.pg.toNat - p; omega), .cons rfl (.cons rfl (.cons rfl (.cons rfl (.cons rfl (.cons rfl (.cons (look_eq rfl (by simp)) (.nil _))))))), fun w h => h⟩
          | exact ⟨(p + 1, D1, dn), ⟨by show ((p + 1 : Nat) : Int) ≤ g.pg; omega, hD1, by rcases hst with ⟨h, _⟩ | ⟨_, h⟩; exact absurd h h4; exact h⟩, (by show g.pg.toNat - (p + 1) < g.pg.toNat - p; omega), .cons rfl (.cons rfl (.cons rfl (.cons rfl (.cons rfl (.cons rfl (.cons (look_eq rfl (by simp)) (.nil _))))))), fun w h => h⟩
        · simp only [decide_eq_true_eq, decide_eq_false_iff_not, Bool.and_eq_true, Bool.or_eq_true, Bool.and_eq_false_iff, Bool.or_eq_false_iff, Bool.not_eq_true', Bool.not_eq_false', Bool.not_eq_true, Bool.not_eq_false, Int.not_lt, Int.not_le] at hc4
          have h4 := hc4
          refine WC.seq ?_
          refine WC.region ?_
          refine WL.val (V.move (OV.p rfl)) rfl ?_
          refine WL.val (V.neq (OV.p rfl) (OV.p rfl)) rfl ?_
          refine WL.nil ?_
          refine WC.cond rfl (fun hc5 => ?_) (fun hc5 => ?_)
          · simp only [decide_eq_true_eq, decide_eq_false_iff_not, Bool.and_eq_true, Bool.or_eq_true, Bool.and_eq_false_iff, Bool.or_eq_false_iff, Bool.not_eq_true', Bool.not_eq_false', Bool.not_eq_true, Bool.not_eq_false, Int.not_lt, Int.not_le] at hc5
            exfalso
            rcases hst with ⟨h, _⟩ | ⟨h, _⟩
            · exact h4 h
            · exact hc5 h
          · simp only [decide_eq_true_eq, decide_eq_false_iff_not, Bool.and_eq_true, Bool.or_eq_true, Bool.and_eq_false_iff, Bool.or_eq_false_iff, Bool.not_eq_true', Bool.not_eq_false', Bool.not_eq_true, Bool.not_eq_false, Int.not_lt, Int.not_le] at hc5
            refine WC.skip ?_
            refine WC.region ?_
            refine WL.val (V.move (OV.p rfl)) rfl ?_
            refine WL.val (V.addI (OV.p rfl) (OV.p rfl) (fun hc => by first | omega | (simp at hc; omega))) rfl ?_
            refine WL.val (V.assign (OV.p rfl)) rfl ?_
            refine WL.nil ?_
            refine ⟨rfl, ?_⟩
            first
            | exact ⟨(p + 1, D1, dn + 1), ⟨by show ((p + 1 : Nat) : Int) ≤ g.pg; omega, hD1, by rcases hst with ⟨_, h⟩ | ⟨h, _⟩; exact h; exact absurd (h4.symm.trans h) (by decide)⟩, (by show g.pg.toNat - (p + 1) < g.pg.toNat - p; omega), .cons rfl (.cons rfl (.cons rfl (.cons rfl (.cons rfl (.cons rfl (.cons (look_eq rfl (by simp)) (.nil _))))))), fun w h => h⟩
            | exact ⟨(p + 1, D1, dn), ⟨by show ((p + 1 : Nat) : Int) ≤ g.pg; omega, hD1, by rcases hst with ⟨h, _⟩ | ⟨_, h⟩; exact absurd h h4; exact h⟩, (by show g.pg.toNat - (p + 1) < g.pg.toNat - p; omega), .cons rfl (.cons rfl (.cons rfl (.cons rfl (.cons rfl (.cons rfl (.cons (look_eq rfl (by simp)) (.nil _))))))), fun w h => h⟩
      · try simp only [decide_eq_true_eq, decide_eq_false_iff_not, Bool.and_eq_true, Bool.or_eq_true, Bool.and_eq_false_iff, Bool.or_eq_false_iff, Bool.not_eq_true', Bool.not_eq_false', Bool.not_eq_true, Bool.not_eq_false, Int.not_lt, Int.not_le] at hc3
        refine WC.exit ?_
        refine WC.region ?_
        refine WL.val (V.move (OV.p rfl)) rfl ?_
        refine WL.val (V.addI (OV.p rfl) (OV.p rfl) (fun hc => by first | omega | (simp at hc; omega))) rfl ?_
        refine WL.val (V.assign (OV.p rfl)) rfl ?_
        refine WL.nil ?_
        refine ⟨rfl, ?_⟩
        exact ⟨(b + 1, D, dn), ⟨by show ((b + 1 : Nat) : Int) ≤ g.bl; omega, hD, CInv.row (p := p) (by omega) hJ⟩, (by show g.bl.toNat - (b + 1) < g.bl.toNat - b; omega), .cons rfl (.cons rfl (.cons rfl (.cons rfl (.cons rfl (.cons (look_eq rfl (by simp)) (.nil _)))))), fun w h => h⟩
    · try simp only [decide_eq_true_eq, decide_eq_false_iff_not, Bool.and_eq_true, Bool.or_eq_true, Bool.and_eq_false_iff, Bool.or_eq_false_iff, Bool.not_eq_true', Bool.not_eq_false', Bool.not_eq_true, Bool.not_eq_false, Int.not_lt, Int.not_le] at hc2
      refine WC.exit ?_
      refine WC.seq ?_
      refine WC.region ?_
      refine WL.call (vs := []) Try.call17 trivial (law07_awake _ _) rfl ?_
      rintro _ H0 ⟨rfl, h0⟩
      subst H0
      refine WL.val (V.move (OV.p rfl)) rfl ?_
      refine WL.known (oj := _) rfl rfl rfl rfl ?_
      refine WL.val (V.move (OV.p rfl)) rfl ?_
      refine WL.known (oj := _) rfl rfl rfl rfl ?_
      refine WL.val (V.move (OV.p rfl)) rfl ?_
      refine WL.known (oj := _) rfl rfl rfl rfl ?_
      refine WL.val (V.subI (OV.p rfl) (OV.p rfl) (fun hc => by first | omega | (simp at hc; omega))) rfl ?_
      refine WL.known (oj := _) rfl rfl rfl rfl ?_
      refine WL.val (V.eql (OV.p rfl) (OV.p rfl)) rfl ?_
      refine WL.val (V.pickAnd (OV.p rfl) (OV.p rfl)) rfl ?_
      refine WL.val (V.move (OV.p rfl)) rfl ?_
      refine WL.valG (oj := _) rfl rfl rfl GC.t (V.move (OV.p rfl)) rfl ?_
      refine WL.callG (oj := _) (vs := [_]) rfl rfl rfl GC.t Try.call18 ⟨OV.g rfl id, trivial⟩ (fun hg => chip_Up (C := C)) rfl ?_
      refine WL.valG (oj := _) rfl rfl rfl GC.t (V.not (OV.g rfl id)) rfl ?_
      refine WL.val (V.pickAnd (OV.p rfl) (OV.g rfl id)) rfl ?_
      refine WL.val (V.assign (OV.p rfl)) rfl ?_
      refine WL.nil ?_
      refine WC.ret ?_
      refine BodyQ.ret (H' := F) (Res.tmp rfl rfl) (fun w h => by repeat (first | exact h | replace h := h.tail)) ⟨?_, rfl⟩
      obtain ⟨_, _, _, hh⟩ := hI
      have hbe : (b : Int) = g.bl := by omega
      rw [hbe] at hh
      rcases hh with ⟨h1, _⟩ | ⟨_, h2, h3⟩
      · omega
      · rw [show C.up = false from h2, h3]; simp
end Go.Proofs.Ytgmdagjnigkaaaa
