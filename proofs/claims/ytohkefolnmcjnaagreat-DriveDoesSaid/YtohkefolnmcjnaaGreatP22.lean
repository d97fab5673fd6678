import Derived.Test.YtohkefolnmcjnaaGreatP21
/- The reference's chip: Program. -/
namespace Go.Proofs.YtohkefolnmcjnaaGreat
open Go.Sl Go.RowKit
set_option linter.unusedVariables false
set_option linter.unusedSimpArgs false
set_option maxRecDepth 20000

def RBlock.setP (x : RBlock) (p : Nat) (y : RPage) (nx : Int) : RBlock := { x with pages := x.pages.set p y, next := nx }
def RW.setB (R : RW) (b : Nat) (x : RBlock) (own : List Assn) : RW := { R with blocks := R.blocks.set b x, own := own }
theorem RW.Ok.setP {R : RW} (h : R.Ok) {b p : Nat} {x : RBlock} {y : RPage} {nx : Int} {own : List Assn} (hx : R.blocks[b]? = some x) (hy : PageOk own R.g y) (hup : ∀ K w, Sat K w [AllA own] → Sat K w [AllA R.own]) (hn : 0 ≤ nx ∧ nx ≤ R.g.pg) : (R.setB b (x.setP p y nx) own).Ok := by
  refine ⟨h.mays, fun x' hx' y' hy' => ?_, h.left, fun x' hx' => ?_⟩
  · rcases List.mem_or_eq_of_mem_set hx' with h1 | rfl
    · exact (h.pgs x' h1 y' hy').mono hup
    · rcases List.mem_or_eq_of_mem_set hy' with h2 | rfl
      · exact (h.pgs x (List.mem_of_getElem? hx) y' h2).mono hup
      · exact hy
  · rcases List.mem_or_eq_of_mem_set hx' with h1 | rfl
    · exact h.next x' h1
    · exact hn
/-- S' is S, but for one page and the next one of its block. -/
structure Chip.But (S S' : Chip) (b p : Nat) (nx : Int) : Prop where
  g : S'.g = S.g
  fuse : S'.fuse = S.fuse
  up : S'.up = S.up
  left : S'.left = S.left
  keep : S'.keep = S.keep
  nlen : S'.next.length = S.next.length
  marked : S'.marked = S.marked
  weak : S'.weak = S.weak
  next : ∀ k : Nat, (k : Int) < S.next.length → S'.nextOf (k : Int) = if k = b then nx else S.nextOf (k : Int)
  pages : ∀ k q : Nat, ¬ (k = b ∧ q = p) → S'.pages ((k : Int), (q : Int)) = S.pages ((k : Int), (q : Int)) ∧ S'.wrong ((k : Int), (q : Int)) = S.wrong ((k : Int), (q : Int))
theorem RW.Is.setP {R : RW} {S S' : Chip} (h : R.Is S) {b p : Nat} {x : RBlock} {y : RPage} {nx : Int} {own : List Assn} (hx : R.blocks[b]? = some x) (hb : Chip.But S S' b p nx) (hy : PageIs S' b p y) (hp : p < x.pages.length) : (R.setB b (x.setP p y nx) own).Is S' := by
  have hbl := (List.getElem?_eq_some_iff.1 hx).1
  refine ⟨h.g.trans hb.g.symm, h.fuse.trans hb.fuse.symm, h.up.trans hb.up.symm, h.left.trans hb.left.symm, h.keep.trans hb.keep.symm, ?_, ?_, fun k x' hk => ?_⟩
  · show ((R.blocks.set b _).length : Int) = _
    rw [List.length_set, hb.g]; exact h.len
  · rw [hb.nlen, hb.g]; exact h.nlen
  · have hkl := (List.getElem?_eq_some_iff.1 hk).1
    have hkl' : k < R.blocks.length := by simpa [RW.setB] using hkl
    have hkn : (k : Int) < S.next.length := by rw [h.nlen, ← h.len]; omega
    have hk' : (R.blocks.set b (x.setP p y nx))[k]? = some x' := hk
    rw [List.getElem?_set] at hk'
    by_cases hkb : b = k
    · subst hkb
      rw [if_pos rfl, if_pos hbl] at hk'
      injection hk' with hk'
      subst hk'
      obtain ⟨h1, h2, h3, h4, h5⟩ := h.blk b x hx
      refine ⟨?_, ?_, ?_, ?_, fun q z hq => ?_⟩
      · rw [hb.next b hkn, if_pos rfl]; rfl
      · rw [hb.marked]; exact h2
      · rw [hb.weak]; exact h3
      · show ((x.pages.set p y).length : Int) = _
        rw [List.length_set, hb.g]; exact h4
      · have hq' : (x.pages.set p y)[q]? = some z := hq
        rw [List.getElem?_set] at hq'
        by_cases hqp : p = q
        · subst hqp
          rw [if_pos rfl, if_pos hp] at hq'
          injection hq' with hq'
          subst hq'
          exact hy
        · rw [if_neg hqp] at hq'
          obtain ⟨e1, e2⟩ := hb.pages b q (fun hh => hqp hh.2.symm)
          have h6 := h5 q z hq'
          exact ⟨by rw [e1, h6.raw, show S'.blank = S.blank by unfold Chip.blank Chip.raw; rw [hb.g]], by rw [e2]; exact h6.wrong⟩
    · rw [if_neg hkb] at hk'
      obtain ⟨h1, h2, h3, h4, h5⟩ := h.blk k x' hk'
      refine ⟨?_, ?_, ?_, ?_, fun q z hq => ?_⟩
      · rw [hb.next k hkn, if_neg (fun e => hkb e.symm)]; exact h1
      · rw [hb.marked]; exact h2
      · rw [hb.weak]; exact h3
      · rw [hb.g]; exact h4
      · obtain ⟨e1, e2⟩ := hb.pages k q (fun hh => hkb hh.1.symm)
        have h6 := h5 q z hq
        exact ⟨by rw [e1, h6.raw, show S'.blank = S.blank by unfold Chip.blank Chip.raw; rw [hb.g]], by rw [e2]; exact h6.wrong⟩
/-- Folded again. -/
theorem RW.fold {a : Nat} {R : RW} {b : Nat} {x' : RBlock} {own : List Assn} {K w : World} {F : List Assn} (hb : b < R.blocks.length)
    (h : Sat K w (RBlock.row x' :: AllA (R.rows.eraseIdx b) :: Cells a 97 R.cells :: Cells R.bb 100 ((R.blocks.set b x').flatMap RBlock.cells ++ R.rest) :: AllA own :: F)) : Sat K w ((R.setB b x' own).A a :: F) := by
  have h1 := Sat.putA (by show b < R.rows.length; rw [List.length_map]; exact hb) h
  have e1 : (R.setB b x' own).cells = R.cells := by
    unfold RW.setB
    dsimp only [RW.cells]
    rw [List.length_set]
  have e2 : (R.setB b x' own).rows = R.rows.set b (RBlock.row x') := by
    show (R.blocks.set b x').map RBlock.row = _
    rw [List.map_set]
  refine Sat.all (l := RW.parts a _) ?_
  have h2 := h1.sel 4 [1, 2, 0, 3] rfl
  unfold RW.parts
  rw [e1, e2]
  exact h2
theorem setL_left : ∀ (l r : List Value) (o : Nat) (vs : List Value), o + vs.length ≤ l.length → setL (l ++ r) o vs = setL l o vs ++ r := fun l r o vs h => by
  rw [setL_append _ _ _ (by rw [List.length_append]; omega), setL_append _ _ _ h, List.take_append_of_le_length (by omega), List.drop_append_of_le_length (by omega)]
  simp only [List.append_assoc]
theorem RW.foldP {a : Nat} {R : RW} {b p : Nat} {x : RBlock} {y y' : RPage} {nx : Int} {own : List Assn} {K w : World} {F : List Assn} (hxb : R.blocks[b]? = some x) (hyp : x.pages[p]? = some y)
    (h : Sat K w (Cells x.pb 102 (setL (x.pages.flatMap RPage.cells ++ x.pr) (p * 2) y'.cells) :: AllA (R.rows.eraseIdx b) :: Cells a 97 R.cells :: Cells R.bb 100 ((R.blocks.flatMap RBlock.cells ++ R.rest).set (b * 4 + 1) (.int .i64 nx)) :: AllA own :: F)) : Sat K w ((R.setB b (x.setP p y' nx) own).A a :: F) := by
  have hb := (List.getElem?_eq_some_iff.1 hxb).1
  have hp := (List.getElem?_eq_some_iff.1 hyp).1
  have h1 : (p + 1) * 2 ≤ x.pages.length * 2 := Nat.mul_le_mul_right _ hp
  have h2 : (b + 1) * 4 ≤ R.blocks.length * 4 := Nat.mul_le_mul_right _ hb
  rw [setL_left _ _ _ _ (by rw [flat_length pcells_len]; show p * 2 + 2 ≤ _; omega), flat_put pcells_len x.pages p y y' hyp] at h
  rw [List.set_append, if_pos (by rw [flat_length rcells_len]; omega), flat_set rcells_len R.blocks b 1 x (x.setP p y' nx) (.int .i64 nx) hxb (by decide) (by unfold RBlock.setP; dsimp only [RBlock.cells]; rw [List.length_set]; rfl)] at h
  exact RW.fold hb h
theorem Chip.nextOf_setN {S : Chip} {b k : Nat} {v : Int} (hl : (k : Int) < S.next.length) : (S.next.set (b : Int).toNat v).getD (k : Int).toNat 0 = if k = b then v else S.nextOf (k : Int) := by
  unfold Chip.nextOf
  simp only [List.getD, List.getElem?_set]
  by_cases h : k = b
  · subst h
    rw [if_pos rfl, if_pos (by omega), if_pos rfl]; rfl
  · rw [if_neg (by omega), if_neg h]
section
variable {a : Nat} {R : RW} {S : Chip} {K : World} {F : List Assn}
theorem ref_Program (hR : R.Ok) (hS : R.Is S) {B : Option Addr} {m cap : Nat} {xs : List Int} (b p : Int) (hx : IsBytes xs) (hs : Seq K F B m 1 (ints .u8 xs)) (hm : m ≤ 1000000) :
    Does Tryz.prog 105 #[ptr a 0, .int .i64 b, .int .i64 p, .slice B m cap] K (R.A a :: F)
      (fun v H' => ∃ R' : RW, R'.Ok ∧ R'.Is (S.program b p xs).1 ∧ H' = R'.A a :: F ∧ v = .int .i64 (S.program b p xs).2) := by
  have hl : xs.length = m := by simpa [ints] using hs.len
  have hrb := Geo.raw_bd hR.mays
  have hgb := hR.mays
  unfold Geo.mays at hgb
  obtain ⟨Z, hV⟩ : ∃ Z, Z = S.program b p xs := ⟨_, rfl⟩
  rw [← hV]
  unfold Chip.program at hV
  refine Does.openR ?_
  dsimp only [RW.parts, List.cons_append, List.nil_append]
  refine Does.enter Tryz.func105 rfl Tryz.ntmps105 rfl ?_
  simp only [env0, Nat.reduceAdd]
  refine WC.sr ?_
  refine WL.val (V.assign (OV.p rfl)) rfl ?_
  refine WL.nil ?_
  refine WC.seq ?_
  refine WC.sr ?_
  refine WL.val (V.move (OV.p rfl)) rfl ?_
  refine WL.val (V.nilCheck (OV.p rfl)) rfl ?_
  refine WL.val (V.fieldAddr fo97_3 (OV.p rfl)) rfl ?_
  refine WL.val (V.load Tryz.isAgg4 (OV.p rfl) (fun _ => by repeat (first | exact Rd.here rfl | apply Rd.up))) rfl ?_
  refine WL.val (V.not (OV.p rfl)) rfl ?_
  refine WL.nil ?_
  refine WC.cond rfl (fun hc0 => ?_) (fun hc0 => ?_)
  ·simp only [Bool.not_eq_true', Bool.not_eq_false'] at hc0
   rw [if_pos (show S.up = false by rw [← hS.up]; exact hc0)] at hV
   refine WC.sr ?_
   refine WL.val (V.assign (OV.p rfl)) rfl ?_
   refine WL.nil ?_
   refine WC.ret ?_
   exact BodyQ.ret (H' := R.A a :: F) (Res.tmp rfl rfl) (fun w h => Sat.all (l := RW.parts a R) h) ⟨R, hR, by rw [hV]; exact hS, rfl, by rw [hV]⟩
  ·simp only [Bool.not_eq_true', Bool.not_eq_false'] at hc0
   have hup := hc0
   rw [if_neg (show ¬ S.up = false by rw [← hS.up, hup]; decide)] at hV
   refine WC.skip ?_
   refine WC.seq ?_
   refine WC.sr ?_
   refine WL.val (V.move (OV.p rfl)) rfl ?_
   refine WL.val (V.move (OV.p rfl)) rfl ?_
   refine WL.val (V.move (OV.p rfl)) rfl ?_
   refine WL.call (vs := [_, _, _]) Tryz.call111 ⟨OV.p rfl, OV.p rfl, OV.p rfl, trivial⟩ (ref_page b p Rds.all) rfl ?_
   rintro _ H0 ⟨rfl, h0⟩
   subst H0
   refine WL.val (V.not (OV.p rfl)) rfl ?_
   refine WL.val (V.move (OV.p rfl)) rfl ?_
   refine WL.valG (oj := _) rfl rfl rfl GC.f (V.move (OV.p rfl)) rfl ?_
   refine WL.valG (oj := _) rfl rfl rfl GC.f (V.len (t := 38) Tryz.runUnderlying38 (OV.g rfl id)) rfl ?_
   refine WL.valG (oj := _) rfl rfl rfl GC.f (V.move (OV.p rfl)) rfl ?_
   refine WL.valG (oj := _) rfl rfl rfl GC.f (V.nilCheck (OV.g rfl id)) rfl ?_
   refine WL.valG (oj := _) rfl rfl rfl GC.f (V.fieldAddr fo97_0 (OV.g rfl id)) rfl ?_
   refine WL.valG (oj := _) rfl rfl rfl GC.f (V.loadA (vs := [_, _, _, _, _]) ⟨Tryz.isAgg23, Tryz.sizeOf23⟩ (OV.g rfl id) rfl (fun _ => by repeat (first | exact Rds.gets ⟨rfl, rfl, rfl, rfl, rfl, trivial⟩ | apply Rds.up))) rfl ?_
   refine WL.callG (oj := _) (vs := [_]) rfl rfl rfl GC.f Tryz.call58 ⟨OV.g rfl id, trivial⟩ (fun hg => ref06_Raw R.g hR.mays _ _) rfl ?_
   refine WL.valG (oj := _) rfl rfl rfl GC.f (V.neq (OV.g rfl id) (OV.g rfl id)) rfl ?_
   refine WL.val (V.pickOr (OV.p rfl) (OV.g rfl id)) rfl ?_
   refine WL.nil ?_
   refine WC.cond rfl (fun hc1 => ?_) (fun hc1 => ?_)
   ·simp only [Bool.or_eq_true, Bool.or_eq_false_iff, Bool.not_eq_true', Bool.not_eq_false', Bool.and_eq_true, Bool.and_eq_false_iff, decide_eq_true_eq, decide_eq_false_iff_not] at hc1
    have h1 := hc1
    have hraw : S.raw = R.g.raw := by unfold Chip.raw; rw [hS.g]
    rw [if_pos (show S.page b p = false ∨ (xs.length : Int) ≠ S.raw by
      rw [hraw, hl]
      refine h1.imp (fun h => ?_) id
      unfold Chip.page Chip.block; rw [← hS.g]; simp only [Bool.and_eq_false_iff, decide_eq_false_iff_not]; omega)] at hV
    refine WC.sr ?_
    refine WL.val (V.assign (OV.p rfl)) rfl ?_
    refine WL.nil ?_
    refine WC.ret ?_
    exact BodyQ.ret (H' := R.A a :: F) (Res.tmp rfl rfl) (fun w h => Sat.all (l := RW.parts a R) h) ⟨R, hR, by rw [hV]; exact hS, rfl, by rw [hV]⟩
   ·simp only [Bool.or_eq_true, Bool.or_eq_false_iff, Bool.not_eq_true', Bool.not_eq_false', Bool.and_eq_true, Bool.and_eq_false_iff, decide_eq_true_eq, decide_eq_false_iff_not] at hc1
    have h1 := hc1
    have hraw : S.raw = R.g.raw := by unfold Chip.raw; rw [hS.g]
    obtain ⟨⟨⟨⟨hb1, hb2⟩, hp1⟩, hp2⟩, hml⟩ := h1
    have hml : (m : Int) = R.g.raw := by simpa using hml
    rw [if_neg (show ¬ (S.page b p = false ∨ (xs.length : Int) ≠ S.raw) by
      rw [hraw, hl, Chip.page, Chip.block, ← hS.g]; simp; omega)] at hV
    obtain ⟨bn, rfl⟩ : ∃ bn : Nat, b = (bn : Int) := ⟨b.toNat, by omega⟩
    obtain ⟨pn, rfl⟩ : ∃ pn : Nat, p = (pn : Int) := ⟨p.toNat, by omega⟩
    have hlen := hS.len
    rw [← hS.g] at hlen
    have hbl : bn < R.blocks.length := by omega
    obtain ⟨x, hxb⟩ : ∃ x, R.blocks[bn]? = some x := ⟨_, List.getElem?_eq_getElem hbl⟩
    have hBI := hS.blk bn x hxb
    have hxlen := hBI.len
    rw [← hS.g] at hxlen
    have hpl : pn < x.pages.length := by omega
    obtain ⟨y, hyp⟩ : ∃ y, x.pages[pn]? = some y := ⟨_, List.getElem?_eq_getElem hpl⟩
    have hcell : ∀ {i : Nat} {v : Value}, x.cells[i]? = some v → (R.blocks.flatMap RBlock.cells ++ R.rest)[0 + (bn : Int).toNat * 4 + i]? = some v := fun {i v} hi => by
      rw [show 0 + (bn : Int).toNat * 4 + i = bn * 4 + i by omega]; exact RW.blk_get hxb hi
    refine WC.skip ?_
    refine WC.sr ?_
    refine WL.val (V.move (OV.p rfl)) rfl ?_
    refine WL.val (V.nilCheck (OV.p rfl)) rfl ?_
    refine WL.val (V.fieldAddr fo97_1 (OV.p rfl)) rfl ?_
    refine WL.val (V.load Tryz.isAgg95 (OV.p rfl) (fun _ => by repeat (first | exact Rd.here rfl | apply Rd.up))) rfl ?_
    refine WL.val (V.move (OV.p rfl)) rfl ?_
    refine WL.val (V.idxB st95 (OV.p rfl) (OV.p rfl) (fun hc => by omega)) rfl ?_
    refine WL.val (V.assign (OV.p rfl)) rfl ?_
    refine WL.nil ?_
    refine WC.seq ?_
    refine WC.sr ?_
    refine WL.val (V.move (OV.p rfl)) rfl ?_
    refine WL.val (V.move (OV.p rfl)) rfl ?_
    refine WL.val (V.nilCheck (OV.p rfl)) rfl ?_
    refine WL.val (V.fieldAddr fo100_1 (OV.p rfl)) rfl ?_
    refine WL.val (V.load Tryz.isAgg3 (OV.p rfl) (fun hc => Rd.up (Rd.here (hcell (i := 1) rfl)))) rfl ?_
    refine WL.val (V.neq (OV.p rfl) (OV.p rfl)) rfl ?_
    refine WL.nil ?_
    refine WC.cond rfl (fun hc2 => ?_) (fun hc2 => ?_)
    ·simp only [Bool.not_eq_true', Bool.not_eq_false', decide_eq_true_eq, decide_eq_false_iff_not] at hc2
     have h2 := hc2
     rw [if_pos (show (pn : Int) ≠ S.nextOf (bn : Int) by rw [← hBI.next]; exact h2)] at hV
     refine WC.sr ?_
     refine WL.val (V.assign (OV.p rfl)) rfl ?_
     refine WL.nil ?_
     refine WC.ret ?_
     exact BodyQ.ret (H' := R.A a :: F) (Res.tmp rfl rfl) (fun w h => Sat.all (l := RW.parts a R) h) ⟨R, hR, by rw [hV]; exact hS, rfl, by rw [hV]⟩
    ·simp only [Bool.not_eq_true', Bool.not_eq_false', decide_eq_true_eq, decide_eq_false_iff_not] at hc2
     have h2 := hc2
     rw [if_neg (show ¬ (pn : Int) ≠ S.nextOf (bn : Int) by rw [← hBI.next]; exact fun h => h h2)] at hV
     refine WC.skip ?_
     refine WC.sr ?_
     refine WL.val (V.move (OV.p rfl)) rfl ?_
     refine WL.call (vs := [_]) Tryz.call142 ⟨OV.p rfl, trivial⟩ (ref_deed hR.left) rfl ?_
     rintro _ _ ⟨rfl, rfl⟩
     have hSd := hS.deed
     have hRd := hR.deed
     have hcutS : S.cut = decide (R.left = 1) := by unfold Chip.cut; rw [hS.left]
     obtain ⟨cut, hcut⟩ : ∃ cut, cut = decide (R.left = 1) := ⟨_, rfl⟩
     rw [hcutS, ← hcut] at hV
     rw [← hcut]
     refine WL.val (V.assign (OV.p rfl)) rfl ?_
     refine WL.nil ?_
     refine WC.seq ?_
     refine WC.sr ?_
     refine WL.val (V.move (OV.p rfl)) rfl ?_
     refine WL.val (V.not (OV.p rfl)) rfl ?_
     refine WL.val (V.move (OV.p rfl)) rfl ?_
     refine WL.valG (oj := _) rfl rfl rfl GC.t (V.move (OV.p rfl)) rfl ?_
     refine WL.valG (oj := _) rfl rfl rfl GC.t (V.nilCheck (OV.g rfl id)) rfl ?_
     refine WL.valG (oj := _) rfl rfl rfl GC.t (V.fieldAddr fo100_3 (OV.g rfl id)) rfl ?_
     refine WL.valG (oj := _) rfl rfl rfl GC.t (V.load Tryz.isAgg4 (OV.g rfl id) (fun hc => Rd.up (Rd.here (hcell (i := 3) rfl)))) rfl ?_
     refine WL.val (V.pickAnd (OV.p rfl) (OV.g rfl id)) rfl ?_
     refine WL.nil ?_
     refine WC.cond rfl (fun hc3 => ?_) (fun hc3 => ?_)
     ·simp only [Bool.and_eq_true, Bool.and_eq_false_iff, Bool.not_eq_true', Bool.not_eq_false'] at hc3
      have h3 := hc3
      have hZ : Z = (S.deed, 72) := by rw [hV, h3.1, if_neg Bool.false_ne_true, ← hBI.fails, if_pos h3.2]
      refine WC.sr ?_
      refine WL.val (V.assign (OV.p rfl)) rfl ?_
      refine WL.nil ?_
      refine WC.ret ?_
      exact BodyQ.ret (H' := R.deed.A a :: F) (Res.tmp rfl rfl) (fun w h => Sat.all (l := RW.parts a R.deed) h) ⟨R.deed, hRd, by rw [hZ]; exact hSd, rfl, by rw [hZ]⟩
     ·simp only [Bool.and_eq_true, Bool.and_eq_false_iff, Bool.not_eq_true', Bool.not_eq_false'] at hc3
      have h3 := hc3
      obtain ⟨n, hn⟩ : ∃ n : Nat, n = if cut = true then (S.kept (m : Int)).toNat else m := ⟨_, rfl⟩
      have hnm : n ≤ m := by rw [hn]; split; unfold Chip.kept; omega; omega
      obtain ⟨P, hP⟩ : ∃ P, P = xs.take n ++ (List.replicate m (255 : Int)).drop n := ⟨_, rfl⟩
      have hPl : P.length = m := by rw [hP, List.length_append, List.length_take, List.length_drop, List.length_replicate]; omega
      have hPb : IsBytes P := by
        rw [hP]; intro z hz
        rcases List.mem_append.1 hz with h | h
        · exact hx z (List.mem_of_mem_take h)
        · rw [List.eq_of_mem_replicate (List.mem_of_mem_drop h)]; omega
      obtain ⟨S', hS'⟩ : ∃ S' : Chip, S' = { S.deed with pages := Chip.upds S.deed.pages ((bn : Int), (pn : Int)) (some P), next := S.deed.setNext (bn : Int) ((pn : Int) + 1) } := ⟨_, rfl⟩
      have hZ : Z = (S', if cut then 70 else 0) := by
        rw [hV, hS', hP, hn]
        have hbk : S.blank = List.replicate m (255 : Int) := by unfold Chip.blank; rw [hraw, ← hml, Int.toNat_natCast]
        cases hcc : cut with
        | true => rw [if_pos rfl, if_pos rfl, if_pos rfl, hl, hbk]
        | false =>
          rw [if_neg Bool.false_ne_true, if_neg Bool.false_ne_true, if_neg Bool.false_ne_true, ← hBI.fails]
          rcases h3 with h | h
          · rw [hcc] at h; cases h
          · rw [h, if_neg Bool.false_ne_true, List.take_of_length_le (by omega), List.drop_of_length_le (by simp), List.append_nil]
      have hbut : Chip.But S.deed S' bn pn ((pn : Int) + 1) := by
        refine ⟨by rw [hS'], by rw [hS'], by rw [hS'], by rw [hS'], by rw [hS'], by rw [hS']; exact List.length_set, by rw [hS'], by rw [hS'], fun k hk => by rw [hS']; exact Chip.nextOf_setN (S := S.deed) hk, fun k q hkq => ?_⟩
        rw [hS']
        refine ⟨?_, rfl⟩
        show Chip.upds S.deed.pages _ _ _ = _
        unfold Chip.upds
        rw [if_neg (fun e => hkq (by injection e with e1 e2; omega))]
      refine WC.skip ?_
      refine WC.sr ?_
      refine WL.val (V.move (OV.p rfl)) rfl ?_
      refine WL.val (V.len (t := 38) Tryz.runUnderlying38 (OV.p rfl)) rfl ?_
      refine WL.val (V.assign (OV.p rfl)) rfl ?_
      refine WL.nil ?_
      refine WC.seq ?_
      refine WC.sr ?_
      refine WL.val (V.move (OV.p rfl)) rfl ?_
      refine WL.nil ?_
      refine WC.cond rfl (fun hc4 => ?_) (fun hc4 => ?_)
      ·skip
       have h4 := hc4
       have hnv : (if R.deed.keep < 0 then (0 : Int) else min R.deed.keep (m : Int)) = (n : Int) := by rw [hn, if_pos h4]; unfold Chip.kept; rw [← hS.keep]; show (if R.keep < 0 then (0 : Int) else min R.keep (m : Int)) = _; split <;> omega
       refine WC.region ?_
       refine WL.val (V.move (OV.p rfl)) rfl ?_
       refine WL.val (V.nilCheck (OV.p rfl)) rfl ?_
       refine WL.val (V.fieldAddr fo97_5 (OV.p rfl)) rfl ?_
       refine WL.val (V.load Tryz.isAgg3 (OV.p rfl) (fun _ => by repeat (first | exact Rd.here rfl | apply Rd.up))) rfl ?_
       refine WL.val (V.move (OV.p rfl)) rfl ?_
       refine WL.call (vs := [_, _]) Tryz.call143 ⟨OV.p rfl, OV.p rfl, trivial⟩ (Tells.eq (v' := .int .i64 (n : Int)) (ref_clamp _ _) (by rw [hnv])) rfl ?_
       rintro _ H0 ⟨rfl, h0⟩
       subst H0
       refine WL.val (V.assign (OV.p rfl)) rfl ?_
       refine WL.nil ?_
       refine WC.sr ?_
       refine WL.val (V.move (OV.p rfl)) rfl ?_
       refine WL.val (V.len (t := 38) Tryz.runUnderlying38 (OV.p rfl)) rfl ?_
       refine WL.call (vs := [_]) Tryz.call57 ⟨OV.p rfl, trivial⟩ (ref_blank (m := m) hm) rfl ?_
       rintro _ _ ⟨g12, rfl, rfl⟩
       refine WL.alloc (cs := [(.slice none 0 0), (.slice none 0 0)]) Tryz.zeroValue102 rfl rfl (fun b12 => ?_)
       refine WL.store (cs := [_, _]) Tryz.sizeOf102 (OV.p rfl) (OV.p rfl) rfl rfl rfl (by repeat (first | exact Upd.here (cs' := [_, _]) rfl rfl | apply Upd.up)) ?_
       refine WL.nil ?_
       refine WC.seq ?_
       refine WC.sr ?_
       refine WL.val (V.assign (OV.p rfl)) rfl ?_
       refine WL.nil ?_
       refine WC.block ?_
       refine WC.loop (σ := Nat) (fun i => [(0, ptr a 0), (2, .int .i64 (pn : Int)), (3, .slice B m cap), (9, ptr R.bb (0 + (bn : Int).toNat * 4)), (10, .bool cut), (11, .int .i64 (n : Int)), (12, ptr b12 0), (13, .int .i64 (i : Int))]) (fun i => Cells g12 5 (ints .u8 (xs.take i ++ (List.replicate m (255 : Int)).drop i)) :: Cells b12 102 [.slice (some ⟨g12, 0, none⟩) m m, .slice none 0 0] :: Cells a 97 R.deed.cells :: Cells R.bb 100 (R.blocks.flatMap RBlock.cells ++ R.rest) :: AllA R.rows :: AllA R.own :: F) (fun i => i ≤ n) (fun i => n - i) 0 (Nat.zero_le _) (.cons rfl (.cons rfl (.cons rfl (.cons rfl (.cons rfl (.cons (look_eq rfl (by first | rfl | rw [hnv])) (.cons rfl (.cons rfl (.nil _))))))))) (fun w h => h.p1) ?_
       rintro i hi
       refine WC.seq ?_
       refine WC.sr ?_
       refine WL.val (V.move (OV.p rfl)) rfl ?_
       refine WL.val (V.move (OV.p rfl)) rfl ?_
       refine WL.val (V.lss (OV.p rfl) (OV.p rfl)) rfl ?_
       refine WL.nil ?_
       refine WC.cond rfl (fun hc5 => ?_) (fun hc5 => ?_)
       ·simp only [decide_eq_true_eq, decide_eq_false_iff_not] at hc5
        have hin : i < n := by omega
        have hrx : Rd K F (B.map (·.add ((i : Int).toNat * 1))) (.int .u8 (xs.getD i 0)) := by
          have := Seq.int_rd hs (j := (i : Int)) (by omega)
          rwa [show (i : Int).toNat = i by omega] at this ⊢
        refine WC.skip ?_
        refine WC.seq ?_
        refine WC.block ?_
        refine WC.regionA (Cells b12 102 [.slice (some ⟨g12, 0, none⟩) m m, .slice none 0 0] :: Cells a 97 R.deed.cells :: Cells R.bb 100 (R.blocks.flatMap RBlock.cells ++ R.rest) :: AllA R.rows :: AllA R.own :: F) (by kernel_rfl) ?_
        refine WA.t 0 rfl (V.fieldAddr fo102_0 (OV.p rfl)) ?_
        refine WA.t 1 rfl (V.load Tryz.isAgg38 (OV.p rfl) (fun _ => by repeat (first | exact Rd.here rfl | apply Rd.up))) ?_
        refine WA.t 2 rfl (V.move (OV.p rfl)) ?_
        refine WA.t 3 rfl (V.move (OV.p rfl)) ?_
        refine WA.t 4 rfl (V.move (OV.p rfl)) ?_
        refine WA.t 5 rfl (V.idxS st38 (OV.p rfl) (OV.p rfl) (fun hc => by omega) (fun hc => by repeat (first | exact hrx | apply Rd.up))) ?_
        refine WA.t 6 rfl (V.load Tryz.isAgg5 (OV.p rfl) (fun hc => by repeat (first | exact hrx | apply Rd.up))) ?_
        refine WA.t 7 rfl (V.idxB st38 (OV.p rfl) (OV.p rfl) (fun hc => by omega)) ?_
        refine WA.o 8 rfl ?_
        refine WL.store (cs := [_]) Tryz.sizeOf5 (OV.p rfl) (OV.p rfl) rfl rfl rfl (Upd.at_ (by simp [ints]; omega)) ?_
        refine WL.nil ?_
        refine WA.fin ?_
        refine WC.region ?_
        refine WL.val (V.move (OV.p rfl)) rfl ?_
        refine WL.val (V.addI (OV.p rfl) (OV.p rfl) (fun hc => by first | omega | (simp at hc; omega))) rfl ?_
        refine WL.val (V.assign (OV.p rfl)) rfl ?_
        refine WL.nil ?_
        refine ⟨rfl, ?_⟩
        refine ⟨i + 1, hin, (by show n - (i + 1) < n - i; omega), .cons rfl (.cons rfl (.cons rfl (.cons rfl (.cons rfl (.cons rfl (.cons rfl (.cons (look_eq rfl (by simp)) (.nil _)))))))), fun w h => Sat.cells_eq h ?_⟩
        have e1 : (ints .u8 (xs.take i ++ (List.replicate m (255 : Int)).drop i)).set (0 + (i : Int).toNat * 1) (.int .u8 (xs.getD i 0)) = ints .u8 ((xs.take i ++ (List.replicate m (255 : Int)).drop i).set i (xs.getD i 0)) := by
          rw [show 0 + (i : Int).toNat * 1 = i by omega]; simp [ints, List.map_set]
        rw [e1]
        congr 1
        have hil : i < xs.length := by omega
        rw [List.set_append_right _ _ (by rw [List.length_take]; omega), List.length_take, show i - min i xs.length = 0 by omega, List.drop_eq_getElem_cons (by rw [List.length_replicate]; omega), List.set_cons_zero, List.take_add_one, List.getElem?_eq_getElem hil, List.append_assoc]
        simp [List.getD, hil]
       ·simp only [decide_eq_true_eq, decide_eq_false_iff_not] at hc5
        refine WC.exit ?_
        refine WC.seq ?_
        obtain rfl : i = n := by omega
        rw [← hP]
        have hyr : ∀ {H : List Assn}, Rd K (AllA R.rows :: H) (some ⟨x.pb, 0 + (pn : Int).toNat * 2 + 1, none⟩) (.slice y.B y.wrong.length y.wc) := fun {H} => by
          refine Rd.inA (A := RBlock.row x) (List.mem_map_of_mem (List.mem_of_getElem? hxb)) (Rd.here ?_)
          rw [show 0 + (pn : Int).toNat * 2 + 1 = pn * 2 + 1 by omega]
          exact RBlock.pg_get hyp (i := 1) rfl
        refine WC.region ?_
        refine WL.val (V.move (OV.p rfl)) rfl ?_
        refine WL.val (V.nilCheck (OV.p rfl)) rfl ?_
        refine WL.val (V.fieldAddr fo100_0 (OV.p rfl)) rfl ?_
        refine WL.val (V.load Tryz.isAgg98 (OV.p rfl) (fun hc => Rd.up (Rd.up (Rd.up (Rd.here (hcell (i := 0) rfl)))))) rfl ?_
        refine WL.val (V.move (OV.p rfl)) rfl ?_
        refine WL.val (V.idxB st98 (OV.p rfl) (OV.p rfl) (fun hc => by omega)) rfl ?_
        refine WL.val (V.fieldAddr fo102_1 (OV.p rfl)) rfl ?_
        refine WL.val (V.load Tryz.isAgg42 (OV.p rfl) (fun hc => Rd.up (Rd.up (Rd.up (Rd.up hyr))))) rfl ?_
        refine WL.val (V.fieldAddr fo102_1 (OV.p rfl)) rfl ?_
        refine WL.store (cs := [_]) Tryz.sizeOf42 (OV.p rfl) (OV.p rfl) rfl rfl rfl (by repeat (first | exact Upd.here rfl rfl | apply Upd.up)) ?_
        refine WL.nil ?_
        refine WC.seq ?_
        have hrow : R.rows[bn]'(by show bn < R.rows.length; rw [List.length_map]; exact hbl) = RBlock.row x := by
          rw [List.getElem_map]
          congr 1
          rw [List.getElem?_eq_getElem hbl] at hxb
          exact Option.some.inj hxb
        refine WC.sub (H' := Cells x.pb 102 (x.pages.flatMap RPage.cells ++ x.pr) :: AllA (R.rows.eraseIdx bn) :: Cells g12 5 (ints .u8 P) :: Cells b12 102 [.slice (some ⟨g12, 0, none⟩) m m, .slice y.B y.wrong.length y.wc] :: Cells a 97 R.deed.cells :: Cells R.bb 100 (R.blocks.flatMap RBlock.cells ++ R.rest) :: AllA R.own :: F) (Sub.refl _) (fun w h => by
          have h' := Sat.takeA (k := bn) (by show bn < R.rows.length; rw [List.length_map]; exact hbl) (h.sel 6 [4, 0, 1, 2, 3, 5] rfl)
          rw [hrow] at h'
          exact h') ?_
        refine WC.regionA (AllA (R.rows.eraseIdx bn) :: Cells g12 5 (ints .u8 P) :: Cells b12 102 [.slice (some ⟨g12, 0, none⟩) m m, .slice y.B y.wrong.length y.wc] :: Cells a 97 R.deed.cells :: Cells R.bb 100 (R.blocks.flatMap RBlock.cells ++ R.rest) :: AllA R.own :: F) (by kernel_rfl) ?_
        refine WA.t 0 rfl (V.move (OV.p rfl)) ?_
        refine WA.t 1 rfl (V.nilCheck (OV.p rfl)) ?_
        refine WA.t 2 rfl (V.fieldAddr fo100_0 (OV.p rfl)) ?_
        refine WA.t 3 rfl (V.load Tryz.isAgg98 (OV.p rfl) (fun hc => Rd.up (Rd.up (Rd.up (Rd.up (Rd.here (hcell (i := 0) rfl))))))) ?_
        refine WA.t 4 rfl (V.move (OV.p rfl)) ?_
        refine WA.t 5 rfl (V.loadA (vs := [_, _]) ⟨Tryz.isAgg102, Tryz.sizeOf102⟩ (OV.p rfl) rfl (fun _ => by repeat (first | exact Rds.gets ⟨rfl, rfl, trivial⟩ | apply Rds.up))) ?_
        refine WA.t 6 rfl (V.idxB st98 (OV.p rfl) (OV.p rfl) (fun hc => by omega)) ?_
        refine WA.o 7 rfl ?_
        refine WL.store (cs := [_, _]) Tryz.sizeOf102 (OV.p rfl) (OV.p rfl) rfl rfl rfl (Upd.here (Nat.ble_eq_true_of_le (by
          have h1 : (pn + 1) * 2 ≤ x.pages.length * 2 := Nat.mul_le_mul_right _ hpl
          rw [List.length_append, flat_length pcells_len]; show 0 + (pn : Int).toNat * 2 + 2 ≤ _; omega)) rfl) ?_
        refine WL.nil ?_
        refine WA.fin ?_
        refine WC.sr ?_
        refine WL.val (V.move (OV.p rfl)) rfl ?_
        refine WL.val (V.nilCheck (OV.p rfl)) rfl ?_
        refine WL.val (V.fieldAddr fo100_1 (OV.p rfl)) rfl ?_
        refine WL.val (V.load Tryz.isAgg3 (OV.p rfl) (fun hc => Rd.up (Rd.up (Rd.up (Rd.up (Rd.up (Rd.here (hcell (i := 1) rfl)))))))) rfl ?_
        refine WL.val (V.addI (OV.p rfl) (OV.p rfl) (fun hc => by have := hR.next x (List.mem_of_getElem? hxb); omega)) rfl ?_
        refine WL.val (V.nilCheck (OV.p rfl)) rfl ?_
        refine WL.val (V.fieldAddr fo100_1 (OV.p rfl)) rfl ?_
        refine WL.store (cs := [_]) Tryz.sizeOf3 (OV.p rfl) (OV.p rfl) rfl rfl rfl (Upd.up (Upd.up (Upd.up (Upd.up (Upd.up (Upd.at_ (by
          have h1 : (bn + 1) * 4 ≤ R.blocks.length * 4 := Nat.mul_le_mul_right _ hbl
          rw [List.length_append, flat_length rcells_len]; show 0 + (bn : Int).toNat * 4 + 1 < _; omega))))))) ?_
        refine WL.nil ?_
        refine WC.seq ?_
        refine WC.sr ?_
        refine WL.val (V.move (OV.p rfl)) rfl ?_
        refine WL.nil ?_
        refine WC.cond rfl (fun hc6 => ?_) (fun hc6 => ?_)
        ·skip
         have h6 := hc6
         have hfin : ∀ w, Sat K w (Cells x.pb 102 (setL (x.pages.flatMap RPage.cells ++ x.pr) (0 + (pn : Int).toNat * 2) [.slice (some ⟨g12, 0, none⟩) m m, .slice y.B y.wrong.length y.wc]) :: AllA (R.rows.eraseIdx bn) :: Cells g12 5 (ints .u8 P) :: Cells b12 102 [.slice (some ⟨g12, 0, none⟩) m m, .slice y.B y.wrong.length y.wc] :: Cells a 97 R.deed.cells :: Cells R.bb 100 ((R.blocks.flatMap RBlock.cells ++ R.rest).set (0 + (bn : Int).toNat * 4 + 1) (.int .i64 (x.next + 1))) :: AllA R.own :: F) → Sat K w ((R.deed.setB bn (x.setP pn ⟨some ⟨g12, 0, none⟩, m, P, y.B, y.wc, y.wrong⟩ (x.next + 1)) (Cells g12 5 (ints .u8 P) :: R.own)).A a :: F) := fun w h => by
           rw [show 0 + (pn : Int).toNat * 2 = pn * 2 by omega, show 0 + (bn : Int).toNat * 4 + 1 = bn * 4 + 1 by omega] at h
           refine RW.foldP (R := R.deed) (y := y) hxb hyp ?_
           have h1 := (h.sel 7 [2, 6, 0, 1, 4, 5] rfl).absorb.sel 5 [1, 2, 3, 4, 0] rfl
           rw [show RPage.cells ⟨some ⟨g12, 0, none⟩, m, P, y.B, y.wc, y.wrong⟩ = [.slice (some ⟨g12, 0, none⟩) m m, .slice y.B y.wrong.length y.wc] by dsimp only [RPage.cells]; rw [hPl]]
           exact h1
         have hyo := hR.pgs x (List.mem_of_getElem? hxb) y (List.mem_of_getElem? hyp)
         have hup : ∀ K w, Sat K w [AllA (Cells g12 5 (ints .u8 P) :: R.own)] → Sat K w [AllA R.own] := fun K w h => Sat.all (l := R.own) (H := []) h.unall.tail
         have hpo : PageOk (Cells g12 5 (ints .u8 P) :: R.own) R.g ⟨some ⟨g12, 0, none⟩, m, P, y.B, y.wc, y.wrong⟩ := ⟨SeqIn.here fun K => Seq.allI rfl, hyo.wa.up, by show (P.length : Int) = _; omega, hPb, hyo.wb, hyo.wl⟩
         have hok := hRd.setP (b := bn) (p := pn) (nx := x.next + 1) hxb hpo hup (by have := hR.next x (List.mem_of_getElem? hxb); show 0 ≤ x.next + 1 ∧ x.next + 1 ≤ R.g.pg; omega)
         have his := hSd.setP (b := bn) (p := pn) (own := Cells g12 5 (ints .u8 P) :: R.own) hxb (by rw [h2] at hbut; exact hbut) (y := ⟨some ⟨g12, 0, none⟩, m, P, y.B, y.wc, y.wrong⟩) ⟨by rw [hS']; show P = (Chip.upds S.deed.pages _ _ _).getD _; unfold Chip.upds; rw [if_pos rfl]; rfl, by rw [hS']; exact (hBI.pg pn y hyp).wrong⟩ hpl
         refine WC.sr ?_
         refine WL.val (V.assign (OV.p rfl)) rfl ?_
         refine WL.nil ?_
         refine WC.ret ?_
         exact BodyQ.ret (Res.tmp rfl rfl) hfin ⟨_, hok, by rw [hZ]; exact his, rfl, by rw [hZ, h6]; rfl⟩
        ·skip
         have h6 := hc6
         have hfin : ∀ w, Sat K w (Cells x.pb 102 (setL (x.pages.flatMap RPage.cells ++ x.pr) (0 + (pn : Int).toNat * 2) [.slice (some ⟨g12, 0, none⟩) m m, .slice y.B y.wrong.length y.wc]) :: AllA (R.rows.eraseIdx bn) :: Cells g12 5 (ints .u8 P) :: Cells b12 102 [.slice (some ⟨g12, 0, none⟩) m m, .slice y.B y.wrong.length y.wc] :: Cells a 97 R.deed.cells :: Cells R.bb 100 ((R.blocks.flatMap RBlock.cells ++ R.rest).set (0 + (bn : Int).toNat * 4 + 1) (.int .i64 (x.next + 1))) :: AllA R.own :: F) → Sat K w ((R.deed.setB bn (x.setP pn ⟨some ⟨g12, 0, none⟩, m, P, y.B, y.wc, y.wrong⟩ (x.next + 1)) (Cells g12 5 (ints .u8 P) :: R.own)).A a :: F) := fun w h => by
           rw [show 0 + (pn : Int).toNat * 2 = pn * 2 by omega, show 0 + (bn : Int).toNat * 4 + 1 = bn * 4 + 1 by omega] at h
           refine RW.foldP (R := R.deed) (y := y) hxb hyp ?_
           have h1 := (h.sel 7 [2, 6, 0, 1, 4, 5] rfl).absorb.sel 5 [1, 2, 3, 4, 0] rfl
           rw [show RPage.cells ⟨some ⟨g12, 0, none⟩, m, P, y.B, y.wc, y.wrong⟩ = [.slice (some ⟨g12, 0, none⟩) m m, .slice y.B y.wrong.length y.wc] by dsimp only [RPage.cells]; rw [hPl]]
           exact h1
         have hyo := hR.pgs x (List.mem_of_getElem? hxb) y (List.mem_of_getElem? hyp)
         have hup : ∀ K w, Sat K w [AllA (Cells g12 5 (ints .u8 P) :: R.own)] → Sat K w [AllA R.own] := fun K w h => Sat.all (l := R.own) (H := []) h.unall.tail
         have hpo : PageOk (Cells g12 5 (ints .u8 P) :: R.own) R.g ⟨some ⟨g12, 0, none⟩, m, P, y.B, y.wc, y.wrong⟩ := ⟨SeqIn.here fun K => Seq.allI rfl, hyo.wa.up, by show (P.length : Int) = _; omega, hPb, hyo.wb, hyo.wl⟩
         have hok := hRd.setP (b := bn) (p := pn) (nx := x.next + 1) hxb hpo hup (by have := hR.next x (List.mem_of_getElem? hxb); show 0 ≤ x.next + 1 ∧ x.next + 1 ≤ R.g.pg; omega)
         have his := hSd.setP (b := bn) (p := pn) (own := Cells g12 5 (ints .u8 P) :: R.own) hxb (by rw [h2] at hbut; exact hbut) (y := ⟨some ⟨g12, 0, none⟩, m, P, y.B, y.wc, y.wrong⟩) ⟨by rw [hS']; show P = (Chip.upds S.deed.pages _ _ _).getD _; unfold Chip.upds; rw [if_pos rfl]; rfl, by rw [hS']; exact (hBI.pg pn y hyp).wrong⟩ hpl
         refine WC.skip ?_
         refine WC.sr ?_
         refine WL.val (V.assign (OV.p rfl)) rfl ?_
         refine WL.nil ?_
         refine WC.ret ?_
         exact BodyQ.ret (Res.tmp rfl rfl) hfin ⟨_, hok, by rw [hZ]; exact his, rfl, by rw [hZ, h6]; rfl⟩
      ·skip
       have h4 := hc4
       have hnv : n = m := by rw [hn, if_neg (by rw [h4]; decide)]
       refine WC.skip ?_
       refine WC.sr ?_
       refine WL.val (V.move (OV.p rfl)) rfl ?_
       refine WL.val (V.len (t := 38) Tryz.runUnderlying38 (OV.p rfl)) rfl ?_
       refine WL.call (vs := [_]) Tryz.call57 ⟨OV.p rfl, trivial⟩ (ref_blank (m := m) hm) rfl ?_
       rintro _ _ ⟨g12, rfl, rfl⟩
       refine WL.alloc (cs := [(.slice none 0 0), (.slice none 0 0)]) Tryz.zeroValue102 rfl rfl (fun b12 => ?_)
       refine WL.store (cs := [_, _]) Tryz.sizeOf102 (OV.p rfl) (OV.p rfl) rfl rfl rfl (by repeat (first | exact Upd.here (cs' := [_, _]) rfl rfl | apply Upd.up)) ?_
       refine WL.nil ?_
       refine WC.seq ?_
       refine WC.sr ?_
       refine WL.val (V.assign (OV.p rfl)) rfl ?_
       refine WL.nil ?_
       refine WC.block ?_
       refine WC.loop (σ := Nat) (fun i => [(0, ptr a 0), (2, .int .i64 (pn : Int)), (3, .slice B m cap), (9, ptr R.bb (0 + (bn : Int).toNat * 4)), (10, .bool cut), (11, .int .i64 (n : Int)), (12, ptr b12 0), (13, .int .i64 (i : Int))]) (fun i => Cells g12 5 (ints .u8 (xs.take i ++ (List.replicate m (255 : Int)).drop i)) :: Cells b12 102 [.slice (some ⟨g12, 0, none⟩) m m, .slice none 0 0] :: Cells a 97 R.deed.cells :: Cells R.bb 100 (R.blocks.flatMap RBlock.cells ++ R.rest) :: AllA R.rows :: AllA R.own :: F) (fun i => i ≤ n) (fun i => n - i) 0 (Nat.zero_le _) (.cons rfl (.cons rfl (.cons rfl (.cons rfl (.cons rfl (.cons (look_eq rfl (by first | rfl | rw [hnv])) (.cons rfl (.cons rfl (.nil _))))))))) (fun w h => h.p1) ?_
       rintro i hi
       refine WC.seq ?_
       refine WC.sr ?_
       refine WL.val (V.move (OV.p rfl)) rfl ?_
       refine WL.val (V.move (OV.p rfl)) rfl ?_
       refine WL.val (V.lss (OV.p rfl) (OV.p rfl)) rfl ?_
       refine WL.nil ?_
       refine WC.cond rfl (fun hc5 => ?_) (fun hc5 => ?_)
       ·simp only [decide_eq_true_eq, decide_eq_false_iff_not] at hc5
        have hin : i < n := by omega
        have hrx : Rd K F (B.map (·.add ((i : Int).toNat * 1))) (.int .u8 (xs.getD i 0)) := by
          have := Seq.int_rd hs (j := (i : Int)) (by omega)
          rwa [show (i : Int).toNat = i by omega] at this ⊢
        refine WC.skip ?_
        refine WC.seq ?_
        refine WC.block ?_
        refine WC.regionA (Cells b12 102 [.slice (some ⟨g12, 0, none⟩) m m, .slice none 0 0] :: Cells a 97 R.deed.cells :: Cells R.bb 100 (R.blocks.flatMap RBlock.cells ++ R.rest) :: AllA R.rows :: AllA R.own :: F) (by kernel_rfl) ?_
        refine WA.t 0 rfl (V.fieldAddr fo102_0 (OV.p rfl)) ?_
        refine WA.t 1 rfl (V.load Tryz.isAgg38 (OV.p rfl) (fun _ => by repeat (first | exact Rd.here rfl | apply Rd.up))) ?_
        refine WA.t 2 rfl (V.move (OV.p rfl)) ?_
        refine WA.t 3 rfl (V.move (OV.p rfl)) ?_
        refine WA.t 4 rfl (V.move (OV.p rfl)) ?_
        refine WA.t 5 rfl (V.idxS st38 (OV.p rfl) (OV.p rfl) (fun hc => by omega) (fun hc => by repeat (first | exact hrx | apply Rd.up))) ?_
        refine WA.t 6 rfl (V.load Tryz.isAgg5 (OV.p rfl) (fun hc => by repeat (first | exact hrx | apply Rd.up))) ?_
        refine WA.t 7 rfl (V.idxB st38 (OV.p rfl) (OV.p rfl) (fun hc => by omega)) ?_
        refine WA.o 8 rfl ?_
        refine WL.store (cs := [_]) Tryz.sizeOf5 (OV.p rfl) (OV.p rfl) rfl rfl rfl (Upd.at_ (by simp [ints]; omega)) ?_
        refine WL.nil ?_
        refine WA.fin ?_
        refine WC.region ?_
        refine WL.val (V.move (OV.p rfl)) rfl ?_
        refine WL.val (V.addI (OV.p rfl) (OV.p rfl) (fun hc => by first | omega | (simp at hc; omega))) rfl ?_
        refine WL.val (V.assign (OV.p rfl)) rfl ?_
        refine WL.nil ?_
        refine ⟨rfl, ?_⟩
        refine ⟨i + 1, hin, (by show n - (i + 1) < n - i; omega), .cons rfl (.cons rfl (.cons rfl (.cons rfl (.cons rfl (.cons rfl (.cons rfl (.cons (look_eq rfl (by simp)) (.nil _)))))))), fun w h => Sat.cells_eq h ?_⟩
        have e1 : (ints .u8 (xs.take i ++ (List.replicate m (255 : Int)).drop i)).set (0 + (i : Int).toNat * 1) (.int .u8 (xs.getD i 0)) = ints .u8 ((xs.take i ++ (List.replicate m (255 : Int)).drop i).set i (xs.getD i 0)) := by
          rw [show 0 + (i : Int).toNat * 1 = i by omega]; simp [ints, List.map_set]
        rw [e1]
        congr 1
        have hil : i < xs.length := by omega
        rw [List.set_append_right _ _ (by rw [List.length_take]; omega), List.length_take, show i - min i xs.length = 0 by omega, List.drop_eq_getElem_cons (by rw [List.length_replicate]; omega), List.set_cons_zero, List.take_add_one, List.getElem?_eq_getElem hil, List.append_assoc]
        simp [List.getD, hil]
       ·simp only [decide_eq_true_eq, decide_eq_false_iff_not] at hc5
        refine WC.exit ?_
        refine WC.seq ?_
        obtain rfl : i = n := by omega
        rw [← hP]
        have hyr : ∀ {H : List Assn}, Rd K (AllA R.rows :: H) (some ⟨x.pb, 0 + (pn : Int).toNat * 2 + 1, none⟩) (.slice y.B y.wrong.length y.wc) := fun {H} => by
          refine Rd.inA (A := RBlock.row x) (List.mem_map_of_mem (List.mem_of_getElem? hxb)) (Rd.here ?_)
          rw [show 0 + (pn : Int).toNat * 2 + 1 = pn * 2 + 1 by omega]
          exact RBlock.pg_get hyp (i := 1) rfl
        refine WC.region ?_
        refine WL.val (V.move (OV.p rfl)) rfl ?_
        refine WL.val (V.nilCheck (OV.p rfl)) rfl ?_
        refine WL.val (V.fieldAddr fo100_0 (OV.p rfl)) rfl ?_
        refine WL.val (V.load Tryz.isAgg98 (OV.p rfl) (fun hc => Rd.up (Rd.up (Rd.up (Rd.here (hcell (i := 0) rfl)))))) rfl ?_
        refine WL.val (V.move (OV.p rfl)) rfl ?_
        refine WL.val (V.idxB st98 (OV.p rfl) (OV.p rfl) (fun hc => by omega)) rfl ?_
        refine WL.val (V.fieldAddr fo102_1 (OV.p rfl)) rfl ?_
        refine WL.val (V.load Tryz.isAgg42 (OV.p rfl) (fun hc => Rd.up (Rd.up (Rd.up (Rd.up hyr))))) rfl ?_
        refine WL.val (V.fieldAddr fo102_1 (OV.p rfl)) rfl ?_
        refine WL.store (cs := [_]) Tryz.sizeOf42 (OV.p rfl) (OV.p rfl) rfl rfl rfl (by repeat (first | exact Upd.here rfl rfl | apply Upd.up)) ?_
        refine WL.nil ?_
        refine WC.seq ?_
        have hrow : R.rows[bn]'(by show bn < R.rows.length; rw [List.length_map]; exact hbl) = RBlock.row x := by
          rw [List.getElem_map]
          congr 1
          rw [List.getElem?_eq_getElem hbl] at hxb
          exact Option.some.inj hxb
        refine WC.sub (H' := Cells x.pb 102 (x.pages.flatMap RPage.cells ++ x.pr) :: AllA (R.rows.eraseIdx bn) :: Cells g12 5 (ints .u8 P) :: Cells b12 102 [.slice (some ⟨g12, 0, none⟩) m m, .slice y.B y.wrong.length y.wc] :: Cells a 97 R.deed.cells :: Cells R.bb 100 (R.blocks.flatMap RBlock.cells ++ R.rest) :: AllA R.own :: F) (Sub.refl _) (fun w h => by
          have h' := Sat.takeA (k := bn) (by show bn < R.rows.length; rw [List.length_map]; exact hbl) (h.sel 6 [4, 0, 1, 2, 3, 5] rfl)
          rw [hrow] at h'
          exact h') ?_
        refine WC.regionA (AllA (R.rows.eraseIdx bn) :: Cells g12 5 (ints .u8 P) :: Cells b12 102 [.slice (some ⟨g12, 0, none⟩) m m, .slice y.B y.wrong.length y.wc] :: Cells a 97 R.deed.cells :: Cells R.bb 100 (R.blocks.flatMap RBlock.cells ++ R.rest) :: AllA R.own :: F) (by kernel_rfl) ?_
        refine WA.t 0 rfl (V.move (OV.p rfl)) ?_
        refine WA.t 1 rfl (V.nilCheck (OV.p rfl)) ?_
        refine WA.t 2 rfl (V.fieldAddr fo100_0 (OV.p rfl)) ?_
        refine WA.t 3 rfl (V.load Tryz.isAgg98 (OV.p rfl) (fun hc => Rd.up (Rd.up (Rd.up (Rd.up (Rd.here (hcell (i := 0) rfl))))))) ?_
        refine WA.t 4 rfl (V.move (OV.p rfl)) ?_
        refine WA.t 5 rfl (V.loadA (vs := [_, _]) ⟨Tryz.isAgg102, Tryz.sizeOf102⟩ (OV.p rfl) rfl (fun _ => by repeat (first | exact Rds.gets ⟨rfl, rfl, trivial⟩ | apply Rds.up))) ?_
        refine WA.t 6 rfl (V.idxB st98 (OV.p rfl) (OV.p rfl) (fun hc => by omega)) ?_
        refine WA.o 7 rfl ?_
        refine WL.store (cs := [_, _]) Tryz.sizeOf102 (OV.p rfl) (OV.p rfl) rfl rfl rfl (Upd.here (Nat.ble_eq_true_of_le (by
          have h1 : (pn + 1) * 2 ≤ x.pages.length * 2 := Nat.mul_le_mul_right _ hpl
          rw [List.length_append, flat_length pcells_len]; show 0 + (pn : Int).toNat * 2 + 2 ≤ _; omega)) rfl) ?_
        refine WL.nil ?_
        refine WA.fin ?_
        refine WC.sr ?_
        refine WL.val (V.move (OV.p rfl)) rfl ?_
        refine WL.val (V.nilCheck (OV.p rfl)) rfl ?_
        refine WL.val (V.fieldAddr fo100_1 (OV.p rfl)) rfl ?_
        refine WL.val (V.load Tryz.isAgg3 (OV.p rfl) (fun hc => Rd.up (Rd.up (Rd.up (Rd.up (Rd.up (Rd.here (hcell (i := 1) rfl)))))))) rfl ?_
        refine WL.val (V.addI (OV.p rfl) (OV.p rfl) (fun hc => by have := hR.next x (List.mem_of_getElem? hxb); omega)) rfl ?_
        refine WL.val (V.nilCheck (OV.p rfl)) rfl ?_
        refine WL.val (V.fieldAddr fo100_1 (OV.p rfl)) rfl ?_
        refine WL.store (cs := [_]) Tryz.sizeOf3 (OV.p rfl) (OV.p rfl) rfl rfl rfl (Upd.up (Upd.up (Upd.up (Upd.up (Upd.up (Upd.at_ (by
          have h1 : (bn + 1) * 4 ≤ R.blocks.length * 4 := Nat.mul_le_mul_right _ hbl
          rw [List.length_append, flat_length rcells_len]; show 0 + (bn : Int).toNat * 4 + 1 < _; omega))))))) ?_
        refine WL.nil ?_
        refine WC.seq ?_
        refine WC.sr ?_
        refine WL.val (V.move (OV.p rfl)) rfl ?_
        refine WL.nil ?_
        refine WC.cond rfl (fun hc6 => ?_) (fun hc6 => ?_)
        ·skip
         have h6 := hc6
         have hfin : ∀ w, Sat K w (Cells x.pb 102 (setL (x.pages.flatMap RPage.cells ++ x.pr) (0 + (pn : Int).toNat * 2) [.slice (some ⟨g12, 0, none⟩) m m, .slice y.B y.wrong.length y.wc]) :: AllA (R.rows.eraseIdx bn) :: Cells g12 5 (ints .u8 P) :: Cells b12 102 [.slice (some ⟨g12, 0, none⟩) m m, .slice y.B y.wrong.length y.wc] :: Cells a 97 R.deed.cells :: Cells R.bb 100 ((R.blocks.flatMap RBlock.cells ++ R.rest).set (0 + (bn : Int).toNat * 4 + 1) (.int .i64 (x.next + 1))) :: AllA R.own :: F) → Sat K w ((R.deed.setB bn (x.setP pn ⟨some ⟨g12, 0, none⟩, m, P, y.B, y.wc, y.wrong⟩ (x.next + 1)) (Cells g12 5 (ints .u8 P) :: R.own)).A a :: F) := fun w h => by
           rw [show 0 + (pn : Int).toNat * 2 = pn * 2 by omega, show 0 + (bn : Int).toNat * 4 + 1 = bn * 4 + 1 by omega] at h
           refine RW.foldP (R := R.deed) (y := y) hxb hyp ?_
           have h1 := (h.sel 7 [2, 6, 0, 1, 4, 5] rfl).absorb.sel 5 [1, 2, 3, 4, 0] rfl
           rw [show RPage.cells ⟨some ⟨g12, 0, none⟩, m, P, y.B, y.wc, y.wrong⟩ = [.slice (some ⟨g12, 0, none⟩) m m, .slice y.B y.wrong.length y.wc] by dsimp only [RPage.cells]; rw [hPl]]
           exact h1
         have hyo := hR.pgs x (List.mem_of_getElem? hxb) y (List.mem_of_getElem? hyp)
         have hup : ∀ K w, Sat K w [AllA (Cells g12 5 (ints .u8 P) :: R.own)] → Sat K w [AllA R.own] := fun K w h => Sat.all (l := R.own) (H := []) h.unall.tail
         have hpo : PageOk (Cells g12 5 (ints .u8 P) :: R.own) R.g ⟨some ⟨g12, 0, none⟩, m, P, y.B, y.wc, y.wrong⟩ := ⟨SeqIn.here fun K => Seq.allI rfl, hyo.wa.up, by show (P.length : Int) = _; omega, hPb, hyo.wb, hyo.wl⟩
         have hok := hRd.setP (b := bn) (p := pn) (nx := x.next + 1) hxb hpo hup (by have := hR.next x (List.mem_of_getElem? hxb); show 0 ≤ x.next + 1 ∧ x.next + 1 ≤ R.g.pg; omega)
         have his := hSd.setP (b := bn) (p := pn) (own := Cells g12 5 (ints .u8 P) :: R.own) hxb (by rw [h2] at hbut; exact hbut) (y := ⟨some ⟨g12, 0, none⟩, m, P, y.B, y.wc, y.wrong⟩) ⟨by rw [hS']; show P = (Chip.upds S.deed.pages _ _ _).getD _; unfold Chip.upds; rw [if_pos rfl]; rfl, by rw [hS']; exact (hBI.pg pn y hyp).wrong⟩ hpl
         refine WC.sr ?_
         refine WL.val (V.assign (OV.p rfl)) rfl ?_
         refine WL.nil ?_
         refine WC.ret ?_
         exact BodyQ.ret (Res.tmp rfl rfl) hfin ⟨_, hok, by rw [hZ]; exact his, rfl, by rw [hZ, h6]; rfl⟩
        ·skip
         have h6 := hc6
         have hfin : ∀ w, Sat K w (Cells x.pb 102 (setL (x.pages.flatMap RPage.cells ++ x.pr) (0 + (pn : Int).toNat * 2) [.slice (some ⟨g12, 0, none⟩) m m, .slice y.B y.wrong.length y.wc]) :: AllA (R.rows.eraseIdx bn) :: Cells g12 5 (ints .u8 P) :: Cells b12 102 [.slice (some ⟨g12, 0, none⟩) m m, .slice y.B y.wrong.length y.wc] :: Cells a 97 R.deed.cells :: Cells R.bb 100 ((R.blocks.flatMap RBlock.cells ++ R.rest).set (0 + (bn : Int).toNat * 4 + 1) (.int .i64 (x.next + 1))) :: AllA R.own :: F) → Sat K w ((R.deed.setB bn (x.setP pn ⟨some ⟨g12, 0, none⟩, m, P, y.B, y.wc, y.wrong⟩ (x.next + 1)) (Cells g12 5 (ints .u8 P) :: R.own)).A a :: F) := fun w h => by
           rw [show 0 + (pn : Int).toNat * 2 = pn * 2 by omega, show 0 + (bn : Int).toNat * 4 + 1 = bn * 4 + 1 by omega] at h
           refine RW.foldP (R := R.deed) (y := y) hxb hyp ?_
           have h1 := (h.sel 7 [2, 6, 0, 1, 4, 5] rfl).absorb.sel 5 [1, 2, 3, 4, 0] rfl
           rw [show RPage.cells ⟨some ⟨g12, 0, none⟩, m, P, y.B, y.wc, y.wrong⟩ = [.slice (some ⟨g12, 0, none⟩) m m, .slice y.B y.wrong.length y.wc] by dsimp only [RPage.cells]; rw [hPl]]
           exact h1
         have hyo := hR.pgs x (List.mem_of_getElem? hxb) y (List.mem_of_getElem? hyp)
         have hup : ∀ K w, Sat K w [AllA (Cells g12 5 (ints .u8 P) :: R.own)] → Sat K w [AllA R.own] := fun K w h => Sat.all (l := R.own) (H := []) h.unall.tail
         have hpo : PageOk (Cells g12 5 (ints .u8 P) :: R.own) R.g ⟨some ⟨g12, 0, none⟩, m, P, y.B, y.wc, y.wrong⟩ := ⟨SeqIn.here fun K => Seq.allI rfl, hyo.wa.up, by show (P.length : Int) = _; omega, hPb, hyo.wb, hyo.wl⟩
         have hok := hRd.setP (b := bn) (p := pn) (nx := x.next + 1) hxb hpo hup (by have := hR.next x (List.mem_of_getElem? hxb); show 0 ≤ x.next + 1 ∧ x.next + 1 ≤ R.g.pg; omega)
         have his := hSd.setP (b := bn) (p := pn) (own := Cells g12 5 (ints .u8 P) :: R.own) hxb (by rw [h2] at hbut; exact hbut) (y := ⟨some ⟨g12, 0, none⟩, m, P, y.B, y.wc, y.wrong⟩) ⟨by rw [hS']; show P = (Chip.upds S.deed.pages _ _ _).getD _; unfold Chip.upds; rw [if_pos rfl]; rfl, by rw [hS']; exact (hBI.pg pn y hyp).wrong⟩ hpl
         refine WC.skip ?_
         refine WC.sr ?_
         refine WL.val (V.assign (OV.p rfl)) rfl ?_
         refine WL.nil ?_
         refine WC.ret ?_
         exact BodyQ.ret (Res.tmp rfl rfl) hfin ⟨_, hok, by rw [hZ]; exact his, rfl, by rw [hZ, h6]; rfl⟩
end
end Go.Proofs.YtohkefolnmcjnaaGreat
