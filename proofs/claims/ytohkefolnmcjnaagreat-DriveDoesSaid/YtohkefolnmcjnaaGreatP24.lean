import Derived.Test.YtohkefolnmcjnaaGreatP23
/- The reference's chip: Read, Force, New. -/
namespace Go.Proofs.YtohkefolnmcjnaaGreat
open Go.Sl Go.RowKit
set_option linter.unusedVariables false
set_option linter.unusedSimpArgs false
set_option maxRecDepth 20000

theorem flip8_comm {x i j : Int} : flip8 (flip8 x i) j = flip8 (flip8 x j) i := by
  unfold flip8
  rw [Int.toNat_natCast, Int.toNat_natCast, Nat.xor_assoc, Nat.xor_comm (2 ^ i.toNat), ← Nat.xor_assoc]
theorem turn1_comm (xs : List Int) (i j : Int) : turn1 (turn1 xs i) j = turn1 (turn1 xs j) i := by
  unfold turn1
  by_cases h : (i / 8).toNat = (j / 8).toNat
  · rw [h]
    by_cases hl : (j / 8).toNat < xs.length
    · have e : ∀ v : Int, (xs.set (j / 8).toNat v).getD (j / 8).toNat 0 = v := fun v => by simp [List.getD, hl]
      rw [e, e, List.set_set, List.set_set, flip8_comm]
    · rw [List.set_eq_of_length_le (by simp; omega), List.set_eq_of_length_le (by omega), List.set_eq_of_length_le (by simp; omega), List.set_eq_of_length_le (by omega)]
  · have e1 : ∀ v : Int, (xs.set (i / 8).toNat v).getD (j / 8).toNat 0 = xs.getD (j / 8).toNat 0 := fun v => by simp [List.getD, List.getElem?_set, h]
    have h' : ¬ (j / 8).toNat = (i / 8).toNat := fun e => h e.symm
    have e2 : ∀ v : Int, (xs.set (j / 8).toNat v).getD (i / 8).toNat 0 = xs.getD (i / 8).toNat 0 := fun v => by simp [List.getD, List.getElem?_set, h']
    rw [e1, e2, List.set_comm _ _ h]
theorem turn_perm {l l' : List Int} (h : List.Perm l l') : ∀ xs, turn xs l = turn xs l' := by
  induction h with
  | nil => intro xs; rfl
  | cons a _ ih => intro xs; exact ih (turn1 xs a)
  | swap a b l => intro xs; show turn (turn1 (turn1 xs b) a) l = turn (turn1 (turn1 xs a) b) l; rw [turn1_comm]
  | trans _ _ ih1 ih2 => intro xs; rw [ih1, ih2]
section
variable {a : Nat} {R : RW} {S : Chip} {K : World} {F : List Assn}
theorem ref_Read (hR : R.Ok) (hS : R.Is S) (b p : Int) : Does Tryz.prog 69 #[ptr a 0, .int .i64 b, .int .i64 p] K (R.A a :: F)
    (fun v H' => (S.readErr b p = 0 ∧ ∃ g, v = .tuple #[.slice (some ⟨g, 0, none⟩) R.g.raw.toNat R.g.raw.toNat, .int .i64 0] ∧ H' = Cells g 5 (ints .u8 (S.reads b p)) :: R.A a :: F) ∨
      (S.readErr b p ≠ 0 ∧ v = .tuple #[.slice none 0 0, .int .i64 (S.readErr b p)] ∧ H' = R.A a :: F)) := by
  have hgb := hR.mays
  have hrb := Geo.raw_bd hR.mays
  unfold Geo.mays at hgb
  refine Does.openR ?_
  dsimp only [RW.parts, List.cons_append, List.nil_append]
  refine Does.enter Tryz.func69 rfl Tryz.ntmps69 rfl ?_
  simp only [env0, Nat.reduceAdd]
  refine WC.sr ?_
  refine WL.val (V.assign (OV.p rfl)) rfl ?_
  refine WL.val (V.assign (OV.p rfl)) rfl ?_
  refine WL.nil ?_
  refine WC.seq ?_
  refine WC.sr ?_
  refine WL.val (V.move (OV.p rfl)) rfl ?_
  refine WL.val (V.nilCheck (OV.p rfl)) rfl ?_
  refine WL.val (V.fieldAddr fo97_3 (OV.p rfl)) rfl ?_
  refine WL.val (V.load Tryz.isAgg4 (OV.p rfl) (fun _ => by repeat (first | exact Rd.here rfl | apply Rd.up))) rfl ?_
  refine WL.val (V.not (OV.p rfl)) rfl ?_
  refine WL.nil ?_
  refine WC.cond rfl (fun hc0 => ?_) (fun hc0 => ?_)
  ·simp only [Bool.not_eq_true', Bool.not_eq_false'] at hc0
   have hE : S.readErr b p = 70 := by unfold Chip.readErr; rw [if_pos (show S.up = false by rw [← hS.up]; exact hc0)]
   refine WC.sr ?_
   refine WL.val (V.assign (OV.p rfl)) rfl ?_
   refine WL.val (V.assign (OV.p rfl)) rfl ?_
   refine WL.nil ?_
   refine WC.ret ?_
   exact BodyQ.ret (H' := R.A a :: F) (Res.tmp2 rfl rfl rfl) (fun w h => Sat.all (l := RW.parts a R) h) (.inr ⟨by rw [hE]; decide, by rw [hE], rfl⟩)
  ·simp only [Bool.not_eq_true', Bool.not_eq_false'] at hc0
   have hup : S.up = true := by rw [← hS.up]; exact hc0
   refine WC.skip ?_
   refine WC.seq ?_
   refine WC.sr ?_
   refine WL.val (V.move (OV.p rfl)) rfl ?_
   refine WL.val (V.move (OV.p rfl)) rfl ?_
   refine WL.val (V.move (OV.p rfl)) rfl ?_
   refine WL.call (vs := [_, _, _]) Tryz.call111 ⟨OV.p rfl, OV.p rfl, OV.p rfl, trivial⟩ (ref_page b p Rds.all) rfl ?_
   rintro _ H0 ⟨rfl, h0⟩
   subst H0
   refine WL.val (V.not (OV.p rfl)) rfl ?_
   refine WL.nil ?_
   refine WC.cond rfl (fun hc1 => ?_) (fun hc1 => ?_)
   ·simp only [Bool.not_eq_true', Bool.not_eq_false', Bool.and_eq_true, Bool.and_eq_false_iff, decide_eq_true_eq, decide_eq_false_iff_not] at hc1
    have h1 := hc1
    have hE : S.readErr b p = 1 := by
      unfold Chip.readErr Chip.page Chip.block
      rw [if_neg (by rw [hup]; decide), if_pos]
      rw [← hS.g]; simp only [Bool.and_eq_false_iff, decide_eq_false_iff_not]; omega
    refine WC.sr ?_
    refine WL.val (V.assign (OV.p rfl)) rfl ?_
    refine WL.val (V.assign (OV.p rfl)) rfl ?_
    refine WL.nil ?_
    refine WC.ret ?_
    exact BodyQ.ret (H' := R.A a :: F) (Res.tmp2 rfl rfl rfl) (fun w h => Sat.all (l := RW.parts a R) h) (.inr ⟨by rw [hE]; decide, by rw [hE], rfl⟩)
   ·simp only [Bool.not_eq_true', Bool.not_eq_false', Bool.and_eq_true, Bool.and_eq_false_iff, decide_eq_true_eq, decide_eq_false_iff_not] at hc1
    have h1 := hc1
    obtain ⟨⟨⟨hb1, hb2⟩, hp1⟩, hp2⟩ := h1
    have hE : S.readErr b p = 0 := by
      unfold Chip.readErr Chip.page Chip.block
      rw [if_neg (by rw [hup]; decide), if_neg]
      rw [← hS.g]; simp; omega
    obtain ⟨bn, rfl⟩ : ∃ bn : Nat, b = (bn : Int) := ⟨b.toNat, by omega⟩
    obtain ⟨pn, rfl⟩ : ∃ pn : Nat, p = (pn : Int) := ⟨p.toNat, by omega⟩
    have hlen := hS.len
    rw [← hS.g] at hlen
    have hbl : bn < R.blocks.length := by omega
    obtain ⟨x, hxb⟩ : ∃ x, R.blocks[bn]? = some x := ⟨_, List.getElem?_eq_getElem hbl⟩
    have hBI := hS.blk bn x hxb
    have hxlen := hBI.len
    rw [← hS.g] at hxlen
    have hpl : pn < x.pages.length := by omega
    obtain ⟨y, hyp⟩ : ∃ y, x.pages[pn]? = some y := ⟨_, List.getElem?_eq_getElem hpl⟩
    have hcell : ∀ {i : Nat} {v : Value}, x.cells[i]? = some v → (R.blocks.flatMap RBlock.cells ++ R.rest)[0 + (bn : Int).toNat * 4 + i]? = some v := fun {i v} hi => by
      rw [show 0 + (bn : Int).toNat * 4 + i = bn * 4 + i by omega]; exact RW.blk_get hxb hi
    have hyo := hR.pgs x (List.mem_of_getElem? hxb) y (List.mem_of_getElem? hyp)
    have hyr : ∀ {H : List Assn}, Rds K (AllA R.rows :: H) x.pb (0 + (pn : Int).toNat * 2) y.cells := fun {H} i v hi => by
      refine Rd.inA (A := RBlock.row x) (List.mem_map_of_mem (List.mem_of_getElem? hxb)) (Rd.here ?_)
      rw [show 0 + (pn : Int).toNat * 2 + i = pn * 2 + i by omega]
      exact RBlock.pg_get hyp hi
    have hyl : y.raw.length = R.g.raw.toNat := by have := hyo.rl; omega
    have hrd : turn y.raw y.wrong = S.reads (bn : Int) (pn : Int) := by
      have h6 := hBI.pg pn y hyp
      unfold Chip.reads
      rw [← h6.raw]
      exact turn_perm h6.wrong _
    refine WC.skip ?_
    refine WC.sr ?_
    refine WL.val (V.move (OV.p rfl)) rfl ?_
    refine WL.val (V.nilCheck (OV.p rfl)) rfl ?_
    refine WL.val (V.fieldAddr fo97_1 (OV.p rfl)) rfl ?_
    refine WL.val (V.load Tryz.isAgg95 (OV.p rfl) (fun _ => by repeat (first | exact Rd.here rfl | apply Rd.up))) rfl ?_
    refine WL.val (V.move (OV.p rfl)) rfl ?_
    refine WL.val (V.idxB st95 (OV.p rfl) (OV.p rfl) (fun hc => by omega)) rfl ?_
    refine WL.val (V.fieldAddr fo100_0 (OV.p rfl)) rfl ?_
    refine WL.val (V.load Tryz.isAgg98 (OV.p rfl) (fun hc => Rd.up (Rd.here (hcell (i := 0) rfl)))) rfl ?_
    refine WL.val (V.move (OV.p rfl)) rfl ?_
    refine WL.val (V.idxB st98 (OV.p rfl) (OV.p rfl) (fun hc => by omega)) rfl ?_
    refine WL.val (V.loadA (vs := y.cells) ⟨Tryz.isAgg102, Tryz.sizeOf102⟩ (OV.p rfl) rfl (fun _ => Rds.up (Rds.up hyr))) rfl ?_
    refine WL.alloc (cs := [(.slice none 0 0), (.slice none 0 0)]) Tryz.zeroValue102 rfl rfl (fun b8 => ?_)
    refine WL.store (cs := [_, _]) Tryz.sizeOf102 (OV.p rfl) (OV.p rfl) rfl rfl rfl (by repeat (first | exact Upd.here (cs' := [_, _]) rfl rfl | apply Upd.up)) ?_
    refine WL.nil ?_
    refine WC.sr ?_
    refine WL.val (V.fieldAddr fo102_0 (OV.p rfl)) rfl ?_
    refine WL.val (V.load Tryz.isAgg38 (OV.p rfl) (fun _ => by repeat (first | exact Rd.here rfl | apply Rd.up))) rfl ?_
    refine WL.val (V.fieldAddr fo102_1 (OV.p rfl)) rfl ?_
    refine WL.val (V.load Tryz.isAgg42 (OV.p rfl) (fun _ => by repeat (first | exact Rd.here rfl | apply Rd.up))) rfl ?_
    refine WL.call (vs := [_, _]) Tryz.call112 ⟨OV.p rfl, OV.p rfl, trivial⟩ (ref01_Turn (xs := y.raw) (l := y.wrong) (Seq.up (Seq.up (Seq.up (Seq.up (SeqIn.seq hyo.ra))))) hyo.rb (Seq.up (Seq.up (Seq.up (Seq.up (SeqIn.seq hyo.wa))))) (fun i hi => by have := hyo.wb i hi; have := hyo.rl; omega) (by omega) hyo.wl) rfl ?_
    rintro _ _ ⟨g, rfl, rfl⟩
    rw [hrd, hyl]
    refine WL.val (V.assign (OV.p rfl)) rfl ?_
    refine WL.val (V.assign (OV.p rfl)) rfl ?_
    refine WL.nil ?_
    refine WC.ret ?_
    exact BodyQ.ret (H' := Cells g 5 (ints .u8 (S.reads (bn : Int) (pn : Int))) :: R.A a :: F) (Res.tmp2 rfl rfl rfl) (fun w h => (Sat.all (l := RW.parts a R) (h.sel 6 [2, 3, 4, 5, 0] rfl)).p1) (.inl ⟨hE, g, rfl, rfl⟩)
theorem ref_Force (hR : R.Ok) (hS : R.Is S) {B : Option Addr} {m cap : Nat} {xs : List Int} (b p : Int) (hx : IsBytes xs) (hs : Seq K F B m 1 (ints .u8 xs)) (hm : m ≤ 1000000) :
    Does Tryz.prog 67 #[ptr a 0, .int .i64 b, .int .i64 p, .slice B m cap] K (R.A a :: F)
      (fun v H' => ∃ R' : RW, R'.Ok ∧ R'.Is (S.force b p xs).1 ∧ H' = R'.A a :: F ∧ v = .int .i64 (S.force b p xs).2) := by
  have hl : xs.length = m := by simpa [ints] using hs.len
  have hrb := Geo.raw_bd hR.mays
  have hgb := hR.mays
  unfold Geo.mays at hgb
  obtain ⟨Z, hZ⟩ : ∃ Z, Z = S.force b p xs := ⟨_, rfl⟩
  rw [← hZ]
  unfold Chip.force at hZ
  refine Does.openR ?_
  dsimp only [RW.parts, List.cons_append, List.nil_append]
  refine Does.enter Tryz.func67 rfl Tryz.ntmps67 rfl ?_
  simp only [env0, Nat.reduceAdd]
  refine WC.sr ?_
  refine WL.val (V.assign (OV.p rfl)) rfl ?_
  refine WL.nil ?_
  refine WC.seq ?_
  refine WC.sr ?_
  refine WL.val (V.move (OV.p rfl)) rfl ?_
  refine WL.val (V.move (OV.p rfl)) rfl ?_
  refine WL.val (V.move (OV.p rfl)) rfl ?_
  refine WL.call (vs := [_, _, _]) Tryz.call111 ⟨OV.p rfl, OV.p rfl, OV.p rfl, trivial⟩ (ref_page b p Rds.all) rfl ?_
  rintro _ H0 ⟨rfl, h0⟩
  subst H0
  refine WL.val (V.not (OV.p rfl)) rfl ?_
  refine WL.val (V.move (OV.p rfl)) rfl ?_
  refine WL.valG (oj := _) rfl rfl rfl GC.f (V.move (OV.p rfl)) rfl ?_
  refine WL.valG (oj := _) rfl rfl rfl GC.f (V.len (t := 38) Tryz.runUnderlying38 (OV.g rfl id)) rfl ?_
  refine WL.valG (oj := _) rfl rfl rfl GC.f (V.move (OV.p rfl)) rfl ?_
  refine WL.valG (oj := _) rfl rfl rfl GC.f (V.nilCheck (OV.g rfl id)) rfl ?_
  refine WL.valG (oj := _) rfl rfl rfl GC.f (V.fieldAddr fo97_0 (OV.g rfl id)) rfl ?_
  refine WL.valG (oj := _) rfl rfl rfl GC.f (V.loadA (vs := [_, _, _, _, _]) ⟨Tryz.isAgg23, Tryz.sizeOf23⟩ (OV.g rfl id) rfl (fun _ => by repeat (first | exact Rds.gets ⟨rfl, rfl, rfl, rfl, rfl, trivial⟩ | apply Rds.up))) rfl ?_
  refine WL.callG (oj := _) (vs := [_]) rfl rfl rfl GC.f Tryz.call58 ⟨OV.g rfl id, trivial⟩ (fun hg => ref06_Raw R.g hR.mays _ _) rfl ?_
  refine WL.valG (oj := _) rfl rfl rfl GC.f (V.neq (OV.g rfl id) (OV.g rfl id)) rfl ?_
  refine WL.val (V.pickOr (OV.p rfl) (OV.g rfl id)) rfl ?_
  refine WL.nil ?_
  refine WC.cond rfl (fun hc0 => ?_) (fun hc0 => ?_)
  ·simp only [Bool.or_eq_true, Bool.or_eq_false_iff, Bool.not_eq_true', Bool.not_eq_false', Bool.and_eq_true, Bool.and_eq_false_iff, decide_eq_true_eq, decide_eq_false_iff_not] at hc0
   have h1 := hc0
   have hraw : S.raw = R.g.raw := by unfold Chip.raw; rw [hS.g]
   rw [if_pos (show S.page b p = false ∨ (xs.length : Int) ≠ S.raw by
     rw [hraw, hl]
     refine h1.imp (fun h => ?_) id
     unfold Chip.page Chip.block; rw [← hS.g]; simp only [Bool.and_eq_false_iff, decide_eq_false_iff_not]; omega)] at hZ
   refine WC.sr ?_
   refine WL.val (V.assign (OV.p rfl)) rfl ?_
   refine WL.nil ?_
   refine WC.ret ?_
   exact BodyQ.ret (H' := R.A a :: F) (Res.tmp rfl rfl) (fun w h => Sat.all (l := RW.parts a R) h) ⟨R, hR, by rw [hZ]; exact hS, rfl, by rw [hZ]⟩
  ·simp only [Bool.or_eq_true, Bool.or_eq_false_iff, Bool.not_eq_true', Bool.not_eq_false', Bool.and_eq_true, Bool.and_eq_false_iff, decide_eq_true_eq, decide_eq_false_iff_not] at hc0
   have h1 := hc0
   have hraw : S.raw = R.g.raw := by unfold Chip.raw; rw [hS.g]
   obtain ⟨⟨⟨⟨hb1, hb2⟩, hp1⟩, hp2⟩, hml⟩ := h1
   have hml : (m : Int) = R.g.raw := by simpa using hml
   rw [if_neg (show ¬ (S.page b p = false ∨ (xs.length : Int) ≠ S.raw) by
     rw [hraw, hl, Chip.page, Chip.block, ← hS.g]; simp; omega)] at hZ
   obtain ⟨bn, rfl⟩ : ∃ bn : Nat, b = (bn : Int) := ⟨b.toNat, by omega⟩
   obtain ⟨pn, rfl⟩ : ∃ pn : Nat, p = (pn : Int) := ⟨p.toNat, by omega⟩
   have hlen := hS.len
   rw [← hS.g] at hlen
   have hbl : bn < R.blocks.length := by omega
   obtain ⟨x, hxb⟩ : ∃ x, R.blocks[bn]? = some x := ⟨_, List.getElem?_eq_getElem hbl⟩
   have hBI := hS.blk bn x hxb
   have hxlen := hBI.len
   rw [← hS.g] at hxlen
   have hpl : pn < x.pages.length := by omega
   obtain ⟨y, hyp⟩ : ∃ y, x.pages[pn]? = some y := ⟨_, List.getElem?_eq_getElem hpl⟩
   have hcell : ∀ {i : Nat} {v : Value}, x.cells[i]? = some v → (R.blocks.flatMap RBlock.cells ++ R.rest)[0 + (bn : Int).toNat * 4 + i]? = some v := fun {i v} hi => by
     rw [show 0 + (bn : Int).toNat * 4 + i = bn * 4 + i by omega]; exact RW.blk_get hxb hi
   have hnx := hR.next x (List.mem_of_getElem? hxb)
   refine WC.skip ?_
   refine WC.sr ?_
   refine WL.val (V.assign (OV.p rfl)) rfl ?_
   refine WL.nil ?_
   refine WC.sr ?_
   refine WL.val (V.move (OV.p rfl)) rfl ?_
   refine WL.val (V.move (OV.p rfl)) rfl ?_
   refine WL.sub (Sub.refl _) (fun w h => Sat.slNil h 5 1) ?_
   refine WL.append (m := 0) (cs := []) (q := m) Tryz.underlying38 el5 (OV.p rfl) (OV.p rfl) (by repeat (first | exact hs | apply Seq.up)) (ints_one _ _) (by omega) rfl rfl (fun A9 c9 hA9 hc9 => ?_)
   rw [Nat.zero_add, List.nil_append]
   refine WL.val (V.assign (OV.p rfl)) rfl ?_
   refine WL.nil ?_
   refine WC.sr ?_
   refine WL.val (V.move (OV.p rfl)) rfl ?_
   refine WL.val (V.nilCheck (OV.p rfl)) rfl ?_
   refine WL.val (V.fieldAddr fo97_1 (OV.p rfl)) rfl ?_
   refine WL.val (V.load Tryz.isAgg95 (OV.p rfl) (fun _ => by repeat (first | exact Rd.here rfl | apply Rd.up))) rfl ?_
   refine WL.val (V.move (OV.p rfl)) rfl ?_
   refine WL.val (V.idxB st95 (OV.p rfl) (OV.p rfl) (fun hc => by omega)) rfl ?_
   refine WL.val (V.assign (OV.p rfl)) rfl ?_
   refine WL.nil ?_
   refine WC.seq ?_
   have hrow : R.rows[bn]'(by show bn < R.rows.length; rw [List.length_map]; exact hbl) = RBlock.row x := by
     rw [List.getElem_map]
     congr 1
     rw [List.getElem?_eq_getElem hbl] at hxb
     exact Option.some.inj hxb
   refine WC.sub (H' := Cells x.pb 102 (x.pages.flatMap RPage.cells ++ x.pr) :: AllA (R.rows.eraseIdx bn) :: SlA (.slice A9 m c9) 5 1 m (ints .u8 xs) :: Cells a 97 R.cells :: Cells R.bb 100 (R.blocks.flatMap RBlock.cells ++ R.rest) :: AllA R.own :: F) (Sub.refl _) (fun w h => by
     have h' := Sat.takeA (k := bn) (by show bn < R.rows.length; rw [List.length_map]; exact hbl) (h.sel 5 [3, 0, 1, 2, 4] rfl)
     rw [hrow] at h'
     exact h') ?_
   refine WC.region ?_
   refine WL.val (V.move (OV.p rfl)) rfl ?_
   refine WL.val (V.nilCheck (OV.p rfl)) rfl ?_
   refine WL.val (V.fieldAddr fo100_0 (OV.p rfl)) rfl ?_
   refine WL.val (V.load Tryz.isAgg98 (OV.p rfl) (fun hc => Rd.up (Rd.up (Rd.up (Rd.up (Rd.here (hcell (i := 0) rfl))))))) rfl ?_
   refine WL.val (V.move (OV.p rfl)) rfl ?_
   refine WL.val (V.move (OV.p rfl)) rfl ?_
   refine WL.val (V.build (vs := [(0, _)]) ⟨OV.p rfl, trivial⟩ rfl (bld102_0 _ _ _)) rfl ?_
   refine WL.val (V.idxB st98 (OV.p rfl) (OV.p rfl) (fun hc => by omega)) rfl ?_
   refine WL.store (cs := [_, _]) Tryz.sizeOf102 (OV.p rfl) (OV.p rfl) rfl rfl rfl (Upd.here (Nat.ble_eq_true_of_le (by
     have h1 : (pn + 1) * 2 ≤ x.pages.length * 2 := Nat.mul_le_mul_right _ hpl
     rw [List.length_append, flat_length pcells_len]; show 0 + (pn : Int).toNat * 2 + 2 ≤ _; omega)) rfl) ?_
   refine WL.nil ?_
   refine WC.sr ?_
   refine WL.val (V.move (OV.p rfl)) rfl ?_
   refine WL.val (V.move (OV.p rfl)) rfl ?_
   refine WL.val (V.nilCheck (OV.p rfl)) rfl ?_
   refine WL.val (V.fieldAddr fo100_1 (OV.p rfl)) rfl ?_
   refine WL.val (V.load Tryz.isAgg3 (OV.p rfl) (fun hc => Rd.up (Rd.up (Rd.up (Rd.up (Rd.here (hcell (i := 1) rfl))))))) rfl ?_
   refine WL.val (V.move (OV.p rfl)) rfl ?_
   refine WL.val (V.addI (OV.p rfl) (OV.p rfl) (fun hc => by first | omega | (simp at hc; omega))) rfl ?_
   refine WL.val (V.max (OV.p rfl) (OV.p rfl)) rfl ?_
   refine WL.val (V.nilCheck (OV.p rfl)) rfl ?_
   refine WL.val (V.fieldAddr fo100_1 (OV.p rfl)) rfl ?_
   refine WL.store (cs := [_]) Tryz.sizeOf3 (OV.p rfl) (OV.p rfl) rfl rfl rfl (Upd.up (Upd.up (Upd.up (Upd.up (Upd.at_ (by
     have h1 : (bn + 1) * 4 ≤ R.blocks.length * 4 := Nat.mul_le_mul_right _ hbl
     rw [List.length_append, flat_length rcells_len]; show 0 + (bn : Int).toNat * 4 + 1 < _; omega)))))) ?_
   refine WL.nil ?_
   refine WC.sr ?_
   refine WL.val (V.assign (OV.p rfl)) rfl ?_
   refine WL.nil ?_
   refine WC.ret ?_
   obtain ⟨y', hy'⟩ : ∃ y' : RPage, y' = ⟨A9, c9, xs, none, 0, []⟩ := ⟨_, rfl⟩
   obtain ⟨own', hown⟩ : ∃ own', own' = SlA (.slice A9 m c9) 5 1 m (ints .u8 xs) :: R.own := ⟨_, rfl⟩
   have hmx : max x.next ((pn : Int) + 1) = max (S.nextOf (bn : Int)) ((pn : Int) + 1) := by rw [hBI.next]
   refine BodyQ.ret (H' := (R.setB bn (x.setP pn y' (max x.next ((pn : Int) + 1))) own').A a :: F) (Res.tmp rfl rfl) (fun w h => ?_) ⟨_, ?_, ?_, rfl, by rw [hZ]⟩
   · rw [show 0 + (pn : Int).toNat * 2 = pn * 2 by omega, show 0 + (bn : Int).toNat * 4 + 1 = bn * 4 + 1 by omega] at h
     refine RW.foldP (y := y) hxb hyp ?_
     have h1 := (h.sel 6 [2, 5, 0, 1, 3, 4] rfl).absorb.sel 5 [1, 2, 3, 4, 0] rfl
     rw [hy', hown]
     dsimp only [RPage.cells]
     rw [hl]
     exact h1
   · refine hR.setP (b := bn) (p := pn) hxb ?_ (fun K w h => by rw [hown] at h; exact Sat.all (l := R.own) (H := []) h.unall.tail) (by omega)
     rw [hy', hown]
     refine ⟨SeqIn.here fun K => ?_, SeqIn.nil, by show (xs.length : Int) = _; omega, hx, fun q hq => by simp at hq, Nat.zero_le _⟩
     show Seq K _ A9 xs.length 1 _
     rw [hl]
     exact SlA.seq (by simp [ints, hl])
   · rw [hZ]
     have hnl : (S.next.length : Int) = R.g.bl := by rw [hS.nlen, hS.g]
     refine hS.setP (b := bn) (p := pn) hxb ⟨rfl, rfl, rfl, rfl, rfl, List.length_set, rfl, rfl, fun k hk => ?_, fun k q hkq => ?_⟩ ⟨?_, ?_⟩ hpl
     · rw [hmx]; exact Chip.nextOf_setN (S := S) hk
     · have hne : ¬ (((k : Int), (q : Int)) = ((bn : Int), (pn : Int))) := fun e => hkq (by injection e with e1 e2; omega)
       exact ⟨if_neg hne, if_neg hne⟩
     · rw [hy']; show xs = (Chip.upds S.pages _ _ _).getD _; unfold Chip.upds; rw [if_pos rfl]; rfl
     · rw [hy']; show List.Perm [] ((Chip.upds S.wrong _ _ _).getD []); unfold Chip.upds; rw [if_pos rfl]; exact List.Perm.refl _
end
end Go.Proofs.YtohkefolnmcjnaaGreat
/- The reference's chip: New. -/
namespace Go.Proofs.YtohkefolnmcjnaaGreat
open Go.Sl Go.RowKit
set_option linter.unusedVariables false
set_option linter.unusedSimpArgs false
set_option maxRecDepth 20000

structure NewPg (own : List Assn) (g : Geo) (y : RPage) : Prop where
  ok : PageOk own g y
  raw : y.raw = List.replicate g.raw.toNat 255
  wrong : y.wrong = []
structure NewBl (own : List Assn) (g : Geo) (x : RBlock) : Prop where
  next : x.next = 0
  bad : x.bad = false
  fails : x.fails = false
  len : (x.pages.length : Int) = g.pg
  pgs : ∀ y ∈ x.pages, NewPg own g y
theorem NewPg.up {own : List Assn} {A : Assn} {g : Geo} {y : RPage} (h : NewPg own g y) : NewPg (A :: own) g y := ⟨h.ok.mono (fun K w hw => Sat.all (l := own) (H := []) hw.unall.tail), h.raw, h.wrong⟩
theorem NewBl.up {own : List Assn} {A : Assn} {g : Geo} {x : RBlock} (h : NewBl own g x) : NewBl (A :: own) g x := ⟨h.next, h.bad, h.fails, h.len, fun y hy => (h.pgs y hy).up⟩
theorem slA_rowsN {K : World} {F : List Assn} {A : Option Addr} {m cap E s : Nat} {cs : List Value} (hm : 0 < m) : ∀ w, Sat K w (SlA (.slice A m cap) E s m cs :: F) → ∃ x : Nat × List Value, (A = some ⟨x.1, 0, none⟩) ∧ Sat K w (Cells x.1 E (cs ++ x.2) :: F) := fun w hw => by
  cases A with
  | none => have := (SlA.nilCs hw).1; omega
  | some a =>
    obtain ⟨g, rfl⟩ := SlA.addr hw
    obtain ⟨r, _, h5⟩ := Sat.slCells hw
    exact ⟨(g, r), rfl, h5⟩
theorem Sat.allPerm {K w : World} {l l' H : List Assn} (hp : List.Perm l l') (h : Sat K w (AllA l :: H)) : Sat K w (AllA l' :: H) := Sat.all (Sat.perm' (hp.append_right H) h.unall)
theorem take_succ_getI (l : List Int) {i : Nat} (h : i < l.length) : l.take (i + 1) = l.take i ++ [l.getD i 0] := by
  rw [List.take_add_one, List.getElem?_eq_getElem h]; simp [List.getD, h]
section
variable {K : World} {F : List Assn}
theorem ref_New (g : Geo) {B : Option Addr} {q cap : Nat} {l : List Int} (hl : Seq K F B q 1 (ints .i64 l)) (hq : q ≤ 1000000) :
    Does Tryz.prog 15 #[g.v, .slice B q cap] K F (fun v H' =>
      (g.may = true ∧ (∀ x ∈ l, 0 ≤ x ∧ x < g.bl) ∧ ∃ a, ∃ R : RW, R.Ok ∧ R.Is (Chip.new g l) ∧ R.g = g ∧ v = .tuple #[ptr a 0, .bool true] ∧ H' = R.A a :: F) ∨
      (¬ (g.may = true ∧ ∀ x ∈ l, 0 ≤ x ∧ x < g.bl) ∧ v = .tuple #[.pointer none, .bool false] ∧ H' = F)) := by
  have hll : l.length = q := by simpa [ints] using hl.len
  refine Does.enter Tryz.func15 rfl Tryz.ntmps15 rfl ?_
  simp only [env0, Nat.reduceAdd]
  refine WC.sr ?_
  refine WL.box (cs := [_, _, _, _, _]) (OV.p rfl) rfl rfl (fun b2 => ?_)
  refine WL.val (V.assign (OV.p rfl)) rfl ?_
  refine WL.val (V.assign (OV.p rfl)) rfl ?_
  refine WL.nil ?_
  refine WC.seq ?_
  refine WC.sr ?_
  refine WL.val (V.loadA (vs := [_, _, _, _, _]) ⟨Tryz.isAgg23, Tryz.sizeOf23⟩ (OV.p rfl) rfl (fun _ => by repeat (first | exact Rds.gets ⟨rfl, rfl, rfl, rfl, rfl, trivial⟩ | apply Rds.up))) rfl ?_
  refine WL.call (vs := [_]) Tryz.call53 ⟨OV.p rfl, trivial⟩ (ref06_May g _ _) rfl ?_
  rintro _ H0 ⟨rfl, h0⟩
  subst H0
  refine WL.val (V.not (OV.p rfl)) rfl ?_
  refine WL.nil ?_
  refine WC.cond rfl (fun hc0 => ?_) (fun hc0 => ?_)
  ·simp only [Bool.not_eq_true', Bool.not_eq_false'] at hc0
   have h0 := hc0
   refine WC.sr ?_
   refine WL.val (V.assign (OV.p rfl)) rfl ?_
   refine WL.val (V.assign (OV.p rfl)) rfl ?_
   refine WL.nil ?_
   refine WC.ret ?_
   exact BodyQ.ret (H' := F) (Res.tmp2 rfl rfl rfl) (fun w h => h.drop 1) (.inr ⟨fun h => by rw [h0] at h; exact Bool.false_ne_true h.1, rfl, rfl⟩)
  ·simp only [Bool.not_eq_true', Bool.not_eq_false'] at hc0
   have h0 := hc0
   have hg := Geo.mays_of h0
   have hrb := Geo.raw_bd hg
   have hgb := hg
   unfold Geo.mays at hgb
   obtain ⟨rn, hrn⟩ : ∃ n : Nat, g.raw = (n : Int) := ⟨g.raw.toNat, by omega⟩
   obtain ⟨bn, hbn⟩ : ∃ n : Nat, g.bl = (n : Int) := ⟨g.bl.toNat, by omega⟩
   obtain ⟨pn, hpn⟩ : ∃ n : Nat, g.pg = (n : Int) := ⟨g.pg.toNat, by omega⟩
   refine WC.skip ?_
   refine WC.sr ?_
   refine WL.val (V.loadA (vs := [_, _, _, _, _]) ⟨Tryz.isAgg23, Tryz.sizeOf23⟩ (OV.p rfl) rfl (fun _ => by repeat (first | exact Rds.gets ⟨rfl, rfl, rfl, rfl, rfl, trivial⟩ | apply Rds.up))) rfl ?_
   refine WL.val (V.build (vs := [(0, _), (3, _)]) ⟨OV.p rfl, OV.p rfl, trivial⟩ rfl (bld97_0_3 _ _ _ _ _ _)) rfl ?_
   refine WL.box (cs := [_, _, _, _, _, _, _, _, _, _]) (OV.p rfl) rfl rfl (fun b16 => ?_)
   refine WL.val (V.assign (OV.p rfl)) rfl ?_
   refine WL.nil ?_
   refine WC.seq ?_
   refine WC.sr ?_
   refine WL.val (V.assign (OV.p rfl)) rfl ?_
   refine WL.nil ?_
   refine WC.block ?_
   refine WC.loop (σ := Nat × Option Addr × Nat × List RBlock × List Assn) (fun s => [(1, .slice B q cap), (2, ptr b2 0), (6, ptr b16 0), (7, .int .i64 (s.1 : Int))]) (fun s => SlA (.slice s.2.1 s.1 s.2.2.1) 100 4 s.1 (s.2.2.2.1.flatMap RBlock.cells) :: Cells b16 97 [.int .i64 g.bl, .int .i64 g.pg, .int .i64 g.se, .int .i64 g.sb, .int .i64 g.fl, .slice s.2.1 s.1 s.2.2.1, .int .i64 0, .bool true, .int .i64 0, .int .i64 0] :: AllA (s.2.2.2.1.map RBlock.row) :: AllA s.2.2.2.2 :: Cells b2 23 [.int .i64 g.bl, .int .i64 g.pg, .int .i64 g.se, .int .i64 g.sb, .int .i64 g.fl] :: F) (fun s => s.1 ≤ bn ∧ s.2.2.2.1.length = s.1 ∧ ∀ x ∈ s.2.2.2.1, NewBl s.2.2.2.2 g x) (fun s => bn - s.1) (0, none, 0, [], []) ⟨Nat.zero_le _, rfl, fun x hx => by simp at hx⟩ (.cons rfl (.cons rfl (.cons rfl (.cons rfl (.nil _))))) (fun w h => Sat.slNil ((Sat.all (l := []) (H := Cells b16 _ _ :: AllA [] :: _) (Sat.all (l := []) (H := _) h).p1).p1) 100 4) ?_
   rintro ⟨i, Ab, cb, bs, own⟩ ⟨hi, hbl, hbs⟩
   dsimp only at hi hbl hbs ⊢
   refine WC.seq ?_
   refine WC.sr ?_
   refine WL.val (V.move (OV.p rfl)) rfl ?_
   refine WL.val (V.fieldAddr fo23_0 (OV.p rfl)) rfl ?_
   refine WL.val (V.load Tryz.isAgg3 (OV.p rfl) (fun _ => by repeat (first | exact Rd.here rfl | apply Rd.up))) rfl ?_
   refine WL.val (V.lss (OV.p rfl) (OV.p rfl)) rfl ?_
   refine WL.nil ?_
   refine WC.cond rfl (fun hc1 => ?_) (fun hc1 => ?_)
   ·simp only [decide_eq_true_eq, decide_eq_false_iff_not] at hc1
    refine WC.skip ?_
    refine WC.seq ?_
    refine WC.block ?_
    refine WC.sr ?_
    refine WL.alloc (cs := [(.slice none 0 0), (.int .i64 0), (.bool false), (.bool false)]) Tryz.zeroValue100 rfl rfl (fun b8 => ?_)
    refine WL.nil ?_
    refine WC.seq ?_
    refine WC.sr ?_
    refine WL.val (V.assign (OV.p rfl)) rfl ?_
    refine WL.nil ?_
    refine WC.block ?_
    refine WC.loop (σ := Nat × Option Addr × Nat × List RPage × List Assn) (fun s => [(1, .slice B q cap), (2, ptr b2 0), (6, ptr b16 0), (7, .int .i64 (i : Int)), (8, ptr b8 0), (9, .int .i64 (s.1 : Int))]) (fun s => SlA (.slice s.2.1 s.1 s.2.2.1) 102 2 s.1 (s.2.2.2.1.flatMap RPage.cells) :: Cells b8 100 [.slice s.2.1 s.1 s.2.2.1, .int .i64 0, .bool false, .bool false] :: AllA s.2.2.2.2 :: SlA (.slice Ab i cb) 100 4 i (bs.flatMap RBlock.cells) :: Cells b16 97 [.int .i64 g.bl, .int .i64 g.pg, .int .i64 g.se, .int .i64 g.sb, .int .i64 g.fl, .slice Ab i cb, .int .i64 0, .bool true, .int .i64 0, .int .i64 0] :: AllA (bs.map RBlock.row) :: Cells b2 23 [.int .i64 g.bl, .int .i64 g.pg, .int .i64 g.se, .int .i64 g.sb, .int .i64 g.fl] :: F) (fun s => s.1 ≤ pn ∧ s.2.2.2.1.length = s.1 ∧ (∀ y ∈ s.2.2.2.1, NewPg s.2.2.2.2 g y) ∧ ∀ x ∈ bs, NewBl s.2.2.2.2 g x) (fun s => pn - s.1) (0, none, 0, [], own) ⟨Nat.zero_le _, rfl, fun y hy => by simp at hy, hbs⟩ (.cons rfl (.cons rfl (.cons rfl (.cons rfl (.cons rfl (.cons rfl (.nil _))))))) (fun w h => (Sat.slNil h 102 2).sel 7 [0, 1, 5, 2, 3, 4, 6] rfl) ?_
    rintro ⟨k, Ap, cp, ps, own1⟩ ⟨hk, hpl, hps, hbs1⟩
    dsimp only at hk hpl hps hbs1 ⊢
    refine WC.seq ?_
    refine WC.sr ?_
    refine WL.val (V.move (OV.p rfl)) rfl ?_
    refine WL.val (V.fieldAddr fo23_1 (OV.p rfl)) rfl ?_
    refine WL.val (V.load Tryz.isAgg3 (OV.p rfl) (fun _ => by repeat (first | exact Rd.here rfl | apply Rd.up))) rfl ?_
    refine WL.val (V.lss (OV.p rfl) (OV.p rfl)) rfl ?_
    refine WL.nil ?_
    refine WC.cond rfl (fun hc2 => ?_) (fun hc2 => ?_)
    ·simp only [decide_eq_true_eq, decide_eq_false_iff_not] at hc2
     refine WC.skip ?_
     refine WC.seq ?_
     refine WC.block ?_
     refine WC.regionA (AllA own1 :: SlA (.slice Ab i cb) 100 4 i (bs.flatMap RBlock.cells) :: Cells b16 97 [.int .i64 g.bl, .int .i64 g.pg, .int .i64 g.se, .int .i64 g.sb, .int .i64 g.fl, .slice Ab i cb, .int .i64 0, .bool true, .int .i64 0, .int .i64 0] :: AllA (bs.map RBlock.row) :: Cells b2 23 [.int .i64 g.bl, .int .i64 g.pg, .int .i64 g.se, .int .i64 g.sb, .int .i64 g.fl] :: F) (by kernel_rfl) ?_
     refine WA.t 0 rfl (V.fieldAddr fo100_0 (OV.p rfl)) ?_
     refine WA.t 2 rfl (V.loadA (vs := [_, _, _, _, _]) ⟨Tryz.isAgg23, Tryz.sizeOf23⟩ (OV.p rfl) rfl (fun _ => by repeat (first | exact Rds.gets ⟨rfl, rfl, rfl, rfl, rfl, trivial⟩ | apply Rds.up))) ?_
     refine WA.two (i := 1) (j := 3) (fun w h => by repeat (first | exact h | replace h := h.tail)) (by kernel_rfl) rfl rfl ?_ ?_
     ·refine WL.val (V.load Tryz.isAgg98 (OV.p rfl) (fun _ => by repeat (first | exact Rd.here rfl | apply Rd.up))) rfl ?_
      refine WL.nil ?_
      refine WA.o 3 rfl ?_
      refine WL.call (vs := [_]) Tryz.call58 ⟨OV.p rfl, trivial⟩ (Tells.eq (v' := .int .i64 (rn : Int)) (ref06_Raw g hg _ _) (by rw [hrn])) rfl ?_
      rintro _ H0 ⟨rfl, h0⟩
      subst H0
      refine WL.nil ?_
      refine WA.o 4 rfl ?_
      refine WL.call (vs := [_]) Tryz.call57 ⟨OV.p rfl, trivial⟩ (ref_blank (m := rn) (by omega)) rfl ?_
      rintro _ _ ⟨g12, rfl, rfl⟩
      refine WL.nil ?_
      refine WA.o 5 rfl ?_
      refine WL.buildSlice (E := 102) (cs := [_, _]) (vs := [(0, _)]) ⟨OV.p rfl, trivial⟩ rfl (bsl98_1_0 _ _) rfl (fun b34 => ?_)
      refine WL.nil ?_
      refine WA.o 6 rfl ?_
      refine WL.sub (Sub.refl _) (fun w h => h.sel 4 [2, 0, 1, 3] rfl) ?_
      refine WL.append (m := k) (q := 1) Tryz.underlying98 el102 (OV.p rfl) (OV.p rfl) (Seq.all rfl) (by simp [Value.oneCell']) (by omega) rfl rfl (fun A35 c35 hn35 hc35 => ?_)
      refine WL.nil ?_
      refine WA.t 7 rfl (V.fieldAddr fo100_0 (OV.p rfl)) ?_
      refine WA.o 8 rfl ?_
      refine WL.store (cs := [_]) Tryz.sizeOf98 (OV.p rfl) (OV.p rfl) rfl rfl rfl (by repeat (first | exact Upd.here rfl rfl | apply Upd.up)) ?_
      refine WL.nil ?_
      refine WA.fin ?_
      refine WC.region ?_
      refine WL.val (V.move (OV.p rfl)) rfl ?_
      refine WL.val (V.addI (OV.p rfl) (OV.p rfl) (fun hc => by first | omega | (simp at hc; omega))) rfl ?_
      refine WL.val (V.assign (OV.p rfl)) rfl ?_
      refine WL.nil ?_
      refine ⟨rfl, ?_⟩
      have hy0 : NewPg (Cells g12 5 (ints .u8 (List.replicate rn 255)) :: own1) g ⟨some ⟨g12, 0, none⟩, rn, List.replicate rn 255, none, 0, []⟩ := ⟨⟨SeqIn.here fun K => Seq.allI rfl, SeqIn.nil, by show ((List.replicate rn (255 : Int)).length : Int) = _; rw [List.length_replicate, hrn], IsBytes.repl (by omega), fun q hq => by simp at hq, Nat.zero_le _⟩, by show List.replicate rn (255 : Int) = _; rw [hrn, Int.toNat_natCast], rfl⟩
      refine ⟨(k + 1, A35, c35, ps ++ [⟨some ⟨g12, 0, none⟩, rn, List.replicate rn 255, none, 0, []⟩], Cells g12 5 (ints .u8 (List.replicate rn 255)) :: own1), ⟨by show k + 1 ≤ pn; omega, by show (ps ++ [_]).length = k + 1; rw [List.length_append, hpl]; rfl, fun y hy => ?_, fun x hx => (hbs1 x hx).up⟩, (by show pn - (k + 1) < pn - k; omega), .cons rfl (.cons rfl (.cons rfl (.cons rfl (.cons rfl (.cons (look_eq rfl (by simp)) (.nil _)))))), fun w h => ?_⟩
      · rcases List.mem_append.1 hy with h | h
        · exact (hps y h).up
        · rw [List.mem_singleton.1 h]; exact hy0
      · have h1 := (h.sel 9 [2, 4, 0, 3, 5, 6, 7, 8] rfl).absorb.sel 7 [1, 2, 0, 3, 4, 5, 6] rfl
        dsimp only
        rw [List.flatMap_append, List.flatMap_cons, List.flatMap_nil, List.append_nil]
        dsimp only [RPage.cells]
        rw [List.length_replicate]
        exact h1
     ·refine WL.call (vs := [_]) Tryz.call58 ⟨OV.p rfl, trivial⟩ (Tells.eq (v' := .int .i64 (rn : Int)) (ref06_Raw g hg _ _) (by rw [hrn])) rfl ?_
      rintro _ H0 ⟨rfl, h0⟩
      subst H0
      refine WL.nil ?_
      refine WA.two (i := 1) (j := 4) (fun w h => by repeat (first | exact h | replace h := h.tail)) (by kernel_rfl) rfl rfl ?_ ?_
      ·refine WL.val (V.load Tryz.isAgg98 (OV.p rfl) (fun _ => by repeat (first | exact Rd.here rfl | apply Rd.up))) rfl ?_
       refine WL.nil ?_
       refine WA.o 4 rfl ?_
       refine WL.call (vs := [_]) Tryz.call57 ⟨OV.p rfl, trivial⟩ (ref_blank (m := rn) (by omega)) rfl ?_
       rintro _ _ ⟨g12, rfl, rfl⟩
       refine WL.nil ?_
       refine WA.o 5 rfl ?_
       refine WL.buildSlice (E := 102) (cs := [_, _]) (vs := [(0, _)]) ⟨OV.p rfl, trivial⟩ rfl (bsl98_1_0 _ _) rfl (fun b34 => ?_)
       refine WL.nil ?_
       refine WA.o 6 rfl ?_
       refine WL.sub (Sub.refl _) (fun w h => h.sel 4 [2, 0, 1, 3] rfl) ?_
       refine WL.append (m := k) (q := 1) Tryz.underlying98 el102 (OV.p rfl) (OV.p rfl) (Seq.all rfl) (by simp [Value.oneCell']) (by omega) rfl rfl (fun A35 c35 hn35 hc35 => ?_)
       refine WL.nil ?_
       refine WA.t 7 rfl (V.fieldAddr fo100_0 (OV.p rfl)) ?_
       refine WA.o 8 rfl ?_
       refine WL.store (cs := [_]) Tryz.sizeOf98 (OV.p rfl) (OV.p rfl) rfl rfl rfl (by repeat (first | exact Upd.here rfl rfl | apply Upd.up)) ?_
       refine WL.nil ?_
       refine WA.fin ?_
       refine WC.region ?_
       refine WL.val (V.move (OV.p rfl)) rfl ?_
       refine WL.val (V.addI (OV.p rfl) (OV.p rfl) (fun hc => by first | omega | (simp at hc; omega))) rfl ?_
       refine WL.val (V.assign (OV.p rfl)) rfl ?_
       refine WL.nil ?_
       refine ⟨rfl, ?_⟩
       have hy0 : NewPg (Cells g12 5 (ints .u8 (List.replicate rn 255)) :: own1) g ⟨some ⟨g12, 0, none⟩, rn, List.replicate rn 255, none, 0, []⟩ := ⟨⟨SeqIn.here fun K => Seq.allI rfl, SeqIn.nil, by show ((List.replicate rn (255 : Int)).length : Int) = _; rw [List.length_replicate, hrn], IsBytes.repl (by omega), fun q hq => by simp at hq, Nat.zero_le _⟩, by show List.replicate rn (255 : Int) = _; rw [hrn, Int.toNat_natCast], rfl⟩
       refine ⟨(k + 1, A35, c35, ps ++ [⟨some ⟨g12, 0, none⟩, rn, List.replicate rn 255, none, 0, []⟩], Cells g12 5 (ints .u8 (List.replicate rn 255)) :: own1), ⟨by show k + 1 ≤ pn; omega, by show (ps ++ [_]).length = k + 1; rw [List.length_append, hpl]; rfl, fun y hy => ?_, fun x hx => (hbs1 x hx).up⟩, (by show pn - (k + 1) < pn - k; omega), .cons rfl (.cons rfl (.cons rfl (.cons rfl (.cons rfl (.cons (look_eq rfl (by simp)) (.nil _)))))), fun w h => ?_⟩
       · rcases List.mem_append.1 hy with h | h
         · exact (hps y h).up
         · rw [List.mem_singleton.1 h]; exact hy0
       · have h1 := (h.sel 9 [2, 4, 0, 3, 5, 6, 7, 8] rfl).absorb.sel 7 [1, 2, 0, 3, 4, 5, 6] rfl
         dsimp only
         rw [List.flatMap_append, List.flatMap_cons, List.flatMap_nil, List.append_nil]
         dsimp only [RPage.cells]
         rw [List.length_replicate]
         exact h1
      ·refine WL.call (vs := [_]) Tryz.call57 ⟨OV.p rfl, trivial⟩ (ref_blank (m := rn) (by omega)) rfl ?_
       rintro _ _ ⟨g12, rfl, rfl⟩
       refine WL.nil ?_
       refine WA.two (i := 1) (j := 5) (fun w h => by repeat (first | exact h | replace h := h.tail)) (by kernel_rfl) rfl rfl ?_ ?_
       ·refine WL.val (V.load Tryz.isAgg98 (OV.p rfl) (fun _ => by repeat (first | exact Rd.here rfl | apply Rd.up))) rfl ?_
        refine WL.nil ?_
        refine WA.o 5 rfl ?_
        refine WL.buildSlice (E := 102) (cs := [_, _]) (vs := [(0, _)]) ⟨OV.p rfl, trivial⟩ rfl (bsl98_1_0 _ _) rfl (fun b34 => ?_)
        refine WL.nil ?_
        refine WA.o 6 rfl ?_
        refine WL.sub (Sub.refl _) (fun w h => h.sel 4 [2, 0, 1, 3] rfl) ?_
        refine WL.append (m := k) (q := 1) Tryz.underlying98 el102 (OV.p rfl) (OV.p rfl) (Seq.all rfl) (by simp [Value.oneCell']) (by omega) rfl rfl (fun A35 c35 hn35 hc35 => ?_)
        refine WL.nil ?_
        refine WA.t 7 rfl (V.fieldAddr fo100_0 (OV.p rfl)) ?_
        refine WA.o 8 rfl ?_
        refine WL.store (cs := [_]) Tryz.sizeOf98 (OV.p rfl) (OV.p rfl) rfl rfl rfl (by repeat (first | exact Upd.here rfl rfl | apply Upd.up)) ?_
        refine WL.nil ?_
        refine WA.fin ?_
        refine WC.region ?_
        refine WL.val (V.move (OV.p rfl)) rfl ?_
        refine WL.val (V.addI (OV.p rfl) (OV.p rfl) (fun hc => by first | omega | (simp at hc; omega))) rfl ?_
        refine WL.val (V.assign (OV.p rfl)) rfl ?_
        refine WL.nil ?_
        refine ⟨rfl, ?_⟩
        have hy0 : NewPg (Cells g12 5 (ints .u8 (List.replicate rn 255)) :: own1) g ⟨some ⟨g12, 0, none⟩, rn, List.replicate rn 255, none, 0, []⟩ := ⟨⟨SeqIn.here fun K => Seq.allI rfl, SeqIn.nil, by show ((List.replicate rn (255 : Int)).length : Int) = _; rw [List.length_replicate, hrn], IsBytes.repl (by omega), fun q hq => by simp at hq, Nat.zero_le _⟩, by show List.replicate rn (255 : Int) = _; rw [hrn, Int.toNat_natCast], rfl⟩
        refine ⟨(k + 1, A35, c35, ps ++ [⟨some ⟨g12, 0, none⟩, rn, List.replicate rn 255, none, 0, []⟩], Cells g12 5 (ints .u8 (List.replicate rn 255)) :: own1), ⟨by show k + 1 ≤ pn; omega, by show (ps ++ [_]).length = k + 1; rw [List.length_append, hpl]; rfl, fun y hy => ?_, fun x hx => (hbs1 x hx).up⟩, (by show pn - (k + 1) < pn - k; omega), .cons rfl (.cons rfl (.cons rfl (.cons rfl (.cons rfl (.cons (look_eq rfl (by simp)) (.nil _)))))), fun w h => ?_⟩
        · rcases List.mem_append.1 hy with h | h
          · exact (hps y h).up
          · rw [List.mem_singleton.1 h]; exact hy0
        · have h1 := (h.sel 9 [2, 4, 0, 3, 5, 6, 7, 8] rfl).absorb.sel 7 [1, 2, 0, 3, 4, 5, 6] rfl
          dsimp only
          rw [List.flatMap_append, List.flatMap_cons, List.flatMap_nil, List.append_nil]
          dsimp only [RPage.cells]
          rw [List.length_replicate]
          exact h1
       ·refine WL.buildSlice (E := 102) (cs := [_, _]) (vs := [(0, _)]) ⟨OV.p rfl, trivial⟩ rfl (bsl98_1_0 _ _) rfl (fun b34 => ?_)
        refine WL.nil ?_
        refine WA.o 1 rfl ?_
        refine WL.val (V.load Tryz.isAgg98 (OV.p rfl) (fun _ => by repeat (first | exact Rd.here rfl | apply Rd.up))) rfl ?_
        refine WL.nil ?_
        refine WA.o 6 rfl ?_
        refine WL.sub (Sub.refl _) (fun w h => h.sel 4 [2, 0, 1, 3] rfl) ?_
        refine WL.append (m := k) (q := 1) Tryz.underlying98 el102 (OV.p rfl) (OV.p rfl) (Seq.all rfl) (by simp [Value.oneCell']) (by omega) rfl rfl (fun A35 c35 hn35 hc35 => ?_)
        refine WL.nil ?_
        refine WA.t 7 rfl (V.fieldAddr fo100_0 (OV.p rfl)) ?_
        refine WA.o 8 rfl ?_
        refine WL.store (cs := [_]) Tryz.sizeOf98 (OV.p rfl) (OV.p rfl) rfl rfl rfl (by repeat (first | exact Upd.here rfl rfl | apply Upd.up)) ?_
        refine WL.nil ?_
        refine WA.fin ?_
        refine WC.region ?_
        refine WL.val (V.move (OV.p rfl)) rfl ?_
        refine WL.val (V.addI (OV.p rfl) (OV.p rfl) (fun hc => by first | omega | (simp at hc; omega))) rfl ?_
        refine WL.val (V.assign (OV.p rfl)) rfl ?_
        refine WL.nil ?_
        refine ⟨rfl, ?_⟩
        have hy0 : NewPg (Cells g12 5 (ints .u8 (List.replicate rn 255)) :: own1) g ⟨some ⟨g12, 0, none⟩, rn, List.replicate rn 255, none, 0, []⟩ := ⟨⟨SeqIn.here fun K => Seq.allI rfl, SeqIn.nil, by show ((List.replicate rn (255 : Int)).length : Int) = _; rw [List.length_replicate, hrn], IsBytes.repl (by omega), fun q hq => by simp at hq, Nat.zero_le _⟩, by show List.replicate rn (255 : Int) = _; rw [hrn, Int.toNat_natCast], rfl⟩
        refine ⟨(k + 1, A35, c35, ps ++ [⟨some ⟨g12, 0, none⟩, rn, List.replicate rn 255, none, 0, []⟩], Cells g12 5 (ints .u8 (List.replicate rn 255)) :: own1), ⟨by show k + 1 ≤ pn; omega, by show (ps ++ [_]).length = k + 1; rw [List.length_append, hpl]; rfl, fun y hy => ?_, fun x hx => (hbs1 x hx).up⟩, (by show pn - (k + 1) < pn - k; omega), .cons rfl (.cons rfl (.cons rfl (.cons rfl (.cons rfl (.cons (look_eq rfl (by simp)) (.nil _)))))), fun w h => ?_⟩
        · rcases List.mem_append.1 hy with h | h
          · exact (hps y h).up
          · rw [List.mem_singleton.1 h]; exact hy0
        · have h1 := (h.sel 9 [2, 4, 0, 3, 5, 6, 7, 8] rfl).absorb.sel 7 [1, 2, 0, 3, 4, 5, 6] rfl
          dsimp only
          rw [List.flatMap_append, List.flatMap_cons, List.flatMap_nil, List.append_nil]
          dsimp only [RPage.cells]
          rw [List.length_replicate]
          exact h1
    ·simp only [decide_eq_true_eq, decide_eq_false_iff_not] at hc2
     refine WC.exit ?_
     obtain rfl : k = pn := by omega
     refine WC.ex (slA_rowsN (by omega)) (fun ⟨pb, pr⟩ e1 => ?_)
     dsimp only at e1 ⊢
     subst e1
     refine WC.sub (Sub.refl _) (fun w h => h.sel 7 [3, 4, 0, 1, 2, 5, 6] rfl) ?_
     refine WC.regionA (Cells pb 102 (ps.flatMap RPage.cells ++ pr) :: Cells b8 100 [.slice (some ⟨pb, 0, none⟩) k cp, .int .i64 0, .bool false, .bool false] :: AllA own1 :: AllA (bs.map RBlock.row) :: Cells b2 23 [.int .i64 g.bl, .int .i64 g.pg, .int .i64 g.se, .int .i64 g.sb, .int .i64 g.fl] :: F) (by kernel_rfl) ?_
     refine WA.t 0 rfl (V.move (OV.p rfl)) ?_
     refine WA.t 1 rfl (V.move (OV.p rfl)) ?_
     refine WA.t 2 rfl (V.nilCheck (OV.p rfl)) ?_
     refine WA.t 3 rfl (V.fieldAddr fo97_1 (OV.p rfl)) ?_
     refine WA.t 5 rfl (V.loadA (vs := [_, _, _, _]) ⟨Tryz.isAgg100, Tryz.sizeOf100⟩ (OV.p rfl) rfl (fun _ => by repeat (first | exact Rds.gets ⟨rfl, rfl, rfl, rfl, trivial⟩ | apply Rds.up))) ?_
     refine WA.two (i := 4) (j := 6) (fun w h => by repeat (first | exact h | replace h := h.tail)) (by kernel_rfl) rfl rfl ?_ ?_
     ·refine WL.val (V.load Tryz.isAgg95 (OV.p rfl) (fun _ => by repeat (first | exact Rd.here rfl | apply Rd.up))) rfl ?_
      refine WL.nil ?_
      refine WA.o 6 rfl ?_
      refine WL.buildSlice (E := 100) (cs := [_, _, _, _]) (vs := [(0, _)]) ⟨OV.p rfl, trivial⟩ rfl (bsl95_1_0 _ _ _ _) rfl (fun b43 => ?_)
      refine WL.nil ?_
      refine WA.o 7 rfl ?_
      refine WL.sub (Sub.refl _) (fun w h => h.p1) ?_
      refine WL.append (m := i) (q := 1) Tryz.underlying95 el100 (OV.p rfl) (OV.p rfl) (Seq.all rfl) (by simp [Value.oneCell']) (by omega) rfl rfl (fun A44 c44 hn44 hc44 => ?_)
      refine WL.nil ?_
      refine WA.t 8 rfl (V.nilCheck (OV.p rfl)) ?_
      refine WA.t 9 rfl (V.fieldAddr fo97_1 (OV.p rfl)) ?_
      refine WA.o 10 rfl ?_
      refine WL.store (cs := [_]) Tryz.sizeOf95 (OV.p rfl) (OV.p rfl) rfl rfl rfl (by repeat (first | exact Upd.here rfl rfl | apply Upd.up)) ?_
      refine WL.nil ?_
      refine WA.fin ?_
      refine WC.region ?_
      refine WL.val (V.move (OV.p rfl)) rfl ?_
      refine WL.val (V.addI (OV.p rfl) (OV.p rfl) (fun hc => by first | omega | (simp at hc; omega))) rfl ?_
      refine WL.val (V.assign (OV.p rfl)) rfl ?_
      refine WL.nil ?_
      refine ⟨rfl, ?_⟩
      have hx0 : NewBl own1 g ⟨pb, cp, pr, ps, 0, false, false⟩ := ⟨rfl, rfl, rfl, by show (ps.length : Int) = _; omega, hps⟩
      refine ⟨(i + 1, A44, c44, bs ++ [⟨pb, cp, pr, ps, 0, false, false⟩], own1), ⟨by show i + 1 ≤ bn; omega, by show (bs ++ [_]).length = i + 1; rw [List.length_append, hbl]; rfl, fun x hx => ?_⟩, (by show bn - (i + 1) < bn - i; omega), .cons rfl (.cons rfl (.cons rfl (.cons (look_eq rfl (by simp)) (.nil _)))), fun w h => ?_⟩
      · rcases List.mem_append.1 hx with h | h
        · exact hbs1 x h
        · rw [List.mem_singleton.1 h]; exact hx0
      · have h1 := (h.sel 8 [3, 6, 0, 2, 5, 7] rfl).absorb
        have h2 := Sat.allPerm (List.perm_append_singleton (Cells pb 102 (ps.flatMap RPage.cells ++ pr)) (bs.map RBlock.row)).symm h1
        have h3 := h2.sel 5 [1, 2, 0, 3, 4] rfl
        dsimp only
        rw [List.flatMap_append, List.flatMap_cons, List.flatMap_nil, List.append_nil, List.map_append]
        dsimp only [RBlock.cells]
        rw [hpl]
        exact h3
     ·refine WL.buildSlice (E := 100) (cs := [_, _, _, _]) (vs := [(0, _)]) ⟨OV.p rfl, trivial⟩ rfl (bsl95_1_0 _ _ _ _) rfl (fun b43 => ?_)
      refine WL.nil ?_
      refine WA.o 4 rfl ?_
      refine WL.val (V.load Tryz.isAgg95 (OV.p rfl) (fun _ => by repeat (first | exact Rd.here rfl | apply Rd.up))) rfl ?_
      refine WL.nil ?_
      refine WA.o 7 rfl ?_
      refine WL.sub (Sub.refl _) (fun w h => h.p1) ?_
      refine WL.append (m := i) (q := 1) Tryz.underlying95 el100 (OV.p rfl) (OV.p rfl) (Seq.all rfl) (by simp [Value.oneCell']) (by omega) rfl rfl (fun A44 c44 hn44 hc44 => ?_)
      refine WL.nil ?_
      refine WA.t 8 rfl (V.nilCheck (OV.p rfl)) ?_
      refine WA.t 9 rfl (V.fieldAddr fo97_1 (OV.p rfl)) ?_
      refine WA.o 10 rfl ?_
      refine WL.store (cs := [_]) Tryz.sizeOf95 (OV.p rfl) (OV.p rfl) rfl rfl rfl (by repeat (first | exact Upd.here rfl rfl | apply Upd.up)) ?_
      refine WL.nil ?_
      refine WA.fin ?_
      refine WC.region ?_
      refine WL.val (V.move (OV.p rfl)) rfl ?_
      refine WL.val (V.addI (OV.p rfl) (OV.p rfl) (fun hc => by first | omega | (simp at hc; omega))) rfl ?_
      refine WL.val (V.assign (OV.p rfl)) rfl ?_
      refine WL.nil ?_
      refine ⟨rfl, ?_⟩
      have hx0 : NewBl own1 g ⟨pb, cp, pr, ps, 0, false, false⟩ := ⟨rfl, rfl, rfl, by show (ps.length : Int) = _; omega, hps⟩
      refine ⟨(i + 1, A44, c44, bs ++ [⟨pb, cp, pr, ps, 0, false, false⟩], own1), ⟨by show i + 1 ≤ bn; omega, by show (bs ++ [_]).length = i + 1; rw [List.length_append, hbl]; rfl, fun x hx => ?_⟩, (by show bn - (i + 1) < bn - i; omega), .cons rfl (.cons rfl (.cons rfl (.cons (look_eq rfl (by simp)) (.nil _)))), fun w h => ?_⟩
      · rcases List.mem_append.1 hx with h | h
        · exact hbs1 x h
        · rw [List.mem_singleton.1 h]; exact hx0
      · have h1 := (h.sel 8 [3, 6, 0, 2, 5, 7] rfl).absorb
        have h2 := Sat.allPerm (List.perm_append_singleton (Cells pb 102 (ps.flatMap RPage.cells ++ pr)) (bs.map RBlock.row)).symm h1
        have h3 := h2.sel 5 [1, 2, 0, 3, 4] rfl
        dsimp only
        rw [List.flatMap_append, List.flatMap_cons, List.flatMap_nil, List.append_nil, List.map_append]
        dsimp only [RBlock.cells]
        rw [hpl]
        exact h3
   ·simp only [decide_eq_true_eq, decide_eq_false_iff_not] at hc1
    refine WC.exit ?_
    refine WC.seq ?_
    refine WC.seq ?_
    obtain rfl : i = bn := by omega
    refine WC.ex (slA_rowsN (by omega)) (fun ⟨bb, rest⟩ e1 => ?_)
    dsimp only at e1 ⊢
    subst e1
    obtain ⟨R0, hR0⟩ : ∃ R0 : RW, R0 = ⟨g, bb, cb, rest, bs, 0, true, 0, 0, own⟩ := ⟨_, rfl⟩
    have hR0o : R0.Ok := by
      rw [hR0]
      exact ⟨hg, fun x hx y hy => ((hbs x hx).pgs y hy).ok, by show (0 : Int) ≤ 0 ∧ (0 : Int) ≤ 9223372036854775807; decide, fun x hx => by rw [(hbs x hx).next]; show (0 : Int) ≤ 0 ∧ 0 ≤ g.pg; omega⟩
    have hnew : ∀ k : Nat, (Chip.new g []).nextOf (k : Int) = 0 := fun k => by
      show (List.replicate g.bl.toNat (0 : Int)).getD (k : Int).toNat 0 = 0
      rw [List.getD, List.getElem?_replicate]; split <;> rfl
    have hR0i : R0.Is (Chip.new g (l.take 0)) := by
      rw [hR0, List.take_zero]
      refine ⟨rfl, rfl, rfl, rfl, rfl, by show (bs.length : Int) = g.bl; omega, ?_, fun k x hx => ?_⟩
      · show ((List.replicate g.bl.toNat (0 : Int)).length : Int) = g.bl
        rw [List.length_replicate]; omega
      · have hb := hbs x (List.mem_of_getElem? hx)
        exact ⟨by rw [hb.next, hnew], hb.bad.trans (by show false = decide ((k : Int) ∈ ([] : List Int)); simp), hb.fails, hb.len, fun p y hy => ⟨(hb.pgs y (List.mem_of_getElem? hy)).raw, by rw [(hb.pgs y (List.mem_of_getElem? hy)).wrong]; exact List.Perm.refl _⟩⟩
    refine WC.region ?_
    refine WL.val (V.assign (OV.p rfl)) rfl ?_
    refine WL.nil ?_
    refine WC.block ?_
    refine WC.loop (σ := Nat × RW) (fun s => [(1, .slice B q cap), (6, ptr b16 0), (10, .int .i64 (s.1 : Int))]) (fun s => s.2.parts b16 ++ F) (fun s => s.1 ≤ q ∧ s.2.Ok ∧ s.2.Is (Chip.new g (l.take s.1)) ∧ s.2.g = g ∧ ∀ x ∈ l.take s.1, 0 ≤ x ∧ x < g.bl) (fun s => q - s.1) (0, R0) ⟨Nat.zero_le _, hR0o, hR0i, by rw [hR0], fun x hx => by simp at hx⟩ (.cons rfl (.cons rfl (.cons rfl (.nil _)))) (fun w h => by
      rw [hR0]
      have h' := h.sel 5 [1, 0, 2, 3] rfl
      dsimp only [RW.parts, RW.cells, List.cons_append, List.nil_append]
      rw [hbl]
      exact h') ?_
    rintro ⟨j, R⟩ ⟨hj, hRo, hRi, hRg, hin⟩
    dsimp only at hj hRo hRi hRg hin ⊢
    dsimp only [RW.parts, List.cons_append, List.nil_append]
    refine WC.seq ?_
    refine WC.sr ?_
    refine WL.val (V.move (OV.p rfl)) rfl ?_
    refine WL.val (V.move (OV.p rfl)) rfl ?_
    refine WL.val (V.len (t := 42) Tryz.runUnderlying42 (OV.p rfl)) rfl ?_
    refine WL.val (V.lss (OV.p rfl) (OV.p rfl)) rfl ?_
    refine WL.nil ?_
    refine WC.cond rfl (fun hc3 => ?_) (fun hc3 => ?_)
    ·simp only [decide_eq_true_eq, decide_eq_false_iff_not] at hc3
     refine WC.skip ?_
     refine WC.seq ?_
     refine WC.block ?_
     refine WC.seq ?_
     refine WC.seq ?_
     have hjq : j < q := by omega
     obtain ⟨z, hz⟩ : ∃ z, z = l.getD j 0 := ⟨_, rfl⟩
     have hrl : Rd K F (B.map (·.add ((j : Int).toNat * 1))) (.int .i64 z) := by
       have := Seq.int_rd hl (j := (j : Int)) (by omega)
       rw [hz]
       rwa [show (j : Int).toNat = j by omega] at this ⊢
     have htk : l.take (j + 1) = l.take j ++ [z] := by rw [take_succ_getI l (by omega), ← hz]
     have hzl : z ∈ l := by rw [hz, List.getD, List.getElem?_eq_getElem (by omega)]; exact List.getElem_mem _
     refine WC.region ?_
     refine WL.val (V.move (OV.p rfl)) rfl ?_
     refine WL.val (V.move (OV.p rfl)) rfl ?_
     refine WL.val (V.move (OV.p rfl)) rfl ?_
     refine WL.val (V.idxS st42 (OV.p rfl) (OV.p rfl) (fun hc => by omega) (fun hc => by repeat (first | exact hrl | apply Rd.up))) rfl ?_
     refine WL.val (V.load Tryz.isAgg3 (OV.p rfl) (fun hc => by repeat (first | exact hrl | apply Rd.up))) rfl ?_
     refine WL.call (vs := [_, _]) Tryz.call59 ⟨OV.p rfl, OV.p rfl, trivial⟩ (ref_has z Rds.all) rfl ?_
     rintro _ H0 ⟨rfl, h0⟩
     subst H0
     refine WL.val (V.not (OV.p rfl)) rfl ?_
     refine WL.nil ?_
     refine WC.cond rfl (fun hc4 => ?_) (fun hc4 => ?_)
     ·simp only [Bool.not_eq_true', Bool.not_eq_false', Bool.and_eq_true, Bool.and_eq_false_iff, decide_eq_true_eq, decide_eq_false_iff_not] at hc4
      have h4 := hc4
      refine WC.sr ?_
      refine WL.val (V.assign (OV.p rfl)) rfl ?_
      refine WL.val (V.assign (OV.p rfl)) rfl ?_
      refine WL.nil ?_
      refine WC.ret ?_
      exact BodyQ.ret (H' := F) (Res.tmp2 rfl rfl rfl) (fun w h => h.drop 4) (.inr ⟨fun h => by have := h.2 z hzl; rw [hRg] at h4; omega, rfl, rfl⟩)
     ·simp only [Bool.not_eq_true', Bool.not_eq_false', Bool.and_eq_true, Bool.and_eq_false_iff, decide_eq_true_eq, decide_eq_false_iff_not] at hc4
      have h4 := hc4
      rw [hRg] at h4
      obtain ⟨zn, rfl⟩ : ∃ zn : Nat, z = (zn : Int) := ⟨z.toNat, by omega⟩
      have hlen := hRi.len
      have hzb : zn < R.blocks.length := by have : (R.blocks.length : Int) = g.bl := hlen; omega
      obtain ⟨x, hxb⟩ : ∃ x, R.blocks[zn]? = some x := ⟨_, List.getElem?_eq_getElem hzb⟩
      refine WC.sub (Sub.refl _) (fun w h => h.p1) ?_
      refine WC.skip ?_
      refine WC.regionA (Cells b16 97 R.cells :: AllA R.rows :: AllA R.own :: F) (by kernel_rfl) ?_
      refine WA.t 0 rfl (V.move (OV.p rfl)) ?_
      refine WA.t 1 rfl (V.nilCheck (OV.p rfl)) ?_
      refine WA.t 2 rfl (V.fieldAddr fo97_1 (OV.p rfl)) ?_
      refine WA.t 3 rfl (V.load Tryz.isAgg95 (OV.p rfl) (fun _ => by repeat (first | exact Rd.here rfl | apply Rd.up))) ?_
      refine WA.t 4 rfl (V.move (OV.p rfl)) ?_
      refine WA.t 5 rfl (V.move (OV.p rfl)) ?_
      refine WA.t 6 rfl (V.idxS st42 (OV.p rfl) (OV.p rfl) (fun hc => by omega) (fun hc => by repeat (first | exact hrl | apply Rd.up))) ?_
      refine WA.t 7 rfl (V.load Tryz.isAgg3 (OV.p rfl) (fun hc => by repeat (first | exact hrl | apply Rd.up))) ?_
      refine WA.t 8 rfl (V.idxB st95 (OV.p rfl) (OV.p rfl) (fun hc => by omega)) ?_
      refine WA.t 9 rfl (V.fieldAddr fo100_2 (OV.p rfl)) ?_
      refine WA.o 10 rfl ?_
      refine WL.store (cs := [_]) Tryz.sizeOf4 (OV.p rfl) (OV.p rfl) rfl rfl rfl (Upd.at_ (by
        have h1 : (zn + 1) * 4 ≤ R.blocks.length * 4 := Nat.mul_le_mul_right _ hzb
        rw [List.length_append, flat_length rcells_len]; show 0 + (zn : Int).toNat * 4 + 2 < _; omega)) ?_
      refine WL.nil ?_
      refine WA.fin ?_
      refine WC.region ?_
      refine WL.val (V.move (OV.p rfl)) rfl ?_
      refine WL.val (V.addI (OV.p rfl) (OV.p rfl) (fun hc => by first | omega | (simp at hc; omega))) rfl ?_
      refine WL.val (V.assign (OV.p rfl)) rfl ?_
      refine WL.nil ?_
      refine ⟨rfl, ?_⟩
      refine ⟨(j + 1, R.setB zn { x with bad := true } R.own), ⟨hjq, hRo.setX (x := x) (x' := { x with bad := true }) hxb rfl (hRo.next x (List.mem_of_getElem? hxb)), ?_, hRg, fun y hy => ?_⟩, (by show q - (j + 1) < q - j; omega), .cons rfl (.cons rfl (.cons (look_eq rfl (by simp)) (.nil _))), fun w h => ?_⟩
      · have hmk : ∀ k : Nat, (Chip.new g (l.take (j + 1))).marked (k : Int) = if k = zn then true else (Chip.new g (l.take j)).marked (k : Int) := fun k => by
          show decide ((k : Int) ∈ l.take (j + 1)) = if k = zn then true else decide ((k : Int) ∈ l.take j)
          rw [htk]
          by_cases hk : k = zn
          · subst hk; simp
          · rw [if_neg hk]; apply decide_eq_decide.2; rw [List.mem_append, List.mem_singleton]; exact ⟨fun h => h.elim id (fun e => absurd (by omega) hk), .inl⟩
        refine hRi.setB (x := x) hxb rfl rfl rfl rfl rfl rfl (fun k y hk hy hb => hb.congr rfl rfl (by rw [hmk, if_neg hk]) rfl (fun q => ⟨rfl, rfl⟩)) ?_
        have hb := hRi.blk zn x hxb
        exact ⟨hb.next, by rw [hmk, if_pos rfl], hb.fails, hb.len, fun q y hq => ⟨(hb.pg q y hq).raw, (hb.pg q y hq).wrong⟩⟩
      · rw [htk] at hy
        rcases List.mem_append.1 hy with h | h
        · exact hin y h
        · rw [List.mem_singleton.1 h]; exact h4
      · rw [show 0 + (zn : Int).toNat * 4 + 2 = zn * 4 + 2 by omega] at h
        exact Sat.unall (l := RW.parts b16 _) (RW.foldX (R := R) (i := 2) hxb (by decide) rfl rfl h.p1)
    ·simp only [decide_eq_true_eq, decide_eq_false_iff_not] at hc3
     refine WC.exit ?_
     refine WC.sr ?_
     refine WL.val (V.move (OV.p rfl)) rfl ?_
     refine WL.val (V.assign (OV.p rfl)) rfl ?_
     refine WL.val (V.assign (OV.p rfl)) rfl ?_
     refine WL.nil ?_
     refine WC.ret ?_
     obtain rfl : j = q := by omega
     rw [List.take_of_length_le (by omega)] at hRi hin
     exact BodyQ.ret (H' := R.A b16 :: F) (Res.tmp2 rfl rfl rfl) (fun w h => Sat.all (l := RW.parts b16 R) h) (.inl ⟨h0, hin, b16, R, hRo, hRi, hRg, rfl, rfl⟩)
end
end Go.Proofs.YtohkefolnmcjnaaGreat
