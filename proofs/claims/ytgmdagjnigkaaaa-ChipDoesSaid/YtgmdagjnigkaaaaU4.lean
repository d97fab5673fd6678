/- The reference's chip: Read, Force, New. -/
import Derived.Test.YtgmdagjnigkaaaaU3
namespace Go.Proofs.Ytgmdagjnigkaaaa
open Go.Sl Go.RowKit
set_option linter.unusedVariables false
set_option linter.unusedSimpArgs false
set_option maxRecDepth 20000

theorem flip8_comm {x i j : Int} : flip8 (flip8 x i) j = flip8 (flip8 x j) i := by
  unfold flip8
  rw [Int.toNat_natCast, Int.toNat_natCast, Nat.xor_assoc, Nat.xor_comm (2 ^ i.toNat), ← Nat.xor_assoc]
theorem turn1_comm (xs : List Int) (i j : Int) : turn1 (turn1 xs i) j = turn1 (turn1 xs j) i := by
  unfold turn1
  by_cases h : (i / 8).toNat = (j / 8).toNat
  · rw [h]
    by_cases hl : (j / 8).toNat < xs.length
    · have e : ∀ v : Int, (xs.set (j / 8).toNat v).getD (j / 8).toNat 0 = v := fun v => by simp [List.getD, hl]
      rw [e, e, List.set_set, List.set_set, flip8_comm]
    · rw [List.set_eq_of_length_le (by simp; omega), List.set_eq_of_length_le (by omega), List.set_eq_of_length_le (by simp; omega), List.set_eq_of_length_le (by omega)]
  · have e1 : ∀ v : Int, (xs.set (i / 8).toNat v).getD (j / 8).toNat 0 = xs.getD (j / 8).toNat 0 := fun v => by simp [List.getD, List.getElem?_set, h]
    have h' : ¬ (j / 8).toNat = (i / 8).toNat := fun e => h e.symm
    have e2 : ∀ v : Int, (xs.set (j / 8).toNat v).getD (i / 8).toNat 0 = xs.getD (i / 8).toNat 0 := fun v => by simp [List.getD, List.getElem?_set, h']
    rw [e1, e2, List.set_comm _ _ h]
theorem turn_perm {l l' : List Int} (h : List.Perm l l') : ∀ xs, turn xs l = turn xs l' := by
  induction h with
  | nil => intro xs; rfl
  | cons a _ ih => intro xs; exact ih (turn1 xs a)
  | swap a b l => intro xs; show turn (turn1 (turn1 xs b) a) l = turn (turn1 (turn1 xs a) b) l; rw [turn1_comm]
  | trans _ _ ih1 ih2 => intro xs; rw [ih1, ih2]
section
variable {a : Nat} {R : RW} {S : Chip} {K : World} {F : List Assn}
theorem ref_Read (hR : R.Ok) (hS : R.Is S) (b p : Int) : Does Try.prog 37 #[ptr a 0, .int .i64 b, .int .i64 p] K (R.A a :: F)
    (fun v H' => (S.readErr b p = 0 ∧ ∃ g, v = .tuple #[.slice (some ⟨g, 0, none⟩) R.g.raw.toNat R.g.raw.toNat, .int .i64 0] ∧ H' = Cells g 5 (ints .u8 (S.reads b p)) :: R.A a :: F) ∨
      (S.readErr b p ≠ 0 ∧ v = .tuple #[.slice none 0 0, .int .i64 (S.readErr b p)] ∧ H' = R.A a :: F)) := by
  have hgb := hR.mays
  have hrb := Geo.raw_bd hR.mays
  unfold Geo.mays at hgb
  refine Does.openR ?_
  dsimp only [RW.parts, List.cons_append, List.nil_append]
  refine Does.enter Try.func37 rfl Try.ntmps37 rfl ?_
  simp only [env0, Nat.reduceAdd]
  refine WC.seq ?_
  refine WC.region ?_
  refine WL.val (V.assign (OV.p rfl)) rfl ?_
  refine WL.val (V.assign (OV.p rfl)) rfl ?_
  refine WL.nil ?_
  refine WC.seq ?_
  refine WC.seq ?_
  refine WC.region ?_
  refine WL.val (V.move (OV.p rfl)) rfl ?_
  refine WL.val (V.nilCheck (OV.p rfl)) rfl ?_
  refine WL.val (V.fieldAddr fo68_3 (OV.p rfl)) rfl ?_
  refine WL.val (V.load Try.isAgg4 (OV.p rfl) (fun _ => by repeat (first | exact Rd.here rfl | apply Rd.up))) rfl ?_
  refine WL.val (V.not (OV.p rfl)) rfl ?_
  refine WL.nil ?_
  refine WC.cond rfl (fun hc0 => ?_) (fun hc0 => ?_)
  · simp only [Bool.not_eq_true', Bool.not_eq_false'] at hc0
    have hE : S.readErr b p = 70 := by unfold Chip.readErr; rw [if_pos (show S.up = false by rw [← hS.up]; exact hc0)]
    refine WC.seq ?_
    refine WC.region ?_
    refine WL.val (V.assign (OV.p rfl)) rfl ?_
    refine WL.val (V.assign (OV.p rfl)) rfl ?_
    refine WL.nil ?_
    refine WC.ret ?_
    exact BodyQ.ret (H' := R.A a :: F) (Res.tmp2 rfl rfl rfl) (fun w h => Sat.all (l := RW.parts a R) h) (.inr ⟨by rw [hE]; decide, by rw [hE], rfl⟩)
  · simp only [Bool.not_eq_true', Bool.not_eq_false'] at hc0
    have hup : S.up = true := by rw [← hS.up]; exact hc0
    refine WC.skip ?_
    refine WC.seq ?_
    refine WC.seq ?_
    refine WC.region ?_
    refine WL.val (V.move (OV.p rfl)) rfl ?_
    refine WL.val (V.move (OV.p rfl)) rfl ?_
    refine WL.val (V.move (OV.p rfl)) rfl ?_
    refine WL.call (vs := [_, _, _]) Try.call75 ⟨OV.p rfl, OV.p rfl, OV.p rfl, trivial⟩ (ref_page b p Rds.all) rfl ?_
    rintro _ H0 ⟨rfl, h0⟩
    subst H0
    refine WL.val (V.not (OV.p rfl)) rfl ?_
    refine WL.nil ?_
    refine WC.cond rfl (fun hc1 => ?_) (fun hc1 => ?_)
    · simp only [Bool.not_eq_true', Bool.not_eq_false', Bool.and_eq_true, Bool.and_eq_false_iff, decide_eq_true_eq, decide_eq_false_iff_not] at hc1
      have h1 := hc1
      have hE : S.readErr b p = 1 := by
        unfold Chip.readErr Chip.page Chip.block
        rw [if_neg (by rw [hup]; decide), if_pos]
        rw [← hS.g]; simp only [Bool.and_eq_false_iff, decide_eq_false_iff_not]; omega
      refine WC.seq ?_
      refine WC.region ?_
      refine WL.val (V.assign (OV.p rfl)) rfl ?_
      refine WL.val (V.assign (OV.p rfl)) rfl ?_
      refine WL.nil ?_
      refine WC.ret ?_
      exact BodyQ.ret (H' := R.A a :: F) (Res.tmp2 rfl rfl rfl) (fun w h => Sat.all (l := RW.parts a R) h) (.inr ⟨by rw [hE]; decide, by rw [hE], rfl⟩)
    · simp only [Bool.not_eq_true', Bool.not_eq_false', Bool.and_eq_true, Bool.and_eq_false_iff, decide_eq_true_eq, decide_eq_false_iff_not] at hc1
      have h1 := hc1
      obtain ⟨⟨⟨hb1, hb2⟩, hp1⟩, hp2⟩ := h1
      have hE : S.readErr b p = 0 := by
        unfold Chip.readErr Chip.page Chip.block
        rw [if_neg (by rw [hup]; decide), if_neg]
        rw [← hS.g]; simp; omega
      obtain ⟨bn, rfl⟩ : ∃ bn : Nat, b = (bn : Int) := ⟨b.toNat, by omega⟩
      obtain ⟨pn, rfl⟩ : ∃ pn : Nat, p = (pn : Int) := ⟨p.toNat, by omega⟩
      have hlen := hS.len
      rw [← hS.g] at hlen
      have hbl : bn < R.blocks.length := by omega
      obtain ⟨x, hxb⟩ : ∃ x, R.blocks[bn]? = some x := ⟨_, List.getElem?_eq_getElem hbl⟩
      have hBI := hS.blk bn x hxb
      have hxlen := hBI.len
      rw [← hS.g] at hxlen
      have hpl : pn < x.pages.length := by omega
      obtain ⟨y, hyp⟩ : ∃ y, x.pages[pn]? = some y := ⟨_, List.getElem?_eq_getElem hpl⟩
      have hcell : ∀ {i : Nat} {v : Value}, x.cells[i]? = some v → (R.blocks.flatMap RBlock.cells ++ R.rest)[0 + (bn : Int).toNat * 4 + i]? = some v := fun {i v} hi => by
        rw [show 0 + (bn : Int).toNat * 4 + i = bn * 4 + i by omega]; exact RW.blk_get hxb hi
      have hyo := hR.pgs x (List.mem_of_getElem? hxb) y (List.mem_of_getElem? hyp)
      have hyr : ∀ {H : List Assn}, Rds K (AllA R.rows :: H) x.pb (0 + (pn : Int).toNat * 2) y.cells := fun {H} i v hi => by
        refine Rd.inA (A := RBlock.row x) (List.mem_map_of_mem (List.mem_of_getElem? hxb)) (Rd.here ?_)
        rw [show 0 + (pn : Int).toNat * 2 + i = pn * 2 + i by omega]
        exact RBlock.pg_get hyp hi
      have hyl : y.raw.length = R.g.raw.toNat := by have := hyo.rl; omega
      have hrd : turn y.raw y.wrong = S.reads (bn : Int) (pn : Int) := by
        have h6 := hBI.pg pn y hyp
        unfold Chip.reads
        rw [← h6.raw]
        exact turn_perm h6.wrong _
      refine WC.skip ?_
      refine WC.seq ?_
      refine WC.region ?_
      refine WL.val (V.move (OV.p rfl)) rfl ?_
      refine WL.val (V.nilCheck (OV.p rfl)) rfl ?_
      refine WL.val (V.fieldAddr fo68_1 (OV.p rfl)) rfl ?_
      refine WL.val (V.load Try.isAgg66 (OV.p rfl) (fun _ => by repeat (first | exact Rd.here rfl | apply Rd.up))) rfl ?_
      refine WL.val (V.move (OV.p rfl)) rfl ?_
      refine WL.val (V.idxB st66 (OV.p rfl) (OV.p rfl) (fun hc => by omega)) rfl ?_
      refine WL.val (V.fieldAddr fo103_0 (OV.p rfl)) rfl ?_
      refine WL.val (V.load Try.isAgg101 (OV.p rfl) (fun hc => Rd.up (Rd.here (hcell (i := 0) rfl)))) rfl ?_
      refine WL.val (V.move (OV.p rfl)) rfl ?_
      refine WL.val (V.idxB st101 (OV.p rfl) (OV.p rfl) (fun hc => by omega)) rfl ?_
      refine WL.val (V.loadA (vs := y.cells) ⟨Try.isAgg105, Try.sizeOf105⟩ (OV.p rfl) rfl (fun _ => Rds.up (Rds.up hyr))) rfl ?_
      refine WL.alloc (cs := [(.slice none 0 0), (.slice none 0 0)]) Try.zeroValue105 rfl rfl (fun b8 => ?_)
      refine WL.store (cs := [_, _]) Try.sizeOf105 (OV.p rfl) (OV.p rfl) rfl rfl rfl (by repeat (first | exact Upd.here (cs' := [_, _]) rfl rfl | apply Upd.up)) ?_
      refine WL.nil ?_
      refine WC.seq ?_
      refine WC.region ?_
      refine WL.val (V.fieldAddr fo105_0 (OV.p rfl)) rfl ?_
      refine WL.val (V.load Try.isAgg29 (OV.p rfl) (fun _ => by repeat (first | exact Rd.here rfl | apply Rd.up))) rfl ?_
      refine WL.val (V.fieldAddr fo105_1 (OV.p rfl)) rfl ?_
      refine WL.val (V.load Try.isAgg40 (OV.p rfl) (fun _ => by repeat (first | exact Rd.here rfl | apply Rd.up))) rfl ?_
      refine WL.call (vs := [_, _]) Try.call76 ⟨OV.p rfl, OV.p rfl, trivial⟩ (ref01_Turn (xs := y.raw) (l := y.wrong) (Seq.up (Seq.up (Seq.up (Seq.up (SeqIn.seq hyo.ra))))) hyo.rb (Seq.up (Seq.up (Seq.up (Seq.up (SeqIn.seq hyo.wa))))) (fun i hi => by have := hyo.wb i hi; have := hyo.rl; omega) (by omega) hyo.wl) rfl ?_
      rintro _ _ ⟨g, rfl, rfl⟩
      rw [hrd, hyl]
      refine WL.val (V.assign (OV.p rfl)) rfl ?_
      refine WL.val (V.assign (OV.p rfl)) rfl ?_
      refine WL.nil ?_
      refine WC.ret ?_
      exact BodyQ.ret (H' := Cells g 5 (ints .u8 (S.reads (bn : Int) (pn : Int))) :: R.A a :: F) (Res.tmp2 rfl rfl rfl) (fun w h => (Sat.all (l := RW.parts a R) (h.sel 6 [2, 3, 4, 5, 0] rfl)).p1) (.inl ⟨hE, g, rfl, rfl⟩)
theorem ref_Force (hR : R.Ok) (hS : R.Is S) {B : Option Addr} {m cap : Nat} {xs : List Int} (b p : Int) (hx : IsBytes xs) (hs : Seq K F B m 1 (ints .u8 xs)) (hm : m ≤ 1000000) :
    Does Try.prog 74 #[ptr a 0, .int .i64 b, .int .i64 p, .slice B m cap] K (R.A a :: F)
      (fun v H' => ∃ R' : RW, R'.Ok ∧ R'.Is (S.force b p xs).1 ∧ H' = R'.A a :: F ∧ v = .int .i64 (S.force b p xs).2) := by
  have hl : xs.length = m := by simpa [ints] using hs.len
  have hrb := Geo.raw_bd hR.mays
  have hgb := hR.mays
  unfold Geo.mays at hgb
  obtain ⟨Z, hZ⟩ : ∃ Z, Z = S.force b p xs := ⟨_, rfl⟩
  rw [← hZ]
  unfold Chip.force at hZ
  refine Does.openR ?_
  dsimp only [RW.parts, List.cons_append, List.nil_append]
  refine Does.enter Try.func74 rfl Try.ntmps74 rfl ?_
  simp only [env0, Nat.reduceAdd]
  refine WC.seq ?_
  refine WC.region ?_
  refine WL.val (V.assign (OV.p rfl)) rfl ?_
  refine WL.nil ?_
  refine WC.seq ?_
  refine WC.seq ?_
  refine WC.region ?_
  refine WL.val (V.move (OV.p rfl)) rfl ?_
  refine WL.val (V.move (OV.p rfl)) rfl ?_
  refine WL.val (V.move (OV.p rfl)) rfl ?_
  refine WL.call (vs := [_, _, _]) Try.call75 ⟨OV.p rfl, OV.p rfl, OV.p rfl, trivial⟩ (ref_page b p Rds.all) rfl ?_
  rintro _ H0 ⟨rfl, h0⟩
  subst H0
  refine WL.val (V.not (OV.p rfl)) rfl ?_
  refine WL.val (V.move (OV.p rfl)) rfl ?_
  refine WL.valG (oj := _) rfl rfl rfl GC.f (V.move (OV.p rfl)) rfl ?_
  refine WL.valG (oj := _) rfl rfl rfl GC.f (V.len (t := 29) Try.runUnderlying29 (OV.g rfl id)) rfl ?_
  refine WL.valG (oj := _) rfl rfl rfl GC.f (V.move (OV.p rfl)) rfl ?_
  refine WL.valG (oj := _) rfl rfl rfl GC.f (V.nilCheck (OV.g rfl id)) rfl ?_
  refine WL.valG (oj := _) rfl rfl rfl GC.f (V.fieldAddr fo68_0 (OV.g rfl id)) rfl ?_
  refine WL.valG (oj := _) rfl rfl rfl GC.f (V.loadA (vs := [_, _, _, _, _]) ⟨Try.isAgg23, Try.sizeOf23⟩ (OV.g rfl id) rfl (fun _ => by repeat (first | exact Rds.gets ⟨rfl, rfl, rfl, rfl, rfl, trivial⟩ | apply Rds.up))) rfl ?_
  refine WL.callG (oj := _) (vs := [_]) rfl rfl rfl GC.f Try.call14 ⟨OV.g rfl id, trivial⟩ (fun hg => ref06_Raw R.g hR.mays _ _) rfl ?_
  refine WL.valG (oj := _) rfl rfl rfl GC.f (V.neq (OV.g rfl id) (OV.g rfl id)) rfl ?_
  refine WL.val (V.pickOr (OV.p rfl) (OV.g rfl id)) rfl ?_
  refine WL.nil ?_
  refine WC.cond rfl (fun hc0 => ?_) (fun hc0 => ?_)
  · simp only [Bool.or_eq_true, Bool.or_eq_false_iff, Bool.not_eq_true', Bool.not_eq_false', Bool.and_eq_true, Bool.and_eq_false_iff, decide_eq_true_eq, decide_eq_false_iff_not] at hc0
    have h1 := hc0
    have hraw : S.raw = R.g.raw := by unfold Chip.raw; rw [hS.g]
    rw [if_pos (show S.page b p = false ∨ (xs.length : Int) ≠ S.raw by
      rw [hraw, hl]
      refine h1.imp (fun h => ?_) id
      unfold Chip.page Chip.block; rw [← hS.g]; simp only [Bool.and_eq_false_iff, decide_eq_false_iff_not]; omega)] at hZ
    refine WC.seq ?_
    refine WC.region ?_
    refine WL.val (V.assign (OV.p rfl)) rfl ?_
    refine WL.nil ?_
    refine WC.ret ?_
    exact BodyQ.ret (H' := R.A a :: F) (Res.tmp rfl rfl) (fun w h => Sat.all (l := RW.parts a R) h) ⟨R, hR, by rw [hZ]; exact hS, rfl, by rw [hZ]⟩
  · simp only [Bool.or_eq_true, Bool.or_eq_false_iff, Bool.not_eq_true', Bool.not_eq_false', Bool.and_eq_true, Bool.and_eq_false_iff, decide_eq_true_eq, decide_eq_false_iff_not] at hc0
    have h1 := hc0
    have hraw : S.raw = R.g.raw := by unfold Chip.raw; rw [hS.g]
    obtain ⟨⟨⟨⟨hb1, hb2⟩, hp1⟩, hp2⟩, hml⟩ := h1
    have hml : (m : Int) = R.g.raw := by simpa using hml
    rw [if_neg (show ¬ (S.page b p = false ∨ (xs.length : Int) ≠ S.raw) by
      rw [hraw, hl, Chip.page, Chip.block, ← hS.g]; simp; omega)] at hZ
    obtain ⟨bn, rfl⟩ : ∃ bn : Nat, b = (bn : Int) := ⟨b.toNat, by omega⟩
    obtain ⟨pn, rfl⟩ : ∃ pn : Nat, p = (pn : Int) := ⟨p.toNat, by omega⟩
    have hlen := hS.len
    rw [← hS.g] at hlen
    have hbl : bn < R.blocks.length := by omega
    obtain ⟨x, hxb⟩ : ∃ x, R.blocks[bn]? = some x := ⟨_, List.getElem?_eq_getElem hbl⟩
    have hBI := hS.blk bn x hxb
    have hxlen := hBI.len
    rw [← hS.g] at hxlen
    have hpl : pn < x.pages.length := by omega
    obtain ⟨y, hyp⟩ : ∃ y, x.pages[pn]? = some y := ⟨_, List.getElem?_eq_getElem hpl⟩
    have hcell : ∀ {i : Nat} {v : Value}, x.cells[i]? = some v → (R.blocks.flatMap RBlock.cells ++ R.rest)[0 + (bn : Int).toNat * 4 + i]? = some v := fun {i v} hi => by
      rw [show 0 + (bn : Int).toNat * 4 + i = bn * 4 + i by omega]; exact RW.blk_get hxb hi
    have hnx := hR.next x (List.mem_of_getElem? hxb)
    refine WC.skip ?_
    refine WC.seq ?_
    refine WC.region ?_
    refine WL.val (V.assign (OV.p rfl)) rfl ?_
    refine WL.nil ?_
    refine WC.seq ?_
    refine WC.region ?_
    refine WL.val (V.move (OV.p rfl)) rfl ?_
    refine WL.val (V.move (OV.p rfl)) rfl ?_
    refine WL.sub (Sub.refl _) (fun w h => Sat.slNil h 5 1) ?_
    refine WL.append (m := 0) (cs := []) (q := m) Try.underlying29 el5 (OV.p rfl) (OV.p rfl) (by repeat (first | exact hs | apply Seq.up)) (ints_one _ _) (by omega) rfl rfl (fun A9 c9 hA9 hc9 => ?_)
    rw [Nat.zero_add, List.nil_append]
    refine WL.val (V.assign (OV.p rfl)) rfl ?_
    refine WL.nil ?_
    refine WC.seq ?_
    refine WC.region ?_
    refine WL.val (V.move (OV.p rfl)) rfl ?_
    refine WL.val (V.nilCheck (OV.p rfl)) rfl ?_
    refine WL.val (V.fieldAddr fo68_1 (OV.p rfl)) rfl ?_
    refine WL.val (V.load Try.isAgg66 (OV.p rfl) (fun _ => by repeat (first | exact Rd.here rfl | apply Rd.up))) rfl ?_
    refine WL.val (V.move (OV.p rfl)) rfl ?_
    refine WL.val (V.idxB st66 (OV.p rfl) (OV.p rfl) (fun hc => by omega)) rfl ?_
    refine WL.val (V.assign (OV.p rfl)) rfl ?_
    refine WL.nil ?_
    refine WC.seq ?_
    have hrow : R.rows[bn]'(by show bn < R.rows.length; rw [List.length_map]; exact hbl) = RBlock.row x := by
      rw [List.getElem_map]
      congr 1
      rw [List.getElem?_eq_getElem hbl] at hxb
      exact Option.some.inj hxb
    refine WC.sub (H' := Cells x.pb 105 (x.pages.flatMap RPage.cells ++ x.pr) :: AllA (R.rows.eraseIdx bn) :: SlA (.slice A9 m c9) 5 1 m (ints .u8 xs) :: Cells a 68 R.cells :: Cells R.bb 103 (R.blocks.flatMap RBlock.cells ++ R.rest) :: AllA R.own :: F) (Sub.refl _) (fun w h => by
      have h' := Sat.takeA (k := bn) (by show bn < R.rows.length; rw [List.length_map]; exact hbl) (h.sel 5 [3, 0, 1, 2, 4] rfl)
      rw [hrow] at h'
      exact h') ?_
    refine WC.region ?_
    refine WL.val (V.move (OV.p rfl)) rfl ?_
    refine WL.val (V.nilCheck (OV.p rfl)) rfl ?_
    refine WL.val (V.fieldAddr fo103_0 (OV.p rfl)) rfl ?_
    refine WL.val (V.load Try.isAgg101 (OV.p rfl) (fun hc => Rd.up (Rd.up (Rd.up (Rd.up (Rd.here (hcell (i := 0) rfl))))))) rfl ?_
    refine WL.val (V.move (OV.p rfl)) rfl ?_
    refine WL.val (V.move (OV.p rfl)) rfl ?_
    refine WL.val (V.build (vs := [(0, _)]) ⟨OV.p rfl, trivial⟩ rfl (bld105_0 _ _ _)) rfl ?_
    refine WL.val (V.idxB st101 (OV.p rfl) (OV.p rfl) (fun hc => by omega)) rfl ?_
    refine WL.store (cs := [_, _]) Try.sizeOf105 (OV.p rfl) (OV.p rfl) rfl rfl rfl (Upd.here (Nat.ble_eq_true_of_le (by
      have h1 : (pn + 1) * 2 ≤ x.pages.length * 2 := Nat.mul_le_mul_right _ hpl
      rw [List.length_append, flat_length pcells_len]; show 0 + (pn : Int).toNat * 2 + 2 ≤ _; omega)) rfl) ?_
    refine WL.nil ?_
    refine WC.seq ?_
    refine WC.region ?_
    refine WL.val (V.move (OV.p rfl)) rfl ?_
    refine WL.val (V.move (OV.p rfl)) rfl ?_
    refine WL.val (V.nilCheck (OV.p rfl)) rfl ?_
    refine WL.val (V.fieldAddr fo103_1 (OV.p rfl)) rfl ?_
    refine WL.val (V.load Try.isAgg3 (OV.p rfl) (fun hc => Rd.up (Rd.up (Rd.up (Rd.up (Rd.here (hcell (i := 1) rfl))))))) rfl ?_
    refine WL.val (V.move (OV.p rfl)) rfl ?_
    refine WL.val (V.addI (OV.p rfl) (OV.p rfl) (fun hc => by first | omega | (simp at hc; omega))) rfl ?_
    refine WL.val (V.max (OV.p rfl) (OV.p rfl)) rfl ?_
    refine WL.val (V.nilCheck (OV.p rfl)) rfl ?_
    refine WL.val (V.fieldAddr fo103_1 (OV.p rfl)) rfl ?_
    refine WL.store (cs := [_]) Try.sizeOf3 (OV.p rfl) (OV.p rfl) rfl rfl rfl (Upd.up (Upd.up (Upd.up (Upd.up (Upd.at_ (by
      have h1 : (bn + 1) * 4 ≤ R.blocks.length * 4 := Nat.mul_le_mul_right _ hbl
      rw [List.length_append, flat_length rcells_len]; show 0 + (bn : Int).toNat * 4 + 1 < _; omega)))))) ?_
    refine WL.nil ?_
    refine WC.seq ?_
    refine WC.region ?_
    refine WL.val (V.assign (OV.p rfl)) rfl ?_
    refine WL.nil ?_
    refine WC.ret ?_
    obtain ⟨y', hy'⟩ : ∃ y' : RPage, y' = ⟨A9, c9, xs, none, 0, []⟩ := ⟨_, rfl⟩
    obtain ⟨own', hown⟩ : ∃ own', own' = SlA (.slice A9 m c9) 5 1 m (ints .u8 xs) :: R.own := ⟨_, rfl⟩
    have hmx : max x.next ((pn : Int) + 1) = max (S.nextOf (bn : Int)) ((pn : Int) + 1) := by rw [hBI.next]
    refine BodyQ.ret (H' := (R.setB bn (x.setP pn y' (max x.next ((pn : Int) + 1))) own').A a :: F) (Res.tmp rfl rfl) (fun w h => ?_) ⟨_, ?_, ?_, rfl, by rw [hZ]⟩
    · rw [show 0 + (pn : Int).toNat * 2 = pn * 2 by omega, show 0 + (bn : Int).toNat * 4 + 1 = bn * 4 + 1 by omega] at h
      refine RW.foldP (y := y) hxb hyp ?_
      have h1 := (h.sel 6 [2, 5, 0, 1, 3, 4] rfl).absorb.sel 5 [1, 2, 3, 4, 0] rfl
      rw [hy', hown]
      dsimp only [RPage.cells]
      rw [hl]
      exact h1
    · refine hR.setP (b := bn) (p := pn) hxb ?_ (fun K w h => by rw [hown] at h; exact Sat.all (l := R.own) (H := []) h.unall.tail) (by omega)
      rw [hy', hown]
      refine ⟨SeqIn.here fun K => ?_, SeqIn.nil, by show (xs.length : Int) = _; omega, hx, fun q hq => by simp at hq, Nat.zero_le _⟩
      show Seq K _ A9 xs.length 1 _
      rw [hl]
      exact SlA.seq (by simp [ints, hl])
    · rw [hZ]
      have hnl : (S.next.length : Int) = R.g.bl := by rw [hS.nlen, hS.g]
      refine hS.setP (b := bn) (p := pn) hxb ⟨rfl, rfl, rfl, rfl, rfl, List.length_set, rfl, rfl, fun k hk => ?_, fun k q hkq => ?_⟩ ⟨?_, ?_⟩ hpl
      · rw [hmx]; exact Chip.nextOf_setN (S := S) hk
      · have hne : ¬ (((k : Int), (q : Int)) = ((bn : Int), (pn : Int))) := fun e => hkq (by injection e with e1 e2; omega)
        exact ⟨if_neg hne, if_neg hne⟩
      · rw [hy']; show xs = (Chip.upds S.pages _ _ _).getD _; unfold Chip.upds; rw [if_pos rfl]; rfl
      · rw [hy']; show List.Perm [] ((Chip.upds S.wrong _ _ _).getD []); unfold Chip.upds; rw [if_pos rfl]; exact List.Perm.refl _
end
end Go.Proofs.Ytgmdagjnigkaaaa
