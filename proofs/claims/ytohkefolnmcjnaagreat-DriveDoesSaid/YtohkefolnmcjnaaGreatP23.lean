import Derived.Test.YtohkefolnmcjnaaGreatP22
/- The reference's chip: Erase, Mark, Burn, Arm. -/
namespace Go.Proofs.YtohkefolnmcjnaaGreat
open Go.Sl Go.RowKit
set_option linter.unusedVariables false
set_option linter.unusedSimpArgs false
set_option maxRecDepth 20000

theorem set_at {l : List Value} {k : Nat} {v : Value} (h : l[k]? = some v) : l.set k v = l := by
  apply List.ext_getElem?
  intro i
  rw [List.getElem?_set]
  by_cases hi : k = i
  · subst hi
    rw [if_pos rfl, if_pos (List.getElem?_eq_some_iff.1 h).1, h]
  · rw [if_neg hi]
theorem RW.Is.setB {R : RW} {S S' : Chip} (h : R.Is S) {b : Nat} {x x' : RBlock} {own : List Assn} (hx : R.blocks[b]? = some x) (h1 : S'.g = S.g) (h2 : S'.fuse = S.fuse) (h3 : S'.up = S.up) (h4 : S'.left = S.left) (h5 : S'.keep = S.keep) (h6 : S'.next.length = S.next.length)
    (ho : ∀ k z, k ≠ b → R.blocks[k]? = some z → BlockIs S k z → BlockIs S' k z) (hb : BlockIs S' b x') : (R.setB b x' own).Is S' := by
  have hbl := (List.getElem?_eq_some_iff.1 hx).1
  refine ⟨h.g.trans h1.symm, h.fuse.trans h2.symm, h.up.trans h3.symm, h.left.trans h4.symm, h.keep.trans h5.symm, ?_, by rw [h6, h1]; exact h.nlen, fun k z hk => ?_⟩
  · show ((R.blocks.set b _).length : Int) = _
    rw [List.length_set, h1]; exact h.len
  · have hk' : (R.blocks.set b x')[k]? = some z := hk
    rw [List.getElem?_set] at hk'
    by_cases hkb : b = k
    · subst hkb
      rw [if_pos rfl, if_pos hbl] at hk'
      injection hk' with hk'
      subst hk'
      exact hb
    · rw [if_neg hkb] at hk'
      exact ho k z (fun e => hkb e.symm) hk' (h.blk k z hk')
/-- One cell of a block is turned. -/
theorem RW.foldX {a : Nat} {R : RW} {b i : Nat} {x x' : RBlock} {v : Value} {K w : World} {F : List Assn} (hxb : R.blocks[b]? = some x) (hi : i < 4) (hrow : RBlock.row x' = RBlock.row x) (hc : x'.cells = x.cells.set i v)
    (h : Sat K w (Cells a 97 R.cells :: Cells R.bb 100 ((R.blocks.flatMap RBlock.cells ++ R.rest).set (b * 4 + i) v) :: AllA R.rows :: AllA R.own :: F)) : Sat K w ((R.setB b x' R.own).A a :: F) := by
  have hb := (List.getElem?_eq_some_iff.1 hxb).1
  have h2 : (b + 1) * 4 ≤ R.blocks.length * 4 := Nat.mul_le_mul_right _ hb
  rw [List.set_append, if_pos (by rw [flat_length rcells_len]; omega), flat_set rcells_len R.blocks b i x x' v hxb hi hc] at h
  have e1 : (R.setB b x' R.own).cells = R.cells := by
    unfold RW.setB
    dsimp only [RW.cells]
    rw [List.length_set]
  have e2 : (R.setB b x' R.own).rows = R.rows := by
    show (R.blocks.set b x').map RBlock.row = _
    rw [List.map_set, hrow]
    apply List.ext_getElem?
    intro k
    rw [List.getElem?_set]
    by_cases hk : b = k
    · subst hk
      rw [if_pos rfl, if_pos (by rw [List.length_map]; exact hb), List.getElem?_map, hxb]; rfl
    · rw [if_neg hk]
  refine Sat.all (l := RW.parts a _) ?_
  unfold RW.parts
  rw [e1, e2]
  exact h
theorem RW.Ok.setX {R : RW} (h : R.Ok) {b : Nat} {x x' : RBlock} (hx : R.blocks[b]? = some x) (hp : x'.pages = x.pages) (hn : 0 ≤ x'.next ∧ x'.next ≤ R.g.pg) : (R.setB b x' R.own).Ok := by
  refine ⟨h.mays, fun z hz y hy => ?_, h.left, fun z hz => ?_⟩
  · rcases List.mem_or_eq_of_mem_set hz with h1 | rfl
    · exact h.pgs z h1 y hy
    · rw [hp] at hy; exact h.pgs x (List.mem_of_getElem? hx) y hy
  · rcases List.mem_or_eq_of_mem_set hz with h1 | rfl
    · exact h.next z h1
    · exact hn
theorem BlockIs.congr {S S' : Chip} {k : Nat} {z : RBlock} (h : BlockIs S k z) (h0 : S'.g = S.g) (h1 : S'.nextOf (k : Int) = S.nextOf (k : Int)) (h2 : S'.marked (k : Int) = S.marked (k : Int)) (h3 : S'.weak (k : Int) = S.weak (k : Int))
    (h4 : ∀ q : Nat, S'.pages ((k : Int), (q : Int)) = S.pages ((k : Int), (q : Int)) ∧ S'.wrong ((k : Int), (q : Int)) = S.wrong ((k : Int), (q : Int))) : BlockIs S' k z := by
  obtain ⟨k1, k2, k3, k4, k5⟩ := h
  refine ⟨k1.trans h1.symm, k2.trans h2.symm, k3.trans h3.symm, by rw [h0]; exact k4, fun q y hq => ?_⟩
  have h6 := k5 q y hq
  exact ⟨by rw [(h4 q).1, h6.raw, show S'.blank = S.blank by unfold Chip.blank Chip.raw; rw [h0]], by rw [(h4 q).2]; exact h6.wrong⟩
section
variable {a : Nat} {R : RW} {S : Chip} {K : World} {F : List Assn}
theorem ref_Arm (hR : R.Ok) (hS : R.Is S) (n keep : Int) (hn : n ≤ 9223372036854775807) : Does Tryz.prog 65 #[ptr a 0, .int .i64 n, .int .i64 keep] K (R.A a :: F)
    (fun v H' => ∃ R' : RW, R'.Ok ∧ R'.Is (S.arm n keep) ∧ H' = R'.A a :: F) := by
  refine Does.openR ?_
  dsimp only [RW.parts, List.cons_append, List.nil_append, RW.cells]
  refine Does.enter Tryz.func65 rfl Tryz.ntmps65 rfl ?_
  simp only [env0, Nat.reduceAdd]
  refine WC.sr ?_
  refine WL.val (V.move (OV.p rfl)) rfl ?_
  refine WL.val (V.move (OV.p rfl)) rfl ?_
  refine WL.val (V.max (OV.p rfl) (OV.p rfl)) rfl ?_
  refine WL.val (V.nilCheck (OV.p rfl)) rfl ?_
  refine WL.val (V.fieldAddr fo97_4 (OV.p rfl)) rfl ?_
  refine WL.store (cs := [_]) Tryz.sizeOf3 (OV.p rfl) (OV.p rfl) rfl rfl rfl (by repeat (first | exact Upd.here rfl rfl | apply Upd.up)) ?_
  refine WL.nil ?_
  refine WC.region ?_
  refine WL.val (V.move (OV.p rfl)) rfl ?_
  refine WL.val (V.move (OV.p rfl)) rfl ?_
  refine WL.val (V.nilCheck (OV.p rfl)) rfl ?_
  refine WL.val (V.fieldAddr fo97_5 (OV.p rfl)) rfl ?_
  refine WL.store (cs := [_]) Tryz.sizeOf3 (OV.p rfl) (OV.p rfl) rfl rfl rfl (by repeat (first | exact Upd.here rfl rfl | apply Upd.up)) ?_
  refine WL.nil ?_
  refine BodyQ.normal (H' := RW.A a { R with left := max n 0, keep := keep } :: F) (Res.none rfl) (fun w h => Sat.all (l := RW.parts a { R with left := max n 0, keep := keep }) (Sat.cells_eq h (by simp [setL]))) ⟨{ R with left := max n 0, keep := keep }, ⟨hR.mays, hR.pgs, by show 0 ≤ max n 0 ∧ max n 0 ≤ _; omega, hR.next⟩, ⟨hS.g, hS.fuse, hS.up, rfl, rfl, hS.len, hS.nlen, fun b x hx => (hS.blk b x hx).congr rfl rfl rfl rfl (fun q => ⟨rfl, rfl⟩)⟩, rfl⟩
theorem ref_Mark (hR : R.Ok) (hS : R.Is S) (b : Int) : Does Tryz.prog 141 #[ptr a 0, .int .i64 b] K (R.A a :: F)
    (fun v H' => ∃ R' : RW, R'.Ok ∧ R'.Is (S.mark b).1 ∧ H' = R'.A a :: F ∧ v = .int .i64 (S.mark b).2) := by
  have hgb := hR.mays
  unfold Geo.mays at hgb
  obtain ⟨Z, hZ⟩ : ∃ Z, Z = S.mark b := ⟨_, rfl⟩
  rw [← hZ]
  unfold Chip.mark Chip.all at hZ
  refine Does.openR ?_
  dsimp only [RW.parts, List.cons_append, List.nil_append]
  refine Does.enter Tryz.func141 rfl Tryz.ntmps141 rfl ?_
  simp only [env0, Nat.reduceAdd]
  refine WC.sr ?_
  refine WL.val (V.assign (OV.p rfl)) rfl ?_
  refine WL.nil ?_
  refine WC.seq ?_
  refine WC.sr ?_
  refine WL.val (V.move (OV.p rfl)) rfl ?_
  refine WL.val (V.nilCheck (OV.p rfl)) rfl ?_
  refine WL.val (V.fieldAddr fo97_3 (OV.p rfl)) rfl ?_
  refine WL.val (V.load Tryz.isAgg4 (OV.p rfl) (fun _ => by repeat (first | exact Rd.here rfl | apply Rd.up))) rfl ?_
  refine WL.val (V.not (OV.p rfl)) rfl ?_
  refine WL.nil ?_
  refine WC.cond rfl (fun hc0 => ?_) (fun hc0 => ?_)
  ·simp only [Bool.not_eq_true', Bool.not_eq_false'] at hc0
   rw [if_pos (show S.up = false by rw [← hS.up]; exact hc0)] at hZ
   refine WC.sr ?_
   refine WL.val (V.assign (OV.p rfl)) rfl ?_
   refine WL.nil ?_
   refine WC.ret ?_
   exact BodyQ.ret (H' := R.A a :: F) (Res.tmp rfl rfl) (fun w h => Sat.all (l := RW.parts a R) h) ⟨R, hR, by rw [hZ]; exact hS, rfl, by rw [hZ]⟩
  ·simp only [Bool.not_eq_true', Bool.not_eq_false'] at hc0
   have hup := hc0
   rw [if_neg (show ¬ S.up = false by rw [← hS.up, hup]; decide)] at hZ
   refine WC.skip ?_
   refine WC.seq ?_
   refine WC.sr ?_
   refine WL.val (V.move (OV.p rfl)) rfl ?_
   refine WL.val (V.move (OV.p rfl)) rfl ?_
   refine WL.call (vs := [_, _]) Tryz.call59 ⟨OV.p rfl, OV.p rfl, trivial⟩ (ref_has b Rds.all) rfl ?_
   rintro _ H0 ⟨rfl, h0⟩
   subst H0
   refine WL.val (V.not (OV.p rfl)) rfl ?_
   refine WL.nil ?_
   refine WC.cond rfl (fun hc1 => ?_) (fun hc1 => ?_)
   ·simp only [Bool.not_eq_true', Bool.not_eq_false', Bool.and_eq_true, Bool.and_eq_false_iff, decide_eq_true_eq, decide_eq_false_iff_not] at hc1
    have h1 := hc1
    rw [if_pos (show S.block b = false by unfold Chip.block; rw [← hS.g]; simp only [Bool.and_eq_false_iff, decide_eq_false_iff_not]; exact h1)] at hZ
    refine WC.sr ?_
    refine WL.val (V.assign (OV.p rfl)) rfl ?_
    refine WL.nil ?_
    refine WC.ret ?_
    exact BodyQ.ret (H' := R.A a :: F) (Res.tmp rfl rfl) (fun w h => Sat.all (l := RW.parts a R) h) ⟨R, hR, by rw [hZ]; exact hS, rfl, by rw [hZ]⟩
   ·simp only [Bool.not_eq_true', Bool.not_eq_false', Bool.and_eq_true, Bool.and_eq_false_iff, decide_eq_true_eq, decide_eq_false_iff_not] at hc1
    have h1 := hc1
    rw [if_neg (show ¬ S.block b = false by unfold Chip.block; rw [← hS.g]; simp; omega)] at hZ
    obtain ⟨bn, rfl⟩ : ∃ bn : Nat, b = (bn : Int) := ⟨b.toNat, by omega⟩
    have hlen := hS.len
    rw [← hS.g] at hlen
    have hbl : bn < R.blocks.length := by omega
    obtain ⟨x, hxb⟩ : ∃ x, R.blocks[bn]? = some x := ⟨_, List.getElem?_eq_getElem hbl⟩
    refine WC.skip ?_
    refine WC.sr ?_
    refine WL.val (V.move (OV.p rfl)) rfl ?_
    refine WL.call (vs := [_]) Tryz.call142 ⟨OV.p rfl, trivial⟩ (ref_deed hR.left) rfl ?_
    rintro _ _ ⟨rfl, rfl⟩
    have hSd := hS.deed
    have hRd := hR.deed
    have hcutS : S.cut = decide (R.left = 1) := by unfold Chip.cut; rw [hS.left]
    obtain ⟨cut, hcut⟩ : ∃ cut, cut = decide (R.left = 1) := ⟨_, rfl⟩
    rw [hcutS, ← hcut, ← hS.keep] at hZ
    rw [← hcut]
    have haf : (if cut = true then (70 : Int) else 0) = Chip.after cut := rfl
    refine WL.val (V.assign (OV.p rfl)) rfl ?_
    refine WL.nil ?_
    refine WC.seq ?_
    refine WC.sr ?_
    refine WL.val (V.move (OV.p rfl)) rfl ?_
    refine WL.val (V.not (OV.p rfl)) rfl ?_
    refine WL.val (V.move (OV.p rfl)) rfl ?_
    refine WL.valG (oj := _) rfl rfl rfl GC.f (V.move (OV.p rfl)) rfl ?_
    refine WL.valG (oj := _) rfl rfl rfl GC.f (V.nilCheck (OV.g rfl id)) rfl ?_
    refine WL.valG (oj := _) rfl rfl rfl GC.f (V.fieldAddr fo97_5 (OV.g rfl id)) rfl ?_
    refine WL.valG (oj := _) rfl rfl rfl GC.f (V.load Tryz.isAgg3 (OV.g rfl id) (fun _ => by repeat (first | exact Rd.here rfl | apply Rd.up))) rfl ?_
    refine WL.valG (oj := _) rfl rfl rfl GC.f (V.gtr (OV.g rfl id) (OV.p rfl)) rfl ?_
    refine WL.val (V.pickOr (OV.p rfl) (OV.g rfl id)) rfl ?_
    refine WL.nil ?_
    refine WC.cond rfl (fun hc2 => ?_) (fun hc2 => ?_)
    ·skip
     have h2 := hc2
     rw [if_pos (show (!cut || decide (0 < R.keep)) = true from h2)] at hZ
     have hIs : (R.deed.setB bn { x with bad := true } R.deed.own).Is { S.deed with marked := fun k => if k = (bn : Int) then true else S.deed.marked k } := by
       refine hSd.setB (x := x) hxb rfl rfl rfl rfl rfl rfl (fun k z hk hz hb => hb.congr rfl rfl (if_neg (fun e => hk (by omega))) rfl (fun q => ⟨rfl, rfl⟩)) ?_
       have hb := hSd.blk bn x hxb
       exact ⟨hb.next, (if_pos rfl).symm, hb.fails, hb.len, fun q y hq => ⟨(hb.pg q y hq).raw, (hb.pg q y hq).wrong⟩⟩
     have hOk : (R.deed.setB bn { x with bad := true } R.deed.own).Ok := hRd.setX (x := x) hxb rfl (hR.next x (List.mem_of_getElem? hxb))
     refine WC.region ?_
     refine WL.val (V.move (OV.p rfl)) rfl ?_
     refine WL.val (V.nilCheck (OV.p rfl)) rfl ?_
     refine WL.val (V.fieldAddr fo97_1 (OV.p rfl)) rfl ?_
     refine WL.val (V.load Tryz.isAgg95 (OV.p rfl) (fun _ => by repeat (first | exact Rd.here rfl | apply Rd.up))) rfl ?_
     refine WL.val (V.move (OV.p rfl)) rfl ?_
     refine WL.val (V.idxB st95 (OV.p rfl) (OV.p rfl) (fun hc => by have e : R.deed.blocks.length = R.blocks.length := rfl; omega)) rfl ?_
     refine WL.val (V.fieldAddr fo100_2 (OV.p rfl)) rfl ?_
     refine WL.store (cs := [_]) Tryz.sizeOf4 (OV.p rfl) (OV.p rfl) rfl rfl rfl (Upd.up (Upd.at_ (by
       have h1 : (bn + 1) * 4 ≤ R.blocks.length * 4 := Nat.mul_le_mul_right _ hbl
       rw [List.length_append, flat_length rcells_len]; show 0 + (bn : Int).toNat * 4 + 2 < _; omega))) ?_
     refine WL.nil ?_
     refine WC.seq ?_
     refine WC.sr ?_
     refine WL.val (V.move (OV.p rfl)) rfl ?_
     refine WL.nil ?_
     refine WC.cond rfl (fun hc3 => ?_) (fun hc3 => ?_)
     ·skip
      have h3 := hc3
      refine WC.sr ?_
      refine WL.val (V.assign (OV.p rfl)) rfl ?_
      refine WL.nil ?_
      refine WC.ret ?_
      first
      | exact BodyQ.ret (H' := (R.deed.setB bn { x with bad := true } R.deed.own).A a :: F) (Res.tmp rfl rfl) (fun w h => RW.foldX (R := R.deed) (i := 2) hxb (by decide) rfl rfl (by rw [show 0 + (bn : Int).toNat * 4 + 2 = bn * 4 + 2 by omega] at h; exact h)) ⟨_, hOk, by rw [hZ]; exact hIs, rfl, by rw [hZ, h3]; rfl⟩
      | exact BodyQ.ret (H' := R.deed.A a :: F) (Res.tmp rfl rfl) (fun w h => Sat.all (l := RW.parts a R.deed) h) ⟨_, hRd, by rw [hZ]; exact hSd, rfl, by rw [hZ, h3]; rfl⟩
     ·skip
      have h3 := hc3
      refine WC.skip ?_
      refine WC.sr ?_
      refine WL.val (V.assign (OV.p rfl)) rfl ?_
      refine WL.nil ?_
      refine WC.ret ?_
      first
      | exact BodyQ.ret (H' := (R.deed.setB bn { x with bad := true } R.deed.own).A a :: F) (Res.tmp rfl rfl) (fun w h => RW.foldX (R := R.deed) (i := 2) hxb (by decide) rfl rfl (by rw [show 0 + (bn : Int).toNat * 4 + 2 = bn * 4 + 2 by omega] at h; exact h)) ⟨_, hOk, by rw [hZ]; exact hIs, rfl, by rw [hZ, h3]; rfl⟩
      | exact BodyQ.ret (H' := R.deed.A a :: F) (Res.tmp rfl rfl) (fun w h => Sat.all (l := RW.parts a R.deed) h) ⟨_, hRd, by rw [hZ]; exact hSd, rfl, by rw [hZ, h3]; rfl⟩
    ·skip
     have h2 := hc2
     rw [if_neg (by rw [show (!cut || decide (0 < R.keep)) = false from h2]; decide)] at hZ
     refine WC.skip ?_
     refine WC.seq ?_
     refine WC.sr ?_
     refine WL.val (V.move (OV.p rfl)) rfl ?_
     refine WL.nil ?_
     refine WC.cond rfl (fun hc3 => ?_) (fun hc3 => ?_)
     ·skip
      have h3 := hc3
      refine WC.sr ?_
      refine WL.val (V.assign (OV.p rfl)) rfl ?_
      refine WL.nil ?_
      refine WC.ret ?_
      first
      | exact BodyQ.ret (H' := (R.deed.setB bn { x with bad := true } R.deed.own).A a :: F) (Res.tmp rfl rfl) (fun w h => RW.foldX (R := R.deed) (i := 2) hxb (by decide) rfl rfl (by rw [show 0 + (bn : Int).toNat * 4 + 2 = bn * 4 + 2 by omega] at h; exact h)) ⟨_, hOk, by rw [hZ]; exact hIs, rfl, by rw [hZ, h3]; rfl⟩
      | exact BodyQ.ret (H' := R.deed.A a :: F) (Res.tmp rfl rfl) (fun w h => Sat.all (l := RW.parts a R.deed) h) ⟨_, hRd, by rw [hZ]; exact hSd, rfl, by rw [hZ, h3]; rfl⟩
     ·skip
      have h3 := hc3
      refine WC.skip ?_
      refine WC.sr ?_
      refine WL.val (V.assign (OV.p rfl)) rfl ?_
      refine WL.nil ?_
      refine WC.ret ?_
      first
      | exact BodyQ.ret (H' := (R.deed.setB bn { x with bad := true } R.deed.own).A a :: F) (Res.tmp rfl rfl) (fun w h => RW.foldX (R := R.deed) (i := 2) hxb (by decide) rfl rfl (by rw [show 0 + (bn : Int).toNat * 4 + 2 = bn * 4 + 2 by omega] at h; exact h)) ⟨_, hOk, by rw [hZ]; exact hIs, rfl, by rw [hZ, h3]; rfl⟩
      | exact BodyQ.ret (H' := R.deed.A a :: F) (Res.tmp rfl rfl) (fun w h => Sat.all (l := RW.parts a R.deed) h) ⟨_, hRd, by rw [hZ]; exact hSd, rfl, by rw [hZ, h3]; rfl⟩
theorem dropTo_succ {α : Type} {f : Int × Int → Option α} {b : Int} {i : Nat} (k q : Nat) (h : ¬ ((k : Int) = b ∧ q = i)) : Chip.dropTo f b ((i + 1 : Nat) : Int) ((k : Int), (q : Int)) = Chip.dropTo f b (i : Int) ((k : Int), (q : Int)) := by
  unfold Chip.dropTo
  by_cases hk : (k : Int) = b
  · by_cases hq : q < i
    · rw [if_pos ⟨hk, by show (0 : Int) ≤ (q : Int); omega, by show (q : Int) < ((i + 1 : Nat) : Int); omega⟩, if_pos ⟨hk, by show (0 : Int) ≤ (q : Int); omega, by show (q : Int) < (i : Int); omega⟩]
    · rw [if_neg (fun hh => by have h3 : (q : Int) < ((i + 1 : Nat) : Int) := hh.2.2; exact h ⟨hk, by omega⟩), if_neg (fun hh => by have h3 : (q : Int) < (i : Int) := hh.2.2; omega)]
  · rw [if_neg (fun hh => hk hh.1), if_neg (fun hh => hk hh.1)]
theorem ref_Erase (hR : R.Ok) (hS : R.Is S) (b : Int) : Does Tryz.prog 108 #[ptr a 0, .int .i64 b] K (R.A a :: F)
    (fun v H' => ∃ R' : RW, R'.Ok ∧ R'.Is (S.erase b).1 ∧ H' = R'.A a :: F ∧ v = .int .i64 (S.erase b).2) := by
  have hgb := hR.mays
  have hrb := Geo.raw_bd hR.mays
  unfold Geo.mays at hgb
  obtain ⟨rw_, hrw⟩ : ∃ n : Nat, R.g.raw = (n : Int) := ⟨R.g.raw.toNat, by omega⟩
  obtain ⟨Z, hZ⟩ : ∃ Z, Z = S.erase b := ⟨_, rfl⟩
  rw [← hZ]
  unfold Chip.erase at hZ
  refine Does.openR ?_
  dsimp only [RW.parts, List.cons_append, List.nil_append]
  refine Does.enter Tryz.func108 rfl Tryz.ntmps108 rfl ?_
  simp only [env0, Nat.reduceAdd]
  refine WC.sr ?_
  refine WL.val (V.assign (OV.p rfl)) rfl ?_
  refine WL.nil ?_
  refine WC.seq ?_
  refine WC.sr ?_
  refine WL.val (V.move (OV.p rfl)) rfl ?_
  refine WL.val (V.nilCheck (OV.p rfl)) rfl ?_
  refine WL.val (V.fieldAddr fo97_3 (OV.p rfl)) rfl ?_
  refine WL.val (V.load Tryz.isAgg4 (OV.p rfl) (fun _ => by repeat (first | exact Rd.here rfl | apply Rd.up))) rfl ?_
  refine WL.val (V.not (OV.p rfl)) rfl ?_
  refine WL.nil ?_
  refine WC.cond rfl (fun hc0 => ?_) (fun hc0 => ?_)
  ·simp only [Bool.not_eq_true', Bool.not_eq_false'] at hc0
   rw [if_pos (show S.up = false by rw [← hS.up]; exact hc0)] at hZ
   refine WC.sr ?_
   refine WL.val (V.assign (OV.p rfl)) rfl ?_
   refine WL.nil ?_
   refine WC.ret ?_
   exact BodyQ.ret (H' := R.A a :: F) (Res.tmp rfl rfl) (fun w h => Sat.all (l := RW.parts a R) h) ⟨R, hR, by rw [hZ]; exact hS, rfl, by rw [hZ]⟩
  ·simp only [Bool.not_eq_true', Bool.not_eq_false'] at hc0
   have hup := hc0
   rw [if_neg (show ¬ S.up = false by rw [← hS.up, hup]; decide)] at hZ
   refine WC.skip ?_
   refine WC.seq ?_
   refine WC.sr ?_
   refine WL.val (V.move (OV.p rfl)) rfl ?_
   refine WL.val (V.move (OV.p rfl)) rfl ?_
   refine WL.call (vs := [_, _]) Tryz.call59 ⟨OV.p rfl, OV.p rfl, trivial⟩ (ref_has b Rds.all) rfl ?_
   rintro _ H0 ⟨rfl, h0⟩
   subst H0
   refine WL.val (V.not (OV.p rfl)) rfl ?_
   refine WL.nil ?_
   refine WC.cond rfl (fun hc1 => ?_) (fun hc1 => ?_)
   ·simp only [Bool.not_eq_true', Bool.not_eq_false', Bool.and_eq_true, Bool.and_eq_false_iff, decide_eq_true_eq, decide_eq_false_iff_not] at hc1
    have h1 := hc1
    rw [if_pos (show S.block b = false by unfold Chip.block; rw [← hS.g]; simp only [Bool.and_eq_false_iff, decide_eq_false_iff_not]; exact h1)] at hZ
    refine WC.sr ?_
    refine WL.val (V.assign (OV.p rfl)) rfl ?_
    refine WL.nil ?_
    refine WC.ret ?_
    exact BodyQ.ret (H' := R.A a :: F) (Res.tmp rfl rfl) (fun w h => Sat.all (l := RW.parts a R) h) ⟨R, hR, by rw [hZ]; exact hS, rfl, by rw [hZ]⟩
   ·simp only [Bool.not_eq_true', Bool.not_eq_false', Bool.and_eq_true, Bool.and_eq_false_iff, decide_eq_true_eq, decide_eq_false_iff_not] at hc1
    have h1 := hc1
    rw [if_neg (show ¬ S.block b = false by unfold Chip.block; rw [← hS.g]; simp; omega)] at hZ
    obtain ⟨bn, rfl⟩ : ∃ bn : Nat, b = (bn : Int) := ⟨b.toNat, by omega⟩
    have hlen := hS.len
    rw [← hS.g] at hlen
    have hbl : bn < R.blocks.length := by omega
    obtain ⟨x, hxb⟩ : ∃ x, R.blocks[bn]? = some x := ⟨_, List.getElem?_eq_getElem hbl⟩
    have hBI := hS.blk bn x hxb
    have hcell : ∀ {i : Nat} {v : Value}, x.cells[i]? = some v → (R.blocks.flatMap RBlock.cells ++ R.rest)[0 + (bn : Int).toNat * 4 + i]? = some v := fun {i v} hi => by
      rw [show 0 + (bn : Int).toNat * 4 + i = bn * 4 + i by omega]; exact RW.blk_get hxb hi
    refine WC.skip ?_
    refine WC.sr ?_
    refine WL.val (V.move (OV.p rfl)) rfl ?_
    refine WL.val (V.nilCheck (OV.p rfl)) rfl ?_
    refine WL.val (V.fieldAddr fo97_1 (OV.p rfl)) rfl ?_
    refine WL.val (V.load Tryz.isAgg95 (OV.p rfl) (fun _ => by repeat (first | exact Rd.here rfl | apply Rd.up))) rfl ?_
    refine WL.val (V.move (OV.p rfl)) rfl ?_
    refine WL.val (V.idxB st95 (OV.p rfl) (OV.p rfl) (fun hc => by omega)) rfl ?_
    refine WL.val (V.assign (OV.p rfl)) rfl ?_
    refine WL.nil ?_
    refine WC.sr ?_
    refine WL.val (V.move (OV.p rfl)) rfl ?_
    refine WL.call (vs := [_]) Tryz.call142 ⟨OV.p rfl, trivial⟩ (ref_deed hR.left) rfl ?_
    rintro _ _ ⟨rfl, rfl⟩
    have hSd := hS.deed
    have hRd := hR.deed
    have hcutS : S.cut = decide (R.left = 1) := by unfold Chip.cut; rw [hS.left]
    obtain ⟨cut, hcut⟩ : ∃ cut, cut = decide (R.left = 1) := ⟨_, rfl⟩
    rw [hcutS, ← hcut] at hZ
    rw [← hcut]
    refine WL.val (V.assign (OV.p rfl)) rfl ?_
    refine WL.nil ?_
    refine WC.seq ?_
    refine WC.sr ?_
    refine WL.val (V.move (OV.p rfl)) rfl ?_
    refine WL.val (V.not (OV.p rfl)) rfl ?_
    refine WL.val (V.move (OV.p rfl)) rfl ?_
    refine WL.valG (oj := _) rfl rfl rfl GC.t (V.move (OV.p rfl)) rfl ?_
    refine WL.valG (oj := _) rfl rfl rfl GC.t (V.nilCheck (OV.g rfl id)) rfl ?_
    refine WL.valG (oj := _) rfl rfl rfl GC.t (V.fieldAddr fo100_3 (OV.g rfl id)) rfl ?_
    refine WL.valG (oj := _) rfl rfl rfl GC.t (V.load Tryz.isAgg4 (OV.g rfl id) (fun hc => Rd.up (Rd.here (hcell (i := 3) rfl)))) rfl ?_
    refine WL.val (V.pickAnd (OV.p rfl) (OV.g rfl id)) rfl ?_
    refine WL.nil ?_
    refine WC.cond rfl (fun hc2 => ?_) (fun hc2 => ?_)
    ·simp only [Bool.and_eq_true, Bool.and_eq_false_iff, Bool.not_eq_true', Bool.not_eq_false'] at hc2
     have h3 := hc2
     have hZ2 : Z = (S.deed, 72) := by rw [hZ, h3.1, if_neg Bool.false_ne_true, ← hBI.fails, if_pos h3.2]
     refine WC.sr ?_
     refine WL.val (V.assign (OV.p rfl)) rfl ?_
     refine WL.nil ?_
     refine WC.ret ?_
     exact BodyQ.ret (H' := R.deed.A a :: F) (Res.tmp rfl rfl) (fun w h => Sat.all (l := RW.parts a R.deed) h) ⟨R.deed, hRd, by rw [hZ2]; exact hSd, rfl, by rw [hZ2]⟩
    ·simp only [Bool.and_eq_true, Bool.and_eq_false_iff, Bool.not_eq_true', Bool.not_eq_false'] at hc2
     have h3 := hc2
     obtain ⟨n, hn⟩ : ∃ n : Nat, (n : Int) = if cut = true then S.kept R.g.pg else R.g.pg := ⟨(if cut = true then S.kept R.g.pg else R.g.pg).toNat, by unfold Chip.kept; split <;> omega⟩
     have hnp : (n : Int) ≤ R.g.pg := by rw [hn]; unfold Chip.kept; split <;> omega
     have hZ2 : Z = if cut = true then ({ S.deed with pages := Chip.dropTo S.deed.pages (bn : Int) (n : Int), wrong := Chip.dropTo S.deed.wrong (bn : Int) (n : Int) }, 70) else ({ S.deed with pages := Chip.dropTo S.deed.pages (bn : Int) (n : Int), wrong := Chip.dropTo S.deed.wrong (bn : Int) (n : Int), next := S.deed.setNext (bn : Int) 0 }, 0) := by
       rw [hZ, hn, ← hS.g]
       cases hcc : cut with
       | true => rfl
       | false =>
         rw [if_neg Bool.false_ne_true, if_neg Bool.false_ne_true, if_neg Bool.false_ne_true, ← hBI.fails]
         rcases h3 with h | h
         · rw [hcc] at h; cases h
         · rw [h, if_neg Bool.false_ne_true]
     refine WC.skip ?_
     refine WC.sr ?_
     refine WL.val (V.move (OV.p rfl)) rfl ?_
     refine WL.val (V.nilCheck (OV.p rfl)) rfl ?_
     refine WL.val (V.fieldAddr fo97_0 (OV.p rfl)) rfl ?_
     refine WL.val (V.fieldAddr fo23_1 (OV.p rfl)) rfl ?_
     refine WL.val (V.load Tryz.isAgg3 (OV.p rfl) (fun _ => by repeat (first | exact Rd.here rfl | apply Rd.up))) rfl ?_
     refine WL.val (V.assign (OV.p rfl)) rfl ?_
     refine WL.nil ?_
     refine WC.seq ?_
     refine WC.sr ?_
     refine WL.val (V.move (OV.p rfl)) rfl ?_
     refine WL.nil ?_
     refine WC.cond rfl (fun hc3 => ?_) (fun hc3 => ?_)
     ·skip
      have h4 := hc3
      have hnv : (if R.deed.keep < 0 then (0 : Int) else min R.deed.keep R.g.pg) = (n : Int) := by rw [hn, if_pos h4]; unfold Chip.kept; rw [← hS.keep]; show (if R.keep < 0 then (0 : Int) else min R.keep R.g.pg) = _; split <;> omega
      refine WC.region ?_
      refine WL.val (V.move (OV.p rfl)) rfl ?_
      refine WL.val (V.nilCheck (OV.p rfl)) rfl ?_
      refine WL.val (V.fieldAddr fo97_5 (OV.p rfl)) rfl ?_
      refine WL.val (V.load Tryz.isAgg3 (OV.p rfl) (fun _ => by repeat (first | exact Rd.here rfl | apply Rd.up))) rfl ?_
      refine WL.val (V.move (OV.p rfl)) rfl ?_
      refine WL.call (vs := [_, _]) Tryz.call143 ⟨OV.p rfl, OV.p rfl, trivial⟩ (Tells.eq (v' := .int .i64 (n : Int)) (ref_clamp _ _) (by rw [← hnv]; rfl)) rfl ?_
      rintro _ H0 ⟨rfl, h0⟩
      subst H0
      refine WL.val (V.assign (OV.p rfl)) rfl ?_
      refine WL.nil ?_
      refine WC.seq ?_
      refine WC.sr ?_
      refine WL.val (V.assign (OV.p rfl)) rfl ?_
      refine WL.nil ?_
      refine WC.block ?_
      refine WC.loop (σ := Nat × RW) (fun s => [(0, ptr a 0), (5, ptr R.bb (0 + (bn : Int).toNat * 4)), (6, .bool cut), (7, .int .i64 (n : Int)), (8, .int .i64 (s.1 : Int))]) (fun s => s.2.parts a ++ F) (fun s => s.1 ≤ n ∧ s.2.Ok ∧ s.2.Is { S.deed with pages := Chip.dropTo S.deed.pages (bn : Int) (s.1 : Int), wrong := Chip.dropTo S.deed.wrong (bn : Int) (s.1 : Int) } ∧ s.2.bb = R.bb ∧ s.2.g = R.g) (fun s => n - s.1) (0, R.deed) ⟨Nat.zero_le _, hRd, ⟨hSd.g, hSd.fuse, hSd.up, hSd.left, hSd.keep, hSd.len, hSd.nlen, fun k z hz => (hSd.blk k z hz).congr rfl rfl rfl rfl (fun q => ⟨by show Chip.dropTo S.deed.pages _ _ _ = _; unfold Chip.dropTo; rw [if_neg (fun hh => by have h5 : (q : Int) < ((0 : Nat) : Int) := hh.2.2; omega)], by show Chip.dropTo S.deed.wrong _ _ _ = _; unfold Chip.dropTo; rw [if_neg (fun hh => by have h5 : (q : Int) < ((0 : Nat) : Int) := hh.2.2; omega)]⟩)⟩, rfl, rfl⟩ (.cons rfl (.cons rfl (.cons rfl (.cons (look_eq rfl (by first | rfl | (show Value.int .i64 R.g.pg = _; rw [hnv]))) (.cons rfl (.nil _)))))) (fun w h => h) ?_
      rintro ⟨i, Q⟩ ⟨hi, hQo, hQi, hQb, hQg⟩
      dsimp only at hi hQo hQi hQb hQg ⊢
      dsimp only [RW.parts, List.cons_append, List.nil_append]
      have hlenQ := hQi.len
      have hQl : (Q.blocks.length : Int) = R.g.bl := by rw [hlenQ]; exact congrArg Geo.bl hS.g.symm
      have hbQ : bn < Q.blocks.length := by omega
      obtain ⟨z, hzb⟩ : ∃ z, Q.blocks[bn]? = some z := ⟨_, List.getElem?_eq_getElem hbQ⟩
      have hzI := hQi.blk bn z hzb
      have hzl : (z.pages.length : Int) = R.g.pg := by rw [hzI.len]; exact congrArg Geo.pg hS.g.symm
      have hcQ : ∀ {i : Nat} {v : Value}, z.cells[i]? = some v → (Q.blocks.flatMap RBlock.cells ++ Q.rest)[0 + (bn : Int).toNat * 4 + i]? = some v := fun {i v} hi => by
        rw [show 0 + (bn : Int).toNat * 4 + i = bn * 4 + i by omega]; exact RW.blk_get hzb hi
      refine WC.seq ?_
      refine WC.sr ?_
      refine WL.val (V.move (OV.p rfl)) rfl ?_
      refine WL.val (V.move (OV.p rfl)) rfl ?_
      refine WL.val (V.lss (OV.p rfl) (OV.p rfl)) rfl ?_
      refine WL.nil ?_
      refine WC.cond rfl (fun hc4 => ?_) (fun hc4 => ?_)
      ·simp only [decide_eq_true_eq, decide_eq_false_iff_not] at hc4
       have hin : i < n := by omega
       have hiz : i < z.pages.length := by omega
       obtain ⟨y, hyp⟩ : ∃ y, z.pages[i]? = some y := ⟨_, List.getElem?_eq_getElem hiz⟩
       have hrow : Q.rows[bn]'(by show bn < Q.rows.length; rw [List.length_map]; exact hbQ) = RBlock.row z := by
         rw [List.getElem_map]
         congr 1
         rw [List.getElem?_eq_getElem hbQ] at hzb
         exact Option.some.inj hzb
       rw [← hQb]
       refine WC.sub (H' := Cells z.pb 102 (z.pages.flatMap RPage.cells ++ z.pr) :: AllA (Q.rows.eraseIdx bn) :: Cells a 97 Q.cells :: Cells Q.bb 100 (Q.blocks.flatMap RBlock.cells ++ Q.rest) :: AllA Q.own :: F) (Sub.refl _) (fun w h => by
         have h' := Sat.takeA (k := bn) (by show bn < Q.rows.length; rw [List.length_map]; exact hbQ) (h.sel 4 [2, 0, 1, 3] rfl)
         rw [hrow] at h'
         exact h') ?_
       refine WC.skip ?_
       refine WC.seq ?_
       refine WC.block ?_
       refine WC.regionA (AllA (Q.rows.eraseIdx bn) :: Cells a 97 Q.cells :: Cells Q.bb 100 (Q.blocks.flatMap RBlock.cells ++ Q.rest) :: AllA Q.own :: F) (by kernel_rfl) ?_
       refine WA.t 0 rfl (V.move (OV.p rfl)) ?_
       refine WA.t 1 rfl (V.nilCheck (OV.p rfl)) ?_
       refine WA.t 2 rfl (V.fieldAddr fo100_0 (OV.p rfl)) ?_
       refine WA.t 3 rfl (V.load Tryz.isAgg98 (OV.p rfl) (fun hc => Rd.up (Rd.up (Rd.here (hcQ (i := 0) rfl))))) ?_
       refine WA.t 4 rfl (V.move (OV.p rfl)) ?_
       refine WA.t 5 rfl (V.move (OV.p rfl)) ?_
       refine WA.t 6 rfl (V.nilCheck (OV.p rfl)) ?_
       refine WA.t 7 rfl (V.fieldAddr fo97_0 (OV.p rfl)) ?_
       refine WA.t 8 rfl (V.loadA (vs := [_, _, _, _, _]) ⟨Tryz.isAgg23, Tryz.sizeOf23⟩ (OV.p rfl) rfl (fun _ => by repeat (first | exact Rds.gets ⟨rfl, rfl, rfl, rfl, rfl, trivial⟩ | apply Rds.up))) ?_
       refine WA.o 9 rfl ?_
       refine WL.call (vs := [_]) Tryz.call58 ⟨OV.p rfl, trivial⟩ (Tells.eq (v' := .int .i64 (rw_ : Int)) (ref06_Raw Q.g hQo.mays _ _) (by rw [hQg, hrw])) rfl ?_
       rintro _ H0 ⟨rfl, h0⟩
       subst H0
       refine WL.nil ?_
       refine WA.o 10 rfl ?_
       refine WL.call (vs := [_]) Tryz.call57 ⟨OV.p rfl, trivial⟩ (ref_blank (m := rw_) (by omega)) rfl ?_
       rintro _ _ ⟨g12, rfl, rfl⟩
       refine WL.nil ?_
       refine WA.t 11 rfl (V.idxB st98 (OV.p rfl) (OV.p rfl) (fun hc => by omega)) ?_
       refine WA.o 12 rfl ?_
       refine WL.store (cs := [_, _]) Tryz.sizeOf102 (OV.p rfl) (OV.p rfl) rfl rfl rfl (Upd.up (Upd.here (Nat.ble_eq_true_of_le (by
         have h1 : (i + 1) * 2 ≤ z.pages.length * 2 := Nat.mul_le_mul_right _ hiz
         rw [List.length_append, flat_length pcells_len]; show 0 + (i : Int).toNat * 2 + 2 ≤ _; omega)) rfl)) ?_
       refine WL.nil ?_
       refine WA.fin ?_
       refine WC.region ?_
       refine WL.val (V.move (OV.p rfl)) rfl ?_
       refine WL.val (V.addI (OV.p rfl) (OV.p rfl) (fun hc => by first | omega | (simp at hc; omega))) rfl ?_
       refine WL.val (V.assign (OV.p rfl)) rfl ?_
       refine WL.nil ?_
       refine ⟨rfl, ?_⟩
       refine ⟨(i + 1, Q.setB bn (z.setP i ⟨some ⟨g12, 0, none⟩, rw_, List.replicate rw_ 255, none, 0, []⟩ z.next) (Cells g12 5 (ints .u8 (List.replicate rw_ 255)) :: Q.own)), ⟨hin, ?_, ?_, rfl, hQg⟩, (by show n - (i + 1) < n - i; omega), .cons rfl (.cons rfl (.cons rfl (.cons rfl (.cons (look_eq rfl (by simp)) (.nil _))))), fun w h => ?_⟩
       · refine hQo.setP (b := bn) (p := i) hzb ⟨SeqIn.here fun K => Seq.allI rfl, SeqIn.nil, ?_, IsBytes.repl (by omega), fun q hq => by simp at hq, Nat.zero_le _⟩ (fun K w h => Sat.all (l := Q.own) (H := []) h.unall.tail) (hQo.next z (List.mem_of_getElem? hzb))
         show ((List.replicate rw_ (255 : Int)).length : Int) = Q.g.raw
         rw [List.length_replicate, hQg, hrw]
       · refine hQi.setP (b := bn) (p := i) hzb ⟨rfl, rfl, rfl, rfl, rfl, rfl, rfl, rfl, fun k hk => ?_, fun k q hkq => ⟨dropTo_succ k q (fun hh => hkq ⟨by omega, hh.2⟩), dropTo_succ k q (fun hh => hkq ⟨by omega, hh.2⟩)⟩⟩ ⟨?_, ?_⟩ hiz
         · by_cases hkb : k = bn
           · rw [if_pos hkb, hzI.next, hkb]; rfl
           · rw [if_neg hkb]; rfl
         · show List.replicate rw_ 255 = (Chip.dropTo S.deed.pages _ _ _).getD _
           unfold Chip.dropTo
           rw [if_pos ⟨rfl, by show (0 : Int) ≤ (i : Int); omega, by show (i : Int) < ((i + 1 : Nat) : Int); omega⟩]
           show _ = List.replicate S.g.raw.toNat (255 : Int)
           rw [← hS.g, hrw, Int.toNat_natCast]
         · show List.Perm [] ((Chip.dropTo S.deed.wrong _ _ _).getD [])
           unfold Chip.dropTo
           rw [if_pos ⟨rfl, by show (0 : Int) ≤ (i : Int); omega, by show (i : Int) < ((i + 1 : Nat) : Int); omega⟩]
           exact List.Perm.refl _
       · rw [show 0 + (i : Int).toNat * 2 = i * 2 by omega] at h
         have h1 := (h.sel 6 [0, 5, 1, 2, 3, 4] rfl).absorb.sel 5 [1, 2, 3, 4, 0] rfl
         have e1 : (Q.blocks.flatMap RBlock.cells ++ Q.rest).set (bn * 4 + 1) (.int .i64 z.next) = Q.blocks.flatMap RBlock.cells ++ Q.rest := set_at (RW.blk_get hzb (i := 1) rfl)
         refine Sat.unall (l := RW.parts a _) (RW.foldP (R := Q) (y := y) (nx := z.next) hzb hyp ?_)
         rw [e1]
         dsimp only [RPage.cells]
         rw [List.length_replicate]
         exact h1
      ·simp only [decide_eq_true_eq, decide_eq_false_iff_not] at hc4
       refine WC.exit ?_
       refine WC.seq ?_
       refine WC.seq ?_
       obtain rfl : i = n := by omega
       refine WC.region ?_
       refine WL.val (V.move (OV.p rfl)) rfl ?_
       refine WL.nil ?_
       refine WC.cond rfl (fun hc5 => ?_) (fun hc5 => ?_)
       ·skip
        have h5 := hc5
        rw [if_pos h5] at hZ2
        refine WC.sr ?_
        refine WL.val (V.assign (OV.p rfl)) rfl ?_
        refine WL.nil ?_
        refine WC.ret ?_
        exact BodyQ.ret (H' := Q.A a :: F) (Res.tmp rfl rfl) (fun w h => Sat.all (l := RW.parts a Q) h) ⟨Q, hQo, by rw [hZ2]; exact hQi, rfl, by rw [hZ2]⟩
       ·skip
        have h5 := hc5
        rw [if_neg (by rw [h5]; decide)] at hZ2
        refine WC.skip ?_
        refine WC.sr ?_
        refine WL.val (V.move (OV.p rfl)) rfl ?_
        refine WL.val (V.nilCheck (OV.p rfl)) rfl ?_
        refine WL.val (V.fieldAddr fo100_1 (OV.p rfl)) rfl ?_
        rw [← hQb]
        refine WL.store (cs := [_]) Tryz.sizeOf3 (OV.p rfl) (OV.p rfl) rfl rfl rfl (Upd.up (Upd.at_ (by
          have h1 : (bn + 1) * 4 ≤ Q.blocks.length * 4 := Nat.mul_le_mul_right _ hbQ
          rw [List.length_append, flat_length rcells_len]; show 0 + (bn : Int).toNat * 4 + 1 < _; omega))) ?_
        refine WL.nil ?_
        refine WC.sr ?_
        refine WL.val (V.assign (OV.p rfl)) rfl ?_
        refine WL.nil ?_
        refine WC.ret ?_
        refine BodyQ.ret (H' := (Q.setB bn { z with next := 0 } Q.own).A a :: F) (Res.tmp rfl rfl) (fun w h => RW.foldX (R := Q) (i := 1) hzb (by decide) rfl rfl (by rw [show 0 + (bn : Int).toNat * 4 + 1 = bn * 4 + 1 by omega] at h; exact h)) ⟨Q.setB bn { z with next := 0 } Q.own, hQo.setX (x := z) (x' := { z with next := 0 }) hzb rfl (by show (0 : Int) ≤ 0 ∧ 0 ≤ Q.g.pg; rw [hQg]; omega), ?_, rfl, by rw [hZ2]⟩
        rw [hZ2]
        have hnl : ∀ k : Nat, R.blocks[k]? ≠ none → (k : Int) < S.next.length := fun k hk => by
          have := hS.nlen
          rw [← hS.g] at this
          have h9 : k < R.blocks.length := by
            rcases Nat.lt_or_ge k R.blocks.length with h | h
            · exact h
            · exact absurd (List.getElem?_eq_none h) hk
          omega
        have hbn : (bn : Int) < S.next.length := hnl bn (by rw [hxb]; exact fun h => by cases h)
        refine hQi.setB (x := z) hzb rfl rfl rfl rfl rfl List.length_set (fun k z' hk hz hb => hb.congr rfl ?_ rfl rfl (fun q => ⟨rfl, rfl⟩)) ?_
        · have hkl : (k : Int) < S.next.length := by
            have h9 := (List.getElem?_eq_some_iff.1 hz).1
            have := hS.nlen
            rw [← hS.g] at this
            omega
          exact (Chip.nextOf_setN (S := S.deed) (b := bn) (v := 0) hkl).trans (by rw [if_neg hk]; rfl)
        · exact ⟨((Chip.nextOf_setN (S := S.deed) (b := bn) (v := 0) hbn).trans (by rw [if_pos rfl])).symm, hzI.bad, hzI.fails, hzI.len, fun q y hq => ⟨(hzI.pg q y hq).raw, (hzI.pg q y hq).wrong⟩⟩
     ·skip
      have h4 := hc3
      have hnv : R.g.pg = (n : Int) := by rw [hn, if_neg (by rw [h4]; decide)]
      refine WC.skip ?_
      refine WC.seq ?_
      refine WC.sr ?_
      refine WL.val (V.assign (OV.p rfl)) rfl ?_
      refine WL.nil ?_
      refine WC.block ?_
      refine WC.loop (σ := Nat × RW) (fun s => [(0, ptr a 0), (5, ptr R.bb (0 + (bn : Int).toNat * 4)), (6, .bool cut), (7, .int .i64 (n : Int)), (8, .int .i64 (s.1 : Int))]) (fun s => s.2.parts a ++ F) (fun s => s.1 ≤ n ∧ s.2.Ok ∧ s.2.Is { S.deed with pages := Chip.dropTo S.deed.pages (bn : Int) (s.1 : Int), wrong := Chip.dropTo S.deed.wrong (bn : Int) (s.1 : Int) } ∧ s.2.bb = R.bb ∧ s.2.g = R.g) (fun s => n - s.1) (0, R.deed) ⟨Nat.zero_le _, hRd, ⟨hSd.g, hSd.fuse, hSd.up, hSd.left, hSd.keep, hSd.len, hSd.nlen, fun k z hz => (hSd.blk k z hz).congr rfl rfl rfl rfl (fun q => ⟨by show Chip.dropTo S.deed.pages _ _ _ = _; unfold Chip.dropTo; rw [if_neg (fun hh => by have h5 : (q : Int) < ((0 : Nat) : Int) := hh.2.2; omega)], by show Chip.dropTo S.deed.wrong _ _ _ = _; unfold Chip.dropTo; rw [if_neg (fun hh => by have h5 : (q : Int) < ((0 : Nat) : Int) := hh.2.2; omega)]⟩)⟩, rfl, rfl⟩ (.cons rfl (.cons rfl (.cons rfl (.cons (look_eq rfl (by first | rfl | (show Value.int .i64 R.g.pg = _; rw [hnv]))) (.cons rfl (.nil _)))))) (fun w h => h) ?_
      rintro ⟨i, Q⟩ ⟨hi, hQo, hQi, hQb, hQg⟩
      dsimp only at hi hQo hQi hQb hQg ⊢
      dsimp only [RW.parts, List.cons_append, List.nil_append]
      have hlenQ := hQi.len
      have hQl : (Q.blocks.length : Int) = R.g.bl := by rw [hlenQ]; exact congrArg Geo.bl hS.g.symm
      have hbQ : bn < Q.blocks.length := by omega
      obtain ⟨z, hzb⟩ : ∃ z, Q.blocks[bn]? = some z := ⟨_, List.getElem?_eq_getElem hbQ⟩
      have hzI := hQi.blk bn z hzb
      have hzl : (z.pages.length : Int) = R.g.pg := by rw [hzI.len]; exact congrArg Geo.pg hS.g.symm
      have hcQ : ∀ {i : Nat} {v : Value}, z.cells[i]? = some v → (Q.blocks.flatMap RBlock.cells ++ Q.rest)[0 + (bn : Int).toNat * 4 + i]? = some v := fun {i v} hi => by
        rw [show 0 + (bn : Int).toNat * 4 + i = bn * 4 + i by omega]; exact RW.blk_get hzb hi
      refine WC.seq ?_
      refine WC.sr ?_
      refine WL.val (V.move (OV.p rfl)) rfl ?_
      refine WL.val (V.move (OV.p rfl)) rfl ?_
      refine WL.val (V.lss (OV.p rfl) (OV.p rfl)) rfl ?_
      refine WL.nil ?_
      refine WC.cond rfl (fun hc4 => ?_) (fun hc4 => ?_)
      ·simp only [decide_eq_true_eq, decide_eq_false_iff_not] at hc4
       have hin : i < n := by omega
       have hiz : i < z.pages.length := by omega
       obtain ⟨y, hyp⟩ : ∃ y, z.pages[i]? = some y := ⟨_, List.getElem?_eq_getElem hiz⟩
       have hrow : Q.rows[bn]'(by show bn < Q.rows.length; rw [List.length_map]; exact hbQ) = RBlock.row z := by
         rw [List.getElem_map]
         congr 1
         rw [List.getElem?_eq_getElem hbQ] at hzb
         exact Option.some.inj hzb
       rw [← hQb]
       refine WC.sub (H' := Cells z.pb 102 (z.pages.flatMap RPage.cells ++ z.pr) :: AllA (Q.rows.eraseIdx bn) :: Cells a 97 Q.cells :: Cells Q.bb 100 (Q.blocks.flatMap RBlock.cells ++ Q.rest) :: AllA Q.own :: F) (Sub.refl _) (fun w h => by
         have h' := Sat.takeA (k := bn) (by show bn < Q.rows.length; rw [List.length_map]; exact hbQ) (h.sel 4 [2, 0, 1, 3] rfl)
         rw [hrow] at h'
         exact h') ?_
       refine WC.skip ?_
       refine WC.seq ?_
       refine WC.block ?_
       refine WC.regionA (AllA (Q.rows.eraseIdx bn) :: Cells a 97 Q.cells :: Cells Q.bb 100 (Q.blocks.flatMap RBlock.cells ++ Q.rest) :: AllA Q.own :: F) (by kernel_rfl) ?_
       refine WA.t 0 rfl (V.move (OV.p rfl)) ?_
       refine WA.t 1 rfl (V.nilCheck (OV.p rfl)) ?_
       refine WA.t 2 rfl (V.fieldAddr fo100_0 (OV.p rfl)) ?_
       refine WA.t 3 rfl (V.load Tryz.isAgg98 (OV.p rfl) (fun hc => Rd.up (Rd.up (Rd.here (hcQ (i := 0) rfl))))) ?_
       refine WA.t 4 rfl (V.move (OV.p rfl)) ?_
       refine WA.t 5 rfl (V.move (OV.p rfl)) ?_
       refine WA.t 6 rfl (V.nilCheck (OV.p rfl)) ?_
       refine WA.t 7 rfl (V.fieldAddr fo97_0 (OV.p rfl)) ?_
       refine WA.t 8 rfl (V.loadA (vs := [_, _, _, _, _]) ⟨Tryz.isAgg23, Tryz.sizeOf23⟩ (OV.p rfl) rfl (fun _ => by repeat (first | exact Rds.gets ⟨rfl, rfl, rfl, rfl, rfl, trivial⟩ | apply Rds.up))) ?_
       refine WA.o 9 rfl ?_
       refine WL.call (vs := [_]) Tryz.call58 ⟨OV.p rfl, trivial⟩ (Tells.eq (v' := .int .i64 (rw_ : Int)) (ref06_Raw Q.g hQo.mays _ _) (by rw [hQg, hrw])) rfl ?_
       rintro _ H0 ⟨rfl, h0⟩
       subst H0
       refine WL.nil ?_
       refine WA.o 10 rfl ?_
       refine WL.call (vs := [_]) Tryz.call57 ⟨OV.p rfl, trivial⟩ (ref_blank (m := rw_) (by omega)) rfl ?_
       rintro _ _ ⟨g12, rfl, rfl⟩
       refine WL.nil ?_
       refine WA.t 11 rfl (V.idxB st98 (OV.p rfl) (OV.p rfl) (fun hc => by omega)) ?_
       refine WA.o 12 rfl ?_
       refine WL.store (cs := [_, _]) Tryz.sizeOf102 (OV.p rfl) (OV.p rfl) rfl rfl rfl (Upd.up (Upd.here (Nat.ble_eq_true_of_le (by
         have h1 : (i + 1) * 2 ≤ z.pages.length * 2 := Nat.mul_le_mul_right _ hiz
         rw [List.length_append, flat_length pcells_len]; show 0 + (i : Int).toNat * 2 + 2 ≤ _; omega)) rfl)) ?_
       refine WL.nil ?_
       refine WA.fin ?_
       refine WC.region ?_
       refine WL.val (V.move (OV.p rfl)) rfl ?_
       refine WL.val (V.addI (OV.p rfl) (OV.p rfl) (fun hc => by first | omega | (simp at hc; omega))) rfl ?_
       refine WL.val (V.assign (OV.p rfl)) rfl ?_
       refine WL.nil ?_
       refine ⟨rfl, ?_⟩
       refine ⟨(i + 1, Q.setB bn (z.setP i ⟨some ⟨g12, 0, none⟩, rw_, List.replicate rw_ 255, none, 0, []⟩ z.next) (Cells g12 5 (ints .u8 (List.replicate rw_ 255)) :: Q.own)), ⟨hin, ?_, ?_, rfl, hQg⟩, (by show n - (i + 1) < n - i; omega), .cons rfl (.cons rfl (.cons rfl (.cons rfl (.cons (look_eq rfl (by simp)) (.nil _))))), fun w h => ?_⟩
       · refine hQo.setP (b := bn) (p := i) hzb ⟨SeqIn.here fun K => Seq.allI rfl, SeqIn.nil, ?_, IsBytes.repl (by omega), fun q hq => by simp at hq, Nat.zero_le _⟩ (fun K w h => Sat.all (l := Q.own) (H := []) h.unall.tail) (hQo.next z (List.mem_of_getElem? hzb))
         show ((List.replicate rw_ (255 : Int)).length : Int) = Q.g.raw
         rw [List.length_replicate, hQg, hrw]
       · refine hQi.setP (b := bn) (p := i) hzb ⟨rfl, rfl, rfl, rfl, rfl, rfl, rfl, rfl, fun k hk => ?_, fun k q hkq => ⟨dropTo_succ k q (fun hh => hkq ⟨by omega, hh.2⟩), dropTo_succ k q (fun hh => hkq ⟨by omega, hh.2⟩)⟩⟩ ⟨?_, ?_⟩ hiz
         · by_cases hkb : k = bn
           · rw [if_pos hkb, hzI.next, hkb]; rfl
           · rw [if_neg hkb]; rfl
         · show List.replicate rw_ 255 = (Chip.dropTo S.deed.pages _ _ _).getD _
           unfold Chip.dropTo
           rw [if_pos ⟨rfl, by show (0 : Int) ≤ (i : Int); omega, by show (i : Int) < ((i + 1 : Nat) : Int); omega⟩]
           show _ = List.replicate S.g.raw.toNat (255 : Int)
           rw [← hS.g, hrw, Int.toNat_natCast]
         · show List.Perm [] ((Chip.dropTo S.deed.wrong _ _ _).getD [])
           unfold Chip.dropTo
           rw [if_pos ⟨rfl, by show (0 : Int) ≤ (i : Int); omega, by show (i : Int) < ((i + 1 : Nat) : Int); omega⟩]
           exact List.Perm.refl _
       · rw [show 0 + (i : Int).toNat * 2 = i * 2 by omega] at h
         have h1 := (h.sel 6 [0, 5, 1, 2, 3, 4] rfl).absorb.sel 5 [1, 2, 3, 4, 0] rfl
         have e1 : (Q.blocks.flatMap RBlock.cells ++ Q.rest).set (bn * 4 + 1) (.int .i64 z.next) = Q.blocks.flatMap RBlock.cells ++ Q.rest := set_at (RW.blk_get hzb (i := 1) rfl)
         refine Sat.unall (l := RW.parts a _) (RW.foldP (R := Q) (y := y) (nx := z.next) hzb hyp ?_)
         rw [e1]
         dsimp only [RPage.cells]
         rw [List.length_replicate]
         exact h1
      ·simp only [decide_eq_true_eq, decide_eq_false_iff_not] at hc4
       refine WC.exit ?_
       refine WC.seq ?_
       refine WC.seq ?_
       obtain rfl : i = n := by omega
       refine WC.region ?_
       refine WL.val (V.move (OV.p rfl)) rfl ?_
       refine WL.nil ?_
       refine WC.cond rfl (fun hc5 => ?_) (fun hc5 => ?_)
       ·skip
        have h5 := hc5
        rw [if_pos h5] at hZ2
        refine WC.sr ?_
        refine WL.val (V.assign (OV.p rfl)) rfl ?_
        refine WL.nil ?_
        refine WC.ret ?_
        exact BodyQ.ret (H' := Q.A a :: F) (Res.tmp rfl rfl) (fun w h => Sat.all (l := RW.parts a Q) h) ⟨Q, hQo, by rw [hZ2]; exact hQi, rfl, by rw [hZ2]⟩
       ·skip
        have h5 := hc5
        rw [if_neg (by rw [h5]; decide)] at hZ2
        refine WC.skip ?_
        refine WC.sr ?_
        refine WL.val (V.move (OV.p rfl)) rfl ?_
        refine WL.val (V.nilCheck (OV.p rfl)) rfl ?_
        refine WL.val (V.fieldAddr fo100_1 (OV.p rfl)) rfl ?_
        rw [← hQb]
        refine WL.store (cs := [_]) Tryz.sizeOf3 (OV.p rfl) (OV.p rfl) rfl rfl rfl (Upd.up (Upd.at_ (by
          have h1 : (bn + 1) * 4 ≤ Q.blocks.length * 4 := Nat.mul_le_mul_right _ hbQ
          rw [List.length_append, flat_length rcells_len]; show 0 + (bn : Int).toNat * 4 + 1 < _; omega))) ?_
        refine WL.nil ?_
        refine WC.sr ?_
        refine WL.val (V.assign (OV.p rfl)) rfl ?_
        refine WL.nil ?_
        refine WC.ret ?_
        refine BodyQ.ret (H' := (Q.setB bn { z with next := 0 } Q.own).A a :: F) (Res.tmp rfl rfl) (fun w h => RW.foldX (R := Q) (i := 1) hzb (by decide) rfl rfl (by rw [show 0 + (bn : Int).toNat * 4 + 1 = bn * 4 + 1 by omega] at h; exact h)) ⟨Q.setB bn { z with next := 0 } Q.own, hQo.setX (x := z) (x' := { z with next := 0 }) hzb rfl (by show (0 : Int) ≤ 0 ∧ 0 ≤ Q.g.pg; rw [hQg]; omega), ?_, rfl, by rw [hZ2]⟩
        rw [hZ2]
        have hnl : ∀ k : Nat, R.blocks[k]? ≠ none → (k : Int) < S.next.length := fun k hk => by
          have := hS.nlen
          rw [← hS.g] at this
          have h9 : k < R.blocks.length := by
            rcases Nat.lt_or_ge k R.blocks.length with h | h
            · exact h
            · exact absurd (List.getElem?_eq_none h) hk
          omega
        have hbn : (bn : Int) < S.next.length := hnl bn (by rw [hxb]; exact fun h => by cases h)
        refine hQi.setB (x := z) hzb rfl rfl rfl rfl rfl List.length_set (fun k z' hk hz hb => hb.congr rfl ?_ rfl rfl (fun q => ⟨rfl, rfl⟩)) ?_
        · have hkl : (k : Int) < S.next.length := by
            have h9 := (List.getElem?_eq_some_iff.1 hz).1
            have := hS.nlen
            rw [← hS.g] at this
            omega
          exact (Chip.nextOf_setN (S := S.deed) (b := bn) (v := 0) hkl).trans (by rw [if_neg hk]; rfl)
        · exact ⟨((Chip.nextOf_setN (S := S.deed) (b := bn) (v := 0) hbn).trans (by rw [if_pos rfl])).symm, hzI.bad, hzI.fails, hzI.len, fun q y hq => ⟨(hzI.pg q y hq).raw, (hzI.pg q y hq).wrong⟩⟩
end
end Go.Proofs.YtohkefolnmcjnaaGreat
