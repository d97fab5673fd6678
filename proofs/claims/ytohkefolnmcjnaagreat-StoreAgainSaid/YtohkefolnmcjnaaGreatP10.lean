import Derived.Test.YtohkefolnmcjnaaGreatP9
/- The chip: Erase. -/
namespace Go.Proofs.YtohkefolnmcjnaaGreat
open Go.Sl Go.RowKit
set_option linter.unusedVariables false
set_option linter.unusedSimpArgs false
set_option maxRecDepth 20000

theorem upd_dropTo (f : Int × Int → Option Value) (b : Int) (i : Nat) : upd (Chip.dropTo f b i) (b, (i : Int)) none = Chip.dropTo f b ((i + 1 : Nat) : Int) := by
  funext q
  obtain ⟨x, y⟩ := q
  unfold upd Chip.dropTo
  simp only [Prod.mk.injEq]
  by_cases h1 : x = b ∧ y = i
  · rw [if_pos h1, if_pos (by omega)]
  · rw [if_neg h1]
    by_cases h2 : x = b ∧ 0 ≤ y ∧ y < (i : Int)
    · rw [if_pos h2, if_pos (by omega)]
    · rw [if_neg h2, if_neg (by omega)]
theorem dropTo_zero {α : Type} (f : Int × Int → Option α) (b : Int) : Chip.dropTo f b 0 = f := by
  funext q
  unfold Chip.dropTo
  rw [if_neg (by omega)]
namespace Cw
def dropTo (C : Cw) (b n : Int) : Cw := { C with pages := Chip.dropTo C.pages b n, wrong := Chip.dropTo C.wrong b n }
theorem dropTo_map {α β : Type} (f : Int × Int → Option α) (g : α → β) (b n : Int) : (fun p => (Chip.dropTo f b n p).map g) = Chip.dropTo (fun p => (f p).map g) b n := by
  funext q
  unfold Chip.dropTo
  split <;> rfl
theorem pagesF_drop (C : Cw) (b n : Int) : (C.dropTo b n).pagesF = Chip.dropTo C.pagesF b n := dropTo_map C.pages sliceOf b n
theorem wrongF_drop (C : Cw) (b n : Int) : (C.dropTo b n).wrongF = Chip.dropTo C.wrongF b n := dropTo_map C.wrong sliceOf b n
theorem sem_drop (C : Cw) (b n : Int) : (C.dropTo b n).sem = { C.sem with pages := Chip.dropTo C.sem.pages b n, wrong := Chip.dropTo C.sem.wrong b n } := by
  unfold sem dropTo
  simp only [dropTo_map]
theorem Ok.dropTo {C : Cw} (h : C.Ok) (b n : Int) : (C.dropTo b n).Ok := by
  have hd : ∀ {α : Type} (f : Int × Int → Option α) p e, Chip.dropTo f b n p = some e → f p = some e := fun f p e he => by
    unfold Chip.dropTo at he
    split at he
    · cases he
    · exact he
  exact ⟨h.mays, fun p e he => h.page p e (hd _ p e he), fun p e he => h.wr p e (hd _ p e he), h.len, h.next, h.left⟩
end Cw

theorem chip_Erase {bc : Nat} {C : Cw} (hC : C.Ok) (b : Int) {K : World} {F : List Assn} :
    Does Tryz.prog 107 #[ptr bc 0, .int .i64 b] K (C.A bc :: F)
      (fun v H' => ∃ C' : Cw, C'.Ok ∧ H' = C'.A bc :: F ∧ C'.sem = (C.sem.erase b).1 ∧ v = .int .i64 (C.sem.erase b).2) := by
  have hlen := hC.len
  have hlen' : (C.deed.next.length : Int) = C.g.bl := hC.len
  have hm := hC.mays
  unfold Geo.mays at hm
  refine Does.openC ?_
  dsimp only [Cw.parts, List.cons_append, List.nil_append]
  refine Does.enter Tryz.func107 rfl Tryz.ntmps107 rfl ?_
  simp only [env0, Nat.reduceAdd]
  refine WC.sr ?_
  refine WL.val (V.assign (OV.p rfl)) rfl ?_
  refine WL.nil ?_
  refine WC.seq ?_
  refine WC.sr ?_
  refine WL.val (V.move (OV.p rfl)) rfl ?_
  refine WL.call (vs := [_]) Tryz.call101 ⟨OV.p rfl, trivial⟩ (chip_ready (C := C) (by repeat (first | exact Rds.all | apply Rds.up))) rfl ?_
  rintro _ H0 ⟨rfl, h0⟩
  subst H0
  refine WL.val (V.assign (OV.p rfl)) rfl ?_
  refine WL.nil ?_
  refine WC.sr ?_
  refine WL.val (V.move (OV.p rfl)) rfl ?_
  refine WL.val (V.neq (OV.p rfl) (OV.p rfl)) rfl ?_
  refine WL.nil ?_
  refine WC.cond rfl (fun hc0 => ?_) (fun hc0 => ?_)
  ·skip
   have hup : C.up = false := by cases h : C.up <;> simp [Chip.ready, Cw.sem, h] at hc0 ⊢
   refine WC.sr ?_
   refine WL.val (V.move (OV.p rfl)) rfl ?_
   refine WL.val (V.assign (OV.p rfl)) rfl ?_
   refine WL.nil ?_
   refine WC.ret ?_
   have e1 : C.sem.erase b = (C.sem, 70) := by unfold Chip.erase; rw [if_pos (show C.sem.up = false from hup)]
   rw [e1]
   exact BodyQ.ret (H' := C.A bc :: F) (Res.tmp rfl rfl) (fun w h => Sat.all (l := C.parts bc) h) ⟨C, hC, rfl, rfl, by unfold Chip.ready; rw [if_neg (by show ¬ C.up = true; rw [hup]; decide)]⟩
  ·skip
   have hup : C.up = true := by cases h : C.up <;> simp [Chip.ready, Cw.sem, h] at hc0 ⊢
   refine WC.skip ?_
   refine WC.seq ?_
   refine WC.sr ?_
   refine WL.val (V.move (OV.p rfl)) rfl ?_
   refine WL.val (V.move (OV.p rfl)) rfl ?_
   refine WL.call (vs := [_, _]) Tryz.call55 ⟨OV.p rfl, OV.p rfl, trivial⟩ (chip_block (C := C) b (by repeat (first | exact Rds.all | apply Rds.up))) rfl ?_
   rintro _ H0 ⟨rfl, h0⟩
   subst H0
   refine WL.val (V.not (OV.p rfl)) rfl ?_
   refine WL.nil ?_
   refine WC.cond rfl (fun hc1 => ?_) (fun hc1 => ?_)
   ·simp only [decide_eq_true_eq, decide_eq_false_iff_not, Bool.and_eq_true, Bool.or_eq_true, Bool.and_eq_false_iff, Bool.or_eq_false_iff, Bool.not_eq_true', Bool.not_eq_false', Bool.not_eq_true, Bool.not_eq_false, decide_eq_true_eq, decide_eq_false_iff_not] at hc1
    refine WC.sr ?_
    refine WL.val (V.assign (OV.p rfl)) rfl ?_
    refine WL.nil ?_
    refine WC.ret ?_
    have e1 : C.sem.erase b = (C.sem, 1) := by unfold Chip.erase; rw [if_neg (by show ¬ C.up = false; rw [hup]; decide), if_pos hc1]
    rw [e1]
    exact BodyQ.ret (H' := C.A bc :: F) (Res.tmp rfl rfl) (fun w h => Sat.all (l := C.parts bc) h) ⟨C, hC, rfl, rfl, rfl⟩
   ·simp only [decide_eq_true_eq, decide_eq_false_iff_not, Bool.and_eq_true, Bool.or_eq_true, Bool.and_eq_false_iff, Bool.or_eq_false_iff, Bool.not_eq_true', Bool.not_eq_false', Bool.not_eq_true, Bool.not_eq_false, decide_eq_true_eq, decide_eq_false_iff_not] at hc1
    have hbl : 0 ≤ b ∧ b < C.g.bl := by
      have h := hc1
      simp only [Chip.block, Bool.and_eq_true, decide_eq_true_eq] at h
      exact h
    refine WC.skip ?_
    refine WC.sr ?_
    refine WL.val (V.move (OV.p rfl)) rfl ?_
    refine WL.val (V.nilCheck (OV.p rfl)) rfl ?_
    refine WL.val (V.fieldAddr fo92_0 (OV.p rfl)) rfl ?_
    refine WL.val (V.fieldAddr fo23_1 (OV.p rfl)) rfl ?_
    refine WL.val (V.load Tryz.isAgg3 (OV.p rfl) (fun _ => by repeat (first | exact Rd.here rfl | apply Rd.up))) rfl ?_
    refine WL.val (V.assign (OV.p rfl)) rfl ?_
    refine WL.nil ?_
    refine WC.sr ?_
    refine WL.val (V.move (OV.p rfl)) rfl ?_
    refine WL.call (vs := [_]) Tryz.call115 ⟨OV.p rfl, trivial⟩ (chip_deed (C := C) hC.left) rfl ?_
    rintro _ _ ⟨rfl, rfl⟩
    refine WL.val (V.assign (OV.p rfl)) rfl ?_
    refine WL.nil ?_
    refine WC.seq ?_
    refine WC.block ?_
    refine WC.sr ?_
    refine WL.val (V.move (OV.p rfl)) rfl ?_
    refine WL.val (V.assign (OV.p rfl)) rfl ?_
    refine WL.nil ?_
    refine WC.cond rfl (fun hc2 => ?_) (fun hc2 => ?_)
    ·skip
     have h2 := hc2
     refine WC.region ?_
     refine WL.val (V.move (OV.p rfl)) rfl ?_
     refine WL.val (V.nilCheck (OV.p rfl)) rfl ?_
     refine WL.val (V.fieldAddr fo92_10 (OV.p rfl)) rfl ?_
     refine WL.val (V.load Tryz.isAgg3 (OV.p rfl) (fun _ => by repeat (first | exact Rd.here rfl | apply Rd.up))) rfl ?_
     refine WL.val (V.max (OV.p rfl) (OV.p rfl)) rfl ?_
     refine WL.val (V.move (OV.p rfl)) rfl ?_
     refine WL.val (V.min (OV.p rfl) (OV.p rfl)) rfl ?_
     refine WL.val (V.assign (OV.p rfl)) rfl ?_
     refine WL.nil ?_
     refine WC.seq ?_
     refine WC.seq ?_
     first
     | refine WC.toInvE (α := Int × List Int) (fun x => 0 ≤ x.1 ∧ x.1 ≤ C.g.pg ∧ ((C.sem.cut = true ∧ x.1 = C.sem.kept C.g.pg ∧ x.2 = C.next) ∨ (C.sem.cut = false ∧ C.sem.weak b = false ∧ x.1 = C.g.pg ∧ x.2 = C.next.set b.toNat 0))) (fun x => [(0, ptr bc 0), (1, .int .i64 b), (6, .int .i64 x.1), (7, .bool C.sem.cut)]) (fun x => Cells bc 92 C.deed.cells :: MapA C.bp key120 C.pagesF :: MapA C.bw key120 C.wrongF :: Cells C.bn 3 (ints .i64 x.2) :: MapA C.bm key3 (boolF C.marked) :: MapA C.bk key3 (boolF C.weak) :: AllA C.own :: F) (C.sem.kept C.g.pg, C.next) ⟨by show 0 ≤ min (max C.keep 0) C.g.pg; omega, by show min (max C.keep 0) C.g.pg ≤ C.g.pg; omega, .inl ⟨h2, rfl, rfl⟩⟩ (.cons rfl (.cons rfl (.cons rfl (.cons rfl (.nil _))))) (fun w h => h) (fun x hx => ?_)
     | refine WC.toInvE (α := Int × List Int) (fun x => 0 ≤ x.1 ∧ x.1 ≤ C.g.pg ∧ ((C.sem.cut = true ∧ x.1 = C.sem.kept C.g.pg ∧ x.2 = C.next) ∨ (C.sem.cut = false ∧ C.sem.weak b = false ∧ x.1 = C.g.pg ∧ x.2 = C.next.set b.toNat 0))) (fun x => [(0, ptr bc 0), (1, .int .i64 b), (6, .int .i64 x.1), (7, .bool C.sem.cut)]) (fun x => Cells bc 92 C.deed.cells :: MapA C.bp key120 C.pagesF :: MapA C.bw key120 C.wrongF :: Cells C.bn 3 (ints .i64 x.2) :: MapA C.bm key3 (boolF C.marked) :: MapA C.bk key3 (boolF C.weak) :: AllA C.own :: F) (C.g.pg, C.next.set b.toNat 0) ⟨by omega, Int.le_refl _, .inr ⟨h2, h3, rfl, rfl⟩⟩ (.cons rfl (.cons rfl (.cons rfl (.cons rfl (.nil _))))) (fun w h => by rw [Nat.zero_add, Nat.mul_one, ints_set] at h; exact h) (fun x hx => ?_)
     obtain ⟨n, nx⟩ := x
     obtain ⟨hn0, hn1, hx⟩ := hx
     dsimp only at hn0 hn1 hx ⊢
     refine WC.region ?_
     refine WL.val (V.move (OV.p rfl)) rfl ?_
     refine WL.val (V.move (OV.p rfl)) rfl ?_
     refine WL.nil ?_
     refine WC.block ?_
     refine WC.loop (σ := Nat) (fun i => [(0, ptr bc 0), (1, .int .i64 b), (7, .bool C.sem.cut), (47, .int .i64 n), (48, .int .i64 (i : Int))]) (fun i => Cells bc 92 C.deed.cells :: MapA C.bp key120 (Chip.dropTo C.pagesF b i) :: MapA C.bw key120 (Chip.dropTo C.wrongF b i) :: Cells C.bn 3 (ints .i64 nx) :: MapA C.bm key3 (boolF C.marked) :: MapA C.bk key3 (boolF C.weak) :: AllA C.own :: F) (fun i => (i : Int) ≤ n) (fun i => n.toNat - i) 0 (by show ((0 : Nat) : Int) ≤ n; omega) (.cons rfl (.cons rfl (.cons rfl (.cons rfl (.cons rfl (.nil _)))))) (fun w h => by rw [show ((0 : Nat) : Int) = 0 from rfl, dropTo_zero, dropTo_zero]; exact h) ?_
     rintro i hi
     refine WC.sr ?_
     refine WL.val (V.lss (OV.p rfl) (OV.p rfl)) rfl ?_
     refine WL.nil ?_
     refine WC.seq ?_
     refine WC.cond rfl (fun hc4 => ?_) (fun hc4 => ?_)
     ·try simp only [decide_eq_true_eq, decide_eq_false_iff_not, Bool.and_eq_true, Bool.or_eq_true, Bool.and_eq_false_iff, Bool.or_eq_false_iff, Bool.not_eq_true', Bool.not_eq_false', Bool.not_eq_true, Bool.not_eq_false, Int.not_lt, Int.not_le] at hc4
      refine WC.skip ?_
      refine WC.seq ?_
      refine WC.block ?_
      refine WC.sr ?_
      refine WL.val (V.move (OV.p rfl)) rfl ?_
      refine WL.val (V.assign (OV.p rfl)) rfl ?_
      refine WL.nil ?_
      refine WC.sr ?_
      refine WL.val (V.move (OV.p rfl)) rfl ?_
      refine WL.val (V.nilCheck (OV.p rfl)) rfl ?_
      refine WL.val (V.fieldAddr fo92_2 (OV.p rfl)) rfl ?_
      refine WL.val (V.load Tryz.isAgg88 (OV.p rfl) (fun _ => by repeat (first | exact Rd.here rfl | apply Rd.up))) rfl ?_
      refine WL.val (V.move (OV.p rfl)) rfl ?_
      refine WL.val (V.move (OV.p rfl)) rfl ?_
      refine WL.val (V.build (vs := [(0, _), (1, _)]) ⟨OV.p rfl, OV.p rfl, trivial⟩ rfl (bld120_0_1 _ _)) rfl ?_
      refine WL.delete0R (k := (_, _)) Tryz.underlying88 kl120 (OV.p rfl) (OV.p rfl) (by repeat (first | exact Repl.here | apply Repl.up)) ?_
      refine WL.nil ?_
      refine WC.region ?_
      refine WL.val (V.move (OV.p rfl)) rfl ?_
      refine WL.val (V.nilCheck (OV.p rfl)) rfl ?_
      refine WL.val (V.fieldAddr fo92_3 (OV.p rfl)) rfl ?_
      refine WL.val (V.load Tryz.isAgg89 (OV.p rfl) (fun _ => by repeat (first | exact Rd.here rfl | apply Rd.up))) rfl ?_
      refine WL.val (V.move (OV.p rfl)) rfl ?_
      refine WL.val (V.move (OV.p rfl)) rfl ?_
      refine WL.val (V.build (vs := [(0, _), (1, _)]) ⟨OV.p rfl, OV.p rfl, trivial⟩ rfl (bld120_0_1 _ _)) rfl ?_
      refine WL.delete0R (k := (_, _)) Tryz.underlying89 kl120 (OV.p rfl) (OV.p rfl) (by repeat (first | exact Repl.here | apply Repl.up)) ?_
      refine WL.nil ?_
      refine WC.region ?_
      refine WL.val (V.addI (OV.p rfl) (OV.p rfl) (fun hc => by first | omega | (simp at hc; omega))) rfl ?_
      refine WL.val (V.move (OV.p rfl)) rfl ?_
      refine WL.nil ?_
      refine ⟨rfl, ?_⟩
      refine ⟨i + 1, (by show ((i + 1 : Nat) : Int) ≤ n; omega), (by show n.toNat - (i + 1) < n.toNat - i; omega), .cons rfl (.cons rfl (.cons rfl (.cons rfl (.cons (look_eq rfl (by simp)) (.nil _))))), fun w h => ?_⟩
      rw [upd_dropTo, upd_dropTo] at h
      exact h
     ·try simp only [decide_eq_true_eq, decide_eq_false_iff_not, Bool.and_eq_true, Bool.or_eq_true, Bool.and_eq_false_iff, Bool.or_eq_false_iff, Bool.not_eq_true', Bool.not_eq_false', Bool.not_eq_true, Bool.not_eq_false, Int.not_lt, Int.not_le] at hc4
      refine WC.exit ?_
      refine WC.sr ?_
      refine WL.val (V.move (OV.p rfl)) rfl ?_
      refine WL.val (V.move (OV.p rfl)) rfl ?_
      refine WL.call (vs := [_, _]) Tryz.call116 ⟨OV.p rfl, OV.p rfl, trivial⟩ (chip_after _ _) rfl ?_
      rintro _ H0 ⟨rfl, h0⟩
      subst H0
      refine WL.val (V.assign (OV.p rfl)) rfl ?_
      refine WL.nil ?_
      refine WC.ret ?_
      obtain rfl : n = (i : Int) := by omega
      have hu : ¬ C.sem.up = false := by show ¬ C.up = false; rw [hup]; decide
      have hb' : ¬ C.sem.block b = false := by rw [hc1]; decide
      rcases hx with ⟨hcut, hn, rfl⟩ | ⟨hcut, hw, hn, rfl⟩
      · have e1 : C.sem.erase b = ({ C.sem.deed with pages := Chip.dropTo C.sem.deed.pages b i, wrong := Chip.dropTo C.sem.deed.wrong b i }, 70) := by
          unfold Chip.erase; rw [if_neg hu, if_neg hb', if_pos hcut, hn]; rfl
        rw [e1, hcut]
        refine BodyQ.ret (H' := (C.deed.dropTo b i).A bc :: F) (Res.tmp rfl rfl) (fun w h => Sat.all (l := (C.deed.dropTo b i).parts bc) ?_) ⟨_, hC.deed.dropTo b i, rfl, Cw.sem_drop _ _ _, rfl⟩
        unfold Cw.parts
        rw [Cw.pagesF_drop, Cw.wrongF_drop]
        exact h
      · have e1 : C.sem.erase b = ({ C.sem.deed with pages := Chip.dropTo C.sem.deed.pages b i, wrong := Chip.dropTo C.sem.deed.wrong b i, next := C.sem.deed.setNext b 0 }, 0) := by
          unfold Chip.erase; rw [if_neg hu, if_neg hb', if_neg (by rw [hcut]; decide), if_neg (by rw [hw]; decide), hn]; rfl
        rw [e1, hcut]
        refine BodyQ.ret (H' := ((C.deed.dropTo b i).putNext b 0).A bc :: F) (Res.tmp rfl rfl) (fun w h => Sat.all (l := ((C.deed.dropTo b i).putNext b 0).parts bc) ?_) ⟨_, (hC.deed.dropTo b i).putNext (by show (0 : Int) ≤ 0 ∧ 0 ≤ C.g.pg; omega), rfl, ?_, rfl⟩
        · unfold Cw.parts
          rw [show ((C.deed.dropTo b i).putNext b 0).pagesF = _ from Cw.pagesF_drop C.deed b i, show ((C.deed.dropTo b i).putNext b 0).wrongF = _ from Cw.wrongF_drop C.deed b i]
          have e2 : ((C.deed.dropTo b i).putNext b 0).cells = C.deed.cells := by
            unfold Cw.cells Cw.putNext Cw.dropTo
            simp
          rw [e2]
          exact h
        · rw [Cw.sem_putNext, Cw.sem_drop]; rfl
    ·skip
     have h2 := hc2
     refine WC.sr ?_
     refine WL.val (V.move (OV.p rfl)) rfl ?_
     refine WL.val (V.nilCheck (OV.p rfl)) rfl ?_
     refine WL.val (V.fieldAddr fo92_6 (OV.p rfl)) rfl ?_
     refine WL.val (V.load Tryz.isAgg90 (OV.p rfl) (fun _ => by repeat (first | exact Rd.here rfl | apply Rd.up))) rfl ?_
     refine WL.val (V.move (OV.p rfl)) rfl ?_
     refine WL.val (V.val_eq (v' := .bool _) (V.lookup (k := _) Tryz.underlying90 Tryz.zeroValue4 kl3 (OV.p rfl) (OV.p rfl) (fun _ => by repeat (first | exact RdM.here | apply RdM.up))) (fun _ => boolF_get _ _)) rfl ?_
     refine WL.val (V.assign (OV.p rfl)) rfl ?_
     refine WL.nil ?_
     refine WC.cond rfl (fun hc3 => ?_) (fun hc3 => ?_)
     ·skip
      have h3 := hc3
      refine WC.sr ?_
      refine WL.val (V.assign (OV.p rfl)) rfl ?_
      refine WL.nil ?_
      refine WC.ret ?_
      have e1 : C.sem.erase b = (C.sem.deed, 72) := by unfold Chip.erase; rw [if_neg (by show ¬ C.up = false; rw [hup]; decide), if_neg (by rw [hc1]; decide), if_neg (by rw [h2]; decide), if_pos (show C.sem.weak b = true from h3)]
      rw [e1]
      exact BodyQ.ret (H' := C.deed.A bc :: F) (Res.tmp rfl rfl) (fun w h => Sat.all (l := C.deed.parts bc) h) ⟨C.deed, hC.deed, rfl, rfl, rfl⟩
     ·skip
      have h3 := hc3
      refine WC.region ?_
      refine WL.val (V.move (OV.p rfl)) rfl ?_
      refine WL.val (V.nilCheck (OV.p rfl)) rfl ?_
      refine WL.val (V.fieldAddr fo92_4 (OV.p rfl)) rfl ?_
      refine WL.val (V.load Tryz.isAgg42 (OV.p rfl) (fun _ => by repeat (first | exact Rd.here rfl | apply Rd.up))) rfl ?_
      refine WL.val (V.move (OV.p rfl)) rfl ?_
      refine WL.val (V.idxB st42 (OV.p rfl) (OV.p rfl) (fun hc => by first | omega | (simp at hc; omega))) rfl ?_
      refine WL.store (cs := [_]) Tryz.sizeOf3 (OV.p rfl) (OV.p rfl) rfl rfl rfl (by repeat (first | exact Upd.at_ (by rw [Nat.zero_add, Nat.mul_one, ints_length]; omega) | apply Upd.up)) ?_
      refine WL.nil ?_
      refine WC.seq ?_
      refine WC.seq ?_
      first
      | refine WC.toInvE (α := Int × List Int) (fun x => 0 ≤ x.1 ∧ x.1 ≤ C.g.pg ∧ ((C.sem.cut = true ∧ x.1 = C.sem.kept C.g.pg ∧ x.2 = C.next) ∨ (C.sem.cut = false ∧ C.sem.weak b = false ∧ x.1 = C.g.pg ∧ x.2 = C.next.set b.toNat 0))) (fun x => [(0, ptr bc 0), (1, .int .i64 b), (6, .int .i64 x.1), (7, .bool C.sem.cut)]) (fun x => Cells bc 92 C.deed.cells :: MapA C.bp key120 C.pagesF :: MapA C.bw key120 C.wrongF :: Cells C.bn 3 (ints .i64 x.2) :: MapA C.bm key3 (boolF C.marked) :: MapA C.bk key3 (boolF C.weak) :: AllA C.own :: F) (C.sem.kept C.g.pg, C.next) ⟨by show 0 ≤ min (max C.keep 0) C.g.pg; omega, by show min (max C.keep 0) C.g.pg ≤ C.g.pg; omega, .inl ⟨h2, rfl, rfl⟩⟩ (.cons rfl (.cons rfl (.cons rfl (.cons rfl (.nil _))))) (fun w h => h) (fun x hx => ?_)
      | refine WC.toInvE (α := Int × List Int) (fun x => 0 ≤ x.1 ∧ x.1 ≤ C.g.pg ∧ ((C.sem.cut = true ∧ x.1 = C.sem.kept C.g.pg ∧ x.2 = C.next) ∨ (C.sem.cut = false ∧ C.sem.weak b = false ∧ x.1 = C.g.pg ∧ x.2 = C.next.set b.toNat 0))) (fun x => [(0, ptr bc 0), (1, .int .i64 b), (6, .int .i64 x.1), (7, .bool C.sem.cut)]) (fun x => Cells bc 92 C.deed.cells :: MapA C.bp key120 C.pagesF :: MapA C.bw key120 C.wrongF :: Cells C.bn 3 (ints .i64 x.2) :: MapA C.bm key3 (boolF C.marked) :: MapA C.bk key3 (boolF C.weak) :: AllA C.own :: F) (C.g.pg, C.next.set b.toNat 0) ⟨by omega, Int.le_refl _, .inr ⟨h2, h3, rfl, rfl⟩⟩ (.cons rfl (.cons rfl (.cons rfl (.cons rfl (.nil _))))) (fun w h => by rw [Nat.zero_add, Nat.mul_one, ints_set] at h; exact h) (fun x hx => ?_)
      obtain ⟨n, nx⟩ := x
      obtain ⟨hn0, hn1, hx⟩ := hx
      dsimp only at hn0 hn1 hx ⊢
      refine WC.region ?_
      refine WL.val (V.move (OV.p rfl)) rfl ?_
      refine WL.val (V.move (OV.p rfl)) rfl ?_
      refine WL.nil ?_
      refine WC.block ?_
      refine WC.loop (σ := Nat) (fun i => [(0, ptr bc 0), (1, .int .i64 b), (7, .bool C.sem.cut), (47, .int .i64 n), (48, .int .i64 (i : Int))]) (fun i => Cells bc 92 C.deed.cells :: MapA C.bp key120 (Chip.dropTo C.pagesF b i) :: MapA C.bw key120 (Chip.dropTo C.wrongF b i) :: Cells C.bn 3 (ints .i64 nx) :: MapA C.bm key3 (boolF C.marked) :: MapA C.bk key3 (boolF C.weak) :: AllA C.own :: F) (fun i => (i : Int) ≤ n) (fun i => n.toNat - i) 0 (by show ((0 : Nat) : Int) ≤ n; omega) (.cons rfl (.cons rfl (.cons rfl (.cons rfl (.cons rfl (.nil _)))))) (fun w h => by rw [show ((0 : Nat) : Int) = 0 from rfl, dropTo_zero, dropTo_zero]; exact h) ?_
      rintro i hi
      refine WC.sr ?_
      refine WL.val (V.lss (OV.p rfl) (OV.p rfl)) rfl ?_
      refine WL.nil ?_
      refine WC.seq ?_
      refine WC.cond rfl (fun hc4 => ?_) (fun hc4 => ?_)
      ·try simp only [decide_eq_true_eq, decide_eq_false_iff_not, Bool.and_eq_true, Bool.or_eq_true, Bool.and_eq_false_iff, Bool.or_eq_false_iff, Bool.not_eq_true', Bool.not_eq_false', Bool.not_eq_true, Bool.not_eq_false, Int.not_lt, Int.not_le] at hc4
       refine WC.skip ?_
       refine WC.seq ?_
       refine WC.block ?_
       refine WC.sr ?_
       refine WL.val (V.move (OV.p rfl)) rfl ?_
       refine WL.val (V.assign (OV.p rfl)) rfl ?_
       refine WL.nil ?_
       refine WC.sr ?_
       refine WL.val (V.move (OV.p rfl)) rfl ?_
       refine WL.val (V.nilCheck (OV.p rfl)) rfl ?_
       refine WL.val (V.fieldAddr fo92_2 (OV.p rfl)) rfl ?_
       refine WL.val (V.load Tryz.isAgg88 (OV.p rfl) (fun _ => by repeat (first | exact Rd.here rfl | apply Rd.up))) rfl ?_
       refine WL.val (V.move (OV.p rfl)) rfl ?_
       refine WL.val (V.move (OV.p rfl)) rfl ?_
       refine WL.val (V.build (vs := [(0, _), (1, _)]) ⟨OV.p rfl, OV.p rfl, trivial⟩ rfl (bld120_0_1 _ _)) rfl ?_
       refine WL.delete0R (k := (_, _)) Tryz.underlying88 kl120 (OV.p rfl) (OV.p rfl) (by repeat (first | exact Repl.here | apply Repl.up)) ?_
       refine WL.nil ?_
       refine WC.region ?_
       refine WL.val (V.move (OV.p rfl)) rfl ?_
       refine WL.val (V.nilCheck (OV.p rfl)) rfl ?_
       refine WL.val (V.fieldAddr fo92_3 (OV.p rfl)) rfl ?_
       refine WL.val (V.load Tryz.isAgg89 (OV.p rfl) (fun _ => by repeat (first | exact Rd.here rfl | apply Rd.up))) rfl ?_
       refine WL.val (V.move (OV.p rfl)) rfl ?_
       refine WL.val (V.move (OV.p rfl)) rfl ?_
       refine WL.val (V.build (vs := [(0, _), (1, _)]) ⟨OV.p rfl, OV.p rfl, trivial⟩ rfl (bld120_0_1 _ _)) rfl ?_
       refine WL.delete0R (k := (_, _)) Tryz.underlying89 kl120 (OV.p rfl) (OV.p rfl) (by repeat (first | exact Repl.here | apply Repl.up)) ?_
       refine WL.nil ?_
       refine WC.region ?_
       refine WL.val (V.addI (OV.p rfl) (OV.p rfl) (fun hc => by first | omega | (simp at hc; omega))) rfl ?_
       refine WL.val (V.move (OV.p rfl)) rfl ?_
       refine WL.nil ?_
       refine ⟨rfl, ?_⟩
       refine ⟨i + 1, (by show ((i + 1 : Nat) : Int) ≤ n; omega), (by show n.toNat - (i + 1) < n.toNat - i; omega), .cons rfl (.cons rfl (.cons rfl (.cons rfl (.cons (look_eq rfl (by simp)) (.nil _))))), fun w h => ?_⟩
       rw [upd_dropTo, upd_dropTo] at h
       exact h
      ·try simp only [decide_eq_true_eq, decide_eq_false_iff_not, Bool.and_eq_true, Bool.or_eq_true, Bool.and_eq_false_iff, Bool.or_eq_false_iff, Bool.not_eq_true', Bool.not_eq_false', Bool.not_eq_true, Bool.not_eq_false, Int.not_lt, Int.not_le] at hc4
       refine WC.exit ?_
       refine WC.sr ?_
       refine WL.val (V.move (OV.p rfl)) rfl ?_
       refine WL.val (V.move (OV.p rfl)) rfl ?_
       refine WL.call (vs := [_, _]) Tryz.call116 ⟨OV.p rfl, OV.p rfl, trivial⟩ (chip_after _ _) rfl ?_
       rintro _ H0 ⟨rfl, h0⟩
       subst H0
       refine WL.val (V.assign (OV.p rfl)) rfl ?_
       refine WL.nil ?_
       refine WC.ret ?_
       obtain rfl : n = (i : Int) := by omega
       have hu : ¬ C.sem.up = false := by show ¬ C.up = false; rw [hup]; decide
       have hb' : ¬ C.sem.block b = false := by rw [hc1]; decide
       rcases hx with ⟨hcut, hn, rfl⟩ | ⟨hcut, hw, hn, rfl⟩
       · have e1 : C.sem.erase b = ({ C.sem.deed with pages := Chip.dropTo C.sem.deed.pages b i, wrong := Chip.dropTo C.sem.deed.wrong b i }, 70) := by
           unfold Chip.erase; rw [if_neg hu, if_neg hb', if_pos hcut, hn]; rfl
         rw [e1, hcut]
         refine BodyQ.ret (H' := (C.deed.dropTo b i).A bc :: F) (Res.tmp rfl rfl) (fun w h => Sat.all (l := (C.deed.dropTo b i).parts bc) ?_) ⟨_, hC.deed.dropTo b i, rfl, Cw.sem_drop _ _ _, rfl⟩
         unfold Cw.parts
         rw [Cw.pagesF_drop, Cw.wrongF_drop]
         exact h
       · have e1 : C.sem.erase b = ({ C.sem.deed with pages := Chip.dropTo C.sem.deed.pages b i, wrong := Chip.dropTo C.sem.deed.wrong b i, next := C.sem.deed.setNext b 0 }, 0) := by
           unfold Chip.erase; rw [if_neg hu, if_neg hb', if_neg (by rw [hcut]; decide), if_neg (by rw [hw]; decide), hn]; rfl
         rw [e1, hcut]
         refine BodyQ.ret (H' := ((C.deed.dropTo b i).putNext b 0).A bc :: F) (Res.tmp rfl rfl) (fun w h => Sat.all (l := ((C.deed.dropTo b i).putNext b 0).parts bc) ?_) ⟨_, (hC.deed.dropTo b i).putNext (by show (0 : Int) ≤ 0 ∧ 0 ≤ C.g.pg; omega), rfl, ?_, rfl⟩
         · unfold Cw.parts
           rw [show ((C.deed.dropTo b i).putNext b 0).pagesF = _ from Cw.pagesF_drop C.deed b i, show ((C.deed.dropTo b i).putNext b 0).wrongF = _ from Cw.wrongF_drop C.deed b i]
           have e2 : ((C.deed.dropTo b i).putNext b 0).cells = C.deed.cells := by
             unfold Cw.cells Cw.putNext Cw.dropTo
             simp
           rw [e2]
           exact h
         · rw [Cw.sem_putNext, Cw.sem_drop]; rfl
end Go.Proofs.YtohkefolnmcjnaaGreat
/- The chip: Mark and Burn, with their closures. -/
namespace Go.Proofs.YtohkefolnmcjnaaGreat
open Go.Sl Go.RowKit
set_option linter.unusedVariables false
set_option linter.unusedSimpArgs false
set_option maxRecDepth 20000

section
variable {bc : Nat} {C : Cw} {K : World} {F : List Assn}
theorem chip_Mark1 {b b2 b3 : Nat} {k : Int} (h2 : Rd K F (some ⟨b2, 0, none⟩) (ptr bc 0)) (h3 : Rd K F (some ⟨b3, 0, none⟩) (.int .i64 k)) : Does Tryz.prog 118 #[ptr b2 0, ptr b3 0] K (C.A bc :: F) (fun v H' => H' = (C.mark k).A bc :: F) := by
  refine Does.openC ?_
  dsimp only [Cw.parts, List.cons_append, List.nil_append]
  refine Does.enter Tryz.func118 rfl Tryz.ntmps118 rfl ?_
  simp only [env0, Nat.reduceAdd]
  refine WC.regionA F (by kernel_rfl) ?_
  refine WA.t 0 rfl (V.load Tryz.isAgg27 (OV.p rfl) (fun _ => h2)) ?_
  refine WA.t 1 rfl (V.nilCheck (OV.p rfl)) ?_
  refine WA.t 2 rfl (V.fieldAddr fo92_5 (OV.p rfl)) ?_
  refine WA.t 4 rfl (V.load Tryz.isAgg3 (OV.p rfl) (fun _ => h3)) ?_
  refine WA.o 3 rfl ?_
  refine WL.val (V.load Tryz.isAgg90 (OV.p rfl) (fun _ => by repeat (first | exact Rd.here rfl | apply Rd.up))) rfl ?_
  refine WL.nil ?_
  refine WA.o 5 rfl ?_
  refine WL.mapUpdateR (k := _) Tryz.underlying90 kl3 (OV.p rfl) (OV.p rfl) (OV.p rfl) (by repeat (first | exact Repl.here | apply Repl.up)) ?_
  refine WL.nil ?_
  refine WA.fin ?_
  exact BodyQ.ret (H' := (C.mark k).A bc :: F) (Res.none rfl) (fun w h => Sat.all (l := (C.mark k).parts bc) (by rw [boolF_upd] at h; exact h)) rfl
theorem chip_all (hC : C.Ok) {f : FuncId} {caps : List Value} {C1 : Cw} (hf : Callable Tryz.prog f) (hdo : Does Tryz.prog f caps.toArray K (C.deed.A bc :: F) (fun v H' => H' = C1.A bc :: F)) :
    Does Tryz.prog 117 #[ptr bc 0, .func (.func f) #[] caps.toArray] K (C.A bc :: F) (fun v H' => v = .int .i64 (Chip.after C.sem.cut) ∧ H' = (if !C.sem.cut || decide (0 < C.keep) then C1 else C.deed).A bc :: F) := by
  refine Does.openC ?_
  dsimp only [Cw.parts, List.cons_append, List.nil_append]
  refine Does.enter Tryz.func117 rfl Tryz.ntmps117 rfl ?_
  simp only [env0, Nat.reduceAdd]
  refine WC.sr ?_
  refine WL.val (V.assign (OV.p rfl)) rfl ?_
  refine WL.nil ?_
  refine WC.sr ?_
  refine WL.val (V.move (OV.p rfl)) rfl ?_
  refine WL.call (vs := [_]) Tryz.call115 ⟨OV.p rfl, trivial⟩ (chip_deed (C := C) hC.left) rfl ?_
  rintro _ _ ⟨rfl, rfl⟩
  refine WL.val (V.assign (OV.p rfl)) rfl ?_
  refine WL.nil ?_
  refine WC.seq ?_
  refine WC.sr ?_
  refine WL.val (V.move (OV.p rfl)) rfl ?_
  refine WL.val (V.not (OV.p rfl)) rfl ?_
  refine WL.val (V.move (OV.p rfl)) rfl ?_
  refine WL.valG (oj := _) rfl rfl rfl GC.f (V.move (OV.p rfl)) rfl ?_
  refine WL.valG (oj := _) rfl rfl rfl GC.f (V.nilCheck (OV.g rfl id)) rfl ?_
  refine WL.valG (oj := _) rfl rfl rfl GC.f (V.fieldAddr fo92_10 (OV.g rfl id)) rfl ?_
  refine WL.valG (oj := _) rfl rfl rfl GC.f (V.load Tryz.isAgg3 (OV.g rfl id) (fun _ => by repeat (first | exact Rd.here rfl | apply Rd.up))) rfl ?_
  refine WL.valG (oj := _) rfl rfl rfl GC.f (V.gtr (OV.g rfl id) (OV.p rfl)) rfl ?_
  refine WL.val (V.pickOr (OV.p rfl) (OV.g rfl id)) rfl ?_
  refine WL.nil ?_
  refine WC.cond rfl (fun hc0 => ?_) (fun hc0 => ?_)
  ·skip
   have h0 := hc0
   refine WC.region ?_
   refine WL.val (V.move (OV.p rfl)) rfl ?_
   refine WL.sub (Sub.refl _) (fun w h => Sat.all (l := C.deed.parts bc) h) ?_
   refine WL.callV (first := []) (captured := caps) (vs := []) hf (OV.p rfl) trivial hdo rfl ?_
   rintro _ _ rfl
   refine WL.nil ?_
   refine WC.sr ?_
   refine WL.val (V.move (OV.p rfl)) rfl ?_
   refine WL.val (V.move (OV.p rfl)) rfl ?_
   refine WL.call (vs := [_, _]) Tryz.call116 ⟨OV.p rfl, OV.p rfl, trivial⟩ (chip_after _ _) rfl ?_
   rintro _ H0 ⟨rfl, h0⟩
   subst H0
   refine WL.val (V.assign (OV.p rfl)) rfl ?_
   refine WL.nil ?_
   refine WC.ret ?_
   first
   | exact BodyQ.ret (H' := C1.A bc :: F) (Res.tmp rfl rfl) (fun w h => h) ⟨rfl, by rw [if_pos (show (!C.sem.cut || decide (0 < C.keep)) = true from h0)]⟩
   | exact BodyQ.ret (H' := C.deed.A bc :: F) (Res.tmp rfl rfl) (fun w h => Sat.all (l := C.deed.parts bc) h) ⟨rfl, by rw [if_neg (show ¬ (!C.sem.cut || decide (0 < C.keep)) = true by rw [show (!C.sem.cut || decide (0 < C.keep)) = false from h0]; decide)]⟩
  ·skip
   have h0 := hc0
   refine WC.skip ?_
   refine WC.sr ?_
   refine WL.val (V.move (OV.p rfl)) rfl ?_
   refine WL.val (V.move (OV.p rfl)) rfl ?_
   refine WL.call (vs := [_, _]) Tryz.call116 ⟨OV.p rfl, OV.p rfl, trivial⟩ (chip_after _ _) rfl ?_
   rintro _ H0 ⟨rfl, h0⟩
   subst H0
   refine WL.val (V.assign (OV.p rfl)) rfl ?_
   refine WL.nil ?_
   refine WC.ret ?_
   first
   | exact BodyQ.ret (H' := C1.A bc :: F) (Res.tmp rfl rfl) (fun w h => h) ⟨rfl, by rw [if_pos (show (!C.sem.cut || decide (0 < C.keep)) = true from h0)]⟩
   | exact BodyQ.ret (H' := C.deed.A bc :: F) (Res.tmp rfl rfl) (fun w h => Sat.all (l := C.deed.parts bc) h) ⟨rfl, by rw [if_neg (show ¬ (!C.sem.cut || decide (0 < C.keep)) = true by rw [show (!C.sem.cut || decide (0 < C.keep)) = false from h0]; decide)]⟩
end
theorem ite_A {c : Bool} {C1 C2 : Cw} {S1 S2 : Chip} (h1 : C1.sem = S1) (h2 : C2.sem = S2) : (if c then C1 else C2).sem = if c then S1 else S2 := by cases c <;> simp [h1, h2]
theorem ite_Ok {c : Bool} {C1 C2 : Cw} (h1 : C1.Ok) (h2 : C2.Ok) : (if c then C1 else C2).Ok := by cases c <;> simp [h1, h2]
theorem chip_Mark {bc : Nat} {C : Cw} (hC : C.Ok) (b : Int) {K : World} {F : List Assn} :
    Does Tryz.prog 78 #[ptr bc 0, .int .i64 b] K (C.A bc :: F)
      (fun v H' => ∃ C' : Cw, C'.Ok ∧ H' = C'.A bc :: F ∧ C'.sem = (C.sem.mark b).1 ∧ v = .int .i64 (C.sem.mark b).2) := by
  refine Does.openC ?_
  dsimp only [Cw.parts, List.cons_append, List.nil_append]
  refine Does.enter Tryz.func78 rfl Tryz.ntmps78 rfl ?_
  simp only [env0, Nat.reduceAdd]
  refine WC.sr ?_
  refine WL.box (cs := [_]) (OV.p rfl) rfl rfl (fun b2 => ?_)
  refine WL.box (cs := [_]) (OV.p rfl) rfl rfl (fun b3 => ?_)
  refine WL.val (V.assign (OV.p rfl)) rfl ?_
  refine WL.nil ?_
  refine WC.seq ?_
  refine WC.sr ?_
  refine WL.val (V.load Tryz.isAgg27 (OV.p rfl) (fun _ => by repeat (first | exact Rd.here rfl | apply Rd.up))) rfl ?_
  refine WL.call (vs := [_]) Tryz.call101 ⟨OV.p rfl, trivial⟩ (chip_ready (C := C) (by repeat (first | exact Rds.all | apply Rds.up))) rfl ?_
  rintro _ H0 ⟨rfl, h0⟩
  subst H0
  refine WL.val (V.assign (OV.p rfl)) rfl ?_
  refine WL.nil ?_
  refine WC.sr ?_
  refine WL.val (V.move (OV.p rfl)) rfl ?_
  refine WL.val (V.neq (OV.p rfl) (OV.p rfl)) rfl ?_
  refine WL.nil ?_
  refine WC.cond rfl (fun hc0 => ?_) (fun hc0 => ?_)
  ·skip
   have hup : C.up = false := by cases h : C.up <;> simp [Chip.ready, Cw.sem, h] at hc0 ⊢
   refine WC.sr ?_
   refine WL.val (V.move (OV.p rfl)) rfl ?_
   refine WL.val (V.assign (OV.p rfl)) rfl ?_
   refine WL.nil ?_
   refine WC.ret ?_
   have e1 : C.sem.mark b = (C.sem, 70) := by unfold Chip.mark; rw [if_pos (show C.sem.up = false from hup)]
   rw [e1]
   exact BodyQ.ret (H' := C.A bc :: F) (Res.tmp rfl rfl) (fun w h => Sat.all (l := C.parts bc) h.tail.tail) ⟨C, hC, rfl, rfl, by unfold Chip.ready; rw [if_neg (by show ¬ C.up = true; rw [hup]; decide)]⟩
  ·skip
   have hup : C.up = true := by cases h : C.up <;> simp [Chip.ready, Cw.sem, h] at hc0 ⊢
   refine WC.skip ?_
   refine WC.seq ?_
   refine WC.sr ?_
   refine WL.val (V.load Tryz.isAgg27 (OV.p rfl) (fun _ => by repeat (first | exact Rd.here rfl | apply Rd.up))) rfl ?_
   refine WL.val (V.load Tryz.isAgg3 (OV.p rfl) (fun _ => by repeat (first | exact Rd.here rfl | apply Rd.up))) rfl ?_
   refine WL.call (vs := [_, _]) Tryz.call55 ⟨OV.p rfl, OV.p rfl, trivial⟩ (chip_block (C := C) b (by repeat (first | exact Rds.all | apply Rds.up))) rfl ?_
   rintro _ H0 ⟨rfl, h0⟩
   subst H0
   refine WL.val (V.not (OV.p rfl)) rfl ?_
   refine WL.nil ?_
   refine WC.cond rfl (fun hc1 => ?_) (fun hc1 => ?_)
   ·simp only [decide_eq_true_eq, decide_eq_false_iff_not, Bool.and_eq_true, Bool.or_eq_true, Bool.and_eq_false_iff, Bool.or_eq_false_iff, Bool.not_eq_true', Bool.not_eq_false', Bool.not_eq_true, Bool.not_eq_false, decide_eq_true_eq, decide_eq_false_iff_not] at hc1
    refine WC.sr ?_
    refine WL.val (V.assign (OV.p rfl)) rfl ?_
    refine WL.nil ?_
    refine WC.ret ?_
    have e1 : C.sem.mark b = (C.sem, 1) := by unfold Chip.mark; rw [if_neg (by show ¬ C.up = false; rw [hup]; decide), if_pos hc1]
    rw [e1]
    exact BodyQ.ret (H' := C.A bc :: F) (Res.tmp rfl rfl) (fun w h => Sat.all (l := C.parts bc) h.tail.tail) ⟨C, hC, rfl, rfl, rfl⟩
   ·simp only [decide_eq_true_eq, decide_eq_false_iff_not, Bool.and_eq_true, Bool.or_eq_true, Bool.and_eq_false_iff, Bool.or_eq_false_iff, Bool.not_eq_true', Bool.not_eq_false', Bool.not_eq_true, Bool.not_eq_false, decide_eq_true_eq, decide_eq_false_iff_not] at hc1
    refine WC.skip ?_
    refine WC.sr ?_
    refine WL.val (V.load Tryz.isAgg27 (OV.p rfl) (fun _ => by repeat (first | exact Rd.here rfl | apply Rd.up))) rfl ?_
    refine WL.val (V.makeFunc (us := []) (vs := [_, _]) trivial ⟨OV.p rfl, OV.p rfl, trivial⟩) rfl ?_
    refine WL.sub (Sub.refl _) (fun w h => Sat.all (l := C.parts bc) (h.sel 9 [2, 3, 4, 5, 6, 7, 8, 0, 1] rfl)) ?_
    refine WL.call (vs := [_, _]) Tryz.call117 ⟨OV.p rfl, OV.p rfl, trivial⟩ (chip_all (caps := [ptr b2 0, ptr b3 0]) (C1 := C.deed.mark b) hC Tryz.call118 (chip_Mark1 (b := 0) (by repeat (first | exact Rd.here rfl | apply Rd.up)) (by repeat (first | exact Rd.here rfl | apply Rd.up)))) rfl ?_
    rintro _ _ ⟨rfl, rfl⟩
    refine WL.val (V.assign (OV.p rfl)) rfl ?_
    refine WL.nil ?_
    refine WC.ret ?_
    have e1 : C.sem.mark b = C.sem.all fun T => { T with marked := fun k => if k = b then true else T.marked k } := by unfold Chip.mark; rw [if_neg (by show ¬ C.up = false; rw [hup]; decide), if_neg (by rw [hc1]; decide)]
    rw [e1]
    exact BodyQ.ret (H' := (if !C.sem.cut || decide (0 < C.keep) then C.deed.mark b else C.deed).A bc :: F) (Res.tmp rfl rfl) (fun w h => h.sel 3 [0] rfl) ⟨_, ite_Ok hC.deed.mark hC.deed, rfl, ite_A rfl rfl, rfl⟩
end Go.Proofs.YtohkefolnmcjnaaGreat
