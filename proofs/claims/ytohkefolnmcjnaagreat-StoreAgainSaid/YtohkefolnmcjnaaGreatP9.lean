import Derived.Test.YtohkefolnmcjnaaGreatP8
/- The chip: Program. -/
namespace Go.Proofs.YtohkefolnmcjnaaGreat
open Go.Sl Go.RowKit
set_option linter.unusedVariables false
set_option linter.unusedSimpArgs false
set_option maxRecDepth 20000

namespace Cw
def putPage (C : Cw) (k : Int × Int) (e : Option Addr × Nat × List Int) (own : List Assn) : Cw := { C with pages := fun q => if q = k then some e else C.pages q, own := own }
def putNext (C : Cw) (b x : Int) : Cw := { C with next := C.next.set b.toNat x }
theorem pagesF_put (C : Cw) (k : Int × Int) (e : Option Addr × Nat × List Int) (own : List Assn) : (C.putPage k e own).pagesF = upd C.pagesF k (some (sliceOf e)) := by
  funext q
  show (if q = k then some e else C.pages q).map sliceOf = if q = k then some (sliceOf e) else (C.pages q).map sliceOf
  split <;> rfl
theorem Ok.deed {C : Cw} (h : C.Ok) : C.deed.Ok := ⟨h.mays, h.page, h.wr, h.len, h.next, by
  have := h.left
  show 0 ≤ (if C.left = 0 then 0 else C.left - 1) ∧ (if C.left = 0 then 0 else C.left - 1) ≤ 9223372036854775807
  split <;> omega⟩
theorem Ok.putPage {C : Cw} (h : C.Ok) {k : Int × Int} {e : Option Addr × Nat × List Int} {own : List Assn} (hup : ∀ K w, Sat K w [AllA own] → Sat K w [AllA C.own]) (h1 : SeqIn own e.1 e.2.2.length 1 (ints .u8 e.2.2)) (h2 : (e.2.2.length : Int) = C.g.raw) (h3 : IsBytes e.2.2) :
    (C.putPage k e own).Ok := by
  refine ⟨h.mays, fun p e' hp => ?_, fun p e' hp => ⟨(h.wr p e' hp).1.mono hup, (h.wr p e' hp).2⟩, h.len, h.next, h.left⟩
  have hp' : (if p = k then some e else C.pages p) = some e' := hp
  split at hp'
  · injection hp' with hp'; subst hp'; exact ⟨h1, h2, h3⟩
  · have := h.page p e' hp'; exact ⟨this.1.mono hup, this.2⟩
theorem Ok.putNext {C : Cw} (h : C.Ok) {b x : Int} (hx : 0 ≤ x ∧ x ≤ C.g.pg) : (C.putNext b x).Ok := by
  refine ⟨h.mays, h.page, h.wr, ?_, fun y hy => ?_, h.left⟩
  · show ((C.next.set b.toNat x).length : Int) = C.g.bl
    rw [List.length_set]; exact h.len
  · rcases List.mem_or_eq_of_mem_set hy with h1 | h1
    · exact h.next y h1
    · subst h1; exact hx
theorem sem_put (C : Cw) (k : Int × Int) (e : Option Addr × Nat × List Int) (own : List Assn) : (C.putPage k e own).sem = { C.sem with pages := Chip.upds C.sem.pages k (some e.2.2) } := by
  unfold sem putPage
  simp only [Chip.mk.injEq, true_and, and_true]
  funext q
  show (if q = k then some e else C.pages q).map (·.2.2) = if q = k then some e.2.2 else (C.pages q).map (·.2.2)
  split <;> rfl
theorem sem_putNext (C : Cw) (b x : Int) : (C.putNext b x).sem = { C.sem with next := C.sem.setNext b x } := rfl
theorem up_own (A : Assn) (l : List Assn) : ∀ K w, Sat K w [AllA (A :: l)] → Sat K w [AllA l] := fun K w h => Sat.all (l := l) (H := []) h.unall.tail
end Cw
/-- What lies there when a page was put, folded. -/
theorem fold_put {bc bo : Nat} {C : Cw} {b p x : Int} {bytes : List Int} {nx vs : List Value} {K w : World} {F : List Assn} (hvs : vs = ints .u8 bytes) (hn : bytes.length = C.g.raw.toNat) (hnx : nx = ints .i64 (C.next.set b.toNat x))
    (h : Sat K w (Cells bc 92 C.cells :: Cells bo 5 vs :: MapA C.bp key120 (upd C.pagesF (b, p) (some (.slice (some ⟨bo, 0, none⟩) C.g.raw.toNat C.g.raw.toNat))) :: MapA C.bw key120 C.wrongF :: Cells C.bn 3 nx
      :: MapA C.bm key3 (boolF C.marked) :: MapA C.bk key3 (boolF C.weak) :: AllA C.own :: F)) :
    Sat K w (((C.putPage (b, p) (some ⟨bo, 0, none⟩, C.g.raw.toNat, bytes) (Cells bo 5 (ints .u8 bytes) :: C.own)).putNext b x).A bc :: F) := by
  subst hvs hnx
  have h1 := (h.sel 8 [1, 7, 0, 2, 3, 4, 5, 6] rfl).absorb
  have h2 := h1.sel 7 [1, 2, 3, 4, 5, 6, 0] rfl
  have e1 : ((C.putPage (b, p) (some ⟨bo, 0, none⟩, C.g.raw.toNat, bytes) (Cells bo 5 (ints .u8 bytes) :: C.own)).putNext b x).pagesF = upd C.pagesF (b, p) (some (.slice (some ⟨bo, 0, none⟩) C.g.raw.toNat C.g.raw.toNat)) := by
    refine (Cw.pagesF_put C (b, p) (some ⟨bo, 0, none⟩, C.g.raw.toNat, bytes) (Cells bo 5 (ints .u8 bytes) :: C.own)).trans ?_
    unfold Cw.sliceOf
    rw [hn]
  refine Sat.all (l := Cw.parts bc _) ?_
  unfold Cw.parts
  rw [e1]
  have e2 : ((C.putPage (b, p) (some ⟨bo, 0, none⟩, C.g.raw.toNat, bytes) (Cells bo 5 (ints .u8 bytes) :: C.own)).putNext b x).cells = C.cells := by
    unfold Cw.cells Cw.putNext Cw.putPage
    simp
  rw [e2]
  exact h2
theorem ok_put {bo : Nat} {C : Cw} (hC : C.Ok) {b p x : Int} {bytes : List Int} (hn : bytes.length = C.g.raw.toNat) (hb : IsBytes bytes) (hx : 0 ≤ x ∧ x ≤ C.g.pg) :
    ((C.putPage (b, p) (some ⟨bo, 0, none⟩, C.g.raw.toNat, bytes) (Cells bo 5 (ints .u8 bytes) :: C.own)).putNext b x).Ok := by
  have hr := Geo.raw_bd hC.mays
  refine Cw.Ok.putNext (hC.putPage (Cw.up_own _ _) (SeqIn.here fun K => Seq.allI rfl) (by show (bytes.length : Int) = _; omega) hb) hx

theorem chip_Program {bc : Nat} {C : Cw} (hC : C.Ok) {B : Option Addr} {m cap : Nat} {xs : List Int} (b p : Int) (hx : IsBytes xs) {K : World} {F : List Assn} (hs : Seq K F B m 1 (ints .u8 xs)) (hcap : m ≤ cap) :
    Does Tryz.prog 77 #[ptr bc 0, .int .i64 b, .int .i64 p, .slice B m cap] K (C.A bc :: F)
      (fun v H' => ∃ C' : Cw, C'.Ok ∧ H' = C'.A bc :: F ∧ C'.sem = (C.sem.program b p xs).1 ∧ v = .int .i64 (C.sem.program b p xs).2) := by
  have hl : xs.length = m := by simpa [ints] using hs.len
  have hlen := hC.len
  have hlen' : (C.deed.next.length : Int) = C.g.bl := hC.len
  have hm := hC.mays
  unfold Geo.mays at hm
  have hr := Geo.raw_bd hC.mays
  refine Does.openC ?_
  dsimp only [Cw.parts, List.cons_append, List.nil_append]
  refine Does.enter Tryz.func77 rfl Tryz.ntmps77 rfl ?_
  simp only [env0, Nat.reduceAdd]
  refine WC.sr ?_
  refine WL.val (V.assign (OV.p rfl)) rfl ?_
  refine WL.nil ?_
  refine WC.seq ?_
  refine WC.sr ?_
  refine WL.val (V.move (OV.p rfl)) rfl ?_
  refine WL.call (vs := [_]) Tryz.call101 ⟨OV.p rfl, trivial⟩ (chip_ready (C := C) (by repeat (first | exact Rds.all | apply Rds.up))) rfl ?_
  rintro _ H0 ⟨rfl, h0⟩
  subst H0
  refine WL.val (V.assign (OV.p rfl)) rfl ?_
  refine WL.nil ?_
  refine WC.sr ?_
  refine WL.val (V.move (OV.p rfl)) rfl ?_
  refine WL.val (V.neq (OV.p rfl) (OV.p rfl)) rfl ?_
  refine WL.nil ?_
  refine WC.cond rfl (fun hc0 => ?_) (fun hc0 => ?_)
  ·skip
   have hup : C.up = false := by cases h : C.up <;> simp [Chip.ready, Cw.sem, h] at hc0 ⊢
   refine WC.sr ?_
   refine WL.val (V.move (OV.p rfl)) rfl ?_
   refine WL.val (V.assign (OV.p rfl)) rfl ?_
   refine WL.nil ?_
   refine WC.ret ?_
   have e1 : C.sem.program b p xs = (C.sem, 70) := by unfold Chip.program; rw [if_pos (show C.sem.up = false from hup)]
   rw [e1]
   exact BodyQ.ret (H' := C.A bc :: F) (Res.tmp rfl rfl) (fun w h => Sat.all (l := C.parts bc) h) ⟨C, hC, rfl, rfl, by unfold Chip.ready; rw [if_neg (by show ¬ C.up = true; rw [hup]; decide)]⟩
  ·skip
   have hup : C.up = true := by cases h : C.up <;> simp [Chip.ready, Cw.sem, h] at hc0 ⊢
   refine WC.skip ?_
   refine WC.seq ?_
   refine WC.block ?_
   refine WC.sr ?_
   refine WL.val (V.move (OV.p rfl)) rfl ?_
   refine WL.val (V.move (OV.p rfl)) rfl ?_
   refine WL.val (V.move (OV.p rfl)) rfl ?_
   refine WL.call (vs := [_, _, _]) Tryz.call80 ⟨OV.p rfl, OV.p rfl, OV.p rfl, trivial⟩ (chip_page (C := C) b p (by repeat (first | exact Rds.all | apply Rds.up))) rfl ?_
   rintro _ H0 ⟨rfl, h0⟩
   subst H0
   refine WL.val (V.not (OV.p rfl)) rfl ?_
   refine WL.val (V.move (OV.p rfl)) rfl ?_
   refine WL.valG (oj := _) rfl rfl rfl GC.f (V.move (OV.p rfl)) rfl ?_
   refine WL.valG (oj := _) rfl rfl rfl GC.f (V.len (t := 38) Tryz.runUnderlying38 (OV.g rfl id)) rfl ?_
   refine WL.valG (oj := _) rfl rfl rfl GC.f (V.move (OV.p rfl)) rfl ?_
   refine WL.valG (oj := _) rfl rfl rfl GC.f (V.nilCheck (OV.g rfl id)) rfl ?_
   refine WL.valG (oj := _) rfl rfl rfl GC.f (V.fieldAddr fo92_1 (OV.g rfl id)) rfl ?_
   refine WL.valG (oj := _) rfl rfl rfl GC.f (V.load Tryz.isAgg3 (OV.g rfl id) (fun _ => by repeat (first | exact Rd.here rfl | apply Rd.up))) rfl ?_
   refine WL.valG (oj := _) rfl rfl rfl GC.f (V.neq (OV.g rfl id) (OV.g rfl id)) rfl ?_
   refine WL.val (V.pickOr (OV.p rfl) (OV.g rfl id)) rfl ?_
   refine WL.val (V.assign (OV.p rfl)) rfl ?_
   refine WL.nil ?_
   refine WC.cond rfl (fun hc1 => ?_) (fun hc1 => ?_)
   ·simp only [decide_eq_true_eq, decide_eq_false_iff_not, Bool.and_eq_true, Bool.or_eq_true, Bool.and_eq_false_iff, Bool.or_eq_false_iff, Bool.not_eq_true', Bool.not_eq_false', Bool.not_eq_true, Bool.not_eq_false, decide_eq_true_eq, decide_eq_false_iff_not] at hc1
    have e1 : C.sem.program b p xs = (C.sem, 1) := by
      unfold Chip.program; rw [if_neg (by show ¬ C.up = false; rw [hup]; decide), if_pos (by rw [hl]; exact hc1)]
    refine WC.sr ?_
    refine WL.val (V.assign (OV.p rfl)) rfl ?_
    refine WL.nil ?_
    refine WC.ret ?_
    rw [e1]
    exact BodyQ.ret (H' := C.A bc :: F) (Res.tmp rfl rfl) (fun w h => Sat.all (l := C.parts bc) h) ⟨C, hC, rfl, rfl, rfl⟩
   ·simp only [decide_eq_true_eq, decide_eq_false_iff_not, Bool.and_eq_true, Bool.or_eq_true, Bool.and_eq_false_iff, Bool.or_eq_false_iff, Bool.not_eq_true', Bool.not_eq_false', Bool.not_eq_true, Bool.not_eq_false, decide_eq_true_eq, decide_eq_false_iff_not] at hc1
    obtain ⟨hpage, hraw⟩ := hc1
    have hpg : 0 ≤ b ∧ b < C.g.bl ∧ 0 ≤ p ∧ p < C.g.pg := by
      have h := hpage
      simp only [Chip.page, Chip.block, Bool.and_eq_true, decide_eq_true_eq] at h
      exact ⟨h.1.1.1, h.1.1.2, h.1.2, h.2⟩
    have hk : C.sem.kept m = min (max C.keep 0) m := rfl
    have hnx : 0 ≤ C.sem.nextOf b ∧ C.sem.nextOf b ≤ C.g.pg := by
      have h1 : C.sem.nextOf b = C.next.getD b.toNat 0 := rfl
      have h2 : b.toNat < C.next.length := by omega
      rw [h1, List.getD, List.getElem?_eq_getElem h2]
      exact hC.next _ (List.getElem_mem h2)
    have hget : (ints .i64 C.next)[0 + b.toNat * 1]? = some (.int .i64 (C.sem.nextOf b)) := by
      rw [Nat.zero_add, Nat.mul_one]; exact ints_getD _ _ (by omega)
    refine WC.sr ?_
    refine WL.val (V.move (OV.p rfl)) rfl ?_
    refine WL.val (V.move (OV.p rfl)) rfl ?_
    refine WL.val (V.nilCheck (OV.p rfl)) rfl ?_
    refine WL.val (V.fieldAddr fo92_4 (OV.p rfl)) rfl ?_
    refine WL.val (V.load Tryz.isAgg42 (OV.p rfl) (fun _ => by repeat (first | exact Rd.here rfl | apply Rd.up))) rfl ?_
    refine WL.val (V.move (OV.p rfl)) rfl ?_
    refine WL.val (V.idxB st42 (OV.p rfl) (OV.p rfl) (fun hc => by first | omega | (simp at hc; omega))) rfl ?_
    refine WL.val (V.load Tryz.isAgg3 (OV.p rfl) (fun _ => by repeat (first | exact Rd.here hget | apply Rd.up))) rfl ?_
    refine WL.val (V.neq (OV.p rfl) (OV.p rfl)) rfl ?_
    refine WL.val (V.assign (OV.p rfl)) rfl ?_
    refine WL.nil ?_
    refine WC.cond rfl (fun hc2 => ?_) (fun hc2 => ?_)
    ·simp only [decide_eq_true_eq, decide_eq_false_iff_not, Bool.and_eq_true, Bool.or_eq_true, Bool.and_eq_false_iff, Bool.or_eq_false_iff, Bool.not_eq_true', Bool.not_eq_false', Bool.not_eq_true, Bool.not_eq_false, decide_eq_true_eq, decide_eq_false_iff_not] at hc2
     have h2 := hc2
     refine WC.sr ?_
     refine WL.val (V.assign (OV.p rfl)) rfl ?_
     refine WL.nil ?_
     refine WC.ret ?_
     have e1 : C.sem.program b p xs = (C.sem, 71) := by
       unfold Chip.program; rw [if_neg (by show ¬ C.up = false; rw [hup]; decide), if_neg (by rw [hl, hpage]; rintro (h | h); cases h; exact h hraw), if_pos h2]
     rw [e1]
     exact BodyQ.ret (H' := C.A bc :: F) (Res.tmp rfl rfl) (fun w h => Sat.all (l := C.parts bc) h) ⟨C, hC, rfl, rfl, rfl⟩
    ·simp only [decide_eq_true_eq, decide_eq_false_iff_not, Bool.and_eq_true, Bool.or_eq_true, Bool.and_eq_false_iff, Bool.or_eq_false_iff, Bool.not_eq_true', Bool.not_eq_false', Bool.not_eq_true, Bool.not_eq_false, decide_eq_true_eq, decide_eq_false_iff_not] at hc2
     have h2 := hc2
     refine WC.skip ?_
     refine WC.sr ?_
     refine WL.val (V.move (OV.p rfl)) rfl ?_
     refine WL.call (vs := [_]) Tryz.call114 ⟨OV.p rfl, trivial⟩ (chip_blank (C := C) hC.mays (by repeat (first | exact Rds.all | apply Rds.up))) rfl ?_
     rintro _ _ ⟨bo, rfl, rfl⟩
     refine WL.val (V.assign (OV.p rfl)) rfl ?_
     refine WL.nil ?_
     refine WC.sr ?_
     refine WL.val (V.move (OV.p rfl)) rfl ?_
     refine WL.sub (Sub.refl _) (fun w h => h.p1) ?_
     refine WL.call (vs := [_]) Tryz.call115 ⟨OV.p rfl, trivial⟩ (chip_deed (C := C) hC.left) rfl ?_
     rintro _ _ ⟨rfl, rfl⟩
     refine WL.val (V.assign (OV.p rfl)) rfl ?_
     refine WL.nil ?_
     refine WC.seq ?_
     refine WC.block ?_
     refine WC.sr ?_
     refine WL.val (V.move (OV.p rfl)) rfl ?_
     refine WL.val (V.assign (OV.p rfl)) rfl ?_
     refine WL.nil ?_
     refine WC.cond rfl (fun hc3 => ?_) (fun hc3 => ?_)
     ·skip
      have h3 := hc3
      refine WC.region ?_
      refine WL.val (V.move (OV.p rfl)) rfl ?_
      refine WL.val (V.move (OV.p rfl)) rfl ?_
      refine WL.val (V.move (OV.p rfl)) rfl ?_
      refine WL.val (V.nilCheck (OV.p rfl)) rfl ?_
      refine WL.val (V.fieldAddr fo92_10 (OV.p rfl)) rfl ?_
      refine WL.val (V.load Tryz.isAgg3 (OV.p rfl) (fun _ => by repeat (first | exact Rd.here rfl | apply Rd.up))) rfl ?_
      refine WL.val (V.max (OV.p rfl) (OV.p rfl)) rfl ?_
      refine WL.val (V.move (OV.p rfl)) rfl ?_
      refine WL.val (V.len (t := 38) Tryz.runUnderlying38 (OV.p rfl)) rfl ?_
      refine WL.val (V.min (OV.p rfl) (OV.p rfl)) rfl ?_
      refine WL.val (V.slice (h := (C.sem.kept m).toNat) st38 (OV.p rfl) OO.none (OO.some (OV.p rfl) (fun _ => by show min (max C.keep 0) (m : Int) = _; rw [hk]; omega)) OO.none (by simp) (Nat.zero_le _) (by rw [hk]; omega) (Nat.le_refl _)) rfl ?_
      refine WL.copySeq st38 (OV.p rfl) (OV.p rfl) (news := ints .u8 (xs.take (C.sem.kept m).toNat)) (by rw [sub0, ← ints_take]; exact Seq.take (by repeat (first | exact hs | apply Seq.up)) (by rw [hk]; omega)) (by rw [hk]; omega) (ints_one _ _) (Upd.up (Upd.front (by simp [ints]; rw [hk]; omega))) rfl ?_
      refine WL.nil ?_
      refine WC.sr ?_
      refine WL.val (V.move (OV.p rfl)) rfl ?_
      refine WL.val (V.nilCheck (OV.p rfl)) rfl ?_
      refine WL.val (V.fieldAddr fo92_2 (OV.p rfl)) rfl ?_
      refine WL.val (V.load Tryz.isAgg88 (OV.p rfl) (fun _ => by repeat (first | exact Rd.here rfl | apply Rd.up))) rfl ?_
      refine WL.val (V.move (OV.p rfl)) rfl ?_
      refine WL.val (V.move (OV.p rfl)) rfl ?_
      refine WL.val (V.build (vs := [(0, _), (1, _)]) ⟨OV.p rfl, OV.p rfl, trivial⟩ rfl (bld120_0_1 _ _)) rfl ?_
      refine WL.val (V.move (OV.p rfl)) rfl ?_
      refine WL.mapUpdateR (k := (_, _)) Tryz.underlying88 kl120 (OV.p rfl) (OV.p rfl) (OV.p rfl) (by repeat (first | exact Repl.here | apply Repl.up)) ?_
      refine WL.nil ?_
      refine WC.sr ?_
      refine WL.val (V.move (OV.p rfl)) rfl ?_
      refine WL.val (V.nilCheck (OV.p rfl)) rfl ?_
      refine WL.val (V.fieldAddr fo92_4 (OV.p rfl)) rfl ?_
      refine WL.val (V.load Tryz.isAgg42 (OV.p rfl) (fun _ => by repeat (first | exact Rd.here rfl | apply Rd.up))) rfl ?_
      refine WL.val (V.move (OV.p rfl)) rfl ?_
      refine WL.val (V.idxB st42 (OV.p rfl) (OV.p rfl) (fun hc => by first | omega | (simp at hc; omega))) rfl ?_
      refine WL.val (V.load Tryz.isAgg3 (OV.p rfl) (fun _ => by repeat (first | exact Rd.here hget | apply Rd.up))) rfl ?_
      refine WL.val (V.addI (OV.p rfl) (OV.p rfl) (fun hc => by first | omega | (simp at hc; omega))) rfl ?_
      refine WL.val (V.idxB st42 (OV.p rfl) (OV.p rfl) (fun hc => by first | omega | (simp at hc; omega))) rfl ?_
      refine WL.store (cs := [_]) Tryz.sizeOf3 (OV.p rfl) (OV.p rfl) rfl rfl rfl (by repeat (first | exact Upd.at_ (by rw [Nat.zero_add, Nat.mul_one, ints_length]; omega) | apply Upd.up)) ?_
      refine WL.nil ?_
      refine WC.sr ?_
      refine WL.val (V.move (OV.p rfl)) rfl ?_
      refine WL.val (V.move (OV.p rfl)) rfl ?_
      refine WL.call (vs := [_, _]) Tryz.call116 ⟨OV.p rfl, OV.p rfl, trivial⟩ (chip_after _ _) rfl ?_
      rintro _ H0 ⟨rfl, h0⟩
      subst H0
      refine WL.val (V.assign (OV.p rfl)) rfl ?_
      refine WL.nil ?_
      refine WC.ret ?_
      have hn1 : ¬ C.sem.up = false := by show ¬ C.up = false; rw [hup]; decide
      have hn2 : ¬ (C.sem.page b p = false ∨ (xs.length : Int) ≠ C.sem.raw) := by rw [hl, hpage]; rintro (h | h); cases h; exact h hraw
      have hn3 : ¬ p ≠ C.sem.nextOf b := by rw [h2]; exact fun h => h rfl
      have hbl : C.sem.blank.length = C.g.raw.toNat := List.length_replicate
      cases hcut : C.sem.cut with
      | true =>
        have e1 : C.sem.program b p xs = ({ C.sem.deed with pages := Chip.upds C.sem.deed.pages (b, p) (some (xs.take (C.sem.kept xs.length).toNat ++ C.sem.blank.drop (C.sem.kept xs.length).toNat)), next := C.sem.deed.setNext b (p + 1) }, 70) := by
          unfold Chip.program; rw [if_neg hn1, if_neg hn2, if_neg hn3, if_pos hcut]
        first
          | (exfalso; exact Bool.noConfusion (h3.symm.trans hcut))
          | (rw [hl] at e1
             rw [e1]
             have hlen2 : (xs.take (C.sem.kept m).toNat ++ C.sem.blank.drop (C.sem.kept m).toNat).length = C.g.raw.toNat := by
               rw [List.length_append, List.length_take, List.length_drop, hbl, hl, hk]; omega
             refine BodyQ.ret (H' := Cw.A bc ((C.deed.putPage (b, p) (some ⟨bo, 0, none⟩, C.g.raw.toNat, xs.take (C.sem.kept m).toNat ++ C.sem.blank.drop (C.sem.kept m).toNat) (Cells bo 5 (ints .u8 (xs.take (C.sem.kept m).toNat ++ C.sem.blank.drop (C.sem.kept m).toNat)) :: C.own)).putNext b (p + 1)) :: F)
               (Res.tmp rfl rfl) (fun w h => fold_put (C := C.deed) ?_ hlen2 ?_ h) ⟨_, ok_put (C := C.deed) hC.deed hlen2 ((hx.take _).append ((IsBytes.repl (by omega)).drop _)) (by show 0 ≤ p + 1 ∧ p + 1 ≤ C.g.pg; omega), rfl, ?_, ?_⟩
             · rw [ints_append, ← ints_drop, ints_length, List.length_take, hl, show min (C.sem.kept m).toNat m = (C.sem.kept m).toNat by rw [hk]; omega]; rfl
             · rw [Nat.zero_add, Nat.mul_one, ints_set, ← h2]; rfl
             · rw [Cw.sem_putNext, Cw.sem_put]; rfl
             · rfl)
      | false =>
        first
          | (exfalso; exact Bool.noConfusion (h3.symm.trans hcut))
          | (have e1 : C.sem.program b p xs = ({ C.sem.deed with pages := Chip.upds C.sem.deed.pages (b, p) (some xs), next := C.sem.deed.setNext b (p + 1) }, 0) := by
               unfold Chip.program; rw [if_neg hn1, if_neg hn2, if_neg hn3, if_neg (by rw [hcut]; decide), if_neg (by rw [show C.sem.weak b = false from h4]; decide)]
             rw [e1]
             have hlen2 : xs.length = C.g.raw.toNat := by omega
             refine BodyQ.ret (H' := Cw.A bc ((C.deed.putPage (b, p) (some ⟨bo, 0, none⟩, C.g.raw.toNat, xs) (Cells bo 5 (ints .u8 xs) :: C.own)).putNext b (p + 1)) :: F)
               (Res.tmp rfl rfl) (fun w h => fold_put (C := C.deed) ?_ hlen2 ?_ h) ⟨_, ok_put (C := C.deed) hC.deed hlen2 hx (by show 0 ≤ p + 1 ∧ p + 1 ≤ C.g.pg; omega), rfl, ?_, ?_⟩
             · rw [ints_drop, List.drop_eq_nil_of_le (by rw [ints_length, List.length_replicate]; omega)]; simp [ints]
             · rw [Nat.zero_add, Nat.mul_one, ints_set, ← h2]; rfl
             · rw [Cw.sem_putNext, Cw.sem_put]; rfl
             · rfl)
     ·skip
      have h3 := hc3
      refine WC.sr ?_
      refine WL.val (V.move (OV.p rfl)) rfl ?_
      refine WL.val (V.nilCheck (OV.p rfl)) rfl ?_
      refine WL.val (V.fieldAddr fo92_6 (OV.p rfl)) rfl ?_
      refine WL.val (V.load Tryz.isAgg90 (OV.p rfl) (fun _ => by repeat (first | exact Rd.here rfl | apply Rd.up))) rfl ?_
      refine WL.val (V.move (OV.p rfl)) rfl ?_
      refine WL.val (V.val_eq (v' := .bool _) (V.lookup (k := _) Tryz.underlying90 Tryz.zeroValue4 kl3 (OV.p rfl) (OV.p rfl) (fun _ => by repeat (first | exact RdM.here | apply RdM.up))) (fun _ => boolF_get _ _)) rfl ?_
      refine WL.val (V.assign (OV.p rfl)) rfl ?_
      refine WL.nil ?_
      refine WC.cond rfl (fun hc4 => ?_) (fun hc4 => ?_)
      ·skip
       have h4 := hc4
       refine WC.sr ?_
       refine WL.val (V.assign (OV.p rfl)) rfl ?_
       refine WL.nil ?_
       refine WC.ret ?_
       have e1 : C.sem.program b p xs = (C.sem.deed, 72) := by
         unfold Chip.program; rw [if_neg (by show ¬ C.up = false; rw [hup]; decide), if_neg (by rw [hl, hpage]; rintro (h | h); cases h; exact h hraw), if_neg (by rw [h2]; exact fun h => h rfl), if_neg (by rw [h3]; decide), if_pos (show C.sem.weak b = true from h4)]
       rw [e1]
       exact BodyQ.ret (H' := C.deed.A bc :: F) (Res.tmp rfl rfl) (fun w h => Sat.all (l := C.deed.parts bc) (h.sel 2 [0] rfl)) ⟨C.deed, hC.deed, rfl, rfl, rfl⟩
      ·skip
       have h4 := hc4
       refine WC.region ?_
       refine WL.val (V.move (OV.p rfl)) rfl ?_
       refine WL.val (V.move (OV.p rfl)) rfl ?_
       refine WL.copySeq st38 (OV.p rfl) (OV.p rfl) (by repeat (first | exact hs | apply Seq.up)) (by omega) (ints_one _ _) (Upd.up (Upd.front (by simp [ints]; omega))) rfl ?_
       refine WL.nil ?_
       refine WC.sr ?_
       refine WL.val (V.move (OV.p rfl)) rfl ?_
       refine WL.val (V.nilCheck (OV.p rfl)) rfl ?_
       refine WL.val (V.fieldAddr fo92_2 (OV.p rfl)) rfl ?_
       refine WL.val (V.load Tryz.isAgg88 (OV.p rfl) (fun _ => by repeat (first | exact Rd.here rfl | apply Rd.up))) rfl ?_
       refine WL.val (V.move (OV.p rfl)) rfl ?_
       refine WL.val (V.move (OV.p rfl)) rfl ?_
       refine WL.val (V.build (vs := [(0, _), (1, _)]) ⟨OV.p rfl, OV.p rfl, trivial⟩ rfl (bld120_0_1 _ _)) rfl ?_
       refine WL.val (V.move (OV.p rfl)) rfl ?_
       refine WL.mapUpdateR (k := (_, _)) Tryz.underlying88 kl120 (OV.p rfl) (OV.p rfl) (OV.p rfl) (by repeat (first | exact Repl.here | apply Repl.up)) ?_
       refine WL.nil ?_
       refine WC.sr ?_
       refine WL.val (V.move (OV.p rfl)) rfl ?_
       refine WL.val (V.nilCheck (OV.p rfl)) rfl ?_
       refine WL.val (V.fieldAddr fo92_4 (OV.p rfl)) rfl ?_
       refine WL.val (V.load Tryz.isAgg42 (OV.p rfl) (fun _ => by repeat (first | exact Rd.here rfl | apply Rd.up))) rfl ?_
       refine WL.val (V.move (OV.p rfl)) rfl ?_
       refine WL.val (V.idxB st42 (OV.p rfl) (OV.p rfl) (fun hc => by first | omega | (simp at hc; omega))) rfl ?_
       refine WL.val (V.load Tryz.isAgg3 (OV.p rfl) (fun _ => by repeat (first | exact Rd.here hget | apply Rd.up))) rfl ?_
       refine WL.val (V.addI (OV.p rfl) (OV.p rfl) (fun hc => by first | omega | (simp at hc; omega))) rfl ?_
       refine WL.val (V.idxB st42 (OV.p rfl) (OV.p rfl) (fun hc => by first | omega | (simp at hc; omega))) rfl ?_
       refine WL.store (cs := [_]) Tryz.sizeOf3 (OV.p rfl) (OV.p rfl) rfl rfl rfl (by repeat (first | exact Upd.at_ (by rw [Nat.zero_add, Nat.mul_one, ints_length]; omega) | apply Upd.up)) ?_
       refine WL.nil ?_
       refine WC.sr ?_
       refine WL.val (V.move (OV.p rfl)) rfl ?_
       refine WL.val (V.move (OV.p rfl)) rfl ?_
       refine WL.call (vs := [_, _]) Tryz.call116 ⟨OV.p rfl, OV.p rfl, trivial⟩ (chip_after _ _) rfl ?_
       rintro _ H0 ⟨rfl, h0⟩
       subst H0
       refine WL.val (V.assign (OV.p rfl)) rfl ?_
       refine WL.nil ?_
       refine WC.ret ?_
       have hn1 : ¬ C.sem.up = false := by show ¬ C.up = false; rw [hup]; decide
       have hn2 : ¬ (C.sem.page b p = false ∨ (xs.length : Int) ≠ C.sem.raw) := by rw [hl, hpage]; rintro (h | h); cases h; exact h hraw
       have hn3 : ¬ p ≠ C.sem.nextOf b := by rw [h2]; exact fun h => h rfl
       have hbl : C.sem.blank.length = C.g.raw.toNat := List.length_replicate
       cases hcut : C.sem.cut with
       | true =>
         have e1 : C.sem.program b p xs = ({ C.sem.deed with pages := Chip.upds C.sem.deed.pages (b, p) (some (xs.take (C.sem.kept xs.length).toNat ++ C.sem.blank.drop (C.sem.kept xs.length).toNat)), next := C.sem.deed.setNext b (p + 1) }, 70) := by
           unfold Chip.program; rw [if_neg hn1, if_neg hn2, if_neg hn3, if_pos hcut]
         first
           | (exfalso; exact Bool.noConfusion (h3.symm.trans hcut))
           | (rw [hl] at e1
              rw [e1]
              have hlen2 : (xs.take (C.sem.kept m).toNat ++ C.sem.blank.drop (C.sem.kept m).toNat).length = C.g.raw.toNat := by
                rw [List.length_append, List.length_take, List.length_drop, hbl, hl, hk]; omega
              refine BodyQ.ret (H' := Cw.A bc ((C.deed.putPage (b, p) (some ⟨bo, 0, none⟩, C.g.raw.toNat, xs.take (C.sem.kept m).toNat ++ C.sem.blank.drop (C.sem.kept m).toNat) (Cells bo 5 (ints .u8 (xs.take (C.sem.kept m).toNat ++ C.sem.blank.drop (C.sem.kept m).toNat)) :: C.own)).putNext b (p + 1)) :: F)
                (Res.tmp rfl rfl) (fun w h => fold_put (C := C.deed) ?_ hlen2 ?_ h) ⟨_, ok_put (C := C.deed) hC.deed hlen2 ((hx.take _).append ((IsBytes.repl (by omega)).drop _)) (by show 0 ≤ p + 1 ∧ p + 1 ≤ C.g.pg; omega), rfl, ?_, ?_⟩
              · rw [ints_append, ← ints_drop, ints_length, List.length_take, hl, show min (C.sem.kept m).toNat m = (C.sem.kept m).toNat by rw [hk]; omega]; rfl
              · rw [Nat.zero_add, Nat.mul_one, ints_set, ← h2]; rfl
              · rw [Cw.sem_putNext, Cw.sem_put]; rfl
              · rfl)
       | false =>
         first
           | (exfalso; exact Bool.noConfusion (h3.symm.trans hcut))
           | (have e1 : C.sem.program b p xs = ({ C.sem.deed with pages := Chip.upds C.sem.deed.pages (b, p) (some xs), next := C.sem.deed.setNext b (p + 1) }, 0) := by
                unfold Chip.program; rw [if_neg hn1, if_neg hn2, if_neg hn3, if_neg (by rw [hcut]; decide), if_neg (by rw [show C.sem.weak b = false from h4]; decide)]
              rw [e1]
              have hlen2 : xs.length = C.g.raw.toNat := by omega
              refine BodyQ.ret (H' := Cw.A bc ((C.deed.putPage (b, p) (some ⟨bo, 0, none⟩, C.g.raw.toNat, xs) (Cells bo 5 (ints .u8 xs) :: C.own)).putNext b (p + 1)) :: F)
                (Res.tmp rfl rfl) (fun w h => fold_put (C := C.deed) ?_ hlen2 ?_ h) ⟨_, ok_put (C := C.deed) hC.deed hlen2 hx (by show 0 ≤ p + 1 ∧ p + 1 ≤ C.g.pg; omega), rfl, ?_, ?_⟩
              · rw [ints_drop, List.drop_eq_nil_of_le (by rw [ints_length, List.length_replicate]; omega)]; simp [ints]
              · rw [Nat.zero_add, Nat.mul_one, ints_set, ← h2]; rfl
              · rw [Cw.sem_putNext, Cw.sem_put]; rfl
              · rfl)
end Go.Proofs.YtohkefolnmcjnaaGreat
/- The chip: what turns one cell, what is asked; Erase. -/
namespace Go.Proofs.YtohkefolnmcjnaaGreat
open Go.Sl Go.RowKit
set_option linter.unusedVariables false
set_option linter.unusedSimpArgs false
set_option maxRecDepth 20000

namespace Cw
def on (C : Cw) : Cw := { C with up := true }
def off (C : Cw) : Cw := { C with up := false }
def mark (C : Cw) (b : Int) : Cw := { C with marked := fun k => if k = b then true else C.marked k }
variable {C : Cw} (h : C.Ok)
include h
theorem Ok.on : C.on.Ok := ⟨h.mays, h.page, h.wr, h.len, h.next, h.left⟩
theorem Ok.off : C.off.Ok := ⟨h.mays, h.page, h.wr, h.len, h.next, h.left⟩
theorem Ok.mark {b : Int} : (C.mark b).Ok := ⟨h.mays, h.page, h.wr, h.len, h.next, h.left⟩
end Cw

section
variable {bc : Nat} {C : Cw} {K : World} {F : List Assn}
theorem chip_On : Does Tryz.prog 64 #[ptr bc 0] K (C.A bc :: F) (fun v H' => H' = C.on.A bc :: F) := by
  refine Does.openC ?_
  dsimp only [Cw.parts, List.cons_append, List.nil_append]
  refine Does.enter Tryz.func64 rfl Tryz.ntmps64 rfl ?_
  simp only [env0, Nat.reduceAdd]
  refine WC.sr ?_
  refine WL.val (V.move (OV.p rfl)) rfl ?_
  refine WL.val (V.neqP Tryz.underlying27 (OV.p rfl) (OV.p rfl)) rfl ?_
  refine WL.nil ?_
  refine WC.condT' rfl (by first | rfl | (simp; done) | (simp; omega)) ?_
  refine WC.region ?_
  refine WL.val (V.move (OV.p rfl)) rfl ?_
  refine WL.val (V.nilCheck (OV.p rfl)) rfl ?_
  refine WL.val (V.fieldAddr fo92_8 (OV.p rfl)) rfl ?_
  refine WL.store (cs := [_]) Tryz.sizeOf4 (OV.p rfl) (OV.p rfl) rfl rfl rfl (by repeat (first | exact Upd.here rfl rfl | apply Upd.up)) ?_
  refine WL.nil ?_
  exact BodyQ.ret (H' := C.on.A bc :: F) (Res.none rfl) (fun w h => Sat.all (l := C.on.parts bc) h) rfl
theorem chip_Up : Tells Tryz.prog 71 #[ptr bc 0] K (C.A bc :: F) (.bool C.up) := by
  refine Does.openC ?_
  dsimp only [Cw.parts, List.cons_append, List.nil_append]
  refine Does.enter Tryz.func71 rfl Tryz.ntmps71 rfl ?_
  simp only [env0, Nat.reduceAdd]
  refine WC.sr ?_
  refine WL.val (V.assign (OV.p rfl)) rfl ?_
  refine WL.nil ?_
  refine WC.sr ?_
  refine WL.val (V.move (OV.p rfl)) rfl ?_
  refine WL.call (vs := [_]) Tryz.call101 ⟨OV.p rfl, trivial⟩ (chip_ready (C := C) (by repeat (first | exact Rds.all | apply Rds.up))) rfl ?_
  rintro _ H0 ⟨rfl, h0⟩
  subst H0
  refine WL.val (V.eql (OV.p rfl) (OV.p rfl)) rfl ?_
  refine WL.val (V.assign (OV.p rfl)) rfl ?_
  refine WL.nil ?_
  refine WC.ret ?_
  refine BodyQ.ret (H' := C.A bc :: F) (Res.tmp rfl rfl) (fun w h => Sat.all (l := C.parts bc) h) ⟨?_, rfl⟩
  show Value.bool (decide ((if C.up then (0 : Int) else 70) = 0)) = _
  cases C.up <;> rfl
theorem chip_Bad (b : Int) : Tells Tryz.prog 48 #[ptr bc 0, .int .i64 b] K (C.A bc :: F) (.bool (C.sem.bad b)) := by
  refine Does.openC ?_
  dsimp only [Cw.parts, List.cons_append, List.nil_append]
  refine Does.enter Tryz.func48 rfl Tryz.ntmps48 rfl ?_
  simp only [env0, Nat.reduceAdd]
  refine WC.sr ?_
  refine WL.val (V.assign (OV.p rfl)) rfl ?_
  refine WL.nil ?_
  refine WC.sr ?_
  refine WL.val (V.move (OV.p rfl)) rfl ?_
  refine WL.call (vs := [_]) Tryz.call101 ⟨OV.p rfl, trivial⟩ (chip_ready (C := C) (by repeat (first | exact Rds.all | apply Rds.up))) rfl ?_
  rintro _ H0 ⟨rfl, h0⟩
  subst H0
  refine WL.val (V.eql (OV.p rfl) (OV.p rfl)) rfl ?_
  refine WL.val (V.move (OV.p rfl)) rfl ?_
  refine WL.valG (oj := _) rfl rfl rfl GC.t (V.move (OV.p rfl)) rfl ?_
  refine WL.valG (oj := _) rfl rfl rfl GC.t (V.nilCheck (OV.g rfl id)) rfl ?_
  refine WL.valG (oj := _) rfl rfl rfl GC.t (V.fieldAddr fo92_5 (OV.g rfl id)) rfl ?_
  refine WL.valG (oj := _) rfl rfl rfl GC.t (V.load Tryz.isAgg90 (OV.g rfl id) (fun _ => by repeat (first | exact Rd.here rfl | apply Rd.up))) rfl ?_
  refine WL.valG (oj := _) rfl rfl rfl GC.t (V.move (OV.p rfl)) rfl ?_
  refine WL.valG (oj := _) rfl rfl rfl GC.t (V.val_eq (v' := .bool _) (V.lookup (k := _) Tryz.underlying90 Tryz.zeroValue4 kl3 (OV.g rfl id) (OV.g rfl id) (fun _ => by repeat (first | exact RdM.here | apply RdM.up))) (fun _ => boolF_get _ _)) rfl ?_
  refine WL.val (V.pickAnd (OV.p rfl) (OV.g rfl id)) rfl ?_
  refine WL.val (V.assign (OV.p rfl)) rfl ?_
  refine WL.nil ?_
  refine WC.ret ?_
  refine BodyQ.ret (H' := C.A bc :: F) (Res.tmp rfl rfl) (fun w h => Sat.all (l := C.parts bc) h) ⟨?_, rfl⟩
  show Value.bool (decide ((if C.up then (0 : Int) else 70) = 0) && C.marked b) = Value.bool (C.up && C.marked b)
  cases C.up <;> rfl
theorem chip_Geometry : Tells Tryz.prog 56 #[ptr bc 0] K (C.A bc :: F) C.g.v := by
  refine Does.openC ?_
  dsimp only [Cw.parts, List.cons_append, List.nil_append]
  refine Does.enter Tryz.func56 rfl Tryz.ntmps56 rfl ?_
  simp only [env0, Nat.reduceAdd]
  refine WC.sr ?_
  refine WL.alloc (cs := [(.int .i64 0), (.int .i64 0), (.int .i64 0), (.int .i64 0), (.int .i64 0)]) Tryz.zeroValue23 rfl rfl (fun b2 => ?_)
  refine WL.nil ?_
  refine WC.seq ?_
  refine WC.sr ?_
  refine WL.val (V.move (OV.p rfl)) rfl ?_
  refine WL.val (V.eqlP Tryz.underlying27 (OV.p rfl) (OV.p rfl)) rfl ?_
  refine WL.nil ?_
  refine WC.condF' rfl (by first | rfl | (simp; done) | (simp; omega)) ?_
  refine WC.skip ?_
  refine WC.sr ?_
  refine WL.val (V.move (OV.p rfl)) rfl ?_
  refine WL.val (V.nilCheck (OV.p rfl)) rfl ?_
  refine WL.val (V.fieldAddr fo92_0 (OV.p rfl)) rfl ?_
  refine WL.val (V.loadA (vs := [_, _, _, _, _]) ⟨Tryz.isAgg23, Tryz.sizeOf23⟩ (OV.p rfl) rfl (fun _ => by repeat (first | exact Rds.gets ⟨rfl, rfl, rfl, rfl, rfl, trivial⟩ | apply Rds.up))) rfl ?_
  refine WL.store (cs := [_, _, _, _, _]) Tryz.sizeOf23 (OV.p rfl) (OV.p rfl) rfl rfl rfl (by repeat (first | exact Upd.here (cs' := [_, _, _, _, _]) rfl rfl | apply Upd.up)) ?_
  refine WL.nil ?_
  refine WC.ret ?_
  exact BodyQ.ret (H' := C.A bc :: F) (Res.one rfl (R1.cellA (vs := [_, _, _, _, _]) rfl ⟨Tryz.isAgg23, Tryz.sizeOf23⟩ rfl (by repeat (first | exact Rds.gets ⟨rfl, rfl, rfl, rfl, rfl, trivial⟩ | apply Rds.up)))) (fun w h => Sat.all (l := C.parts bc) h.tail) ⟨rfl, rfl⟩
end
end Go.Proofs.YtohkefolnmcjnaaGreat
