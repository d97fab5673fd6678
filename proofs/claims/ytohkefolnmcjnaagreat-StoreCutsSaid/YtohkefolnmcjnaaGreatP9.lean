import Derived.Test.YtohkefolnmcjnaaGreatP8
namespace Go.Proofs.YtohkefolnmcjnaaGreat
open Go.Sl Go.RowKit
set_option linter.unusedVariables false
set_option linter.unusedSimpArgs false
set_option maxRecDepth 20000
namespace Cw
def putPage (C : Cw) (k : Int × Int) (e : Option Addr × Nat × List Int) (own : List Assn) : Cw := { C with pages := fun q => if q = k then some e else C.pages q, own := own }
def putNext (C : Cw) (b x : Int) : Cw := { C with next := C.next.set b.toNat x }
theorem pagesF_put (C : Cw) (k : Int × Int) (e : Option Addr × Nat × List Int) (own : List Assn) : (C.putPage k e own).pagesF = upd C.pagesF k (some (sliceOf e)) := by
  funext q
  show (if q = k then some e else C.pages q).map sliceOf = if q = k then some (sliceOf e) else (C.pages q).map sliceOf
  split <;> rfl
theorem Ok.deed {C : Cw} (h : C.Ok) : C.deed.Ok := ⟨h.mays, h.page, h.wr, h.len, h.next, by
  have := h.left
  show 0 ≤ (if C.left = 0 then 0 else C.left - 1) ∧ (if C.left = 0 then 0 else C.left - 1) ≤ 9223372036854775807
  split <;> omega⟩
theorem Ok.putPage {C : Cw} (h : C.Ok) {k : Int × Int} {e : Option Addr × Nat × List Int} {own : List Assn} (hup : ∀ K w, Sat K w [AllA own] → Sat K w [AllA C.own]) (h1 : SeqIn own e.1 e.2.2.length 1 (ints .u8 e.2.2)) (h2 : (e.2.2.length : Int) = C.g.raw) (h3 : IsBytes e.2.2) :
    (C.putPage k e own).Ok := by
  refine ⟨h.mays, fun p e' hp => ?_, fun p e' hp => ⟨(h.wr p e' hp).1.mono hup, (h.wr p e' hp).2⟩, h.len, h.next, h.left⟩
  have hp' : (if p = k then some e else C.pages p) = some e' := hp
  split at hp'
  · injection hp' with hp'; subst hp'; exact ⟨h1, h2, h3⟩
  · have := h.page p e' hp'; exact ⟨this.1.mono hup, this.2⟩
theorem Ok.putNext {C : Cw} (h : C.Ok) {b x : Int} (hx : 0 ≤ x ∧ x ≤ C.g.pg) : (C.putNext b x).Ok := by
  refine ⟨h.mays, h.page, h.wr, ?_, fun y hy => ?_, h.left⟩
  · show ((C.next.set b.toNat x).length : Int) = C.g.bl
    rw [List.length_set]; exact h.len
  · rcases List.mem_or_eq_of_mem_set hy with h1 | h1
    · exact h.next y h1
    · subst h1; exact hx
theorem sem_put (C : Cw) (k : Int × Int) (e : Option Addr × Nat × List Int) (own : List Assn) : (C.putPage k e own).sem = { C.sem with pages := Chip.upds C.sem.pages k (some e.2.2) } := by
  unfold sem putPage
  simp only [Chip.mk.injEq, true_and, and_true]
  funext q
  show (if q = k then some e else C.pages q).map (·.2.2) = if q = k then some e.2.2 else (C.pages q).map (·.2.2)
  split <;> rfl
theorem sem_putNext (C : Cw) (b x : Int) : (C.putNext b x).sem = { C.sem with next := C.sem.setNext b x } := rfl
theorem up_own (A : Assn) (l : List Assn) : ∀ K w, Sat K w [AllA (A :: l)] → Sat K w [AllA l] := fun K w h => Sat.all (l := l) (H := []) h.unall.tail
end Cw
theorem fold_put {bc bo : Nat} {C : Cw} {b p x : Int} {bytes : List Int} {nx vs : List Value} {K w : World} {F : List Assn} (hvs : vs = ints .u8 bytes) (hn : bytes.length = C.g.raw.toNat) (hnx : nx = ints .i64 (C.next.set b.toNat x))
    (h : Sat K w (Cells bc 92 C.cells :: Cells bo 5 vs :: MapA C.bp key120 (upd C.pagesF (b, p) (some (.slice (some ⟨bo, 0, none⟩) C.g.raw.toNat C.g.raw.toNat))) :: MapA C.bw key120 C.wrongF :: Cells C.bn 3 nx
      :: MapA C.bm key3 (boolF C.marked) :: MapA C.bk key3 (boolF C.weak) :: AllA C.own :: F)) :
    Sat K w (((C.putPage (b, p) (some ⟨bo, 0, none⟩, C.g.raw.toNat, bytes) (Cells bo 5 (ints .u8 bytes) :: C.own)).putNext b x).A bc :: F) := by
  subst hvs hnx
  have h1 := (h.sel 8 [1, 7, 0, 2, 3, 4, 5, 6] rfl).absorb
  have h2 := h1.sel 7 [1, 2, 3, 4, 5, 6, 0] rfl
  have e1 : ((C.putPage (b, p) (some ⟨bo, 0, none⟩, C.g.raw.toNat, bytes) (Cells bo 5 (ints .u8 bytes) :: C.own)).putNext b x).pagesF = upd C.pagesF (b, p) (some (.slice (some ⟨bo, 0, none⟩) C.g.raw.toNat C.g.raw.toNat)) := by
    refine (Cw.pagesF_put C (b, p) (some ⟨bo, 0, none⟩, C.g.raw.toNat, bytes) (Cells bo 5 (ints .u8 bytes) :: C.own)).trans ?_
    unfold Cw.sliceOf
    rw [hn]
  refine Sat.all (l := Cw.parts bc _) ?_
  unfold Cw.parts
  rw [e1]
  have e2 : ((C.putPage (b, p) (some ⟨bo, 0, none⟩, C.g.raw.toNat, bytes) (Cells bo 5 (ints .u8 bytes) :: C.own)).putNext b x).cells = C.cells := by
    unfold Cw.cells Cw.putNext Cw.putPage
    simp
  rw [e2]
  exact h2
theorem ok_put {bo : Nat} {C : Cw} (hC : C.Ok) {b p x : Int} {bytes : List Int} (hn : bytes.length = C.g.raw.toNat) (hb : IsBytes bytes) (hx : 0 ≤ x ∧ x ≤ C.g.pg) :
    ((C.putPage (b, p) (some ⟨bo, 0, none⟩, C.g.raw.toNat, bytes) (Cells bo 5 (ints .u8 bytes) :: C.own)).putNext b x).Ok := by
  have hr := Geo.raw_bd hC.mays
  refine Cw.Ok.putNext (hC.putPage (Cw.up_own _ _) (SeqIn.here fun K => Seq.allI rfl) (by show (bytes.length : Int) = _; omega) hb) hx
theorem chip_Program {bc : Nat} {C : Cw} (hC : C.Ok) {B : Option Addr} {m cap : Nat} {xs : List Int} (b p : Int) (hx : IsBytes xs) {K : World} {F : List Assn} (hs : Seq K F B m 1 (ints .u8 xs)) (hcap : m ≤ cap) :
    Does Tryz.prog 77 #[ptr bc 0, .int .i64 b, .int .i64 p, .slice B m cap] K (C.A bc :: F)
      (fun v H' => ∃ C' : Cw, C'.Ok ∧ H' = C'.A bc :: F ∧ C'.sem = (C.sem.program b p xs).1 ∧ v = .int .i64 (C.sem.program b p xs).2) := by
  have hl : xs.length = m := by simpa [ints] using hs.len
  have hlen := hC.len
  have hlen' : (C.deed.next.length : Int) = C.g.bl := hC.len
  have hm := hC.mays
  unfold Geo.mays at hm
  have hr := Geo.raw_bd hC.mays
  refine Does.openC ?_
  dsimp only [Cw.parts, List.cons_append, List.nil_append]
  refine Does.enter Tryz.func77 rfl Tryz.ntmps77 rfl ?_
  simp only [env0, Nat.reduceAdd]
  refine WC.sr ?_
  refine WL.sg rfl rfl ?_
  refine WL.nil ?_
  refine WC.seq ?_
  refine WC.sr ?_
  refine WL.mv rfl rfl ?_
  refine WL.call (vs := [_]) Tryz.call101 ⟨OV.p rfl, trivial⟩ (chip_ready (C := C) (by repeat (first | exact Rds.all | apply Rds.up))) rfl ?_
  rintro _ H0 ⟨rfl, h0⟩
  subst H0
  refine WL.sg rfl rfl ?_
  refine WL.nil ?_
  refine WC.sr ?_
  refine WL.mv rfl rfl ?_
  refine WL.val (V.neq (OV.p rfl) (OV.p rfl)) rfl ?_
  refine WL.nil ?_
  refine WC.cond rfl (fun hc0 => ?_) (fun hc0 => ?_)
  ·skip
   have hup : C.up = false := by cases h : C.up <;> simp [Chip.ready, Cw.sem, h] at hc0 ⊢
   refine WC.sr ?_
   refine WL.mv rfl rfl ?_
   refine WL.sg rfl rfl ?_
   refine WL.nil ?_
   refine WC.ret ?_
   have e1 : C.sem.program b p xs = (C.sem, 70) := by unfold Chip.program; rw [if_pos (show C.sem.up = false from hup)]
   rw [e1]
   exact BodyQ.ret (H' := C.A bc :: F) (Res.tmp rfl rfl) (fun w h => Sat.all (l := C.parts bc) h) ⟨C, hC, rfl, rfl, by unfold Chip.ready; rw [if_neg (by show ¬ C.up = true; rw [hup]; decide)]⟩
  ·skip
   have hup : C.up = true := by cases h : C.up <;> simp [Chip.ready, Cw.sem, h] at hc0 ⊢
   refine WC.skip ?_
   refine WC.seq ?_
   refine WC.block ?_
   refine WC.sr ?_
   refine WL.mv rfl rfl ?_
   refine WL.mv rfl rfl ?_
   refine WL.mv rfl rfl ?_
   refine WL.call (vs := [_, _, _]) Tryz.call80 ⟨OV.p rfl, OV.p rfl, OV.p rfl, trivial⟩ (chip_page (C := C) b p (by repeat (first | exact Rds.all | apply Rds.up))) rfl ?_
   rintro _ H0 ⟨rfl, h0⟩
   subst H0
   refine WL.val (V.not (OV.p rfl)) rfl ?_
   refine WL.mv rfl rfl ?_
   refine WL.valG (oj := _) rfl rfl rfl GC.f (V.move (OV.p rfl)) rfl ?_
   refine WL.valG (oj := _) rfl rfl rfl GC.f (V.len (t := 38) Tryz.runUnderlying38 (OV.g rfl id)) rfl ?_
   refine WL.valG (oj := _) rfl rfl rfl GC.f (V.move (OV.p rfl)) rfl ?_
   refine WL.valG (oj := _) rfl rfl rfl GC.f (V.nilCheck (OV.g rfl id)) rfl ?_
   refine WL.valG (oj := _) rfl rfl rfl GC.f (V.fieldAddr fo92_1 (OV.g rfl id)) rfl ?_
   refine WL.valG (oj := _) rfl rfl rfl GC.f (V.load Tryz.isAgg3 (OV.g rfl id) (fun _ => by repeat (first | exact Rd.here rfl | apply Rd.up))) rfl ?_
   refine WL.valG (oj := _) rfl rfl rfl GC.f (V.neq (OV.g rfl id) (OV.g rfl id)) rfl ?_
   refine WL.val (V.pickOr (OV.p rfl) (OV.g rfl id)) rfl ?_
   refine WL.sg rfl rfl ?_
   refine WL.nil ?_
   refine WC.cond rfl (fun hc1 => ?_) (fun hc1 => ?_)
   ·simp only [decide_eq_true_eq, decide_eq_false_iff_not, Bool.and_eq_true, Bool.or_eq_true, Bool.and_eq_false_iff, Bool.or_eq_false_iff, Bool.not_eq_true', Bool.not_eq_false', Bool.not_eq_true, Bool.not_eq_false, decide_eq_true_eq, decide_eq_false_iff_not] at hc1
    have e1 : C.sem.program b p xs = (C.sem, 1) := by
      unfold Chip.program; rw [if_neg (by show ¬ C.up = false; rw [hup]; decide), if_pos (by rw [hl]; exact hc1)]
    refine WC.sr ?_
    refine WL.sg rfl rfl ?_
    refine WL.nil ?_
    refine WC.ret ?_
    rw [e1]
    exact BodyQ.ret (H' := C.A bc :: F) (Res.tmp rfl rfl) (fun w h => Sat.all (l := C.parts bc) h) ⟨C, hC, rfl, rfl, rfl⟩
   ·simp only [decide_eq_true_eq, decide_eq_false_iff_not, Bool.and_eq_true, Bool.or_eq_true, Bool.and_eq_false_iff, Bool.or_eq_false_iff, Bool.not_eq_true', Bool.not_eq_false', Bool.not_eq_true, Bool.not_eq_false, decide_eq_true_eq, decide_eq_false_iff_not] at hc1
    obtain ⟨hpage, hraw⟩ := hc1
    have hpg : 0 ≤ b ∧ b < C.g.bl ∧ 0 ≤ p ∧ p < C.g.pg := by
      have h := hpage
      simp only [Chip.page, Chip.block, Bool.and_eq_true, decide_eq_true_eq] at h
      exact ⟨h.1.1.1, h.1.1.2, h.1.2, h.2⟩
    have hk : C.sem.kept m = min (max C.keep 0) m := rfl
    have hnx : 0 ≤ C.sem.nextOf b ∧ C.sem.nextOf b ≤ C.g.pg := by
      have h1 : C.sem.nextOf b = C.next.getD b.toNat 0 := rfl
      have h2 : b.toNat < C.next.length := by omega
      rw [h1, List.getD, List.getElem?_eq_getElem h2]
      exact hC.next _ (List.getElem_mem h2)
    have hget : (ints .i64 C.next)[0 + b.toNat * 1]? = some (.int .i64 (C.sem.nextOf b)) := by
      rw [Nat.zero_add, Nat.mul_one]; exact ints_getD _ _ (by omega)
    refine WC.sr ?_
    refine WL.mv rfl rfl ?_
    refine WL.mv rfl rfl ?_
    refine WL.nc rfl rfl ?_
    refine WL.val (V.fieldAddr fo92_4 (OV.p rfl)) rfl ?_
    refine WL.ld Tryz.isAgg42 rfl rfl ?_
    refine WL.mv rfl rfl ?_
    refine WL.val (V.idxB st42 (OV.p rfl) (OV.p rfl) (fun hc => by first | omega | (simp at hc; omega))) rfl ?_
    refine WL.val (V.load Tryz.isAgg3 (OV.p rfl) (fun _ => by repeat (first | exact Rd.here hget | apply Rd.up))) rfl ?_
    refine WL.val (V.neq (OV.p rfl) (OV.p rfl)) rfl ?_
    refine WL.sg rfl rfl ?_
    refine WL.nil ?_
    refine WC.cond rfl (fun hc2 => ?_) (fun hc2 => ?_)
    ·simp only [decide_eq_true_eq, decide_eq_false_iff_not, Bool.and_eq_true, Bool.or_eq_true, Bool.and_eq_false_iff, Bool.or_eq_false_iff, Bool.not_eq_true', Bool.not_eq_false', Bool.not_eq_true, Bool.not_eq_false, decide_eq_true_eq, decide_eq_false_iff_not] at hc2
     have h2 := hc2
     refine WC.sr ?_
     refine WL.sg rfl rfl ?_
     refine WL.nil ?_
     refine WC.ret ?_
     have e1 : C.sem.program b p xs = (C.sem, 71) := by
       unfold Chip.program; rw [if_neg (by show ¬ C.up = false; rw [hup]; decide), if_neg (by rw [hl, hpage]; rintro (h | h); cases h; exact h hraw), if_pos h2]
     rw [e1]
     exact BodyQ.ret (H' := C.A bc :: F) (Res.tmp rfl rfl) (fun w h => Sat.all (l := C.parts bc) h) ⟨C, hC, rfl, rfl, rfl⟩
    ·simp only [decide_eq_true_eq, decide_eq_false_iff_not, Bool.and_eq_true, Bool.or_eq_true, Bool.and_eq_false_iff, Bool.or_eq_false_iff, Bool.not_eq_true', Bool.not_eq_false', Bool.not_eq_true, Bool.not_eq_false, decide_eq_true_eq, decide_eq_false_iff_not] at hc2
     have h2 := hc2
     refine WC.skip ?_
     refine WC.sr ?_
     refine WL.mv rfl rfl ?_
     refine WL.call (vs := [_]) Tryz.call114 ⟨OV.p rfl, trivial⟩ (chip_blank (C := C) hC.mays (by repeat (first | exact Rds.all | apply Rds.up))) rfl ?_
     rintro _ _ ⟨bo, rfl, rfl⟩
     refine WL.sg rfl rfl ?_
     refine WL.nil ?_
     refine WC.sr ?_
     refine WL.mv rfl rfl ?_
     refine WL.sub (Sub.refl _) (fun w h => h.p1) ?_
     refine WL.call (vs := [_]) Tryz.call115 ⟨OV.p rfl, trivial⟩ (chip_deed (C := C) hC.left) rfl ?_
     rintro _ _ ⟨rfl, rfl⟩
     refine WL.sg rfl rfl ?_
     refine WL.nil ?_
     refine WC.seq ?_
     refine WC.block ?_
     refine WC.sr ?_
     refine WL.mv rfl rfl ?_
     refine WL.sg rfl rfl ?_
     refine WL.nil ?_
     refine WC.cond rfl (fun hc3 => ?_) (fun hc3 => ?_)
     ·skip
      have h3 := hc3
      refine WC.region ?_
      refine WL.mv rfl rfl ?_
      refine WL.mv rfl rfl ?_
      refine WL.mv rfl rfl ?_
      refine WL.nc rfl rfl ?_
      refine WL.val (V.fieldAddr fo92_10 (OV.p rfl)) rfl ?_
      refine WL.ld Tryz.isAgg3 rfl rfl ?_
      refine WL.val (V.max (OV.p rfl) (OV.p rfl)) rfl ?_
      refine WL.mv rfl rfl ?_
      refine WL.val (V.len (t := 38) Tryz.runUnderlying38 (OV.p rfl)) rfl ?_
      refine WL.val (V.min (OV.p rfl) (OV.p rfl)) rfl ?_
      refine WL.val (V.slice (h := (C.sem.kept m).toNat) st38 (OV.p rfl) OO.none (OO.some (OV.p rfl) (fun _ => by show min (max C.keep 0) (m : Int) = _; rw [hk]; omega)) OO.none (by simp) (Nat.zero_le _) (by rw [hk]; omega) (Nat.le_refl _)) rfl ?_
      refine WL.copySeq st38 (OV.p rfl) (OV.p rfl) (news := ints .u8 (xs.take (C.sem.kept m).toNat)) (by rw [sub0, ← ints_take]; exact Seq.take (by repeat (first | exact hs | apply Seq.up)) (by rw [hk]; omega)) (by rw [hk]; omega) (ints_one _ _) (Upd.up (Upd.front (by simp [ints]; rw [hk]; omega))) rfl ?_
      refine WL.nil ?_
      refine WC.sr ?_
      refine WL.mv rfl rfl ?_
      refine WL.nc rfl rfl ?_
      refine WL.val (V.fieldAddr fo92_2 (OV.p rfl)) rfl ?_
      refine WL.ld Tryz.isAgg88 rfl rfl ?_
      refine WL.mv rfl rfl ?_
      refine WL.mv rfl rfl ?_
      refine WL.val (V.build (vs := [(0, _), (1, _)]) ⟨OV.p rfl, OV.p rfl, trivial⟩ rfl (bld120_0_1 _ _)) rfl ?_
      refine WL.mv rfl rfl ?_
      refine WL.mapUpdateR (k := (_, _)) Tryz.underlying88 kl120 (OV.p rfl) (OV.p rfl) (OV.p rfl) (by repeat (first | exact Repl.here | apply Repl.up)) ?_
      refine WL.nil ?_
      refine WC.sr ?_
      refine WL.mv rfl rfl ?_
      refine WL.nc rfl rfl ?_
      refine WL.val (V.fieldAddr fo92_4 (OV.p rfl)) rfl ?_
      refine WL.ld Tryz.isAgg42 rfl rfl ?_
      refine WL.mv rfl rfl ?_
      refine WL.val (V.idxB st42 (OV.p rfl) (OV.p rfl) (fun hc => by first | omega | (simp at hc; omega))) rfl ?_
      refine WL.val (V.load Tryz.isAgg3 (OV.p rfl) (fun _ => by repeat (first | exact Rd.here hget | apply Rd.up))) rfl ?_
      refine WL.ad rfl rfl rfl ?_
      refine WL.val (V.idxB st42 (OV.p rfl) (OV.p rfl) (fun hc => by first | omega | (simp at hc; omega))) rfl ?_
      refine WL.store (cs := [_]) Tryz.sizeOf3 (OV.p rfl) (OV.p rfl) rfl rfl rfl (by repeat (first | exact Upd.at_ (by rw [Nat.zero_add, Nat.mul_one, ints_length]; omega) | apply Upd.up)) ?_
      refine WL.nil ?_
      refine WC.sr ?_
      refine WL.mv rfl rfl ?_
      refine WL.mv rfl rfl ?_
      refine WL.call (vs := [_, _]) Tryz.call116 ⟨OV.p rfl, OV.p rfl, trivial⟩ (chip_after _ _) rfl ?_
      rintro _ H0 ⟨rfl, h0⟩
      subst H0
      refine WL.sg rfl rfl ?_
      refine WL.nil ?_
      refine WC.ret ?_
      have hn1 : ¬ C.sem.up = false := by show ¬ C.up = false; rw [hup]; decide
      have hn2 : ¬ (C.sem.page b p = false ∨ (xs.length : Int) ≠ C.sem.raw) := by rw [hl, hpage]; rintro (h | h); cases h; exact h hraw
      have hn3 : ¬ p ≠ C.sem.nextOf b := by rw [h2]; exact fun h => h rfl
      have hbl : C.sem.blank.length = C.g.raw.toNat := List.length_replicate
      cases hcut : C.sem.cut with
      | true =>
        have e1 : C.sem.program b p xs = ({ C.sem.deed with pages := Chip.upds C.sem.deed.pages (b, p) (some (xs.take (C.sem.kept xs.length).toNat ++ C.sem.blank.drop (C.sem.kept xs.length).toNat)), next := C.sem.deed.setNext b (p + 1) }, 70) := by
          unfold Chip.program; rw [if_neg hn1, if_neg hn2, if_neg hn3, if_pos hcut]
        first
          | (exfalso; exact Bool.noConfusion (h3.symm.trans hcut))
          | (rw [hl] at e1
             rw [e1]
             have hlen2 : (xs.take (C.sem.kept m).toNat ++ C.sem.blank.drop (C.sem.kept m).toNat).length = C.g.raw.toNat := by
               rw [List.length_append, List.length_take, List.length_drop, hbl, hl, hk]; omega
             refine BodyQ.ret (H' := Cw.A bc ((C.deed.putPage (b, p) (some ⟨bo, 0, none⟩, C.g.raw.toNat, xs.take (C.sem.kept m).toNat ++ C.sem.blank.drop (C.sem.kept m).toNat) (Cells bo 5 (ints .u8 (xs.take (C.sem.kept m).toNat ++ C.sem.blank.drop (C.sem.kept m).toNat)) :: C.own)).putNext b (p + 1)) :: F)
               (Res.tmp rfl rfl) (fun w h => fold_put (C := C.deed) ?_ hlen2 ?_ h) ⟨_, ok_put (C := C.deed) hC.deed hlen2 ((hx.take _).append ((IsBytes.repl (by omega)).drop _)) (by show 0 ≤ p + 1 ∧ p + 1 ≤ C.g.pg; omega), rfl, ?_, ?_⟩
             · rw [ints_append, ← ints_drop, ints_length, List.length_take, hl, show min (C.sem.kept m).toNat m = (C.sem.kept m).toNat by rw [hk]; omega]; rfl
             · rw [Nat.zero_add, Nat.mul_one, ints_set, ← h2]; rfl
             · rw [Cw.sem_putNext, Cw.sem_put]; rfl
             · rfl)
      | false =>
        first
          | (exfalso; exact Bool.noConfusion (h3.symm.trans hcut))
          | (have e1 : C.sem.program b p xs = ({ C.sem.deed with pages := Chip.upds C.sem.deed.pages (b, p) (some xs), next := C.sem.deed.setNext b (p + 1) }, 0) := by
               unfold Chip.program; rw [if_neg hn1, if_neg hn2, if_neg hn3, if_neg (by rw [hcut]; decide), if_neg (by rw [show C.sem.weak b = false from h4]; decide)]
             rw [e1]
             have hlen2 : xs.length = C.g.raw.toNat := by omega
             refine BodyQ.ret (H' := Cw.A bc ((C.deed.putPage (b, p) (some ⟨bo, 0, none⟩, C.g.raw.toNat, xs) (Cells bo 5 (ints .u8 xs) :: C.own)).putNext b (p + 1)) :: F)
               (Res.tmp rfl rfl) (fun w h => fold_put (C := C.deed) ?_ hlen2 ?_ h) ⟨_, ok_put (C := C.deed) hC.deed hlen2 hx (by show 0 ≤ p + 1 ∧ p + 1 ≤ C.g.pg; omega), rfl, ?_, ?_⟩
             · rw [ints_drop, List.drop_eq_nil_of_le (by rw [ints_length, List.length_replicate]; omega)]; simp [ints]
             · rw [Nat.zero_add, Nat.mul_one, ints_set, ← h2]; rfl
             · rw [Cw.sem_putNext, Cw.sem_put]; rfl
             · rfl)
     ·skip
      have h3 := hc3
      refine WC.sr ?_
      refine WL.mv rfl rfl ?_
      refine WL.nc rfl rfl ?_
      refine WL.val (V.fieldAddr fo92_6 (OV.p rfl)) rfl ?_
      refine WL.ld Tryz.isAgg90 rfl rfl ?_
      refine WL.mv rfl rfl ?_
      refine WL.val (V.val_eq (v' := .bool _) (V.lookup (k := _) Tryz.underlying90 Tryz.zeroValue4 kl3 (OV.p rfl) (OV.p rfl) (fun _ => by repeat (first | exact RdM.here | apply RdM.up))) (fun _ => boolF_get _ _)) rfl ?_
      refine WL.sg rfl rfl ?_
      refine WL.nil ?_
      refine WC.cond rfl (fun hc4 => ?_) (fun hc4 => ?_)
      ·skip
       have h4 := hc4
       refine WC.sr ?_
       refine WL.sg rfl rfl ?_
       refine WL.nil ?_
       refine WC.ret ?_
       have e1 : C.sem.program b p xs = (C.sem.deed, 72) := by
         unfold Chip.program; rw [if_neg (by show ¬ C.up = false; rw [hup]; decide), if_neg (by rw [hl, hpage]; rintro (h | h); cases h; exact h hraw), if_neg (by rw [h2]; exact fun h => h rfl), if_neg (by rw [h3]; decide), if_pos (show C.sem.weak b = true from h4)]
       rw [e1]
       exact BodyQ.ret (H' := C.deed.A bc :: F) (Res.tmp rfl rfl) (fun w h => Sat.all (l := C.deed.parts bc) (h.sel 2 [0] rfl)) ⟨C.deed, hC.deed, rfl, rfl, rfl⟩
      ·skip
       have h4 := hc4
       refine WC.region ?_
       refine WL.mv rfl rfl ?_
       refine WL.mv rfl rfl ?_
       refine WL.copySeq st38 (OV.p rfl) (OV.p rfl) (by repeat (first | exact hs | apply Seq.up)) (by omega) (ints_one _ _) (Upd.up (Upd.front (by simp [ints]; omega))) rfl ?_
       refine WL.nil ?_
       refine WC.sr ?_
       refine WL.mv rfl rfl ?_
       refine WL.nc rfl rfl ?_
       refine WL.val (V.fieldAddr fo92_2 (OV.p rfl)) rfl ?_
       refine WL.ld Tryz.isAgg88 rfl rfl ?_
       refine WL.mv rfl rfl ?_
       refine WL.mv rfl rfl ?_
       refine WL.val (V.build (vs := [(0, _), (1, _)]) ⟨OV.p rfl, OV.p rfl, trivial⟩ rfl (bld120_0_1 _ _)) rfl ?_
       refine WL.mv rfl rfl ?_
       refine WL.mapUpdateR (k := (_, _)) Tryz.underlying88 kl120 (OV.p rfl) (OV.p rfl) (OV.p rfl) (by repeat (first | exact Repl.here | apply Repl.up)) ?_
       refine WL.nil ?_
       refine WC.sr ?_
       refine WL.mv rfl rfl ?_
       refine WL.nc rfl rfl ?_
       refine WL.val (V.fieldAddr fo92_4 (OV.p rfl)) rfl ?_
       refine WL.ld Tryz.isAgg42 rfl rfl ?_
       refine WL.mv rfl rfl ?_
       refine WL.val (V.idxB st42 (OV.p rfl) (OV.p rfl) (fun hc => by first | omega | (simp at hc; omega))) rfl ?_
       refine WL.val (V.load Tryz.isAgg3 (OV.p rfl) (fun _ => by repeat (first | exact Rd.here hget | apply Rd.up))) rfl ?_
       refine WL.ad rfl rfl rfl ?_
       refine WL.val (V.idxB st42 (OV.p rfl) (OV.p rfl) (fun hc => by first | omega | (simp at hc; omega))) rfl ?_
       refine WL.store (cs := [_]) Tryz.sizeOf3 (OV.p rfl) (OV.p rfl) rfl rfl rfl (by repeat (first | exact Upd.at_ (by rw [Nat.zero_add, Nat.mul_one, ints_length]; omega) | apply Upd.up)) ?_
       refine WL.nil ?_
       refine WC.sr ?_
       refine WL.mv rfl rfl ?_
       refine WL.mv rfl rfl ?_
       refine WL.call (vs := [_, _]) Tryz.call116 ⟨OV.p rfl, OV.p rfl, trivial⟩ (chip_after _ _) rfl ?_
       rintro _ H0 ⟨rfl, h0⟩
       subst H0
       refine WL.sg rfl rfl ?_
       refine WL.nil ?_
       refine WC.ret ?_
       have hn1 : ¬ C.sem.up = false := by show ¬ C.up = false; rw [hup]; decide
       have hn2 : ¬ (C.sem.page b p = false ∨ (xs.length : Int) ≠ C.sem.raw) := by rw [hl, hpage]; rintro (h | h); cases h; exact h hraw
       have hn3 : ¬ p ≠ C.sem.nextOf b := by rw [h2]; exact fun h => h rfl
       have hbl : C.sem.blank.length = C.g.raw.toNat := List.length_replicate
       cases hcut : C.sem.cut with
       | true =>
         have e1 : C.sem.program b p xs = ({ C.sem.deed with pages := Chip.upds C.sem.deed.pages (b, p) (some (xs.take (C.sem.kept xs.length).toNat ++ C.sem.blank.drop (C.sem.kept xs.length).toNat)), next := C.sem.deed.setNext b (p + 1) }, 70) := by
           unfold Chip.program; rw [if_neg hn1, if_neg hn2, if_neg hn3, if_pos hcut]
         first
           | (exfalso; exact Bool.noConfusion (h3.symm.trans hcut))
           | (rw [hl] at e1
              rw [e1]
              have hlen2 : (xs.take (C.sem.kept m).toNat ++ C.sem.blank.drop (C.sem.kept m).toNat).length = C.g.raw.toNat := by
                rw [List.length_append, List.length_take, List.length_drop, hbl, hl, hk]; omega
              refine BodyQ.ret (H' := Cw.A bc ((C.deed.putPage (b, p) (some ⟨bo, 0, none⟩, C.g.raw.toNat, xs.take (C.sem.kept m).toNat ++ C.sem.blank.drop (C.sem.kept m).toNat) (Cells bo 5 (ints .u8 (xs.take (C.sem.kept m).toNat ++ C.sem.blank.drop (C.sem.kept m).toNat)) :: C.own)).putNext b (p + 1)) :: F)
                (Res.tmp rfl rfl) (fun w h => fold_put (C := C.deed) ?_ hlen2 ?_ h) ⟨_, ok_put (C := C.deed) hC.deed hlen2 ((hx.take _).append ((IsBytes.repl (by omega)).drop _)) (by show 0 ≤ p + 1 ∧ p + 1 ≤ C.g.pg; omega), rfl, ?_, ?_⟩
              · rw [ints_append, ← ints_drop, ints_length, List.length_take, hl, show min (C.sem.kept m).toNat m = (C.sem.kept m).toNat by rw [hk]; omega]; rfl
              · rw [Nat.zero_add, Nat.mul_one, ints_set, ← h2]; rfl
              · rw [Cw.sem_putNext, Cw.sem_put]; rfl
              · rfl)
       | false =>
         first
           | (exfalso; exact Bool.noConfusion (h3.symm.trans hcut))
           | (have e1 : C.sem.program b p xs = ({ C.sem.deed with pages := Chip.upds C.sem.deed.pages (b, p) (some xs), next := C.sem.deed.setNext b (p + 1) }, 0) := by
                unfold Chip.program; rw [if_neg hn1, if_neg hn2, if_neg hn3, if_neg (by rw [hcut]; decide), if_neg (by rw [show C.sem.weak b = false from h4]; decide)]
              rw [e1]
              have hlen2 : xs.length = C.g.raw.toNat := by omega
              refine BodyQ.ret (H' := Cw.A bc ((C.deed.putPage (b, p) (some ⟨bo, 0, none⟩, C.g.raw.toNat, xs) (Cells bo 5 (ints .u8 xs) :: C.own)).putNext b (p + 1)) :: F)
                (Res.tmp rfl rfl) (fun w h => fold_put (C := C.deed) ?_ hlen2 ?_ h) ⟨_, ok_put (C := C.deed) hC.deed hlen2 hx (by show 0 ≤ p + 1 ∧ p + 1 ≤ C.g.pg; omega), rfl, ?_, ?_⟩
              · rw [ints_drop, List.drop_eq_nil_of_le (by rw [ints_length, List.length_replicate]; omega)]; simp [ints]
              · rw [Nat.zero_add, Nat.mul_one, ints_set, ← h2]; rfl
              · rw [Cw.sem_putNext, Cw.sem_put]; rfl
              · rfl)
end Go.Proofs.YtohkefolnmcjnaaGreat
namespace Go.Proofs.YtohkefolnmcjnaaGreat
open Go.Sl Go.RowKit
set_option linter.unusedVariables false
set_option linter.unusedSimpArgs false
set_option maxRecDepth 20000
namespace Cw
def on (C : Cw) : Cw := { C with up := true }
def off (C : Cw) : Cw := { C with up := false }
def arm (C : Cw) (n keep : Int) : Cw := { C with left := max n 0, keep := keep }
def weaken (C : Cw) (b : Int) : Cw := { C with weak := fun k => if k = b then true else C.weak k }
def mark (C : Cw) (b : Int) : Cw := { C with marked := fun k => if k = b then true else C.marked k }
variable {C : Cw} (h : C.Ok)
include h
theorem Ok.on : C.on.Ok := ⟨h.mays, h.page, h.wr, h.len, h.next, h.left⟩
theorem Ok.off : C.off.Ok := ⟨h.mays, h.page, h.wr, h.len, h.next, h.left⟩
theorem Ok.arm {n keep : Int} (hn : n ≤ 9223372036854775807) : (C.arm n keep).Ok := ⟨h.mays, h.page, h.wr, h.len, h.next, by show 0 ≤ max n 0 ∧ max n 0 ≤ 9223372036854775807; omega⟩
theorem Ok.weaken {b : Int} : (C.weaken b).Ok := ⟨h.mays, h.page, h.wr, h.len, h.next, h.left⟩
theorem Ok.mark {b : Int} : (C.mark b).Ok := ⟨h.mays, h.page, h.wr, h.len, h.next, h.left⟩
end Cw
section
variable {bc : Nat} {C : Cw} {K : World} {F : List Assn}
theorem chip_On : Does Tryz.prog 64 #[ptr bc 0] K (C.A bc :: F) (fun v H' => H' = C.on.A bc :: F) := by
  refine Does.openC ?_
  dsimp only [Cw.parts, List.cons_append, List.nil_append]
  refine Does.enter Tryz.func64 rfl Tryz.ntmps64 rfl ?_
  simp only [env0, Nat.reduceAdd]
  refine WC.sr ?_
  refine WL.mv rfl rfl ?_
  refine WL.val (V.neqP Tryz.underlying27 (OV.p rfl) (OV.p rfl)) rfl ?_
  refine WL.nil ?_
  refine WC.condT' rfl (by first | rfl | (simp; done) | (simp; omega)) ?_
  refine WC.region ?_
  refine WL.mv rfl rfl ?_
  refine WL.nc rfl rfl ?_
  refine WL.val (V.fieldAddr fo92_8 (OV.p rfl)) rfl ?_
  refine WL.store (cs := [_]) Tryz.sizeOf4 (OV.p rfl) (OV.p rfl) rfl rfl rfl (by repeat (first | exact Upd.here rfl rfl | apply Upd.up)) ?_
  refine WL.nil ?_
  exact BodyQ.ret (H' := C.on.A bc :: F) (Res.none rfl) (fun w h => Sat.all (l := C.on.parts bc) h) rfl
theorem chip_Arm (n keep : Int) : Does Tryz.prog 42 #[ptr bc 0, .int .i64 n, .int .i64 keep] K (C.A bc :: F) (fun v H' => H' = (C.arm n keep).A bc :: F) := by
  refine Does.openC ?_
  dsimp only [Cw.parts, List.cons_append, List.nil_append]
  refine Does.enter Tryz.func42 rfl Tryz.ntmps42 rfl ?_
  simp only [env0, Nat.reduceAdd]
  refine WC.sr ?_
  refine WL.mv rfl rfl ?_
  refine WL.val (V.neqP Tryz.underlying27 (OV.p rfl) (OV.p rfl)) rfl ?_
  refine WL.nil ?_
  refine WC.condT' rfl (by first | rfl | (simp; done) | (simp; omega)) ?_
  refine WC.region ?_
  refine WL.mv rfl rfl ?_
  refine WL.mv rfl rfl ?_
  refine WL.mv rfl rfl ?_
  refine WL.val (V.max (OV.p rfl) (OV.p rfl)) rfl ?_
  refine WL.mv rfl rfl ?_
  refine WL.nc rfl rfl ?_
  refine WL.val (V.fieldAddr fo92_9 (OV.p rfl)) rfl ?_
  refine WL.store (cs := [_]) Tryz.sizeOf3 (OV.p rfl) (OV.p rfl) rfl rfl rfl (by repeat (first | exact Upd.here rfl rfl | apply Upd.up)) ?_
  refine WL.nc rfl rfl ?_
  refine WL.val (V.fieldAddr fo92_10 (OV.p rfl)) rfl ?_
  refine WL.store (cs := [_]) Tryz.sizeOf3 (OV.p rfl) (OV.p rfl) rfl rfl rfl (by repeat (first | exact Upd.here rfl rfl | apply Upd.up)) ?_
  refine WL.nil ?_
  exact BodyQ.ret (H' := (C.arm n keep).A bc :: F) (Res.none rfl) (fun w h => Sat.all (l := (C.arm n keep).parts bc) h) rfl
theorem chip_Up : Tells Tryz.prog 71 #[ptr bc 0] K (C.A bc :: F) (.bool C.up) := by
  refine Does.openC ?_
  dsimp only [Cw.parts, List.cons_append, List.nil_append]
  refine Does.enter Tryz.func71 rfl Tryz.ntmps71 rfl ?_
  simp only [env0, Nat.reduceAdd]
  refine WC.sr ?_
  refine WL.sg rfl rfl ?_
  refine WL.nil ?_
  refine WC.sr ?_
  refine WL.mv rfl rfl ?_
  refine WL.call (vs := [_]) Tryz.call101 ⟨OV.p rfl, trivial⟩ (chip_ready (C := C) (by repeat (first | exact Rds.all | apply Rds.up))) rfl ?_
  rintro _ H0 ⟨rfl, h0⟩
  subst H0
  refine WL.val (V.eql (OV.p rfl) (OV.p rfl)) rfl ?_
  refine WL.sg rfl rfl ?_
  refine WL.nil ?_
  refine WC.ret ?_
  refine BodyQ.ret (H' := C.A bc :: F) (Res.tmp rfl rfl) (fun w h => Sat.all (l := C.parts bc) h) ⟨?_, rfl⟩
  show Value.bool (decide ((if C.up then (0 : Int) else 70) = 0)) = _
  cases C.up <;> rfl
theorem chip_Bad (b : Int) : Tells Tryz.prog 48 #[ptr bc 0, .int .i64 b] K (C.A bc :: F) (.bool (C.sem.bad b)) := by
  refine Does.openC ?_
  dsimp only [Cw.parts, List.cons_append, List.nil_append]
  refine Does.enter Tryz.func48 rfl Tryz.ntmps48 rfl ?_
  simp only [env0, Nat.reduceAdd]
  refine WC.sr ?_
  refine WL.sg rfl rfl ?_
  refine WL.nil ?_
  refine WC.sr ?_
  refine WL.mv rfl rfl ?_
  refine WL.call (vs := [_]) Tryz.call101 ⟨OV.p rfl, trivial⟩ (chip_ready (C := C) (by repeat (first | exact Rds.all | apply Rds.up))) rfl ?_
  rintro _ H0 ⟨rfl, h0⟩
  subst H0
  refine WL.val (V.eql (OV.p rfl) (OV.p rfl)) rfl ?_
  refine WL.mv rfl rfl ?_
  refine WL.valG (oj := _) rfl rfl rfl GC.t (V.move (OV.p rfl)) rfl ?_
  refine WL.valG (oj := _) rfl rfl rfl GC.t (V.nilCheck (OV.g rfl id)) rfl ?_
  refine WL.valG (oj := _) rfl rfl rfl GC.t (V.fieldAddr fo92_5 (OV.g rfl id)) rfl ?_
  refine WL.valG (oj := _) rfl rfl rfl GC.t (V.load Tryz.isAgg90 (OV.g rfl id) (fun _ => by repeat (first | exact Rd.here rfl | apply Rd.up))) rfl ?_
  refine WL.valG (oj := _) rfl rfl rfl GC.t (V.move (OV.p rfl)) rfl ?_
  refine WL.valG (oj := _) rfl rfl rfl GC.t (V.val_eq (v' := .bool _) (V.lookup (k := _) Tryz.underlying90 Tryz.zeroValue4 kl3 (OV.g rfl id) (OV.g rfl id) (fun _ => by repeat (first | exact RdM.here | apply RdM.up))) (fun _ => boolF_get _ _)) rfl ?_
  refine WL.val (V.pickAnd (OV.p rfl) (OV.g rfl id)) rfl ?_
  refine WL.sg rfl rfl ?_
  refine WL.nil ?_
  refine WC.ret ?_
  refine BodyQ.ret (H' := C.A bc :: F) (Res.tmp rfl rfl) (fun w h => Sat.all (l := C.parts bc) h) ⟨?_, rfl⟩
  show Value.bool (decide ((if C.up then (0 : Int) else 70) = 0) && C.marked b) = Value.bool (C.up && C.marked b)
  cases C.up <;> rfl
theorem chip_Weak (b : Int) : Does Tryz.prog 43 #[ptr bc 0, .int .i64 b] K (C.A bc :: F) (fun v H' => H' = (if C.sem.block b then C.weaken b else C).A bc :: F) := by
  refine Does.openC ?_
  dsimp only [Cw.parts, List.cons_append, List.nil_append]
  refine Does.enter Tryz.func43 rfl Tryz.ntmps43 rfl ?_
  simp only [env0, Nat.reduceAdd]
  refine WC.sr ?_
  refine WL.mv rfl rfl ?_
  refine WL.val (V.neqP Tryz.underlying27 (OV.p rfl) (OV.p rfl)) rfl ?_
  refine WL.mv rfl rfl ?_
  refine WL.valG (oj := _) rfl rfl rfl GC.t (V.move (OV.p rfl)) rfl ?_
  refine WL.valG (oj := _) rfl rfl rfl GC.t (V.move (OV.p rfl)) rfl ?_
  refine WL.callG (oj := _) (vs := [_, _]) rfl rfl rfl GC.t Tryz.call55 ⟨OV.g rfl id, OV.g rfl id, trivial⟩ (fun hg => chip_block (C := C) b (by repeat (first | exact Rds.all | apply Rds.up))) rfl ?_
  refine WL.val (V.pickAnd (OV.p rfl) (OV.g rfl id)) rfl ?_
  refine WL.nil ?_
  refine WC.cond rfl (fun hc0 => ?_) (fun hc0 => ?_)
  ·simp at hc0
   rw [if_pos (by simpa using hc0)]
   refine WC.region ?_
   refine WL.mv rfl rfl ?_
   refine WL.nc rfl rfl ?_
   refine WL.val (V.fieldAddr fo92_6 (OV.p rfl)) rfl ?_
   refine WL.ld Tryz.isAgg90 rfl rfl ?_
   refine WL.mv rfl rfl ?_
   refine WL.mapUpdateR (k := _) Tryz.underlying90 kl3 (OV.p rfl) (OV.p rfl) (OV.p rfl) (by repeat (first | exact Repl.here | apply Repl.up)) ?_
   refine WL.nil ?_
   first
   | exact BodyQ.ret (H' := C.A bc :: F) (Res.none rfl) (fun w h => Sat.all (l := C.parts bc) h) rfl
   | exact BodyQ.ret (H' := (C.weaken b).A bc :: F) (Res.none rfl) (fun w h => Sat.all (l := (C.weaken b).parts bc) (by rw [boolF_upd] at h; exact h)) rfl
  ·simp at hc0
   rw [if_neg (by simpa using hc0)]
   refine WC.skip ?_
   first
   | exact BodyQ.ret (H' := C.A bc :: F) (Res.none rfl) (fun w h => Sat.all (l := C.parts bc) h) rfl
   | exact BodyQ.ret (H' := (C.weaken b).A bc :: F) (Res.none rfl) (fun w h => Sat.all (l := (C.weaken b).parts bc) (by rw [boolF_upd] at h; exact h)) rfl
theorem chip_Geometry : Tells Tryz.prog 56 #[ptr bc 0] K (C.A bc :: F) C.g.v := by
  refine Does.openC ?_
  dsimp only [Cw.parts, List.cons_append, List.nil_append]
  refine Does.enter Tryz.func56 rfl Tryz.ntmps56 rfl ?_
  simp only [env0, Nat.reduceAdd]
  refine WC.sr ?_
  refine WL.alloc (cs := [(.int .i64 0), (.int .i64 0), (.int .i64 0), (.int .i64 0), (.int .i64 0)]) Tryz.zeroValue23 rfl rfl (fun b2 => ?_)
  refine WL.nil ?_
  refine WC.seq ?_
  refine WC.sr ?_
  refine WL.mv rfl rfl ?_
  refine WL.val (V.eqlP Tryz.underlying27 (OV.p rfl) (OV.p rfl)) rfl ?_
  refine WL.nil ?_
  refine WC.condF' rfl (by first | rfl | (simp; done) | (simp; omega)) ?_
  refine WC.skip ?_
  refine WC.sr ?_
  refine WL.mv rfl rfl ?_
  refine WL.nc rfl rfl ?_
  refine WL.val (V.fieldAddr fo92_0 (OV.p rfl)) rfl ?_
  refine WL.val (V.loadA (vs := [_, _, _, _, _]) ⟨Tryz.isAgg23, Tryz.sizeOf23⟩ (OV.p rfl) rfl (fun _ => by repeat (first | exact Rds.gets ⟨rfl, rfl, rfl, rfl, rfl, trivial⟩ | apply Rds.up))) rfl ?_
  refine WL.store (cs := [_, _, _, _, _]) Tryz.sizeOf23 (OV.p rfl) (OV.p rfl) rfl rfl rfl (by repeat (first | exact Upd.here (cs' := [_, _, _, _, _]) rfl rfl | apply Upd.up)) ?_
  refine WL.nil ?_
  refine WC.ret ?_
  exact BodyQ.ret (H' := C.A bc :: F) (Res.one rfl (R1.cellA (vs := [_, _, _, _, _]) rfl ⟨Tryz.isAgg23, Tryz.sizeOf23⟩ rfl (by repeat (first | exact Rds.gets ⟨rfl, rfl, rfl, rfl, rfl, trivial⟩ | apply Rds.up)))) (fun w h => Sat.all (l := C.parts bc) h.tail) ⟨rfl, rfl⟩
end
end Go.Proofs.YtohkefolnmcjnaaGreat
namespace Go.Proofs.YtohkefolnmcjnaaGreat
open Go.Sl Go.RowKit
set_option linter.unusedVariables false
set_option linter.unusedSimpArgs false
set_option maxRecDepth 20000
theorem upd_dropTo (f : Int × Int → Option Value) (b : Int) (i : Nat) : upd (Chip.dropTo f b i) (b, (i : Int)) none = Chip.dropTo f b ((i + 1 : Nat) : Int) := by
  funext q
  obtain ⟨x, y⟩ := q
  unfold upd Chip.dropTo
  simp only [Prod.mk.injEq]
  by_cases h1 : x = b ∧ y = i
  · rw [if_pos h1, if_pos (by omega)]
  · rw [if_neg h1]
    by_cases h2 : x = b ∧ 0 ≤ y ∧ y < (i : Int)
    · rw [if_pos h2, if_pos (by omega)]
    · rw [if_neg h2, if_neg (by omega)]
theorem dropTo_zero {α : Type} (f : Int × Int → Option α) (b : Int) : Chip.dropTo f b 0 = f := by
  funext q
  unfold Chip.dropTo
  rw [if_neg (by omega)]
namespace Cw
def dropTo (C : Cw) (b n : Int) : Cw := { C with pages := Chip.dropTo C.pages b n, wrong := Chip.dropTo C.wrong b n }
theorem dropTo_map {α β : Type} (f : Int × Int → Option α) (g : α → β) (b n : Int) : (fun p => (Chip.dropTo f b n p).map g) = Chip.dropTo (fun p => (f p).map g) b n := by
  funext q
  unfold Chip.dropTo
  split <;> rfl
theorem pagesF_drop (C : Cw) (b n : Int) : (C.dropTo b n).pagesF = Chip.dropTo C.pagesF b n := dropTo_map C.pages sliceOf b n
theorem wrongF_drop (C : Cw) (b n : Int) : (C.dropTo b n).wrongF = Chip.dropTo C.wrongF b n := dropTo_map C.wrong sliceOf b n
theorem sem_drop (C : Cw) (b n : Int) : (C.dropTo b n).sem = { C.sem with pages := Chip.dropTo C.sem.pages b n, wrong := Chip.dropTo C.sem.wrong b n } := by
  unfold sem dropTo
  simp only [dropTo_map]
theorem Ok.dropTo {C : Cw} (h : C.Ok) (b n : Int) : (C.dropTo b n).Ok := by
  have hd : ∀ {α : Type} (f : Int × Int → Option α) p e, Chip.dropTo f b n p = some e → f p = some e := fun f p e he => by
    unfold Chip.dropTo at he
    split at he
    · cases he
    · exact he
  exact ⟨h.mays, fun p e he => h.page p e (hd _ p e he), fun p e he => h.wr p e (hd _ p e he), h.len, h.next, h.left⟩
end Cw
theorem chip_Erase {bc : Nat} {C : Cw} (hC : C.Ok) (b : Int) {K : World} {F : List Assn} :
    Does Tryz.prog 107 #[ptr bc 0, .int .i64 b] K (C.A bc :: F)
      (fun v H' => ∃ C' : Cw, C'.Ok ∧ H' = C'.A bc :: F ∧ C'.sem = (C.sem.erase b).1 ∧ v = .int .i64 (C.sem.erase b).2) := by
  have hlen := hC.len
  have hlen' : (C.deed.next.length : Int) = C.g.bl := hC.len
  have hm := hC.mays
  unfold Geo.mays at hm
  refine Does.openC ?_
  dsimp only [Cw.parts, List.cons_append, List.nil_append]
  refine Does.enter Tryz.func107 rfl Tryz.ntmps107 rfl ?_
  simp only [env0, Nat.reduceAdd]
  refine WC.sr ?_
  refine WL.sg rfl rfl ?_
  refine WL.nil ?_
  refine WC.seq ?_
  refine WC.sr ?_
  refine WL.mv rfl rfl ?_
  refine WL.call (vs := [_]) Tryz.call101 ⟨OV.p rfl, trivial⟩ (chip_ready (C := C) (by repeat (first | exact Rds.all | apply Rds.up))) rfl ?_
  rintro _ H0 ⟨rfl, h0⟩
  subst H0
  refine WL.sg rfl rfl ?_
  refine WL.nil ?_
  refine WC.sr ?_
  refine WL.mv rfl rfl ?_
  refine WL.val (V.neq (OV.p rfl) (OV.p rfl)) rfl ?_
  refine WL.nil ?_
  refine WC.cond rfl (fun hc0 => ?_) (fun hc0 => ?_)
  ·skip
   have hup : C.up = false := by cases h : C.up <;> simp [Chip.ready, Cw.sem, h] at hc0 ⊢
   refine WC.sr ?_
   refine WL.mv rfl rfl ?_
   refine WL.sg rfl rfl ?_
   refine WL.nil ?_
   refine WC.ret ?_
   have e1 : C.sem.erase b = (C.sem, 70) := by unfold Chip.erase; rw [if_pos (show C.sem.up = false from hup)]
   rw [e1]
   exact BodyQ.ret (H' := C.A bc :: F) (Res.tmp rfl rfl) (fun w h => Sat.all (l := C.parts bc) h) ⟨C, hC, rfl, rfl, by unfold Chip.ready; rw [if_neg (by show ¬ C.up = true; rw [hup]; decide)]⟩
  ·skip
   have hup : C.up = true := by cases h : C.up <;> simp [Chip.ready, Cw.sem, h] at hc0 ⊢
   refine WC.skip ?_
   refine WC.seq ?_
   refine WC.sr ?_
   refine WL.mv rfl rfl ?_
   refine WL.mv rfl rfl ?_
   refine WL.call (vs := [_, _]) Tryz.call55 ⟨OV.p rfl, OV.p rfl, trivial⟩ (chip_block (C := C) b (by repeat (first | exact Rds.all | apply Rds.up))) rfl ?_
   rintro _ H0 ⟨rfl, h0⟩
   subst H0
   refine WL.val (V.not (OV.p rfl)) rfl ?_
   refine WL.nil ?_
   refine WC.cond rfl (fun hc1 => ?_) (fun hc1 => ?_)
   ·simp only [decide_eq_true_eq, decide_eq_false_iff_not, Bool.and_eq_true, Bool.or_eq_true, Bool.and_eq_false_iff, Bool.or_eq_false_iff, Bool.not_eq_true', Bool.not_eq_false', Bool.not_eq_true, Bool.not_eq_false, decide_eq_true_eq, decide_eq_false_iff_not] at hc1
    refine WC.sr ?_
    refine WL.sg rfl rfl ?_
    refine WL.nil ?_
    refine WC.ret ?_
    have e1 : C.sem.erase b = (C.sem, 1) := by unfold Chip.erase; rw [if_neg (by show ¬ C.up = false; rw [hup]; decide), if_pos hc1]
    rw [e1]
    exact BodyQ.ret (H' := C.A bc :: F) (Res.tmp rfl rfl) (fun w h => Sat.all (l := C.parts bc) h) ⟨C, hC, rfl, rfl, rfl⟩
   ·simp only [decide_eq_true_eq, decide_eq_false_iff_not, Bool.and_eq_true, Bool.or_eq_true, Bool.and_eq_false_iff, Bool.or_eq_false_iff, Bool.not_eq_true', Bool.not_eq_false', Bool.not_eq_true, Bool.not_eq_false, decide_eq_true_eq, decide_eq_false_iff_not] at hc1
    have hbl : 0 ≤ b ∧ b < C.g.bl := by
      have h := hc1
      simp only [Chip.block, Bool.and_eq_true, decide_eq_true_eq] at h
      exact h
    refine WC.skip ?_
    refine WC.sr ?_
    refine WL.mv rfl rfl ?_
    refine WL.nc rfl rfl ?_
    refine WL.val (V.fieldAddr fo92_0 (OV.p rfl)) rfl ?_
    refine WL.val (V.fieldAddr fo23_1 (OV.p rfl)) rfl ?_
    refine WL.ld Tryz.isAgg3 rfl rfl ?_
    refine WL.sg rfl rfl ?_
    refine WL.nil ?_
    refine WC.sr ?_
    refine WL.mv rfl rfl ?_
    refine WL.call (vs := [_]) Tryz.call115 ⟨OV.p rfl, trivial⟩ (chip_deed (C := C) hC.left) rfl ?_
    rintro _ _ ⟨rfl, rfl⟩
    refine WL.sg rfl rfl ?_
    refine WL.nil ?_
    refine WC.seq ?_
    refine WC.block ?_
    refine WC.sr ?_
    refine WL.mv rfl rfl ?_
    refine WL.sg rfl rfl ?_
    refine WL.nil ?_
    refine WC.cond rfl (fun hc2 => ?_) (fun hc2 => ?_)
    ·skip
     have h2 := hc2
     refine WC.region ?_
     refine WL.mv rfl rfl ?_
     refine WL.nc rfl rfl ?_
     refine WL.val (V.fieldAddr fo92_10 (OV.p rfl)) rfl ?_
     refine WL.ld Tryz.isAgg3 rfl rfl ?_
     refine WL.val (V.max (OV.p rfl) (OV.p rfl)) rfl ?_
     refine WL.mv rfl rfl ?_
     refine WL.val (V.min (OV.p rfl) (OV.p rfl)) rfl ?_
     refine WL.sg rfl rfl ?_
     refine WL.nil ?_
     refine WC.seq ?_
     refine WC.seq ?_
     first
     | refine WC.toInvE (α := Int × List Int) (fun x => 0 ≤ x.1 ∧ x.1 ≤ C.g.pg ∧ ((C.sem.cut = true ∧ x.1 = C.sem.kept C.g.pg ∧ x.2 = C.next) ∨ (C.sem.cut = false ∧ C.sem.weak b = false ∧ x.1 = C.g.pg ∧ x.2 = C.next.set b.toNat 0))) (fun x => [(0, ptr bc 0), (1, .int .i64 b), (6, .int .i64 x.1), (7, .bool C.sem.cut)]) (fun x => Cells bc 92 C.deed.cells :: MapA C.bp key120 C.pagesF :: MapA C.bw key120 C.wrongF :: Cells C.bn 3 (ints .i64 x.2) :: MapA C.bm key3 (boolF C.marked) :: MapA C.bk key3 (boolF C.weak) :: AllA C.own :: F) (C.sem.kept C.g.pg, C.next) ⟨by show 0 ≤ min (max C.keep 0) C.g.pg; omega, by show min (max C.keep 0) C.g.pg ≤ C.g.pg; omega, .inl ⟨h2, rfl, rfl⟩⟩ (.cons rfl (.cons rfl (.cons rfl (.cons rfl (.nil _))))) (fun w h => h) (fun x hx => ?_)
     | refine WC.toInvE (α := Int × List Int) (fun x => 0 ≤ x.1 ∧ x.1 ≤ C.g.pg ∧ ((C.sem.cut = true ∧ x.1 = C.sem.kept C.g.pg ∧ x.2 = C.next) ∨ (C.sem.cut = false ∧ C.sem.weak b = false ∧ x.1 = C.g.pg ∧ x.2 = C.next.set b.toNat 0))) (fun x => [(0, ptr bc 0), (1, .int .i64 b), (6, .int .i64 x.1), (7, .bool C.sem.cut)]) (fun x => Cells bc 92 C.deed.cells :: MapA C.bp key120 C.pagesF :: MapA C.bw key120 C.wrongF :: Cells C.bn 3 (ints .i64 x.2) :: MapA C.bm key3 (boolF C.marked) :: MapA C.bk key3 (boolF C.weak) :: AllA C.own :: F) (C.g.pg, C.next.set b.toNat 0) ⟨by omega, Int.le_refl _, .inr ⟨h2, h3, rfl, rfl⟩⟩ (.cons rfl (.cons rfl (.cons rfl (.cons rfl (.nil _))))) (fun w h => by rw [Nat.zero_add, Nat.mul_one, ints_set] at h; exact h) (fun x hx => ?_)
     obtain ⟨n, nx⟩ := x
     obtain ⟨hn0, hn1, hx⟩ := hx
     dsimp only at hn0 hn1 hx ⊢
     refine WC.region ?_
     refine WL.mv rfl rfl ?_
     refine WL.mv rfl rfl ?_
     refine WL.nil ?_
     refine WC.block ?_
     refine WC.loop (σ := Nat) (fun i => [(0, ptr bc 0), (1, .int .i64 b), (7, .bool C.sem.cut), (47, .int .i64 n), (48, .int .i64 (i : Int))]) (fun i => Cells bc 92 C.deed.cells :: MapA C.bp key120 (Chip.dropTo C.pagesF b i) :: MapA C.bw key120 (Chip.dropTo C.wrongF b i) :: Cells C.bn 3 (ints .i64 nx) :: MapA C.bm key3 (boolF C.marked) :: MapA C.bk key3 (boolF C.weak) :: AllA C.own :: F) (fun i => (i : Int) ≤ n) (fun i => n.toNat - i) 0 (by show ((0 : Nat) : Int) ≤ n; omega) (.cons rfl (.cons rfl (.cons rfl (.cons rfl (.cons rfl (.nil _)))))) (fun w h => by rw [show ((0 : Nat) : Int) = 0 from rfl, dropTo_zero, dropTo_zero]; exact h) ?_
     rintro i hi
     refine WC.sr ?_
     refine WL.val (V.lss (OV.p rfl) (OV.p rfl)) rfl ?_
     refine WL.nil ?_
     refine WC.seq ?_
     refine WC.cond rfl (fun hc4 => ?_) (fun hc4 => ?_)
     ·try simp only [decide_eq_true_eq, decide_eq_false_iff_not, Bool.and_eq_true, Bool.or_eq_true, Bool.and_eq_false_iff, Bool.or_eq_false_iff, Bool.not_eq_true', Bool.not_eq_false', Bool.not_eq_true, Bool.not_eq_false, Int.not_lt, Int.not_le] at hc4
      refine WC.skip ?_
      refine WC.seq ?_
      refine WC.block ?_
      refine WC.sr ?_
      refine WL.mv rfl rfl ?_
      refine WL.sg rfl rfl ?_
      refine WL.nil ?_
      refine WC.sr ?_
      refine WL.mv rfl rfl ?_
      refine WL.nc rfl rfl ?_
      refine WL.val (V.fieldAddr fo92_2 (OV.p rfl)) rfl ?_
      refine WL.ld Tryz.isAgg88 rfl rfl ?_
      refine WL.mv rfl rfl ?_
      refine WL.mv rfl rfl ?_
      refine WL.val (V.build (vs := [(0, _), (1, _)]) ⟨OV.p rfl, OV.p rfl, trivial⟩ rfl (bld120_0_1 _ _)) rfl ?_
      refine WL.delete0R (k := (_, _)) Tryz.underlying88 kl120 (OV.p rfl) (OV.p rfl) (by repeat (first | exact Repl.here | apply Repl.up)) ?_
      refine WL.nil ?_
      refine WC.region ?_
      refine WL.mv rfl rfl ?_
      refine WL.nc rfl rfl ?_
      refine WL.val (V.fieldAddr fo92_3 (OV.p rfl)) rfl ?_
      refine WL.ld Tryz.isAgg89 rfl rfl ?_
      refine WL.mv rfl rfl ?_
      refine WL.mv rfl rfl ?_
      refine WL.val (V.build (vs := [(0, _), (1, _)]) ⟨OV.p rfl, OV.p rfl, trivial⟩ rfl (bld120_0_1 _ _)) rfl ?_
      refine WL.delete0R (k := (_, _)) Tryz.underlying89 kl120 (OV.p rfl) (OV.p rfl) (by repeat (first | exact Repl.here | apply Repl.up)) ?_
      refine WL.nil ?_
      refine WC.region ?_
      refine WL.ad rfl rfl rfl ?_
      refine WL.mv rfl rfl ?_
      refine WL.nil ?_
      refine ⟨rfl, ?_⟩
      refine ⟨i + 1, (by show ((i + 1 : Nat) : Int) ≤ n; omega), (by show n.toNat - (i + 1) < n.toNat - i; omega), .cons rfl (.cons rfl (.cons rfl (.cons rfl (.cons (look_eq rfl (by simp)) (.nil _))))), fun w h => ?_⟩
      rw [upd_dropTo, upd_dropTo] at h
      exact h
     ·try simp only [decide_eq_true_eq, decide_eq_false_iff_not, Bool.and_eq_true, Bool.or_eq_true, Bool.and_eq_false_iff, Bool.or_eq_false_iff, Bool.not_eq_true', Bool.not_eq_false', Bool.not_eq_true, Bool.not_eq_false, Int.not_lt, Int.not_le] at hc4
      refine WC.exit ?_
      refine WC.sr ?_
      refine WL.mv rfl rfl ?_
      refine WL.mv rfl rfl ?_
      refine WL.call (vs := [_, _]) Tryz.call116 ⟨OV.p rfl, OV.p rfl, trivial⟩ (chip_after _ _) rfl ?_
      rintro _ H0 ⟨rfl, h0⟩
      subst H0
      refine WL.sg rfl rfl ?_
      refine WL.nil ?_
      refine WC.ret ?_
      obtain rfl : n = (i : Int) := by omega
      have hu : ¬ C.sem.up = false := by show ¬ C.up = false; rw [hup]; decide
      have hb' : ¬ C.sem.block b = false := by rw [hc1]; decide
      rcases hx with ⟨hcut, hn, rfl⟩ | ⟨hcut, hw, hn, rfl⟩
      · have e1 : C.sem.erase b = ({ C.sem.deed with pages := Chip.dropTo C.sem.deed.pages b i, wrong := Chip.dropTo C.sem.deed.wrong b i }, 70) := by
          unfold Chip.erase; rw [if_neg hu, if_neg hb', if_pos hcut, hn]; rfl
        rw [e1, hcut]
        refine BodyQ.ret (H' := (C.deed.dropTo b i).A bc :: F) (Res.tmp rfl rfl) (fun w h => Sat.all (l := (C.deed.dropTo b i).parts bc) ?_) ⟨_, hC.deed.dropTo b i, rfl, Cw.sem_drop _ _ _, rfl⟩
        unfold Cw.parts
        rw [Cw.pagesF_drop, Cw.wrongF_drop]
        exact h
      · have e1 : C.sem.erase b = ({ C.sem.deed with pages := Chip.dropTo C.sem.deed.pages b i, wrong := Chip.dropTo C.sem.deed.wrong b i, next := C.sem.deed.setNext b 0 }, 0) := by
          unfold Chip.erase; rw [if_neg hu, if_neg hb', if_neg (by rw [hcut]; decide), if_neg (by rw [hw]; decide), hn]; rfl
        rw [e1, hcut]
        refine BodyQ.ret (H' := ((C.deed.dropTo b i).putNext b 0).A bc :: F) (Res.tmp rfl rfl) (fun w h => Sat.all (l := ((C.deed.dropTo b i).putNext b 0).parts bc) ?_) ⟨_, (hC.deed.dropTo b i).putNext (by show (0 : Int) ≤ 0 ∧ 0 ≤ C.g.pg; omega), rfl, ?_, rfl⟩
        · unfold Cw.parts
          rw [show ((C.deed.dropTo b i).putNext b 0).pagesF = _ from Cw.pagesF_drop C.deed b i, show ((C.deed.dropTo b i).putNext b 0).wrongF = _ from Cw.wrongF_drop C.deed b i]
          have e2 : ((C.deed.dropTo b i).putNext b 0).cells = C.deed.cells := by
            unfold Cw.cells Cw.putNext Cw.dropTo
            simp
          rw [e2]
          exact h
        · rw [Cw.sem_putNext, Cw.sem_drop]; rfl
    ·skip
     have h2 := hc2
     refine WC.sr ?_
     refine WL.mv rfl rfl ?_
     refine WL.nc rfl rfl ?_
     refine WL.val (V.fieldAddr fo92_6 (OV.p rfl)) rfl ?_
     refine WL.ld Tryz.isAgg90 rfl rfl ?_
     refine WL.mv rfl rfl ?_
     refine WL.val (V.val_eq (v' := .bool _) (V.lookup (k := _) Tryz.underlying90 Tryz.zeroValue4 kl3 (OV.p rfl) (OV.p rfl) (fun _ => by repeat (first | exact RdM.here | apply RdM.up))) (fun _ => boolF_get _ _)) rfl ?_
     refine WL.sg rfl rfl ?_
     refine WL.nil ?_
     refine WC.cond rfl (fun hc3 => ?_) (fun hc3 => ?_)
     ·skip
      have h3 := hc3
      refine WC.sr ?_
      refine WL.sg rfl rfl ?_
      refine WL.nil ?_
      refine WC.ret ?_
      have e1 : C.sem.erase b = (C.sem.deed, 72) := by unfold Chip.erase; rw [if_neg (by show ¬ C.up = false; rw [hup]; decide), if_neg (by rw [hc1]; decide), if_neg (by rw [h2]; decide), if_pos (show C.sem.weak b = true from h3)]
      rw [e1]
      exact BodyQ.ret (H' := C.deed.A bc :: F) (Res.tmp rfl rfl) (fun w h => Sat.all (l := C.deed.parts bc) h) ⟨C.deed, hC.deed, rfl, rfl, rfl⟩
     ·skip
      have h3 := hc3
      refine WC.region ?_
      refine WL.mv rfl rfl ?_
      refine WL.nc rfl rfl ?_
      refine WL.val (V.fieldAddr fo92_4 (OV.p rfl)) rfl ?_
      refine WL.ld Tryz.isAgg42 rfl rfl ?_
      refine WL.mv rfl rfl ?_
      refine WL.val (V.idxB st42 (OV.p rfl) (OV.p rfl) (fun hc => by first | omega | (simp at hc; omega))) rfl ?_
      refine WL.store (cs := [_]) Tryz.sizeOf3 (OV.p rfl) (OV.p rfl) rfl rfl rfl (by repeat (first | exact Upd.at_ (by rw [Nat.zero_add, Nat.mul_one, ints_length]; omega) | apply Upd.up)) ?_
      refine WL.nil ?_
      refine WC.seq ?_
      refine WC.seq ?_
      first
      | refine WC.toInvE (α := Int × List Int) (fun x => 0 ≤ x.1 ∧ x.1 ≤ C.g.pg ∧ ((C.sem.cut = true ∧ x.1 = C.sem.kept C.g.pg ∧ x.2 = C.next) ∨ (C.sem.cut = false ∧ C.sem.weak b = false ∧ x.1 = C.g.pg ∧ x.2 = C.next.set b.toNat 0))) (fun x => [(0, ptr bc 0), (1, .int .i64 b), (6, .int .i64 x.1), (7, .bool C.sem.cut)]) (fun x => Cells bc 92 C.deed.cells :: MapA C.bp key120 C.pagesF :: MapA C.bw key120 C.wrongF :: Cells C.bn 3 (ints .i64 x.2) :: MapA C.bm key3 (boolF C.marked) :: MapA C.bk key3 (boolF C.weak) :: AllA C.own :: F) (C.sem.kept C.g.pg, C.next) ⟨by show 0 ≤ min (max C.keep 0) C.g.pg; omega, by show min (max C.keep 0) C.g.pg ≤ C.g.pg; omega, .inl ⟨h2, rfl, rfl⟩⟩ (.cons rfl (.cons rfl (.cons rfl (.cons rfl (.nil _))))) (fun w h => h) (fun x hx => ?_)
      | refine WC.toInvE (α := Int × List Int) (fun x => 0 ≤ x.1 ∧ x.1 ≤ C.g.pg ∧ ((C.sem.cut = true ∧ x.1 = C.sem.kept C.g.pg ∧ x.2 = C.next) ∨ (C.sem.cut = false ∧ C.sem.weak b = false ∧ x.1 = C.g.pg ∧ x.2 = C.next.set b.toNat 0))) (fun x => [(0, ptr bc 0), (1, .int .i64 b), (6, .int .i64 x.1), (7, .bool C.sem.cut)]) (fun x => Cells bc 92 C.deed.cells :: MapA C.bp key120 C.pagesF :: MapA C.bw key120 C.wrongF :: Cells C.bn 3 (ints .i64 x.2) :: MapA C.bm key3 (boolF C.marked) :: MapA C.bk key3 (boolF C.weak) :: AllA C.own :: F) (C.g.pg, C.next.set b.toNat 0) ⟨by omega, Int.le_refl _, .inr ⟨h2, h3, rfl, rfl⟩⟩ (.cons rfl (.cons rfl (.cons rfl (.cons rfl (.nil _))))) (fun w h => by rw [Nat.zero_add, Nat.mul_one, ints_set] at h; exact h) (fun x hx => ?_)
      obtain ⟨n, nx⟩ := x
      obtain ⟨hn0, hn1, hx⟩ := hx
      dsimp only at hn0 hn1 hx ⊢
      refine WC.region ?_
      refine WL.mv rfl rfl ?_
      refine WL.mv rfl rfl ?_
      refine WL.nil ?_
      refine WC.block ?_
      refine WC.loop (σ := Nat) (fun i => [(0, ptr bc 0), (1, .int .i64 b), (7, .bool C.sem.cut), (47, .int .i64 n), (48, .int .i64 (i : Int))]) (fun i => Cells bc 92 C.deed.cells :: MapA C.bp key120 (Chip.dropTo C.pagesF b i) :: MapA C.bw key120 (Chip.dropTo C.wrongF b i) :: Cells C.bn 3 (ints .i64 nx) :: MapA C.bm key3 (boolF C.marked) :: MapA C.bk key3 (boolF C.weak) :: AllA C.own :: F) (fun i => (i : Int) ≤ n) (fun i => n.toNat - i) 0 (by show ((0 : Nat) : Int) ≤ n; omega) (.cons rfl (.cons rfl (.cons rfl (.cons rfl (.cons rfl (.nil _)))))) (fun w h => by rw [show ((0 : Nat) : Int) = 0 from rfl, dropTo_zero, dropTo_zero]; exact h) ?_
      rintro i hi
      refine WC.sr ?_
      refine WL.val (V.lss (OV.p rfl) (OV.p rfl)) rfl ?_
      refine WL.nil ?_
      refine WC.seq ?_
      refine WC.cond rfl (fun hc4 => ?_) (fun hc4 => ?_)
      ·try simp only [decide_eq_true_eq, decide_eq_false_iff_not, Bool.and_eq_true, Bool.or_eq_true, Bool.and_eq_false_iff, Bool.or_eq_false_iff, Bool.not_eq_true', Bool.not_eq_false', Bool.not_eq_true, Bool.not_eq_false, Int.not_lt, Int.not_le] at hc4
       refine WC.skip ?_
       refine WC.seq ?_
       refine WC.block ?_
       refine WC.sr ?_
       refine WL.mv rfl rfl ?_
       refine WL.sg rfl rfl ?_
       refine WL.nil ?_
       refine WC.sr ?_
       refine WL.mv rfl rfl ?_
       refine WL.nc rfl rfl ?_
       refine WL.val (V.fieldAddr fo92_2 (OV.p rfl)) rfl ?_
       refine WL.ld Tryz.isAgg88 rfl rfl ?_
       refine WL.mv rfl rfl ?_
       refine WL.mv rfl rfl ?_
       refine WL.val (V.build (vs := [(0, _), (1, _)]) ⟨OV.p rfl, OV.p rfl, trivial⟩ rfl (bld120_0_1 _ _)) rfl ?_
       refine WL.delete0R (k := (_, _)) Tryz.underlying88 kl120 (OV.p rfl) (OV.p rfl) (by repeat (first | exact Repl.here | apply Repl.up)) ?_
       refine WL.nil ?_
       refine WC.region ?_
       refine WL.mv rfl rfl ?_
       refine WL.nc rfl rfl ?_
       refine WL.val (V.fieldAddr fo92_3 (OV.p rfl)) rfl ?_
       refine WL.ld Tryz.isAgg89 rfl rfl ?_
       refine WL.mv rfl rfl ?_
       refine WL.mv rfl rfl ?_
       refine WL.val (V.build (vs := [(0, _), (1, _)]) ⟨OV.p rfl, OV.p rfl, trivial⟩ rfl (bld120_0_1 _ _)) rfl ?_
       refine WL.delete0R (k := (_, _)) Tryz.underlying89 kl120 (OV.p rfl) (OV.p rfl) (by repeat (first | exact Repl.here | apply Repl.up)) ?_
       refine WL.nil ?_
       refine WC.region ?_
       refine WL.ad rfl rfl rfl ?_
       refine WL.mv rfl rfl ?_
       refine WL.nil ?_
       refine ⟨rfl, ?_⟩
       refine ⟨i + 1, (by show ((i + 1 : Nat) : Int) ≤ n; omega), (by show n.toNat - (i + 1) < n.toNat - i; omega), .cons rfl (.cons rfl (.cons rfl (.cons rfl (.cons (look_eq rfl (by simp)) (.nil _))))), fun w h => ?_⟩
       rw [upd_dropTo, upd_dropTo] at h
       exact h
      ·try simp only [decide_eq_true_eq, decide_eq_false_iff_not, Bool.and_eq_true, Bool.or_eq_true, Bool.and_eq_false_iff, Bool.or_eq_false_iff, Bool.not_eq_true', Bool.not_eq_false', Bool.not_eq_true, Bool.not_eq_false, Int.not_lt, Int.not_le] at hc4
       refine WC.exit ?_
       refine WC.sr ?_
       refine WL.mv rfl rfl ?_
       refine WL.mv rfl rfl ?_
       refine WL.call (vs := [_, _]) Tryz.call116 ⟨OV.p rfl, OV.p rfl, trivial⟩ (chip_after _ _) rfl ?_
       rintro _ H0 ⟨rfl, h0⟩
       subst H0
       refine WL.sg rfl rfl ?_
       refine WL.nil ?_
       refine WC.ret ?_
       obtain rfl : n = (i : Int) := by omega
       have hu : ¬ C.sem.up = false := by show ¬ C.up = false; rw [hup]; decide
       have hb' : ¬ C.sem.block b = false := by rw [hc1]; decide
       rcases hx with ⟨hcut, hn, rfl⟩ | ⟨hcut, hw, hn, rfl⟩
       · have e1 : C.sem.erase b = ({ C.sem.deed with pages := Chip.dropTo C.sem.deed.pages b i, wrong := Chip.dropTo C.sem.deed.wrong b i }, 70) := by
           unfold Chip.erase; rw [if_neg hu, if_neg hb', if_pos hcut, hn]; rfl
         rw [e1, hcut]
         refine BodyQ.ret (H' := (C.deed.dropTo b i).A bc :: F) (Res.tmp rfl rfl) (fun w h => Sat.all (l := (C.deed.dropTo b i).parts bc) ?_) ⟨_, hC.deed.dropTo b i, rfl, Cw.sem_drop _ _ _, rfl⟩
         unfold Cw.parts
         rw [Cw.pagesF_drop, Cw.wrongF_drop]
         exact h
       · have e1 : C.sem.erase b = ({ C.sem.deed with pages := Chip.dropTo C.sem.deed.pages b i, wrong := Chip.dropTo C.sem.deed.wrong b i, next := C.sem.deed.setNext b 0 }, 0) := by
           unfold Chip.erase; rw [if_neg hu, if_neg hb', if_neg (by rw [hcut]; decide), if_neg (by rw [hw]; decide), hn]; rfl
         rw [e1, hcut]
         refine BodyQ.ret (H' := ((C.deed.dropTo b i).putNext b 0).A bc :: F) (Res.tmp rfl rfl) (fun w h => Sat.all (l := ((C.deed.dropTo b i).putNext b 0).parts bc) ?_) ⟨_, (hC.deed.dropTo b i).putNext (by show (0 : Int) ≤ 0 ∧ 0 ≤ C.g.pg; omega), rfl, ?_, rfl⟩
         · unfold Cw.parts
           rw [show ((C.deed.dropTo b i).putNext b 0).pagesF = _ from Cw.pagesF_drop C.deed b i, show ((C.deed.dropTo b i).putNext b 0).wrongF = _ from Cw.wrongF_drop C.deed b i]
           have e2 : ((C.deed.dropTo b i).putNext b 0).cells = C.deed.cells := by
             unfold Cw.cells Cw.putNext Cw.dropTo
             simp
           rw [e2]
           exact h
         · rw [Cw.sem_putNext, Cw.sem_drop]; rfl
end Go.Proofs.YtohkefolnmcjnaaGreat
