import Derived.Test.YtohkefolnmcjnaaGreatP11
import Derived.Test.YtohkefolnmcjnaaGreatP8
/- slices.Clone; the chip: Force. -/
namespace Go.Proofs.YtohkefolnmcjnaaGreat
open Go.Sl Go.RowKit
set_option linter.unusedVariables false
set_option linter.unusedSimpArgs false
set_option maxRecDepth 20000

theorem clone_bytes {A : Option Addr} {m cap : Nat} {xs : List Int} {K : World} {F : List Assn} (hs : Seq K F A m 1 (ints .u8 xs)) (hm : m ≤ 1000000) :
    Does Tryz.prog 110 #[.slice A m cap] K F (fun v H' => ∃ A' cap', v = .slice A' m cap' ∧ H' = SlA (.slice A' m cap') 5 1 m (ints .u8 xs) :: F) := by
  have hl : xs.length = m := by simpa [ints] using hs.len
  refine Does.have_ (p := A = none → xs = []) (fun w hw hA => by subst hA; simpa [ints] using hs.none_nil hw) (fun hnil => ?_)
  refine Does.enter Tryz.func110 rfl Tryz.ntmps110 rfl ?_
  simp only [env0, Nat.reduceAdd]
  refine WC.seq ?_
  refine WC.region ?_
  refine WL.val (V.assign (OV.p rfl)) rfl ?_
  refine WL.nil ?_
  refine WC.seq ?_
  refine WC.seq ?_
  refine WC.region ?_
  refine WL.val (V.move (OV.p rfl)) rfl ?_
  refine WL.val (V.eqlNil Tryz.underlying38 (OV.p rfl)) rfl ?_
  refine WL.nil ?_
  refine WC.cond rfl (fun hc0 => ?_) (fun hc0 => ?_)
  · skip
    have hA : A = none := by cases A <;> simp at hc0 ⊢
    subst hA
    have hx := hnil rfl
    subst hx
    obtain rfl : m = 0 := hl.symm
    refine WC.seq ?_
    refine WC.region ?_
    refine WL.val (V.assign (OV.p rfl)) rfl ?_
    refine WL.nil ?_
    refine WC.ret ?_
    exact BodyQ.ret (H' := SlA (.slice none 0 0) _ 1 0 [] :: F) (Res.tmp rfl rfl) (fun w h => Sat.slNil h _ _) ⟨none, 0, rfl, rfl⟩
  · skip
    refine WC.skip ?_
    refine WC.seq ?_
    refine WC.region ?_
    refine WL.buildSlice (E := 5) (cs := []) (vs := []) trivial rfl (bsl38_0 ) rfl (fun b5 => ?_)
    refine WL.val (V.move (OV.p rfl)) rfl ?_
    refine WL.sub (Sub.refl _) (fun w h => Sat.toSl (m := 0) (cap := 0) (s := 1) h rfl (Nat.le_refl _) (Nat.zero_le _)) ?_
    refine WL.append (m := 0) (cs := []) Tryz.underlying38 el5 (OV.p rfl) (OV.p rfl) (by repeat (first | exact hs | apply Seq.up)) (ints_one _ _) (by omega) rfl rfl (fun A' c' hn' hc' => ?_)
    refine WL.val (V.assign (OV.p rfl)) rfl ?_
    refine WL.nil ?_
    refine WC.ret ?_
    refine BodyQ.ret (H' := SlA (.slice A' m c') _ 1 m (ints .u8 xs) :: F) (Res.tmp rfl (look_eq rfl (by simp))) (fun w h => ?_) ⟨A', c', rfl, rfl⟩
    simpa using h

namespace Cw
def dropWrong (C : Cw) (k : Int × Int) : Cw := { C with wrong := fun q => if q = k then none else C.wrong q }
theorem wrongF_dropW (C : Cw) (k : Int × Int) : (C.dropWrong k).wrongF = upd C.wrongF k none := by
  funext q
  show (if q = k then none else C.wrong q).map sliceOf = if q = k then none else (C.wrong q).map sliceOf
  split <;> rfl
theorem sem_dropW (C : Cw) (k : Int × Int) : (C.dropWrong k).sem = { C.sem with wrong := Chip.upds C.sem.wrong k none } := by
  unfold sem dropWrong
  simp only [Chip.mk.injEq, true_and, and_true]
  funext q
  show (if q = k then none else C.wrong q).map (·.2.2) = if q = k then none else (C.wrong q).map (·.2.2)
  split <;> rfl
theorem Ok.dropWrong {C : Cw} (h : C.Ok) (k : Int × Int) : (C.dropWrong k).Ok := by
  refine ⟨h.mays, h.page, fun p e hp => ?_, h.len, h.next, h.left⟩
  have hp' : (if p = k then none else C.wrong p) = some e := hp
  split at hp'
  · cases hp'
  · exact h.wr p e hp'
end Cw

theorem chip_Force {bc : Nat} {C : Cw} (hC : C.Ok) {B : Option Addr} {m cap : Nat} {xs : List Int} (b p : Int) (hx : IsBytes xs) {K : World} {F : List Assn} (hs : Seq K F B m 1 (ints .u8 xs)) :
    Does Tryz.prog 66 #[ptr bc 0, .int .i64 b, .int .i64 p, .slice B m cap] K (C.A bc :: F)
      (fun v H' => ∃ C' : Cw, C'.Ok ∧ H' = C'.A bc :: F ∧ C'.sem = (C.sem.force b p xs).1 ∧ v = .int .i64 (C.sem.force b p xs).2) := by
  have hl : xs.length = m := by simpa [ints] using hs.len
  have hlen := hC.len
  have hr := Geo.raw_bd hC.mays
  have hm := hC.mays
  unfold Geo.mays at hm
  refine Does.openC ?_
  dsimp only [Cw.parts, List.cons_append, List.nil_append]
  refine Does.enter Tryz.func66 rfl Tryz.ntmps66 rfl ?_
  simp only [env0, Nat.reduceAdd]
  refine WC.seq ?_
  refine WC.region ?_
  refine WL.val (V.assign (OV.p rfl)) rfl ?_
  refine WL.nil ?_
  refine WC.seq ?_
  refine WC.block ?_
  refine WC.seq ?_
  refine WC.region ?_
  refine WL.val (V.move (OV.p rfl)) rfl ?_
  refine WL.val (V.eqlP Tryz.underlying27 (OV.p rfl) (OV.p rfl)) rfl ?_
  refine WL.val (V.assign (OV.p rfl)) rfl ?_
  refine WL.nil ?_
  refine WC.condF' rfl (by first | rfl | (simp; done) | (simp; omega)) ?_
  refine WC.seq ?_
  refine WC.region ?_
  refine WL.val (V.move (OV.p rfl)) rfl ?_
  refine WL.val (V.move (OV.p rfl)) rfl ?_
  refine WL.val (V.move (OV.p rfl)) rfl ?_
  refine WL.call (vs := [_, _, _]) Tryz.call80 ⟨OV.p rfl, OV.p rfl, OV.p rfl, trivial⟩ (chip_page (C := C) b p (by repeat (first | exact Rds.all | apply Rds.up))) rfl ?_
  rintro _ H0 ⟨rfl, h0⟩
  subst H0
  refine WL.val (V.not (OV.p rfl)) rfl ?_
  refine WL.val (V.move (OV.p rfl)) rfl ?_
  refine WL.valG (oj := _) rfl rfl rfl GC.f (V.move (OV.p rfl)) rfl ?_
  refine WL.valG (oj := _) rfl rfl rfl GC.f (V.len (t := 38) Tryz.runUnderlying38 (OV.g rfl id)) rfl ?_
  refine WL.valG (oj := _) rfl rfl rfl GC.f (V.move (OV.p rfl)) rfl ?_
  refine WL.valG (oj := _) rfl rfl rfl GC.f (V.nilCheck (OV.g rfl id)) rfl ?_
  refine WL.valG (oj := _) rfl rfl rfl GC.f (V.fieldAddr fo92_1 (OV.g rfl id)) rfl ?_
  refine WL.valG (oj := _) rfl rfl rfl GC.f (V.load Tryz.isAgg3 (OV.g rfl id) (fun _ => by repeat (first | exact Rd.here rfl | apply Rd.up))) rfl ?_
  refine WL.valG (oj := _) rfl rfl rfl GC.f (V.neq (OV.g rfl id) (OV.g rfl id)) rfl ?_
  refine WL.val (V.pickOr (OV.p rfl) (OV.g rfl id)) rfl ?_
  refine WL.val (V.assign (OV.p rfl)) rfl ?_
  refine WL.nil ?_
  refine WC.cond rfl (fun hc1 => ?_) (fun hc1 => ?_)
  · simp only [decide_eq_true_eq, decide_eq_false_iff_not, Bool.and_eq_true, Bool.or_eq_true, Bool.and_eq_false_iff, Bool.or_eq_false_iff, Bool.not_eq_true', Bool.not_eq_false', Bool.not_eq_true, Bool.not_eq_false, decide_eq_true_eq, decide_eq_false_iff_not] at hc1
    refine WC.seq ?_
    refine WC.region ?_
    refine WL.val (V.assign (OV.p rfl)) rfl ?_
    refine WL.nil ?_
    refine WC.ret ?_
    have e1 : C.sem.force b p xs = (C.sem, 1) := by unfold Chip.force; rw [if_pos (by rw [hl]; exact hc1)]
    rw [e1]
    exact BodyQ.ret (H' := C.A bc :: F) (Res.tmp rfl rfl) (fun w h => Sat.all (l := C.parts bc) h) ⟨C, hC, rfl, rfl, rfl⟩
  · simp only [decide_eq_true_eq, decide_eq_false_iff_not, Bool.and_eq_true, Bool.or_eq_true, Bool.and_eq_false_iff, Bool.or_eq_false_iff, Bool.not_eq_true', Bool.not_eq_false', Bool.not_eq_true, Bool.not_eq_false, decide_eq_true_eq, decide_eq_false_iff_not] at hc1
    obtain ⟨hpage, hraw⟩ := hc1
    have hpg : 0 ≤ b ∧ b < C.g.bl ∧ 0 ≤ p ∧ p < C.g.pg := by
      have h := hpage
      simp only [Chip.page, Chip.block, Bool.and_eq_true, decide_eq_true_eq] at h
      exact ⟨h.1.1.1, h.1.1.2, h.1.2, h.2⟩
    have hnx : 0 ≤ C.sem.nextOf b ∧ C.sem.nextOf b ≤ C.g.pg := by
      have h1 : C.sem.nextOf b = C.next.getD b.toNat 0 := rfl
      have h2 : b.toNat < C.next.length := by omega
      rw [h1, List.getD, List.getElem?_eq_getElem h2]
      exact hC.next _ (List.getElem_mem h2)
    have hget : (ints .i64 C.next)[0 + b.toNat * 1]? = some (.int .i64 (C.sem.nextOf b)) := by
      rw [Nat.zero_add, Nat.mul_one]; exact ints_getD _ _ (by omega)
    refine WC.skip ?_
    refine WC.seq ?_
    refine WC.regionA F (by kernel_rfl) ?_
    refine WA.take 0 (fun w h => by repeat (first | exact h | replace h := h.tail)) rfl (by kernel_rfl) (by kernel_rfl) (by kernel_rfl) (fun _ _ _ h => h) (V.move (OV.p rfl)) rfl ?_
    refine WA.take 1 (fun w h => by repeat (first | exact h | replace h := h.tail)) rfl (by kernel_rfl) (by kernel_rfl) (by kernel_rfl) (fun _ _ _ h => h) (V.nilCheck (OV.p rfl)) rfl ?_
    refine WA.take 2 (fun w h => by repeat (first | exact h | replace h := h.tail)) rfl (by kernel_rfl) (by kernel_rfl) (by kernel_rfl) (fun _ _ _ h => h) (V.fieldAddr fo92_2 (OV.p rfl)) rfl ?_
    refine WA.take 4 (fun w h => by repeat (first | exact h | replace h := h.tail)) rfl (by kernel_rfl) (by kernel_rfl) (by kernel_rfl) (fun _ _ _ h => h) (V.move (OV.p rfl)) rfl ?_
    refine WA.take 5 (fun w h => by repeat (first | exact h | replace h := h.tail)) rfl (by kernel_rfl) (by kernel_rfl) (by kernel_rfl) (fun _ _ _ h => h) (V.move (OV.p rfl)) rfl ?_
    refine WA.take 6 (fun w h => by repeat (first | exact h | replace h := h.tail)) rfl (by kernel_rfl) (by kernel_rfl) (by kernel_rfl) (fun _ _ _ h => h) (V.build (vs := [(0, _), (1, _)]) ⟨OV.p rfl, OV.p rfl, trivial⟩ rfl (bld120_0_1 _ _)) rfl ?_
    refine WA.take 7 (fun w h => by repeat (first | exact h | replace h := h.tail)) rfl (by kernel_rfl) (by kernel_rfl) (by kernel_rfl) (fun _ _ _ h => h) (V.move (OV.p rfl)) rfl ?_
    refine WA.two (i := 3) (j := 8) (fun w h => by repeat (first | exact h | replace h := h.tail)) (by kernel_rfl) rfl rfl ?_ ?_
    · refine WL.val (V.load Tryz.isAgg88 (OV.p rfl) (fun _ => by repeat (first | exact Rd.here rfl | apply Rd.up))) rfl ?_
      refine WL.nil ?_
      refine WA.one (i := 8) (fun w h => by repeat (first | exact h | replace h := h.tail)) (by kernel_rfl) rfl ?_
      refine WL.call (vs := [_]) Tryz.call110 ⟨OV.p rfl, trivial⟩ (clone_bytes (xs := xs) (by repeat (first | exact hs | apply Seq.up)) (by omega)) rfl ?_
      rintro _ _ ⟨A', c', rfl, rfl⟩
      refine WL.nil ?_
      refine WA.one (i := 9) (fun w h => by repeat (first | exact h | replace h := h.tail)) (by kernel_rfl) rfl ?_
      refine WL.mapUpdateR (k := (_, _)) Tryz.underlying88 kl120 (OV.p rfl) (OV.p rfl) (OV.p rfl) (by repeat (first | exact Repl.here | apply Repl.up)) ?_
      refine WL.nil ?_
      refine WA.done (by kernel_rfl) (fun w h => by repeat (first | exact h | replace h := h.tail)) ?_
      refine WC.seq ?_
      refine WC.region ?_
      refine WL.val (V.move (OV.p rfl)) rfl ?_
      refine WL.val (V.nilCheck (OV.p rfl)) rfl ?_
      refine WL.val (V.fieldAddr fo92_3 (OV.p rfl)) rfl ?_
      refine WL.val (V.load Tryz.isAgg89 (OV.p rfl) (fun _ => by repeat (first | exact Rd.here rfl | apply Rd.up))) rfl ?_
      refine WL.val (V.move (OV.p rfl)) rfl ?_
      refine WL.val (V.move (OV.p rfl)) rfl ?_
      refine WL.val (V.build (vs := [(0, _), (1, _)]) ⟨OV.p rfl, OV.p rfl, trivial⟩ rfl (bld120_0_1 _ _)) rfl ?_
      refine WL.delete0R (k := (_, _)) Tryz.underlying89 kl120 (OV.p rfl) (OV.p rfl) (by repeat (first | exact Repl.here | apply Repl.up)) ?_
      refine WL.nil ?_
      refine WC.seq ?_
      refine WC.regionA F (by kernel_rfl) ?_
      refine WA.take 0 (fun w h => by repeat (first | exact h | replace h := h.tail)) rfl (by kernel_rfl) (by kernel_rfl) (by kernel_rfl) (fun _ _ _ h => h) (V.move (OV.p rfl)) rfl ?_
      refine WA.take 1 (fun w h => by repeat (first | exact h | replace h := h.tail)) rfl (by kernel_rfl) (by kernel_rfl) (by kernel_rfl) (fun _ _ _ h => h) (V.nilCheck (OV.p rfl)) rfl ?_
      refine WA.take 2 (fun w h => by repeat (first | exact h | replace h := h.tail)) rfl (by kernel_rfl) (by kernel_rfl) (by kernel_rfl) (fun _ _ _ h => h) (V.fieldAddr fo92_4 (OV.p rfl)) rfl ?_
      refine WA.take 4 (fun w h => by repeat (first | exact h | replace h := h.tail)) rfl (by kernel_rfl) (by kernel_rfl) (by kernel_rfl) (fun _ _ _ h => h) (V.move (OV.p rfl)) rfl ?_
      refine WA.take 5 (fun w h => by repeat (first | exact h | replace h := h.tail)) rfl (by kernel_rfl) (by kernel_rfl) (by kernel_rfl) (fun _ _ _ h => h) (V.move (OV.p rfl)) rfl ?_
      refine WA.take 6 (fun w h => by repeat (first | exact h | replace h := h.tail)) rfl (by kernel_rfl) (by kernel_rfl) (by kernel_rfl) (fun _ _ _ h => h) (V.nilCheck (OV.p rfl)) rfl ?_
      refine WA.take 7 (fun w h => by repeat (first | exact h | replace h := h.tail)) rfl (by kernel_rfl) (by kernel_rfl) (by kernel_rfl) (fun _ _ _ h => h) (V.fieldAddr fo92_4 (OV.p rfl)) rfl ?_
      refine WA.take 9 (fun w h => by repeat (first | exact h | replace h := h.tail)) rfl (by kernel_rfl) (by kernel_rfl) (by kernel_rfl) (fun _ _ _ h => h) (V.move (OV.p rfl)) rfl ?_
      refine WA.take 12 (fun w h => by repeat (first | exact h | replace h := h.tail)) rfl (by kernel_rfl) (by kernel_rfl) (by kernel_rfl) (fun _ _ _ h => h) (V.move (OV.p rfl)) rfl ?_
      refine WA.take 13 (fun w h => by repeat (first | exact h | replace h := h.tail)) rfl (by kernel_rfl) (by kernel_rfl) (by kernel_rfl) (fun _ _ _ h => h) (V.addI (OV.p rfl) (OV.p rfl) (fun hc => by first | omega | (simp at hc; omega))) rfl ?_
      refine WA.two (i := 3) (j := 8) (fun w h => by repeat (first | exact h | replace h := h.tail)) (by kernel_rfl) rfl rfl ?_ ?_
      · refine WL.val (V.load Tryz.isAgg42 (OV.p rfl) (fun _ => by repeat (first | exact Rd.here rfl | apply Rd.up))) rfl ?_
        refine WL.nil ?_
        refine WA.one (i := 8) (fun w h => by repeat (first | exact h | replace h := h.tail)) (by kernel_rfl) rfl ?_
        refine WL.val (V.load Tryz.isAgg42 (OV.p rfl) (fun _ => by repeat (first | exact Rd.here rfl | apply Rd.up))) rfl ?_
        refine WL.nil ?_
        refine WA.take 10 (fun w h => by repeat (first | exact h | replace h := h.tail)) rfl (by kernel_rfl) (by kernel_rfl) (by kernel_rfl) (fun _ _ _ h => h) (V.idxB st42 (OV.p rfl) (OV.p rfl) (fun hc => by first | omega | (simp at hc; omega))) rfl ?_
        refine WA.one (i := 11) (fun w h => by repeat (first | exact h | replace h := h.tail)) (by kernel_rfl) rfl ?_
        refine WL.val (V.load Tryz.isAgg3 (OV.p rfl) (fun _ => by repeat (first | exact Rd.here hget | apply Rd.up))) rfl ?_
        refine WL.nil ?_
        refine WA.take 14 (fun w h => by repeat (first | exact h | replace h := h.tail)) rfl (by kernel_rfl) (by kernel_rfl) (by kernel_rfl) (fun _ _ _ h => h) (V.max (OV.p rfl) (OV.p rfl)) rfl ?_
        refine WA.take 15 (fun w h => by repeat (first | exact h | replace h := h.tail)) rfl (by kernel_rfl) (by kernel_rfl) (by kernel_rfl) (fun _ _ _ h => h) (V.idxB st42 (OV.p rfl) (OV.p rfl) (fun hc => by first | omega | (simp at hc; omega))) rfl ?_
        refine WA.one (i := 16) (fun w h => by repeat (first | exact h | replace h := h.tail)) (by kernel_rfl) rfl ?_
        refine WL.store (cs := [_]) Tryz.sizeOf3 (OV.p rfl) (OV.p rfl) rfl rfl rfl (by repeat (first | exact Upd.at_ (by rw [Nat.zero_add, Nat.mul_one, ints_length]; omega) | apply Upd.up)) ?_
        refine WL.nil ?_
        refine WA.done (by kernel_rfl) (fun w h => by repeat (first | exact h | replace h := h.tail)) ?_
        refine WC.seq ?_
        refine WC.region ?_
        refine WL.val (V.assign (OV.p rfl)) rfl ?_
        refine WL.nil ?_
        refine WC.ret ?_
        have e1 : C.sem.force b p xs = ({ C.sem with pages := Chip.upds C.sem.pages (b, p) (some xs), wrong := Chip.upds C.sem.wrong (b, p) none, next := C.sem.setNext b (max (C.sem.nextOf b) (p + 1)) }, 0) := by
          unfold Chip.force; rw [if_neg (by rw [hl, hpage]; rintro (h | h); cases h; exact h hraw)]
        rw [e1]
        refine BodyQ.ret (H' := (((C.putPage (b, p) (A', c', xs) (SlA (.slice A' m c') 5 1 m (ints .u8 xs) :: C.own)).dropWrong (b, p)).putNext b (max (C.sem.nextOf b) (p + 1))).A bc :: F) (Res.tmp rfl rfl) (fun w h => ?_) ⟨_, ((hC.putPage (Cw.up_own _ _) (SeqIn.here fun K => by show Seq K _ A' xs.length 1 (ints .u8 xs); rw [hl]; exact SlA.seq (by simp [ints, hl])) (by show (xs.length : Int) = _; omega) hx).dropWrong _).putNext (by show 0 ≤ max (C.sem.nextOf b) (p + 1) ∧ max (C.sem.nextOf b) (p + 1) ≤ C.g.pg; omega), rfl, ?_, rfl⟩
        · have h1 := (h.sel 8 [0, 7, 1, 2, 3, 4, 5, 6] rfl).absorb
          have h2 := h1.sel 7 [1, 2, 3, 4, 5, 6, 0] rfl
          refine Sat.all (l := Cw.parts bc _) ?_
          unfold Cw.parts
          have e2 : (((C.putPage (b, p) (A', c', xs) (SlA (.slice A' m c') 5 1 m (ints .u8 xs) :: C.own)).dropWrong (b, p)).putNext b (max (C.sem.nextOf b) (p + 1))).pagesF = upd C.pagesF (b, p) (some (.slice A' m c')) := by
            refine (Cw.pagesF_put C (b, p) (A', c', xs) (SlA (.slice A' m c') 5 1 m (ints .u8 xs) :: C.own)).trans ?_
            unfold Cw.sliceOf; rw [hl]
          have e3 : (((C.putPage (b, p) (A', c', xs) (SlA (.slice A' m c') 5 1 m (ints .u8 xs) :: C.own)).dropWrong (b, p)).putNext b (max (C.sem.nextOf b) (p + 1))).wrongF = upd C.wrongF (b, p) none := Cw.wrongF_dropW (C.putPage (b, p) (A', c', xs) (SlA (.slice A' m c') 5 1 m (ints .u8 xs) :: C.own)) (b, p)
          have e4 : (((C.putPage (b, p) (A', c', xs) (SlA (.slice A' m c') 5 1 m (ints .u8 xs) :: C.own)).dropWrong (b, p)).putNext b (max (C.sem.nextOf b) (p + 1))).cells = C.cells := by
            unfold Cw.cells Cw.putNext Cw.dropWrong Cw.putPage
            simp
          rw [e2, e3, e4]
          rw [Nat.zero_add, Nat.mul_one, ints_set] at h2
          exact h2
        · rw [Cw.sem_putNext, Cw.sem_dropW, Cw.sem_put]; rfl
      · refine WL.val (V.load Tryz.isAgg42 (OV.p rfl) (fun _ => by repeat (first | exact Rd.here rfl | apply Rd.up))) rfl ?_
        refine WL.nil ?_
        refine WA.take 10 (fun w h => by repeat (first | exact h | replace h := h.tail)) rfl (by kernel_rfl) (by kernel_rfl) (by kernel_rfl) (fun _ _ _ h => h) (V.idxB st42 (OV.p rfl) (OV.p rfl) (fun hc => by first | omega | (simp at hc; omega))) rfl ?_
        refine WA.two (i := 3) (j := 11) (fun w h => by repeat (first | exact h | replace h := h.tail)) (by kernel_rfl) rfl rfl ?_ ?_
        · refine WL.val (V.load Tryz.isAgg42 (OV.p rfl) (fun _ => by repeat (first | exact Rd.here rfl | apply Rd.up))) rfl ?_
          refine WL.nil ?_
          refine WA.one (i := 11) (fun w h => by repeat (first | exact h | replace h := h.tail)) (by kernel_rfl) rfl ?_
          refine WL.val (V.load Tryz.isAgg3 (OV.p rfl) (fun _ => by repeat (first | exact Rd.here hget | apply Rd.up))) rfl ?_
          refine WL.nil ?_
          refine WA.take 14 (fun w h => by repeat (first | exact h | replace h := h.tail)) rfl (by kernel_rfl) (by kernel_rfl) (by kernel_rfl) (fun _ _ _ h => h) (V.max (OV.p rfl) (OV.p rfl)) rfl ?_
          refine WA.take 15 (fun w h => by repeat (first | exact h | replace h := h.tail)) rfl (by kernel_rfl) (by kernel_rfl) (by kernel_rfl) (fun _ _ _ h => h) (V.idxB st42 (OV.p rfl) (OV.p rfl) (fun hc => by first | omega | (simp at hc; omega))) rfl ?_
          refine WA.one (i := 16) (fun w h => by repeat (first | exact h | replace h := h.tail)) (by kernel_rfl) rfl ?_
          refine WL.store (cs := [_]) Tryz.sizeOf3 (OV.p rfl) (OV.p rfl) rfl rfl rfl (by repeat (first | exact Upd.at_ (by rw [Nat.zero_add, Nat.mul_one, ints_length]; omega) | apply Upd.up)) ?_
          refine WL.nil ?_
          refine WA.done (by kernel_rfl) (fun w h => by repeat (first | exact h | replace h := h.tail)) ?_
          refine WC.seq ?_
          refine WC.region ?_
          refine WL.val (V.assign (OV.p rfl)) rfl ?_
          refine WL.nil ?_
          refine WC.ret ?_
          have e1 : C.sem.force b p xs = ({ C.sem with pages := Chip.upds C.sem.pages (b, p) (some xs), wrong := Chip.upds C.sem.wrong (b, p) none, next := C.sem.setNext b (max (C.sem.nextOf b) (p + 1)) }, 0) := by
            unfold Chip.force; rw [if_neg (by rw [hl, hpage]; rintro (h | h); cases h; exact h hraw)]
          rw [e1]
          refine BodyQ.ret (H' := (((C.putPage (b, p) (A', c', xs) (SlA (.slice A' m c') 5 1 m (ints .u8 xs) :: C.own)).dropWrong (b, p)).putNext b (max (C.sem.nextOf b) (p + 1))).A bc :: F) (Res.tmp rfl rfl) (fun w h => ?_) ⟨_, ((hC.putPage (Cw.up_own _ _) (SeqIn.here fun K => by show Seq K _ A' xs.length 1 (ints .u8 xs); rw [hl]; exact SlA.seq (by simp [ints, hl])) (by show (xs.length : Int) = _; omega) hx).dropWrong _).putNext (by show 0 ≤ max (C.sem.nextOf b) (p + 1) ∧ max (C.sem.nextOf b) (p + 1) ≤ C.g.pg; omega), rfl, ?_, rfl⟩
          · have h1 := (h.sel 8 [0, 7, 1, 2, 3, 4, 5, 6] rfl).absorb
            have h2 := h1.sel 7 [1, 2, 3, 4, 5, 6, 0] rfl
            refine Sat.all (l := Cw.parts bc _) ?_
            unfold Cw.parts
            have e2 : (((C.putPage (b, p) (A', c', xs) (SlA (.slice A' m c') 5 1 m (ints .u8 xs) :: C.own)).dropWrong (b, p)).putNext b (max (C.sem.nextOf b) (p + 1))).pagesF = upd C.pagesF (b, p) (some (.slice A' m c')) := by
              refine (Cw.pagesF_put C (b, p) (A', c', xs) (SlA (.slice A' m c') 5 1 m (ints .u8 xs) :: C.own)).trans ?_
              unfold Cw.sliceOf; rw [hl]
            have e3 : (((C.putPage (b, p) (A', c', xs) (SlA (.slice A' m c') 5 1 m (ints .u8 xs) :: C.own)).dropWrong (b, p)).putNext b (max (C.sem.nextOf b) (p + 1))).wrongF = upd C.wrongF (b, p) none := Cw.wrongF_dropW (C.putPage (b, p) (A', c', xs) (SlA (.slice A' m c') 5 1 m (ints .u8 xs) :: C.own)) (b, p)
            have e4 : (((C.putPage (b, p) (A', c', xs) (SlA (.slice A' m c') 5 1 m (ints .u8 xs) :: C.own)).dropWrong (b, p)).putNext b (max (C.sem.nextOf b) (p + 1))).cells = C.cells := by
              unfold Cw.cells Cw.putNext Cw.dropWrong Cw.putPage
              simp
            rw [e2, e3, e4]
            rw [Nat.zero_add, Nat.mul_one, ints_set] at h2
            exact h2
          · rw [Cw.sem_putNext, Cw.sem_dropW, Cw.sem_put]; rfl
        · refine WL.val (V.load Tryz.isAgg3 (OV.p rfl) (fun _ => by repeat (first | exact Rd.here hget | apply Rd.up))) rfl ?_
          refine WL.nil ?_
          refine WA.take 14 (fun w h => by repeat (first | exact h | replace h := h.tail)) rfl (by kernel_rfl) (by kernel_rfl) (by kernel_rfl) (fun _ _ _ h => h) (V.max (OV.p rfl) (OV.p rfl)) rfl ?_
          refine WA.one (i := 3) (fun w h => by repeat (first | exact h | replace h := h.tail)) (by kernel_rfl) rfl ?_
          refine WL.val (V.load Tryz.isAgg42 (OV.p rfl) (fun _ => by repeat (first | exact Rd.here rfl | apply Rd.up))) rfl ?_
          refine WL.nil ?_
          refine WA.take 15 (fun w h => by repeat (first | exact h | replace h := h.tail)) rfl (by kernel_rfl) (by kernel_rfl) (by kernel_rfl) (fun _ _ _ h => h) (V.idxB st42 (OV.p rfl) (OV.p rfl) (fun hc => by first | omega | (simp at hc; omega))) rfl ?_
          refine WA.one (i := 16) (fun w h => by repeat (first | exact h | replace h := h.tail)) (by kernel_rfl) rfl ?_
          refine WL.store (cs := [_]) Tryz.sizeOf3 (OV.p rfl) (OV.p rfl) rfl rfl rfl (by repeat (first | exact Upd.at_ (by rw [Nat.zero_add, Nat.mul_one, ints_length]; omega) | apply Upd.up)) ?_
          refine WL.nil ?_
          refine WA.done (by kernel_rfl) (fun w h => by repeat (first | exact h | replace h := h.tail)) ?_
          refine WC.seq ?_
          refine WC.region ?_
          refine WL.val (V.assign (OV.p rfl)) rfl ?_
          refine WL.nil ?_
          refine WC.ret ?_
          have e1 : C.sem.force b p xs = ({ C.sem with pages := Chip.upds C.sem.pages (b, p) (some xs), wrong := Chip.upds C.sem.wrong (b, p) none, next := C.sem.setNext b (max (C.sem.nextOf b) (p + 1)) }, 0) := by
            unfold Chip.force; rw [if_neg (by rw [hl, hpage]; rintro (h | h); cases h; exact h hraw)]
          rw [e1]
          refine BodyQ.ret (H' := (((C.putPage (b, p) (A', c', xs) (SlA (.slice A' m c') 5 1 m (ints .u8 xs) :: C.own)).dropWrong (b, p)).putNext b (max (C.sem.nextOf b) (p + 1))).A bc :: F) (Res.tmp rfl rfl) (fun w h => ?_) ⟨_, ((hC.putPage (Cw.up_own _ _) (SeqIn.here fun K => by show Seq K _ A' xs.length 1 (ints .u8 xs); rw [hl]; exact SlA.seq (by simp [ints, hl])) (by show (xs.length : Int) = _; omega) hx).dropWrong _).putNext (by show 0 ≤ max (C.sem.nextOf b) (p + 1) ∧ max (C.sem.nextOf b) (p + 1) ≤ C.g.pg; omega), rfl, ?_, rfl⟩
          · have h1 := (h.sel 8 [0, 7, 1, 2, 3, 4, 5, 6] rfl).absorb
            have h2 := h1.sel 7 [1, 2, 3, 4, 5, 6, 0] rfl
            refine Sat.all (l := Cw.parts bc _) ?_
            unfold Cw.parts
            have e2 : (((C.putPage (b, p) (A', c', xs) (SlA (.slice A' m c') 5 1 m (ints .u8 xs) :: C.own)).dropWrong (b, p)).putNext b (max (C.sem.nextOf b) (p + 1))).pagesF = upd C.pagesF (b, p) (some (.slice A' m c')) := by
              refine (Cw.pagesF_put C (b, p) (A', c', xs) (SlA (.slice A' m c') 5 1 m (ints .u8 xs) :: C.own)).trans ?_
              unfold Cw.sliceOf; rw [hl]
            have e3 : (((C.putPage (b, p) (A', c', xs) (SlA (.slice A' m c') 5 1 m (ints .u8 xs) :: C.own)).dropWrong (b, p)).putNext b (max (C.sem.nextOf b) (p + 1))).wrongF = upd C.wrongF (b, p) none := Cw.wrongF_dropW (C.putPage (b, p) (A', c', xs) (SlA (.slice A' m c') 5 1 m (ints .u8 xs) :: C.own)) (b, p)
            have e4 : (((C.putPage (b, p) (A', c', xs) (SlA (.slice A' m c') 5 1 m (ints .u8 xs) :: C.own)).dropWrong (b, p)).putNext b (max (C.sem.nextOf b) (p + 1))).cells = C.cells := by
              unfold Cw.cells Cw.putNext Cw.dropWrong Cw.putPage
              simp
            rw [e2, e3, e4]
            rw [Nat.zero_add, Nat.mul_one, ints_set] at h2
            exact h2
          · rw [Cw.sem_putNext, Cw.sem_dropW, Cw.sem_put]; rfl
    · refine WL.call (vs := [_]) Tryz.call110 ⟨OV.p rfl, trivial⟩ (clone_bytes (xs := xs) (by repeat (first | exact hs | apply Seq.up)) (by omega)) rfl ?_
      rintro _ _ ⟨A', c', rfl, rfl⟩
      refine WL.nil ?_
      refine WA.one (i := 3) (fun w h => by repeat (first | exact h | replace h := h.tail)) (by kernel_rfl) rfl ?_
      refine WL.val (V.load Tryz.isAgg88 (OV.p rfl) (fun _ => by repeat (first | exact Rd.here rfl | apply Rd.up))) rfl ?_
      refine WL.nil ?_
      refine WA.one (i := 9) (fun w h => by repeat (first | exact h | replace h := h.tail)) (by kernel_rfl) rfl ?_
      refine WL.mapUpdateR (k := (_, _)) Tryz.underlying88 kl120 (OV.p rfl) (OV.p rfl) (OV.p rfl) (by repeat (first | exact Repl.here | apply Repl.up)) ?_
      refine WL.nil ?_
      refine WA.done (by kernel_rfl) (fun w h => by repeat (first | exact h | replace h := h.tail)) ?_
      refine WC.seq ?_
      refine WC.region ?_
      refine WL.val (V.move (OV.p rfl)) rfl ?_
      refine WL.val (V.nilCheck (OV.p rfl)) rfl ?_
      refine WL.val (V.fieldAddr fo92_3 (OV.p rfl)) rfl ?_
      refine WL.val (V.load Tryz.isAgg89 (OV.p rfl) (fun _ => by repeat (first | exact Rd.here rfl | apply Rd.up))) rfl ?_
      refine WL.val (V.move (OV.p rfl)) rfl ?_
      refine WL.val (V.move (OV.p rfl)) rfl ?_
      refine WL.val (V.build (vs := [(0, _), (1, _)]) ⟨OV.p rfl, OV.p rfl, trivial⟩ rfl (bld120_0_1 _ _)) rfl ?_
      refine WL.delete0R (k := (_, _)) Tryz.underlying89 kl120 (OV.p rfl) (OV.p rfl) (by repeat (first | exact Repl.here | apply Repl.up)) ?_
      refine WL.nil ?_
      refine WC.seq ?_
      refine WC.regionA F (by kernel_rfl) ?_
      refine WA.take 0 (fun w h => by repeat (first | exact h | replace h := h.tail)) rfl (by kernel_rfl) (by kernel_rfl) (by kernel_rfl) (fun _ _ _ h => h) (V.move (OV.p rfl)) rfl ?_
      refine WA.take 1 (fun w h => by repeat (first | exact h | replace h := h.tail)) rfl (by kernel_rfl) (by kernel_rfl) (by kernel_rfl) (fun _ _ _ h => h) (V.nilCheck (OV.p rfl)) rfl ?_
      refine WA.take 2 (fun w h => by repeat (first | exact h | replace h := h.tail)) rfl (by kernel_rfl) (by kernel_rfl) (by kernel_rfl) (fun _ _ _ h => h) (V.fieldAddr fo92_4 (OV.p rfl)) rfl ?_
      refine WA.take 4 (fun w h => by repeat (first | exact h | replace h := h.tail)) rfl (by kernel_rfl) (by kernel_rfl) (by kernel_rfl) (fun _ _ _ h => h) (V.move (OV.p rfl)) rfl ?_
      refine WA.take 5 (fun w h => by repeat (first | exact h | replace h := h.tail)) rfl (by kernel_rfl) (by kernel_rfl) (by kernel_rfl) (fun _ _ _ h => h) (V.move (OV.p rfl)) rfl ?_
      refine WA.take 6 (fun w h => by repeat (first | exact h | replace h := h.tail)) rfl (by kernel_rfl) (by kernel_rfl) (by kernel_rfl) (fun _ _ _ h => h) (V.nilCheck (OV.p rfl)) rfl ?_
      refine WA.take 7 (fun w h => by repeat (first | exact h | replace h := h.tail)) rfl (by kernel_rfl) (by kernel_rfl) (by kernel_rfl) (fun _ _ _ h => h) (V.fieldAddr fo92_4 (OV.p rfl)) rfl ?_
      refine WA.take 9 (fun w h => by repeat (first | exact h | replace h := h.tail)) rfl (by kernel_rfl) (by kernel_rfl) (by kernel_rfl) (fun _ _ _ h => h) (V.move (OV.p rfl)) rfl ?_
      refine WA.take 12 (fun w h => by repeat (first | exact h | replace h := h.tail)) rfl (by kernel_rfl) (by kernel_rfl) (by kernel_rfl) (fun _ _ _ h => h) (V.move (OV.p rfl)) rfl ?_
      refine WA.take 13 (fun w h => by repeat (first | exact h | replace h := h.tail)) rfl (by kernel_rfl) (by kernel_rfl) (by kernel_rfl) (fun _ _ _ h => h) (V.addI (OV.p rfl) (OV.p rfl) (fun hc => by first | omega | (simp at hc; omega))) rfl ?_
      refine WA.two (i := 3) (j := 8) (fun w h => by repeat (first | exact h | replace h := h.tail)) (by kernel_rfl) rfl rfl ?_ ?_
      · refine WL.val (V.load Tryz.isAgg42 (OV.p rfl) (fun _ => by repeat (first | exact Rd.here rfl | apply Rd.up))) rfl ?_
        refine WL.nil ?_
        refine WA.one (i := 8) (fun w h => by repeat (first | exact h | replace h := h.tail)) (by kernel_rfl) rfl ?_
        refine WL.val (V.load Tryz.isAgg42 (OV.p rfl) (fun _ => by repeat (first | exact Rd.here rfl | apply Rd.up))) rfl ?_
        refine WL.nil ?_
        refine WA.take 10 (fun w h => by repeat (first | exact h | replace h := h.tail)) rfl (by kernel_rfl) (by kernel_rfl) (by kernel_rfl) (fun _ _ _ h => h) (V.idxB st42 (OV.p rfl) (OV.p rfl) (fun hc => by first | omega | (simp at hc; omega))) rfl ?_
        refine WA.one (i := 11) (fun w h => by repeat (first | exact h | replace h := h.tail)) (by kernel_rfl) rfl ?_
        refine WL.val (V.load Tryz.isAgg3 (OV.p rfl) (fun _ => by repeat (first | exact Rd.here hget | apply Rd.up))) rfl ?_
        refine WL.nil ?_
        refine WA.take 14 (fun w h => by repeat (first | exact h | replace h := h.tail)) rfl (by kernel_rfl) (by kernel_rfl) (by kernel_rfl) (fun _ _ _ h => h) (V.max (OV.p rfl) (OV.p rfl)) rfl ?_
        refine WA.take 15 (fun w h => by repeat (first | exact h | replace h := h.tail)) rfl (by kernel_rfl) (by kernel_rfl) (by kernel_rfl) (fun _ _ _ h => h) (V.idxB st42 (OV.p rfl) (OV.p rfl) (fun hc => by first | omega | (simp at hc; omega))) rfl ?_
        refine WA.one (i := 16) (fun w h => by repeat (first | exact h | replace h := h.tail)) (by kernel_rfl) rfl ?_
        refine WL.store (cs := [_]) Tryz.sizeOf3 (OV.p rfl) (OV.p rfl) rfl rfl rfl (by repeat (first | exact Upd.at_ (by rw [Nat.zero_add, Nat.mul_one, ints_length]; omega) | apply Upd.up)) ?_
        refine WL.nil ?_
        refine WA.done (by kernel_rfl) (fun w h => by repeat (first | exact h | replace h := h.tail)) ?_
        refine WC.seq ?_
        refine WC.region ?_
        refine WL.val (V.assign (OV.p rfl)) rfl ?_
        refine WL.nil ?_
        refine WC.ret ?_
        have e1 : C.sem.force b p xs = ({ C.sem with pages := Chip.upds C.sem.pages (b, p) (some xs), wrong := Chip.upds C.sem.wrong (b, p) none, next := C.sem.setNext b (max (C.sem.nextOf b) (p + 1)) }, 0) := by
          unfold Chip.force; rw [if_neg (by rw [hl, hpage]; rintro (h | h); cases h; exact h hraw)]
        rw [e1]
        refine BodyQ.ret (H' := (((C.putPage (b, p) (A', c', xs) (SlA (.slice A' m c') 5 1 m (ints .u8 xs) :: C.own)).dropWrong (b, p)).putNext b (max (C.sem.nextOf b) (p + 1))).A bc :: F) (Res.tmp rfl rfl) (fun w h => ?_) ⟨_, ((hC.putPage (Cw.up_own _ _) (SeqIn.here fun K => by show Seq K _ A' xs.length 1 (ints .u8 xs); rw [hl]; exact SlA.seq (by simp [ints, hl])) (by show (xs.length : Int) = _; omega) hx).dropWrong _).putNext (by show 0 ≤ max (C.sem.nextOf b) (p + 1) ∧ max (C.sem.nextOf b) (p + 1) ≤ C.g.pg; omega), rfl, ?_, rfl⟩
        · have h1 := (h.sel 8 [0, 7, 1, 2, 3, 4, 5, 6] rfl).absorb
          have h2 := h1.sel 7 [1, 2, 3, 4, 5, 6, 0] rfl
          refine Sat.all (l := Cw.parts bc _) ?_
          unfold Cw.parts
          have e2 : (((C.putPage (b, p) (A', c', xs) (SlA (.slice A' m c') 5 1 m (ints .u8 xs) :: C.own)).dropWrong (b, p)).putNext b (max (C.sem.nextOf b) (p + 1))).pagesF = upd C.pagesF (b, p) (some (.slice A' m c')) := by
            refine (Cw.pagesF_put C (b, p) (A', c', xs) (SlA (.slice A' m c') 5 1 m (ints .u8 xs) :: C.own)).trans ?_
            unfold Cw.sliceOf; rw [hl]
          have e3 : (((C.putPage (b, p) (A', c', xs) (SlA (.slice A' m c') 5 1 m (ints .u8 xs) :: C.own)).dropWrong (b, p)).putNext b (max (C.sem.nextOf b) (p + 1))).wrongF = upd C.wrongF (b, p) none := Cw.wrongF_dropW (C.putPage (b, p) (A', c', xs) (SlA (.slice A' m c') 5 1 m (ints .u8 xs) :: C.own)) (b, p)
          have e4 : (((C.putPage (b, p) (A', c', xs) (SlA (.slice A' m c') 5 1 m (ints .u8 xs) :: C.own)).dropWrong (b, p)).putNext b (max (C.sem.nextOf b) (p + 1))).cells = C.cells := by
            unfold Cw.cells Cw.putNext Cw.dropWrong Cw.putPage
            simp
          rw [e2, e3, e4]
          rw [Nat.zero_add, Nat.mul_one, ints_set] at h2
          exact h2
        · rw [Cw.sem_putNext, Cw.sem_dropW, Cw.sem_put]; rfl
      · refine WL.val (V.load Tryz.isAgg42 (OV.p rfl) (fun _ => by repeat (first | exact Rd.here rfl | apply Rd.up))) rfl ?_
        refine WL.nil ?_
        refine WA.take 10 (fun w h => by repeat (first | exact h | replace h := h.tail)) rfl (by kernel_rfl) (by kernel_rfl) (by kernel_rfl) (fun _ _ _ h => h) (V.idxB st42 (OV.p rfl) (OV.p rfl) (fun hc => by first | omega | (simp at hc; omega))) rfl ?_
        refine WA.two (i := 3) (j := 11) (fun w h => by repeat (first | exact h | replace h := h.tail)) (by kernel_rfl) rfl rfl ?_ ?_
        · refine WL.val (V.load Tryz.isAgg42 (OV.p rfl) (fun _ => by repeat (first | exact Rd.here rfl | apply Rd.up))) rfl ?_
          refine WL.nil ?_
          refine WA.one (i := 11) (fun w h => by repeat (first | exact h | replace h := h.tail)) (by kernel_rfl) rfl ?_
          refine WL.val (V.load Tryz.isAgg3 (OV.p rfl) (fun _ => by repeat (first | exact Rd.here hget | apply Rd.up))) rfl ?_
          refine WL.nil ?_
          refine WA.take 14 (fun w h => by repeat (first | exact h | replace h := h.tail)) rfl (by kernel_rfl) (by kernel_rfl) (by kernel_rfl) (fun _ _ _ h => h) (V.max (OV.p rfl) (OV.p rfl)) rfl ?_
          refine WA.take 15 (fun w h => by repeat (first | exact h | replace h := h.tail)) rfl (by kernel_rfl) (by kernel_rfl) (by kernel_rfl) (fun _ _ _ h => h) (V.idxB st42 (OV.p rfl) (OV.p rfl) (fun hc => by first | omega | (simp at hc; omega))) rfl ?_
          refine WA.one (i := 16) (fun w h => by repeat (first | exact h | replace h := h.tail)) (by kernel_rfl) rfl ?_
          refine WL.store (cs := [_]) Tryz.sizeOf3 (OV.p rfl) (OV.p rfl) rfl rfl rfl (by repeat (first | exact Upd.at_ (by rw [Nat.zero_add, Nat.mul_one, ints_length]; omega) | apply Upd.up)) ?_
          refine WL.nil ?_
          refine WA.done (by kernel_rfl) (fun w h => by repeat (first | exact h | replace h := h.tail)) ?_
          refine WC.seq ?_
          refine WC.region ?_
          refine WL.val (V.assign (OV.p rfl)) rfl ?_
          refine WL.nil ?_
          refine WC.ret ?_
          have e1 : C.sem.force b p xs = ({ C.sem with pages := Chip.upds C.sem.pages (b, p) (some xs), wrong := Chip.upds C.sem.wrong (b, p) none, next := C.sem.setNext b (max (C.sem.nextOf b) (p + 1)) }, 0) := by
            unfold Chip.force; rw [if_neg (by rw [hl, hpage]; rintro (h | h); cases h; exact h hraw)]
          rw [e1]
          refine BodyQ.ret (H' := (((C.putPage (b, p) (A', c', xs) (SlA (.slice A' m c') 5 1 m (ints .u8 xs) :: C.own)).dropWrong (b, p)).putNext b (max (C.sem.nextOf b) (p + 1))).A bc :: F) (Res.tmp rfl rfl) (fun w h => ?_) ⟨_, ((hC.putPage (Cw.up_own _ _) (SeqIn.here fun K => by show Seq K _ A' xs.length 1 (ints .u8 xs); rw [hl]; exact SlA.seq (by simp [ints, hl])) (by show (xs.length : Int) = _; omega) hx).dropWrong _).putNext (by show 0 ≤ max (C.sem.nextOf b) (p + 1) ∧ max (C.sem.nextOf b) (p + 1) ≤ C.g.pg; omega), rfl, ?_, rfl⟩
          · have h1 := (h.sel 8 [0, 7, 1, 2, 3, 4, 5, 6] rfl).absorb
            have h2 := h1.sel 7 [1, 2, 3, 4, 5, 6, 0] rfl
            refine Sat.all (l := Cw.parts bc _) ?_
            unfold Cw.parts
            have e2 : (((C.putPage (b, p) (A', c', xs) (SlA (.slice A' m c') 5 1 m (ints .u8 xs) :: C.own)).dropWrong (b, p)).putNext b (max (C.sem.nextOf b) (p + 1))).pagesF = upd C.pagesF (b, p) (some (.slice A' m c')) := by
              refine (Cw.pagesF_put C (b, p) (A', c', xs) (SlA (.slice A' m c') 5 1 m (ints .u8 xs) :: C.own)).trans ?_
              unfold Cw.sliceOf; rw [hl]
            have e3 : (((C.putPage (b, p) (A', c', xs) (SlA (.slice A' m c') 5 1 m (ints .u8 xs) :: C.own)).dropWrong (b, p)).putNext b (max (C.sem.nextOf b) (p + 1))).wrongF = upd C.wrongF (b, p) none := Cw.wrongF_dropW (C.putPage (b, p) (A', c', xs) (SlA (.slice A' m c') 5 1 m (ints .u8 xs) :: C.own)) (b, p)
            have e4 : (((C.putPage (b, p) (A', c', xs) (SlA (.slice A' m c') 5 1 m (ints .u8 xs) :: C.own)).dropWrong (b, p)).putNext b (max (C.sem.nextOf b) (p + 1))).cells = C.cells := by
              unfold Cw.cells Cw.putNext Cw.dropWrong Cw.putPage
              simp
            rw [e2, e3, e4]
            rw [Nat.zero_add, Nat.mul_one, ints_set] at h2
            exact h2
          · rw [Cw.sem_putNext, Cw.sem_dropW, Cw.sem_put]; rfl
        · refine WL.val (V.load Tryz.isAgg3 (OV.p rfl) (fun _ => by repeat (first | exact Rd.here hget | apply Rd.up))) rfl ?_
          refine WL.nil ?_
          refine WA.take 14 (fun w h => by repeat (first | exact h | replace h := h.tail)) rfl (by kernel_rfl) (by kernel_rfl) (by kernel_rfl) (fun _ _ _ h => h) (V.max (OV.p rfl) (OV.p rfl)) rfl ?_
          refine WA.one (i := 3) (fun w h => by repeat (first | exact h | replace h := h.tail)) (by kernel_rfl) rfl ?_
          refine WL.val (V.load Tryz.isAgg42 (OV.p rfl) (fun _ => by repeat (first | exact Rd.here rfl | apply Rd.up))) rfl ?_
          refine WL.nil ?_
          refine WA.take 15 (fun w h => by repeat (first | exact h | replace h := h.tail)) rfl (by kernel_rfl) (by kernel_rfl) (by kernel_rfl) (fun _ _ _ h => h) (V.idxB st42 (OV.p rfl) (OV.p rfl) (fun hc => by first | omega | (simp at hc; omega))) rfl ?_
          refine WA.one (i := 16) (fun w h => by repeat (first | exact h | replace h := h.tail)) (by kernel_rfl) rfl ?_
          refine WL.store (cs := [_]) Tryz.sizeOf3 (OV.p rfl) (OV.p rfl) rfl rfl rfl (by repeat (first | exact Upd.at_ (by rw [Nat.zero_add, Nat.mul_one, ints_length]; omega) | apply Upd.up)) ?_
          refine WL.nil ?_
          refine WA.done (by kernel_rfl) (fun w h => by repeat (first | exact h | replace h := h.tail)) ?_
          refine WC.seq ?_
          refine WC.region ?_
          refine WL.val (V.assign (OV.p rfl)) rfl ?_
          refine WL.nil ?_
          refine WC.ret ?_
          have e1 : C.sem.force b p xs = ({ C.sem with pages := Chip.upds C.sem.pages (b, p) (some xs), wrong := Chip.upds C.sem.wrong (b, p) none, next := C.sem.setNext b (max (C.sem.nextOf b) (p + 1)) }, 0) := by
            unfold Chip.force; rw [if_neg (by rw [hl, hpage]; rintro (h | h); cases h; exact h hraw)]
          rw [e1]
          refine BodyQ.ret (H' := (((C.putPage (b, p) (A', c', xs) (SlA (.slice A' m c') 5 1 m (ints .u8 xs) :: C.own)).dropWrong (b, p)).putNext b (max (C.sem.nextOf b) (p + 1))).A bc :: F) (Res.tmp rfl rfl) (fun w h => ?_) ⟨_, ((hC.putPage (Cw.up_own _ _) (SeqIn.here fun K => by show Seq K _ A' xs.length 1 (ints .u8 xs); rw [hl]; exact SlA.seq (by simp [ints, hl])) (by show (xs.length : Int) = _; omega) hx).dropWrong _).putNext (by show 0 ≤ max (C.sem.nextOf b) (p + 1) ∧ max (C.sem.nextOf b) (p + 1) ≤ C.g.pg; omega), rfl, ?_, rfl⟩
          · have h1 := (h.sel 8 [0, 7, 1, 2, 3, 4, 5, 6] rfl).absorb
            have h2 := h1.sel 7 [1, 2, 3, 4, 5, 6, 0] rfl
            refine Sat.all (l := Cw.parts bc _) ?_
            unfold Cw.parts
            have e2 : (((C.putPage (b, p) (A', c', xs) (SlA (.slice A' m c') 5 1 m (ints .u8 xs) :: C.own)).dropWrong (b, p)).putNext b (max (C.sem.nextOf b) (p + 1))).pagesF = upd C.pagesF (b, p) (some (.slice A' m c')) := by
              refine (Cw.pagesF_put C (b, p) (A', c', xs) (SlA (.slice A' m c') 5 1 m (ints .u8 xs) :: C.own)).trans ?_
              unfold Cw.sliceOf; rw [hl]
            have e3 : (((C.putPage (b, p) (A', c', xs) (SlA (.slice A' m c') 5 1 m (ints .u8 xs) :: C.own)).dropWrong (b, p)).putNext b (max (C.sem.nextOf b) (p + 1))).wrongF = upd C.wrongF (b, p) none := Cw.wrongF_dropW (C.putPage (b, p) (A', c', xs) (SlA (.slice A' m c') 5 1 m (ints .u8 xs) :: C.own)) (b, p)
            have e4 : (((C.putPage (b, p) (A', c', xs) (SlA (.slice A' m c') 5 1 m (ints .u8 xs) :: C.own)).dropWrong (b, p)).putNext b (max (C.sem.nextOf b) (p + 1))).cells = C.cells := by
              unfold Cw.cells Cw.putNext Cw.dropWrong Cw.putPage
              simp
            rw [e2, e3, e4]
            rw [Nat.zero_add, Nat.mul_one, ints_set] at h2
            exact h2
          · rw [Cw.sem_putNext, Cw.sem_dropW, Cw.sem_put]; rfl
end Go.Proofs.YtohkefolnmcjnaaGreat
/- bch: a word is made. -/
namespace Go.Proofs.YtohkefolnmcjnaaGreat
open Go.Sl Go.RowKit
set_option linter.unusedVariables false
set_option linter.unusedSimpArgs false
set_option maxRecDepth 20000

theorem nats_ints (k : IntKind) (xs : List Nat) : nats k xs = ints k (xs.map fun x : Nat => (x : Int)) := by simp [nats, ints]
section
variable {K : World} {F : List Assn}
theorem clone_nats {A : Option Addr} {m cap : Nat} {xs : List Nat} (hs : Seq K F A m 1 (nats .u8 xs)) (hm : m ≤ 1000000) :
    Does Tryz.prog 110 #[.slice A m cap] K F (fun v H' => ∃ A' cap', v = .slice A' m cap' ∧ H' = SlA (.slice A' m cap') 5 1 m (nats .u8 xs) :: F) := by
  rw [nats_ints] at hs ⊢
  exact clone_bytes hs hm
/-- An own slice that is not empty is a row from its head on. -/
theorem slA_row {A : Option Addr} {m cap E : Nat} {cs : List Value} (hm : 0 < m) : ∀ w, Sat K w (SlA (.slice A m cap) E 1 m cs :: F) → ∃ x : Nat × List Value, (A = some ⟨x.1, 0, none⟩ ∧ (cs ++ x.2).length = cap ∧ cap ≤ maxLen) ∧ Sat K w (Cells x.1 E (cs ++ x.2) :: F) := fun w hw => by
  cases A with
  | none => have := (SlA.nilCs hw).1; omega
  | some a =>
    obtain ⟨g, rfl⟩ := SlA.addr hw
    obtain ⟨r, ⟨h1, h2, h3, h4⟩, h5⟩ := Sat.slCells hw
    exact ⟨(g, r), ⟨rfl, by show (cs ++ r).length = cap; omega, h4⟩, h5⟩
theorem bch_newWord {t : Nat} {A B : Option Addr} {m q cap cap' : Nat} {d mo : List Nat} (ht : 1 ≤ t ∧ t ≤ 8) (hd : Seq K F A m 1 (nats .u8 d)) (hm : Seq K F B q 1 (nats .u8 mo)) (hd8 : Small 256 d) (hm8 : Small 256 mo) (hdl : 1 ≤ m ∧ m ≤ 512) (hml : q = moreLen t) :
    Does Tryz.prog 164 #[.int .i64 (t : Int), .slice A m cap, .slice B q cap'] K F
      (fun v H' => ∃ bw, ∃ W : Wd, W.Ok ∧ W.t = t ∧ W.d = d ∧ W.m = maskM t mo ∧ (W.d.length ≤ W.c1 ∧ W.m.length ≤ W.c2) ∧ v = .tuple #[ptr bw 0, .int .i64 0] ∧ H' = W.parts bw ++ F) := by
  have hl : d.length = m := by simpa [nats] using hd.len
  have hql : mo.length = q := by simpa [nats] using hm.len
  have hq13 : q ≤ 13 := by rw [hml]; unfold moreLen; omega
  have hq0 : 0 < q := by rw [hml]; unfold moreLen; omega
  have hqt : 13 * t ≤ 8 * q := by rw [hml]; unfold moreLen; omega
  refine Does.enter Tryz.func164 rfl Tryz.ntmps164 rfl ?_
  simp only [env0, Nat.reduceAdd]
  refine WC.seq ?_
  refine WC.region ?_
  refine WL.val (V.assign (OV.p rfl)) rfl ?_
  refine WL.val (V.assign (OV.p rfl)) rfl ?_
  refine WL.nil ?_
  refine WC.seq ?_
  refine WC.region ?_
  refine WL.val (V.move (OV.p rfl)) rfl ?_
  refine WL.val (V.move (OV.p rfl)) rfl ?_
  refine WL.call (vs := [_, _]) Tryz.call148 ⟨OV.p rfl, OV.p rfl, trivial⟩ (bch_size ht hdl) rfl ?_
  rintro _ H0 ⟨rfl, h0⟩
  subst H0
  refine WL.val (V.move (OV.p rfl)) rfl ?_
  refine WL.val (V.extract (OV.p rfl) rfl) rfl ?_
  refine WL.val (V.extract (OV.p rfl) rfl) rfl ?_
  refine WL.val (V.assign (OV.p rfl)) rfl ?_
  refine WL.val (V.assign (OV.p rfl)) rfl ?_
  refine WL.nil ?_
  refine WC.seq ?_
  refine WC.seq ?_
  refine WC.region ?_
  refine WL.val (V.move (OV.p rfl)) rfl ?_
  refine WL.val (V.neq (OV.p rfl) (OV.p rfl)) rfl ?_
  refine WL.val (V.move (OV.p rfl)) rfl ?_
  refine WL.valG (oj := _) rfl rfl rfl GC.f (V.move (OV.p rfl)) rfl ?_
  refine WL.valG (oj := _) rfl rfl rfl GC.f (V.len (t := 38) Tryz.runUnderlying38 (OV.g rfl id)) rfl ?_
  refine WL.valG (oj := _) rfl rfl rfl GC.f (V.move (OV.p rfl)) rfl ?_
  refine WL.valG (oj := _) rfl rfl rfl GC.f (V.neq (OV.g rfl id) (OV.g rfl id)) rfl ?_
  refine WL.val (V.pickOr (OV.p rfl) (OV.g rfl id)) rfl ?_
  refine WL.nil ?_
  refine WC.condF' rfl ((by simp; rw [hml])) ?_
  refine WC.skip ?_
  refine WC.seq ?_
  refine WC.region ?_
  refine WL.val (V.move (OV.p rfl)) rfl ?_
  refine WL.val (V.move (OV.p rfl)) rfl ?_
  refine WL.call (vs := [_]) Tryz.call110 ⟨OV.p rfl, trivial⟩ (clone_nats hd (by omega)) rfl ?_
  rintro _ _ ⟨A1, c1, rfl, rfl⟩
  refine WL.ex (slA_row (by omega)) (fun ⟨g1, r1⟩ ⟨e1, hr1, hc1⟩ => ?_)
  dsimp only at e1 hr1 ⊢
  subst e1
  refine WL.val (V.move (OV.p rfl)) rfl ?_
  refine WL.call (vs := [_]) Tryz.call110 ⟨OV.p rfl, trivial⟩ (clone_nats hm.up (by omega)) rfl ?_
  rintro _ _ ⟨A2, c2, rfl, rfl⟩
  refine WL.ex (slA_row hq0) (fun ⟨g2, r2⟩ ⟨e2, hr2, hc2⟩ => ?_)
  dsimp only at e2 hr2 ⊢
  subst e2
  have hr1' : d.length ≤ c1 := by rw [← hr1, List.length_append, nats_length]; omega
  have hr2' : mo.length ≤ c2 := by rw [← hr2, List.length_append, nats_length]; omega
  refine WL.val (V.build (vs := [(0, _), (1, _), (2, _)]) ⟨OV.p rfl, OV.p rfl, OV.p rfl, trivial⟩ rfl (bld204_0_1_2 _ _ _ _ _ _ _)) rfl ?_
  refine WL.box (cs := [_, _, _]) (OV.p rfl) rfl rfl (fun b32 => ?_)
  refine WL.val (V.assign (OV.p rfl)) rfl ?_
  refine WL.nil ?_
  refine WC.seq ?_
  refine WC.seq ?_
  refine WC.region ?_
  refine WL.val (V.move (OV.p rfl)) rfl ?_
  refine WL.val (V.mulI (OV.p rfl) (OV.p rfl) (fun hc => by first | omega | (simp at hc; omega))) rfl ?_
  refine WL.val (V.assign (OV.p rfl)) rfl ?_
  refine WL.nil ?_
  refine WC.block ?_
  refine WC.loop (σ := Nat) (fun k => [(10, ptr b32 0), (8, .int .i64 (q : Int)), (11, .int .i64 ((13 * t + k : Nat) : Int))]) (fun k => Cells g2 5 (nats .u8 (maskTo mo (13 * t) k) ++ r2) :: Cells b32 204 [.int .i64 (t : Int), .slice (some ⟨g1, 0, none⟩) m c1, .slice (some ⟨g2, 0, none⟩) q c2] :: Cells g1 5 (nats .u8 d ++ r1) :: F) (fun k => 13 * t + k ≤ 8 * q) (fun k => 8 * q - k) 0 (by simpa using hqt) (.cons rfl (.cons (look_eq rfl (by rw [hml])) (.cons (look_eq rfl (by simp)) (.nil _)))) (fun w h => h.p1) ?_
  rintro k hk
  refine WC.seq ?_
  refine WC.seq ?_
  refine WC.region ?_
  refine WL.val (V.move (OV.p rfl)) rfl ?_
  refine WL.val (V.move (OV.p rfl)) rfl ?_
  refine WL.val (V.mulI (OV.p rfl) (OV.p rfl) (fun hc => by first | omega | (simp at hc; omega))) rfl ?_
  refine WL.val (V.lss (OV.p rfl) (OV.p rfl)) rfl ?_
  refine WL.nil ?_
  refine WC.cond rfl (fun hc1 => ?_) (fun hc1 => ?_)
  · simp only [decide_eq_true_eq, decide_eq_false_iff_not] at hc1
    obtain ⟨o, ho⟩ : ∃ o, o = maskTo mo (13 * t) k := ⟨_, rfl⟩
    have hol : o.length = q := by rw [ho, maskTo_length, hql]
    have hos : Small 256 o := by rw [ho]; exact maskTo_small hm8 k
    rw [← ho]
    obtain ⟨i, hi⟩ : ∃ i, i = 13 * t + k := ⟨_, rfl⟩
    rw [← hi]
    have hg1 : (nats .u8 o ++ r2)[0 + ((i : Int) / 8).toNat * 1]? = some (.int .u8 (o.getD (i / 8) 0 : Nat)) := by rw [show 0 + ((i : Int) / 8).toNat * 1 = i / 8 by omega]; exact nats_getA _ _ _ (by omega)
    have hcl := clr8_code (hos.at_ (by decide) (i / 8)) (Nat.mod_lt i (show 0 < 8 by decide))
    refine WC.skip ?_
    refine WC.seq ?_
    refine WC.block ?_
    refine WC.regionA (Cells b32 204 [.int .i64 (t : Int), .slice (some ⟨g1, 0, none⟩) m c1, .slice (some ⟨g2, 0, none⟩) q c2] :: Cells g1 5 (nats .u8 d ++ r1) :: F) (by kernel_rfl) ?_
    refine WA.take 0 (fun w h => by repeat (first | exact h | replace h := h.tail)) rfl (by kernel_rfl) (by kernel_rfl) (by kernel_rfl) (fun _ _ _ h => h) (V.move (OV.p rfl)) rfl ?_
    refine WA.take 1 (fun w h => by repeat (first | exact h | replace h := h.tail)) rfl (by kernel_rfl) (by kernel_rfl) (by kernel_rfl) (fun _ _ _ h => h) (V.nilCheck (OV.p rfl)) rfl ?_
    refine WA.take 2 (fun w h => by repeat (first | exact h | replace h := h.tail)) rfl (by kernel_rfl) (by kernel_rfl) (by kernel_rfl) (fun _ _ _ h => h) (V.fieldAddr fo204_2 (OV.p rfl)) rfl ?_
    refine WA.take 3 (fun w h => by repeat (first | exact h | replace h := h.tail)) rfl (by kernel_rfl) (by kernel_rfl) (by kernel_rfl) (fun _ _ _ h => h) (V.load Tryz.isAgg38 (OV.p rfl) (fun _ => by repeat (first | exact Rd.here rfl | apply Rd.up))) rfl ?_
    refine WA.take 4 (fun w h => by repeat (first | exact h | replace h := h.tail)) rfl (by kernel_rfl) (by kernel_rfl) (by kernel_rfl) (fun _ _ _ h => h) (V.move (OV.p rfl)) rfl ?_
    refine WA.take 5 (fun w h => by repeat (first | exact h | replace h := h.tail)) rfl (by kernel_rfl) (by kernel_rfl) (by kernel_rfl) (fun _ _ _ h => h) (V.quoI (OV.p rfl) (OV.p rfl) (fun hc => by first | omega | (simp at hc; omega))) rfl ?_
    refine WA.take 6 (fun w h => by repeat (first | exact h | replace h := h.tail)) rfl (by kernel_rfl) (by kernel_rfl) (by kernel_rfl) (fun _ _ _ h => h) (V.idxB st38 (OV.p rfl) (OV.p rfl) (fun hc => by omega)) rfl ?_
    refine WA.take 8 (fun w h => by repeat (first | exact h | replace h := h.tail)) rfl (by kernel_rfl) (by kernel_rfl) (by kernel_rfl) (fun _ _ _ h => h) (V.move (OV.p rfl)) rfl ?_
    refine WA.take 9 (fun w h => by repeat (first | exact h | replace h := h.tail)) rfl (by kernel_rfl) (by kernel_rfl) (by kernel_rfl) (fun _ _ _ h => h) (V.val_eq (v' := .int .i64 ((i % 8 : Nat) : Int)) (V.remI (OV.p rfl) (OV.p rfl) (fun _ => by omega)) (fun _ => by simp)) rfl ?_
    refine WA.take 10 (fun w h => by repeat (first | exact h | replace h := h.tail)) rfl (by kernel_rfl) (by kernel_rfl) (by kernel_rfl) (fun _ _ _ h => h) (V.shl (OV.p rfl) (OV.p rfl) (by omega)) rfl ?_
    refine WA.one (i := 7) (fun w h => by repeat (first | exact h | replace h := h.tail)) (by kernel_rfl) rfl ?_
    refine WL.val (V.load Tryz.isAgg5 (OV.p rfl) (fun hc => Rd.here hg1)) rfl ?_
    refine WL.nil ?_
    refine WA.take 11 (fun w h => by repeat (first | exact h | replace h := h.tail)) rfl (by kernel_rfl) (by kernel_rfl) (by kernel_rfl) (fun _ _ _ h => h) (V.val_eq (v' := .int .u8 ((clr8 (o.getD (i / 8) 0) (i % 8) : Nat) : Int)) (V.andNot (OV.p rfl) (OV.p rfl)) (fun _ => by rw [hcl.1])) rfl ?_
    refine WA.take 12 (fun w h => by repeat (first | exact h | replace h := h.tail)) rfl (by kernel_rfl) (by kernel_rfl) (by kernel_rfl) (fun _ _ _ h => h) (V.idxB st38 (OV.p rfl) (OV.p rfl) (fun hc => by omega)) rfl ?_
    refine WA.one (i := 13) (fun w h => by repeat (first | exact h | replace h := h.tail)) (by kernel_rfl) rfl ?_
    refine WL.store (cs := [_]) Tryz.sizeOf5 (OV.p rfl) (OV.p rfl) rfl rfl rfl (Upd.at_ (by rw [List.length_append, nats_length]; omega)) ?_
    refine WL.nil ?_
    refine WA.done (by kernel_rfl) (fun w h => by repeat (first | exact h | replace h := h.tail)) ?_
    refine WC.region ?_
    refine WL.val (V.move (OV.p rfl)) rfl ?_
    refine WL.val (V.addI (OV.p rfl) (OV.p rfl) (fun hc => by first | omega | (simp at hc; omega))) rfl ?_
    refine WL.val (V.assign (OV.p rfl)) rfl ?_
    refine WL.nil ?_
    refine ⟨rfl, ?_⟩
    refine ⟨k + 1, (by show 13 * t + (k + 1) ≤ 8 * q; omega), (by show 8 * q - (k + 1) < 8 * q - k; omega), .cons rfl (.cons rfl (.cons (look_eq rfl (by rw [hi]; simp; omega)) (.nil _))), fun w h => Sat.cells_eq h ?_⟩
    rw [show 0 + ((i : Int) / 8).toNat * 1 = i / 8 by omega, nats_setA _ _ _ (by omega), maskTo, ← ho, ← hi]
  · simp only [decide_eq_true_eq, decide_eq_false_iff_not] at hc1
    refine WC.exit ?_
    refine WC.seq ?_
    have hke : k = 8 * moreLen t - 13 * t := by omega
    have hmm : maskTo mo (13 * t) k = maskM t mo := by unfold maskM; rw [hke]
    rw [hmm]
    have hmml : (maskM t mo).length = q := by unfold maskM; rw [maskTo_length, hql]
    refine WC.region ?_
    refine WL.val (V.move (OV.p rfl)) rfl ?_
    refine WL.val (V.assign (OV.p rfl)) rfl ?_
    refine WL.val (V.assign (OV.p rfl)) rfl ?_
    refine WL.nil ?_
    refine WC.ret ?_
    refine BodyQ.ret (H' := Wd.parts b32 ⟨t, d, maskM t mo, g1, c1, g2, c2, r1, r2⟩ ++ F) (Res.tmp2 rfl rfl rfl) (fun w h => ?_) ⟨b32, ⟨t, d, maskM t mo, g1, c1, g2, c2, r1, r2⟩, ⟨ht, by show 1 ≤ d.length ∧ d.length ≤ 512; omega, by show (maskM t mo).length = moreLen t; omega, hd8, maskTo_small hm8 _⟩, rfl, rfl, rfl, ⟨hr1', by show (maskM t mo).length ≤ c2; omega⟩, rfl, rfl⟩
    have h' := h.sel 3 [1, 2, 0] rfl
    dsimp only [Wd.parts, Wd.cells, List.cons_append, List.nil_append]
    rw [hl, hmml]
    exact h'
end
end Go.Proofs.YtohkefolnmcjnaaGreat
