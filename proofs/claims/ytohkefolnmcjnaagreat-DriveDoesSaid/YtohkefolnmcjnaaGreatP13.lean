import Derived.Test.YtohkefolnmcjnaaGreatP12
import Derived.Test.YtohkefolnmcjnaaGreatP9
import Derived.Test.YtohkefolnmcjnaaGreatP5
import Derived.Lib.AppendZeros
/- slices.Clone; the chip: Force. -/
namespace Go.Proofs.YtohkefolnmcjnaaGreat
open Go.Sl Go.RowKit
set_option linter.unusedVariables false
set_option linter.unusedSimpArgs false
set_option maxRecDepth 20000

theorem clone_bytes {A : Option Addr} {m cap : Nat} {xs : List Int} {K : World} {F : List Assn} (hs : Seq K F A m 1 (ints .u8 xs)) (hm : m ≤ 1000000) :
    Does Tryz.prog 110 #[.slice A m cap] K F (fun v H' => ∃ A' cap', v = .slice A' m cap' ∧ H' = SlA (.slice A' m cap') 5 1 m (ints .u8 xs) :: F) := by
  have hl : xs.length = m := by simpa [ints] using hs.len
  refine Does.have_ (p := A = none → xs = []) (fun w hw hA => by subst hA; simpa [ints] using hs.none_nil hw) (fun hnil => ?_)
  refine Does.enter Tryz.func110 rfl Tryz.ntmps110 rfl ?_
  simp only [env0, Nat.reduceAdd]
  refine WC.sr ?_
  refine WL.val (V.assign (OV.p rfl)) rfl ?_
  refine WL.nil ?_
  refine WC.seq ?_
  refine WC.sr ?_
  refine WL.val (V.move (OV.p rfl)) rfl ?_
  refine WL.val (V.eqlNil Tryz.underlying38 (OV.p rfl)) rfl ?_
  refine WL.nil ?_
  refine WC.cond rfl (fun hc0 => ?_) (fun hc0 => ?_)
  ·skip
   have hA : A = none := by cases A <;> simp at hc0 ⊢
   subst hA
   have hx := hnil rfl
   subst hx
   obtain rfl : m = 0 := hl.symm
   refine WC.sr ?_
   refine WL.val (V.assign (OV.p rfl)) rfl ?_
   refine WL.nil ?_
   refine WC.ret ?_
   exact BodyQ.ret (H' := SlA (.slice none 0 0) _ 1 0 [] :: F) (Res.tmp rfl rfl) (fun w h => Sat.slNil h _ _) ⟨none, 0, rfl, rfl⟩
  ·skip
   refine WC.skip ?_
   refine WC.sr ?_
   refine WL.buildSlice (E := 5) (cs := []) (vs := []) trivial rfl (bsl38_0 ) rfl (fun b5 => ?_)
   refine WL.val (V.move (OV.p rfl)) rfl ?_
   refine WL.sub (Sub.refl _) (fun w h => Sat.toSl (m := 0) (cap := 0) (s := 1) h rfl (Nat.le_refl _) (Nat.zero_le _)) ?_
   refine WL.append (m := 0) (cs := []) Tryz.underlying38 el5 (OV.p rfl) (OV.p rfl) (by repeat (first | exact hs | apply Seq.up)) (ints_one _ _) (by omega) rfl rfl (fun A' c' hn' hc' => ?_)
   refine WL.val (V.assign (OV.p rfl)) rfl ?_
   refine WL.nil ?_
   refine WC.ret ?_
   refine BodyQ.ret (H' := SlA (.slice A' m c') _ 1 m (ints .u8 xs) :: F) (Res.tmp rfl (look_eq rfl (by simp))) (fun w h => ?_) ⟨A', c', rfl, rfl⟩
   simpa using h

namespace Cw
def dropWrong (C : Cw) (k : Int × Int) : Cw := { C with wrong := fun q => if q = k then none else C.wrong q }
theorem wrongF_dropW (C : Cw) (k : Int × Int) : (C.dropWrong k).wrongF = upd C.wrongF k none := by
  funext q
  show (if q = k then none else C.wrong q).map sliceOf = if q = k then none else (C.wrong q).map sliceOf
  split <;> rfl
theorem sem_dropW (C : Cw) (k : Int × Int) : (C.dropWrong k).sem = { C.sem with wrong := Chip.upds C.sem.wrong k none } := by
  unfold sem dropWrong
  simp only [Chip.mk.injEq, true_and, and_true]
  funext q
  show (if q = k then none else C.wrong q).map (·.2.2) = if q = k then none else (C.wrong q).map (·.2.2)
  split <;> rfl
theorem Ok.dropWrong {C : Cw} (h : C.Ok) (k : Int × Int) : (C.dropWrong k).Ok := by
  refine ⟨h.mays, h.page, fun p e hp => ?_, h.len, h.next, h.left⟩
  have hp' : (if p = k then none else C.wrong p) = some e := hp
  split at hp'
  · cases hp'
  · exact h.wr p e hp'
end Cw

theorem chip_Force {bc : Nat} {C : Cw} (hC : C.Ok) {B : Option Addr} {m cap : Nat} {xs : List Int} (b p : Int) (hx : IsBytes xs) {K : World} {F : List Assn} (hs : Seq K F B m 1 (ints .u8 xs)) :
    Does Tryz.prog 66 #[ptr bc 0, .int .i64 b, .int .i64 p, .slice B m cap] K (C.A bc :: F)
      (fun v H' => ∃ C' : Cw, C'.Ok ∧ H' = C'.A bc :: F ∧ C'.sem = (C.sem.force b p xs).1 ∧ v = .int .i64 (C.sem.force b p xs).2) := by
  have hl : xs.length = m := by simpa [ints] using hs.len
  have hlen := hC.len
  have hr := Geo.raw_bd hC.mays
  have hm := hC.mays
  unfold Geo.mays at hm
  refine Does.openC ?_
  dsimp only [Cw.parts, List.cons_append, List.nil_append]
  refine Does.enter Tryz.func66 rfl Tryz.ntmps66 rfl ?_
  simp only [env0, Nat.reduceAdd]
  refine WC.sr ?_
  refine WL.val (V.assign (OV.p rfl)) rfl ?_
  refine WL.nil ?_
  refine WC.seq ?_
  refine WC.block ?_
  refine WC.sr ?_
  refine WL.val (V.move (OV.p rfl)) rfl ?_
  refine WL.val (V.eqlP Tryz.underlying27 (OV.p rfl) (OV.p rfl)) rfl ?_
  refine WL.val (V.assign (OV.p rfl)) rfl ?_
  refine WL.nil ?_
  refine WC.condF' rfl (by first | rfl | (simp; done) | (simp; omega)) ?_
  refine WC.sr ?_
  refine WL.val (V.move (OV.p rfl)) rfl ?_
  refine WL.val (V.move (OV.p rfl)) rfl ?_
  refine WL.val (V.move (OV.p rfl)) rfl ?_
  refine WL.call (vs := [_, _, _]) Tryz.call80 ⟨OV.p rfl, OV.p rfl, OV.p rfl, trivial⟩ (chip_page (C := C) b p (by repeat (first | exact Rds.all | apply Rds.up))) rfl ?_
  rintro _ H0 ⟨rfl, h0⟩
  subst H0
  refine WL.val (V.not (OV.p rfl)) rfl ?_
  refine WL.val (V.move (OV.p rfl)) rfl ?_
  refine WL.valG (oj := _) rfl rfl rfl GC.f (V.move (OV.p rfl)) rfl ?_
  refine WL.valG (oj := _) rfl rfl rfl GC.f (V.len (t := 38) Tryz.runUnderlying38 (OV.g rfl id)) rfl ?_
  refine WL.valG (oj := _) rfl rfl rfl GC.f (V.move (OV.p rfl)) rfl ?_
  refine WL.valG (oj := _) rfl rfl rfl GC.f (V.nilCheck (OV.g rfl id)) rfl ?_
  refine WL.valG (oj := _) rfl rfl rfl GC.f (V.fieldAddr fo92_1 (OV.g rfl id)) rfl ?_
  refine WL.valG (oj := _) rfl rfl rfl GC.f (V.load Tryz.isAgg3 (OV.g rfl id) (fun _ => by repeat (first | exact Rd.here rfl | apply Rd.up))) rfl ?_
  refine WL.valG (oj := _) rfl rfl rfl GC.f (V.neq (OV.g rfl id) (OV.g rfl id)) rfl ?_
  refine WL.val (V.pickOr (OV.p rfl) (OV.g rfl id)) rfl ?_
  refine WL.val (V.assign (OV.p rfl)) rfl ?_
  refine WL.nil ?_
  refine WC.cond rfl (fun hc1 => ?_) (fun hc1 => ?_)
  ·simp only [decide_eq_true_eq, decide_eq_false_iff_not, Bool.and_eq_true, Bool.or_eq_true, Bool.and_eq_false_iff, Bool.or_eq_false_iff, Bool.not_eq_true', Bool.not_eq_false', Bool.not_eq_true, Bool.not_eq_false, decide_eq_true_eq, decide_eq_false_iff_not] at hc1
   refine WC.sr ?_
   refine WL.val (V.assign (OV.p rfl)) rfl ?_
   refine WL.nil ?_
   refine WC.ret ?_
   have e1 : C.sem.force b p xs = (C.sem, 1) := by unfold Chip.force; rw [if_pos (by rw [hl]; exact hc1)]
   rw [e1]
   exact BodyQ.ret (H' := C.A bc :: F) (Res.tmp rfl rfl) (fun w h => Sat.all (l := C.parts bc) h) ⟨C, hC, rfl, rfl, rfl⟩
  ·simp only [decide_eq_true_eq, decide_eq_false_iff_not, Bool.and_eq_true, Bool.or_eq_true, Bool.and_eq_false_iff, Bool.or_eq_false_iff, Bool.not_eq_true', Bool.not_eq_false', Bool.not_eq_true, Bool.not_eq_false, decide_eq_true_eq, decide_eq_false_iff_not] at hc1
   obtain ⟨hpage, hraw⟩ := hc1
   have hpg : 0 ≤ b ∧ b < C.g.bl ∧ 0 ≤ p ∧ p < C.g.pg := by
     have h := hpage
     simp only [Chip.page, Chip.block, Bool.and_eq_true, decide_eq_true_eq] at h
     exact ⟨h.1.1.1, h.1.1.2, h.1.2, h.2⟩
   have hnx : 0 ≤ C.sem.nextOf b ∧ C.sem.nextOf b ≤ C.g.pg := by
     have h1 : C.sem.nextOf b = C.next.getD b.toNat 0 := rfl
     have h2 : b.toNat < C.next.length := by omega
     rw [h1, List.getD, List.getElem?_eq_getElem h2]
     exact hC.next _ (List.getElem_mem h2)
   have hget : (ints .i64 C.next)[0 + b.toNat * 1]? = some (.int .i64 (C.sem.nextOf b)) := by
     rw [Nat.zero_add, Nat.mul_one]; exact ints_getD _ _ (by omega)
   refine WC.skip ?_
   refine WC.seq ?_
   refine WC.regionA F (by kernel_rfl) ?_
   refine WA.t 0 rfl (V.move (OV.p rfl)) ?_
   refine WA.t 1 rfl (V.nilCheck (OV.p rfl)) ?_
   refine WA.t 2 rfl (V.fieldAddr fo92_2 (OV.p rfl)) ?_
   refine WA.t 4 rfl (V.move (OV.p rfl)) ?_
   refine WA.t 5 rfl (V.move (OV.p rfl)) ?_
   refine WA.t 6 rfl (V.build (vs := [(0, _), (1, _)]) ⟨OV.p rfl, OV.p rfl, trivial⟩ rfl (bld120_0_1 _ _)) ?_
   refine WA.t 7 rfl (V.move (OV.p rfl)) ?_
   refine WA.two (i := 3) (j := 8) (fun w h => by repeat (first | exact h | replace h := h.tail)) (by kernel_rfl) rfl rfl ?_ ?_
   ·refine WL.val (V.load Tryz.isAgg88 (OV.p rfl) (fun _ => by repeat (first | exact Rd.here rfl | apply Rd.up))) rfl ?_
    refine WL.nil ?_
    refine WA.o 8 rfl ?_
    refine WL.call (vs := [_]) Tryz.call110 ⟨OV.p rfl, trivial⟩ (clone_bytes (xs := xs) (by repeat (first | exact hs | apply Seq.up)) (by omega)) rfl ?_
    rintro _ _ ⟨A', c', rfl, rfl⟩
    refine WL.nil ?_
    refine WA.o 9 rfl ?_
    refine WL.mapUpdateR (k := (_, _)) Tryz.underlying88 kl120 (OV.p rfl) (OV.p rfl) (OV.p rfl) (by repeat (first | exact Repl.here | apply Repl.up)) ?_
    refine WL.nil ?_
    refine WA.fin ?_
    refine WC.sr ?_
    refine WL.val (V.move (OV.p rfl)) rfl ?_
    refine WL.val (V.nilCheck (OV.p rfl)) rfl ?_
    refine WL.val (V.fieldAddr fo92_3 (OV.p rfl)) rfl ?_
    refine WL.val (V.load Tryz.isAgg89 (OV.p rfl) (fun _ => by repeat (first | exact Rd.here rfl | apply Rd.up))) rfl ?_
    refine WL.val (V.move (OV.p rfl)) rfl ?_
    refine WL.val (V.move (OV.p rfl)) rfl ?_
    refine WL.val (V.build (vs := [(0, _), (1, _)]) ⟨OV.p rfl, OV.p rfl, trivial⟩ rfl (bld120_0_1 _ _)) rfl ?_
    refine WL.delete0R (k := (_, _)) Tryz.underlying89 kl120 (OV.p rfl) (OV.p rfl) (by repeat (first | exact Repl.here | apply Repl.up)) ?_
    refine WL.nil ?_
    refine WC.seq ?_
    refine WC.regionA F (by kernel_rfl) ?_
    refine WA.t 0 rfl (V.move (OV.p rfl)) ?_
    refine WA.t 1 rfl (V.nilCheck (OV.p rfl)) ?_
    refine WA.t 2 rfl (V.fieldAddr fo92_4 (OV.p rfl)) ?_
    refine WA.t 4 rfl (V.move (OV.p rfl)) ?_
    refine WA.t 5 rfl (V.move (OV.p rfl)) ?_
    refine WA.t 6 rfl (V.nilCheck (OV.p rfl)) ?_
    refine WA.t 7 rfl (V.fieldAddr fo92_4 (OV.p rfl)) ?_
    refine WA.t 9 rfl (V.move (OV.p rfl)) ?_
    refine WA.t 12 rfl (V.move (OV.p rfl)) ?_
    refine WA.t 13 rfl (V.addI (OV.p rfl) (OV.p rfl) (fun hc => by first | omega | (simp at hc; omega))) ?_
    refine WA.two (i := 3) (j := 8) (fun w h => by repeat (first | exact h | replace h := h.tail)) (by kernel_rfl) rfl rfl ?_ ?_
    ·refine WL.val (V.load Tryz.isAgg42 (OV.p rfl) (fun _ => by repeat (first | exact Rd.here rfl | apply Rd.up))) rfl ?_
     refine WL.nil ?_
     refine WA.o 8 rfl ?_
     refine WL.val (V.load Tryz.isAgg42 (OV.p rfl) (fun _ => by repeat (first | exact Rd.here rfl | apply Rd.up))) rfl ?_
     refine WL.nil ?_
     refine WA.t 10 rfl (V.idxB st42 (OV.p rfl) (OV.p rfl) (fun hc => by first | omega | (simp at hc; omega))) ?_
     refine WA.o 11 rfl ?_
     refine WL.val (V.load Tryz.isAgg3 (OV.p rfl) (fun _ => by repeat (first | exact Rd.here hget | apply Rd.up))) rfl ?_
     refine WL.nil ?_
     refine WA.t 14 rfl (V.max (OV.p rfl) (OV.p rfl)) ?_
     refine WA.t 15 rfl (V.idxB st42 (OV.p rfl) (OV.p rfl) (fun hc => by first | omega | (simp at hc; omega))) ?_
     refine WA.o 16 rfl ?_
     refine WL.store (cs := [_]) Tryz.sizeOf3 (OV.p rfl) (OV.p rfl) rfl rfl rfl (by repeat (first | exact Upd.at_ (by rw [Nat.zero_add, Nat.mul_one, ints_length]; omega) | apply Upd.up)) ?_
     refine WL.nil ?_
     refine WA.fin ?_
     refine WC.sr ?_
     refine WL.val (V.assign (OV.p rfl)) rfl ?_
     refine WL.nil ?_
     refine WC.ret ?_
     have e1 : C.sem.force b p xs = ({ C.sem with pages := Chip.upds C.sem.pages (b, p) (some xs), wrong := Chip.upds C.sem.wrong (b, p) none, next := C.sem.setNext b (max (C.sem.nextOf b) (p + 1)) }, 0) := by
       unfold Chip.force; rw [if_neg (by rw [hl, hpage]; rintro (h | h); cases h; exact h hraw)]
     rw [e1]
     refine BodyQ.ret (H' := (((C.putPage (b, p) (A', c', xs) (SlA (.slice A' m c') 5 1 m (ints .u8 xs) :: C.own)).dropWrong (b, p)).putNext b (max (C.sem.nextOf b) (p + 1))).A bc :: F) (Res.tmp rfl rfl) (fun w h => ?_) ⟨_, ((hC.putPage (Cw.up_own _ _) (SeqIn.here fun K => by show Seq K _ A' xs.length 1 (ints .u8 xs); rw [hl]; exact SlA.seq (by simp [ints, hl])) (by show (xs.length : Int) = _; omega) hx).dropWrong _).putNext (by show 0 ≤ max (C.sem.nextOf b) (p + 1) ∧ max (C.sem.nextOf b) (p + 1) ≤ C.g.pg; omega), rfl, ?_, rfl⟩
     · have h1 := (h.sel 8 [0, 7, 1, 2, 3, 4, 5, 6] rfl).absorb
       have h2 := h1.sel 7 [1, 2, 3, 4, 5, 6, 0] rfl
       refine Sat.all (l := Cw.parts bc _) ?_
       unfold Cw.parts
       have e2 : (((C.putPage (b, p) (A', c', xs) (SlA (.slice A' m c') 5 1 m (ints .u8 xs) :: C.own)).dropWrong (b, p)).putNext b (max (C.sem.nextOf b) (p + 1))).pagesF = upd C.pagesF (b, p) (some (.slice A' m c')) := by
         refine (Cw.pagesF_put C (b, p) (A', c', xs) (SlA (.slice A' m c') 5 1 m (ints .u8 xs) :: C.own)).trans ?_
         unfold Cw.sliceOf; rw [hl]
       have e3 : (((C.putPage (b, p) (A', c', xs) (SlA (.slice A' m c') 5 1 m (ints .u8 xs) :: C.own)).dropWrong (b, p)).putNext b (max (C.sem.nextOf b) (p + 1))).wrongF = upd C.wrongF (b, p) none := Cw.wrongF_dropW (C.putPage (b, p) (A', c', xs) (SlA (.slice A' m c') 5 1 m (ints .u8 xs) :: C.own)) (b, p)
       have e4 : (((C.putPage (b, p) (A', c', xs) (SlA (.slice A' m c') 5 1 m (ints .u8 xs) :: C.own)).dropWrong (b, p)).putNext b (max (C.sem.nextOf b) (p + 1))).cells = C.cells := by
         unfold Cw.cells Cw.putNext Cw.dropWrong Cw.putPage
         simp
       rw [e2, e3, e4]
       rw [Nat.zero_add, Nat.mul_one, ints_set] at h2
       exact h2
     · rw [Cw.sem_putNext, Cw.sem_dropW, Cw.sem_put]; rfl
    ·refine WL.val (V.load Tryz.isAgg42 (OV.p rfl) (fun _ => by repeat (first | exact Rd.here rfl | apply Rd.up))) rfl ?_
     refine WL.nil ?_
     refine WA.t 10 rfl (V.idxB st42 (OV.p rfl) (OV.p rfl) (fun hc => by first | omega | (simp at hc; omega))) ?_
     refine WA.two (i := 3) (j := 11) (fun w h => by repeat (first | exact h | replace h := h.tail)) (by kernel_rfl) rfl rfl ?_ ?_
     ·refine WL.val (V.load Tryz.isAgg42 (OV.p rfl) (fun _ => by repeat (first | exact Rd.here rfl | apply Rd.up))) rfl ?_
      refine WL.nil ?_
      refine WA.o 11 rfl ?_
      refine WL.val (V.load Tryz.isAgg3 (OV.p rfl) (fun _ => by repeat (first | exact Rd.here hget | apply Rd.up))) rfl ?_
      refine WL.nil ?_
      refine WA.t 14 rfl (V.max (OV.p rfl) (OV.p rfl)) ?_
      refine WA.t 15 rfl (V.idxB st42 (OV.p rfl) (OV.p rfl) (fun hc => by first | omega | (simp at hc; omega))) ?_
      refine WA.o 16 rfl ?_
      refine WL.store (cs := [_]) Tryz.sizeOf3 (OV.p rfl) (OV.p rfl) rfl rfl rfl (by repeat (first | exact Upd.at_ (by rw [Nat.zero_add, Nat.mul_one, ints_length]; omega) | apply Upd.up)) ?_
      refine WL.nil ?_
      refine WA.fin ?_
      refine WC.sr ?_
      refine WL.val (V.assign (OV.p rfl)) rfl ?_
      refine WL.nil ?_
      refine WC.ret ?_
      have e1 : C.sem.force b p xs = ({ C.sem with pages := Chip.upds C.sem.pages (b, p) (some xs), wrong := Chip.upds C.sem.wrong (b, p) none, next := C.sem.setNext b (max (C.sem.nextOf b) (p + 1)) }, 0) := by
        unfold Chip.force; rw [if_neg (by rw [hl, hpage]; rintro (h | h); cases h; exact h hraw)]
      rw [e1]
      refine BodyQ.ret (H' := (((C.putPage (b, p) (A', c', xs) (SlA (.slice A' m c') 5 1 m (ints .u8 xs) :: C.own)).dropWrong (b, p)).putNext b (max (C.sem.nextOf b) (p + 1))).A bc :: F) (Res.tmp rfl rfl) (fun w h => ?_) ⟨_, ((hC.putPage (Cw.up_own _ _) (SeqIn.here fun K => by show Seq K _ A' xs.length 1 (ints .u8 xs); rw [hl]; exact SlA.seq (by simp [ints, hl])) (by show (xs.length : Int) = _; omega) hx).dropWrong _).putNext (by show 0 ≤ max (C.sem.nextOf b) (p + 1) ∧ max (C.sem.nextOf b) (p + 1) ≤ C.g.pg; omega), rfl, ?_, rfl⟩
      · have h1 := (h.sel 8 [0, 7, 1, 2, 3, 4, 5, 6] rfl).absorb
        have h2 := h1.sel 7 [1, 2, 3, 4, 5, 6, 0] rfl
        refine Sat.all (l := Cw.parts bc _) ?_
        unfold Cw.parts
        have e2 : (((C.putPage (b, p) (A', c', xs) (SlA (.slice A' m c') 5 1 m (ints .u8 xs) :: C.own)).dropWrong (b, p)).putNext b (max (C.sem.nextOf b) (p + 1))).pagesF = upd C.pagesF (b, p) (some (.slice A' m c')) := by
          refine (Cw.pagesF_put C (b, p) (A', c', xs) (SlA (.slice A' m c') 5 1 m (ints .u8 xs) :: C.own)).trans ?_
          unfold Cw.sliceOf; rw [hl]
        have e3 : (((C.putPage (b, p) (A', c', xs) (SlA (.slice A' m c') 5 1 m (ints .u8 xs) :: C.own)).dropWrong (b, p)).putNext b (max (C.sem.nextOf b) (p + 1))).wrongF = upd C.wrongF (b, p) none := Cw.wrongF_dropW (C.putPage (b, p) (A', c', xs) (SlA (.slice A' m c') 5 1 m (ints .u8 xs) :: C.own)) (b, p)
        have e4 : (((C.putPage (b, p) (A', c', xs) (SlA (.slice A' m c') 5 1 m (ints .u8 xs) :: C.own)).dropWrong (b, p)).putNext b (max (C.sem.nextOf b) (p + 1))).cells = C.cells := by
          unfold Cw.cells Cw.putNext Cw.dropWrong Cw.putPage
          simp
        rw [e2, e3, e4]
        rw [Nat.zero_add, Nat.mul_one, ints_set] at h2
        exact h2
      · rw [Cw.sem_putNext, Cw.sem_dropW, Cw.sem_put]; rfl
     ·refine WL.val (V.load Tryz.isAgg3 (OV.p rfl) (fun _ => by repeat (first | exact Rd.here hget | apply Rd.up))) rfl ?_
      refine WL.nil ?_
      refine WA.t 14 rfl (V.max (OV.p rfl) (OV.p rfl)) ?_
      refine WA.o 3 rfl ?_
      refine WL.val (V.load Tryz.isAgg42 (OV.p rfl) (fun _ => by repeat (first | exact Rd.here rfl | apply Rd.up))) rfl ?_
      refine WL.nil ?_
      refine WA.t 15 rfl (V.idxB st42 (OV.p rfl) (OV.p rfl) (fun hc => by first | omega | (simp at hc; omega))) ?_
      refine WA.o 16 rfl ?_
      refine WL.store (cs := [_]) Tryz.sizeOf3 (OV.p rfl) (OV.p rfl) rfl rfl rfl (by repeat (first | exact Upd.at_ (by rw [Nat.zero_add, Nat.mul_one, ints_length]; omega) | apply Upd.up)) ?_
      refine WL.nil ?_
      refine WA.fin ?_
      refine WC.sr ?_
      refine WL.val (V.assign (OV.p rfl)) rfl ?_
      refine WL.nil ?_
      refine WC.ret ?_
      have e1 : C.sem.force b p xs = ({ C.sem with pages := Chip.upds C.sem.pages (b, p) (some xs), wrong := Chip.upds C.sem.wrong (b, p) none, next := C.sem.setNext b (max (C.sem.nextOf b) (p + 1)) }, 0) := by
        unfold Chip.force; rw [if_neg (by rw [hl, hpage]; rintro (h | h); cases h; exact h hraw)]
      rw [e1]
      refine BodyQ.ret (H' := (((C.putPage (b, p) (A', c', xs) (SlA (.slice A' m c') 5 1 m (ints .u8 xs) :: C.own)).dropWrong (b, p)).putNext b (max (C.sem.nextOf b) (p + 1))).A bc :: F) (Res.tmp rfl rfl) (fun w h => ?_) ⟨_, ((hC.putPage (Cw.up_own _ _) (SeqIn.here fun K => by show Seq K _ A' xs.length 1 (ints .u8 xs); rw [hl]; exact SlA.seq (by simp [ints, hl])) (by show (xs.length : Int) = _; omega) hx).dropWrong _).putNext (by show 0 ≤ max (C.sem.nextOf b) (p + 1) ∧ max (C.sem.nextOf b) (p + 1) ≤ C.g.pg; omega), rfl, ?_, rfl⟩
      · have h1 := (h.sel 8 [0, 7, 1, 2, 3, 4, 5, 6] rfl).absorb
        have h2 := h1.sel 7 [1, 2, 3, 4, 5, 6, 0] rfl
        refine Sat.all (l := Cw.parts bc _) ?_
        unfold Cw.parts
        have e2 : (((C.putPage (b, p) (A', c', xs) (SlA (.slice A' m c') 5 1 m (ints .u8 xs) :: C.own)).dropWrong (b, p)).putNext b (max (C.sem.nextOf b) (p + 1))).pagesF = upd C.pagesF (b, p) (some (.slice A' m c')) := by
          refine (Cw.pagesF_put C (b, p) (A', c', xs) (SlA (.slice A' m c') 5 1 m (ints .u8 xs) :: C.own)).trans ?_
          unfold Cw.sliceOf; rw [hl]
        have e3 : (((C.putPage (b, p) (A', c', xs) (SlA (.slice A' m c') 5 1 m (ints .u8 xs) :: C.own)).dropWrong (b, p)).putNext b (max (C.sem.nextOf b) (p + 1))).wrongF = upd C.wrongF (b, p) none := Cw.wrongF_dropW (C.putPage (b, p) (A', c', xs) (SlA (.slice A' m c') 5 1 m (ints .u8 xs) :: C.own)) (b, p)
        have e4 : (((C.putPage (b, p) (A', c', xs) (SlA (.slice A' m c') 5 1 m (ints .u8 xs) :: C.own)).dropWrong (b, p)).putNext b (max (C.sem.nextOf b) (p + 1))).cells = C.cells := by
          unfold Cw.cells Cw.putNext Cw.dropWrong Cw.putPage
          simp
        rw [e2, e3, e4]
        rw [Nat.zero_add, Nat.mul_one, ints_set] at h2
        exact h2
      · rw [Cw.sem_putNext, Cw.sem_dropW, Cw.sem_put]; rfl
   ·refine WL.call (vs := [_]) Tryz.call110 ⟨OV.p rfl, trivial⟩ (clone_bytes (xs := xs) (by repeat (first | exact hs | apply Seq.up)) (by omega)) rfl ?_
    rintro _ _ ⟨A', c', rfl, rfl⟩
    refine WL.nil ?_
    refine WA.o 3 rfl ?_
    refine WL.val (V.load Tryz.isAgg88 (OV.p rfl) (fun _ => by repeat (first | exact Rd.here rfl | apply Rd.up))) rfl ?_
    refine WL.nil ?_
    refine WA.o 9 rfl ?_
    refine WL.mapUpdateR (k := (_, _)) Tryz.underlying88 kl120 (OV.p rfl) (OV.p rfl) (OV.p rfl) (by repeat (first | exact Repl.here | apply Repl.up)) ?_
    refine WL.nil ?_
    refine WA.fin ?_
    refine WC.sr ?_
    refine WL.val (V.move (OV.p rfl)) rfl ?_
    refine WL.val (V.nilCheck (OV.p rfl)) rfl ?_
    refine WL.val (V.fieldAddr fo92_3 (OV.p rfl)) rfl ?_
    refine WL.val (V.load Tryz.isAgg89 (OV.p rfl) (fun _ => by repeat (first | exact Rd.here rfl | apply Rd.up))) rfl ?_
    refine WL.val (V.move (OV.p rfl)) rfl ?_
    refine WL.val (V.move (OV.p rfl)) rfl ?_
    refine WL.val (V.build (vs := [(0, _), (1, _)]) ⟨OV.p rfl, OV.p rfl, trivial⟩ rfl (bld120_0_1 _ _)) rfl ?_
    refine WL.delete0R (k := (_, _)) Tryz.underlying89 kl120 (OV.p rfl) (OV.p rfl) (by repeat (first | exact Repl.here | apply Repl.up)) ?_
    refine WL.nil ?_
    refine WC.seq ?_
    refine WC.regionA F (by kernel_rfl) ?_
    refine WA.t 0 rfl (V.move (OV.p rfl)) ?_
    refine WA.t 1 rfl (V.nilCheck (OV.p rfl)) ?_
    refine WA.t 2 rfl (V.fieldAddr fo92_4 (OV.p rfl)) ?_
    refine WA.t 4 rfl (V.move (OV.p rfl)) ?_
    refine WA.t 5 rfl (V.move (OV.p rfl)) ?_
    refine WA.t 6 rfl (V.nilCheck (OV.p rfl)) ?_
    refine WA.t 7 rfl (V.fieldAddr fo92_4 (OV.p rfl)) ?_
    refine WA.t 9 rfl (V.move (OV.p rfl)) ?_
    refine WA.t 12 rfl (V.move (OV.p rfl)) ?_
    refine WA.t 13 rfl (V.addI (OV.p rfl) (OV.p rfl) (fun hc => by first | omega | (simp at hc; omega))) ?_
    refine WA.two (i := 3) (j := 8) (fun w h => by repeat (first | exact h | replace h := h.tail)) (by kernel_rfl) rfl rfl ?_ ?_
    ·refine WL.val (V.load Tryz.isAgg42 (OV.p rfl) (fun _ => by repeat (first | exact Rd.here rfl | apply Rd.up))) rfl ?_
     refine WL.nil ?_
     refine WA.o 8 rfl ?_
     refine WL.val (V.load Tryz.isAgg42 (OV.p rfl) (fun _ => by repeat (first | exact Rd.here rfl | apply Rd.up))) rfl ?_
     refine WL.nil ?_
     refine WA.t 10 rfl (V.idxB st42 (OV.p rfl) (OV.p rfl) (fun hc => by first | omega | (simp at hc; omega))) ?_
     refine WA.o 11 rfl ?_
     refine WL.val (V.load Tryz.isAgg3 (OV.p rfl) (fun _ => by repeat (first | exact Rd.here hget | apply Rd.up))) rfl ?_
     refine WL.nil ?_
     refine WA.t 14 rfl (V.max (OV.p rfl) (OV.p rfl)) ?_
     refine WA.t 15 rfl (V.idxB st42 (OV.p rfl) (OV.p rfl) (fun hc => by first | omega | (simp at hc; omega))) ?_
     refine WA.o 16 rfl ?_
     refine WL.store (cs := [_]) Tryz.sizeOf3 (OV.p rfl) (OV.p rfl) rfl rfl rfl (by repeat (first | exact Upd.at_ (by rw [Nat.zero_add, Nat.mul_one, ints_length]; omega) | apply Upd.up)) ?_
     refine WL.nil ?_
     refine WA.fin ?_
     refine WC.sr ?_
     refine WL.val (V.assign (OV.p rfl)) rfl ?_
     refine WL.nil ?_
     refine WC.ret ?_
     have e1 : C.sem.force b p xs = ({ C.sem with pages := Chip.upds C.sem.pages (b, p) (some xs), wrong := Chip.upds C.sem.wrong (b, p) none, next := C.sem.setNext b (max (C.sem.nextOf b) (p + 1)) }, 0) := by
       unfold Chip.force; rw [if_neg (by rw [hl, hpage]; rintro (h | h); cases h; exact h hraw)]
     rw [e1]
     refine BodyQ.ret (H' := (((C.putPage (b, p) (A', c', xs) (SlA (.slice A' m c') 5 1 m (ints .u8 xs) :: C.own)).dropWrong (b, p)).putNext b (max (C.sem.nextOf b) (p + 1))).A bc :: F) (Res.tmp rfl rfl) (fun w h => ?_) ⟨_, ((hC.putPage (Cw.up_own _ _) (SeqIn.here fun K => by show Seq K _ A' xs.length 1 (ints .u8 xs); rw [hl]; exact SlA.seq (by simp [ints, hl])) (by show (xs.length : Int) = _; omega) hx).dropWrong _).putNext (by show 0 ≤ max (C.sem.nextOf b) (p + 1) ∧ max (C.sem.nextOf b) (p + 1) ≤ C.g.pg; omega), rfl, ?_, rfl⟩
     · have h1 := (h.sel 8 [0, 7, 1, 2, 3, 4, 5, 6] rfl).absorb
       have h2 := h1.sel 7 [1, 2, 3, 4, 5, 6, 0] rfl
       refine Sat.all (l := Cw.parts bc _) ?_
       unfold Cw.parts
       have e2 : (((C.putPage (b, p) (A', c', xs) (SlA (.slice A' m c') 5 1 m (ints .u8 xs) :: C.own)).dropWrong (b, p)).putNext b (max (C.sem.nextOf b) (p + 1))).pagesF = upd C.pagesF (b, p) (some (.slice A' m c')) := by
         refine (Cw.pagesF_put C (b, p) (A', c', xs) (SlA (.slice A' m c') 5 1 m (ints .u8 xs) :: C.own)).trans ?_
         unfold Cw.sliceOf; rw [hl]
       have e3 : (((C.putPage (b, p) (A', c', xs) (SlA (.slice A' m c') 5 1 m (ints .u8 xs) :: C.own)).dropWrong (b, p)).putNext b (max (C.sem.nextOf b) (p + 1))).wrongF = upd C.wrongF (b, p) none := Cw.wrongF_dropW (C.putPage (b, p) (A', c', xs) (SlA (.slice A' m c') 5 1 m (ints .u8 xs) :: C.own)) (b, p)
       have e4 : (((C.putPage (b, p) (A', c', xs) (SlA (.slice A' m c') 5 1 m (ints .u8 xs) :: C.own)).dropWrong (b, p)).putNext b (max (C.sem.nextOf b) (p + 1))).cells = C.cells := by
         unfold Cw.cells Cw.putNext Cw.dropWrong Cw.putPage
         simp
       rw [e2, e3, e4]
       rw [Nat.zero_add, Nat.mul_one, ints_set] at h2
       exact h2
     · rw [Cw.sem_putNext, Cw.sem_dropW, Cw.sem_put]; rfl
    ·refine WL.val (V.load Tryz.isAgg42 (OV.p rfl) (fun _ => by repeat (first | exact Rd.here rfl | apply Rd.up))) rfl ?_
     refine WL.nil ?_
     refine WA.t 10 rfl (V.idxB st42 (OV.p rfl) (OV.p rfl) (fun hc => by first | omega | (simp at hc; omega))) ?_
     refine WA.two (i := 3) (j := 11) (fun w h => by repeat (first | exact h | replace h := h.tail)) (by kernel_rfl) rfl rfl ?_ ?_
     ·refine WL.val (V.load Tryz.isAgg42 (OV.p rfl) (fun _ => by repeat (first | exact Rd.here rfl | apply Rd.up))) rfl ?_
      refine WL.nil ?_
      refine WA.o 11 rfl ?_
      refine WL.val (V.load Tryz.isAgg3 (OV.p rfl) (fun _ => by repeat (first | exact Rd.here hget | apply Rd.up))) rfl ?_
      refine WL.nil ?_
      refine WA.t 14 rfl (V.max (OV.p rfl) (OV.p rfl)) ?_
      refine WA.t 15 rfl (V.idxB st42 (OV.p rfl) (OV.p rfl) (fun hc => by first | omega | (simp at hc; omega))) ?_
      refine WA.o 16 rfl ?_
      refine WL.store (cs := [_]) Tryz.sizeOf3 (OV.p rfl) (OV.p rfl) rfl rfl rfl (by repeat (first | exact Upd.at_ (by rw [Nat.zero_add, Nat.mul_one, ints_length]; omega) | apply Upd.up)) ?_
      refine WL.nil ?_
      refine WA.fin ?_
      refine WC.sr ?_
      refine WL.val (V.assign (OV.p rfl)) rfl ?_
      refine WL.nil ?_
      refine WC.ret ?_
      have e1 : C.sem.force b p xs = ({ C.sem with pages := Chip.upds C.sem.pages (b, p) (some xs), wrong := Chip.upds C.sem.wrong (b, p) none, next := C.sem.setNext b (max (C.sem.nextOf b) (p + 1)) }, 0) := by
        unfold Chip.force; rw [if_neg (by rw [hl, hpage]; rintro (h | h); cases h; exact h hraw)]
      rw [e1]
      refine BodyQ.ret (H' := (((C.putPage (b, p) (A', c', xs) (SlA (.slice A' m c') 5 1 m (ints .u8 xs) :: C.own)).dropWrong (b, p)).putNext b (max (C.sem.nextOf b) (p + 1))).A bc :: F) (Res.tmp rfl rfl) (fun w h => ?_) ⟨_, ((hC.putPage (Cw.up_own _ _) (SeqIn.here fun K => by show Seq K _ A' xs.length 1 (ints .u8 xs); rw [hl]; exact SlA.seq (by simp [ints, hl])) (by show (xs.length : Int) = _; omega) hx).dropWrong _).putNext (by show 0 ≤ max (C.sem.nextOf b) (p + 1) ∧ max (C.sem.nextOf b) (p + 1) ≤ C.g.pg; omega), rfl, ?_, rfl⟩
      · have h1 := (h.sel 8 [0, 7, 1, 2, 3, 4, 5, 6] rfl).absorb
        have h2 := h1.sel 7 [1, 2, 3, 4, 5, 6, 0] rfl
        refine Sat.all (l := Cw.parts bc _) ?_
        unfold Cw.parts
        have e2 : (((C.putPage (b, p) (A', c', xs) (SlA (.slice A' m c') 5 1 m (ints .u8 xs) :: C.own)).dropWrong (b, p)).putNext b (max (C.sem.nextOf b) (p + 1))).pagesF = upd C.pagesF (b, p) (some (.slice A' m c')) := by
          refine (Cw.pagesF_put C (b, p) (A', c', xs) (SlA (.slice A' m c') 5 1 m (ints .u8 xs) :: C.own)).trans ?_
          unfold Cw.sliceOf; rw [hl]
        have e3 : (((C.putPage (b, p) (A', c', xs) (SlA (.slice A' m c') 5 1 m (ints .u8 xs) :: C.own)).dropWrong (b, p)).putNext b (max (C.sem.nextOf b) (p + 1))).wrongF = upd C.wrongF (b, p) none := Cw.wrongF_dropW (C.putPage (b, p) (A', c', xs) (SlA (.slice A' m c') 5 1 m (ints .u8 xs) :: C.own)) (b, p)
        have e4 : (((C.putPage (b, p) (A', c', xs) (SlA (.slice A' m c') 5 1 m (ints .u8 xs) :: C.own)).dropWrong (b, p)).putNext b (max (C.sem.nextOf b) (p + 1))).cells = C.cells := by
          unfold Cw.cells Cw.putNext Cw.dropWrong Cw.putPage
          simp
        rw [e2, e3, e4]
        rw [Nat.zero_add, Nat.mul_one, ints_set] at h2
        exact h2
      · rw [Cw.sem_putNext, Cw.sem_dropW, Cw.sem_put]; rfl
     ·refine WL.val (V.load Tryz.isAgg3 (OV.p rfl) (fun _ => by repeat (first | exact Rd.here hget | apply Rd.up))) rfl ?_
      refine WL.nil ?_
      refine WA.t 14 rfl (V.max (OV.p rfl) (OV.p rfl)) ?_
      refine WA.o 3 rfl ?_
      refine WL.val (V.load Tryz.isAgg42 (OV.p rfl) (fun _ => by repeat (first | exact Rd.here rfl | apply Rd.up))) rfl ?_
      refine WL.nil ?_
      refine WA.t 15 rfl (V.idxB st42 (OV.p rfl) (OV.p rfl) (fun hc => by first | omega | (simp at hc; omega))) ?_
      refine WA.o 16 rfl ?_
      refine WL.store (cs := [_]) Tryz.sizeOf3 (OV.p rfl) (OV.p rfl) rfl rfl rfl (by repeat (first | exact Upd.at_ (by rw [Nat.zero_add, Nat.mul_one, ints_length]; omega) | apply Upd.up)) ?_
      refine WL.nil ?_
      refine WA.fin ?_
      refine WC.sr ?_
      refine WL.val (V.assign (OV.p rfl)) rfl ?_
      refine WL.nil ?_
      refine WC.ret ?_
      have e1 : C.sem.force b p xs = ({ C.sem with pages := Chip.upds C.sem.pages (b, p) (some xs), wrong := Chip.upds C.sem.wrong (b, p) none, next := C.sem.setNext b (max (C.sem.nextOf b) (p + 1)) }, 0) := by
        unfold Chip.force; rw [if_neg (by rw [hl, hpage]; rintro (h | h); cases h; exact h hraw)]
      rw [e1]
      refine BodyQ.ret (H' := (((C.putPage (b, p) (A', c', xs) (SlA (.slice A' m c') 5 1 m (ints .u8 xs) :: C.own)).dropWrong (b, p)).putNext b (max (C.sem.nextOf b) (p + 1))).A bc :: F) (Res.tmp rfl rfl) (fun w h => ?_) ⟨_, ((hC.putPage (Cw.up_own _ _) (SeqIn.here fun K => by show Seq K _ A' xs.length 1 (ints .u8 xs); rw [hl]; exact SlA.seq (by simp [ints, hl])) (by show (xs.length : Int) = _; omega) hx).dropWrong _).putNext (by show 0 ≤ max (C.sem.nextOf b) (p + 1) ∧ max (C.sem.nextOf b) (p + 1) ≤ C.g.pg; omega), rfl, ?_, rfl⟩
      · have h1 := (h.sel 8 [0, 7, 1, 2, 3, 4, 5, 6] rfl).absorb
        have h2 := h1.sel 7 [1, 2, 3, 4, 5, 6, 0] rfl
        refine Sat.all (l := Cw.parts bc _) ?_
        unfold Cw.parts
        have e2 : (((C.putPage (b, p) (A', c', xs) (SlA (.slice A' m c') 5 1 m (ints .u8 xs) :: C.own)).dropWrong (b, p)).putNext b (max (C.sem.nextOf b) (p + 1))).pagesF = upd C.pagesF (b, p) (some (.slice A' m c')) := by
          refine (Cw.pagesF_put C (b, p) (A', c', xs) (SlA (.slice A' m c') 5 1 m (ints .u8 xs) :: C.own)).trans ?_
          unfold Cw.sliceOf; rw [hl]
        have e3 : (((C.putPage (b, p) (A', c', xs) (SlA (.slice A' m c') 5 1 m (ints .u8 xs) :: C.own)).dropWrong (b, p)).putNext b (max (C.sem.nextOf b) (p + 1))).wrongF = upd C.wrongF (b, p) none := Cw.wrongF_dropW (C.putPage (b, p) (A', c', xs) (SlA (.slice A' m c') 5 1 m (ints .u8 xs) :: C.own)) (b, p)
        have e4 : (((C.putPage (b, p) (A', c', xs) (SlA (.slice A' m c') 5 1 m (ints .u8 xs) :: C.own)).dropWrong (b, p)).putNext b (max (C.sem.nextOf b) (p + 1))).cells = C.cells := by
          unfold Cw.cells Cw.putNext Cw.dropWrong Cw.putPage
          simp
        rw [e2, e3, e4]
        rw [Nat.zero_add, Nat.mul_one, ints_set] at h2
        exact h2
      · rw [Cw.sem_putNext, Cw.sem_dropW, Cw.sem_put]; rfl
end Go.Proofs.YtohkefolnmcjnaaGreat
/- bch: a word is made. -/
namespace Go.Proofs.YtohkefolnmcjnaaGreat
open Go.Sl Go.RowKit
set_option linter.unusedVariables false
set_option linter.unusedSimpArgs false
set_option maxRecDepth 20000

theorem nats_ints (k : IntKind) (xs : List Nat) : nats k xs = ints k (xs.map fun x : Nat => (x : Int)) := by simp [nats, ints]
section
variable {K : World} {F : List Assn}
theorem clone_nats {A : Option Addr} {m cap : Nat} {xs : List Nat} (hs : Seq K F A m 1 (nats .u8 xs)) (hm : m ≤ 1000000) :
    Does Tryz.prog 110 #[.slice A m cap] K F (fun v H' => ∃ A' cap', v = .slice A' m cap' ∧ H' = SlA (.slice A' m cap') 5 1 m (nats .u8 xs) :: F) := by
  rw [nats_ints] at hs ⊢
  exact clone_bytes hs hm
/-- An own slice that is not empty is a row from its head on. -/
theorem slA_row {A : Option Addr} {m cap E : Nat} {cs : List Value} (hm : 0 < m) : ∀ w, Sat K w (SlA (.slice A m cap) E 1 m cs :: F) → ∃ x : Nat × List Value, (A = some ⟨x.1, 0, none⟩ ∧ (cs ++ x.2).length = cap ∧ cap ≤ maxLen) ∧ Sat K w (Cells x.1 E (cs ++ x.2) :: F) := fun w hw => by
  cases A with
  | none => have := (SlA.nilCs hw).1; omega
  | some a =>
    obtain ⟨g, rfl⟩ := SlA.addr hw
    obtain ⟨r, ⟨h1, h2, h3, h4⟩, h5⟩ := Sat.slCells hw
    exact ⟨(g, r), ⟨rfl, by show (cs ++ r).length = cap; omega, h4⟩, h5⟩
theorem bch_newWord {t : Nat} {A B : Option Addr} {m q cap cap' : Nat} {d mo : List Nat} (ht : 1 ≤ t ∧ t ≤ 8) (hd : Seq K F A m 1 (nats .u8 d)) (hm : Seq K F B q 1 (nats .u8 mo)) (hd8 : Small 256 d) (hm8 : Small 256 mo) (hdl : 1 ≤ m ∧ m ≤ 512) (hml : q = moreLen t) :
    Does Tryz.prog 164 #[.int .i64 (t : Int), .slice A m cap, .slice B q cap'] K F
      (fun v H' => ∃ bw, ∃ W : Wd, W.Ok ∧ W.t = t ∧ W.d = d ∧ W.m = maskM t mo ∧ (W.d.length ≤ W.c1 ∧ W.m.length ≤ W.c2) ∧ v = .tuple #[ptr bw 0, .int .i64 0] ∧ H' = W.parts bw ++ F) := by
  have hl : d.length = m := by simpa [nats] using hd.len
  have hql : mo.length = q := by simpa [nats] using hm.len
  have hq13 : q ≤ 13 := by rw [hml]; unfold moreLen; omega
  have hq0 : 0 < q := by rw [hml]; unfold moreLen; omega
  have hqt : 13 * t ≤ 8 * q := by rw [hml]; unfold moreLen; omega
  refine Does.enter Tryz.func164 rfl Tryz.ntmps164 rfl ?_
  simp only [env0, Nat.reduceAdd]
  refine WC.sr ?_
  refine WL.val (V.assign (OV.p rfl)) rfl ?_
  refine WL.val (V.assign (OV.p rfl)) rfl ?_
  refine WL.nil ?_
  refine WC.sr ?_
  refine WL.val (V.move (OV.p rfl)) rfl ?_
  refine WL.val (V.move (OV.p rfl)) rfl ?_
  refine WL.call (vs := [_, _]) Tryz.call148 ⟨OV.p rfl, OV.p rfl, trivial⟩ (bch_size ht hdl) rfl ?_
  rintro _ H0 ⟨rfl, h0⟩
  subst H0
  refine WL.val (V.move (OV.p rfl)) rfl ?_
  refine WL.val (V.extract (OV.p rfl) rfl) rfl ?_
  refine WL.val (V.extract (OV.p rfl) rfl) rfl ?_
  refine WL.val (V.assign (OV.p rfl)) rfl ?_
  refine WL.val (V.assign (OV.p rfl)) rfl ?_
  refine WL.nil ?_
  refine WC.seq ?_
  refine WC.sr ?_
  refine WL.val (V.move (OV.p rfl)) rfl ?_
  refine WL.val (V.neq (OV.p rfl) (OV.p rfl)) rfl ?_
  refine WL.val (V.move (OV.p rfl)) rfl ?_
  refine WL.valG (oj := _) rfl rfl rfl GC.f (V.move (OV.p rfl)) rfl ?_
  refine WL.valG (oj := _) rfl rfl rfl GC.f (V.len (t := 38) Tryz.runUnderlying38 (OV.g rfl id)) rfl ?_
  refine WL.valG (oj := _) rfl rfl rfl GC.f (V.move (OV.p rfl)) rfl ?_
  refine WL.valG (oj := _) rfl rfl rfl GC.f (V.neq (OV.g rfl id) (OV.g rfl id)) rfl ?_
  refine WL.val (V.pickOr (OV.p rfl) (OV.g rfl id)) rfl ?_
  refine WL.nil ?_
  refine WC.condF' rfl ((by simp; rw [hml])) ?_
  refine WC.skip ?_
  refine WC.sr ?_
  refine WL.val (V.move (OV.p rfl)) rfl ?_
  refine WL.val (V.move (OV.p rfl)) rfl ?_
  refine WL.call (vs := [_]) Tryz.call110 ⟨OV.p rfl, trivial⟩ (clone_nats hd (by omega)) rfl ?_
  rintro _ _ ⟨A1, c1, rfl, rfl⟩
  refine WL.ex (slA_row (by omega)) (fun ⟨g1, r1⟩ ⟨e1, hr1, hc1⟩ => ?_)
  dsimp only at e1 hr1 ⊢
  subst e1
  refine WL.val (V.move (OV.p rfl)) rfl ?_
  refine WL.call (vs := [_]) Tryz.call110 ⟨OV.p rfl, trivial⟩ (clone_nats hm.up (by omega)) rfl ?_
  rintro _ _ ⟨A2, c2, rfl, rfl⟩
  refine WL.ex (slA_row hq0) (fun ⟨g2, r2⟩ ⟨e2, hr2, hc2⟩ => ?_)
  dsimp only at e2 hr2 ⊢
  subst e2
  have hr1' : d.length ≤ c1 := by rw [← hr1, List.length_append, nats_length]; omega
  have hr2' : mo.length ≤ c2 := by rw [← hr2, List.length_append, nats_length]; omega
  refine WL.val (V.build (vs := [(0, _), (1, _), (2, _)]) ⟨OV.p rfl, OV.p rfl, OV.p rfl, trivial⟩ rfl (bld204_0_1_2 _ _ _ _ _ _ _)) rfl ?_
  refine WL.box (cs := [_, _, _]) (OV.p rfl) rfl rfl (fun b32 => ?_)
  refine WL.val (V.assign (OV.p rfl)) rfl ?_
  refine WL.nil ?_
  refine WC.seq ?_
  refine WC.sr ?_
  refine WL.val (V.move (OV.p rfl)) rfl ?_
  refine WL.val (V.mulI (OV.p rfl) (OV.p rfl) (fun hc => by first | omega | (simp at hc; omega))) rfl ?_
  refine WL.val (V.assign (OV.p rfl)) rfl ?_
  refine WL.nil ?_
  refine WC.block ?_
  refine WC.loop (σ := Nat) (fun k => [(10, ptr b32 0), (8, .int .i64 (q : Int)), (11, .int .i64 ((13 * t + k : Nat) : Int))]) (fun k => Cells g2 5 (nats .u8 (maskTo mo (13 * t) k) ++ r2) :: Cells b32 204 [.int .i64 (t : Int), .slice (some ⟨g1, 0, none⟩) m c1, .slice (some ⟨g2, 0, none⟩) q c2] :: Cells g1 5 (nats .u8 d ++ r1) :: F) (fun k => 13 * t + k ≤ 8 * q) (fun k => 8 * q - k) 0 (by simpa using hqt) (.cons rfl (.cons (look_eq rfl (by rw [hml])) (.cons (look_eq rfl (by simp)) (.nil _)))) (fun w h => h.p1) ?_
  rintro k hk
  refine WC.seq ?_
  refine WC.sr ?_
  refine WL.val (V.move (OV.p rfl)) rfl ?_
  refine WL.val (V.move (OV.p rfl)) rfl ?_
  refine WL.val (V.mulI (OV.p rfl) (OV.p rfl) (fun hc => by first | omega | (simp at hc; omega))) rfl ?_
  refine WL.val (V.lss (OV.p rfl) (OV.p rfl)) rfl ?_
  refine WL.nil ?_
  refine WC.cond rfl (fun hc1 => ?_) (fun hc1 => ?_)
  ·simp only [decide_eq_true_eq, decide_eq_false_iff_not] at hc1
   obtain ⟨o, ho⟩ : ∃ o, o = maskTo mo (13 * t) k := ⟨_, rfl⟩
   have hol : o.length = q := by rw [ho, maskTo_length, hql]
   have hos : Small 256 o := by rw [ho]; exact maskTo_small hm8 k
   rw [← ho]
   obtain ⟨i, hi⟩ : ∃ i, i = 13 * t + k := ⟨_, rfl⟩
   rw [← hi]
   have hg1 : (nats .u8 o ++ r2)[0 + ((i : Int) / 8).toNat * 1]? = some (.int .u8 (o.getD (i / 8) 0 : Nat)) := by rw [show 0 + ((i : Int) / 8).toNat * 1 = i / 8 by omega]; exact nats_getA _ _ _ (by omega)
   have hcl := clr8_code (hos.at_ (by decide) (i / 8)) (Nat.mod_lt i (show 0 < 8 by decide))
   refine WC.skip ?_
   refine WC.seq ?_
   refine WC.block ?_
   refine WC.regionA (Cells b32 204 [.int .i64 (t : Int), .slice (some ⟨g1, 0, none⟩) m c1, .slice (some ⟨g2, 0, none⟩) q c2] :: Cells g1 5 (nats .u8 d ++ r1) :: F) (by kernel_rfl) ?_
   refine WA.t 0 rfl (V.move (OV.p rfl)) ?_
   refine WA.t 1 rfl (V.nilCheck (OV.p rfl)) ?_
   refine WA.t 2 rfl (V.fieldAddr fo204_2 (OV.p rfl)) ?_
   refine WA.t 3 rfl (V.load Tryz.isAgg38 (OV.p rfl) (fun _ => by repeat (first | exact Rd.here rfl | apply Rd.up))) ?_
   refine WA.t 4 rfl (V.move (OV.p rfl)) ?_
   refine WA.t 5 rfl (V.quoI (OV.p rfl) (OV.p rfl) (fun hc => by first | omega | (simp at hc; omega))) ?_
   refine WA.t 6 rfl (V.idxB st38 (OV.p rfl) (OV.p rfl) (fun hc => by omega)) ?_
   refine WA.t 8 rfl (V.move (OV.p rfl)) ?_
   refine WA.t 9 rfl (V.val_eq (v' := .int .i64 ((i % 8 : Nat) : Int)) (V.remI (OV.p rfl) (OV.p rfl) (fun _ => by omega)) (fun _ => by simp)) ?_
   refine WA.t 10 rfl (V.shl (OV.p rfl) (OV.p rfl) (by omega)) ?_
   refine WA.o 7 rfl ?_
   refine WL.val (V.load Tryz.isAgg5 (OV.p rfl) (fun hc => Rd.here hg1)) rfl ?_
   refine WL.nil ?_
   refine WA.t 11 rfl (V.val_eq (v' := .int .u8 ((clr8 (o.getD (i / 8) 0) (i % 8) : Nat) : Int)) (V.andNot (OV.p rfl) (OV.p rfl)) (fun _ => by rw [hcl.1])) ?_
   refine WA.t 12 rfl (V.idxB st38 (OV.p rfl) (OV.p rfl) (fun hc => by omega)) ?_
   refine WA.o 13 rfl ?_
   refine WL.store (cs := [_]) Tryz.sizeOf5 (OV.p rfl) (OV.p rfl) rfl rfl rfl (Upd.at_ (by rw [List.length_append, nats_length]; omega)) ?_
   refine WL.nil ?_
   refine WA.fin ?_
   refine WC.region ?_
   refine WL.val (V.move (OV.p rfl)) rfl ?_
   refine WL.val (V.addI (OV.p rfl) (OV.p rfl) (fun hc => by first | omega | (simp at hc; omega))) rfl ?_
   refine WL.val (V.assign (OV.p rfl)) rfl ?_
   refine WL.nil ?_
   refine ⟨rfl, ?_⟩
   refine ⟨k + 1, (by show 13 * t + (k + 1) ≤ 8 * q; omega), (by show 8 * q - (k + 1) < 8 * q - k; omega), .cons rfl (.cons rfl (.cons (look_eq rfl (by rw [hi]; simp; omega)) (.nil _))), fun w h => Sat.cells_eq h ?_⟩
   rw [show 0 + ((i : Int) / 8).toNat * 1 = i / 8 by omega, nats_setA _ _ _ (by omega), maskTo, ← ho, ← hi]
  ·simp only [decide_eq_true_eq, decide_eq_false_iff_not] at hc1
   refine WC.exit ?_
   refine WC.seq ?_
   have hke : k = 8 * moreLen t - 13 * t := by omega
   have hmm : maskTo mo (13 * t) k = maskM t mo := by unfold maskM; rw [hke]
   rw [hmm]
   have hmml : (maskM t mo).length = q := by unfold maskM; rw [maskTo_length, hql]
   refine WC.region ?_
   refine WL.val (V.move (OV.p rfl)) rfl ?_
   refine WL.val (V.assign (OV.p rfl)) rfl ?_
   refine WL.val (V.assign (OV.p rfl)) rfl ?_
   refine WL.nil ?_
   refine WC.ret ?_
   refine BodyQ.ret (H' := Wd.parts b32 ⟨t, d, maskM t mo, g1, c1, g2, c2, r1, r2⟩ ++ F) (Res.tmp2 rfl rfl rfl) (fun w h => ?_) ⟨b32, ⟨t, d, maskM t mo, g1, c1, g2, c2, r1, r2⟩, ⟨ht, by show 1 ≤ d.length ∧ d.length ≤ 512; omega, by show (maskM t mo).length = moreLen t; omega, hd8, maskTo_small hm8 _⟩, rfl, rfl, rfl, ⟨hr1', by show (maskM t mo).length ≤ c2; omega⟩, rfl, rfl⟩
   have h' := h.sel 3 [1, 2, 0] rfl
   dsimp only [Wd.parts, Wd.cells, List.cons_append, List.nil_append]
   rw [hl, hmml]
   exact h'
end
end Go.Proofs.YtohkefolnmcjnaaGreat
/- The symbolic executor, fifteenth part: append(x, make([]T, n)...). -/
namespace Go.Sl
open Go.RowKit Go.BigFrame
set_option linter.unusedVariables false
set_option linter.unusedSimpArgs false

theorem zeroCells_one {z : Value} (hz : z.cells = #[z]) (n : Nat) : Builtin.zeroCells z.cells n = (List.replicate n z).toArray := by
  rw [hz]
  apply Array.ext'
  apply List.ext_getElem
  · simp [Builtin.zeroCells]
  · intro i h1 h2
    simp [Builtin.zeroCells, Nat.mod_one]
section
variable {P : Program} (w : World) (t tn ty e : TypeId) (i : TypeInfo) (z : Value) (k kn : IntKind)
theorem run_appendZ_room (ht : P.underlying t = some (.slice e)) (htn : P.underlying tn = some (.int kn)) (hi : P.info? e = some i) (hz : i.zero = some z) (hz1 : z.cells = #[z]) (h1 : z.oneCell' = true) (hsz : i.size = 1)
    (b sLen sCap n : Nat) (hroom : sLen + n ≤ sCap) (hc : ∀ j, j < n → (w.cell? ⟨b, sLen + j, none⟩).isSome = true) (hf : ∀ j, j < n → w.frozen? ⟨b, sLen + j, none⟩ = false) (hn63 : (n : Int) ≤ 1000000000) (h48 : n * i.bytes ≤ 281474976710656) :
    (Builtin.append_ #[t, tn] ty #[.slice (some ⟨b, 0, none⟩) sLen sCap, .int k n]).run P w = .ok (.slice (some ⟨b, 0, none⟩) (sLen + n) sCap) (w.setCells b sLen (List.replicate n z)) := by
  have hw : IntKind.i64.wrap (n : Int) = n := by rw [IntKind.wrap_i64]; omega
  have h48i : ¬ (281474976710656 < (n : Int) * (i.bytes : Int)) := by rw [← Int.natCast_mul]; omega
  have hneg : ¬ ((n : Int) < 0) := by omega
  have hw0 : IntKind.i64.wrap 0 = 0 := by decide
  have hst := run_storeCells_cells (P := P) b sLen (List.replicate n z) 0 w (by simpa using hc) (by simpa using hf) (by intro v hv; rw [List.eq_of_mem_replicate hv]; exact h1)
  simp only [Nat.add_zero] at hst
  have hzc := zeroCells_one hz1 n
  by_cases h0 : n = 0
  · subst h0
    simp [Builtin.append_, run_underlying ht, run_underlying htn, sizeOf, typeInfo, zeroValue, hi, hz, asInt, asIntOf, hw0, hsz, storeCells, World.setCells, show sLen ≤ sCap by omega, add_mk]
  · simp [Builtin.append_, run_underlying ht, run_underlying htn, sizeOf, typeInfo, zeroValue, hi, hz, asInt, asIntOf, hw, hneg, h0, hsz, h48i, hroom, hzc, add_mk, hst]
theorem run_appendZ_grow (ht : P.underlying t = some (.slice e)) (htn : P.underlying tn = some (.int kn)) (hi : P.info? e = some i) (hz : i.zero = some z) (hz1 : z.cells = #[z]) (hsz : i.size = 1)
    (base : Option Addr) (sLen sCap n : Nat) (olds : List Value) (hold : (Builtin.firstCells 1 sLen (.slice base sLen sCap)).run P w.drew = .ok olds.toArray w.drew) (hg : sCap < sLen + n) (hn63 : (sLen + n : Int) ≤ 1000000000) (h48 : (sLen + n) * i.bytes ≤ 140737488355328) :
    (Builtin.append_ #[t, tn] ty #[.slice base sLen sCap, .int k n]).run P w = .ok (.slice (some ⟨w.heap.size, 0, none⟩) (sLen + n) (grownCap w (sLen + n) sCap e))
      (w.drew.alloc (.cells ((olds ++ List.replicate n z).toArray ++ Builtin.zeroCells z.cells (grownCap w (sLen + n) sCap e - (sLen + n))) e)) := by
  have hw : IntKind.i64.wrap (n : Int) = n := by rw [IntKind.wrap_i64]; omega
  have hnb : n * i.bytes ≤ (sLen + n) * i.bytes := Nat.mul_le_mul_right _ (by omega)
  have h48i : ¬ (281474976710656 < (n : Int) * (i.bytes : Int)) := by rw [← Int.natCast_mul]; omega
  have hneg : ¬ ((n : Int) < 0) := by omega
  have hw0 : IntKind.i64.wrap 0 = 0 := by decide
  have hfit := growslice_fits hg h48
  have h48' : ¬ (281474976710656 < Builtin.nextslicecap (sLen + n) sCap * i.bytes) := by omega
  have hnr : ¬ (sLen + n ≤ sCap) := by omega
  have h63' : ¬ (9223372036854775807 < ((sLen : Int) + (n : Int))) := by omega
  have hzc := zeroCells_one hz1 n
  by_cases h0 : n = 0
  · subst h0
    simp only [Nat.add_zero] at hnr h48' ⊢
    simp [Builtin.append_, run_underlying ht, run_underlying htn, sizeOf, typeInfo, zeroValue, hi, hz, asInt, asIntOf, hw0, hsz, h48', hnr, hold, Question.forced, newRow, grownCap, show ¬ (9223372036854775807 < (sLen : Int)) by omega]
  · simp [Builtin.append_, run_underlying ht, run_underlying htn, sizeOf, typeInfo, zeroValue, hi, hz, asInt, asIntOf, hw, hneg, h0, hsz, h48i, h48', h63', hnr, hzc, hold, Question.forced, newRow, grownCap]
    congr 2
    apply Array.ext'
    simp [List.append_assoc]
end
section
variable {Mo : Mode} {P : Program} {K : World} {n : Nat} {Q : Post} {e : Env} {H : List Assn} {ty : TypeId} {pos : String} {af : Array Edge} {ops : Array Oper} {rest : List Oper}
/-- append(x, make([]T, q)...), x an own slice of one-cell elements at the front of memory. -/
theorem WL.appendZ {d : Nat} {x y : Operand} {T Tn E bytes m q : Nat} {kn k : IntKind} {z v : Value} {cs : List Value} {l : Int} (hT : P.underlying T = some (.slice E)) (hTn : P.underlying Tn = some (.int kn)) (hE : ElemTy P E 1 bytes z) (hz1 : z.cells = #[z]) (h1 : z.oneCell' = true)
    (hx : OV true e x v) (hy : OV true e y (.int k l)) (hl : l = (q : Int)) (hb : (m + q) * bytes ≤ 140737488355328) (hmq : m + q ≤ 1000000000) (hd : Nat.blt d n = true)
    (h : ∀ A cap, (A = none → m + q = 0 ∧ cap = 0) → m + q ≤ cap → WL Mo P K n ops rest Q ((d, .slice A (m + q) cap) :: e) (SlA (.slice A (m + q) cap) E 1 (m + q) (cs ++ List.replicate q z) :: H)) :
    WL Mo P K n ops (⟨some d, .call ⟨.builtin .append, #[x, y], #[T, Tn]⟩, ty, pos, af, none⟩ :: rest) Q e (SlA v E 1 m cs :: H) := by
  refine WL.eff (R := fun u H' => ∃ A cap, u = .slice A (m + q) cap ∧ (A = none → m + q = 0 ∧ cap = 0) ∧ m + q ≤ cap ∧ H' = SlA (.slice A (m + q) cap) E 1 (m + q) (cs ++ List.replicate q z) :: H) (fun a w ha hw => ?_) hd (fun u H' ⟨A, cap, e1, e2, e3, e4⟩ => by subst e1 e4; exact h A cap e2 e3)
  obtain ⟨i, hi, hz, hs, hby', hzs, h0⟩ := hE
  subst hl hby'
  have hfin : ∀ v' w', (execOp a.eval ⟨some d, .call ⟨.builtin .append, #[x, y], #[T, Tn]⟩, ty, pos, af, none⟩).run P w = .ok (.value v') w' → w'.ownsRow 0 E 1 v' (m + q) (cs ++ List.replicate q z) → w.grownBy w' v.ownBlock →
      (v'.ownBlock = none ∨ v'.ownBlock = v.ownBlock ∨ v'.ownBlock = some w.heap.size) → ∃ u w'' H', (execOp a.eval ⟨some d, .call ⟨.builtin .append, #[x, y], #[T, Tn]⟩, ty, pos, af, none⟩).run P w = .ok (.value u) w'' ∧ Sat K w'' H' ∧
        ∃ A cap, u = .slice A (m + q) cap ∧ (A = none → m + q = 0 ∧ cap = 0) ∧ m + q ≤ cap ∧ H' = SlA (.slice A (m + q) cap) E 1 (m + q) (cs ++ List.replicate q z) :: H := fun v' w' hrun hown hg hat => by
    obtain ⟨A, cap, rfl, k1, _, k2⟩ := SlA.shape hown
    refine ⟨_, w', _, hrun, ⟨hw.1.grow hg.os hg.tape hg.output hg.size, ?_⟩, A, cap, rfl, k2, k1, rfl⟩
    refine hw.2.set (A' := SlA (.slice A (m + q) cap) E 1 (m + q) (cs ++ List.replicate q z)) hg.size (fun b hb' hlt => hg.block b hlt (fun e => hb' e.symm)) hown (fun b hb' => ?_)
    have hb2 : (Value.slice A (m + q) cap).ownBlock = some b := hb'
    rcases hat with h' | h' | h'
    · rw [h'] at hb2; cases hb2
    · exact .inl (h'.symm.trans hb2)
    · rw [h'] at hb2
      injection hb2 with hb2
      subst hb2
      exact .inr ⟨Nat.le_refl _, (hown.lt _ h').2⟩
  have hown : w.ownsRow 0 E 1 v m cs := hw.head
  have ev1 := hx.ev rfl ha
  have ev2 := hy.ev rfl ha
  have hrun0 : ∀ r w', (Builtin.append_ #[T, Tn] ty #[v, .int k q]).run P w = .ok r w' → (execOp a.eval ⟨some d, .call ⟨.builtin .append, #[x, y], #[T, Tn]⟩, ty, pos, af, none⟩).run P w = .ok (.value r) w' := fun r w' hr => by
    rw [execOp_builtin, builtin_append]
    simp [ev1, ev2, hr]
  have hcl : cs.length = m := by have := hown.1; omega
  have hmax : (1000000000 : Nat) ≤ maxLen := by simp only [maxLen]; decide
  have grown : ∀ (old : Nat), old < m + q → ∀ (row : Option Nat),
      (w.drew.alloc (.cells ((cs ++ List.replicate q z).toArray ++ Builtin.zeroCells z.cells (grownCap w (m + q) old E - (m + q))) E)).ownsRow 0 E 1 (.slice (some ⟨w.heap.size, 0, none⟩) (m + q) (grownCap w (m + q) old E)) (m + q) (cs ++ List.replicate q z) ∧
      w.grownBy (w.drew.alloc (.cells ((cs ++ List.replicate q z).toArray ++ Builtin.zeroCells z.cells (grownCap w (m + q) old E - (m + q))) E)) row := by
    intro old ho row
    have hge := grownCap_ge w (m + q) old E
    have hcm : grownCap w (m + q) old E ≤ maxLen := grownCap_le_maxLen w (m + q) old E (by omega)
    refine ⟨⟨by simp [hcl], .inr ⟨w.heap.size, _, _, rfl, Nat.zero_le _, heap_alloc_new w.drew _, hge, hcm, ?_, ?_⟩⟩, ⟨rfl, rfl, rfl, by simp, fun k hk _ => heap_alloc_old w.drew _ hk⟩⟩
    · simp only [Array.size_append, List.size_toArray, size_zeroCells, hzs, List.length_append, List.length_replicate, hcl, Nat.mul_one]
      omega
    · have hlen : (m + q) * 1 = (cs ++ List.replicate q z).length := by simp [hcl]
      rw [hlen]
      simp only [Array.toList_append]
      exact List.take_left
  rcases hown.2 with ⟨rfl, rfl⟩ | ⟨g, cap, cur, rfl, hbg, hg, hnc, hcm, hcs, htake⟩
  · have hx : cs = [] := List.eq_nil_of_length_eq_zero hcl
    subst hx
    by_cases hm : q = 0
    · subst hm
      refine hfin (.slice none 0 0) w (hrun0 _ w ?_) (by simpa using World.ownsRow_nil w 0 E 1) ⟨rfl, rfl, rfl, Nat.le_refl _, fun _ _ _ => rfl⟩ (.inr (.inl rfl))
      simp [Builtin.append_, run_underlying hT, run_underlying hTn, sizeOf, typeInfo, hi, asInt, asIntOf, IntKind.wrap_i64, storeCells, hs]
    · have hr := run_appendZ_grow (P := P) w T Tn ty E i z k kn hT hTn hi hz hz1 hs none 0 0 q [] (by simp [Builtin.firstCells]) (by omega) (by omega) (by simpa using hb)
      have hgr := grown 0 (by omega) (Value.ownBlock (.slice none 0 0))
      simp only [Nat.zero_add] at hr hgr
      exact hfin _ _ (hrun0 _ _ hr) (by simpa using hgr.1) hgr.2 (.inr (.inr rfl))
  · by_cases hroom : m + q ≤ cap
    · have hsz : cur.size = cap := by omega
      have hcell : ∀ j (hj : j < q), w.cell? ⟨g, m + j, none⟩ = some (cur[m + j]'(by omega)) := fun j hj => by simp [World.cell?, hg, show m + j < cur.size by omega]
      have hr := run_appendZ_room (P := P) w T Tn ty E i z k kn hT hTn hi hz hz1 h1 hs g m cap q hroom (fun j hj => by rw [hcell j hj]; rfl) (fun j hj => by simp [World.frozen?, hg]) (by omega) (by have := Nat.mul_le_mul_right i.bytes (show q ≤ m + q by omega); omega)
      obtain ⟨e1, e2, e3, e4⟩ := same_setCells g (List.replicate q z) m w
      have hh := heap_setCells g E (0, 0) (List.replicate q z) m w cur.toList (by simpa using hg)
      have hss := setL_append cur.toList (List.replicate q z) m (by simp; omega)
      refine hfin _ _ (hrun0 _ _ hr) ⟨by simp [hcl], .inr ⟨g, cap, (setL cur.toList m (List.replicate q z)).toArray, rfl, Nat.zero_le _, hh, hroom, hcm, ?_, ?_⟩⟩ ⟨e1, e2, e3, Nat.le_of_eq e4.symm, fun k hk hne => heap_setCells_ne g k (fun e => hne (by simp [Value.ownBlock, e])) _ _ _⟩ (.inr (.inl rfl))
      · simp [length_setL]; omega
      · rw [List.toList_toArray] 
        rw [hss, Nat.mul_one, show cur.toList.take m = cs by rw [← htake, Nat.mul_one], List.take_left' (by simp [hcl])]
    · have hold : (Builtin.firstCells 1 m (.slice (some ⟨g, 0, none⟩) m cap)).run P w.drew = .ok cs.toArray w.drew := by
        have hc := hown.cells (g := g) rfl
        have := run_loadCells_list (P := P) w.drew ⟨g, 0, none⟩ cs (fun j v hj => hc j v hj)
        rw [hcl] at this
        simpa [Builtin.firstCells] using this
      have hr := run_appendZ_grow (P := P) w T Tn ty E i z k kn hT hTn hi hz hz1 hs (some ⟨g, 0, none⟩) m cap q cs hold (by omega) (by omega) hb
      have hgr := grown cap (by omega) (Value.ownBlock (.slice (some ⟨g, 0, none⟩) m cap))
      exact hfin _ _ (hrun0 _ _ hr) hgr.1 hgr.2 (.inr (.inr rfl))
end
section
variable {Mo : Mode} {P : Program} {K : World} {n : Nat} {e : Env} {H : List Assn} {c : Bool} {dst : Option Tmp} {ty : TypeId} {pos : String} {af : Array Edge} {gd : Option (Nat × Bool)}
theorem V.negI {x : Operand} {t : TypeId} {i : Int} (hx : OV c e x (.int .i64 i)) (h : c = true → -9223372036854775807 ≤ i ∧ i ≤ 9223372036854775807) : Val Mo P K n c e H ⟨dst, .unOp .neg t x, ty, pos, af, gd⟩ (.int .i64 (-i)) := fun hc a w ha _ => by
  show ((do pure (Next.value (← Op.unary .neg (a.eval x)))) : Sem Next).run P w = _
  rw [hx.ev hc ha]
  have h1 := h hc
  have h2 : IntKind.i64.wrap (-i) = -i := by rw [IntKind.wrap_i64]; omega
  simp [Op.unary, Op.intArith, h2]
end
end Go.Sl
