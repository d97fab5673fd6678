/- The chip: Flip. -/
import Derived.Test.YtgmdagjnigkaaaaF1
import Derived.Test.YtgmdagjnigkaaaaC9
namespace Go.Proofs.Ytgmdagjnigkaaaa
open Go.Sl Go.RowKit
set_option linter.unusedVariables false
set_option linter.unusedSimpArgs false
set_option maxRecDepth 20000

def outOf (raw i : Int) : Bool := decide (i < 0) || decide (8 * raw ≤ i)
def flipL (raw : Int) (xs : List Int) : List Int := compactL (sorted (xs.filter fun i => !outOf raw i))
theorem mem_flipL {raw : Int} {xs : List Int} {i : Int} : i ∈ flipL raw xs ↔ i ∈ xs ∧ 0 ≤ i ∧ i < 8 * raw := by
  unfold flipL
  rw [mem_compactL, mem_sorted, List.mem_filter]
  unfold outOf
  simp
theorem flipL_sorted (raw : Int) (xs : List Int) : (flipL raw xs).Pairwise (· < ·) := compactL_sorted (sorted_sorted _)
theorem flipL_length (raw : Int) (xs : List Int) : (flipL raw xs).length ≤ xs.length := by
  have h1 := compactL_length (sorted (xs.filter fun i => !outOf raw i))
  rw [sorted_length] at h1
  have h2 := List.length_filter_le (fun i => !outOf raw i) xs
  unfold flipL
  omega
def Chip.flip (S : Chip) (b p : Int) (xs : List Int) : Chip := if S.page b p then { S with wrong := Chip.upds S.wrong (b, p) (some (flipL S.raw xs)) } else S
namespace Cw
def putWrong (C : Cw) (k : Int × Int) (e : Option Addr × Nat × List Int) (own : List Assn) : Cw := { C with wrong := fun q => if q = k then some e else C.wrong q, own := own }
theorem wrongF_put (C : Cw) (k : Int × Int) (e : Option Addr × Nat × List Int) (own : List Assn) : (C.putWrong k e own).wrongF = upd C.wrongF k (some (sliceOf e)) := by
  funext q
  show (if q = k then some e else C.wrong q).map sliceOf = if q = k then some (sliceOf e) else (C.wrong q).map sliceOf
  split <;> rfl
theorem sem_putW (C : Cw) (k : Int × Int) (e : Option Addr × Nat × List Int) (own : List Assn) : (C.putWrong k e own).sem = { C.sem with wrong := Chip.upds C.sem.wrong k (some e.2.2) } := by
  unfold sem putWrong
  simp only [Chip.mk.injEq, true_and, and_true]
  funext q
  show (if q = k then some e else C.wrong q).map (·.2.2) = if q = k then some e.2.2 else (C.wrong q).map (·.2.2)
  split <;> rfl
theorem Ok.putWrong {C : Cw} (h : C.Ok) {k : Int × Int} {e : Option Addr × Nat × List Int} {own : List Assn} (hup : ∀ K w, Sat K w [AllA own] → Sat K w [AllA C.own]) (h1 : SeqIn own e.1 e.2.2.length 1 (ints .i64 e.2.2)) (h2 : ∀ i ∈ e.2.2, 0 ≤ i ∧ i < 8 * C.g.raw) (h3 : e.2.2.length ≤ maxLen) :
    (C.putWrong k e own).Ok := by
  refine ⟨h.mays, fun p e' hp => ⟨(h.page p e' hp).1.mono hup, (h.page p e' hp).2⟩, fun p e' hp => ?_, h.len, h.next, h.left⟩
  have hp' : (if p = k then some e else C.wrong p) = some e' := hp
  split at hp'
  · injection hp' with hp'; subst hp'; exact ⟨h1, h2, h3⟩
  · have := h.wr p e' hp'; exact ⟨this.1.mono hup, this.2⟩
end Cw
theorem chip_Flip1 {bc b4 : Nat} {C : Cw} (hC : C.Ok) (i : Int) {K : World} {F : List Assn} (h4 : Rd K F (some ⟨b4, 0, none⟩) (ptr bc 0)) (hR : Rds K F bc 0 C.cells) :
    Tells Try.prog 63 #[.int .i64 i, ptr b4 0] K F (.bool (outOf C.g.raw i)) := by
  have hr := Geo.raw_bd hC.mays
  have hraw : Rd K F (some ⟨bc, 5, none⟩) (.int .i64 C.g.raw) := hR 5 _ rfl
  refine Does.enter Try.func63 rfl Try.ntmps63 rfl ?_
  simp only [env0, Nat.reduceAdd]
  refine WC.seq ?_
  refine WC.region ?_
  refine WL.val (V.assign (OV.p rfl)) rfl ?_
  refine WL.nil ?_
  refine WC.seq ?_
  refine WC.region ?_
  refine WL.val (V.move (OV.p rfl)) rfl ?_
  refine WL.val (V.lss (OV.p rfl) (OV.p rfl)) rfl ?_
  refine WL.val (V.move (OV.p rfl)) rfl ?_
  refine WL.valG (oj := _) rfl rfl rfl GC.f (V.move (OV.p rfl)) rfl ?_
  refine WL.valG (oj := _) rfl rfl rfl GC.f (V.load Try.isAgg25 (OV.p rfl) (fun _ => h4)) rfl ?_
  refine WL.valG (oj := _) rfl rfl rfl GC.f (V.nilCheck (OV.g rfl id)) rfl ?_
  refine WL.valG (oj := _) rfl rfl rfl GC.f (V.fieldAddr fo77_1 (OV.g rfl id)) rfl ?_
  refine WL.valG (oj := _) rfl rfl rfl GC.f (V.load Try.isAgg3 (OV.g rfl id) (fun _ => hraw)) rfl ?_
  refine WL.valG (oj := _) rfl rfl rfl GC.f (V.mulI (OV.p rfl) (OV.g rfl id) (fun hc => by first | omega | (simp at hc; omega))) rfl ?_
  refine WL.valG (oj := _) rfl rfl rfl GC.f (V.geq (OV.g rfl id) (OV.g rfl id)) rfl ?_
  refine WL.val (V.pickOr (OV.p rfl) (OV.g rfl id)) rfl ?_
  refine WL.val (V.assign (OV.p rfl)) rfl ?_
  refine WL.nil ?_
  refine WC.ret ?_
  exact BodyQ.ret (H' := F) (Res.tmp rfl rfl) (fun w h => h) ⟨rfl, rfl⟩
theorem chip_Flip {bc : Nat} {C : Cw} (hC : C.Ok) {B : Option Addr} {m cap : Nat} {xs : List Int} (b p : Int) {K : World} {F : List Assn} (hs : Seq K F B m 1 (ints .i64 xs)) (hm : m ≤ 1000000) :
    Does Try.prog 33 #[ptr bc 0, .int .i64 b, .int .i64 p, .slice B m cap] K (C.A bc :: F)
      (fun v H' => ∃ C' : Cw, C'.Ok ∧ H' = C'.A bc :: F ∧ C'.sem = C.sem.flip b p xs) := by
  have hl : xs.length = m := by simpa [ints] using hs.len
  have hfl := List.length_filter_le (fun i => !outOf C.g.raw i) xs
  have hll := flipL_length C.g.raw xs
  refine Does.openC ?_
  dsimp only [Cw.parts, List.cons_append, List.nil_append]
  refine Does.enter Try.func33 rfl Try.ntmps33 rfl ?_
  simp only [env0, Nat.reduceAdd]
  refine WC.seq ?_
  refine WC.region ?_
  refine WL.box (cs := [_]) (OV.p rfl) rfl rfl (fun b4 => ?_)
  refine WL.nil ?_
  refine WC.seq ?_
  refine WC.seq ?_
  refine WC.region ?_
  refine WL.val (V.load Try.isAgg25 (OV.p rfl) (fun _ => by repeat (first | exact Rd.here rfl | apply Rd.up))) rfl ?_
  refine WL.val (V.eqlP Try.underlying25 (OV.p rfl) (OV.p rfl)) rfl ?_
  refine WL.val (V.move (OV.p rfl)) rfl ?_
  refine WL.valG (oj := _) rfl rfl rfl GC.f (V.load Try.isAgg25 (OV.p rfl) (fun _ => by repeat (first | exact Rd.here rfl | apply Rd.up))) rfl ?_
  refine WL.valG (oj := _) rfl rfl rfl GC.f (V.move (OV.p rfl)) rfl ?_
  refine WL.valG (oj := _) rfl rfl rfl GC.f (V.move (OV.p rfl)) rfl ?_
  refine WL.callG (oj := _) (vs := [_, _, _]) rfl rfl rfl GC.f Try.call44 ⟨OV.g rfl id, OV.g rfl id, OV.g rfl id, trivial⟩ (fun hg => chip_page (C := C) b p (by repeat (first | exact Rds.all | apply Rds.up))) rfl ?_
  refine WL.valG (oj := _) rfl rfl rfl GC.f (V.not (OV.g rfl id)) rfl ?_
  refine WL.val (V.pickOr (OV.p rfl) (OV.g rfl id)) rfl ?_
  refine WL.nil ?_
  refine WC.cond rfl (fun hc0 => ?_) (fun hc0 => ?_)
  · skip
    have h0 := hc0
    simp at h0
    refine WC.ret ?_
    refine BodyQ.ret (H' := C.A bc :: F) (Res.none rfl) (fun w h => Sat.all (l := C.parts bc) h.tail) ⟨C, hC, rfl, ?_⟩
    unfold Chip.flip
    rw [if_neg (by rw [h0]; decide)]
  · skip
    have h0 := hc0
    simp at h0
    refine WC.skip ?_
    refine WC.seq ?_
    refine WC.region ?_
    refine WL.val (V.move (OV.p rfl)) rfl ?_
    refine WL.call (vs := [_]) Try.call62 ⟨OV.p rfl, trivial⟩ (clone_ints (xs := xs) (by repeat (first | exact hs | apply Seq.up)) hm) rfl ?_
    rintro _ _ ⟨A', c', rfl, rfl⟩
    refine WL.val (V.makeFunc (us := []) (vs := [_]) trivial ⟨OV.p rfl, trivial⟩) rfl ?_
    refine WL.call (vs := [_, _]) Try.call61 ⟨OV.p rfl, OV.p rfl, trivial⟩ (deleteFunc (xs := xs) (p := outOf C.g.raw) (capt := [ptr b4 0]) Try.call63 (fun x hx X => chip_Flip1 hC x (by repeat (first | exact Rd.here rfl | apply Rd.up)) (by repeat (first | exact Rds.all | apply Rds.up)))) rfl ?_
    rintro _ _ ⟨q1, hq1, rfl, rfl⟩
    refine WL.val (V.assign (OV.p rfl)) rfl ?_
    refine WL.nil ?_
    refine WC.seq ?_
    refine WC.region ?_
    refine WL.val (V.move (OV.p rfl)) rfl ?_
    refine WL.call (vs := [_]) Try.call64 ⟨OV.p rfl, trivial⟩ (sort_ints (by omega)) rfl ?_
    rintro _ _ rfl
    refine WL.sub (Sub.refl _) (fun w h => h.sel 8 [0, 4, 1, 2, 3, 5, 6, 7] rfl) ?_
    refine WL.nil ?_
    refine WC.regionA (Cells b4 25 [ptr bc 0] :: Cells bc 77 C.cells :: MapA C.bp key82 C.pagesF :: Cells C.bn 3 (ints .i64 C.next) :: MapA C.bm key3 (boolF C.marked) :: MapA C.bk key3 (boolF C.weak) :: AllA C.own :: F) (by kernel_rfl) ?_
    refine WA.take 0 (fun w h => by repeat (first | exact h | replace h := h.tail)) rfl (by kernel_rfl) (by kernel_rfl) (by kernel_rfl) (fun _ _ _ h => h) (V.load Try.isAgg25 (OV.p rfl) (fun _ => by repeat (first | exact Rd.here rfl | apply Rd.up))) rfl ?_
    refine WA.take 1 (fun w h => by repeat (first | exact h | replace h := h.tail)) rfl (by kernel_rfl) (by kernel_rfl) (by kernel_rfl) (fun _ _ _ h => h) (V.nilCheck (OV.p rfl)) rfl ?_
    refine WA.take 2 (fun w h => by repeat (first | exact h | replace h := h.tail)) rfl (by kernel_rfl) (by kernel_rfl) (by kernel_rfl) (fun _ _ _ h => h) (V.fieldAddr fo77_3 (OV.p rfl)) rfl ?_
    refine WA.take 3 (fun w h => by repeat (first | exact h | replace h := h.tail)) rfl (by kernel_rfl) (by kernel_rfl) (by kernel_rfl) (fun _ _ _ h => h) (V.load Try.isAgg74 (OV.p rfl) (fun _ => by repeat (first | exact Rd.here rfl | apply Rd.up))) rfl ?_
    refine WA.take 4 (fun w h => by repeat (first | exact h | replace h := h.tail)) rfl (by kernel_rfl) (by kernel_rfl) (by kernel_rfl) (fun _ _ _ h => h) (V.move (OV.p rfl)) rfl ?_
    refine WA.take 5 (fun w h => by repeat (first | exact h | replace h := h.tail)) rfl (by kernel_rfl) (by kernel_rfl) (by kernel_rfl) (fun _ _ _ h => h) (V.move (OV.p rfl)) rfl ?_
    refine WA.take 6 (fun w h => by repeat (first | exact h | replace h := h.tail)) rfl (by kernel_rfl) (by kernel_rfl) (by kernel_rfl) (fun _ _ _ h => h) (V.build (vs := [(0, _), (1, _)]) ⟨OV.p rfl, OV.p rfl, trivial⟩ rfl (bld82_0_1 _ _)) rfl ?_
    refine WA.take 7 (fun w h => by repeat (first | exact h | replace h := h.tail)) rfl (by kernel_rfl) (by kernel_rfl) (by kernel_rfl) (fun _ _ _ h => h) (V.move (OV.p rfl)) rfl ?_
    refine WA.one (i := 8) (fun w h => by repeat (first | exact h | replace h := h.tail)) (by kernel_rfl) rfl ?_
    refine WL.call (vs := [_]) Try.call65 ⟨OV.p rfl, trivial⟩ (compact_ints) rfl ?_
    rintro _ _ ⟨q2, hq2, rfl, rfl⟩
    refine WL.nil ?_
    refine WA.one (i := 9) (fun w h => by repeat (first | exact h | replace h := h.tail)) (by kernel_rfl) rfl ?_
    refine WL.mapUpdateR (k := (_, _)) Try.underlying74 kl82 (OV.p rfl) (OV.p rfl) (OV.p rfl) (by repeat (first | exact Repl.here | apply Repl.up)) ?_
    refine WL.nil ?_
    refine WA.done (by kernel_rfl) (fun w h => by repeat (first | exact h | replace h := h.tail)) ?_
    have hpg : C.sem.page b p = true := h0
    have hq2' : q2 = (flipL C.g.raw xs).length := hq2
    have e1 : C.sem.flip b p xs = { C.sem with wrong := Chip.upds C.sem.wrong (b, p) (some (flipL C.g.raw xs)) } := by unfold Chip.flip; rw [if_pos hpg]; rfl
    obtain ⟨D, hD⟩ : ∃ D, D = C.putWrong (b, p) (A', c', flipL C.g.raw xs) (SlA (.slice A' q2 c') 3 1 q2 (ints .i64 (flipL C.g.raw xs)) :: C.own) := ⟨_, rfl⟩
    have hDok : D.Ok := by
      rw [hD]
      refine hC.putWrong (Cw.up_own _ _) (SeqIn.here fun K => ?_) (fun i hi => (mem_flipL.1 hi).2) (by show (flipL C.g.raw xs).length ≤ maxLen; simp only [maxLen]; omega)
      show Seq K _ A' (flipL C.g.raw xs).length 1 (ints .i64 (flipL C.g.raw xs))
      rw [← hq2']
      exact SlA.seq (by rw [ints_length]; omega)
    rw [e1]
    refine BodyQ.normal (H' := D.A bc :: F) (Res.none rfl) (fun w h => ?_) ⟨D, hDok, rfl, by rw [hD, Cw.sem_putW]⟩
    have h1 := (h.sel 9 [0, 8, 3, 4, 1, 5, 6, 7] rfl).absorb
    have h2 := h1.sel 7 [1, 2, 3, 4, 5, 6, 0] rfl
    refine Sat.all (l := D.parts bc) ?_
    have e2 : D.wrongF = upd C.wrongF (b, p) (some (.slice A' q2 c')) := by rw [hD, Cw.wrongF_put]; unfold Cw.sliceOf; rw [← hq2']
    unfold Cw.parts
    rw [e2]
    subst hD
    exact h2
end Go.Proofs.Ytgmdagjnigkaaaa
