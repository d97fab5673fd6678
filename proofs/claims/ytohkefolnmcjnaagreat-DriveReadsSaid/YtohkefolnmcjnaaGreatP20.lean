import Derived.Test.YtohkefolnmcjnaaGreatP19
import Derived.Test.YtohkefolnmcjnaaGreatP4
import Derived.Test.YtohkefolnmcjnaaGreatP18
import Derived.Test.YtohkefolnmcjnaaGreatP17
/- The chip: Flip. -/
namespace Go.Proofs.YtohkefolnmcjnaaGreat
open Go.Sl Go.RowKit
set_option linter.unusedVariables false
set_option linter.unusedSimpArgs false
set_option maxRecDepth 20000

def outOf (raw i : Int) : Bool := decide (i < 0) || decide (8 * raw ≤ i)
def flipL (raw : Int) (xs : List Int) : List Int := compactL (sorted (xs.filter fun i => !outOf raw i))
theorem mem_flipL {raw : Int} {xs : List Int} {i : Int} : i ∈ flipL raw xs ↔ i ∈ xs ∧ 0 ≤ i ∧ i < 8 * raw := by
  unfold flipL
  rw [mem_compactL, mem_sorted, List.mem_filter]
  unfold outOf
  simp
theorem flipL_sorted (raw : Int) (xs : List Int) : (flipL raw xs).Pairwise (· < ·) := compactL_sorted (sorted_sorted _)
theorem flipL_length (raw : Int) (xs : List Int) : (flipL raw xs).length ≤ xs.length := by
  have h1 := compactL_length (sorted (xs.filter fun i => !outOf raw i))
  rw [sorted_length] at h1
  have h2 := List.length_filter_le (fun i => !outOf raw i) xs
  unfold flipL
  omega
def Chip.flip (S : Chip) (b p : Int) (xs : List Int) : Chip := if S.page b p then { S with wrong := Chip.upds S.wrong (b, p) (some (flipL S.raw xs)) } else S
namespace Cw
def putWrong (C : Cw) (k : Int × Int) (e : Option Addr × Nat × List Int) (own : List Assn) : Cw := { C with wrong := fun q => if q = k then some e else C.wrong q, own := own }
theorem wrongF_put (C : Cw) (k : Int × Int) (e : Option Addr × Nat × List Int) (own : List Assn) : (C.putWrong k e own).wrongF = upd C.wrongF k (some (sliceOf e)) := by
  funext q
  show (if q = k then some e else C.wrong q).map sliceOf = if q = k then some (sliceOf e) else (C.wrong q).map sliceOf
  split <;> rfl
theorem sem_putW (C : Cw) (k : Int × Int) (e : Option Addr × Nat × List Int) (own : List Assn) : (C.putWrong k e own).sem = { C.sem with wrong := Chip.upds C.sem.wrong k (some e.2.2) } := by
  unfold sem putWrong
  simp only [Chip.mk.injEq, true_and, and_true]
  funext q
  show (if q = k then some e else C.wrong q).map (·.2.2) = if q = k then some e.2.2 else (C.wrong q).map (·.2.2)
  split <;> rfl
theorem Ok.putWrong {C : Cw} (h : C.Ok) {k : Int × Int} {e : Option Addr × Nat × List Int} {own : List Assn} (hup : ∀ K w, Sat K w [AllA own] → Sat K w [AllA C.own]) (h1 : SeqIn own e.1 e.2.2.length 1 (ints .i64 e.2.2)) (h2 : ∀ i ∈ e.2.2, 0 ≤ i ∧ i < 8 * C.g.raw) (h3 : e.2.2.length ≤ maxLen) :
    (C.putWrong k e own).Ok := by
  refine ⟨h.mays, fun p e' hp => ⟨(h.page p e' hp).1.mono hup, (h.page p e' hp).2⟩, fun p e' hp => ?_, h.len, h.next, h.left⟩
  have hp' : (if p = k then some e else C.wrong p) = some e' := hp
  split at hp'
  · injection hp' with hp'; subst hp'; exact ⟨h1, h2, h3⟩
  · have := h.wr p e' hp'; exact ⟨this.1.mono hup, this.2⟩
end Cw
theorem chip_Flip1 {bc b4 : Nat} {C : Cw} (hC : C.Ok) (i : Int) {K : World} {F : List Assn} (h4 : Rd K F (some ⟨b4, 0, none⟩) (ptr bc 0)) (hR : Rds K F bc 0 C.cells) :
    Tells Tryz.prog 83 #[.int .i64 i, ptr b4 0] K F (.bool (outOf C.g.raw i)) := by
  have hr := Geo.raw_bd hC.mays
  have hraw : Rd K F (some ⟨bc, 5, none⟩) (.int .i64 C.g.raw) := hR 5 _ rfl
  refine Does.enter Tryz.func83 rfl Tryz.ntmps83 rfl ?_
  simp only [env0, Nat.reduceAdd]
  refine WC.seq ?_
  refine WC.region ?_
  refine WL.val (V.assign (OV.p rfl)) rfl ?_
  refine WL.nil ?_
  refine WC.seq ?_
  refine WC.region ?_
  refine WL.val (V.move (OV.p rfl)) rfl ?_
  refine WL.val (V.lss (OV.p rfl) (OV.p rfl)) rfl ?_
  refine WL.val (V.move (OV.p rfl)) rfl ?_
  refine WL.valG (oj := _) rfl rfl rfl GC.f (V.move (OV.p rfl)) rfl ?_
  refine WL.valG (oj := _) rfl rfl rfl GC.f (V.load Tryz.isAgg27 (OV.p rfl) (fun _ => h4)) rfl ?_
  refine WL.valG (oj := _) rfl rfl rfl GC.f (V.nilCheck (OV.g rfl id)) rfl ?_
  refine WL.valG (oj := _) rfl rfl rfl GC.f (V.fieldAddr fo92_1 (OV.g rfl id)) rfl ?_
  refine WL.valG (oj := _) rfl rfl rfl GC.f (V.load Tryz.isAgg3 (OV.g rfl id) (fun _ => hraw)) rfl ?_
  refine WL.valG (oj := _) rfl rfl rfl GC.f (V.mulI (OV.p rfl) (OV.g rfl id) (fun hc => by first | omega | (simp at hc; omega))) rfl ?_
  refine WL.valG (oj := _) rfl rfl rfl GC.f (V.geq (OV.g rfl id) (OV.g rfl id)) rfl ?_
  refine WL.val (V.pickOr (OV.p rfl) (OV.g rfl id)) rfl ?_
  refine WL.val (V.assign (OV.p rfl)) rfl ?_
  refine WL.nil ?_
  refine WC.ret ?_
  exact BodyQ.ret (H' := F) (Res.tmp rfl rfl) (fun w h => h) ⟨rfl, rfl⟩
theorem chip_Flip {bc : Nat} {C : Cw} (hC : C.Ok) {B : Option Addr} {m cap : Nat} {xs : List Int} (b p : Int) {K : World} {F : List Assn} (hs : Seq K F B m 1 (ints .i64 xs)) (hm : m ≤ 1000000) :
    Does Tryz.prog 25 #[ptr bc 0, .int .i64 b, .int .i64 p, .slice B m cap] K (C.A bc :: F)
      (fun v H' => ∃ C' : Cw, C'.Ok ∧ H' = C'.A bc :: F ∧ C'.sem = C.sem.flip b p xs) := by
  have hl : xs.length = m := by simpa [ints] using hs.len
  have hfl := List.length_filter_le (fun i => !outOf C.g.raw i) xs
  have hll := flipL_length C.g.raw xs
  refine Does.openC ?_
  dsimp only [Cw.parts, List.cons_append, List.nil_append]
  refine Does.enter Tryz.func25 rfl Tryz.ntmps25 rfl ?_
  simp only [env0, Nat.reduceAdd]
  refine WC.seq ?_
  refine WC.region ?_
  refine WL.box (cs := [_]) (OV.p rfl) rfl rfl (fun b4 => ?_)
  refine WL.nil ?_
  refine WC.seq ?_
  refine WC.seq ?_
  refine WC.region ?_
  refine WL.val (V.load Tryz.isAgg27 (OV.p rfl) (fun _ => by repeat (first | exact Rd.here rfl | apply Rd.up))) rfl ?_
  refine WL.val (V.eqlP Tryz.underlying27 (OV.p rfl) (OV.p rfl)) rfl ?_
  refine WL.val (V.move (OV.p rfl)) rfl ?_
  refine WL.valG (oj := _) rfl rfl rfl GC.f (V.load Tryz.isAgg27 (OV.p rfl) (fun _ => by repeat (first | exact Rd.here rfl | apply Rd.up))) rfl ?_
  refine WL.valG (oj := _) rfl rfl rfl GC.f (V.move (OV.p rfl)) rfl ?_
  refine WL.valG (oj := _) rfl rfl rfl GC.f (V.move (OV.p rfl)) rfl ?_
  refine WL.callG (oj := _) (vs := [_, _, _]) rfl rfl rfl GC.f Tryz.call80 ⟨OV.g rfl id, OV.g rfl id, OV.g rfl id, trivial⟩ (fun hg => chip_page (C := C) b p (by repeat (first | exact Rds.all | apply Rds.up))) rfl ?_
  refine WL.valG (oj := _) rfl rfl rfl GC.f (V.not (OV.g rfl id)) rfl ?_
  refine WL.val (V.pickOr (OV.p rfl) (OV.g rfl id)) rfl ?_
  refine WL.nil ?_
  refine WC.cond rfl (fun hc0 => ?_) (fun hc0 => ?_)
  · skip
    have h0 := hc0
    simp at h0
    refine WC.ret ?_
    refine BodyQ.ret (H' := C.A bc :: F) (Res.none rfl) (fun w h => Sat.all (l := C.parts bc) h.tail) ⟨C, hC, rfl, ?_⟩
    unfold Chip.flip
    rw [if_neg (by rw [h0]; decide)]
  · skip
    have h0 := hc0
    simp at h0
    refine WC.skip ?_
    refine WC.seq ?_
    refine WC.region ?_
    refine WL.val (V.move (OV.p rfl)) rfl ?_
    refine WL.call (vs := [_]) Tryz.call82 ⟨OV.p rfl, trivial⟩ (clone_ints (xs := xs) (by repeat (first | exact hs | apply Seq.up)) hm) rfl ?_
    rintro _ _ ⟨A', c', rfl, rfl⟩
    refine WL.val (V.makeFunc (us := []) (vs := [_]) trivial ⟨OV.p rfl, trivial⟩) rfl ?_
    refine WL.call (vs := [_, _]) Tryz.call81 ⟨OV.p rfl, OV.p rfl, trivial⟩ (deleteFunc (xs := xs) (p := outOf C.g.raw) (capt := [ptr b4 0]) Tryz.call83 (fun x hx X => chip_Flip1 hC x (by repeat (first | exact Rd.here rfl | apply Rd.up)) (by repeat (first | exact Rds.all | apply Rds.up)))) rfl ?_
    rintro _ _ ⟨q1, hq1, rfl, rfl⟩
    refine WL.val (V.assign (OV.p rfl)) rfl ?_
    refine WL.nil ?_
    refine WC.seq ?_
    refine WC.region ?_
    refine WL.val (V.move (OV.p rfl)) rfl ?_
    refine WL.call (vs := [_]) Tryz.call84 ⟨OV.p rfl, trivial⟩ (sort_ints (by omega)) rfl ?_
    rintro _ _ rfl
    refine WL.sub (Sub.refl _) (fun w h => h.sel 8 [0, 4, 1, 2, 3, 5, 6, 7] rfl) ?_
    refine WL.nil ?_
    refine WC.regionA (Cells b4 27 [ptr bc 0] :: Cells bc 92 C.cells :: MapA C.bp key120 C.pagesF :: Cells C.bn 3 (ints .i64 C.next) :: MapA C.bm key3 (boolF C.marked) :: MapA C.bk key3 (boolF C.weak) :: AllA C.own :: F) (by kernel_rfl) ?_
    refine WA.take 0 (fun w h => by repeat (first | exact h | replace h := h.tail)) rfl (by kernel_rfl) (by kernel_rfl) (by kernel_rfl) (fun _ _ _ h => h) (V.load Tryz.isAgg27 (OV.p rfl) (fun _ => by repeat (first | exact Rd.here rfl | apply Rd.up))) rfl ?_
    refine WA.take 1 (fun w h => by repeat (first | exact h | replace h := h.tail)) rfl (by kernel_rfl) (by kernel_rfl) (by kernel_rfl) (fun _ _ _ h => h) (V.nilCheck (OV.p rfl)) rfl ?_
    refine WA.take 2 (fun w h => by repeat (first | exact h | replace h := h.tail)) rfl (by kernel_rfl) (by kernel_rfl) (by kernel_rfl) (fun _ _ _ h => h) (V.fieldAddr fo92_3 (OV.p rfl)) rfl ?_
    refine WA.take 3 (fun w h => by repeat (first | exact h | replace h := h.tail)) rfl (by kernel_rfl) (by kernel_rfl) (by kernel_rfl) (fun _ _ _ h => h) (V.load Tryz.isAgg89 (OV.p rfl) (fun _ => by repeat (first | exact Rd.here rfl | apply Rd.up))) rfl ?_
    refine WA.take 4 (fun w h => by repeat (first | exact h | replace h := h.tail)) rfl (by kernel_rfl) (by kernel_rfl) (by kernel_rfl) (fun _ _ _ h => h) (V.move (OV.p rfl)) rfl ?_
    refine WA.take 5 (fun w h => by repeat (first | exact h | replace h := h.tail)) rfl (by kernel_rfl) (by kernel_rfl) (by kernel_rfl) (fun _ _ _ h => h) (V.move (OV.p rfl)) rfl ?_
    refine WA.take 6 (fun w h => by repeat (first | exact h | replace h := h.tail)) rfl (by kernel_rfl) (by kernel_rfl) (by kernel_rfl) (fun _ _ _ h => h) (V.build (vs := [(0, _), (1, _)]) ⟨OV.p rfl, OV.p rfl, trivial⟩ rfl (bld120_0_1 _ _)) rfl ?_
    refine WA.take 7 (fun w h => by repeat (first | exact h | replace h := h.tail)) rfl (by kernel_rfl) (by kernel_rfl) (by kernel_rfl) (fun _ _ _ h => h) (V.move (OV.p rfl)) rfl ?_
    refine WA.one (i := 8) (fun w h => by repeat (first | exact h | replace h := h.tail)) (by kernel_rfl) rfl ?_
    refine WL.call (vs := [_]) Tryz.call85 ⟨OV.p rfl, trivial⟩ (compact_ints) rfl ?_
    rintro _ _ ⟨q2, hq2, rfl, rfl⟩
    refine WL.nil ?_
    refine WA.one (i := 9) (fun w h => by repeat (first | exact h | replace h := h.tail)) (by kernel_rfl) rfl ?_
    refine WL.mapUpdateR (k := (_, _)) Tryz.underlying89 kl120 (OV.p rfl) (OV.p rfl) (OV.p rfl) (by repeat (first | exact Repl.here | apply Repl.up)) ?_
    refine WL.nil ?_
    refine WA.done (by kernel_rfl) (fun w h => by repeat (first | exact h | replace h := h.tail)) ?_
    have hpg : C.sem.page b p = true := h0
    have hq2' : q2 = (flipL C.g.raw xs).length := hq2
    have e1 : C.sem.flip b p xs = { C.sem with wrong := Chip.upds C.sem.wrong (b, p) (some (flipL C.g.raw xs)) } := by unfold Chip.flip; rw [if_pos hpg]; rfl
    obtain ⟨D, hD⟩ : ∃ D, D = C.putWrong (b, p) (A', c', flipL C.g.raw xs) (SlA (.slice A' q2 c') 3 1 q2 (ints .i64 (flipL C.g.raw xs)) :: C.own) := ⟨_, rfl⟩
    have hDok : D.Ok := by
      rw [hD]
      refine hC.putWrong (Cw.up_own _ _) (SeqIn.here fun K => ?_) (fun i hi => (mem_flipL.1 hi).2) (by show (flipL C.g.raw xs).length ≤ maxLen; simp only [maxLen]; omega)
      show Seq K _ A' (flipL C.g.raw xs).length 1 (ints .i64 (flipL C.g.raw xs))
      rw [← hq2']
      exact SlA.seq (by rw [ints_length]; omega)
    rw [e1]
    refine BodyQ.normal (H' := D.A bc :: F) (Res.none rfl) (fun w h => ?_) ⟨D, hDok, rfl, by rw [hD, Cw.sem_putW]⟩
    have h1 := (h.sel 9 [0, 8, 3, 4, 1, 5, 6, 7] rfl).absorb
    have h2 := h1.sel 7 [1, 2, 3, 4, 5, 6, 0] rfl
    refine Sat.all (l := D.parts bc) ?_
    have e2 : D.wrongF = upd C.wrongF (b, p) (some (.slice A' q2 c')) := by rw [hD, Cw.wrongF_put]; unfold Cw.sliceOf; rw [← hq2']
    unfold Cw.parts
    rw [e2]
    subst hD
    exact h2
end Go.Proofs.YtohkefolnmcjnaaGreat
/- casemateref01.Ints; slices of bytes as strings. -/
namespace Go.Proofs.YtohkefolnmcjnaaGreat
open Go.Sl Go.RowKit
set_option linter.unusedVariables false
set_option linter.unusedSimpArgs false
set_option maxRecDepth 20000
/-- Two lists of numbers: are they one? -/
theorem ref01_Ints {A B : Option Addr} {m q cap cap' : Nat} {xs ys : List Int} (K : World) (F : List Assn) (ha : Seq K F A m 1 (ints .i64 xs)) (hb : Seq K F B q 1 (ints .i64 ys)) (hm : (m : Int) ≤ 9223372036854775807) :
    Tells Tryz.prog 17 #[.slice A m cap, .slice B q cap'] K F (.bool (decide (xs = ys))) := by
  have hl : xs.length = m := by simpa [ints] using ha.len
  have hl' : ys.length = q := by simpa [ints] using hb.len
  refine Does.enter Tryz.func17 rfl Tryz.ntmps17 rfl ?_
  simp only [env0, Nat.reduceAdd]
  refine WC.seq ?_
  refine WC.region ?_
  refine WL.val (V.assign (OV.p rfl)) rfl ?_
  refine WL.nil ?_
  refine WC.seq ?_
  refine WC.seq ?_
  refine WC.region ?_
  refine WL.val (V.move (OV.p rfl)) rfl ?_
  refine WL.val (V.len (t := 42) Tryz.runUnderlying42 (OV.p rfl)) rfl ?_
  refine WL.val (V.move (OV.p rfl)) rfl ?_
  refine WL.val (V.len (t := 42) Tryz.runUnderlying42 (OV.p rfl)) rfl ?_
  refine WL.val (V.neq (OV.p rfl) (OV.p rfl)) rfl ?_
  refine WL.nil ?_
  refine WC.cond rfl (fun hc0 => ?_) (fun hc0 => ?_)
  · simp only [decide_eq_true_eq, decide_eq_false_iff_not, Bool.and_eq_true, Bool.or_eq_true, Bool.and_eq_false_iff, Bool.or_eq_false_iff, Bool.not_eq_true', Bool.not_eq_false', Bool.not_eq_true, Bool.not_eq_false, Int.not_lt, Int.not_le] at hc0
    refine WC.seq ?_
    refine WC.region ?_
    refine WL.val (V.assign (OV.p rfl)) rfl ?_
    refine WL.nil ?_
    refine WC.ret ?_
    refine BodyQ.ret (H' := F) (Res.tmp rfl rfl) (fun w h => by repeat (first | exact h | replace h := h.tail)) ⟨?_, rfl⟩
    rw [decide_eq_false]; intro h; subst h; omega
  · simp only [decide_eq_true_eq, decide_eq_false_iff_not, Bool.and_eq_true, Bool.or_eq_true, Bool.and_eq_false_iff, Bool.or_eq_false_iff, Bool.not_eq_true', Bool.not_eq_false', Bool.not_eq_true, Bool.not_eq_false, Int.not_lt, Int.not_le] at hc0
    obtain rfl : m = q := by omega
    refine WC.skip ?_
    refine WC.seq ?_
    refine WC.seq ?_
    refine WC.region ?_
    refine WL.val (V.assign (OV.p rfl)) rfl ?_
    refine WL.nil ?_
    refine WC.block ?_
    refine WC.loop (σ := Nat) (fun k => [(0, .slice A m cap), (1, .slice B m cap'), (5, .int .i64 (k : Int))]) (fun _ => F) (fun k => k ≤ m ∧ ∀ i, i < k → xs.getD i 0 = ys.getD i 0) (fun k => m - k) 0 ⟨Nat.zero_le _, fun i hi => absurd hi (Nat.not_lt_zero i)⟩ (.cons rfl (.cons rfl (.cons rfl (.nil _)))) (fun w h => h) ?_
    rintro k ⟨hk, heq⟩
    refine WC.seq ?_
    refine WC.seq ?_
    refine WC.region ?_
    refine WL.val (V.move (OV.p rfl)) rfl ?_
    refine WL.val (V.move (OV.p rfl)) rfl ?_
    refine WL.val (V.len (t := 42) Tryz.runUnderlying42 (OV.p rfl)) rfl ?_
    refine WL.val (V.lss (OV.p rfl) (OV.p rfl)) rfl ?_
    refine WL.nil ?_
    refine WC.cond rfl (fun hc1 => ?_) (fun hc1 => ?_)
    · try simp only [decide_eq_true_eq, decide_eq_false_iff_not, Bool.and_eq_true, Bool.or_eq_true, Bool.and_eq_false_iff, Bool.or_eq_false_iff, Bool.not_eq_true', Bool.not_eq_false', Bool.not_eq_true, Bool.not_eq_false, Int.not_lt, Int.not_le] at hc1
      refine WC.skip ?_
      refine WC.seq ?_
      refine WC.block ?_
      refine WC.seq ?_
      refine WC.regionQ (by kernel_rfl) (by kernel_rfl) ?_
      refine WQ.val (V.move (OV.p rfl)) rfl ?_
      refine WQ.val (V.move (OV.p rfl)) rfl ?_
      refine WQ.val (V.idxS st42 (OV.p rfl) (OV.p rfl) (fun hc => by first | omega | (simp at hc; omega)) (fun hc => by repeat (first | exact Seq.int_rd ha (by first | omega | (simp at hc; omega)) | apply Rd.up))) rfl ?_
      refine WQ.val (V.load Tryz.isAgg3 (OV.p rfl) (fun hc => by repeat (first | exact Seq.int_rd ha (by first | omega | (simp at hc; omega)) | apply Rd.up))) rfl ?_
      refine WQ.val (V.move (OV.p rfl)) rfl ?_
      refine WQ.val (V.move (OV.p rfl)) rfl ?_
      refine WQ.val (V.idxS st42 (OV.p rfl) (OV.p rfl) (fun hc => by first | omega | (simp at hc; omega)) (fun hc => by repeat (first | exact Seq.int_rd hb (by first | omega | (simp at hc; omega)) | apply Rd.up))) rfl ?_
      refine WQ.val (V.load Tryz.isAgg3 (OV.p rfl) (fun hc => by repeat (first | exact Seq.int_rd hb (by first | omega | (simp at hc; omega)) | apply Rd.up))) rfl ?_
      refine WQ.val (V.neq (OV.p rfl) (OV.p rfl)) rfl ?_
      refine WQ.nil ?_
      refine WC.cond rfl (fun hc2 => ?_) (fun hc2 => ?_)
      · try simp only [decide_eq_true_eq, decide_eq_false_iff_not, Bool.and_eq_true, Bool.or_eq_true, Bool.and_eq_false_iff, Bool.or_eq_false_iff, Bool.not_eq_true', Bool.not_eq_false', Bool.not_eq_true, Bool.not_eq_false, Int.not_lt, Int.not_le] at hc2
        refine WC.seq ?_
        refine WC.region ?_
        refine WL.val (V.assign (OV.p rfl)) rfl ?_
        refine WL.nil ?_
        refine WC.ret ?_
        refine BodyQ.ret (H' := F) (Res.tmp rfl rfl) (fun w h => by repeat (first | exact h | replace h := h.tail)) ⟨?_, rfl⟩
        rw [decide_eq_false]; intro h; subst h; exact hc2 rfl
      · try simp only [decide_eq_true_eq, decide_eq_false_iff_not, Bool.and_eq_true, Bool.or_eq_true, Bool.and_eq_false_iff, Bool.or_eq_false_iff, Bool.not_eq_true', Bool.not_eq_false', Bool.not_eq_true, Bool.not_eq_false, Int.not_lt, Int.not_le] at hc2
        refine WC.skip ?_
        refine WC.region ?_
        refine WL.val (V.move (OV.p rfl)) rfl ?_
        refine WL.val (V.addI (OV.p rfl) (OV.p rfl) (fun hc => by first | omega | (simp at hc; omega))) rfl ?_
        refine WL.val (V.assign (OV.p rfl)) rfl ?_
        refine WL.nil ?_
        refine ⟨rfl, ?_⟩
        refine ⟨k + 1, ⟨by omega, fun i hi => ?_⟩, (by show m - (k + 1) < m - k; omega), .cons rfl (.cons rfl (.cons (look_eq rfl (by simp)) (.nil _))), fun w h => h⟩
        rcases Nat.lt_succ_iff_lt_or_eq.1 hi with h | h
        · exact heq i h
        · subst h; simpa using hc2
    · try simp only [decide_eq_true_eq, decide_eq_false_iff_not, Bool.and_eq_true, Bool.or_eq_true, Bool.and_eq_false_iff, Bool.or_eq_false_iff, Bool.not_eq_true', Bool.not_eq_false', Bool.not_eq_true, Bool.not_eq_false, Int.not_lt, Int.not_le] at hc1
      refine WC.exit ?_
      refine WC.seq ?_
      refine WC.region ?_
      refine WL.val (V.assign (OV.p rfl)) rfl ?_
      refine WL.nil ?_
      refine WC.ret ?_
      refine BodyQ.ret (H' := F) (Res.tmp rfl rfl) (fun w h => by repeat (first | exact h | replace h := h.tail)) ⟨?_, rfl⟩
      rw [decide_eq_true]
      apply List.ext_getElem (by omega)
      intro i h1 h2
      have := heq i (by omega)
      simpa [List.getD, h1, h2] using this
end Go.Proofs.YtohkefolnmcjnaaGreat
/- The drive's functions at any geometry; a nil drive; casematelaw08: small, tiny, awake. -/
namespace Go.Proofs.YtohkefolnmcjnaaGreat
open Go.Sl Go.RowKit
set_option linter.unusedVariables false
set_option linter.unusedSimpArgs false
set_option maxRecDepth 20000

namespace Chip
theorem program_g (S : Chip) (b p : Int) (xs : List Int) : (S.program b p xs).1.g = S.g := by unfold program; repeat (first | rfl | split)
theorem erase_g (S : Chip) (b : Int) : (S.erase b).1.g = S.g := by unfold erase; repeat (first | rfl | split)
theorem mark_g (S : Chip) (b : Int) : (S.mark b).1.g = S.g := by
  unfold mark all
  repeat (first | rfl | split)
theorem done_g (b : Int) (x : Chip × Int) : (done b x).1.g = x.1.g := by
  unfold done
  split
  · rfl
  · split
    · exact mark_g _ _
    · exact mark_g _ _
theorem dWrite_g (S : Chip) (b p : Int) (d : List Nat) : (S.dWrite b p d).1.g = S.g := by
  unfold dWrite
  split
  · rfl
  · rw [done_g, program_g]
theorem dErase_g (S : Chip) (b : Int) : (S.dErase b).1.g = S.g := by
  unfold dErase
  split
  · rfl
  · rw [done_g, erase_g]
end Chip
theorem Cw.g_sem {C C' : Cw} {S : Chip} (h : C'.sem = S) (hg : S.g = C.sem.g) : C'.g = C.g := by
  have : C'.sem.g = C.sem.g := by rw [h, hg]
  exact this
section
variable {bc bd : Nat} {C : Cw} {g : Geo} {K : World} {F : List Assn}
theorem drive_WriteG (hC : C.Ok) (hg : C.g = g) (b p : Int) {A : Option Addr} {m cap : Nat} {d : List Nat} (hd : Seq K F A m 1 (nats .u8 d)) (h8 : Small 256 d) (hmc : m ≤ cap) (hm : m ≤ 1000000) :
    Does Tryz.prog 23 #[ptr bd 0, .int .i64 b, .int .i64 p, .slice A m cap] K (C.A bc :: DvA bd bc g :: F)
    (fun v H' => ∃ C' : Cw, C'.Ok ∧ C'.g = g ∧ H' = C'.A bc :: DvA bd bc g :: F ∧ C'.sem = (C.sem.dWrite b p d).1 ∧ v = .int .i64 (C.sem.dWrite b p d).2) := by
  subst hg
  exact (drive_Write hC b p hd h8 hmc hm).mono fun v H' ⟨C', h1, h2, h3, h4⟩ => ⟨C', h1, Cw.g_sem h3 (Chip.dWrite_g _ _ _ _), h2, h3, h4⟩
theorem drive_EraseG (hC : C.Ok) (hg : C.g = g) (b : Int) : Does Tryz.prog 61 #[ptr bd 0, .int .i64 b] K (C.A bc :: DvA bd bc g :: F)
    (fun v H' => ∃ C' : Cw, C'.Ok ∧ C'.g = g ∧ H' = C'.A bc :: DvA bd bc g :: F ∧ C'.sem = (C.sem.dErase b).1 ∧ v = .int .i64 (C.sem.dErase b).2) := by
  subst hg
  exact (drive_Erase hC b).mono fun v H' ⟨C', h1, h2, h3, h4⟩ => ⟨C', h1, Cw.g_sem h3 (Chip.dErase_g _ _), h2, h3, h4⟩
theorem drive_ReadG (hC : C.Ok) (hg : C.g = g) (b p : Int) : Does Tryz.prog 26 #[ptr bd 0, .int .i64 b, .int .i64 p] K (C.A bc :: DvA bd bc g :: F)
    (fun v H' => ∃ A' c', v = .tuple #[.slice A' (C.sem.dRead b p).d.length c', .int .i64 ((C.sem.dRead b p).n : Nat), .int .i64 (C.sem.dRead b p).err] ∧
      H' = SlA (.slice A' (C.sem.dRead b p).d.length c') 5 1 (C.sem.dRead b p).d.length (nats .u8 (C.sem.dRead b p).d) :: C.A bc :: DvA bd bc g :: F) := by
  subst hg
  exact drive_Read hC b p
theorem drive_WholeG (hC : C.Ok) (hg : C.g = g) (b n : Int) (hn : -9223372036854775808 ≤ n ∧ n ≤ 9223372036854775807) : Tells Tryz.prog 27 #[ptr bd 0, .int .i64 b, .int .i64 n] K (C.A bc :: DvA bd bc g :: F) (.tuple #[.bool (C.sem.dWhole b n).1, .int .i64 (C.sem.dWhole b n).2]) := by
  subst hg
  exact drive_Whole hC b n hn
theorem drive_GoodG (hC : C.Ok) (hg : C.g = g) : Does Tryz.prog 18 #[ptr bd 0] K (C.A bc :: DvA bd bc g :: F)
    (fun v H' => ∃ A' c', v = .slice A' C.sem.good.length c' ∧ H' = SlA (.slice A' C.sem.good.length c') 3 1 C.sem.good.length (ints .i64 C.sem.good) :: C.A bc :: DvA bd bc g :: F) := by
  subst hg
  exact drive_Good hC
theorem drive_NewG (hC : C.Ok) (hg : C.g = g) : Does Tryz.prog 14 #[ptr bc 0] K (C.A bc :: F) (fun v H' => ∃ bd, v = .tuple #[ptr bd 0, .int .i64 0] ∧ H' = C.A bc :: DvA bd bc g :: F) := by
  subst hg
  exact drive_New hC
theorem chip_WeakG (hC : C.Ok) (hg : C.g = g) (b : Int) : Does Tryz.prog 43 #[ptr bc 0, .int .i64 b] K (C.A bc :: F) (fun v H' => ∃ C' : Cw, C'.Ok ∧ C'.g = g ∧ H' = C'.A bc :: F ∧ C'.sem = C.sem.weaken b) := by
  refine (chip_Weak (C := C) b).mono fun v H' h => ?_
  subst h
  cases hb : C.sem.block b with
  | true => exact ⟨C.weaken b, hC.weaken, hg, rfl, by unfold Chip.weaken; rw [if_pos hb]; rfl⟩
  | false => exact ⟨C, hC, hg, rfl, by unfold Chip.weaken; rw [if_neg (by rw [hb]; decide)]⟩
/-! ### A nil drive -/
theorem nil_New : Tells Tryz.prog 14 #[.pointer none] K F (.tuple #[.pointer none, .int .i64 3]) := by
  refine Does.enter Tryz.func14 rfl Tryz.ntmps14 rfl ?_
  simp only [env0, Nat.reduceAdd]
  refine WC.seq ?_
  refine WC.region ?_
  refine WL.val (V.assign (OV.p rfl)) rfl ?_
  refine WL.val (V.assign (OV.p rfl)) rfl ?_
  refine WL.nil ?_
  refine WC.seq ?_
  refine WC.seq ?_
  refine WC.region ?_
  refine WL.val (V.move (OV.p rfl)) rfl ?_
  refine WL.val (V.eqlP Tryz.underlying27 (OV.p rfl) (OV.p rfl)) rfl ?_
  refine WL.nil ?_
  refine WC.condT' rfl (by first | rfl | (simp; done) | (simp; omega)) ?_
  refine WC.seq ?_
  refine WC.region ?_
  refine WL.val (V.assign (OV.p rfl)) rfl ?_
  refine WL.val (V.assign (OV.p rfl)) rfl ?_
  refine WL.nil ?_
  refine WC.ret ?_
  exact BodyQ.ret (H' := F) (Res.tmp2 rfl rfl rfl) (fun w h => h) ⟨rfl, rfl⟩
theorem nilD_Geometry : Tells Tryz.prog 20 #[.pointer none] K F (Geo.mk 0 0 0 0 0).v := by
  refine Does.enter Tryz.func20 rfl Tryz.ntmps20 rfl ?_
  simp only [env0, Nat.reduceAdd]
  refine WC.seq ?_
  refine WC.region ?_
  refine WL.alloc (cs := [(.int .i64 0), (.int .i64 0), (.int .i64 0), (.int .i64 0), (.int .i64 0)]) Tryz.zeroValue23 rfl rfl (fun b2 => ?_)
  refine WL.nil ?_
  refine WC.seq ?_
  refine WC.seq ?_
  refine WC.region ?_
  refine WL.val (V.move (OV.p rfl)) rfl ?_
  refine WL.val (V.eqlP Tryz.underlying31 (OV.p rfl) (OV.p rfl)) rfl ?_
  refine WL.nil ?_
  refine WC.condT' rfl (by first | rfl | (simp; done) | (simp; omega)) ?_
  refine WC.seq ?_
  refine WC.region ?_
  refine WL.val (V.build (vs := []) trivial rfl (bld23 )) rfl ?_
  refine WL.store (cs := [_, _, _, _, _]) Tryz.sizeOf23 (OV.p rfl) (OV.p rfl) rfl rfl rfl (by repeat (first | exact Upd.here (cs' := [_, _, _, _, _]) rfl rfl | apply Upd.up)) ?_
  refine WL.nil ?_
  refine WC.ret ?_
  exact BodyQ.ret (H' := F) (Res.one rfl (R1.cellA (vs := [_, _, _, _, _]) rfl ⟨Tryz.isAgg23, Tryz.sizeOf23⟩ rfl (by repeat (first | exact Rds.gets ⟨rfl, rfl, rfl, rfl, rfl, trivial⟩ | apply Rds.up)))) (fun w h => h.drop 1) ⟨rfl, rfl⟩
theorem nilD_ahead (b p : Int) (ok : Bool) : Tells Tryz.prog 74 #[.pointer none, .int .i64 b, .int .i64 p, .bool ok] K F (.int .i64 3) := by
  refine Does.enter Tryz.func74 rfl Tryz.ntmps74 rfl ?_
  simp only [env0, Nat.reduceAdd]
  refine WC.seq ?_
  refine WC.region ?_
  refine WL.val (V.assign (OV.p rfl)) rfl ?_
  refine WL.nil ?_
  refine WC.seq ?_
  refine WC.block ?_
  refine WC.seq ?_
  refine WC.region ?_
  refine WL.val (V.move (OV.p rfl)) rfl ?_
  refine WL.val (V.eqlP Tryz.underlying31 (OV.p rfl) (OV.p rfl)) rfl ?_
  refine WL.val (V.assign (OV.p rfl)) rfl ?_
  refine WL.nil ?_
  refine WC.condT' rfl (by first | rfl | (simp; done) | (simp; omega)) ?_
  refine WC.seq ?_
  refine WC.region ?_
  refine WL.val (V.assign (OV.p rfl)) rfl ?_
  refine WL.nil ?_
  refine WC.ret ?_
  exact BodyQ.ret (H' := F) (Res.tmp rfl rfl) (fun w h => h) ⟨rfl, rfl⟩
theorem nilD_Read (b p : Int) : Tells Tryz.prog 26 #[.pointer none, .int .i64 b, .int .i64 p] K F (.tuple #[.slice none 0 0, .int .i64 0, .int .i64 3]) := by
  refine Does.enter Tryz.func26 rfl Tryz.ntmps26 rfl ?_
  simp only [env0, Nat.reduceAdd]
  refine WC.seq ?_
  refine WC.region ?_
  refine WL.val (V.assign (OV.p rfl)) rfl ?_
  refine WL.val (V.assign (OV.p rfl)) rfl ?_
  refine WL.val (V.assign (OV.p rfl)) rfl ?_
  refine WL.nil ?_
  refine WC.seq ?_
  refine WC.seq ?_
  refine WC.region ?_
  refine WL.val (V.move (OV.p rfl)) rfl ?_
  refine WL.val (V.move (OV.p rfl)) rfl ?_
  refine WL.val (V.move (OV.p rfl)) rfl ?_
  refine WL.call (vs := [_, _, _, _]) Tryz.call74 ⟨OV.p rfl, OV.p rfl, OV.p rfl, OV.p rfl, trivial⟩ (nilD_ahead b p true) rfl ?_
  rintro _ H0 ⟨rfl, h0⟩
  subst H0
  refine WL.val (V.assign (OV.p rfl)) rfl ?_
  refine WL.nil ?_
  refine WC.seq ?_
  refine WC.region ?_
  refine WL.val (V.move (OV.p rfl)) rfl ?_
  refine WL.val (V.neq (OV.p rfl) (OV.p rfl)) rfl ?_
  refine WL.nil ?_
  refine WC.condT' rfl (by first | rfl | (simp; done) | (simp; omega)) ?_
  refine WC.seq ?_
  refine WC.region ?_
  refine WL.val (V.move (OV.p rfl)) rfl ?_
  refine WL.val (V.assign (OV.p rfl)) rfl ?_
  refine WL.val (V.assign (OV.p rfl)) rfl ?_
  refine WL.val (V.assign (OV.p rfl)) rfl ?_
  refine WL.nil ?_
  refine WC.ret ?_
  exact BodyQ.ret (H' := F) (Res.tmp3 rfl rfl rfl rfl) (fun w h => h) ⟨rfl, rfl⟩
theorem nilD_Erase (b : Int) : Tells Tryz.prog 61 #[.pointer none, .int .i64 b] K F (.int .i64 3) := by
  refine Does.enter Tryz.func61 rfl Tryz.ntmps61 rfl ?_
  simp only [env0, Nat.reduceAdd]
  refine WC.seq ?_
  refine WC.region ?_
  refine WL.val (V.assign (OV.p rfl)) rfl ?_
  refine WL.nil ?_
  refine WC.seq ?_
  refine WC.seq ?_
  refine WC.region ?_
  refine WL.val (V.move (OV.p rfl)) rfl ?_
  refine WL.val (V.move (OV.p rfl)) rfl ?_
  refine WL.call (vs := [_, _, _, _]) Tryz.call74 ⟨OV.p rfl, OV.p rfl, OV.p rfl, OV.p rfl, trivial⟩ (nilD_ahead b 0 true) rfl ?_
  rintro _ H0 ⟨rfl, h0⟩
  subst H0
  refine WL.val (V.assign (OV.p rfl)) rfl ?_
  refine WL.nil ?_
  refine WC.seq ?_
  refine WC.region ?_
  refine WL.val (V.move (OV.p rfl)) rfl ?_
  refine WL.val (V.neq (OV.p rfl) (OV.p rfl)) rfl ?_
  refine WL.nil ?_
  refine WC.condT' rfl (by first | rfl | (simp; done) | (simp; omega)) ?_
  refine WC.seq ?_
  refine WC.region ?_
  refine WL.val (V.move (OV.p rfl)) rfl ?_
  refine WL.val (V.assign (OV.p rfl)) rfl ?_
  refine WL.nil ?_
  refine WC.ret ?_
  exact BodyQ.ret (H' := F) (Res.tmp rfl rfl) (fun w h => h) ⟨rfl, rfl⟩
theorem nilD_Whole (b n : Int) : Tells Tryz.prog 27 #[.pointer none, .int .i64 b, .int .i64 n] K F (.tuple #[.bool false, .int .i64 3]) := by
  refine Does.enter Tryz.func27 rfl Tryz.ntmps27 rfl ?_
  simp only [env0, Nat.reduceAdd]
  refine WC.seq ?_
  refine WC.region ?_
  refine WL.val (V.assign (OV.p rfl)) rfl ?_
  refine WL.val (V.assign (OV.p rfl)) rfl ?_
  refine WL.nil ?_
  refine WC.seq ?_
  refine WC.region ?_
  refine WL.val (V.move (OV.p rfl)) rfl ?_
  refine WL.val (V.move (OV.p rfl)) rfl ?_
  refine WL.val (V.move (OV.p rfl)) rfl ?_
  refine WL.val (V.geq (OV.p rfl) (OV.p rfl)) rfl ?_
  refine WL.val (V.move (OV.p rfl)) rfl ?_
  refine WL.valG (oj := _) rfl rfl rfl GC.t (V.move (OV.p rfl)) rfl ?_
  refine WL.valG (oj := _) rfl rfl rfl GC.t (V.move (OV.p rfl)) rfl ?_
  refine WL.callG (oj := _) (vs := [_]) rfl rfl rfl GC.t Tryz.call20 ⟨OV.g rfl id, trivial⟩ (fun hg => nilD_Geometry) rfl ?_
  refine WL.valG (oj := _) rfl rfl rfl GC.t (V.field (OV.g rfl id) (fld23_1 _ _ _ _ _)) rfl ?_
  refine WL.valG (oj := _) rfl rfl rfl GC.t (V.leq (OV.g rfl id) (OV.g rfl id)) rfl ?_
  refine WL.val (V.pickAnd (OV.p rfl) (OV.g rfl id)) rfl ?_
  refine WL.call (vs := [_, _, _, _]) Tryz.call74 ⟨OV.p rfl, OV.p rfl, OV.p rfl, OV.p rfl, trivial⟩ (nilD_ahead b 0 _) rfl ?_
  rintro _ H0 ⟨rfl, h0⟩
  subst H0
  refine WL.val (V.assign (OV.p rfl)) rfl ?_
  refine WL.nil ?_
  refine WC.seq ?_
  refine WC.seq ?_
  refine WC.region ?_
  refine WL.val (V.move (OV.p rfl)) rfl ?_
  refine WL.val (V.eql (OV.p rfl) (OV.p rfl)) rfl ?_
  refine WL.nil ?_
  refine WC.condF' rfl (by first | rfl | (simp; done) | (simp; omega)) ?_
  refine WC.skip ?_
  refine WC.seq ?_
  refine WC.seq ?_
  refine WC.region ?_
  refine WL.val (V.move (OV.p rfl)) rfl ?_
  refine WL.val (V.neq (OV.p rfl) (OV.p rfl)) rfl ?_
  refine WL.nil ?_
  refine WC.condT' rfl (by first | rfl | (simp; done) | (simp; omega)) ?_
  refine WC.seq ?_
  refine WC.region ?_
  refine WL.val (V.move (OV.p rfl)) rfl ?_
  refine WL.val (V.assign (OV.p rfl)) rfl ?_
  refine WL.val (V.assign (OV.p rfl)) rfl ?_
  refine WL.nil ?_
  refine WC.ret ?_
  exact BodyQ.ret (H' := F) (Res.tmp2 rfl rfl rfl) (fun w h => h) ⟨rfl, rfl⟩
theorem nilD_Write (b p : Int) {A : Option Addr} {m cap : Nat} : Tells Tryz.prog 23 #[.pointer none, .int .i64 b, .int .i64 p, .slice A m cap] K F (.int .i64 3) := by
  refine Does.enter Tryz.func23 rfl Tryz.ntmps23 rfl ?_
  simp only [env0, Nat.reduceAdd]
  refine WC.seq ?_
  refine WC.region ?_
  refine WL.val (V.assign (OV.p rfl)) rfl ?_
  refine WL.nil ?_
  refine WC.seq ?_
  refine WC.region ?_
  refine WL.val (V.move (OV.p rfl)) rfl ?_
  refine WL.call (vs := [_]) Tryz.call20 ⟨OV.p rfl, trivial⟩ (nilD_Geometry) rfl ?_
  rintro _ H0 ⟨rfl, h0⟩
  subst H0
  refine WL.call (vs := [_]) Tryz.call73 ⟨OV.p rfl, trivial⟩ (Tells.eq (v' := .tuple #[.int .i64 0, .int .i64 1]) (ecc_Room ⟨0, 0, 0, 0, 0⟩) (by rfl)) rfl ?_
  rintro _ H0 ⟨rfl, h0⟩
  subst H0
  refine WL.val (V.move (OV.p rfl)) rfl ?_
  refine WL.val (V.extract (OV.p rfl) rfl) rfl ?_
  refine WL.val (V.extract (OV.p rfl) rfl) rfl ?_
  refine WL.val (V.assign (OV.p rfl)) rfl ?_
  refine WL.val (V.assign (OV.p rfl)) rfl ?_
  refine WL.nil ?_
  refine WC.seq ?_
  refine WC.seq ?_
  refine WC.region ?_
  refine WL.val (V.move (OV.p rfl)) rfl ?_
  refine WL.val (V.move (OV.p rfl)) rfl ?_
  refine WL.val (V.move (OV.p rfl)) rfl ?_
  refine WL.val (V.move (OV.p rfl)) rfl ?_
  refine WL.val (V.len (t := 38) Tryz.runUnderlying38 (OV.p rfl)) rfl ?_
  refine WL.val (V.move (OV.p rfl)) rfl ?_
  refine WL.val (V.eql (OV.p rfl) (OV.p rfl)) rfl ?_
  refine WL.call (vs := [_, _, _, _]) Tryz.call74 ⟨OV.p rfl, OV.p rfl, OV.p rfl, OV.p rfl, trivial⟩ (nilD_ahead b p _) rfl ?_
  rintro _ H0 ⟨rfl, h0⟩
  subst H0
  refine WL.val (V.assign (OV.p rfl)) rfl ?_
  refine WL.nil ?_
  refine WC.seq ?_
  refine WC.region ?_
  refine WL.val (V.move (OV.p rfl)) rfl ?_
  refine WL.val (V.neq (OV.p rfl) (OV.p rfl)) rfl ?_
  refine WL.nil ?_
  refine WC.condT' rfl (by first | rfl | (simp; done) | (simp; omega)) ?_
  refine WC.seq ?_
  refine WC.region ?_
  refine WL.val (V.move (OV.p rfl)) rfl ?_
  refine WL.val (V.assign (OV.p rfl)) rfl ?_
  refine WL.nil ?_
  refine WC.ret ?_
  exact BodyQ.ret (H' := F) (Res.tmp rfl rfl) (fun w h => h) ⟨rfl, rfl⟩
theorem nilD_Good : Tells Tryz.prog 18 #[.pointer none] K F (.slice none 0 0) := by
  refine Does.enter Tryz.func18 rfl Tryz.ntmps18 rfl ?_
  simp only [env0, Nat.reduceAdd]
  refine WC.seq ?_
  refine WC.region ?_
  refine WL.val (V.assign (OV.p rfl)) rfl ?_
  refine WL.nil ?_
  refine WC.seq ?_
  refine WC.region ?_
  refine WL.val (V.assign (OV.p rfl)) rfl ?_
  refine WL.nil ?_
  refine WC.seq ?_
  refine WC.seq ?_
  refine WC.region ?_
  refine WL.val (V.move (OV.p rfl)) rfl ?_
  refine WL.call (vs := [_]) Tryz.call20 ⟨OV.p rfl, trivial⟩ (nilD_Geometry) rfl ?_
  rintro _ H0 ⟨rfl, h0⟩
  subst H0
  refine WL.val (V.field (OV.p rfl) (fld23_0 _ _ _ _ _)) rfl ?_
  refine WL.val (V.move (OV.p rfl)) rfl ?_
  refine WL.nil ?_
  refine WC.block ?_
  refine WC.loop (σ := Unit) (fun _ => [(3, .slice none 0 0), (7, .int .i64 0), (8, .int .i64 0)]) (fun _ => F) (fun _ => True) (fun _ => 0) () trivial (.cons rfl (.cons rfl (.cons rfl (.nil _)))) (fun w h => h) ?_
  rintro _ _
  refine WC.seq ?_
  refine WC.region ?_
  refine WL.val (V.lss (OV.p rfl) (OV.p rfl)) rfl ?_
  refine WL.nil ?_
  refine WC.seq ?_
  refine WC.condF' rfl (by first | rfl | (simp; done) | (simp; omega)) ?_
  refine WC.exit ?_
  refine WC.seq ?_
  refine WC.region ?_
  refine WL.val (V.move (OV.p rfl)) rfl ?_
  refine WL.val (V.assign (OV.p rfl)) rfl ?_
  refine WL.nil ?_
  refine WC.ret ?_
  exact BodyQ.ret (H' := F) (Res.tmp rfl rfl) (fun w h => h) ⟨rfl, rfl⟩
end
end Go.Proofs.YtohkefolnmcjnaaGreat
/- casematelaw08: small, tiny, awake. -/
namespace Go.Proofs.YtohkefolnmcjnaaGreat
open Go.Sl Go.RowKit
set_option linter.unusedVariables false
set_option linter.unusedSimpArgs false
set_option maxRecDepth 20000

theorem law08_small (g : Geo) (K : World) (F : List Assn) : Tells Tryz.prog 11 #[g.v] K F (.bool (g.may && decide (g.room ≤ 32) && decide (g.bl ≤ 16) && decide (g.pg ≤ 8))) := by
  refine Does.enter Tryz.func11 rfl Tryz.ntmps11 rfl ?_
  simp only [env0, Nat.reduceAdd]
  refine WC.seq ?_
  refine WC.region ?_
  refine WL.box (cs := [_, _, _, _, _]) (OV.p rfl) rfl rfl (fun b1 => ?_)
  refine WL.val (V.assign (OV.p rfl)) rfl ?_
  refine WL.nil ?_
  refine WC.seq ?_
  refine WC.region ?_
  refine WL.val (V.loadA (vs := [_, _, _, _, _]) ⟨Tryz.isAgg23, Tryz.sizeOf23⟩ (OV.p rfl) rfl (fun _ => by repeat (first | exact Rds.gets ⟨rfl, rfl, rfl, rfl, rfl, trivial⟩ | apply Rds.up))) rfl ?_
  refine WL.call (vs := [_]) Tryz.call53 ⟨OV.p rfl, trivial⟩ (ref06_May g _ _) rfl ?_
  rintro _ H0 ⟨rfl, h0⟩
  subst H0
  refine WL.val (V.move (OV.p rfl)) rfl ?_
  refine WL.valG (oj := _) rfl rfl rfl GC.t (V.loadA (vs := [_, _, _, _, _]) ⟨Tryz.isAgg23, Tryz.sizeOf23⟩ (OV.p rfl) rfl (fun _ => by repeat (first | exact Rds.gets ⟨rfl, rfl, rfl, rfl, rfl, trivial⟩ | apply Rds.up))) rfl ?_
  refine WL.callG (oj := _) (vs := [_]) rfl rfl rfl GC.t Tryz.call22 ⟨OV.g rfl id, trivial⟩ (fun hg => ref06_Room g (Geo.mays_of (by simpa using hg)) _ _) rfl ?_
  refine WL.valG (oj := _) rfl rfl rfl GC.t (V.leq (OV.g rfl id) (OV.p rfl)) rfl ?_
  refine WL.val (V.pickAnd (OV.p rfl) (OV.g rfl id)) rfl ?_
  refine WL.val (V.move (OV.p rfl)) rfl ?_
  refine WL.valG (oj := _) rfl rfl rfl GC.t (V.fieldAddr fo23_0 (OV.p rfl)) rfl ?_
  refine WL.valG (oj := _) rfl rfl rfl GC.t (V.load Tryz.isAgg3 (OV.g rfl id) (fun _ => by repeat (first | exact Rd.here rfl | apply Rd.up))) rfl ?_
  refine WL.valG (oj := _) rfl rfl rfl GC.t (V.leq (OV.g rfl id) (OV.p rfl)) rfl ?_
  refine WL.val (V.pickAnd (OV.p rfl) (OV.g rfl id)) rfl ?_
  refine WL.val (V.move (OV.p rfl)) rfl ?_
  refine WL.valG (oj := _) rfl rfl rfl GC.t (V.fieldAddr fo23_1 (OV.p rfl)) rfl ?_
  refine WL.valG (oj := _) rfl rfl rfl GC.t (V.load Tryz.isAgg3 (OV.g rfl id) (fun _ => by repeat (first | exact Rd.here rfl | apply Rd.up))) rfl ?_
  refine WL.valG (oj := _) rfl rfl rfl GC.t (V.leq (OV.g rfl id) (OV.p rfl)) rfl ?_
  refine WL.val (V.pickAnd (OV.p rfl) (OV.g rfl id)) rfl ?_
  refine WL.val (V.assign (OV.p rfl)) rfl ?_
  refine WL.nil ?_
  refine WC.ret ?_
  exact BodyQ.ret (H' := F) (Res.tmp rfl rfl) (fun w h => by repeat (first | exact h | replace h := h.tail)) ⟨rfl, rfl⟩
theorem law08_tiny (K : World) (F : List Assn) : Tells Tryz.prog 72 #[] K F (Geo.mk 2 2 1 16 1).v := by
  refine Does.enter Tryz.func72 rfl Tryz.ntmps72 rfl ?_
  simp only [env0, Nat.reduceAdd]
  refine WC.seq ?_
  refine WC.region ?_
  refine WL.alloc (cs := [(.int .i64 0), (.int .i64 0), (.int .i64 0), (.int .i64 0), (.int .i64 0)]) Tryz.zeroValue23 rfl rfl (fun b0 => ?_)
  refine WL.nil ?_
  refine WC.seq ?_
  refine WC.region ?_
  refine WL.val (V.build (vs := [(0, _), (1, _), (2, _), (3, _), (4, _)]) ⟨OV.p rfl, OV.p rfl, OV.p rfl, OV.p rfl, OV.p rfl, trivial⟩ rfl (bld23_0_1_2_3_4 _ _ _ _ _)) rfl ?_
  refine WL.store (cs := [_, _, _, _, _]) Tryz.sizeOf23 (OV.p rfl) (OV.p rfl) rfl rfl rfl (by repeat (first | exact Upd.here (cs' := [_, _, _, _, _]) rfl rfl | apply Upd.up)) ?_
  refine WL.nil ?_
  refine WC.ret ?_
  exact BodyQ.ret (H' := F) (Res.one rfl (R1.cellA (vs := [_, _, _, _, _]) rfl ⟨Tryz.isAgg23, Tryz.sizeOf23⟩ rfl (by repeat (first | exact Rds.gets ⟨rfl, rfl, rfl, rfl, rfl, trivial⟩ | apply Rds.up)))) (fun w h => by repeat (first | exact h | replace h := h.tail)) ⟨rfl, rfl⟩
def tiny8 : Geo := ⟨2, 2, 1, 16, 1⟩
def dat8 : List Nat := [115, 105, 120, 116, 101, 101, 110, 32, 98, 121, 116, 101, 115, 44, 32, 48]
def w8a : Chip := (Chip.new tiny8 []).weaken 1
def w8b : Chip := (w8a.dWrite 0 0 dat8).1
def w8c : Chip := (w8b.dWrite 1 0 dat8).1
theorem law08_awake (K : World) (F : List Assn) : Tells Tryz.prog 21 #[] K F (.bool true) := by
  have q0 : (w8a.dWrite 0 0 dat8).2 = 0 := by kernel_rfl
  have q1 : w8b.dRead 0 0 = ⟨0, dat8, 0⟩ := by kernel_rfl
  have q2 : (w8b.dWrite 1 0 dat8).2 = 72 := by kernel_rfl
  have q3 : w8c.good = [0] := by kernel_rfl
  have q4 : (w8c.dWrite 1 0 dat8).2 = 73 := by kernel_rfl
  have qm : tiny8.may = true := by kernel_rfl
  have hd8 : Small 256 dat8 := by unfold Small; decide
  refine Does.enter Tryz.func21 rfl Tryz.ntmps21 rfl ?_
  simp only [env0, Nat.reduceAdd]
  refine WC.seq ?_
  refine WC.region ?_
  refine WL.val (V.assign (OV.p rfl)) rfl ?_
  refine WL.nil ?_
  refine WC.seq ?_
  refine WC.region ?_
  refine WL.call (vs := []) Tryz.call72 trivial (law08_tiny _ _) rfl ?_
  rintro _ H0 ⟨rfl, h0⟩
  subst H0
  refine WL.call (vs := [_, _]) Tryz.call13 ⟨OV.p rfl, OV.p rfl, trivial⟩ (chip_New tiny8 (l := []) Seq.nil (by decide)) rfl ?_
  rintro _ _ (⟨hm, hin, bc, C0, hC0, s0, rfl, rfl⟩ | ⟨hno, rfl, rfl⟩)
  rotate_left
  · exact (hno ⟨qm, fun x hx => by simp at hx⟩).elim
  have g0 : C0.g = tiny8 := by rw [show C0.g = C0.sem.g from rfl, s0]; rfl
  refine WL.val (V.move (OV.p rfl)) rfl ?_
  refine WL.val (V.extract (OV.p rfl) rfl) rfl ?_
  refine WL.val (V.extract (OV.p rfl) rfl) rfl ?_
  refine WL.val (V.assign (OV.p rfl)) rfl ?_
  refine WL.val (V.assign (OV.p rfl)) rfl ?_
  refine WL.nil ?_
  refine WC.seq ?_
  refine WC.region ?_
  refine WL.val (V.move (OV.p rfl)) rfl ?_
  refine WL.call (vs := [_]) Tryz.call14 ⟨OV.p rfl, trivial⟩ (drive_NewG hC0 g0) rfl ?_
  rintro _ _ ⟨bd, rfl, rfl⟩
  refine WL.val (V.move (OV.p rfl)) rfl ?_
  refine WL.val (V.extract (OV.p rfl) rfl) rfl ?_
  refine WL.val (V.extract (OV.p rfl) rfl) rfl ?_
  refine WL.val (V.assign (OV.p rfl)) rfl ?_
  refine WL.val (V.assign (OV.p rfl)) rfl ?_
  refine WL.nil ?_
  refine WC.seq ?_
  refine WC.region ?_
  refine WL.call (vs := [_]) Tryz.call14 ⟨OV.p rfl, trivial⟩ (nil_New) rfl ?_
  rintro _ H0 ⟨rfl, h0⟩
  subst H0
  refine WL.val (V.move (OV.p rfl)) rfl ?_
  refine WL.val (V.extract (OV.p rfl) rfl) rfl ?_
  refine WL.val (V.extract (OV.p rfl) rfl) rfl ?_
  refine WL.val (V.assign (OV.p rfl)) rfl ?_
  refine WL.val (V.assign (OV.p rfl)) rfl ?_
  refine WL.nil ?_
  refine WC.seq ?_
  refine WC.seq ?_
  refine WC.region ?_
  refine WL.val (V.move (OV.p rfl)) rfl ?_
  refine WL.val (V.eqlP Tryz.underlying31 (OV.p rfl) (OV.p rfl)) rfl ?_
  refine WL.val (V.move (OV.p rfl)) rfl ?_
  refine WL.valG (oj := _) rfl rfl rfl GC.f (V.move (OV.p rfl)) rfl ?_
  refine WL.valG (oj := _) rfl rfl rfl GC.f (V.neq (OV.g rfl id) (OV.p rfl)) rfl ?_
  refine WL.val (V.pickOr (OV.p rfl) (OV.g rfl id)) rfl ?_
  refine WL.val (V.move (OV.p rfl)) rfl ?_
  refine WL.valG (oj := _) rfl rfl rfl GC.f (V.move (OV.p rfl)) rfl ?_
  refine WL.valG (oj := _) rfl rfl rfl GC.f (V.neq (OV.g rfl id) (OV.p rfl)) rfl ?_
  refine WL.val (V.pickOr (OV.p rfl) (OV.g rfl id)) rfl ?_
  refine WL.nil ?_
  refine WC.condF' rfl (by first | rfl | (simp; done) | (simp; omega)) ?_
  refine WC.skip ?_
  refine WC.seq ?_
  refine WC.region ?_
  refine WL.buildSlice (E := 5) (cs := [_, _, _, _, _, _, _, _, _, _, _, _, _, _, _, _]) (vs := [(0, _), (1, _), (2, _), (3, _), (4, _), (5, _), (6, _), (7, _), (8, _), (9, _), (10, _), (11, _), (12, _), (13, _), (14, _), (15, _)]) ⟨OV.p rfl, OV.p rfl, OV.p rfl, OV.p rfl, OV.p rfl, OV.p rfl, OV.p rfl, OV.p rfl, OV.p rfl, OV.p rfl, OV.p rfl, OV.p rfl, OV.p rfl, OV.p rfl, OV.p rfl, OV.p rfl, trivial⟩ rfl (bsl38_16_0_1_2_3_4_5_6_7_8_9_10_11_12_13_14_15 _ _ _ _ _ _ _ _ _ _ _ _ _ _ _ _) rfl (fun b37 => ?_)
  refine WL.convMark Tryz.underlying38 Tryz.underlying5 (OV.p rfl) rfl ?_
  refine WL.sub (Sub.refl _) (fun w h => h.sel 3 [1, 2, 0] rfl) ?_
  have hsq : ∀ {X Y : Assn}, Seq K (X :: Y :: CellsZ b37 5 (nats .u8 dat8) :: F) (some ⟨b37, 0, none⟩) 16 1 (nats .u8 dat8) := fun {X Y} => Seq.up (Seq.up (Seq.allZ rfl))
  refine WL.val (V.assign (OV.p rfl)) rfl ?_
  refine WL.nil ?_
  refine WC.seq ?_
  refine WC.region ?_
  refine WL.val (V.move (OV.p rfl)) rfl ?_
  refine WL.call (vs := [_, _]) Tryz.call43 ⟨OV.p rfl, OV.p rfl, trivial⟩ (chip_WeakG hC0 g0 1) rfl ?_
  rintro _ _ ⟨C1, hC1, g1, rfl, s1⟩
  have s1' : C1.sem = w8a := by rw [s1, s0]; rfl
  refine WL.nil ?_
  refine WC.seq ?_
  refine WC.region ?_
  refine WL.val (V.move (OV.p rfl)) rfl ?_
  refine WL.val (V.move (OV.p rfl)) rfl ?_
  refine WL.call (vs := [_, _, _, _]) Tryz.call23 ⟨OV.p rfl, OV.p rfl, OV.p rfl, OV.p rfl, trivial⟩ (drive_WriteG hC1 g1 0 0 (Seq.allZ rfl : Seq K (CellsZ b37 5 (nats .u8 dat8) :: F) (some ⟨b37, 0, none⟩) 16 1 (nats .u8 dat8)) hd8 (Nat.le_refl _) (by decide)) rfl ?_
  rintro v1 _ ⟨C2, hC2, g2, rfl, s2, hv1⟩
  rw [s1', q0] at hv1
  have s2' : C2.sem = w8b := by rw [s2, s1']; rfl
  subst hv1
  refine WL.val (V.assign (OV.p rfl)) rfl ?_
  refine WL.nil ?_
  refine WC.seq ?_
  refine WC.region ?_
  refine WL.val (V.move (OV.p rfl)) rfl ?_
  refine WL.call (vs := [_, _, _]) Tryz.call26 ⟨OV.p rfl, OV.p rfl, OV.p rfl, trivial⟩ (drive_ReadG hC2 g2 0 0) rfl ?_
  rintro _ _ ⟨A3, c3, rfl, rfl⟩
  rw [s2', q1]
  refine WL.sub (Sub.refl _) (fun w h => h.sel 4 [1, 2, 3, 0] rfl) ?_
  refine WL.val (V.move (OV.p rfl)) rfl ?_
  refine WL.val (V.extract (OV.p rfl) rfl) rfl ?_
  refine WL.val (V.extract (OV.p rfl) rfl) rfl ?_
  refine WL.val (V.extract (OV.p rfl) rfl) rfl ?_
  refine WL.val (V.assign (OV.p rfl)) rfl ?_
  refine WL.val (V.assign (OV.p rfl)) rfl ?_
  refine WL.val (V.assign (OV.p rfl)) rfl ?_
  refine WL.nil ?_
  refine WC.seq ?_
  refine WC.region ?_
  refine WL.val (V.move (OV.p rfl)) rfl ?_
  refine WL.val (V.move (OV.p rfl)) rfl ?_
  refine WL.call (vs := [_, _, _, _]) Tryz.call23 ⟨OV.p rfl, OV.p rfl, OV.p rfl, OV.p rfl, trivial⟩ (drive_WriteG hC2 g2 1 0 (Seq.allZ rfl : Seq K (CellsZ b37 5 (nats .u8 dat8) :: _) (some ⟨b37, 0, none⟩) 16 1 (nats .u8 dat8)) hd8 (Nat.le_refl _) (by decide)) rfl ?_
  rintro v4 _ ⟨C4, hC4, g4, rfl, s4, hv4⟩
  rw [s2', q2] at hv4
  have s4' : C4.sem = w8c := by rw [s4, s2']; rfl
  subst hv4
  refine WL.val (V.assign (OV.p rfl)) rfl ?_
  refine WL.nil ?_
  refine WC.seq ?_
  refine WC.region ?_
  refine WL.val (V.move (OV.p rfl)) rfl ?_
  refine WL.val (V.eql (OV.p rfl) (OV.p rfl)) rfl ?_
  refine WL.val (V.move (OV.p rfl)) rfl ?_
  refine WL.known (oj := _) rfl rfl rfl rfl ?_
  refine WL.val (V.move (OV.p rfl)) rfl ?_
  refine WL.known (oj := _) rfl rfl rfl rfl ?_
  refine WL.val (V.bytesStr (xs := intsOf dat8) Tryz.underlying38 Tryz.underlying5 Tryz.underlying9 (OV.p rfl) (fun _ => by rw [← nats_intsOf]; exact Seq.up (Seq.up (Seq.up (SlA.seq rfl))))) rfl ?_
  refine WL.known (oj := _) rfl rfl rfl rfl ?_
  refine WL.val (V.move (OV.p rfl)) rfl ?_
  refine WL.known (oj := _) rfl rfl rfl rfl ?_
  refine WL.val (V.bytesStr (xs := intsOf dat8) Tryz.underlying38 Tryz.underlying5 Tryz.underlying9 (OV.p rfl) (fun _ => by rw [← nats_intsOf]; exact Seq.up (Seq.up (Seq.allZ rfl)))) rfl ?_
  refine WL.known (oj := _) rfl rfl rfl rfl ?_
  refine WL.val (V.val_eq (v' := .bool true) (V.eqlS (OV.p rfl) (OV.p rfl)) (fun _ => by simp)) rfl ?_
  refine WL.val (V.pickAnd (OV.p rfl) (OV.p rfl)) rfl ?_
  refine WL.val (V.move (OV.p rfl)) rfl ?_
  refine WL.known (oj := _) rfl rfl rfl rfl ?_
  refine WL.val (V.move (OV.p rfl)) rfl ?_
  refine WL.known (oj := _) rfl rfl rfl rfl ?_
  refine WL.val (V.eql (OV.p rfl) (OV.p rfl)) rfl ?_
  refine WL.val (V.pickAnd (OV.p rfl) (OV.p rfl)) rfl ?_
  refine WL.val (V.move (OV.p rfl)) rfl ?_
  refine WL.known (oj := _) rfl rfl rfl rfl ?_
  refine WL.val (V.move (OV.p rfl)) rfl ?_
  refine WL.known (oj := _) rfl rfl rfl rfl ?_
  refine WL.val (V.eql (OV.p rfl) (OV.p rfl)) rfl ?_
  refine WL.val (V.pickAnd (OV.p rfl) (OV.p rfl)) rfl ?_
  refine WL.val (V.move (OV.p rfl)) rfl ?_
  refine WL.known (oj := _) rfl rfl rfl rfl ?_
  refine WL.val (V.move (OV.p rfl)) rfl ?_
  refine WL.known (oj := _) rfl rfl rfl rfl ?_
  refine WL.val (V.eql (OV.p rfl) (OV.p rfl)) rfl ?_
  refine WL.val (V.pickAnd (OV.p rfl) (OV.p rfl)) rfl ?_
  refine WL.val (V.move (OV.p rfl)) rfl ?_
  refine WL.known (oj := _) rfl rfl rfl rfl ?_
  refine WL.val (V.move (OV.p rfl)) rfl ?_
  refine WL.known (oj := _) rfl rfl rfl rfl ?_
  refine WL.call (vs := [_]) Tryz.call18 ⟨OV.p rfl, trivial⟩ (drive_GoodG hC4 g4) rfl ?_
  rintro _ _ ⟨A5, c5, rfl, rfl⟩
  rw [s4', q3]
  refine WL.known (oj := _) rfl rfl rfl rfl ?_
  refine WL.buildSlice (E := 3) (cs := [_]) (vs := [(0, _)]) ⟨OV.p rfl, trivial⟩ rfl (bsl42_1_0 _) rfl (fun b77 => ?_)
  refine WL.known (oj := _) rfl rfl rfl rfl ?_
  refine WL.call (vs := [_, _]) Tryz.call17 ⟨OV.p rfl, OV.p rfl, trivial⟩ (Tells.eq (v' := .bool true) (ref01_Ints (xs := [0]) (ys := [0]) K _ (Seq.up (SlA.seq rfl)) (Seq.all rfl) (by decide)) rfl) rfl ?_
  rintro _ H0 ⟨rfl, h0⟩
  subst H0
  refine WL.val (V.pickAnd (OV.p rfl) (OV.p rfl)) rfl ?_
  refine WL.val (V.move (OV.p rfl)) rfl ?_
  refine WL.known (oj := _) rfl rfl rfl rfl ?_
  refine WL.val (V.move (OV.p rfl)) rfl ?_
  refine WL.known (oj := _) rfl rfl rfl rfl ?_
  refine WL.sub (Sub.refl _) (fun w h => h.sel 6 [2, 3, 4] rfl) ?_
  refine WL.val (V.move (OV.p rfl)) rfl ?_
  refine WL.known (oj := _) rfl rfl rfl rfl ?_
  refine WL.call (vs := [_, _, _, _]) Tryz.call23 ⟨OV.p rfl, OV.p rfl, OV.p rfl, OV.p rfl, trivial⟩ (drive_WriteG hC4 g4 1 0 (Seq.allZ rfl : Seq K (CellsZ b37 5 (nats .u8 dat8) :: _) (some ⟨b37, 0, none⟩) 16 1 (nats .u8 dat8)) hd8 (Nat.le_refl _) (by decide)) rfl ?_
  rintro v6 _ ⟨C6, hC6, g6, rfl, s6, hv6⟩
  rw [s4', q4] at hv6
  subst hv6
  refine WL.known (oj := _) rfl rfl rfl rfl ?_
  refine WL.val (V.eql (OV.p rfl) (OV.p rfl)) rfl ?_
  refine WL.val (V.pickAnd (OV.p rfl) (OV.p rfl)) rfl ?_
  refine WL.val (V.assign (OV.p rfl)) rfl ?_
  refine WL.nil ?_
  refine WC.ret ?_
  exact BodyQ.ret (H' := F) (Res.tmp rfl rfl) (fun w h => h.sel 3 [] rfl) ⟨rfl, rfl⟩
end Go.Proofs.YtohkefolnmcjnaaGreat
/- What a drive's deeds come to: plain. -/
namespace Go.Proofs.YtohkefolnmcjnaaGreat
open Go.Sl Go.RowKit
set_option linter.unusedVariables false
set_option linter.unusedSimpArgs false
set_option maxRecDepth 20000

namespace Chip
theorem deed_same {S : Chip} (h : S.left = 0) : S.deed = S := by
  unfold deed cut
  rw [h]
  obtain ⟨a, b, c, d, e, f, g, up, l, k⟩ := S
  dsimp only at h
  subst h
  simp
theorem page_ok {S : Chip} {b p : Int} (h : 0 ≤ b ∧ b < S.g.bl ∧ 0 ≤ p ∧ p < S.g.pg) : S.page b p = true := by
  unfold page block
  simp; omega
theorem block_ok {S : Chip} {b : Int} (h : 0 ≤ b ∧ b < S.g.bl) : S.block b = true := by
  unfold block
  simp; omega
theorem ahead_ok {S : Chip} {b p : Int} (hu : S.up = true) (h : 0 ≤ b ∧ b < S.g.bl ∧ 0 ≤ p ∧ p < S.g.pg) (hm : S.marked b = false) : S.ahead b p true = 0 := by
  unfold ahead bad
  rw [if_neg (by rw [hu]; decide), if_neg (fun hh => by rcases hh with h | h | h | h | h <;> first | omega | cases h), hm, Bool.and_false, if_neg (by decide)]
theorem ahead_bad {S : Chip} {b p : Int} (hu : S.up = true) (h : 0 ≤ b ∧ b < S.g.bl ∧ 0 ≤ p ∧ p < S.g.pg) (hm : S.marked b = true) : S.ahead b p true = 73 := by
  unfold ahead bad
  rw [if_neg (by rw [hu]; decide), if_neg (fun hh => by rcases hh with h | h | h | h | h <;> first | omega | cases h), hm, hu, if_pos (by decide)]
section
variable {S : Chip} {b p : Int} {d : List Nat}
theorem pack_len (hg : S.g.mays) (h8 : Small 256 d) (hl : d.length = S.room) : ((intsOf (packG S.g d)).length : Int) = S.raw := by
  have hN := NGood.of (bl := S.g.bl) (pg := S.g.pg) (by rw [← geo_nat hg]; exact hg)
  unfold packG intsOf
  rw [List.length_map, packF_length hN.t h8 hl]
  exact (Geo.raw_nat hg).symm
theorem dWrite_prog (hu : S.up = true) (h : 0 ≤ b ∧ b < S.g.bl ∧ 0 ≤ p ∧ p < S.g.pg) (hm : S.marked b = false) (hl : d.length = S.room) : S.dWrite b p d = done b (S.program b p (intsOf (packG S.g d))) := by
  have e : decide (d.length = S.room) = true := decide_eq_true hl
  unfold dWrite
  rw [e, if_neg (by rw [ahead_ok hu h hm]; decide)]
theorem program_ok {xs : List Int} (hu : S.up = true) (h : 0 ≤ b ∧ b < S.g.bl ∧ 0 ≤ p ∧ p < S.g.pg) (hx : (xs.length : Int) = S.raw) (hn : S.nextOf b = p) (h0 : S.left = 0) :
    S.program b p xs = if S.weak b then (S, 72) else ({ S with pages := upds S.pages (b, p) (some xs), next := S.setNext b (p + 1) }, 0) := by
  have hc : S.cut = false := by unfold cut; rw [h0]; rfl
  unfold program
  rw [if_neg (by rw [hu]; decide), if_neg (by rw [page_ok h]; rintro (h | h); cases h; exact h hx), if_neg (fun h => h hn.symm), hc, if_neg Bool.false_ne_true, deed_same h0]
theorem dWrite_ok (hg : S.g.mays) (hu : S.up = true) (h : 0 ≤ b ∧ b < S.g.bl ∧ 0 ≤ p ∧ p < S.g.pg) (hm : S.marked b = false) (h8 : Small 256 d) (hl : d.length = S.room) (hn : S.nextOf b = p) (h0 : S.left = 0) (hw : S.weak b = false) :
    S.dWrite b p d = ({ S with pages := upds S.pages (b, p) (some (intsOf (packG S.g d))), next := S.setNext b (p + 1) }, 0) := by
  rw [dWrite_prog hu h hm hl, program_ok hu h (pack_len hg h8 hl) hn h0, hw]
  rfl
theorem mark_ok (hu : S.up = true) (h : 0 ≤ b ∧ b < S.g.bl) (h0 : S.left = 0) : S.mark b = ({ S with marked := fun k => if k = b then true else S.marked k }, 0) := by
  have hc : S.cut = false := by unfold cut; rw [h0]; rfl
  unfold mark all
  rw [if_neg (by rw [hu]; decide), if_neg (by rw [block_ok h]; decide), hc, deed_same h0]
  rfl
theorem dWrite_weak (hg : S.g.mays) (hu : S.up = true) (h : 0 ≤ b ∧ b < S.g.bl ∧ 0 ≤ p ∧ p < S.g.pg) (hm : S.marked b = false) (h8 : Small 256 d) (hl : d.length = S.room) (hn : S.nextOf b = p) (h0 : S.left = 0) (hw : S.weak b = true) :
    S.dWrite b p d = ({ S with marked := fun k => if k = b then true else S.marked k }, 72) := by
  rw [dWrite_prog hu h hm hl, program_ok hu h (pack_len hg h8 hl) hn h0, hw, if_pos rfl]
  unfold done
  rw [if_neg (fun h => h rfl), mark_ok hu ⟨h.1, h.2.1⟩ h0, if_neg (fun h => h rfl)]
theorem dErase_ok (hu : S.up = true) (h : 0 ≤ b ∧ b < S.g.bl) (hpg : 0 < S.g.pg) (hm : S.marked b = false) (h0 : S.left = 0) (hw : S.weak b = false) :
    S.dErase b = ({ S with pages := dropTo S.pages b S.g.pg, wrong := dropTo S.wrong b S.g.pg, next := S.setNext b 0 }, 0) := by
  have hc : S.cut = false := by unfold cut; rw [h0]; rfl
  have e : S.erase b = ({ S with pages := dropTo S.pages b S.g.pg, wrong := dropTo S.wrong b S.g.pg, next := S.setNext b 0 }, 0) := by
    unfold erase
    rw [if_neg (by rw [hu]; decide), if_neg (by rw [block_ok h]; decide), hc, if_neg Bool.false_ne_true, deed_same h0, hw, if_neg Bool.false_ne_true]
  unfold dErase
  rw [if_neg (by rw [ahead_ok hu ⟨h.1, h.2, Int.le_refl _, hpg⟩ hm]; decide), e]
  rfl
theorem rawN_page {xs : List Nat} (hp : S.pages (b, p) = some (intsOf xs)) (hw : S.wrong (b, p) = none) : S.rawN b p = xs := by
  unfold rawN reads
  rw [hp, hw]
  exact natsOf_intsOf xs
theorem rawN_blank (hp : S.pages (b, p) = none) (hw : S.wrong (b, p) = none) : S.rawN b p = List.replicate S.g.raw.toNat 255 := by
  unfold rawN reads
  rw [hp, hw]
  show natsOf (List.replicate _ 255) = _
  unfold natsOf
  rw [List.map_replicate]
  rfl
theorem dRead_page (hg : S.g.mays) (hu : S.up = true) (h : 0 ≤ b ∧ b < S.g.bl ∧ 0 ≤ p ∧ p < S.g.pg) (hm : S.marked b = false) (h8 : Small 256 d) (hl : d.length = S.room) (hp : S.pages (b, p) = some (intsOf (packG S.g d))) (hw : S.wrong (b, p) = none) :
    S.dRead b p = ⟨0, d, 0⟩ := by
  have hN := NGood.of (bl := S.g.bl) (pg := S.g.pg) (by rw [← geo_nat hg]; exact hg)
  unfold dRead
  rw [if_neg (by rw [ahead_ok hu h hm]; decide), rawN_page hp hw]
  unfold packG
  rw [read_pack hN.t h8 hl]
  rfl
theorem dRead_err (hu : S.up = true) (h : 0 ≤ b ∧ b < S.g.bl ∧ 0 ≤ p ∧ p < S.g.pg) (hm : S.marked b = false) (hs : S.stateG b p ≠ 0) : S.dRead b p = ⟨(S.stateG b p : Nat), [], 0⟩ := by
  unfold stateG at hs ⊢
  unfold dRead readF
  rw [if_neg (by rw [ahead_ok hu h hm]; decide), if_pos hs]
theorem sect_repl {n t S j x : Nat} (h : j < S) : sect n (List.replicate (S * n + 1) x) j = List.replicate n x := by
  have h1 : (j + 1) * n ≤ S * n := Nat.mul_le_mul_right _ h
  rw [Nat.succ_mul] at h1
  unfold sect
  rw [List.drop_replicate, List.take_replicate]
  congr 1; omega
theorem ones_255 : ∀ n, ones (List.replicate n 255) = 8 * n
  | 0 => rfl
  | n + 1 => by rw [List.replicate_succ, ones, ones_255 n, show pop8 255 = 8 from rfl]; omega
theorem state_blank {t S n : Nat} : stateF t S n (List.replicate (S * n + 1) 255) = 61 := by
  have h0 : (List.replicate (S * n + 1) 255).getD (S * n) 0 = (255 : Nat) := by simp [List.getD, List.getElem?_replicate]
  have h1 : ∀ k, k ≤ S → tornTo n t (List.replicate (S * n + 1) 255) k = false := fun k hk => by
    induction k with
    | zero => rfl
    | succ k ih =>
      rw [tornTo, ih (by omega)]
      unfold tornS
      rw [sect_repl (t := t) (by omega), ones_255]
      simp
  unfold stateF
  rw [h0, if_neg (by decide), if_neg (fun h => h rfl), h1 S (Nat.le_refl _), if_neg Bool.false_ne_true]
theorem state_255 {t S n : Nat} {raw : List Nat} (h : raw.getD (S * n) 0 = 255) : stateF t S n raw = 60 ∨ stateF t S n raw = 61 := by
  unfold stateF
  rw [h, if_neg (by decide), if_neg (fun h => h rfl)]
  split
  · exact .inl rfl
  · exact .inr rfl
theorem stateG_blank (hg : S.g.mays) (hp : S.pages (b, p) = none) (hw : S.wrong (b, p) = none) : S.stateG b p = 61 := by
  unfold stateG
  rw [rawN_blank hp hw, Geo.raw_nat hg, Int.toNat_natCast]
  exact state_blank
theorem goodTo_one {x : Int} (hu : S.up = true) (hm : ∀ k, S.marked k = decide (k = x)) (hx : 0 ≤ x) : ∀ n : Nat, ((S.goodTo n).length : Int) = (if x < (n : Int) then (n : Int) - 1 else (n : Int)) ∧ x ∉ S.goodTo n
  | 0 => ⟨by rw [if_neg (by omega)]; rfl, fun h => by simp [goodTo] at h⟩
  | n + 1 => by
    obtain ⟨h1, h2⟩ := goodTo_one hu hm hx n
    rw [goodTo]
    unfold bad
    rw [hu, hm, Bool.true_and, Bool.true_and]
    by_cases h : (n : Int) = x
    · rw [decide_eq_true h, if_neg (by decide)]
      refine ⟨?_, h2⟩
      rw [h1, if_neg (by omega), if_pos (by omega)]; omega
    · rw [decide_eq_false h, if_pos (by decide), List.length_append]
      refine ⟨?_, fun h' => ?_⟩
      · rw [Int.natCast_add, h1]
        simp only [List.length_singleton]
        split
        · rw [if_pos (by omega)]; omega
        · rw [if_neg (by omega)]; omega
      · rcases List.mem_append.1 h' with h' | h'
        · exact h2 h'
        · exact h (List.mem_singleton.1 h').symm
end
theorem next_new {g : Geo} {l : List Int} {b : Int} : (new g l).nextOf b = 0 := by
  show (List.replicate g.bl.toNat (0 : Int)).getD b.toNat 0 = 0
  rw [List.getD, List.getElem?_replicate]
  split <;> rfl
theorem nextOf_set' {S : Chip} {b v x : Int} (hb : 0 ≤ b) (hx : 0 ≤ x) (hl : x < S.next.length) : (S.next.set b.toNat v).getD x.toNat 0 = if x = b then v else S.nextOf x := by
  unfold nextOf
  simp only [List.getD, List.getElem?_set]
  by_cases h : x = b
  · subst h
    rw [if_pos rfl, if_pos (by omega), if_pos rfl]; rfl
  · rw [if_neg (by omega), if_neg h]
end Chip
end Go.Proofs.YtohkefolnmcjnaaGreat
