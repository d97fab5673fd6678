/- casematelaw07: step. -/
import Derived.Test.YtgmdagjnigkaaaaK7
namespace Go.Proofs.Ytgmdagjnigkaaaa
open Go.Sl Go.RowKit
set_option linter.unusedVariables false
set_option linter.unusedSimpArgs false
set_option maxRecDepth 20000

namespace Chip
theorem MarkIn.same {S S' : Chip} (h : S.MarkIn) (h1 : S'.marked = S.marked) (h2 : S'.g = S.g) : S'.MarkIn := fun k hk => by rw [h1] at hk; rw [h2]; exact h k hk
theorem program_mg (S : Chip) (b p : Int) (xs : List Int) : (S.program b p xs).1.marked = S.marked ∧ (S.program b p xs).1.g = S.g := by unfold program; repeat (first | exact ⟨rfl, rfl⟩ | split)
theorem erase_mg (S : Chip) (b : Int) : (S.erase b).1.marked = S.marked ∧ (S.erase b).1.g = S.g := by unfold erase; repeat (first | exact ⟨rfl, rfl⟩ | split)
theorem burn_mg (S : Chip) (n : Int) : (S.burn n).1.marked = S.marked ∧ (S.burn n).1.g = S.g := by unfold burn all; repeat (first | exact ⟨rfl, rfl⟩ | split)
theorem force_mg (S : Chip) (b p : Int) (xs : List Int) : (S.force b p xs).1.marked = S.marked ∧ (S.force b p xs).1.g = S.g := by unfold force; repeat (first | exact ⟨rfl, rfl⟩ | split)
theorem flip_mg (S : Chip) (b p : Int) (xs : List Int) : (S.flip b p xs).marked = S.marked ∧ (S.flip b p xs).g = S.g := by unfold flip; repeat (first | exact ⟨rfl, rfl⟩ | split)
theorem weaken_mg (S : Chip) (b : Int) : (S.weaken b).marked = S.marked ∧ (S.weaken b).g = S.g := by unfold weaken; repeat (first | exact ⟨rfl, rfl⟩ | split)
theorem mark_in {S : Chip} (h : S.MarkIn) (b : Int) : (S.mark b).1.MarkIn ∧ (S.mark b).1.g = S.g := by
  unfold mark
  split
  · exact ⟨h, rfl⟩
  · split
    · exact ⟨h, rfl⟩
    · rename_i hb
      have hb2 : 0 ≤ b ∧ b < S.g.bl := by unfold block at hb; simp at hb; exact hb
      unfold all
      refine ⟨?_, by dsimp only; split <;> rfl⟩
      dsimp only
      split
      · intro k hk
        have hk' : (if k = b then true else S.marked k) = true := hk
        by_cases e : k = b
        · subst e; exact hb2
        · rw [if_neg e] at hk'; exact h k hk'
      · exact h
end Chip
/-- Both chips after a call. -/
structure Both (bc a : Nat) (g : Geo) (F H' : List Assn) : Prop where
  ex : ∃ C' : Cw, ∃ R' : RW, C'.Ok ∧ R'.Ok ∧ R'.Is C'.sem ∧ C'.sem.MarkIn ∧ C'.g = g ∧ H' = C'.A bc :: R'.A a :: F
theorem Cw.g_of {C C' : Cw} {S : Chip} (h : C'.sem = S) (hg : S.g = C.sem.g) : C'.g = C.g := by
  have : C'.sem.g = C.sem.g := by rw [h, hg]
  exact this
def Chip.readL (S : Chip) (b p : Int) : List Int := if S.readErr b p = 0 then S.reads b p else []
section
variable {bc a : Nat} {C : Cw} {R : RW} {S : Chip} {K : World} {F : List Assn}
theorem Does.post_ {P : Program} {f : FuncId} {args : Array Value} {post post' : Value → List Assn → Prop} (h : Does P f args K F post) (hp : ∀ v H', post v H' → ∃ H'', (∀ w, Sat K w H' → Sat K w H'') ∧ post' v H'') : Does P f args K F post' := fun w hw =>
  (h w hw).mono fun e w' ⟨v, H', h1, h2, h3⟩ => by
    obtain ⟨H'', h4, h5⟩ := hp v H' h3
    exact ⟨v, H'', h1, h4 w' h2, h5⟩
theorem chip_ReadA (hC : C.Ok) (b p : Int) : Does Try.prog 19 #[ptr bc 0, .int .i64 b, .int .i64 p] K (C.A bc :: F)
    (fun v H' => ∃ A m c l, v = .tuple #[.slice A m c, .int .i64 (C.sem.readErr b p)] ∧ SeqIn l A m 1 (ints .u8 (C.sem.readL b p)) ∧ H' = AllA l :: C.A bc :: F) := by
  refine Does.post_ (chip_Read hC b p) (fun v H' h => ?_)
  rcases h with ⟨e, bo, rfl, rfl⟩ | ⟨e, rfl, rfl⟩
  · refine ⟨AllA [Cells bo 5 (ints .u8 (C.sem.reads b p))] :: C.A bc :: F, fun w hw => Sat.all hw, _, _, _, _, by rw [e], ?_, rfl⟩
    unfold Chip.readL
    rw [if_pos e]
    exact SeqIn.here fun K => Seq.allI (hC.reads_len b p)
  · refine ⟨AllA [] :: C.A bc :: F, fun w hw => Sat.all hw, _, _, _, [], rfl, ?_, rfl⟩
    unfold Chip.readL
    rw [if_neg e]
    exact SeqIn.nil
theorem ref_ReadA {b p : Int} (hR : R.Ok) (hS : R.Is S) (hlen : (S.reads b p).length = R.g.raw.toNat) : Does Try.prog 37 #[ptr a 0, .int .i64 b, .int .i64 p] K (R.A a :: F)
    (fun v H' => ∃ A m c l, v = .tuple #[.slice A m c, .int .i64 (S.readErr b p)] ∧ SeqIn l A m 1 (ints .u8 (S.readL b p)) ∧ H' = AllA l :: R.A a :: F) := by
  refine Does.post_ (ref_Read hR hS b p) (fun v H' h => ?_)
  rcases h with ⟨e, bo, rfl, rfl⟩ | ⟨e, rfl, rfl⟩
  · refine ⟨AllA [Cells bo 5 (ints .u8 (S.reads b p))] :: R.A a :: F, fun w hw => Sat.all hw, _, _, _, _, by rw [e], ?_, rfl⟩
    unfold Chip.readL
    rw [if_pos e]
    exact SeqIn.here fun K => Seq.allI hlen
  · refine ⟨AllA [] :: R.A a :: F, fun w hw => Sat.all hw, _, _, _, [], rfl, ?_, rfl⟩
    unfold Chip.readL
    rw [if_neg e]
    exact SeqIn.nil
end
section
variable {bc a : Nat} {C : Cw} {R : RW} {K : World} {F : List Assn}
theorem law07_step (hC : C.Ok) (hR : R.Ok) (hI : R.Is C.sem) (hM : C.sem.MarkIn) {o : OpV} (ho : o.Ok K F) (hrl : o.rx.length ≤ 200) (hpl : o.px.length ≤ 60) :
    Does Try.prog 36 #[ptr bc 0, ptr a 0, .agg o.cells.toArray] K (C.A bc :: R.A a :: F) (fun v H' => v = .bool true ∧ Both bc a C.g F H') := by
  have hgb := hC.mays
  unfold Geo.mays at hgb
  refine Does.enter Try.func36 rfl Try.ntmps36 rfl ?_
  simp only [env0, Nat.reduceAdd]
  refine WC.seq ?_
  refine WC.region ?_
  refine WL.box (cs := [_, _, _, _, _, _]) (OV.p rfl) rfl rfl (fun b5 => ?_)
  refine WL.val (V.assign (OV.p rfl)) rfl ?_
  refine WL.nil ?_
  refine WC.seq ?_
  refine WC.region ?_
  refine WL.buildSlice (E := 5) (cs := []) (vs := []) trivial rfl (bsl29_0 ) rfl (fun b12 => ?_)
  refine WL.val (V.fieldAddr fo45_4 (OV.p rfl)) rfl ?_
  refine WL.val (V.load Try.isAgg29 (OV.p rfl) (fun _ => by repeat (first | exact Rd.here rfl | apply Rd.up))) rfl ?_
  refine WL.sub (Sub.refl _) (fun w h => Sat.toSl (m := 0) (cap := 0) (s := 1) h rfl (Nat.le_refl _) (Nat.zero_le _)) ?_
  refine WL.append (m := 0) (cs := []) (q := o.rx.length) Try.underlying29 el5 (OV.p rfl) (OV.p rfl) (by repeat (first | exact ho.raw | apply Seq.up)) (ints_one _ _) (by omega) rfl rfl (fun Ao co hn7 hc7 => ?_)
  rw [Nat.zero_add, List.nil_append]
  refine WL.sub (Sub.refl _) (fun w h => h.sel 4 [2, 3, 0, 1] rfl) ?_
  refine WL.val (V.assign (OV.p rfl)) rfl ?_
  refine WL.nil ?_
  refine WC.seq ?_
  refine WC.seq ?_
  refine WC.region ?_
  refine WL.val (V.fieldAddr fo45_0 (OV.p rfl)) rfl ?_
  refine WL.val (V.load Try.isAgg3 (OV.p rfl) (fun _ => by repeat (first | exact Rd.here rfl | apply Rd.up))) rfl ?_
  refine WL.nil ?_
  refine WC.block ?_
  refine WC.seq ?_
  refine WC.region ?_
  refine WL.val (V.eql (OV.p rfl) (OV.p rfl)) rfl ?_
  refine WL.val (V.assign (OV.p rfl)) rfl ?_
  refine WL.nil ?_
  refine WC.cond rfl (fun hc0 => ?_) (fun hc0 => ?_)
  · skip
    refine WC.seq ?_
    refine WC.regionA (SlA (.slice Ao o.rx.length co) 5 1 o.rx.length (ints .u8 o.rx) :: Cells b5 45 o.cells :: F) (by kernel_rfl) ?_
    refine WA.take 0 (fun w h => by repeat (first | exact h | replace h := h.tail)) rfl (by kernel_rfl) (by kernel_rfl) (by kernel_rfl) (fun _ _ _ h => h) (V.move (OV.p rfl)) rfl ?_
    refine WA.take 1 (fun w h => by repeat (first | exact h | replace h := h.tail)) rfl (by kernel_rfl) (by kernel_rfl) (by kernel_rfl) (fun _ _ _ h => h) (V.fieldAddr fo45_1 (OV.p rfl)) rfl ?_
    refine WA.take 2 (fun w h => by repeat (first | exact h | replace h := h.tail)) rfl (by kernel_rfl) (by kernel_rfl) (by kernel_rfl) (fun _ _ _ h => h) (V.load Try.isAgg3 (OV.p rfl) (fun _ => by repeat (first | exact Rd.here rfl | apply Rd.up))) rfl ?_
    refine WA.take 3 (fun w h => by repeat (first | exact h | replace h := h.tail)) rfl (by kernel_rfl) (by kernel_rfl) (by kernel_rfl) (fun _ _ _ h => h) (V.fieldAddr fo45_2 (OV.p rfl)) rfl ?_
    refine WA.take 4 (fun w h => by repeat (first | exact h | replace h := h.tail)) rfl (by kernel_rfl) (by kernel_rfl) (by kernel_rfl) (fun _ _ _ h => h) (V.load Try.isAgg3 (OV.p rfl) (fun _ => by repeat (first | exact Rd.here rfl | apply Rd.up))) rfl ?_
    refine WA.take 5 (fun w h => by repeat (first | exact h | replace h := h.tail)) rfl (by kernel_rfl) (by kernel_rfl) (by kernel_rfl) (fun _ _ _ h => h) (V.move (OV.p rfl)) rfl ?_
    refine WA.take 7 (fun w h => by repeat (first | exact h | replace h := h.tail)) rfl (by kernel_rfl) (by kernel_rfl) (by kernel_rfl) (fun _ _ _ h => h) (V.move (OV.p rfl)) rfl ?_
    refine WA.take 8 (fun w h => by repeat (first | exact h | replace h := h.tail)) rfl (by kernel_rfl) (by kernel_rfl) (by kernel_rfl) (fun _ _ _ h => h) (V.fieldAddr fo45_1 (OV.p rfl)) rfl ?_
    refine WA.take 9 (fun w h => by repeat (first | exact h | replace h := h.tail)) rfl (by kernel_rfl) (by kernel_rfl) (by kernel_rfl) (fun _ _ _ h => h) (V.load Try.isAgg3 (OV.p rfl) (fun _ => by repeat (first | exact Rd.here rfl | apply Rd.up))) rfl ?_
    refine WA.take 10 (fun w h => by repeat (first | exact h | replace h := h.tail)) rfl (by kernel_rfl) (by kernel_rfl) (by kernel_rfl) (fun _ _ _ h => h) (V.fieldAddr fo45_2 (OV.p rfl)) rfl ?_
    refine WA.take 11 (fun w h => by repeat (first | exact h | replace h := h.tail)) rfl (by kernel_rfl) (by kernel_rfl) (by kernel_rfl) (fun _ _ _ h => h) (V.load Try.isAgg3 (OV.p rfl) (fun _ => by repeat (first | exact Rd.here rfl | apply Rd.up))) rfl ?_
    refine WA.take 12 (fun w h => by repeat (first | exact h | replace h := h.tail)) rfl (by kernel_rfl) (by kernel_rfl) (by kernel_rfl) (fun _ _ _ h => h) (V.fieldAddr fo45_4 (OV.p rfl)) rfl ?_
    refine WA.take 13 (fun w h => by repeat (first | exact h | replace h := h.tail)) rfl (by kernel_rfl) (by kernel_rfl) (by kernel_rfl) (fun _ _ _ h => h) (V.load Try.isAgg29 (OV.p rfl) (fun _ => by repeat (first | exact Rd.here rfl | apply Rd.up))) rfl ?_
    refine WA.one (i := 6) (fun w h => by repeat (first | exact h | replace h := h.tail)) (by kernel_rfl) rfl ?_
    refine WL.call (vs := [_, _, _, _]) Try.call16 ⟨OV.p rfl, OV.p rfl, OV.p rfl, OV.p rfl, trivial⟩ (chip_Program hC o.block o.page ho.rb (by repeat (first | exact SlA.seq (by simp [ints]) | apply Seq.up)) (by omega)) rfl ?_
    rintro v1 _ ⟨C1, hC1, rfl, s1, rfl⟩
    refine WL.nil ?_
    refine WA.one (i := 14) (fun w h => by repeat (first | exact h | replace h := h.tail)) (by kernel_rfl) rfl ?_
    refine WL.sub (Sub.refl _) (fun w h => h.p1) ?_
    refine WL.call (vs := [_, _, _, _]) Try.call68 ⟨OV.p rfl, OV.p rfl, OV.p rfl, OV.p rfl, trivial⟩ (ref_Program hR hI o.block o.page ho.rb (by repeat (first | exact ho.raw | apply Seq.up)) (by omega)) rfl ?_
    rintro v2 _ ⟨R1, hR1, hI1, rfl, rfl⟩
    refine WL.sub (Sub.refl _) (fun w h => h.p1) ?_
    have hb : Both bc a C.g F (C1.A bc :: R1.A a :: F) := ⟨C1, R1, hC1, hR1, by rw [s1]; exact hI1, by rw [s1]; exact hM.same (Chip.program_mg _ _ _ _).1 (Chip.program_mg _ _ _ _).2, Cw.g_of s1 (Chip.program_mg _ _ _ _).2, rfl⟩
    refine WL.nil ?_
    refine WA.take 15 (fun w h => by repeat (first | exact h | replace h := h.tail)) rfl (by kernel_rfl) (by kernel_rfl) (by kernel_rfl) (fun _ _ _ h => h) (V.eql (OV.p rfl) (OV.p rfl)) rfl ?_
    refine WA.take 16 (fun w h => by repeat (first | exact h | replace h := h.tail)) rfl (by kernel_rfl) (by kernel_rfl) (by kernel_rfl) (fun _ _ _ h => h) (V.move (OV.p rfl)) rfl ?_
    refine WA.takeG (oj := _) 17 (fun w h => by repeat (first | exact h | replace h := h.tail)) rfl (by kernel_rfl) (by kernel_rfl) (by kernel_rfl) (fun _ _ _ h => h) rfl rfl rfl GC.t (V.move (OV.p rfl)) rfl ?_
    refine WA.takeG (oj := _) 18 (fun w h => by repeat (first | exact h | replace h := h.tail)) rfl (by kernel_rfl) (by kernel_rfl) (by kernel_rfl) (fun _ _ _ h => h) rfl rfl rfl GC.t (V.bytesStr (xs := o.rx) Try.underlying29 Try.underlying5 Try.underlying9 (OV.g rfl id) (fun _ => (by repeat (first | exact SlA.seq (by simp [ints]) | apply Seq.up)))) rfl ?_
    refine WA.takeG (oj := _) 19 (fun w h => by repeat (first | exact h | replace h := h.tail)) rfl (by kernel_rfl) (by kernel_rfl) (by kernel_rfl) (fun _ _ _ h => h) rfl rfl rfl GC.t (V.fieldAddr fo45_4 (OV.p rfl)) rfl ?_
    refine WA.takeG (oj := _) 20 (fun w h => by repeat (first | exact h | replace h := h.tail)) rfl (by kernel_rfl) (by kernel_rfl) (by kernel_rfl) (fun _ _ _ h => h) rfl rfl rfl GC.t (V.load Try.isAgg29 (OV.g rfl id) (fun _ => by repeat (first | exact Rd.here rfl | apply Rd.up))) rfl ?_
    refine WA.takeG (oj := _) 21 (fun w h => by repeat (first | exact h | replace h := h.tail)) rfl (by kernel_rfl) (by kernel_rfl) (by kernel_rfl) (fun _ _ _ h => h) rfl rfl rfl GC.t (V.bytesStr (xs := o.rx) Try.underlying29 Try.underlying5 Try.underlying9 (OV.g rfl id) (fun _ => (by repeat (first | exact ho.raw | apply Seq.up)))) rfl ?_
    refine WA.takeG (oj := _) 22 (fun w h => by repeat (first | exact h | replace h := h.tail)) rfl (by kernel_rfl) (by kernel_rfl) (by kernel_rfl) (fun _ _ _ h => h) rfl rfl rfl GC.t (V.eqlS (OV.g rfl id) (OV.g rfl id)) rfl ?_
    refine WA.take 23 (fun w h => by repeat (first | exact h | replace h := h.tail)) rfl (by kernel_rfl) (by kernel_rfl) (by kernel_rfl) (fun _ _ _ h => h) (V.pickAnd (OV.p rfl) (OV.g rfl id)) rfl ?_
    refine WA.take 24 (fun w h => by repeat (first | exact h | replace h := h.tail)) rfl (by kernel_rfl) (by kernel_rfl) (by kernel_rfl) (fun _ _ _ h => h) (V.assign (OV.p rfl)) rfl ?_
    refine WA.done (by kernel_rfl) (fun w h => by repeat (first | exact h | replace h := h.tail)) ?_
    refine WC.ret ?_
    exact BodyQ.ret (H' := C1.A bc :: R1.A a :: F) (Res.tmp rfl (look_eq rfl (by simp))) (fun w h => h.sel 4 [0, 1] rfl) ⟨rfl, hb⟩
  · skip
    refine WC.seq ?_
    refine WC.region ?_
    refine WL.val (V.eql (OV.p rfl) (OV.p rfl)) rfl ?_
    refine WL.val (V.assign (OV.p rfl)) rfl ?_
    refine WL.nil ?_
    refine WC.cond rfl (fun hc1 => ?_) (fun hc1 => ?_)
    · skip
      refine WC.seq ?_
      refine WC.regionA (SlA (.slice Ao o.rx.length co) 5 1 o.rx.length (ints .u8 o.rx) :: Cells b5 45 o.cells :: F) (by kernel_rfl) ?_
      refine WA.take 0 (fun w h => by repeat (first | exact h | replace h := h.tail)) rfl (by kernel_rfl) (by kernel_rfl) (by kernel_rfl) (fun _ _ _ h => h) (V.move (OV.p rfl)) rfl ?_
      refine WA.take 1 (fun w h => by repeat (first | exact h | replace h := h.tail)) rfl (by kernel_rfl) (by kernel_rfl) (by kernel_rfl) (fun _ _ _ h => h) (V.fieldAddr fo45_1 (OV.p rfl)) rfl ?_
      refine WA.take 2 (fun w h => by repeat (first | exact h | replace h := h.tail)) rfl (by kernel_rfl) (by kernel_rfl) (by kernel_rfl) (fun _ _ _ h => h) (V.load Try.isAgg3 (OV.p rfl) (fun _ => by repeat (first | exact Rd.here rfl | apply Rd.up))) rfl ?_
      refine WA.take 4 (fun w h => by repeat (first | exact h | replace h := h.tail)) rfl (by kernel_rfl) (by kernel_rfl) (by kernel_rfl) (fun _ _ _ h => h) (V.move (OV.p rfl)) rfl ?_
      refine WA.take 5 (fun w h => by repeat (first | exact h | replace h := h.tail)) rfl (by kernel_rfl) (by kernel_rfl) (by kernel_rfl) (fun _ _ _ h => h) (V.fieldAddr fo45_1 (OV.p rfl)) rfl ?_
      refine WA.take 6 (fun w h => by repeat (first | exact h | replace h := h.tail)) rfl (by kernel_rfl) (by kernel_rfl) (by kernel_rfl) (fun _ _ _ h => h) (V.load Try.isAgg3 (OV.p rfl) (fun _ => by repeat (first | exact Rd.here rfl | apply Rd.up))) rfl ?_
      refine WA.one (i := 3) (fun w h => by repeat (first | exact h | replace h := h.tail)) (by kernel_rfl) rfl ?_
      refine WL.call (vs := [_, _]) Try.call20 ⟨OV.p rfl, OV.p rfl, trivial⟩ (chip_Erase hC o.block) rfl ?_
      rintro v1 _ ⟨C1, hC1, rfl, s1, rfl⟩
      refine WL.nil ?_
      refine WA.one (i := 7) (fun w h => by repeat (first | exact h | replace h := h.tail)) (by kernel_rfl) rfl ?_
      refine WL.sub (Sub.refl _) (fun w h => h.p1) ?_
      refine WL.call (vs := [_, _]) Try.call69 ⟨OV.p rfl, OV.p rfl, trivial⟩ (ref_Erase hR hI o.block) rfl ?_
      rintro v2 _ ⟨R1, hR1, hI1, rfl, rfl⟩
      refine WL.sub (Sub.refl _) (fun w h => h.p1) ?_
      have hb : Both bc a C.g F (C1.A bc :: R1.A a :: F) := ⟨C1, R1, hC1, hR1, by rw [s1]; exact hI1, by rw [s1]; exact hM.same (Chip.erase_mg _ _).1 (Chip.erase_mg _ _).2, Cw.g_of s1 (Chip.erase_mg _ _).2, rfl⟩
      refine WL.nil ?_
      refine WA.take 8 (fun w h => by repeat (first | exact h | replace h := h.tail)) rfl (by kernel_rfl) (by kernel_rfl) (by kernel_rfl) (fun _ _ _ h => h) (V.eql (OV.p rfl) (OV.p rfl)) rfl ?_
      refine WA.take 9 (fun w h => by repeat (first | exact h | replace h := h.tail)) rfl (by kernel_rfl) (by kernel_rfl) (by kernel_rfl) (fun _ _ _ h => h) (V.assign (OV.p rfl)) rfl ?_
      refine WA.done (by kernel_rfl) (fun w h => by repeat (first | exact h | replace h := h.tail)) ?_
      refine WC.ret ?_
      exact BodyQ.ret (H' := C1.A bc :: R1.A a :: F) (Res.tmp rfl (look_eq rfl (by simp))) (fun w h => h.sel 4 [0, 1] rfl) ⟨rfl, hb⟩
    · skip
      refine WC.seq ?_
      refine WC.region ?_
      refine WL.val (V.eql (OV.p rfl) (OV.p rfl)) rfl ?_
      refine WL.val (V.assign (OV.p rfl)) rfl ?_
      refine WL.nil ?_
      refine WC.cond rfl (fun hc2 => ?_) (fun hc2 => ?_)
      · skip
        refine WC.seq ?_
        refine WC.regionA (SlA (.slice Ao o.rx.length co) 5 1 o.rx.length (ints .u8 o.rx) :: Cells b5 45 o.cells :: F) (by kernel_rfl) ?_
        refine WA.take 0 (fun w h => by repeat (first | exact h | replace h := h.tail)) rfl (by kernel_rfl) (by kernel_rfl) (by kernel_rfl) (fun _ _ _ h => h) (V.move (OV.p rfl)) rfl ?_
        refine WA.take 1 (fun w h => by repeat (first | exact h | replace h := h.tail)) rfl (by kernel_rfl) (by kernel_rfl) (by kernel_rfl) (fun _ _ _ h => h) (V.fieldAddr fo45_1 (OV.p rfl)) rfl ?_
        refine WA.take 2 (fun w h => by repeat (first | exact h | replace h := h.tail)) rfl (by kernel_rfl) (by kernel_rfl) (by kernel_rfl) (fun _ _ _ h => h) (V.load Try.isAgg3 (OV.p rfl) (fun _ => by repeat (first | exact Rd.here rfl | apply Rd.up))) rfl ?_
        refine WA.take 4 (fun w h => by repeat (first | exact h | replace h := h.tail)) rfl (by kernel_rfl) (by kernel_rfl) (by kernel_rfl) (fun _ _ _ h => h) (V.move (OV.p rfl)) rfl ?_
        refine WA.take 5 (fun w h => by repeat (first | exact h | replace h := h.tail)) rfl (by kernel_rfl) (by kernel_rfl) (by kernel_rfl) (fun _ _ _ h => h) (V.fieldAddr fo45_1 (OV.p rfl)) rfl ?_
        refine WA.take 6 (fun w h => by repeat (first | exact h | replace h := h.tail)) rfl (by kernel_rfl) (by kernel_rfl) (by kernel_rfl) (fun _ _ _ h => h) (V.load Try.isAgg3 (OV.p rfl) (fun _ => by repeat (first | exact Rd.here rfl | apply Rd.up))) rfl ?_
        refine WA.one (i := 3) (fun w h => by repeat (first | exact h | replace h := h.tail)) (by kernel_rfl) rfl ?_
        refine WL.call (vs := [_, _]) Try.call23 ⟨OV.p rfl, OV.p rfl, trivial⟩ (chip_Mark hC o.block) rfl ?_
        rintro v1 _ ⟨C1, hC1, rfl, s1, rfl⟩
        refine WL.nil ?_
        refine WA.one (i := 7) (fun w h => by repeat (first | exact h | replace h := h.tail)) (by kernel_rfl) rfl ?_
        refine WL.sub (Sub.refl _) (fun w h => h.p1) ?_
        refine WL.call (vs := [_, _]) Try.call70 ⟨OV.p rfl, OV.p rfl, trivial⟩ (ref_Mark hR hI o.block) rfl ?_
        rintro v2 _ ⟨R1, hR1, hI1, rfl, rfl⟩
        refine WL.sub (Sub.refl _) (fun w h => h.p1) ?_
        have hb : Both bc a C.g F (C1.A bc :: R1.A a :: F) := ⟨C1, R1, hC1, hR1, by rw [s1]; exact hI1, by rw [s1]; exact (Chip.mark_in hM _).1, Cw.g_of s1 (Chip.mark_in hM _).2, rfl⟩
        refine WL.nil ?_
        refine WA.take 8 (fun w h => by repeat (first | exact h | replace h := h.tail)) rfl (by kernel_rfl) (by kernel_rfl) (by kernel_rfl) (fun _ _ _ h => h) (V.eql (OV.p rfl) (OV.p rfl)) rfl ?_
        refine WA.take 9 (fun w h => by repeat (first | exact h | replace h := h.tail)) rfl (by kernel_rfl) (by kernel_rfl) (by kernel_rfl) (fun _ _ _ h => h) (V.assign (OV.p rfl)) rfl ?_
        refine WA.done (by kernel_rfl) (fun w h => by repeat (first | exact h | replace h := h.tail)) ?_
        refine WC.ret ?_
        exact BodyQ.ret (H' := C1.A bc :: R1.A a :: F) (Res.tmp rfl (look_eq rfl (by simp))) (fun w h => h.sel 4 [0, 1] rfl) ⟨rfl, hb⟩
      · skip
        refine WC.seq ?_
        refine WC.region ?_
        refine WL.val (V.eql (OV.p rfl) (OV.p rfl)) rfl ?_
        refine WL.val (V.assign (OV.p rfl)) rfl ?_
        refine WL.nil ?_
        refine WC.cond rfl (fun hc3 => ?_) (fun hc3 => ?_)
        · skip
          refine WC.seq ?_
          refine WC.regionA (SlA (.slice Ao o.rx.length co) 5 1 o.rx.length (ints .u8 o.rx) :: Cells b5 45 o.cells :: F) (by kernel_rfl) ?_
          refine WA.take 0 (fun w h => by repeat (first | exact h | replace h := h.tail)) rfl (by kernel_rfl) (by kernel_rfl) (by kernel_rfl) (fun _ _ _ h => h) (V.move (OV.p rfl)) rfl ?_
          refine WA.take 1 (fun w h => by repeat (first | exact h | replace h := h.tail)) rfl (by kernel_rfl) (by kernel_rfl) (by kernel_rfl) (fun _ _ _ h => h) (V.fieldAddr fo45_3 (OV.p rfl)) rfl ?_
          refine WA.take 2 (fun w h => by repeat (first | exact h | replace h := h.tail)) rfl (by kernel_rfl) (by kernel_rfl) (by kernel_rfl) (fun _ _ _ h => h) (V.load Try.isAgg3 (OV.p rfl) (fun _ => by repeat (first | exact Rd.here rfl | apply Rd.up))) rfl ?_
          refine WA.take 4 (fun w h => by repeat (first | exact h | replace h := h.tail)) rfl (by kernel_rfl) (by kernel_rfl) (by kernel_rfl) (fun _ _ _ h => h) (V.move (OV.p rfl)) rfl ?_
          refine WA.take 5 (fun w h => by repeat (first | exact h | replace h := h.tail)) rfl (by kernel_rfl) (by kernel_rfl) (by kernel_rfl) (fun _ _ _ h => h) (V.fieldAddr fo45_3 (OV.p rfl)) rfl ?_
          refine WA.take 6 (fun w h => by repeat (first | exact h | replace h := h.tail)) rfl (by kernel_rfl) (by kernel_rfl) (by kernel_rfl) (fun _ _ _ h => h) (V.load Try.isAgg3 (OV.p rfl) (fun _ => by repeat (first | exact Rd.here rfl | apply Rd.up))) rfl ?_
          refine WA.one (i := 3) (fun w h => by repeat (first | exact h | replace h := h.tail)) (by kernel_rfl) rfl ?_
          refine WL.call (vs := [_, _]) Try.call24 ⟨OV.p rfl, OV.p rfl, trivial⟩ (chip_Burn hC o.n) rfl ?_
          rintro v1 _ ⟨C1, hC1, rfl, s1, rfl⟩
          refine WL.nil ?_
          refine WA.one (i := 7) (fun w h => by repeat (first | exact h | replace h := h.tail)) (by kernel_rfl) rfl ?_
          refine WL.sub (Sub.refl _) (fun w h => h.p1) ?_
          refine WL.call (vs := [_, _]) Try.call71 ⟨OV.p rfl, OV.p rfl, trivial⟩ (ref_Burn hR hI o.n) rfl ?_
          rintro v2 _ ⟨R1, hR1, hI1, rfl, rfl⟩
          refine WL.sub (Sub.refl _) (fun w h => h.p1) ?_
          have hb : Both bc a C.g F (C1.A bc :: R1.A a :: F) := ⟨C1, R1, hC1, hR1, by rw [s1]; exact hI1, by rw [s1]; exact hM.same (Chip.burn_mg _ _).1 (Chip.burn_mg _ _).2, Cw.g_of s1 (Chip.burn_mg _ _).2, rfl⟩
          refine WL.nil ?_
          refine WA.take 8 (fun w h => by repeat (first | exact h | replace h := h.tail)) rfl (by kernel_rfl) (by kernel_rfl) (by kernel_rfl) (fun _ _ _ h => h) (V.eql (OV.p rfl) (OV.p rfl)) rfl ?_
          refine WA.take 9 (fun w h => by repeat (first | exact h | replace h := h.tail)) rfl (by kernel_rfl) (by kernel_rfl) (by kernel_rfl) (fun _ _ _ h => h) (V.assign (OV.p rfl)) rfl ?_
          refine WA.done (by kernel_rfl) (fun w h => by repeat (first | exact h | replace h := h.tail)) ?_
          refine WC.ret ?_
          exact BodyQ.ret (H' := C1.A bc :: R1.A a :: F) (Res.tmp rfl (look_eq rfl (by simp))) (fun w h => h.sel 4 [0, 1] rfl) ⟨rfl, hb⟩
        · skip
          refine WC.seq ?_
          refine WC.region ?_
          refine WL.val (V.eql (OV.p rfl) (OV.p rfl)) rfl ?_
          refine WL.val (V.assign (OV.p rfl)) rfl ?_
          refine WL.nil ?_
          refine WC.cond rfl (fun hc4 => ?_) (fun hc4 => ?_)
          · skip
            refine WC.seq ?_
            refine WC.region ?_
            refine WL.val (V.move (OV.p rfl)) rfl ?_
            refine WL.call (vs := [_]) Try.call21 ⟨OV.p rfl, trivial⟩ (chip_On (C := C)) rfl ?_
            rintro v1 _ rfl
            have hC1 := hC.on
            obtain ⟨R1, hRe⟩ : ∃ D : RW, D = { R with up := true } := ⟨_, rfl⟩
            have hR1 : R1.Ok := by rw [hRe]; exact ⟨hR.mays, hR.pgs, hR.left, hR.next⟩
            have hI1 : R1.Is C.on.sem := by rw [hRe]; exact ⟨hI.g, hI.fuse, rfl, hI.left, hI.keep, hI.len, hI.nlen, fun k z hz => (hI.blk k z hz).congr rfl rfl rfl rfl (fun q => ⟨rfl, rfl⟩)⟩
            have hM1 : C.on.sem.MarkIn := hM.same rfl rfl
            have hg1 : C.on.g = C.g := rfl
            refine WL.nil ?_
            refine WC.sub (Sub.refl _) (fun w h => Sat.unall (l := R.parts a) h.p1) ?_
            dsimp only [RW.parts, List.cons_append, List.nil_append]
            refine WC.region ?_
            refine WL.val (V.move (OV.p rfl)) rfl ?_
            refine WL.val (V.nilCheck (OV.p rfl)) rfl ?_
            refine WL.val (V.fieldAddr fo68_3 (OV.p rfl)) rfl ?_
            refine WL.store (cs := [_]) Try.sizeOf4 (OV.p rfl) (OV.p rfl) rfl rfl rfl (by repeat (first | exact Upd.here (cs' := [_, _, _, _, _, _, _, _, _, _]) rfl rfl | apply Upd.up)) ?_
            refine WL.sub (H' := C.on.A bc :: R1.A a :: SlA (.slice Ao o.rx.length co) 5 1 o.rx.length (ints .u8 o.rx) :: Cells b5 45 o.cells :: F) (Sub.refl _) (fun w h => by rw [hRe]; exact (Sat.all (l := RW.parts a { R with up := true }) (Sat.cells_eq h (by simp [setL]))).p1) ?_
            refine WL.nil ?_
            refine WC.seq ?_
            first | refine WC.sub (Sub.refl _) hW8 ?_ | skip
            refine WC.region ?_
            refine WL.val (V.move (OV.p rfl)) rfl ?_
            refine WL.val (V.fieldAddr fo45_1 (OV.p rfl)) rfl ?_
            refine WL.val (V.load Try.isAgg3 (OV.p rfl) (fun _ => by repeat (first | exact Rd.here rfl | apply Rd.up))) rfl ?_
            refine WL.val (V.fieldAddr fo45_2 (OV.p rfl)) rfl ?_
            refine WL.val (V.load Try.isAgg3 (OV.p rfl) (fun _ => by repeat (first | exact Rd.here rfl | apply Rd.up))) rfl ?_
            refine WL.call (vs := [_, _, _]) Try.call19 ⟨OV.p rfl, OV.p rfl, OV.p rfl, trivial⟩ (chip_ReadA hC1 o.block o.page) rfl ?_
            rintro _ _ ⟨A8, m8, c8, l8, rfl, hq8, rfl⟩
            refine WL.val (V.move (OV.p rfl)) rfl ?_
            refine WL.val (V.extract (OV.p rfl) rfl) rfl ?_
            refine WL.val (V.extract (OV.p rfl) rfl) rfl ?_
            refine WL.val (V.assign (OV.p rfl)) rfl ?_
            refine WL.val (V.assign (OV.p rfl)) rfl ?_
            refine WL.nil ?_
            refine WC.seq ?_
            refine WC.region ?_
            refine WL.val (V.move (OV.p rfl)) rfl ?_
            refine WL.val (V.fieldAddr fo45_1 (OV.p rfl)) rfl ?_
            refine WL.val (V.load Try.isAgg3 (OV.p rfl) (fun _ => by repeat (first | exact Rd.here rfl | apply Rd.up))) rfl ?_
            refine WL.val (V.fieldAddr fo45_2 (OV.p rfl)) rfl ?_
            refine WL.val (V.load Try.isAgg3 (OV.p rfl) (fun _ => by repeat (first | exact Rd.here rfl | apply Rd.up))) rfl ?_
            refine WL.sub (Sub.refl _) (fun w h => h.sel 3 [2, 0, 1] rfl) ?_
            refine WL.call (vs := [_, _, _]) Try.call37 ⟨OV.p rfl, OV.p rfl, OV.p rfl, trivial⟩ (ref_ReadA hR1 hI1 (by rw [hC1.reads_len]; exact congrArg (fun g : Geo => g.raw.toNat) hI1.g.symm)) rfl ?_
            rintro _ _ ⟨A9, m9, c9, l9, rfl, hq9, rfl⟩
            refine WL.val (V.move (OV.p rfl)) rfl ?_
            refine WL.val (V.extract (OV.p rfl) rfl) rfl ?_
            refine WL.val (V.extract (OV.p rfl) rfl) rfl ?_
            refine WL.val (V.assign (OV.p rfl)) rfl ?_
            refine WL.val (V.assign (OV.p rfl)) rfl ?_
            refine WL.nil ?_
            refine WC.seq ?_
            refine WC.region ?_
            refine WL.val (V.move (OV.p rfl)) rfl ?_
            refine WL.val (V.move (OV.p rfl)) rfl ?_
            refine WL.val (V.eql (OV.p rfl) (OV.p rfl)) rfl ?_
            refine WL.val (V.move (OV.p rfl)) rfl ?_
            refine WL.valG (oj := _) rfl rfl rfl GC.t (V.move (OV.p rfl)) rfl ?_
            refine WL.valG (oj := _) rfl rfl rfl GC.t (V.bytesStr Try.underlying29 Try.underlying5 Try.underlying9 (OV.g rfl id) (fun _ => by repeat (first | exact SeqIn.seq hq8 | apply Seq.up))) rfl ?_
            refine WL.valG (oj := _) rfl rfl rfl GC.t (V.move (OV.p rfl)) rfl ?_
            refine WL.valG (oj := _) rfl rfl rfl GC.t (V.bytesStr Try.underlying29 Try.underlying5 Try.underlying9 (OV.g rfl id) (fun _ => by repeat (first | exact SeqIn.seq hq9 | apply Seq.up))) rfl ?_
            refine WL.valG (oj := _) rfl rfl rfl GC.t (V.eqlS (OV.g rfl id) (OV.g rfl id)) rfl ?_
            refine WL.val (V.pickAnd (OV.p rfl) (OV.g rfl id)) rfl ?_
            refine WL.val (V.assign (OV.p rfl)) rfl ?_
            refine WL.nil ?_
            refine WC.ret ?_
            exact BodyQ.ret (Res.tmp rfl (look_eq rfl (by simp))) (fun w h => h.sel 6 [3, 1] rfl) ⟨rfl, ⟨_, _, hC1, hR1, hI1, hM1, hg1, rfl⟩⟩
          · skip
            refine WC.seq ?_
            refine WC.region ?_
            refine WL.val (V.eql (OV.p rfl) (OV.p rfl)) rfl ?_
            refine WL.val (V.assign (OV.p rfl)) rfl ?_
            refine WL.nil ?_
            refine WC.cond rfl (fun hc5 => ?_) (fun hc5 => ?_)
            · skip
              refine WC.seq ?_
              refine WC.region ?_
              refine WL.val (V.move (OV.p rfl)) rfl ?_
              refine WL.call (vs := [_]) Try.call25 ⟨OV.p rfl, trivial⟩ (chip_Off (C := C)) rfl ?_
              rintro v1 _ rfl
              have hC1 := hC.off
              obtain ⟨R1, hRe⟩ : ∃ D : RW, D = { R with up := false } := ⟨_, rfl⟩
              have hR1 : R1.Ok := by rw [hRe]; exact ⟨hR.mays, hR.pgs, hR.left, hR.next⟩
              have hI1 : R1.Is C.off.sem := by rw [hRe]; exact ⟨hI.g, hI.fuse, rfl, hI.left, hI.keep, hI.len, hI.nlen, fun k z hz => (hI.blk k z hz).congr rfl rfl rfl rfl (fun q => ⟨rfl, rfl⟩)⟩
              have hM1 : C.off.sem.MarkIn := hM.same rfl rfl
              have hg1 : C.off.g = C.g := rfl
              refine WL.nil ?_
              refine WC.sub (Sub.refl _) (fun w h => Sat.unall (l := R.parts a) h.p1) ?_
              dsimp only [RW.parts, List.cons_append, List.nil_append]
              refine WC.region ?_
              refine WL.val (V.move (OV.p rfl)) rfl ?_
              refine WL.val (V.nilCheck (OV.p rfl)) rfl ?_
              refine WL.val (V.fieldAddr fo68_3 (OV.p rfl)) rfl ?_
              refine WL.store (cs := [_]) Try.sizeOf4 (OV.p rfl) (OV.p rfl) rfl rfl rfl (by repeat (first | exact Upd.here (cs' := [_, _, _, _, _, _, _, _, _, _]) rfl rfl | apply Upd.up)) ?_
              refine WL.sub (H' := C.off.A bc :: R1.A a :: SlA (.slice Ao o.rx.length co) 5 1 o.rx.length (ints .u8 o.rx) :: Cells b5 45 o.cells :: F) (Sub.refl _) (fun w h => by rw [hRe]; exact (Sat.all (l := RW.parts a { R with up := false }) (Sat.cells_eq h (by simp [setL]))).p1) ?_
              refine WL.nil ?_
              refine WC.seq ?_
              first | refine WC.sub (Sub.refl _) hW8 ?_ | skip
              refine WC.region ?_
              refine WL.val (V.move (OV.p rfl)) rfl ?_
              refine WL.val (V.fieldAddr fo45_1 (OV.p rfl)) rfl ?_
              refine WL.val (V.load Try.isAgg3 (OV.p rfl) (fun _ => by repeat (first | exact Rd.here rfl | apply Rd.up))) rfl ?_
              refine WL.val (V.fieldAddr fo45_2 (OV.p rfl)) rfl ?_
              refine WL.val (V.load Try.isAgg3 (OV.p rfl) (fun _ => by repeat (first | exact Rd.here rfl | apply Rd.up))) rfl ?_
              refine WL.call (vs := [_, _, _]) Try.call19 ⟨OV.p rfl, OV.p rfl, OV.p rfl, trivial⟩ (chip_ReadA hC1 o.block o.page) rfl ?_
              rintro _ _ ⟨A8, m8, c8, l8, rfl, hq8, rfl⟩
              refine WL.val (V.move (OV.p rfl)) rfl ?_
              refine WL.val (V.extract (OV.p rfl) rfl) rfl ?_
              refine WL.val (V.extract (OV.p rfl) rfl) rfl ?_
              refine WL.val (V.assign (OV.p rfl)) rfl ?_
              refine WL.val (V.assign (OV.p rfl)) rfl ?_
              refine WL.nil ?_
              refine WC.seq ?_
              refine WC.region ?_
              refine WL.val (V.move (OV.p rfl)) rfl ?_
              refine WL.val (V.fieldAddr fo45_1 (OV.p rfl)) rfl ?_
              refine WL.val (V.load Try.isAgg3 (OV.p rfl) (fun _ => by repeat (first | exact Rd.here rfl | apply Rd.up))) rfl ?_
              refine WL.val (V.fieldAddr fo45_2 (OV.p rfl)) rfl ?_
              refine WL.val (V.load Try.isAgg3 (OV.p rfl) (fun _ => by repeat (first | exact Rd.here rfl | apply Rd.up))) rfl ?_
              refine WL.sub (Sub.refl _) (fun w h => h.sel 3 [2, 0, 1] rfl) ?_
              refine WL.call (vs := [_, _, _]) Try.call37 ⟨OV.p rfl, OV.p rfl, OV.p rfl, trivial⟩ (ref_ReadA hR1 hI1 (by rw [hC1.reads_len]; exact congrArg (fun g : Geo => g.raw.toNat) hI1.g.symm)) rfl ?_
              rintro _ _ ⟨A9, m9, c9, l9, rfl, hq9, rfl⟩
              refine WL.val (V.move (OV.p rfl)) rfl ?_
              refine WL.val (V.extract (OV.p rfl) rfl) rfl ?_
              refine WL.val (V.extract (OV.p rfl) rfl) rfl ?_
              refine WL.val (V.assign (OV.p rfl)) rfl ?_
              refine WL.val (V.assign (OV.p rfl)) rfl ?_
              refine WL.nil ?_
              refine WC.seq ?_
              refine WC.region ?_
              refine WL.val (V.move (OV.p rfl)) rfl ?_
              refine WL.val (V.move (OV.p rfl)) rfl ?_
              refine WL.val (V.eql (OV.p rfl) (OV.p rfl)) rfl ?_
              refine WL.val (V.move (OV.p rfl)) rfl ?_
              refine WL.valG (oj := _) rfl rfl rfl GC.t (V.move (OV.p rfl)) rfl ?_
              refine WL.valG (oj := _) rfl rfl rfl GC.t (V.bytesStr Try.underlying29 Try.underlying5 Try.underlying9 (OV.g rfl id) (fun _ => by repeat (first | exact SeqIn.seq hq8 | apply Seq.up))) rfl ?_
              refine WL.valG (oj := _) rfl rfl rfl GC.t (V.move (OV.p rfl)) rfl ?_
              refine WL.valG (oj := _) rfl rfl rfl GC.t (V.bytesStr Try.underlying29 Try.underlying5 Try.underlying9 (OV.g rfl id) (fun _ => by repeat (first | exact SeqIn.seq hq9 | apply Seq.up))) rfl ?_
              refine WL.valG (oj := _) rfl rfl rfl GC.t (V.eqlS (OV.g rfl id) (OV.g rfl id)) rfl ?_
              refine WL.val (V.pickAnd (OV.p rfl) (OV.g rfl id)) rfl ?_
              refine WL.val (V.assign (OV.p rfl)) rfl ?_
              refine WL.nil ?_
              refine WC.ret ?_
              exact BodyQ.ret (Res.tmp rfl (look_eq rfl (by simp))) (fun w h => h.sel 6 [3, 1] rfl) ⟨rfl, ⟨_, _, hC1, hR1, hI1, hM1, hg1, rfl⟩⟩
            · skip
              refine WC.seq ?_
              refine WC.region ?_
              refine WL.val (V.eql (OV.p rfl) (OV.p rfl)) rfl ?_
              refine WL.val (V.assign (OV.p rfl)) rfl ?_
              refine WL.nil ?_
              refine WC.cond rfl (fun hc6 => ?_) (fun hc6 => ?_)
              · skip
                refine WC.seq ?_
                refine WC.region ?_
                refine WL.val (V.move (OV.p rfl)) rfl ?_
                refine WL.val (V.fieldAddr fo45_3 (OV.p rfl)) rfl ?_
                refine WL.val (V.load Try.isAgg3 (OV.p rfl) (fun _ => by repeat (first | exact Rd.here rfl | apply Rd.up))) rfl ?_
                refine WL.val (V.fieldAddr fo45_2 (OV.p rfl)) rfl ?_
                refine WL.val (V.load Try.isAgg3 (OV.p rfl) (fun _ => by repeat (first | exact Rd.here rfl | apply Rd.up))) rfl ?_
                refine WL.call (vs := [_, _, _]) Try.call15 ⟨OV.p rfl, OV.p rfl, OV.p rfl, trivial⟩ (chip_Arm (C := C) o.n o.page) rfl ?_
                rintro v1 _ rfl
                have hC1 := hC.arm (keep := o.page) ho.n
                refine WL.nil ?_
                refine WC.region ?_
                refine WL.val (V.move (OV.p rfl)) rfl ?_
                refine WL.val (V.fieldAddr fo45_3 (OV.p rfl)) rfl ?_
                refine WL.val (V.load Try.isAgg3 (OV.p rfl) (fun _ => by repeat (first | exact Rd.here rfl | apply Rd.up))) rfl ?_
                refine WL.val (V.fieldAddr fo45_2 (OV.p rfl)) rfl ?_
                refine WL.val (V.load Try.isAgg3 (OV.p rfl) (fun _ => by repeat (first | exact Rd.here rfl | apply Rd.up))) rfl ?_
                refine WL.sub (Sub.refl _) (fun w h => h.p1) ?_
                refine WL.call (vs := [_, _, _]) Try.call72 ⟨OV.p rfl, OV.p rfl, OV.p rfl, trivial⟩ (ref_Arm hR hI o.n o.page ho.n) rfl ?_
                rintro v2 _ ⟨R1, hR1, hI1', rfl⟩
                have hI1 : R1.Is (C.arm o.n o.page).sem := hI1'
                have hM1 : (C.arm o.n o.page).sem.MarkIn := hM.same rfl rfl
                have hg1 : (C.arm o.n o.page).g = C.g := rfl
                refine WL.sub (Sub.refl _) (fun w h => h.p1) ?_
                refine WL.nil ?_
                refine WC.seq ?_
                first | refine WC.sub (Sub.refl _) hW8 ?_ | skip
                refine WC.region ?_
                refine WL.val (V.move (OV.p rfl)) rfl ?_
                refine WL.val (V.fieldAddr fo45_1 (OV.p rfl)) rfl ?_
                refine WL.val (V.load Try.isAgg3 (OV.p rfl) (fun _ => by repeat (first | exact Rd.here rfl | apply Rd.up))) rfl ?_
                refine WL.val (V.fieldAddr fo45_2 (OV.p rfl)) rfl ?_
                refine WL.val (V.load Try.isAgg3 (OV.p rfl) (fun _ => by repeat (first | exact Rd.here rfl | apply Rd.up))) rfl ?_
                refine WL.call (vs := [_, _, _]) Try.call19 ⟨OV.p rfl, OV.p rfl, OV.p rfl, trivial⟩ (chip_ReadA hC1 o.block o.page) rfl ?_
                rintro _ _ ⟨A8, m8, c8, l8, rfl, hq8, rfl⟩
                refine WL.val (V.move (OV.p rfl)) rfl ?_
                refine WL.val (V.extract (OV.p rfl) rfl) rfl ?_
                refine WL.val (V.extract (OV.p rfl) rfl) rfl ?_
                refine WL.val (V.assign (OV.p rfl)) rfl ?_
                refine WL.val (V.assign (OV.p rfl)) rfl ?_
                refine WL.nil ?_
                refine WC.seq ?_
                refine WC.region ?_
                refine WL.val (V.move (OV.p rfl)) rfl ?_
                refine WL.val (V.fieldAddr fo45_1 (OV.p rfl)) rfl ?_
                refine WL.val (V.load Try.isAgg3 (OV.p rfl) (fun _ => by repeat (first | exact Rd.here rfl | apply Rd.up))) rfl ?_
                refine WL.val (V.fieldAddr fo45_2 (OV.p rfl)) rfl ?_
                refine WL.val (V.load Try.isAgg3 (OV.p rfl) (fun _ => by repeat (first | exact Rd.here rfl | apply Rd.up))) rfl ?_
                refine WL.sub (Sub.refl _) (fun w h => h.sel 3 [2, 0, 1] rfl) ?_
                refine WL.call (vs := [_, _, _]) Try.call37 ⟨OV.p rfl, OV.p rfl, OV.p rfl, trivial⟩ (ref_ReadA hR1 hI1 (by rw [hC1.reads_len]; exact congrArg (fun g : Geo => g.raw.toNat) hI1.g.symm)) rfl ?_
                rintro _ _ ⟨A9, m9, c9, l9, rfl, hq9, rfl⟩
                refine WL.val (V.move (OV.p rfl)) rfl ?_
                refine WL.val (V.extract (OV.p rfl) rfl) rfl ?_
                refine WL.val (V.extract (OV.p rfl) rfl) rfl ?_
                refine WL.val (V.assign (OV.p rfl)) rfl ?_
                refine WL.val (V.assign (OV.p rfl)) rfl ?_
                refine WL.nil ?_
                refine WC.seq ?_
                refine WC.region ?_
                refine WL.val (V.move (OV.p rfl)) rfl ?_
                refine WL.val (V.move (OV.p rfl)) rfl ?_
                refine WL.val (V.eql (OV.p rfl) (OV.p rfl)) rfl ?_
                refine WL.val (V.move (OV.p rfl)) rfl ?_
                refine WL.valG (oj := _) rfl rfl rfl GC.t (V.move (OV.p rfl)) rfl ?_
                refine WL.valG (oj := _) rfl rfl rfl GC.t (V.bytesStr Try.underlying29 Try.underlying5 Try.underlying9 (OV.g rfl id) (fun _ => by repeat (first | exact SeqIn.seq hq8 | apply Seq.up))) rfl ?_
                refine WL.valG (oj := _) rfl rfl rfl GC.t (V.move (OV.p rfl)) rfl ?_
                refine WL.valG (oj := _) rfl rfl rfl GC.t (V.bytesStr Try.underlying29 Try.underlying5 Try.underlying9 (OV.g rfl id) (fun _ => by repeat (first | exact SeqIn.seq hq9 | apply Seq.up))) rfl ?_
                refine WL.valG (oj := _) rfl rfl rfl GC.t (V.eqlS (OV.g rfl id) (OV.g rfl id)) rfl ?_
                refine WL.val (V.pickAnd (OV.p rfl) (OV.g rfl id)) rfl ?_
                refine WL.val (V.assign (OV.p rfl)) rfl ?_
                refine WL.nil ?_
                refine WC.ret ?_
                exact BodyQ.ret (Res.tmp rfl (look_eq rfl (by simp))) (fun w h => h.sel 6 [3, 1] rfl) ⟨rfl, ⟨_, _, hC1, hR1, hI1, hM1, hg1, rfl⟩⟩
              · skip
                refine WC.seq ?_
                refine WC.region ?_
                refine WL.val (V.eql (OV.p rfl) (OV.p rfl)) rfl ?_
                refine WL.val (V.assign (OV.p rfl)) rfl ?_
                refine WL.nil ?_
                refine WC.cond rfl (fun hc7 => ?_) (fun hc7 => ?_)
                · skip
                  refine WC.seq ?_
                  refine WC.region ?_
                  refine WL.val (V.move (OV.p rfl)) rfl ?_
                  refine WL.val (V.fieldAddr fo45_1 (OV.p rfl)) rfl ?_
                  refine WL.val (V.load Try.isAgg3 (OV.p rfl) (fun _ => by repeat (first | exact Rd.here rfl | apply Rd.up))) rfl ?_
                  refine WL.call (vs := [_, _]) Try.call26 ⟨OV.p rfl, OV.p rfl, trivial⟩ (chip_Weak (C := C) o.block) rfl ?_
                  rintro v1 _ rfl
                  obtain ⟨C1, hCe⟩ : ∃ D, D = (if C.sem.block o.block then C.weaken o.block else C) := ⟨_, rfl⟩
                  rw [← hCe]
                  have hC1 : C1.Ok := by rw [hCe]; exact ite_Ok hC.weaken hC
                  have s1 : C1.sem = C.sem.weaken o.block := by rw [hCe]; unfold Chip.weaken; cases hbk : C.sem.block o.block <;> rfl
                  have hM1 : C1.sem.MarkIn := by rw [s1]; exact hM.same (Chip.weaken_mg _ _).1 (Chip.weaken_mg _ _).2
                  have hg1 : C1.g = C.g := Cw.g_of s1 (Chip.weaken_mg _ _).2
                  refine WL.nil ?_
                  refine WC.seq ?_
                  refine WC.regionQ (by kernel_rfl) (by kernel_rfl) ?_
                  refine WQ.val (V.fieldAddr fo45_1 (OV.p rfl)) rfl ?_
                  refine WQ.val (V.load Try.isAgg3 (OV.p rfl) (fun _ => by repeat (first | exact Rd.here rfl | apply Rd.up))) rfl ?_
                  refine WQ.val (V.geq (OV.p rfl) (OV.p rfl)) rfl ?_
                  refine WQ.val (V.move (OV.p rfl)) rfl ?_
                  refine WQ.valG (oj := _) rfl rfl rfl GC.t (V.fieldAddr fo45_1 (OV.p rfl)) rfl ?_
                  refine WQ.valG (oj := _) rfl rfl rfl GC.t (V.load Try.isAgg3 (OV.g rfl id) (fun _ => by repeat (first | exact Rd.here rfl | apply Rd.up))) rfl ?_
                  refine WQ.valG (oj := _) rfl rfl rfl GC.t (V.move (OV.p rfl)) rfl ?_
                  refine WQ.valG (oj := _) rfl rfl rfl GC.t (V.nilCheck (OV.g rfl id)) rfl ?_
                  refine WQ.valG (oj := _) rfl rfl rfl GC.t (V.fieldAddr fo68_0 (OV.g rfl id)) rfl ?_
                  refine WQ.valG (oj := _) rfl rfl rfl GC.t (V.fieldAddr fo23_0 (OV.g rfl id)) rfl ?_
                  refine WQ.valG (oj := _) rfl rfl rfl GC.t (V.load Try.isAgg3 (OV.g rfl id) (fun _ => Rd.up (RW.rds 0 _ rfl))) rfl ?_
                  refine WQ.valG (oj := _) rfl rfl rfl GC.t (V.lss (OV.g rfl id) (OV.g rfl id)) rfl ?_
                  refine WQ.val (V.pickAnd (OV.p rfl) (OV.g rfl id)) rfl ?_
                  refine WQ.nil ?_
                  refine WC.cond rfl (fun hc8 => ?_) (fun hc8 => ?_)
                  · skip
                    have h8 := hc8
                    simp only [Bool.and_eq_true, decide_eq_true_eq] at h8
                    obtain ⟨bn, hbn⟩ : ∃ bn : Nat, o.block = (bn : Int) := ⟨o.block.toNat, by omega⟩
                    have hlen := hI.len
                    rw [← hI.g] at hlen
                    have hbl : bn < R.blocks.length := by omega
                    obtain ⟨x, hxb⟩ : ∃ x, R.blocks[bn]? = some x := ⟨_, List.getElem?_eq_getElem hbl⟩
                    obtain ⟨R1, hRe⟩ : ∃ D : RW, D = R.setB bn { x with fails := true } R.own := ⟨_, rfl⟩
                    have hR1 : R1.Ok := by rw [hRe]; exact hR.setX (x := x) (x' := { x with fails := true }) hxb rfl (hR.next x (List.mem_of_getElem? hxb))
                    have hI1 : R1.Is C1.sem := by
                      have hb := hI.blk bn x hxb
                      have hbk : C.sem.block o.block = true := by unfold Chip.block; rw [← hI.g]; simp; exact h8
                      rw [hRe, s1]
                      unfold Chip.weaken
                      rw [if_pos hbk]
                      refine hI.setB (x := x) hxb rfl rfl rfl rfl rfl rfl (fun k z hk hz hb => hb.congr rfl rfl rfl (if_neg (fun e => hk (by omega))) (fun q => ⟨rfl, rfl⟩)) ?_
                      exact ⟨hb.next, hb.bad, (if_pos hbn.symm).symm, hb.len, fun q y hq => ⟨(hb.pg q y hq).raw, (hb.pg q y hq).wrong⟩⟩
                    refine WC.sub (H' := Cells R.bb 103 (R.blocks.flatMap RBlock.cells ++ R.rest) :: Cells a 68 R.cells :: AllA R.rows :: AllA R.own :: C1.A bc :: SlA (.slice Ao o.rx.length co) 5 1 o.rx.length (ints .u8 o.rx) :: Cells b5 45 o.cells :: F) (Sub.refl _) (fun w h => (Sat.unall (l := R.parts a) h.p1).p1) ?_
                    have hW8 : ∀ w, Sat K w (Cells R.bb 103 ((R.blocks.flatMap RBlock.cells ++ R.rest).set (0 + o.block.toNat * 4 + 3) (.bool true)) :: Cells a 68 R.cells :: AllA R.rows :: AllA R.own :: C1.A bc :: SlA (.slice Ao o.rx.length co) 5 1 o.rx.length (ints .u8 o.rx) :: Cells b5 45 o.cells :: F) → Sat K w (C1.A bc :: R1.A a :: SlA (.slice Ao o.rx.length co) 5 1 o.rx.length (ints .u8 o.rx) :: Cells b5 45 o.cells :: F) := fun w h => by
                      rw [show 0 + o.block.toNat * 4 + 3 = bn * 4 + 3 by omega] at h
                      rw [hRe]
                      exact (RW.foldX (R := R) (x := x) (x' := { x with fails := true }) (v := .bool true) (i := 3) hxb (by decide) rfl rfl h.p1).p1
                    refine WC.regionA (Cells a 68 R.cells :: AllA R.rows :: AllA R.own :: C1.A bc :: SlA (.slice Ao o.rx.length co) 5 1 o.rx.length (ints .u8 o.rx) :: Cells b5 45 o.cells :: F) (by kernel_rfl) ?_
                    refine WA.take 0 (fun w h => by repeat (first | exact h | replace h := h.tail)) rfl (by kernel_rfl) (by kernel_rfl) (by kernel_rfl) (fun _ _ _ h => h) (V.move (OV.p rfl)) rfl ?_
                    refine WA.take 1 (fun w h => by repeat (first | exact h | replace h := h.tail)) rfl (by kernel_rfl) (by kernel_rfl) (by kernel_rfl) (fun _ _ _ h => h) (V.nilCheck (OV.p rfl)) rfl ?_
                    refine WA.take 2 (fun w h => by repeat (first | exact h | replace h := h.tail)) rfl (by kernel_rfl) (by kernel_rfl) (by kernel_rfl) (fun _ _ _ h => h) (V.fieldAddr fo68_1 (OV.p rfl)) rfl ?_
                    refine WA.take 3 (fun w h => by repeat (first | exact h | replace h := h.tail)) rfl (by kernel_rfl) (by kernel_rfl) (by kernel_rfl) (fun _ _ _ h => h) (V.load Try.isAgg66 (OV.p rfl) (fun _ => by repeat (first | exact Rd.here rfl | apply Rd.up))) rfl ?_
                    refine WA.take 4 (fun w h => by repeat (first | exact h | replace h := h.tail)) rfl (by kernel_rfl) (by kernel_rfl) (by kernel_rfl) (fun _ _ _ h => h) (V.fieldAddr fo45_1 (OV.p rfl)) rfl ?_
                    refine WA.take 5 (fun w h => by repeat (first | exact h | replace h := h.tail)) rfl (by kernel_rfl) (by kernel_rfl) (by kernel_rfl) (fun _ _ _ h => h) (V.load Try.isAgg3 (OV.p rfl) (fun _ => by repeat (first | exact Rd.here rfl | apply Rd.up))) rfl ?_
                    refine WA.take 6 (fun w h => by repeat (first | exact h | replace h := h.tail)) rfl (by kernel_rfl) (by kernel_rfl) (by kernel_rfl) (fun _ _ _ h => h) (V.idxB st66 (OV.p rfl) (OV.p rfl) (fun hc => by omega)) rfl ?_
                    refine WA.take 7 (fun w h => by repeat (first | exact h | replace h := h.tail)) rfl (by kernel_rfl) (by kernel_rfl) (by kernel_rfl) (fun _ _ _ h => h) (V.fieldAddr fo103_3 (OV.p rfl)) rfl ?_
                    refine WA.one (i := 8) (fun w h => by repeat (first | exact h | replace h := h.tail)) (by kernel_rfl) rfl ?_
                    refine WL.store (cs := [_]) Try.sizeOf4 (OV.p rfl) (OV.p rfl) rfl rfl rfl (Upd.at_ (by
                      have h1 : (bn + 1) * 4 ≤ R.blocks.length * 4 := Nat.mul_le_mul_right _ hbl
                      rw [List.length_append, flat_length rcells_len]; show 0 + o.block.toNat * 4 + 3 < _; omega)) ?_
                    refine WL.nil ?_
                    refine WA.done (by kernel_rfl) (fun w h => by repeat (first | exact h | replace h := h.tail)) ?_
                    refine WC.seq ?_
                    first | refine WC.sub (Sub.refl _) hW8 ?_ | skip
                    refine WC.region ?_
                    refine WL.val (V.move (OV.p rfl)) rfl ?_
                    refine WL.val (V.fieldAddr fo45_1 (OV.p rfl)) rfl ?_
                    refine WL.val (V.load Try.isAgg3 (OV.p rfl) (fun _ => by repeat (first | exact Rd.here rfl | apply Rd.up))) rfl ?_
                    refine WL.val (V.fieldAddr fo45_2 (OV.p rfl)) rfl ?_
                    refine WL.val (V.load Try.isAgg3 (OV.p rfl) (fun _ => by repeat (first | exact Rd.here rfl | apply Rd.up))) rfl ?_
                    refine WL.call (vs := [_, _, _]) Try.call19 ⟨OV.p rfl, OV.p rfl, OV.p rfl, trivial⟩ (chip_ReadA hC1 o.block o.page) rfl ?_
                    rintro _ _ ⟨A8, m8, c8, l8, rfl, hq8, rfl⟩
                    refine WL.val (V.move (OV.p rfl)) rfl ?_
                    refine WL.val (V.extract (OV.p rfl) rfl) rfl ?_
                    refine WL.val (V.extract (OV.p rfl) rfl) rfl ?_
                    refine WL.val (V.assign (OV.p rfl)) rfl ?_
                    refine WL.val (V.assign (OV.p rfl)) rfl ?_
                    refine WL.nil ?_
                    refine WC.seq ?_
                    refine WC.region ?_
                    refine WL.val (V.move (OV.p rfl)) rfl ?_
                    refine WL.val (V.fieldAddr fo45_1 (OV.p rfl)) rfl ?_
                    refine WL.val (V.load Try.isAgg3 (OV.p rfl) (fun _ => by repeat (first | exact Rd.here rfl | apply Rd.up))) rfl ?_
                    refine WL.val (V.fieldAddr fo45_2 (OV.p rfl)) rfl ?_
                    refine WL.val (V.load Try.isAgg3 (OV.p rfl) (fun _ => by repeat (first | exact Rd.here rfl | apply Rd.up))) rfl ?_
                    refine WL.sub (Sub.refl _) (fun w h => h.sel 3 [2, 0, 1] rfl) ?_
                    refine WL.call (vs := [_, _, _]) Try.call37 ⟨OV.p rfl, OV.p rfl, OV.p rfl, trivial⟩ (ref_ReadA hR1 hI1 (by rw [hC1.reads_len]; exact congrArg (fun g : Geo => g.raw.toNat) hI1.g.symm)) rfl ?_
                    rintro _ _ ⟨A9, m9, c9, l9, rfl, hq9, rfl⟩
                    refine WL.val (V.move (OV.p rfl)) rfl ?_
                    refine WL.val (V.extract (OV.p rfl) rfl) rfl ?_
                    refine WL.val (V.extract (OV.p rfl) rfl) rfl ?_
                    refine WL.val (V.assign (OV.p rfl)) rfl ?_
                    refine WL.val (V.assign (OV.p rfl)) rfl ?_
                    refine WL.nil ?_
                    refine WC.seq ?_
                    refine WC.region ?_
                    refine WL.val (V.move (OV.p rfl)) rfl ?_
                    refine WL.val (V.move (OV.p rfl)) rfl ?_
                    refine WL.val (V.eql (OV.p rfl) (OV.p rfl)) rfl ?_
                    refine WL.val (V.move (OV.p rfl)) rfl ?_
                    refine WL.valG (oj := _) rfl rfl rfl GC.t (V.move (OV.p rfl)) rfl ?_
                    refine WL.valG (oj := _) rfl rfl rfl GC.t (V.bytesStr Try.underlying29 Try.underlying5 Try.underlying9 (OV.g rfl id) (fun _ => by repeat (first | exact SeqIn.seq hq8 | apply Seq.up))) rfl ?_
                    refine WL.valG (oj := _) rfl rfl rfl GC.t (V.move (OV.p rfl)) rfl ?_
                    refine WL.valG (oj := _) rfl rfl rfl GC.t (V.bytesStr Try.underlying29 Try.underlying5 Try.underlying9 (OV.g rfl id) (fun _ => by repeat (first | exact SeqIn.seq hq9 | apply Seq.up))) rfl ?_
                    refine WL.valG (oj := _) rfl rfl rfl GC.t (V.eqlS (OV.g rfl id) (OV.g rfl id)) rfl ?_
                    refine WL.val (V.pickAnd (OV.p rfl) (OV.g rfl id)) rfl ?_
                    refine WL.val (V.assign (OV.p rfl)) rfl ?_
                    refine WL.nil ?_
                    refine WC.ret ?_
                    exact BodyQ.ret (Res.tmp rfl (look_eq rfl (by simp))) (fun w h => h.sel 6 [3, 1] rfl) ⟨rfl, ⟨_, _, hC1, hR1, hI1, hM1, hg1, rfl⟩⟩
                  · skip
                    have h8 := hc8
                    have hbk : C.sem.block o.block = false := by unfold Chip.block; rw [← hI.g]; exact h8
                    have hR1 := hR
                    have hI1 : R.Is C1.sem := by rw [s1]; unfold Chip.weaken; rw [if_neg (by rw [hbk]; decide)]; exact hI
                    refine WC.skip ?_
                    refine WC.seq ?_
                    first | refine WC.sub (Sub.refl _) hW8 ?_ | skip
                    refine WC.region ?_
                    refine WL.val (V.move (OV.p rfl)) rfl ?_
                    refine WL.val (V.fieldAddr fo45_1 (OV.p rfl)) rfl ?_
                    refine WL.val (V.load Try.isAgg3 (OV.p rfl) (fun _ => by repeat (first | exact Rd.here rfl | apply Rd.up))) rfl ?_
                    refine WL.val (V.fieldAddr fo45_2 (OV.p rfl)) rfl ?_
                    refine WL.val (V.load Try.isAgg3 (OV.p rfl) (fun _ => by repeat (first | exact Rd.here rfl | apply Rd.up))) rfl ?_
                    refine WL.call (vs := [_, _, _]) Try.call19 ⟨OV.p rfl, OV.p rfl, OV.p rfl, trivial⟩ (chip_ReadA hC1 o.block o.page) rfl ?_
                    rintro _ _ ⟨A8, m8, c8, l8, rfl, hq8, rfl⟩
                    refine WL.val (V.move (OV.p rfl)) rfl ?_
                    refine WL.val (V.extract (OV.p rfl) rfl) rfl ?_
                    refine WL.val (V.extract (OV.p rfl) rfl) rfl ?_
                    refine WL.val (V.assign (OV.p rfl)) rfl ?_
                    refine WL.val (V.assign (OV.p rfl)) rfl ?_
                    refine WL.nil ?_
                    refine WC.seq ?_
                    refine WC.region ?_
                    refine WL.val (V.move (OV.p rfl)) rfl ?_
                    refine WL.val (V.fieldAddr fo45_1 (OV.p rfl)) rfl ?_
                    refine WL.val (V.load Try.isAgg3 (OV.p rfl) (fun _ => by repeat (first | exact Rd.here rfl | apply Rd.up))) rfl ?_
                    refine WL.val (V.fieldAddr fo45_2 (OV.p rfl)) rfl ?_
                    refine WL.val (V.load Try.isAgg3 (OV.p rfl) (fun _ => by repeat (first | exact Rd.here rfl | apply Rd.up))) rfl ?_
                    refine WL.sub (Sub.refl _) (fun w h => h.sel 3 [2, 0, 1] rfl) ?_
                    refine WL.call (vs := [_, _, _]) Try.call37 ⟨OV.p rfl, OV.p rfl, OV.p rfl, trivial⟩ (ref_ReadA hR1 hI1 (by rw [hC1.reads_len]; exact congrArg (fun g : Geo => g.raw.toNat) hI1.g.symm)) rfl ?_
                    rintro _ _ ⟨A9, m9, c9, l9, rfl, hq9, rfl⟩
                    refine WL.val (V.move (OV.p rfl)) rfl ?_
                    refine WL.val (V.extract (OV.p rfl) rfl) rfl ?_
                    refine WL.val (V.extract (OV.p rfl) rfl) rfl ?_
                    refine WL.val (V.assign (OV.p rfl)) rfl ?_
                    refine WL.val (V.assign (OV.p rfl)) rfl ?_
                    refine WL.nil ?_
                    refine WC.seq ?_
                    refine WC.region ?_
                    refine WL.val (V.move (OV.p rfl)) rfl ?_
                    refine WL.val (V.move (OV.p rfl)) rfl ?_
                    refine WL.val (V.eql (OV.p rfl) (OV.p rfl)) rfl ?_
                    refine WL.val (V.move (OV.p rfl)) rfl ?_
                    refine WL.valG (oj := _) rfl rfl rfl GC.t (V.move (OV.p rfl)) rfl ?_
                    refine WL.valG (oj := _) rfl rfl rfl GC.t (V.bytesStr Try.underlying29 Try.underlying5 Try.underlying9 (OV.g rfl id) (fun _ => by repeat (first | exact SeqIn.seq hq8 | apply Seq.up))) rfl ?_
                    refine WL.valG (oj := _) rfl rfl rfl GC.t (V.move (OV.p rfl)) rfl ?_
                    refine WL.valG (oj := _) rfl rfl rfl GC.t (V.bytesStr Try.underlying29 Try.underlying5 Try.underlying9 (OV.g rfl id) (fun _ => by repeat (first | exact SeqIn.seq hq9 | apply Seq.up))) rfl ?_
                    refine WL.valG (oj := _) rfl rfl rfl GC.t (V.eqlS (OV.g rfl id) (OV.g rfl id)) rfl ?_
                    refine WL.val (V.pickAnd (OV.p rfl) (OV.g rfl id)) rfl ?_
                    refine WL.val (V.assign (OV.p rfl)) rfl ?_
                    refine WL.nil ?_
                    refine WC.ret ?_
                    exact BodyQ.ret (Res.tmp rfl (look_eq rfl (by simp))) (fun w h => h.sel 6 [3, 1] rfl) ⟨rfl, ⟨_, _, hC1, hR1, hI1, hM1, hg1, rfl⟩⟩
                · skip
                  refine WC.seq ?_
                  refine WC.region ?_
                  refine WL.val (V.eql (OV.p rfl) (OV.p rfl)) rfl ?_
                  refine WL.val (V.assign (OV.p rfl)) rfl ?_
                  refine WL.nil ?_
                  refine WC.cond rfl (fun hc9 => ?_) (fun hc9 => ?_)
                  · skip
                    refine WC.seq ?_
                    refine WC.region ?_
                    refine WL.val (V.move (OV.p rfl)) rfl ?_
                    refine WL.val (V.fieldAddr fo45_1 (OV.p rfl)) rfl ?_
                    refine WL.val (V.load Try.isAgg3 (OV.p rfl) (fun _ => by repeat (first | exact Rd.here rfl | apply Rd.up))) rfl ?_
                    refine WL.val (V.fieldAddr fo45_2 (OV.p rfl)) rfl ?_
                    refine WL.val (V.load Try.isAgg3 (OV.p rfl) (fun _ => by repeat (first | exact Rd.here rfl | apply Rd.up))) rfl ?_
                    refine WL.val (V.fieldAddr fo45_5 (OV.p rfl)) rfl ?_
                    refine WL.val (V.load Try.isAgg40 (OV.p rfl) (fun _ => by repeat (first | exact Rd.here rfl | apply Rd.up))) rfl ?_
                    refine WL.call (vs := [_, _, _, _]) Try.call33 ⟨OV.p rfl, OV.p rfl, OV.p rfl, OV.p rfl, trivial⟩ (chip_Flip hC o.block o.page (by repeat (first | exact ho.places | apply Seq.up)) (by omega)) rfl ?_
                    rintro v1 _ ⟨C1, hC1, rfl, s1⟩
                    refine WL.nil ?_
                    refine WC.region ?_
                    refine WL.val (V.move (OV.p rfl)) rfl ?_
                    refine WL.val (V.fieldAddr fo45_1 (OV.p rfl)) rfl ?_
                    refine WL.val (V.load Try.isAgg3 (OV.p rfl) (fun _ => by repeat (first | exact Rd.here rfl | apply Rd.up))) rfl ?_
                    refine WL.val (V.fieldAddr fo45_2 (OV.p rfl)) rfl ?_
                    refine WL.val (V.load Try.isAgg3 (OV.p rfl) (fun _ => by repeat (first | exact Rd.here rfl | apply Rd.up))) rfl ?_
                    refine WL.val (V.fieldAddr fo45_5 (OV.p rfl)) rfl ?_
                    refine WL.val (V.load Try.isAgg40 (OV.p rfl) (fun _ => by repeat (first | exact Rd.here rfl | apply Rd.up))) rfl ?_
                    refine WL.sub (Sub.refl _) (fun w h => h.p1) ?_
                    refine WL.call (vs := [_, _, _, _]) Try.call73 ⟨OV.p rfl, OV.p rfl, OV.p rfl, OV.p rfl, trivial⟩ (ref_Flip hR hI o.block o.page (by repeat (first | exact ho.places | apply Seq.up)) (by omega)) rfl ?_
                    rintro v2 _ ⟨R1, hR1, hI1', rfl⟩
                    have hI1 : R1.Is C1.sem := by rw [s1]; exact hI1'
                    have hM1 : C1.sem.MarkIn := by rw [s1]; exact hM.same (Chip.flip_mg _ _ _ _).1 (Chip.flip_mg _ _ _ _).2
                    have hg1 : C1.g = C.g := Cw.g_of s1 (Chip.flip_mg _ _ _ _).2
                    refine WL.sub (Sub.refl _) (fun w h => h.p1) ?_
                    refine WL.nil ?_
                    refine WC.seq ?_
                    first | refine WC.sub (Sub.refl _) hW8 ?_ | skip
                    refine WC.region ?_
                    refine WL.val (V.move (OV.p rfl)) rfl ?_
                    refine WL.val (V.fieldAddr fo45_1 (OV.p rfl)) rfl ?_
                    refine WL.val (V.load Try.isAgg3 (OV.p rfl) (fun _ => by repeat (first | exact Rd.here rfl | apply Rd.up))) rfl ?_
                    refine WL.val (V.fieldAddr fo45_2 (OV.p rfl)) rfl ?_
                    refine WL.val (V.load Try.isAgg3 (OV.p rfl) (fun _ => by repeat (first | exact Rd.here rfl | apply Rd.up))) rfl ?_
                    refine WL.call (vs := [_, _, _]) Try.call19 ⟨OV.p rfl, OV.p rfl, OV.p rfl, trivial⟩ (chip_ReadA hC1 o.block o.page) rfl ?_
                    rintro _ _ ⟨A8, m8, c8, l8, rfl, hq8, rfl⟩
                    refine WL.val (V.move (OV.p rfl)) rfl ?_
                    refine WL.val (V.extract (OV.p rfl) rfl) rfl ?_
                    refine WL.val (V.extract (OV.p rfl) rfl) rfl ?_
                    refine WL.val (V.assign (OV.p rfl)) rfl ?_
                    refine WL.val (V.assign (OV.p rfl)) rfl ?_
                    refine WL.nil ?_
                    refine WC.seq ?_
                    refine WC.region ?_
                    refine WL.val (V.move (OV.p rfl)) rfl ?_
                    refine WL.val (V.fieldAddr fo45_1 (OV.p rfl)) rfl ?_
                    refine WL.val (V.load Try.isAgg3 (OV.p rfl) (fun _ => by repeat (first | exact Rd.here rfl | apply Rd.up))) rfl ?_
                    refine WL.val (V.fieldAddr fo45_2 (OV.p rfl)) rfl ?_
                    refine WL.val (V.load Try.isAgg3 (OV.p rfl) (fun _ => by repeat (first | exact Rd.here rfl | apply Rd.up))) rfl ?_
                    refine WL.sub (Sub.refl _) (fun w h => h.sel 3 [2, 0, 1] rfl) ?_
                    refine WL.call (vs := [_, _, _]) Try.call37 ⟨OV.p rfl, OV.p rfl, OV.p rfl, trivial⟩ (ref_ReadA hR1 hI1 (by rw [hC1.reads_len]; exact congrArg (fun g : Geo => g.raw.toNat) hI1.g.symm)) rfl ?_
                    rintro _ _ ⟨A9, m9, c9, l9, rfl, hq9, rfl⟩
                    refine WL.val (V.move (OV.p rfl)) rfl ?_
                    refine WL.val (V.extract (OV.p rfl) rfl) rfl ?_
                    refine WL.val (V.extract (OV.p rfl) rfl) rfl ?_
                    refine WL.val (V.assign (OV.p rfl)) rfl ?_
                    refine WL.val (V.assign (OV.p rfl)) rfl ?_
                    refine WL.nil ?_
                    refine WC.seq ?_
                    refine WC.region ?_
                    refine WL.val (V.move (OV.p rfl)) rfl ?_
                    refine WL.val (V.move (OV.p rfl)) rfl ?_
                    refine WL.val (V.eql (OV.p rfl) (OV.p rfl)) rfl ?_
                    refine WL.val (V.move (OV.p rfl)) rfl ?_
                    refine WL.valG (oj := _) rfl rfl rfl GC.t (V.move (OV.p rfl)) rfl ?_
                    refine WL.valG (oj := _) rfl rfl rfl GC.t (V.bytesStr Try.underlying29 Try.underlying5 Try.underlying9 (OV.g rfl id) (fun _ => by repeat (first | exact SeqIn.seq hq8 | apply Seq.up))) rfl ?_
                    refine WL.valG (oj := _) rfl rfl rfl GC.t (V.move (OV.p rfl)) rfl ?_
                    refine WL.valG (oj := _) rfl rfl rfl GC.t (V.bytesStr Try.underlying29 Try.underlying5 Try.underlying9 (OV.g rfl id) (fun _ => by repeat (first | exact SeqIn.seq hq9 | apply Seq.up))) rfl ?_
                    refine WL.valG (oj := _) rfl rfl rfl GC.t (V.eqlS (OV.g rfl id) (OV.g rfl id)) rfl ?_
                    refine WL.val (V.pickAnd (OV.p rfl) (OV.g rfl id)) rfl ?_
                    refine WL.val (V.assign (OV.p rfl)) rfl ?_
                    refine WL.nil ?_
                    refine WC.ret ?_
                    exact BodyQ.ret (Res.tmp rfl (look_eq rfl (by simp))) (fun w h => h.sel 6 [3, 1] rfl) ⟨rfl, ⟨_, _, hC1, hR1, hI1, hM1, hg1, rfl⟩⟩
                  · skip
                    refine WC.seq ?_
                    refine WC.region ?_
                    refine WL.val (V.eql (OV.p rfl) (OV.p rfl)) rfl ?_
                    refine WL.val (V.assign (OV.p rfl)) rfl ?_
                    refine WL.nil ?_
                    refine WC.cond rfl (fun hc10 => ?_) (fun hc10 => ?_)
                    · skip
                      refine WC.seq ?_
                      refine WC.regionA (SlA (.slice Ao o.rx.length co) 5 1 o.rx.length (ints .u8 o.rx) :: Cells b5 45 o.cells :: F) (by kernel_rfl) ?_
                      refine WA.take 0 (fun w h => by repeat (first | exact h | replace h := h.tail)) rfl (by kernel_rfl) (by kernel_rfl) (by kernel_rfl) (fun _ _ _ h => h) (V.move (OV.p rfl)) rfl ?_
                      refine WA.take 1 (fun w h => by repeat (first | exact h | replace h := h.tail)) rfl (by kernel_rfl) (by kernel_rfl) (by kernel_rfl) (fun _ _ _ h => h) (V.fieldAddr fo45_1 (OV.p rfl)) rfl ?_
                      refine WA.take 2 (fun w h => by repeat (first | exact h | replace h := h.tail)) rfl (by kernel_rfl) (by kernel_rfl) (by kernel_rfl) (fun _ _ _ h => h) (V.load Try.isAgg3 (OV.p rfl) (fun _ => by repeat (first | exact Rd.here rfl | apply Rd.up))) rfl ?_
                      refine WA.take 3 (fun w h => by repeat (first | exact h | replace h := h.tail)) rfl (by kernel_rfl) (by kernel_rfl) (by kernel_rfl) (fun _ _ _ h => h) (V.fieldAddr fo45_2 (OV.p rfl)) rfl ?_
                      refine WA.take 4 (fun w h => by repeat (first | exact h | replace h := h.tail)) rfl (by kernel_rfl) (by kernel_rfl) (by kernel_rfl) (fun _ _ _ h => h) (V.load Try.isAgg3 (OV.p rfl) (fun _ => by repeat (first | exact Rd.here rfl | apply Rd.up))) rfl ?_
                      refine WA.take 5 (fun w h => by repeat (first | exact h | replace h := h.tail)) rfl (by kernel_rfl) (by kernel_rfl) (by kernel_rfl) (fun _ _ _ h => h) (V.move (OV.p rfl)) rfl ?_
                      refine WA.take 7 (fun w h => by repeat (first | exact h | replace h := h.tail)) rfl (by kernel_rfl) (by kernel_rfl) (by kernel_rfl) (fun _ _ _ h => h) (V.move (OV.p rfl)) rfl ?_
                      refine WA.take 8 (fun w h => by repeat (first | exact h | replace h := h.tail)) rfl (by kernel_rfl) (by kernel_rfl) (by kernel_rfl) (fun _ _ _ h => h) (V.fieldAddr fo45_1 (OV.p rfl)) rfl ?_
                      refine WA.take 9 (fun w h => by repeat (first | exact h | replace h := h.tail)) rfl (by kernel_rfl) (by kernel_rfl) (by kernel_rfl) (fun _ _ _ h => h) (V.load Try.isAgg3 (OV.p rfl) (fun _ => by repeat (first | exact Rd.here rfl | apply Rd.up))) rfl ?_
                      refine WA.take 10 (fun w h => by repeat (first | exact h | replace h := h.tail)) rfl (by kernel_rfl) (by kernel_rfl) (by kernel_rfl) (fun _ _ _ h => h) (V.fieldAddr fo45_2 (OV.p rfl)) rfl ?_
                      refine WA.take 11 (fun w h => by repeat (first | exact h | replace h := h.tail)) rfl (by kernel_rfl) (by kernel_rfl) (by kernel_rfl) (fun _ _ _ h => h) (V.load Try.isAgg3 (OV.p rfl) (fun _ => by repeat (first | exact Rd.here rfl | apply Rd.up))) rfl ?_
                      refine WA.take 12 (fun w h => by repeat (first | exact h | replace h := h.tail)) rfl (by kernel_rfl) (by kernel_rfl) (by kernel_rfl) (fun _ _ _ h => h) (V.fieldAddr fo45_4 (OV.p rfl)) rfl ?_
                      refine WA.take 13 (fun w h => by repeat (first | exact h | replace h := h.tail)) rfl (by kernel_rfl) (by kernel_rfl) (by kernel_rfl) (fun _ _ _ h => h) (V.load Try.isAgg29 (OV.p rfl) (fun _ => by repeat (first | exact Rd.here rfl | apply Rd.up))) rfl ?_
                      refine WA.one (i := 6) (fun w h => by repeat (first | exact h | replace h := h.tail)) (by kernel_rfl) rfl ?_
                      refine WL.call (vs := [_, _, _, _]) Try.call27 ⟨OV.p rfl, OV.p rfl, OV.p rfl, OV.p rfl, trivial⟩ (chip_Force hC o.block o.page ho.rb (by repeat (first | exact SlA.seq (by simp [ints]) | apply Seq.up))) rfl ?_
                      rintro v1 _ ⟨C1, hC1, rfl, s1, rfl⟩
                      refine WL.nil ?_
                      refine WA.one (i := 14) (fun w h => by repeat (first | exact h | replace h := h.tail)) (by kernel_rfl) rfl ?_
                      refine WL.sub (Sub.refl _) (fun w h => h.p1) ?_
                      refine WL.call (vs := [_, _, _, _]) Try.call74 ⟨OV.p rfl, OV.p rfl, OV.p rfl, OV.p rfl, trivial⟩ (ref_Force hR hI o.block o.page ho.rb (by repeat (first | exact ho.raw | apply Seq.up)) (by omega)) rfl ?_
                      rintro v2 _ ⟨R1, hR1, hI1, rfl, rfl⟩
                      refine WL.sub (Sub.refl _) (fun w h => h.p1) ?_
                      have hb : Both bc a C.g F (C1.A bc :: R1.A a :: F) := ⟨C1, R1, hC1, hR1, by rw [s1]; exact hI1, by rw [s1]; exact hM.same (Chip.force_mg _ _ _ _).1 (Chip.force_mg _ _ _ _).2, Cw.g_of s1 (Chip.force_mg _ _ _ _).2, rfl⟩
                      refine WL.nil ?_
                      refine WA.take 15 (fun w h => by repeat (first | exact h | replace h := h.tail)) rfl (by kernel_rfl) (by kernel_rfl) (by kernel_rfl) (fun _ _ _ h => h) (V.eql (OV.p rfl) (OV.p rfl)) rfl ?_
                      refine WA.take 16 (fun w h => by repeat (first | exact h | replace h := h.tail)) rfl (by kernel_rfl) (by kernel_rfl) (by kernel_rfl) (fun _ _ _ h => h) (V.assign (OV.p rfl)) rfl ?_
                      refine WA.done (by kernel_rfl) (fun w h => by repeat (first | exact h | replace h := h.tail)) ?_
                      refine WC.ret ?_
                      exact BodyQ.ret (H' := C1.A bc :: R1.A a :: F) (Res.tmp rfl (look_eq rfl (by simp))) (fun w h => h.sel 4 [0, 1] rfl) ⟨rfl, hb⟩
                    · skip
                      obtain ⟨C1, hCe⟩ : ∃ D : Cw, D = C := ⟨_, rfl⟩
                      obtain ⟨R1, hRe⟩ : ∃ D : RW, D = R := ⟨_, rfl⟩
                      have hC1 : C1.Ok := by rw [hCe]; exact hC
                      have hR1 : R1.Ok := by rw [hRe]; exact hR
                      have hI1 : R1.Is C1.sem := by rw [hRe, hCe]; exact hI
                      have hM1 : C1.sem.MarkIn := by rw [hCe]; exact hM
                      have hg1 : C1.g = C.g := by rw [hCe]
                      refine WC.sub (H' := C1.A bc :: R1.A a :: SlA (.slice Ao o.rx.length co) 5 1 o.rx.length (ints .u8 o.rx) :: Cells b5 45 o.cells :: F) (Sub.refl _) (fun w h => by rw [hCe, hRe]; exact h) ?_
                      refine WC.skip ?_
                      refine WC.seq ?_
                      first | refine WC.sub (Sub.refl _) hW8 ?_ | skip
                      refine WC.region ?_
                      refine WL.val (V.move (OV.p rfl)) rfl ?_
                      refine WL.val (V.fieldAddr fo45_1 (OV.p rfl)) rfl ?_
                      refine WL.val (V.load Try.isAgg3 (OV.p rfl) (fun _ => by repeat (first | exact Rd.here rfl | apply Rd.up))) rfl ?_
                      refine WL.val (V.fieldAddr fo45_2 (OV.p rfl)) rfl ?_
                      refine WL.val (V.load Try.isAgg3 (OV.p rfl) (fun _ => by repeat (first | exact Rd.here rfl | apply Rd.up))) rfl ?_
                      refine WL.call (vs := [_, _, _]) Try.call19 ⟨OV.p rfl, OV.p rfl, OV.p rfl, trivial⟩ (chip_ReadA hC1 o.block o.page) rfl ?_
                      rintro _ _ ⟨A8, m8, c8, l8, rfl, hq8, rfl⟩
                      refine WL.val (V.move (OV.p rfl)) rfl ?_
                      refine WL.val (V.extract (OV.p rfl) rfl) rfl ?_
                      refine WL.val (V.extract (OV.p rfl) rfl) rfl ?_
                      refine WL.val (V.assign (OV.p rfl)) rfl ?_
                      refine WL.val (V.assign (OV.p rfl)) rfl ?_
                      refine WL.nil ?_
                      refine WC.seq ?_
                      refine WC.region ?_
                      refine WL.val (V.move (OV.p rfl)) rfl ?_
                      refine WL.val (V.fieldAddr fo45_1 (OV.p rfl)) rfl ?_
                      refine WL.val (V.load Try.isAgg3 (OV.p rfl) (fun _ => by repeat (first | exact Rd.here rfl | apply Rd.up))) rfl ?_
                      refine WL.val (V.fieldAddr fo45_2 (OV.p rfl)) rfl ?_
                      refine WL.val (V.load Try.isAgg3 (OV.p rfl) (fun _ => by repeat (first | exact Rd.here rfl | apply Rd.up))) rfl ?_
                      refine WL.sub (Sub.refl _) (fun w h => h.sel 3 [2, 0, 1] rfl) ?_
                      refine WL.call (vs := [_, _, _]) Try.call37 ⟨OV.p rfl, OV.p rfl, OV.p rfl, trivial⟩ (ref_ReadA hR1 hI1 (by rw [hC1.reads_len]; exact congrArg (fun g : Geo => g.raw.toNat) hI1.g.symm)) rfl ?_
                      rintro _ _ ⟨A9, m9, c9, l9, rfl, hq9, rfl⟩
                      refine WL.val (V.move (OV.p rfl)) rfl ?_
                      refine WL.val (V.extract (OV.p rfl) rfl) rfl ?_
                      refine WL.val (V.extract (OV.p rfl) rfl) rfl ?_
                      refine WL.val (V.assign (OV.p rfl)) rfl ?_
                      refine WL.val (V.assign (OV.p rfl)) rfl ?_
                      refine WL.nil ?_
                      refine WC.seq ?_
                      refine WC.region ?_
                      refine WL.val (V.move (OV.p rfl)) rfl ?_
                      refine WL.val (V.move (OV.p rfl)) rfl ?_
                      refine WL.val (V.eql (OV.p rfl) (OV.p rfl)) rfl ?_
                      refine WL.val (V.move (OV.p rfl)) rfl ?_
                      refine WL.valG (oj := _) rfl rfl rfl GC.t (V.move (OV.p rfl)) rfl ?_
                      refine WL.valG (oj := _) rfl rfl rfl GC.t (V.bytesStr Try.underlying29 Try.underlying5 Try.underlying9 (OV.g rfl id) (fun _ => by repeat (first | exact SeqIn.seq hq8 | apply Seq.up))) rfl ?_
                      refine WL.valG (oj := _) rfl rfl rfl GC.t (V.move (OV.p rfl)) rfl ?_
                      refine WL.valG (oj := _) rfl rfl rfl GC.t (V.bytesStr Try.underlying29 Try.underlying5 Try.underlying9 (OV.g rfl id) (fun _ => by repeat (first | exact SeqIn.seq hq9 | apply Seq.up))) rfl ?_
                      refine WL.valG (oj := _) rfl rfl rfl GC.t (V.eqlS (OV.g rfl id) (OV.g rfl id)) rfl ?_
                      refine WL.val (V.pickAnd (OV.p rfl) (OV.g rfl id)) rfl ?_
                      refine WL.val (V.assign (OV.p rfl)) rfl ?_
                      refine WL.nil ?_
                      refine WC.ret ?_
                      exact BodyQ.ret (Res.tmp rfl (look_eq rfl (by simp))) (fun w h => h.sel 6 [3, 1] rfl) ⟨rfl, ⟨_, _, hC1, hR1, hI1, hM1, hg1, rfl⟩⟩
end
end Go.Proofs.Ytgmdagjnigkaaaa
