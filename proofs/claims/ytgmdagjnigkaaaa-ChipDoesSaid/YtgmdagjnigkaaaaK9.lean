/- The law ChipDoes of casematelaw07/law.go. -/
import Derived.Test.YtgmdagjnigkaaaaK8
namespace Go.Proofs.Ytgmdagjnigkaaaa
open Go.Sl Go.RowKit
set_option linter.unusedVariables false
set_option linter.unusedSimpArgs false
set_option maxRecDepth 20000

theorem Chip.new_in {g : Geo} {l : List Int} (h : ∀ x ∈ l, 0 ≤ x ∧ x < g.bl) : (Chip.new g l).MarkIn := fun k hk => h k (of_decide_eq_true hk)
theorem law07_ChipDoes (g : Geo) {B A : Option Addr} {q cap m cap' : Nat} {l : List Int} {sc : List OpV} {K : World} {F : List Assn} (hl : Seq K F B q 1 (ints .i64 l)) (hs : Script K F A m sc) :
    Tells Try.prog 9 #[g.v, .slice B q cap, .slice A m cap'] K F (.bool true) := by
  have hsl := hs.len
  by_cases hgood : g.may = true ∧ ∀ x ∈ l, 0 ≤ x ∧ x < g.bl
  rotate_left
  · skip
    refine Does.enter Try.func9 rfl Try.ntmps9 rfl ?_
    simp only [env0, Nat.reduceAdd]
    refine WC.seq ?_
    refine WC.region ?_
    refine WL.box (cs := [_, _, _, _, _]) (OV.p rfl) rfl rfl (fun b3 => ?_)
    refine WL.val (V.assign (OV.p rfl)) rfl ?_
    refine WL.nil ?_
    refine WC.seq ?_
    refine WC.seq ?_
    refine WC.region ?_
    refine WL.val (V.loadA (vs := [_, _, _, _, _]) ⟨Try.isAgg23, Try.sizeOf23⟩ (OV.p rfl) rfl (fun _ => by repeat (first | exact Rds.gets ⟨rfl, rfl, rfl, rfl, rfl, trivial⟩ | apply Rds.up))) rfl ?_
    refine WL.call (vs := [_]) Try.call11 ⟨OV.p rfl, trivial⟩ (law07_small g _ _) rfl ?_
    rintro _ H0 ⟨rfl, h0⟩
    subst H0
    refine WL.val (V.not (OV.p rfl)) rfl ?_
    refine WL.val (V.move (OV.p rfl)) rfl ?_
    refine WL.valG (oj := _) rfl rfl rfl GC.f (V.move (OV.p rfl)) rfl ?_
    refine WL.valG (oj := _) rfl rfl rfl GC.f (V.len (t := 40) Try.runUnderlying40 (OV.g rfl id)) rfl ?_
    refine WL.valG (oj := _) rfl rfl rfl GC.f (V.gtr (OV.g rfl id) (OV.p rfl)) rfl ?_
    refine WL.val (V.pickOr (OV.p rfl) (OV.g rfl id)) rfl ?_
    refine WL.val (V.move (OV.p rfl)) rfl ?_
    refine WL.valG (oj := _) rfl rfl rfl GC.f (V.move (OV.p rfl)) rfl ?_
    refine WL.callG (oj := _) (vs := [_]) rfl rfl rfl GC.f Try.call22 ⟨OV.g rfl id, trivial⟩ (fun hg => law07_few (l := sc) hs.up) rfl ?_
    refine WL.valG (oj := _) rfl rfl rfl GC.f (V.not (OV.g rfl id)) rfl ?_
    refine WL.val (V.pickOr (OV.p rfl) (OV.g rfl id)) rfl ?_
    refine WL.nil ?_
    refine WC.cond rfl (fun hc0 => ?_) (fun hc0 => ?_)
    · simp only [Bool.or_eq_true, Bool.or_eq_false_iff, Bool.not_eq_true', Bool.not_eq_false', decide_eq_true_eq, decide_eq_false_iff_not] at hc0
      have h0 := hc0
      refine WC.seq ?_
      refine WC.region ?_
      refine WL.val (V.assign (OV.p rfl)) rfl ?_
      refine WL.nil ?_
      refine WC.ret ?_
      exact BodyQ.ret (H' := F) (Res.tmp rfl rfl) (fun w h => by repeat (first | exact h | replace h := h.tail)) ⟨rfl, rfl⟩
    · simp only [Bool.or_eq_true, Bool.or_eq_false_iff, Bool.not_eq_true', Bool.not_eq_false', decide_eq_true_eq, decide_eq_false_iff_not] at hc0
      have h0 := hc0
      refine WC.skip ?_
      refine WC.seq ?_
      refine WC.region ?_
      refine WL.val (V.loadA (vs := [_, _, _, _, _]) ⟨Try.isAgg23, Try.sizeOf23⟩ (OV.p rfl) rfl (fun _ => by repeat (first | exact Rds.gets ⟨rfl, rfl, rfl, rfl, rfl, trivial⟩ | apply Rds.up))) rfl ?_
      refine WL.val (V.move (OV.p rfl)) rfl ?_
      refine WL.call (vs := [_, _]) Try.call13 ⟨OV.p rfl, OV.p rfl, trivial⟩ (chip_New g (l := l) (by repeat (first | exact hl | apply Seq.up)) (by omega)) rfl ?_
      rintro _ _ (⟨hmay, hin, bc, C0, hC0, s0, rfl, rfl⟩ | ⟨hno, rfl, rfl⟩)
      · exact (hgood ⟨hmay, hin⟩).elim
      refine WL.val (V.move (OV.p rfl)) rfl ?_
      refine WL.val (V.extract (OV.p rfl) rfl) rfl ?_
      refine WL.val (V.extract (OV.p rfl) rfl) rfl ?_
      refine WL.val (V.assign (OV.p rfl)) rfl ?_
      refine WL.val (V.assign (OV.p rfl)) rfl ?_
      refine WL.nil ?_
      refine WC.seq ?_
      refine WC.region ?_
      refine WL.val (V.loadA (vs := [_, _, _, _, _]) ⟨Try.isAgg23, Try.sizeOf23⟩ (OV.p rfl) rfl (fun _ => by repeat (first | exact Rds.gets ⟨rfl, rfl, rfl, rfl, rfl, trivial⟩ | apply Rds.up))) rfl ?_
      refine WL.val (V.move (OV.p rfl)) rfl ?_
      refine WL.call (vs := [_, _]) Try.call34 ⟨OV.p rfl, OV.p rfl, trivial⟩ (ref_New g (l := l) (by repeat (first | exact hl | apply Seq.up)) (by omega)) rfl ?_
      rintro _ _ (⟨hmay, hin, a, R0, hR0, hI0, hRg, rfl, rfl⟩ | ⟨hno2, rfl, rfl⟩)
      · exact (hgood ⟨hmay, hin⟩).elim
      refine WL.val (V.move (OV.p rfl)) rfl ?_
      refine WL.val (V.extract (OV.p rfl) rfl) rfl ?_
      refine WL.val (V.extract (OV.p rfl) rfl) rfl ?_
      refine WL.val (V.assign (OV.p rfl)) rfl ?_
      refine WL.val (V.assign (OV.p rfl)) rfl ?_
      refine WL.nil ?_
      refine WC.seq ?_
      refine WC.seq ?_
      refine WC.region ?_
      refine WL.val (V.move (OV.p rfl)) rfl ?_
      refine WL.val (V.not (OV.p rfl)) rfl ?_
      refine WL.nil ?_
      refine WC.condT' rfl (by first | rfl | (simp; done) | (simp; omega)) ?_
      refine WC.seq ?_
      refine WC.region ?_
      refine WL.call (vs := []) Try.call17 trivial (law07_awake _ _) rfl ?_
      rintro _ H0 ⟨rfl, h0⟩
      subst H0
      refine WL.val (V.move (OV.p rfl)) rfl ?_
      refine WL.valG (oj := _) rfl rfl rfl GC.t (V.move (OV.p rfl)) rfl ?_
      refine WL.valG (oj := _) rfl rfl rfl GC.t (V.eqlP Try.underlying25 (OV.g rfl id) (OV.p rfl)) rfl ?_
      refine WL.val (V.pickAnd (OV.p rfl) (OV.g rfl id)) rfl ?_
      refine WL.val (V.move (OV.p rfl)) rfl ?_
      refine WL.valG (oj := _) rfl rfl rfl GC.t (V.move (OV.p rfl)) rfl ?_
      refine WL.valG (oj := _) rfl rfl rfl GC.t (V.eql (OV.g rfl id) (OV.p rfl)) rfl ?_
      refine WL.val (V.pickAnd (OV.p rfl) (OV.g rfl id)) rfl ?_
      refine WL.val (V.assign (OV.p rfl)) rfl ?_
      refine WL.nil ?_
      refine WC.ret ?_
      exact BodyQ.ret (H' := F) (Res.tmp rfl rfl) (fun w h => by repeat (first | exact h | replace h := h.tail)) ⟨rfl, rfl⟩
  · have hg := Geo.mays_of hgood.1
    have hgb := hg
    unfold Geo.mays at hgb
    refine Does.enter Try.func9 rfl Try.ntmps9 rfl ?_
    simp only [env0, Nat.reduceAdd]
    refine WC.seq ?_
    refine WC.region ?_
    refine WL.box (cs := [_, _, _, _, _]) (OV.p rfl) rfl rfl (fun b3 => ?_)
    refine WL.val (V.assign (OV.p rfl)) rfl ?_
    refine WL.nil ?_
    refine WC.seq ?_
    refine WC.seq ?_
    refine WC.region ?_
    refine WL.val (V.loadA (vs := [_, _, _, _, _]) ⟨Try.isAgg23, Try.sizeOf23⟩ (OV.p rfl) rfl (fun _ => by repeat (first | exact Rds.gets ⟨rfl, rfl, rfl, rfl, rfl, trivial⟩ | apply Rds.up))) rfl ?_
    refine WL.call (vs := [_]) Try.call11 ⟨OV.p rfl, trivial⟩ (law07_small g _ _) rfl ?_
    rintro _ H0 ⟨rfl, h0⟩
    subst H0
    refine WL.val (V.not (OV.p rfl)) rfl ?_
    refine WL.val (V.move (OV.p rfl)) rfl ?_
    refine WL.valG (oj := _) rfl rfl rfl GC.f (V.move (OV.p rfl)) rfl ?_
    refine WL.valG (oj := _) rfl rfl rfl GC.f (V.len (t := 40) Try.runUnderlying40 (OV.g rfl id)) rfl ?_
    refine WL.valG (oj := _) rfl rfl rfl GC.f (V.gtr (OV.g rfl id) (OV.p rfl)) rfl ?_
    refine WL.val (V.pickOr (OV.p rfl) (OV.g rfl id)) rfl ?_
    refine WL.val (V.move (OV.p rfl)) rfl ?_
    refine WL.valG (oj := _) rfl rfl rfl GC.f (V.move (OV.p rfl)) rfl ?_
    refine WL.callG (oj := _) (vs := [_]) rfl rfl rfl GC.f Try.call22 ⟨OV.g rfl id, trivial⟩ (fun hg => law07_few (l := sc) hs.up) rfl ?_
    refine WL.valG (oj := _) rfl rfl rfl GC.f (V.not (OV.g rfl id)) rfl ?_
    refine WL.val (V.pickOr (OV.p rfl) (OV.g rfl id)) rfl ?_
    refine WL.nil ?_
    refine WC.cond rfl (fun hc0 => ?_) (fun hc0 => ?_)
    · simp only [Bool.or_eq_true, Bool.or_eq_false_iff, Bool.not_eq_true', Bool.not_eq_false', decide_eq_true_eq, decide_eq_false_iff_not] at hc0
      refine WC.seq ?_
      refine WC.region ?_
      refine WL.val (V.assign (OV.p rfl)) rfl ?_
      refine WL.nil ?_
      refine WC.ret ?_
      exact BodyQ.ret (H' := F) (Res.tmp rfl rfl) (fun w h => by repeat (first | exact h | replace h := h.tail)) ⟨rfl, rfl⟩
    · simp only [Bool.or_eq_true, Bool.or_eq_false_iff, Bool.not_eq_true', Bool.not_eq_false', decide_eq_true_eq, decide_eq_false_iff_not] at hc0
      obtain ⟨⟨hsm, hq⟩, hfew⟩ := hc0
      have hfw : m ≤ 200 ∧ ∀ o ∈ sc, o.few = true := by
        unfold fewAll at hfew
        simp only [Bool.and_eq_true, decide_eq_true_eq, List.all_eq_true] at hfew
        exact ⟨by omega, hfew.2⟩
      refine WC.skip ?_
      refine WC.seq ?_
      refine WC.region ?_
      refine WL.val (V.loadA (vs := [_, _, _, _, _]) ⟨Try.isAgg23, Try.sizeOf23⟩ (OV.p rfl) rfl (fun _ => by repeat (first | exact Rds.gets ⟨rfl, rfl, rfl, rfl, rfl, trivial⟩ | apply Rds.up))) rfl ?_
      refine WL.val (V.move (OV.p rfl)) rfl ?_
      refine WL.call (vs := [_, _]) Try.call13 ⟨OV.p rfl, OV.p rfl, trivial⟩ (chip_New g (l := l) (by repeat (first | exact hl | apply Seq.up)) (by omega)) rfl ?_
      rintro _ _ (⟨hmay, hin, bc, C0, hC0, s0, rfl, rfl⟩ | ⟨hno, rfl, rfl⟩)
      rotate_left
      · exact (hno hgood).elim
      refine WL.val (V.move (OV.p rfl)) rfl ?_
      refine WL.val (V.extract (OV.p rfl) rfl) rfl ?_
      refine WL.val (V.extract (OV.p rfl) rfl) rfl ?_
      refine WL.val (V.assign (OV.p rfl)) rfl ?_
      refine WL.val (V.assign (OV.p rfl)) rfl ?_
      refine WL.nil ?_
      refine WC.seq ?_
      refine WC.region ?_
      refine WL.val (V.loadA (vs := [_, _, _, _, _]) ⟨Try.isAgg23, Try.sizeOf23⟩ (OV.p rfl) rfl (fun _ => by repeat (first | exact Rds.gets ⟨rfl, rfl, rfl, rfl, rfl, trivial⟩ | apply Rds.up))) rfl ?_
      refine WL.val (V.move (OV.p rfl)) rfl ?_
      refine WL.call (vs := [_, _]) Try.call34 ⟨OV.p rfl, OV.p rfl, trivial⟩ (ref_New g (l := l) (by repeat (first | exact hl | apply Seq.up)) (by omega)) rfl ?_
      rintro _ _ (⟨_, _, a, R0, hR0, hI0, hRg, rfl, rfl⟩ | ⟨hno2, rfl, rfl⟩)
      rotate_left
      · exact (hno2 hgood).elim
      have hI0' : R0.Is C0.sem := by rw [s0]; exact hI0
      have hM0 : C0.sem.MarkIn := by rw [s0]; exact Chip.new_in hin
      have hg0 : C0.g = g := by rw [show C0.g = C0.sem.g from rfl, s0]; rfl
      refine WL.sub (Sub.refl _) (fun w h => h.p1) ?_
      refine WL.val (V.move (OV.p rfl)) rfl ?_
      refine WL.val (V.extract (OV.p rfl) rfl) rfl ?_
      refine WL.val (V.extract (OV.p rfl) rfl) rfl ?_
      refine WL.val (V.assign (OV.p rfl)) rfl ?_
      refine WL.val (V.assign (OV.p rfl)) rfl ?_
      refine WL.nil ?_
      refine WC.seq ?_
      refine WC.seq ?_
      refine WC.region ?_
      refine WL.val (V.move (OV.p rfl)) rfl ?_
      refine WL.val (V.not (OV.p rfl)) rfl ?_
      refine WL.nil ?_
      refine WC.condF' rfl (by first | rfl | (simp; done) | (simp; omega)) ?_
      refine WC.skip ?_
      refine WC.seq ?_
      refine WC.seq ?_
      refine WC.region ?_
      refine WL.val (V.move (OV.p rfl)) rfl ?_
      refine WL.val (V.eqlP Try.underlying25 (OV.p rfl) (OV.p rfl)) rfl ?_
      refine WL.val (V.move (OV.p rfl)) rfl ?_
      refine WL.valG (oj := _) rfl rfl rfl GC.f (V.move (OV.p rfl)) rfl ?_
      refine WL.valG (oj := _) rfl rfl rfl GC.f (V.neq (OV.g rfl id) (OV.p rfl)) rfl ?_
      refine WL.val (V.pickOr (OV.p rfl) (OV.g rfl id)) rfl ?_
      refine WL.val (V.move (OV.p rfl)) rfl ?_
      refine WL.valG (oj := _) rfl rfl rfl GC.f (V.move (OV.p rfl)) rfl ?_
      refine WL.valG (oj := _) rfl rfl rfl GC.f (V.move (OV.p rfl)) rfl ?_
      refine WL.callG (oj := _) (vs := [_, _]) rfl rfl rfl GC.f Try.call35 ⟨OV.g rfl id, OV.g rfl id, trivial⟩ (fun hg => law07_same hC0 hR0 hI0' hM0) rfl ?_
      refine WL.valG (oj := _) rfl rfl rfl GC.f (V.not (OV.g rfl id)) rfl ?_
      refine WL.val (V.pickOr (OV.p rfl) (OV.g rfl id)) rfl ?_
      refine WL.nil ?_
      refine WC.condF' rfl (by first | rfl | (simp; done) | (simp; omega)) ?_
      refine WC.skip ?_
      refine WC.seq ?_
      refine WC.seq ?_
      refine WC.region ?_
      refine WL.val (V.assign (OV.p rfl)) rfl ?_
      refine WL.nil ?_
      refine WC.block ?_
      refine WC.loop (σ := Nat × Cw × RW) (fun s => [(2, .slice A m cap'), (3, ptr b3 0), (7, ptr bc 0), (9, ptr a 0), (11, .int .i64 (s.1 : Int))]) (fun s => s.2.1.A bc :: s.2.2.A a :: Cells b3 23 [.int .i64 g.bl, .int .i64 g.pg, .int .i64 g.se, .int .i64 g.sb, .int .i64 g.fl] :: F) (fun s => s.1 ≤ m ∧ s.2.1.Ok ∧ s.2.2.Ok ∧ s.2.2.Is s.2.1.sem ∧ s.2.1.sem.MarkIn ∧ s.2.1.g = g) (fun s => m - s.1) (0, C0, R0) ⟨Nat.zero_le _, hC0, hR0, hI0', hM0, hg0⟩ (.cons rfl (.cons rfl (.cons rfl (.cons rfl (.cons rfl (.nil _)))))) (fun w h => h) ?_
      rintro ⟨i, C, R⟩ ⟨hi, hC, hR, hI, hM, hCg⟩
      dsimp only at hi hC hR hI hM hCg ⊢
      refine WC.seq ?_
      refine WC.seq ?_
      refine WC.region ?_
      refine WL.val (V.move (OV.p rfl)) rfl ?_
      refine WL.val (V.move (OV.p rfl)) rfl ?_
      refine WL.val (V.len (t := 41) Try.runUnderlying41 (OV.p rfl)) rfl ?_
      refine WL.val (V.lss (OV.p rfl) (OV.p rfl)) rfl ?_
      refine WL.nil ?_
      refine WC.cond rfl (fun hc3 => ?_) (fun hc3 => ?_)
      · simp only [decide_eq_true_eq, decide_eq_false_iff_not] at hc3
        refine WC.skip ?_
        refine WC.seq ?_
        refine WC.block ?_
        refine WC.seq ?_
        obtain ⟨o, ho'⟩ : ∃ o, sc[i]? = some o := ⟨_, List.getElem?_eq_getElem (by omega)⟩
        have ho := hs.ok o (List.mem_of_getElem? ho')
        have hof := hfw.2 o (List.mem_of_getElem? ho')
        have hti : (i : Int).toNat = i := by omega
        have hel : ∀ (j : Nat) v, o.cells[j]? = some v → Rd K F (A.map (·.add (i * 6 + j))) v := fun j v hj => hs.elem ho' hj
        have hofl : o.rx.length ≤ 200 ∧ o.px.length ≤ 60 := by
          unfold OpV.few at hof
          simp at hof
          omega
        refine WC.region ?_
        refine WL.val (V.move (OV.p rfl)) rfl ?_
        refine WL.val (V.move (OV.p rfl)) rfl ?_
        refine WL.val (V.move (OV.p rfl)) rfl ?_
        refine WL.val (V.move (OV.p rfl)) rfl ?_
        refine WL.val (V.val_eq (v' := sp A (i * 6)) (V.idxS st41 (OV.p rfl) (OV.p rfl) (fun hc => by omega) (fun hc => by rw [hti]; repeat (first | exact hel 0 _ rfl | apply Rd.up))) (fun _ => by rw [hti])) rfl ?_
        refine WL.val (V.loadS (vs := o.cells) ⟨Try.isAgg45, Try.sizeOf45⟩ (OV.p rfl) rfl (by decide) (fun _ j v hj => by repeat (first | exact hel j v hj | apply Rd.up))) rfl ?_
        refine WL.call (vs := [_, _, _]) Try.call36 ⟨OV.p rfl, OV.p rfl, OV.p rfl, trivial⟩ (law07_step hC hR hI hM ho.up hofl.1 hofl.2) rfl ?_
        rintro _ _ ⟨rfl, ⟨C1, R1, hC1, hR1, hI1, hM1, hg1, rfl⟩⟩
        refine WL.val (V.not (OV.p rfl)) rfl ?_
        refine WL.val (V.move (OV.p rfl)) rfl ?_
        refine WL.valG (oj := _) rfl rfl rfl GC.f (V.move (OV.p rfl)) rfl ?_
        refine WL.valG (oj := _) rfl rfl rfl GC.f (V.move (OV.p rfl)) rfl ?_
        refine WL.callG (oj := _) (vs := [_, _]) rfl rfl rfl GC.f Try.call35 ⟨OV.g rfl id, OV.g rfl id, trivial⟩ (fun hg => law07_same hC1 hR1 hI1 hM1) rfl ?_
        refine WL.valG (oj := _) rfl rfl rfl GC.f (V.not (OV.g rfl id)) rfl ?_
        refine WL.val (V.pickOr (OV.p rfl) (OV.g rfl id)) rfl ?_
        refine WL.nil ?_
        refine WC.condF' rfl (by first | rfl | (simp; done) | (simp; omega)) ?_
        refine WC.skip ?_
        refine WC.region ?_
        refine WL.val (V.move (OV.p rfl)) rfl ?_
        refine WL.val (V.addI (OV.p rfl) (OV.p rfl) (fun hc => by first | omega | (simp at hc; omega))) rfl ?_
        refine WL.val (V.assign (OV.p rfl)) rfl ?_
        refine WL.nil ?_
        refine ⟨rfl, ?_⟩
        exact ⟨(i + 1, C1, R1), ⟨by show i + 1 ≤ m; omega, hC1, hR1, hI1, hM1, hg1.trans hCg⟩, (by show m - (i + 1) < m - i; omega), .cons rfl (.cons rfl (.cons rfl (.cons rfl (.cons (look_eq rfl (by simp)) (.nil _))))), fun w h => h⟩
      · simp only [decide_eq_true_eq, decide_eq_false_iff_not] at hc3
        refine WC.exit ?_
        refine WC.seq ?_
        refine WC.region ?_
        refine WL.val (V.move (OV.p rfl)) rfl ?_
        refine WL.call (vs := [_]) Try.call21 ⟨OV.p rfl, trivial⟩ (chip_On (C := C)) rfl ?_
        rintro v1 _ rfl
        have hC2 := hC.on
        obtain ⟨R2, hRe⟩ : ∃ D : RW, D = { R with up := true } := ⟨_, rfl⟩
        have hR2 : R2.Ok := by rw [hRe]; exact ⟨hR.mays, hR.pgs, hR.left, hR.next⟩
        have hI2 : R2.Is C.on.sem := by rw [hRe]; exact ⟨hI.g, hI.fuse, rfl, hI.left, hI.keep, hI.len, hI.nlen, fun k z hz => (hI.blk k z hz).congr rfl rfl rfl rfl (fun q => ⟨rfl, rfl⟩)⟩
        refine WL.nil ?_
        refine WC.seq ?_
        refine WC.sub (Sub.refl _) (fun w h => Sat.unall (l := R.parts a) h.p1) ?_
        dsimp only [RW.parts, List.cons_append, List.nil_append]
        refine WC.region ?_
        refine WL.val (V.move (OV.p rfl)) rfl ?_
        refine WL.val (V.nilCheck (OV.p rfl)) rfl ?_
        refine WL.val (V.fieldAddr fo68_3 (OV.p rfl)) rfl ?_
        refine WL.store (cs := [_]) Try.sizeOf4 (OV.p rfl) (OV.p rfl) rfl rfl rfl (by repeat (first | exact Upd.here (cs' := [_, _, _, _, _, _, _, _, _, _]) rfl rfl | apply Upd.up)) ?_
        refine WL.sub (H' := C.on.A bc :: R2.A a :: Cells b3 23 [.int .i64 g.bl, .int .i64 g.pg, .int .i64 g.se, .int .i64 g.sb, .int .i64 g.fl] :: F) (Sub.refl _) (fun w h => by rw [hRe]; exact (Sat.all (l := RW.parts a { R with up := true }) (Sat.cells_eq h (by simp [setL]))).p1) ?_
        refine WL.nil ?_
        refine WC.seq ?_
        refine WC.seq ?_
        refine WC.region ?_
        refine WL.val (V.assign (OV.p rfl)) rfl ?_
        refine WL.nil ?_
        refine WC.block ?_
        refine WC.loop (σ := Nat) (fun b => [(3, ptr b3 0), (7, ptr bc 0), (9, ptr a 0), (12, .int .i64 (b : Int))]) (fun _ => C.on.A bc :: R2.A a :: Cells b3 23 [.int .i64 g.bl, .int .i64 g.pg, .int .i64 g.se, .int .i64 g.sb, .int .i64 g.fl] :: F) (fun b => (b : Int) ≤ g.bl) (fun b => (g.bl - b).toNat) 0 (by show ((0 : Nat) : Int) ≤ g.bl; omega) (.cons rfl (.cons rfl (.cons rfl (.cons rfl (.nil _))))) (fun w h => h) ?_
        rintro b hb
        refine WC.seq ?_
        refine WC.seq ?_
        refine WC.region ?_
        refine WL.val (V.move (OV.p rfl)) rfl ?_
        refine WL.val (V.fieldAddr fo23_0 (OV.p rfl)) rfl ?_
        refine WL.val (V.load Try.isAgg3 (OV.p rfl) (fun _ => by repeat (first | exact Rd.here rfl | apply Rd.up))) rfl ?_
        refine WL.val (V.lss (OV.p rfl) (OV.p rfl)) rfl ?_
        refine WL.nil ?_
        refine WC.cond rfl (fun hc5 => ?_) (fun hc5 => ?_)
        · simp only [decide_eq_true_eq, decide_eq_false_iff_not] at hc5
          refine WC.skip ?_
          refine WC.seq ?_
          refine WC.block ?_
          refine WC.seq ?_
          refine WC.region ?_
          refine WL.val (V.assign (OV.p rfl)) rfl ?_
          refine WL.nil ?_
          refine WC.block ?_
          refine WC.loop (σ := Nat) (fun p => [(3, ptr b3 0), (7, ptr bc 0), (9, ptr a 0), (12, .int .i64 (b : Int)), (13, .int .i64 (p : Int))]) (fun _ => C.on.A bc :: R2.A a :: Cells b3 23 [.int .i64 g.bl, .int .i64 g.pg, .int .i64 g.se, .int .i64 g.sb, .int .i64 g.fl] :: F) (fun p => (p : Int) ≤ g.pg) (fun p => (g.pg - p).toNat) 0 (by show ((0 : Nat) : Int) ≤ g.pg; omega) (.cons rfl (.cons rfl (.cons rfl (.cons rfl (.cons rfl (.nil _)))))) (fun w h => h) ?_
          rintro p hp
          refine WC.seq ?_
          refine WC.seq ?_
          refine WC.region ?_
          refine WL.val (V.move (OV.p rfl)) rfl ?_
          refine WL.val (V.fieldAddr fo23_1 (OV.p rfl)) rfl ?_
          refine WL.val (V.load Try.isAgg3 (OV.p rfl) (fun _ => by repeat (first | exact Rd.here rfl | apply Rd.up))) rfl ?_
          refine WL.val (V.lss (OV.p rfl) (OV.p rfl)) rfl ?_
          refine WL.nil ?_
          refine WC.cond rfl (fun hc6 => ?_) (fun hc6 => ?_)
          · simp only [decide_eq_true_eq, decide_eq_false_iff_not] at hc6
            refine WC.skip ?_
            refine WC.seq ?_
            refine WC.block ?_
            refine WC.seq ?_
            refine WC.region ?_
            refine WL.val (V.move (OV.p rfl)) rfl ?_
            refine WL.val (V.move (OV.p rfl)) rfl ?_
            refine WL.val (V.move (OV.p rfl)) rfl ?_
            refine WL.call (vs := [_, _, _]) Try.call19 ⟨OV.p rfl, OV.p rfl, OV.p rfl, trivial⟩ (chip_ReadA hC2 (b : Int) (p : Int)) rfl ?_
            rintro _ _ ⟨A8, m8, c8, l8, rfl, hq8, rfl⟩
            refine WL.val (V.move (OV.p rfl)) rfl ?_
            refine WL.val (V.extract (OV.p rfl) rfl) rfl ?_
            refine WL.val (V.extract (OV.p rfl) rfl) rfl ?_
            refine WL.val (V.assign (OV.p rfl)) rfl ?_
            refine WL.val (V.assign (OV.p rfl)) rfl ?_
            refine WL.nil ?_
            refine WC.seq ?_
            refine WC.region ?_
            refine WL.val (V.move (OV.p rfl)) rfl ?_
            refine WL.val (V.move (OV.p rfl)) rfl ?_
            refine WL.val (V.move (OV.p rfl)) rfl ?_
            refine WL.sub (Sub.refl _) (fun w h => h.sel 3 [2, 0, 1] rfl) ?_
            refine WL.call (vs := [_, _, _]) Try.call37 ⟨OV.p rfl, OV.p rfl, OV.p rfl, trivial⟩ (ref_ReadA hR2 hI2 (by rw [hC2.reads_len]; exact congrArg (fun g : Geo => g.raw.toNat) hI2.g.symm)) rfl ?_
            rintro _ _ ⟨A9, m9, c9, l9, rfl, hq9, rfl⟩
            refine WL.val (V.move (OV.p rfl)) rfl ?_
            refine WL.val (V.extract (OV.p rfl) rfl) rfl ?_
            refine WL.val (V.extract (OV.p rfl) rfl) rfl ?_
            refine WL.val (V.assign (OV.p rfl)) rfl ?_
            refine WL.val (V.assign (OV.p rfl)) rfl ?_
            refine WL.nil ?_
            refine WC.seq ?_
            refine WC.region ?_
            refine WL.val (V.move (OV.p rfl)) rfl ?_
            refine WL.val (V.move (OV.p rfl)) rfl ?_
            refine WL.val (V.neq (OV.p rfl) (OV.p rfl)) rfl ?_
            refine WL.val (V.move (OV.p rfl)) rfl ?_
            refine WL.valG (oj := _) rfl rfl rfl GC.f (V.move (OV.p rfl)) rfl ?_
            refine WL.valG (oj := _) rfl rfl rfl GC.f (V.bytesStr Try.underlying29 Try.underlying5 Try.underlying9 (OV.g rfl id) (fun _ => by repeat (first | exact SeqIn.seq hq8 | apply Seq.up))) rfl ?_
            refine WL.valG (oj := _) rfl rfl rfl GC.f (V.move (OV.p rfl)) rfl ?_
            refine WL.valG (oj := _) rfl rfl rfl GC.f (V.bytesStr Try.underlying29 Try.underlying5 Try.underlying9 (OV.g rfl id) (fun _ => by repeat (first | exact SeqIn.seq hq9 | apply Seq.up))) rfl ?_
            refine WL.valG (oj := _) rfl rfl rfl GC.f (V.neqS (OV.g rfl id) (OV.g rfl id)) rfl ?_
            refine WL.val (V.pickOr (OV.p rfl) (OV.g rfl id)) rfl ?_
            refine WL.nil ?_
            refine WC.condF' rfl ((by simp)) ?_
            refine WC.skip ?_
            refine WC.region ?_
            refine WL.val (V.move (OV.p rfl)) rfl ?_
            refine WL.val (V.addI (OV.p rfl) (OV.p rfl) (fun hc => by first | omega | (simp at hc; omega))) rfl ?_
            refine WL.val (V.assign (OV.p rfl)) rfl ?_
            refine WL.nil ?_
            refine ⟨rfl, ?_⟩
            exact ⟨p + 1, (by show ((p + 1 : Nat) : Int) ≤ g.pg; omega), (by show (g.pg - ((p + 1 : Nat) : Int)).toNat < (g.pg - (p : Int)).toNat; omega), .cons rfl (.cons rfl (.cons rfl (.cons rfl (.cons (look_eq rfl (by simp)) (.nil _))))), fun w h => h.sel 4 [3, 1] rfl⟩
          · simp only [decide_eq_true_eq, decide_eq_false_iff_not] at hc6
            refine WC.exit ?_
            refine WC.region ?_
            refine WL.val (V.move (OV.p rfl)) rfl ?_
            refine WL.val (V.addI (OV.p rfl) (OV.p rfl) (fun hc => by first | omega | (simp at hc; omega))) rfl ?_
            refine WL.val (V.assign (OV.p rfl)) rfl ?_
            refine WL.nil ?_
            refine ⟨rfl, ?_⟩
            exact ⟨b + 1, (by show ((b + 1 : Nat) : Int) ≤ g.bl; omega), (by show (g.bl - ((b + 1 : Nat) : Int)).toNat < (g.bl - (b : Int)).toNat; omega), .cons rfl (.cons rfl (.cons rfl (.cons (look_eq rfl (by simp)) (.nil _)))), fun w h => h⟩
        · simp only [decide_eq_true_eq, decide_eq_false_iff_not] at hc5
          refine WC.exit ?_
          refine WC.seq ?_
          refine WC.region ?_
          refine WL.call (vs := []) Try.call17 trivial (law07_awake _ _) rfl ?_
          rintro _ H0 ⟨rfl, h0⟩
          subst H0
          refine WL.val (V.assign (OV.p rfl)) rfl ?_
          refine WL.nil ?_
          refine WC.ret ?_
          exact BodyQ.ret (H' := F) (Res.tmp rfl rfl) (fun w h => h.drop 3) ⟨rfl, rfl⟩
end Go.Proofs.Ytgmdagjnigkaaaa
