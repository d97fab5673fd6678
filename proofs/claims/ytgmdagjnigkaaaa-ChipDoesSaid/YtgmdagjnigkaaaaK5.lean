/- The law ChipKeeps of casematelaw07/law.go. -/
import Derived.Test.YtgmdagjnigkaaaaK4
namespace Go.Proofs.Ytgmdagjnigkaaaa
open Go.Sl Go.RowKit
set_option linter.unusedVariables false
set_option linter.unusedSimpArgs false
set_option maxRecDepth 20000

namespace Chip
def Keeps (S S' : Chip) : Prop := S.fuse ≤ S'.fuse ∧ (∀ b, S.marked b = true → S'.marked b = true) ∧ S'.g = S.g
theorem Keeps.refl (S : Chip) : Keeps S S := ⟨Int.le_refl _, fun b h => h, rfl⟩
theorem keeps_program (S : Chip) (b p : Int) (xs : List Int) : Keeps S (S.program b p xs).1 := by
  unfold program
  split
  · exact Keeps.refl S
  · split
    · exact Keeps.refl S
    · split
      · exact Keeps.refl S
      · dsimp only
        split
        · exact ⟨Int.le_refl _, fun b h => h, rfl⟩
        · split
          · exact ⟨Int.le_refl _, fun b h => h, rfl⟩
          · exact ⟨Int.le_refl _, fun b h => h, rfl⟩
theorem keeps_erase (S : Chip) (b : Int) : Keeps S (S.erase b).1 := by
  unfold erase
  split
  · exact Keeps.refl S
  · split
    · exact Keeps.refl S
    · dsimp only
      split
      · exact ⟨Int.le_refl _, fun b h => h, rfl⟩
      · split
        · exact ⟨Int.le_refl _, fun b h => h, rfl⟩
        · exact ⟨Int.le_refl _, fun b h => h, rfl⟩
theorem keeps_all (S : Chip) (f : Chip → Chip) (h : Keeps S (f S.deed)) : Keeps S (S.all f).1 := by
  unfold all
  dsimp only
  split
  · exact h
  · exact ⟨Int.le_refl _, fun b h => h, rfl⟩
theorem keeps_mark (S : Chip) (b : Int) : Keeps S (S.mark b).1 := by
  unfold mark
  split
  · exact Keeps.refl S
  · split
    · exact Keeps.refl S
    · exact keeps_all S _ ⟨Int.le_refl _, fun k h => (by show (if k = b then true else S.marked k) = true; split; rfl; exact h), rfl⟩
theorem keeps_burn (S : Chip) (n : Int) : Keeps S (S.burn n).1 := by
  unfold burn
  split
  · exact Keeps.refl S
  · split
    · exact Keeps.refl S
    · split
      · exact Keeps.refl S
      · rename_i h
        exact keeps_all S _ ⟨Int.not_lt.1 h, fun k h => h, rfl⟩
theorem keeps_force (S : Chip) (b p : Int) (xs : List Int) : Keeps S (S.force b p xs).1 := by
  unfold force
  split
  · exact Keeps.refl S
  · exact ⟨Int.le_refl _, fun b h => h, rfl⟩
end Chip
theorem bools_at {mk : List Bool} {j : Nat} (h : j < mk.length) : (mk.map Value.bool)[0 + j * 1]? = some (.bool (mk.getD j false)) := by
  rw [Nat.zero_add, Nat.mul_one, List.getElem?_map]
  simp [List.getD, h]

theorem OpV.Ok.up {K : World} {F : List Assn} {o : OpV} {X : Assn} (h : o.Ok K F) : o.Ok K (X :: F) := ⟨h.n, h.raw.up, h.rb, h.rle, h.places.up, h.pb, h.ple, h.plm⟩
theorem Script.up {K : World} {F : List Assn} {A : Option Addr} {m : Nat} {l : List OpV} {X : Assn} (h : Script K F A m l) : Script K (X :: F) A m l := ⟨h.seq.up, h.len, fun o ho => (h.ok o ho).up⟩

theorem law07_ChipKeeps (g : Geo) {B A : Option Addr} {q cap m cap' : Nat} {l : List Int} {sc : List OpV} {K : World} {F : List Assn} (hl : Seq K F B q 1 (ints .i64 l)) (hs : Script K F A m sc) :
    Tells Try.prog 6 #[g.v, .slice B q cap, .slice A m cap'] K F (.bool true) := by
  have hsl := hs.len
  by_cases hgood : g.may = true ∧ ∀ x ∈ l, 0 ≤ x ∧ x < g.bl
  rotate_left
  · skip
    refine Does.enter Try.func6 rfl Try.ntmps6 rfl ?_
    simp only [env0, Nat.reduceAdd]
    refine WC.seq ?_
    refine WC.region ?_
    refine WL.box (cs := [_, _, _, _, _]) (OV.p rfl) rfl rfl (fun b3 => ?_)
    refine WL.val (V.assign (OV.p rfl)) rfl ?_
    refine WL.nil ?_
    refine WC.seq ?_
    refine WC.seq ?_
    refine WC.region ?_
    refine WL.val (V.loadA (vs := [_, _, _, _, _]) ⟨Try.isAgg23, Try.sizeOf23⟩ (OV.p rfl) rfl (fun _ => by repeat (first | exact Rds.gets ⟨rfl, rfl, rfl, rfl, rfl, trivial⟩ | apply Rds.up))) rfl ?_
    refine WL.call (vs := [_]) Try.call11 ⟨OV.p rfl, trivial⟩ (law07_small g _ _) rfl ?_
    rintro _ H0 ⟨rfl, h0⟩
    subst H0
    refine WL.val (V.not (OV.p rfl)) rfl ?_
    refine WL.val (V.move (OV.p rfl)) rfl ?_
    refine WL.valG (oj := _) rfl rfl rfl GC.f (V.move (OV.p rfl)) rfl ?_
    refine WL.valG (oj := _) rfl rfl rfl GC.f (V.len (t := 40) Try.runUnderlying40 (OV.g rfl id)) rfl ?_
    refine WL.valG (oj := _) rfl rfl rfl GC.f (V.gtr (OV.g rfl id) (OV.p rfl)) rfl ?_
    refine WL.val (V.pickOr (OV.p rfl) (OV.g rfl id)) rfl ?_
    refine WL.val (V.move (OV.p rfl)) rfl ?_
    refine WL.valG (oj := _) rfl rfl rfl GC.f (V.move (OV.p rfl)) rfl ?_
    refine WL.callG (oj := _) (vs := [_]) rfl rfl rfl GC.f Try.call22 ⟨OV.g rfl id, trivial⟩ (fun hg => law07_few (l := sc) hs.up) rfl ?_
    refine WL.valG (oj := _) rfl rfl rfl GC.f (V.not (OV.g rfl id)) rfl ?_
    refine WL.val (V.pickOr (OV.p rfl) (OV.g rfl id)) rfl ?_
    refine WL.nil ?_
    refine WC.cond rfl (fun hc0 => ?_) (fun hc0 => ?_)
    · simp only [decide_eq_true_eq, decide_eq_false_iff_not, Bool.and_eq_true, Bool.or_eq_true, Bool.and_eq_false_iff, Bool.or_eq_false_iff, Bool.not_eq_true', Bool.not_eq_false', Bool.not_eq_true, Bool.not_eq_false, Int.not_lt, Int.not_le] at hc0
      refine WC.seq ?_
      refine WC.region ?_
      refine WL.val (V.assign (OV.p rfl)) rfl ?_
      refine WL.nil ?_
      refine WC.ret ?_
      exact BodyQ.ret (H' := F) (Res.tmp rfl rfl) (fun w h => by repeat (first | exact h | replace h := h.tail)) ⟨rfl, rfl⟩
    · simp only [decide_eq_true_eq, decide_eq_false_iff_not, Bool.and_eq_true, Bool.or_eq_true, Bool.and_eq_false_iff, Bool.or_eq_false_iff, Bool.not_eq_true', Bool.not_eq_false', Bool.not_eq_true, Bool.not_eq_false, Int.not_lt, Int.not_le] at hc0
      refine WC.skip ?_
      refine WC.seq ?_
      refine WC.region ?_
      refine WL.val (V.loadA (vs := [_, _, _, _, _]) ⟨Try.isAgg23, Try.sizeOf23⟩ (OV.p rfl) rfl (fun _ => by repeat (first | exact Rds.gets ⟨rfl, rfl, rfl, rfl, rfl, trivial⟩ | apply Rds.up))) rfl ?_
      refine WL.val (V.move (OV.p rfl)) rfl ?_
      refine WL.call (vs := [_, _]) Try.call13 ⟨OV.p rfl, OV.p rfl, trivial⟩ (chip_New g (l := l) (by repeat (first | exact hl | apply Seq.up)) (by omega)) rfl ?_
      rintro _ _ (⟨hmay, hin, bc, C0, hC0, s0, rfl, rfl⟩ | ⟨hno, rfl, rfl⟩)
      · exact (hgood ⟨hmay, hin⟩).elim
      refine WL.val (V.move (OV.p rfl)) rfl ?_
      refine WL.val (V.extract (OV.p rfl) rfl) rfl ?_
      refine WL.val (V.extract (OV.p rfl) rfl) rfl ?_
      refine WL.val (V.assign (OV.p rfl)) rfl ?_
      refine WL.val (V.assign (OV.p rfl)) rfl ?_
      refine WL.nil ?_
      refine WC.seq ?_
      refine WC.seq ?_
      refine WC.region ?_
      refine WL.val (V.move (OV.p rfl)) rfl ?_
      refine WL.val (V.neq (OV.p rfl) (OV.p rfl)) rfl ?_
      refine WL.val (V.move (OV.p rfl)) rfl ?_
      refine WL.valG (oj := _) rfl rfl rfl GC.f (V.move (OV.p rfl)) rfl ?_
      refine WL.valG (oj := _) rfl rfl rfl GC.f (V.eqlP Try.underlying25 (OV.g rfl id) (OV.p rfl)) rfl ?_
      refine WL.val (V.pickOr (OV.p rfl) (OV.g rfl id)) rfl ?_
      refine WL.nil ?_
      refine WC.condT' rfl (by first | rfl | (simp; done) | (simp; omega)) ?_
      refine WC.seq ?_
      refine WC.region ?_
      refine WL.call (vs := []) Try.call17 trivial (law07_awake _ _) rfl ?_
      rintro _ H0 ⟨rfl, h0⟩
      subst H0
      refine WL.val (V.move (OV.p rfl)) rfl ?_
      refine WL.known (oj := _) rfl rfl rfl rfl ?_
      refine WL.val (V.move (OV.p rfl)) rfl ?_
      refine WL.known (oj := _) rfl rfl rfl rfl ?_
      refine WL.val (V.eqlP Try.underlying25 (OV.p rfl) (OV.p rfl)) rfl ?_
      refine WL.val (V.pickAnd (OV.p rfl) (OV.p rfl)) rfl ?_
      refine WL.val (V.assign (OV.p rfl)) rfl ?_
      refine WL.nil ?_
      refine WC.ret ?_
      exact BodyQ.ret (H' := F) (Res.tmp rfl rfl) (fun w h => by repeat (first | exact h | replace h := h.tail)) ⟨rfl, rfl⟩
  · have hg := Geo.mays_of hgood.1
    have hgb := hg
    unfold Geo.mays at hgb
    refine Does.enter Try.func6 rfl Try.ntmps6 rfl ?_
    simp only [env0, Nat.reduceAdd]
    refine WC.seq ?_
    refine WC.region ?_
    refine WL.box (cs := [_, _, _, _, _]) (OV.p rfl) rfl rfl (fun b3 => ?_)
    refine WL.val (V.assign (OV.p rfl)) rfl ?_
    refine WL.nil ?_
    refine WC.seq ?_
    refine WC.seq ?_
    refine WC.region ?_
    refine WL.val (V.loadA (vs := [_, _, _, _, _]) ⟨Try.isAgg23, Try.sizeOf23⟩ (OV.p rfl) rfl (fun _ => by repeat (first | exact Rds.gets ⟨rfl, rfl, rfl, rfl, rfl, trivial⟩ | apply Rds.up))) rfl ?_
    refine WL.call (vs := [_]) Try.call11 ⟨OV.p rfl, trivial⟩ (law07_small g _ _) rfl ?_
    rintro _ H0 ⟨rfl, h0⟩
    subst H0
    refine WL.val (V.not (OV.p rfl)) rfl ?_
    refine WL.val (V.move (OV.p rfl)) rfl ?_
    refine WL.valG (oj := _) rfl rfl rfl GC.f (V.move (OV.p rfl)) rfl ?_
    refine WL.valG (oj := _) rfl rfl rfl GC.f (V.len (t := 40) Try.runUnderlying40 (OV.g rfl id)) rfl ?_
    refine WL.valG (oj := _) rfl rfl rfl GC.f (V.gtr (OV.g rfl id) (OV.p rfl)) rfl ?_
    refine WL.val (V.pickOr (OV.p rfl) (OV.g rfl id)) rfl ?_
    refine WL.val (V.move (OV.p rfl)) rfl ?_
    refine WL.valG (oj := _) rfl rfl rfl GC.f (V.move (OV.p rfl)) rfl ?_
    refine WL.callG (oj := _) (vs := [_]) rfl rfl rfl GC.f Try.call22 ⟨OV.g rfl id, trivial⟩ (fun hg => law07_few (l := sc) hs.up) rfl ?_
    refine WL.valG (oj := _) rfl rfl rfl GC.f (V.not (OV.g rfl id)) rfl ?_
    refine WL.val (V.pickOr (OV.p rfl) (OV.g rfl id)) rfl ?_
    refine WL.nil ?_
    refine WC.cond rfl (fun hc0 => ?_) (fun hc0 => ?_)
    · simp only [decide_eq_true_eq, decide_eq_false_iff_not, Bool.and_eq_true, Bool.or_eq_true, Bool.and_eq_false_iff, Bool.or_eq_false_iff, Bool.not_eq_true', Bool.not_eq_false', Bool.not_eq_true, Bool.not_eq_false, Int.not_lt, Int.not_le] at hc0
      refine WC.seq ?_
      refine WC.region ?_
      refine WL.val (V.assign (OV.p rfl)) rfl ?_
      refine WL.nil ?_
      refine WC.ret ?_
      exact BodyQ.ret (H' := F) (Res.tmp rfl rfl) (fun w h => by repeat (first | exact h | replace h := h.tail)) ⟨rfl, rfl⟩
    · simp only [decide_eq_true_eq, decide_eq_false_iff_not, Bool.and_eq_true, Bool.or_eq_true, Bool.and_eq_false_iff, Bool.or_eq_false_iff, Bool.not_eq_true', Bool.not_eq_false', Bool.not_eq_true, Bool.not_eq_false, Int.not_lt, Int.not_le] at hc0
      obtain ⟨⟨hsm, hq⟩, hfew⟩ := hc0
      have hm200 : m ≤ 200 := by
        unfold fewAll at hfew
        simp only [Bool.and_eq_true, decide_eq_true_eq] at hfew
        omega
      refine WC.skip ?_
      refine WC.seq ?_
      refine WC.region ?_
      refine WL.val (V.loadA (vs := [_, _, _, _, _]) ⟨Try.isAgg23, Try.sizeOf23⟩ (OV.p rfl) rfl (fun _ => by repeat (first | exact Rds.gets ⟨rfl, rfl, rfl, rfl, rfl, trivial⟩ | apply Rds.up))) rfl ?_
      refine WL.val (V.move (OV.p rfl)) rfl ?_
      refine WL.call (vs := [_, _]) Try.call13 ⟨OV.p rfl, OV.p rfl, trivial⟩ (chip_New g (l := l) (by repeat (first | exact hl | apply Seq.up)) (by omega)) rfl ?_
      rintro _ _ (⟨hmay, hin, bc, C0, hC0, s0, rfl, rfl⟩ | ⟨hno, rfl, rfl⟩)
      rotate_left
      · exact (hno hgood).elim
      refine WL.val (V.move (OV.p rfl)) rfl ?_
      refine WL.val (V.extract (OV.p rfl) rfl) rfl ?_
      refine WL.val (V.extract (OV.p rfl) rfl) rfl ?_
      refine WL.val (V.assign (OV.p rfl)) rfl ?_
      refine WL.val (V.assign (OV.p rfl)) rfl ?_
      refine WL.nil ?_
      refine WC.seq ?_
      refine WC.seq ?_
      refine WC.region ?_
      refine WL.val (V.move (OV.p rfl)) rfl ?_
      refine WL.val (V.neq (OV.p rfl) (OV.p rfl)) rfl ?_
      refine WL.val (V.move (OV.p rfl)) rfl ?_
      refine WL.valG (oj := _) rfl rfl rfl GC.f (V.move (OV.p rfl)) rfl ?_
      refine WL.valG (oj := _) rfl rfl rfl GC.f (V.eqlP Try.underlying25 (OV.g rfl id) (OV.p rfl)) rfl ?_
      refine WL.val (V.pickOr (OV.p rfl) (OV.g rfl id)) rfl ?_
      refine WL.nil ?_
      refine WC.condF' rfl (by first | rfl | (simp; done) | (simp; omega)) ?_
      refine WC.skip ?_
      refine WC.seq ?_
      refine WC.region ?_
      refine WL.val (V.assign (OV.p rfl)) rfl ?_
      refine WL.nil ?_
      refine WC.seq ?_
      refine WC.region ?_
      refine WL.val (V.fieldAddr fo23_0 (OV.p rfl)) rfl ?_
      refine WL.val (V.load Try.isAgg3 (OV.p rfl) (fun _ => by repeat (first | exact Rd.here rfl | apply Rd.up))) rfl ?_
      refine WL.make1 (m := g.bl.toNat) Try.underlying43 el4 (OV.p rfl) (OV.p rfl) (by omega) (by omega) (by omega) rfl rfl rfl (fun b46 => ?_)
      refine WL.sub (Sub.refl _) (fun w h => h.p1) ?_
      refine WL.val (V.assign (OV.p rfl)) rfl ?_
      refine WL.nil ?_
      refine WC.seq ?_
      refine WC.seq ?_
      refine WC.region ?_
      refine WL.val (V.assign (OV.p rfl)) rfl ?_
      refine WL.nil ?_
      refine WC.block ?_
      refine WC.loop (σ := Nat × Cw × Int × List Bool) (fun x => [(2, .slice A m cap'), (3, ptr b3 0), (7, ptr bc 0), (9, .int .i64 x.2.2.1), (10, .slice (some ⟨b46, 0, none⟩) g.bl.toNat g.bl.toNat), (11, .int .i64 (x.1 : Int))]) (fun x => x.2.1.A bc :: Cells b46 4 (x.2.2.2.map Value.bool) :: Cells b3 23 [.int .i64 g.bl, .int .i64 g.pg, .int .i64 g.se, .int .i64 g.sb, .int .i64 g.fl] :: F) (fun x => x.1 ≤ m ∧ x.2.1.Ok ∧ x.2.2.1 ≤ x.2.1.fuse ∧ x.2.2.2.length = g.bl.toNat ∧ ∀ j : Nat, x.2.2.2.getD j false = true → x.2.1.marked j = true) (fun x => m - x.1) (0, C0, 0, List.replicate g.bl.toNat false) ⟨Nat.zero_le _, hC0, by show (0 : Int) ≤ C0.sem.fuse; rw [s0]; exact Int.le_refl 0, List.length_replicate, fun j h => by rw [List.getD, List.getElem?_replicate] at h; split at h <;> cases h⟩ (.cons rfl (.cons rfl (.cons rfl (.cons rfl (.cons rfl (.cons rfl (.nil _))))))) (fun w h => by rw [List.map_replicate]; exact h) ?_
      rintro ⟨i, C, fu, mk⟩ ⟨hi, hC, hfu, hmk, hmm⟩
      dsimp only at hi hC hfu hmk hmm ⊢
      refine WC.seq ?_
      refine WC.seq ?_
      refine WC.region ?_
      refine WL.val (V.move (OV.p rfl)) rfl ?_
      refine WL.val (V.move (OV.p rfl)) rfl ?_
      refine WL.val (V.len (t := 41) Try.runUnderlying41 (OV.p rfl)) rfl ?_
      refine WL.val (V.lss (OV.p rfl) (OV.p rfl)) rfl ?_
      refine WL.nil ?_
      refine WC.cond rfl (fun hc2 => ?_) (fun hc2 => ?_)
      · try simp only [decide_eq_true_eq, decide_eq_false_iff_not, Bool.and_eq_true, Bool.or_eq_true, Bool.and_eq_false_iff, Bool.or_eq_false_iff, Bool.not_eq_true', Bool.not_eq_false', Bool.not_eq_true, Bool.not_eq_false, Int.not_lt, Int.not_le] at hc2
        refine WC.skip ?_
        refine WC.seq ?_
        refine WC.block ?_
        refine WC.seq ?_
        obtain ⟨o, ho'⟩ : ∃ o, sc[i]? = some o := ⟨_, List.getElem?_eq_getElem (by omega)⟩
        have ho := hs.ok o (List.mem_of_getElem? ho')
        have hti : (i : Int).toNat = i := by omega
        have hel : ∀ (j : Nat) v, o.cells[j]? = some v → Rd K F (A.map (·.add (i * 6 + j))) v := fun j v hj => hs.elem ho' hj
        refine WC.region ?_
        refine WL.val (V.move (OV.p rfl)) rfl ?_
        refine WL.val (V.move (OV.p rfl)) rfl ?_
        refine WL.val (V.val_eq (v' := sp A (i * 6)) (V.idxS st41 (OV.p rfl) (OV.p rfl) (fun hc => by omega) (fun hc => by rw [hti]; repeat (first | exact hel 0 _ rfl | apply Rd.up))) (fun _ => by rw [hti])) rfl ?_
        refine WL.val (V.loadS (vs := o.cells) ⟨Try.isAgg45, Try.sizeOf45⟩ (OV.p rfl) rfl (by decide) (fun _ j v hj => by repeat (first | exact hel j v hj | apply Rd.up))) rfl ?_
        refine WL.alloc (cs := [(.int .i64 0), (.int .i64 0), (.int .i64 0), (.int .i64 0), (.slice none 0 0), (.slice none 0 0)]) Try.zeroValue45 rfl rfl (fun b12 => ?_)
        refine WL.store (cs := [_, _, _, _, _, _]) Try.sizeOf45 (OV.p rfl) (OV.p rfl) rfl rfl rfl (by repeat (first | exact Upd.here (cs' := [_, _, _, _, _, _]) rfl rfl | apply Upd.up)) ?_
        refine WL.nil ?_
        refine WC.seq ?_
        refine WC.seq ?_
        refine WC.sub (Sub.refl _) (fun w h => h.p1) ?_
        refine WC.region ?_
        refine WL.val (V.fieldAddr fo45_0 (OV.p rfl)) rfl ?_
        refine WL.val (V.load Try.isAgg3 (OV.p rfl) (fun _ => by repeat (first | exact Rd.here rfl | apply Rd.up))) rfl ?_
        refine WL.nil ?_
        refine WC.block ?_
        refine WC.seq ?_
        refine WC.region ?_
        refine WL.val (V.eql (OV.p rfl) (OV.p rfl)) rfl ?_
        refine WL.val (V.assign (OV.p rfl)) rfl ?_
        refine WL.nil ?_
        refine WC.cond rfl (fun hc3 => ?_) (fun hc3 => ?_)
        · skip
          refine WC.region ?_
          refine WL.val (V.move (OV.p rfl)) rfl ?_
          refine WL.val (V.fieldAddr fo45_1 (OV.p rfl)) rfl ?_
          refine WL.val (V.load Try.isAgg3 (OV.p rfl) (fun _ => by repeat (first | exact Rd.here rfl | apply Rd.up))) rfl ?_
          refine WL.val (V.fieldAddr fo45_2 (OV.p rfl)) rfl ?_
          refine WL.val (V.load Try.isAgg3 (OV.p rfl) (fun _ => by repeat (first | exact Rd.here rfl | apply Rd.up))) rfl ?_
          refine WL.val (V.fieldAddr fo45_4 (OV.p rfl)) rfl ?_
          refine WL.val (V.load Try.isAgg29 (OV.p rfl) (fun _ => by repeat (first | exact Rd.here rfl | apply Rd.up))) rfl ?_
          refine WL.call (vs := [_, _, _, _]) Try.call16 ⟨OV.p rfl, OV.p rfl, OV.p rfl, OV.p rfl, trivial⟩ (chip_Program hC o.block o.page ho.rb (by repeat (first | exact ho.raw | apply Seq.up)) ho.rle) rfl ?_
          rintro v1 _ ⟨D, hD, rfl, s1, hv1⟩
          have hk : Chip.Keeps C.sem D.sem := by rw [s1]; exact Chip.keeps_program _ _ _ _
          refine WL.nil ?_
          refine WC.seq ?_
          refine WC.seq ?_
          first
          | refine WC.toInvE (fun E : Cw => E.Ok ∧ Chip.Keeps C.sem E.sem) (fun _ => [(2, .slice A m cap'), (3, ptr b3 0), (7, ptr bc 0), (9, .int .i64 fu), (10, .slice (some ⟨b46, 0, none⟩) g.bl.toNat g.bl.toNat), (11, .int .i64 (i : Int))]) (fun E => E.A bc :: Cells b12 45 o.cells :: Cells b46 4 (mk.map Value.bool) :: Cells b3 23 [.int .i64 g.bl, .int .i64 g.pg, .int .i64 g.se, .int .i64 g.sb, .int .i64 g.fl] :: F) D ⟨hD, hk⟩ (.cons rfl (.cons rfl (.cons rfl (.cons rfl (.cons rfl (.cons rfl (.nil _))))))) (fun w h => h) (fun E hE => ?_)
          | refine WC.toInvE (fun E : Cw => E.Ok ∧ Chip.Keeps C.sem E.sem) (fun _ => [(2, .slice A m cap'), (3, ptr b3 0), (7, ptr bc 0), (9, .int .i64 fu), (10, .slice (some ⟨b46, 0, none⟩) g.bl.toNat g.bl.toNat), (11, .int .i64 (i : Int))]) (fun E => E.A bc :: Cells b12 45 o.cells :: Cells b46 4 (mk.map Value.bool) :: Cells b3 23 [.int .i64 g.bl, .int .i64 g.pg, .int .i64 g.se, .int .i64 g.sb, .int .i64 g.fl] :: F) C ⟨hC, Chip.Keeps.refl _⟩ (.cons rfl (.cons rfl (.cons rfl (.cons rfl (.cons rfl (.cons rfl (.nil _))))))) (fun w h => h) (fun E hE => ?_)
          obtain ⟨hEo, hEf, hEm, hEg⟩ := hE
          have hEf' : C.fuse ≤ E.fuse := hEf
          have hEm' : ∀ j : Nat, mk.getD j false = true → E.marked j = true := fun j h => hEm _ (hmm j h)
          refine WC.region ?_
          refine WL.val (V.move (OV.p rfl)) rfl ?_
          refine WL.call (vs := [_]) Try.call18 ⟨OV.p rfl, trivial⟩ (chip_Up (C := E)) rfl ?_
          rintro _ H0 ⟨rfl, h0⟩
          subst H0
          refine WL.val (V.not (OV.p rfl)) rfl ?_
          refine WL.nil ?_
          refine WC.cond rfl (fun hc12 => ?_) (fun hc12 => ?_)
          · skip
            skip
            refine WC.exit ?_
            refine WC.region ?_
            refine WL.val (V.move (OV.p rfl)) rfl ?_
            refine WL.val (V.addI (OV.p rfl) (OV.p rfl) (fun hc => by first | omega | (simp at hc; omega))) rfl ?_
            refine WL.val (V.assign (OV.p rfl)) rfl ?_
            refine WL.nil ?_
            refine ⟨rfl, ?_⟩
            first
            | exact ⟨(i + 1, E, E.sem.fused, mk2), ⟨by show i + 1 ≤ m; omega, hEo, by show E.sem.fused ≤ E.fuse; rw [hfe]; exact Int.le_refl _, hmk2, hmm2⟩, (by show m - (i + 1) < m - i; omega), .cons rfl (.cons rfl (.cons rfl (.cons rfl (.cons rfl (.cons (look_eq rfl (by simp)) (.nil _)))))), fun w h => h.drop2⟩
            | exact ⟨(i + 1, E, fu, mk), ⟨by show i + 1 ≤ m; omega, hEo, Int.le_trans hfu hEf', hmk, hEm'⟩, (by show m - (i + 1) < m - i; omega), .cons rfl (.cons rfl (.cons rfl (.cons rfl (.cons rfl (.cons (look_eq rfl (by simp)) (.nil _)))))), fun w h => h.drop2⟩
          · skip
            have hup : E.up = true := by cases h : E.up <;> simp_all
            have hfe : E.sem.fused = E.fuse := by show (if E.up then E.fuse else 0) = _; rw [hup]; rfl
            refine WC.skip ?_
            refine WC.seq ?_
            refine WC.seq ?_
            refine WC.region ?_
            refine WL.val (V.move (OV.p rfl)) rfl ?_
            refine WL.call (vs := [_]) Try.call28 ⟨OV.p rfl, trivial⟩ (chip_Fuse (C := E)) rfl ?_
            rintro _ H0 ⟨rfl, h0⟩
            subst H0
            refine WL.val (V.move (OV.p rfl)) rfl ?_
            refine WL.val (V.lss (OV.p rfl) (OV.p rfl)) rfl ?_
            refine WL.nil ?_
            refine WC.cond rfl (fun hc13 => ?_) (fun hc13 => ?_)
            · simp only [decide_eq_true_eq, decide_eq_false_iff_not] at hc13
              have h13 := hc13
              exfalso
              rw [hfe] at h13
              omega
            · simp only [decide_eq_true_eq, decide_eq_false_iff_not] at hc13
              have h13 := hc13
              refine WC.skip ?_
              refine WC.seq ?_
              refine WC.region ?_
              refine WL.val (V.move (OV.p rfl)) rfl ?_
              refine WL.call (vs := [_]) Try.call28 ⟨OV.p rfl, trivial⟩ (chip_Fuse (C := E)) rfl ?_
              rintro _ H0 ⟨rfl, h0⟩
              subst H0
              refine WL.val (V.assign (OV.p rfl)) rfl ?_
              refine WL.nil ?_
              refine WC.seq ?_
              refine WC.region ?_
              refine WL.val (V.assign (OV.p rfl)) rfl ?_
              refine WL.nil ?_
              refine WC.block ?_
              refine WC.loop (σ := Nat × List Bool) (fun x => [(2, .slice A m cap'), (3, ptr b3 0), (7, ptr bc 0), (9, .int .i64 E.sem.fused), (10, .slice (some ⟨b46, 0, none⟩) g.bl.toNat g.bl.toNat), (11, .int .i64 (i : Int)), (13, .int .i64 (x.1 : Int))]) (fun x => E.A bc :: Cells b12 45 o.cells :: Cells b46 4 (x.2.map Value.bool) :: Cells b3 23 [.int .i64 g.bl, .int .i64 g.pg, .int .i64 g.se, .int .i64 g.sb, .int .i64 g.fl] :: F) (fun x => (x.1 : Int) ≤ g.bl ∧ x.2.length = g.bl.toNat ∧ ∀ j : Nat, x.2.getD j false = true → E.marked j = true) (fun x => g.bl.toNat - x.1) (0, mk) ⟨by show ((0 : Nat) : Int) ≤ g.bl; omega, hmk, hEm'⟩ (.cons rfl (.cons rfl (.cons rfl (.cons rfl (.cons rfl (.cons rfl (.cons rfl (.nil _)))))))) (fun w h => h) ?_
              rintro ⟨j, mk2⟩ ⟨hj, hmk2, hmm2⟩
              dsimp only at hj hmk2 hmm2 ⊢
              refine WC.seq ?_
              refine WC.seq ?_
              refine WC.region ?_
              refine WL.val (V.move (OV.p rfl)) rfl ?_
              refine WL.val (V.fieldAddr fo23_0 (OV.p rfl)) rfl ?_
              refine WL.val (V.load Try.isAgg3 (OV.p rfl) (fun _ => by repeat (first | exact Rd.here rfl | apply Rd.up))) rfl ?_
              refine WL.val (V.lss (OV.p rfl) (OV.p rfl)) rfl ?_
              refine WL.nil ?_
              refine WC.cond rfl (fun hc14 => ?_) (fun hc14 => ?_)
              · try simp only [decide_eq_true_eq, decide_eq_false_iff_not, Bool.and_eq_true, Bool.or_eq_true, Bool.and_eq_false_iff, Bool.or_eq_false_iff, Bool.not_eq_true', Bool.not_eq_false', Bool.not_eq_true, Bool.not_eq_false, Int.not_lt, Int.not_le] at hc14
                refine WC.skip ?_
                refine WC.seq ?_
                refine WC.block ?_
                refine WC.seq ?_
                refine WC.seq ?_
                have htj : (j : Int).toNat = j := by omega
                have hget : (mk2.map Value.bool)[0 + (j : Int).toNat * 1]? = some (.bool (mk2.getD j false)) := by rw [htj]; exact bools_at (by omega)
                refine WC.region ?_
                refine WL.val (V.move (OV.p rfl)) rfl ?_
                refine WL.val (V.move (OV.p rfl)) rfl ?_
                refine WL.val (V.idxB st43 (OV.p rfl) (OV.p rfl) (fun hc => by first | omega | (simp at hc; omega))) rfl ?_
                refine WL.val (V.load Try.isAgg4 (OV.p rfl) (fun _ => by repeat (first | exact Rd.here hget | apply Rd.up))) rfl ?_
                refine WL.val (V.move (OV.p rfl)) rfl ?_
                refine WL.valG (oj := _) rfl rfl rfl GC.t (V.move (OV.p rfl)) rfl ?_
                refine WL.valG (oj := _) rfl rfl rfl GC.t (V.move (OV.p rfl)) rfl ?_
                refine WL.callG (oj := _) (vs := [_, _]) rfl rfl rfl GC.t Try.call29 ⟨OV.g rfl id, OV.g rfl id, trivial⟩ (fun hg => chip_Bad (C := E) _) rfl ?_
                refine WL.valG (oj := _) rfl rfl rfl GC.t (V.not (OV.g rfl id)) rfl ?_
                refine WL.val (V.pickAnd (OV.p rfl) (OV.g rfl id)) rfl ?_
                refine WL.nil ?_
                refine WC.cond rfl (fun hc15 => ?_) (fun hc15 => ?_)
                · skip
                  have h15 := hc15
                  exfalso
                  rw [Bool.and_eq_true] at h15
                  have h1 : E.sem.bad j = true := by show (E.up && E.marked j) = true; rw [hup, hmm2 j h15.1]; rfl
                  have h2 := h15.2
                  rw [h1] at h2
                  cases h2
                · skip
                  have h15 := hc15
                  refine WC.skip ?_
                  refine WC.region ?_
                  refine WL.val (V.move (OV.p rfl)) rfl ?_
                  refine WL.val (V.move (OV.p rfl)) rfl ?_
                  refine WL.val (V.move (OV.p rfl)) rfl ?_
                  refine WL.val (V.move (OV.p rfl)) rfl ?_
                  refine WL.call (vs := [_, _]) Try.call29 ⟨OV.p rfl, OV.p rfl, trivial⟩ (chip_Bad (C := E) _) rfl ?_
                  rintro _ H0 ⟨rfl, h0⟩
                  subst H0
                  refine WL.val (V.idxB st43 (OV.p rfl) (OV.p rfl) (fun hc => by first | omega | (simp at hc; omega))) rfl ?_
                  refine WL.store (cs := [_]) Try.sizeOf4 (OV.p rfl) (OV.p rfl) rfl rfl rfl (by repeat (first | exact Upd.at_ (by rw [List.length_map]; omega) | apply Upd.up)) ?_
                  refine WL.nil ?_
                  refine WC.region ?_
                  refine WL.val (V.move (OV.p rfl)) rfl ?_
                  refine WL.val (V.addI (OV.p rfl) (OV.p rfl) (fun hc => by first | omega | (simp at hc; omega))) rfl ?_
                  refine WL.val (V.assign (OV.p rfl)) rfl ?_
                  refine WL.nil ?_
                  refine ⟨rfl, ?_⟩
                  refine ⟨(j + 1, mk2.set j (E.sem.bad j)), ⟨by show ((j + 1 : Nat) : Int) ≤ g.bl; omega, by show (mk2.set j _).length = _; rw [List.length_set]; exact hmk2, fun j' h => ?_⟩, (by show g.bl.toNat - (j + 1) < g.bl.toNat - j; omega), .cons rfl (.cons rfl (.cons rfl (.cons rfl (.cons rfl (.cons rfl (.cons (look_eq rfl (by simp)) (.nil _))))))), fun w h => ?_⟩
                  · simp only [List.getD, List.getElem?_set] at h
                    by_cases hjj : j = j'
                    · subst hjj
                      rw [if_pos rfl, if_pos (by omega)] at h
                      have h' : (E.up && E.marked j) = true := h
                      rw [Bool.and_eq_true] at h'
                      exact h'.2
                    · rw [if_neg hjj] at h
                      exact hmm2 j' h
                  · rw [htj, Nat.zero_add, Nat.mul_one] at h
                    show Sat K w (_ :: _ :: Cells b46 _ ((mk2.set j (E.sem.bad j)).map Value.bool) :: _)
                    rw [List.map_set]
                    exact h
              · try simp only [decide_eq_true_eq, decide_eq_false_iff_not, Bool.and_eq_true, Bool.or_eq_true, Bool.and_eq_false_iff, Bool.or_eq_false_iff, Bool.not_eq_true', Bool.not_eq_false', Bool.not_eq_true, Bool.not_eq_false, Int.not_lt, Int.not_le] at hc14
                refine WC.exit ?_
                refine WC.region ?_
                refine WL.val (V.move (OV.p rfl)) rfl ?_
                refine WL.val (V.addI (OV.p rfl) (OV.p rfl) (fun hc => by first | omega | (simp at hc; omega))) rfl ?_
                refine WL.val (V.assign (OV.p rfl)) rfl ?_
                refine WL.nil ?_
                refine ⟨rfl, ?_⟩
                first
                | exact ⟨(i + 1, E, E.sem.fused, mk2), ⟨by show i + 1 ≤ m; omega, hEo, by show E.sem.fused ≤ E.fuse; rw [hfe]; exact Int.le_refl _, hmk2, hmm2⟩, (by show m - (i + 1) < m - i; omega), .cons rfl (.cons rfl (.cons rfl (.cons rfl (.cons rfl (.cons (look_eq rfl (by simp)) (.nil _)))))), fun w h => h.drop2⟩
                | exact ⟨(i + 1, E, fu, mk), ⟨by show i + 1 ≤ m; omega, hEo, Int.le_trans hfu hEf', hmk, hEm'⟩, (by show m - (i + 1) < m - i; omega), .cons rfl (.cons rfl (.cons rfl (.cons rfl (.cons rfl (.cons (look_eq rfl (by simp)) (.nil _)))))), fun w h => h.drop2⟩
        · skip
          refine WC.seq ?_
          refine WC.region ?_
          refine WL.val (V.eql (OV.p rfl) (OV.p rfl)) rfl ?_
          refine WL.val (V.assign (OV.p rfl)) rfl ?_
          refine WL.nil ?_
          refine WC.cond rfl (fun hc4 => ?_) (fun hc4 => ?_)
          · skip
            refine WC.region ?_
            refine WL.val (V.move (OV.p rfl)) rfl ?_
            refine WL.val (V.fieldAddr fo45_1 (OV.p rfl)) rfl ?_
            refine WL.val (V.load Try.isAgg3 (OV.p rfl) (fun _ => by repeat (first | exact Rd.here rfl | apply Rd.up))) rfl ?_
            refine WL.call (vs := [_, _]) Try.call20 ⟨OV.p rfl, OV.p rfl, trivial⟩ (chip_Erase hC o.block) rfl ?_
            rintro v1 _ ⟨D, hD, rfl, s1, hv1⟩
            have hk : Chip.Keeps C.sem D.sem := by rw [s1]; exact Chip.keeps_erase _ _
            refine WL.nil ?_
            refine WC.seq ?_
            refine WC.seq ?_
            first
            | refine WC.toInvE (fun E : Cw => E.Ok ∧ Chip.Keeps C.sem E.sem) (fun _ => [(2, .slice A m cap'), (3, ptr b3 0), (7, ptr bc 0), (9, .int .i64 fu), (10, .slice (some ⟨b46, 0, none⟩) g.bl.toNat g.bl.toNat), (11, .int .i64 (i : Int))]) (fun E => E.A bc :: Cells b12 45 o.cells :: Cells b46 4 (mk.map Value.bool) :: Cells b3 23 [.int .i64 g.bl, .int .i64 g.pg, .int .i64 g.se, .int .i64 g.sb, .int .i64 g.fl] :: F) D ⟨hD, hk⟩ (.cons rfl (.cons rfl (.cons rfl (.cons rfl (.cons rfl (.cons rfl (.nil _))))))) (fun w h => h) (fun E hE => ?_)
            | refine WC.toInvE (fun E : Cw => E.Ok ∧ Chip.Keeps C.sem E.sem) (fun _ => [(2, .slice A m cap'), (3, ptr b3 0), (7, ptr bc 0), (9, .int .i64 fu), (10, .slice (some ⟨b46, 0, none⟩) g.bl.toNat g.bl.toNat), (11, .int .i64 (i : Int))]) (fun E => E.A bc :: Cells b12 45 o.cells :: Cells b46 4 (mk.map Value.bool) :: Cells b3 23 [.int .i64 g.bl, .int .i64 g.pg, .int .i64 g.se, .int .i64 g.sb, .int .i64 g.fl] :: F) C ⟨hC, Chip.Keeps.refl _⟩ (.cons rfl (.cons rfl (.cons rfl (.cons rfl (.cons rfl (.cons rfl (.nil _))))))) (fun w h => h) (fun E hE => ?_)
            obtain ⟨hEo, hEf, hEm, hEg⟩ := hE
            have hEf' : C.fuse ≤ E.fuse := hEf
            have hEm' : ∀ j : Nat, mk.getD j false = true → E.marked j = true := fun j h => hEm _ (hmm j h)
            refine WC.region ?_
            refine WL.val (V.move (OV.p rfl)) rfl ?_
            refine WL.call (vs := [_]) Try.call18 ⟨OV.p rfl, trivial⟩ (chip_Up (C := E)) rfl ?_
            rintro _ H0 ⟨rfl, h0⟩
            subst H0
            refine WL.val (V.not (OV.p rfl)) rfl ?_
            refine WL.nil ?_
            refine WC.cond rfl (fun hc12 => ?_) (fun hc12 => ?_)
            · skip
              skip
              refine WC.exit ?_
              refine WC.region ?_
              refine WL.val (V.move (OV.p rfl)) rfl ?_
              refine WL.val (V.addI (OV.p rfl) (OV.p rfl) (fun hc => by first | omega | (simp at hc; omega))) rfl ?_
              refine WL.val (V.assign (OV.p rfl)) rfl ?_
              refine WL.nil ?_
              refine ⟨rfl, ?_⟩
              first
              | exact ⟨(i + 1, E, E.sem.fused, mk2), ⟨by show i + 1 ≤ m; omega, hEo, by show E.sem.fused ≤ E.fuse; rw [hfe]; exact Int.le_refl _, hmk2, hmm2⟩, (by show m - (i + 1) < m - i; omega), .cons rfl (.cons rfl (.cons rfl (.cons rfl (.cons rfl (.cons (look_eq rfl (by simp)) (.nil _)))))), fun w h => h.drop2⟩
              | exact ⟨(i + 1, E, fu, mk), ⟨by show i + 1 ≤ m; omega, hEo, Int.le_trans hfu hEf', hmk, hEm'⟩, (by show m - (i + 1) < m - i; omega), .cons rfl (.cons rfl (.cons rfl (.cons rfl (.cons rfl (.cons (look_eq rfl (by simp)) (.nil _)))))), fun w h => h.drop2⟩
            · skip
              have hup : E.up = true := by cases h : E.up <;> simp_all
              have hfe : E.sem.fused = E.fuse := by show (if E.up then E.fuse else 0) = _; rw [hup]; rfl
              refine WC.skip ?_
              refine WC.seq ?_
              refine WC.seq ?_
              refine WC.region ?_
              refine WL.val (V.move (OV.p rfl)) rfl ?_
              refine WL.call (vs := [_]) Try.call28 ⟨OV.p rfl, trivial⟩ (chip_Fuse (C := E)) rfl ?_
              rintro _ H0 ⟨rfl, h0⟩
              subst H0
              refine WL.val (V.move (OV.p rfl)) rfl ?_
              refine WL.val (V.lss (OV.p rfl) (OV.p rfl)) rfl ?_
              refine WL.nil ?_
              refine WC.cond rfl (fun hc13 => ?_) (fun hc13 => ?_)
              · simp only [decide_eq_true_eq, decide_eq_false_iff_not] at hc13
                have h13 := hc13
                exfalso
                rw [hfe] at h13
                omega
              · simp only [decide_eq_true_eq, decide_eq_false_iff_not] at hc13
                have h13 := hc13
                refine WC.skip ?_
                refine WC.seq ?_
                refine WC.region ?_
                refine WL.val (V.move (OV.p rfl)) rfl ?_
                refine WL.call (vs := [_]) Try.call28 ⟨OV.p rfl, trivial⟩ (chip_Fuse (C := E)) rfl ?_
                rintro _ H0 ⟨rfl, h0⟩
                subst H0
                refine WL.val (V.assign (OV.p rfl)) rfl ?_
                refine WL.nil ?_
                refine WC.seq ?_
                refine WC.region ?_
                refine WL.val (V.assign (OV.p rfl)) rfl ?_
                refine WL.nil ?_
                refine WC.block ?_
                refine WC.loop (σ := Nat × List Bool) (fun x => [(2, .slice A m cap'), (3, ptr b3 0), (7, ptr bc 0), (9, .int .i64 E.sem.fused), (10, .slice (some ⟨b46, 0, none⟩) g.bl.toNat g.bl.toNat), (11, .int .i64 (i : Int)), (13, .int .i64 (x.1 : Int))]) (fun x => E.A bc :: Cells b12 45 o.cells :: Cells b46 4 (x.2.map Value.bool) :: Cells b3 23 [.int .i64 g.bl, .int .i64 g.pg, .int .i64 g.se, .int .i64 g.sb, .int .i64 g.fl] :: F) (fun x => (x.1 : Int) ≤ g.bl ∧ x.2.length = g.bl.toNat ∧ ∀ j : Nat, x.2.getD j false = true → E.marked j = true) (fun x => g.bl.toNat - x.1) (0, mk) ⟨by show ((0 : Nat) : Int) ≤ g.bl; omega, hmk, hEm'⟩ (.cons rfl (.cons rfl (.cons rfl (.cons rfl (.cons rfl (.cons rfl (.cons rfl (.nil _)))))))) (fun w h => h) ?_
                rintro ⟨j, mk2⟩ ⟨hj, hmk2, hmm2⟩
                dsimp only at hj hmk2 hmm2 ⊢
                refine WC.seq ?_
                refine WC.seq ?_
                refine WC.region ?_
                refine WL.val (V.move (OV.p rfl)) rfl ?_
                refine WL.val (V.fieldAddr fo23_0 (OV.p rfl)) rfl ?_
                refine WL.val (V.load Try.isAgg3 (OV.p rfl) (fun _ => by repeat (first | exact Rd.here rfl | apply Rd.up))) rfl ?_
                refine WL.val (V.lss (OV.p rfl) (OV.p rfl)) rfl ?_
                refine WL.nil ?_
                refine WC.cond rfl (fun hc14 => ?_) (fun hc14 => ?_)
                · try simp only [decide_eq_true_eq, decide_eq_false_iff_not, Bool.and_eq_true, Bool.or_eq_true, Bool.and_eq_false_iff, Bool.or_eq_false_iff, Bool.not_eq_true', Bool.not_eq_false', Bool.not_eq_true, Bool.not_eq_false, Int.not_lt, Int.not_le] at hc14
                  refine WC.skip ?_
                  refine WC.seq ?_
                  refine WC.block ?_
                  refine WC.seq ?_
                  refine WC.seq ?_
                  have htj : (j : Int).toNat = j := by omega
                  have hget : (mk2.map Value.bool)[0 + (j : Int).toNat * 1]? = some (.bool (mk2.getD j false)) := by rw [htj]; exact bools_at (by omega)
                  refine WC.region ?_
                  refine WL.val (V.move (OV.p rfl)) rfl ?_
                  refine WL.val (V.move (OV.p rfl)) rfl ?_
                  refine WL.val (V.idxB st43 (OV.p rfl) (OV.p rfl) (fun hc => by first | omega | (simp at hc; omega))) rfl ?_
                  refine WL.val (V.load Try.isAgg4 (OV.p rfl) (fun _ => by repeat (first | exact Rd.here hget | apply Rd.up))) rfl ?_
                  refine WL.val (V.move (OV.p rfl)) rfl ?_
                  refine WL.valG (oj := _) rfl rfl rfl GC.t (V.move (OV.p rfl)) rfl ?_
                  refine WL.valG (oj := _) rfl rfl rfl GC.t (V.move (OV.p rfl)) rfl ?_
                  refine WL.callG (oj := _) (vs := [_, _]) rfl rfl rfl GC.t Try.call29 ⟨OV.g rfl id, OV.g rfl id, trivial⟩ (fun hg => chip_Bad (C := E) _) rfl ?_
                  refine WL.valG (oj := _) rfl rfl rfl GC.t (V.not (OV.g rfl id)) rfl ?_
                  refine WL.val (V.pickAnd (OV.p rfl) (OV.g rfl id)) rfl ?_
                  refine WL.nil ?_
                  refine WC.cond rfl (fun hc15 => ?_) (fun hc15 => ?_)
                  · skip
                    have h15 := hc15
                    exfalso
                    rw [Bool.and_eq_true] at h15
                    have h1 : E.sem.bad j = true := by show (E.up && E.marked j) = true; rw [hup, hmm2 j h15.1]; rfl
                    have h2 := h15.2
                    rw [h1] at h2
                    cases h2
                  · skip
                    have h15 := hc15
                    refine WC.skip ?_
                    refine WC.region ?_
                    refine WL.val (V.move (OV.p rfl)) rfl ?_
                    refine WL.val (V.move (OV.p rfl)) rfl ?_
                    refine WL.val (V.move (OV.p rfl)) rfl ?_
                    refine WL.val (V.move (OV.p rfl)) rfl ?_
                    refine WL.call (vs := [_, _]) Try.call29 ⟨OV.p rfl, OV.p rfl, trivial⟩ (chip_Bad (C := E) _) rfl ?_
                    rintro _ H0 ⟨rfl, h0⟩
                    subst H0
                    refine WL.val (V.idxB st43 (OV.p rfl) (OV.p rfl) (fun hc => by first | omega | (simp at hc; omega))) rfl ?_
                    refine WL.store (cs := [_]) Try.sizeOf4 (OV.p rfl) (OV.p rfl) rfl rfl rfl (by repeat (first | exact Upd.at_ (by rw [List.length_map]; omega) | apply Upd.up)) ?_
                    refine WL.nil ?_
                    refine WC.region ?_
                    refine WL.val (V.move (OV.p rfl)) rfl ?_
                    refine WL.val (V.addI (OV.p rfl) (OV.p rfl) (fun hc => by first | omega | (simp at hc; omega))) rfl ?_
                    refine WL.val (V.assign (OV.p rfl)) rfl ?_
                    refine WL.nil ?_
                    refine ⟨rfl, ?_⟩
                    refine ⟨(j + 1, mk2.set j (E.sem.bad j)), ⟨by show ((j + 1 : Nat) : Int) ≤ g.bl; omega, by show (mk2.set j _).length = _; rw [List.length_set]; exact hmk2, fun j' h => ?_⟩, (by show g.bl.toNat - (j + 1) < g.bl.toNat - j; omega), .cons rfl (.cons rfl (.cons rfl (.cons rfl (.cons rfl (.cons rfl (.cons (look_eq rfl (by simp)) (.nil _))))))), fun w h => ?_⟩
                    · simp only [List.getD, List.getElem?_set] at h
                      by_cases hjj : j = j'
                      · subst hjj
                        rw [if_pos rfl, if_pos (by omega)] at h
                        have h' : (E.up && E.marked j) = true := h
                        rw [Bool.and_eq_true] at h'
                        exact h'.2
                      · rw [if_neg hjj] at h
                        exact hmm2 j' h
                    · rw [htj, Nat.zero_add, Nat.mul_one] at h
                      show Sat K w (_ :: _ :: Cells b46 _ ((mk2.set j (E.sem.bad j)).map Value.bool) :: _)
                      rw [List.map_set]
                      exact h
                · try simp only [decide_eq_true_eq, decide_eq_false_iff_not, Bool.and_eq_true, Bool.or_eq_true, Bool.and_eq_false_iff, Bool.or_eq_false_iff, Bool.not_eq_true', Bool.not_eq_false', Bool.not_eq_true, Bool.not_eq_false, Int.not_lt, Int.not_le] at hc14
                  refine WC.exit ?_
                  refine WC.region ?_
                  refine WL.val (V.move (OV.p rfl)) rfl ?_
                  refine WL.val (V.addI (OV.p rfl) (OV.p rfl) (fun hc => by first | omega | (simp at hc; omega))) rfl ?_
                  refine WL.val (V.assign (OV.p rfl)) rfl ?_
                  refine WL.nil ?_
                  refine ⟨rfl, ?_⟩
                  first
                  | exact ⟨(i + 1, E, E.sem.fused, mk2), ⟨by show i + 1 ≤ m; omega, hEo, by show E.sem.fused ≤ E.fuse; rw [hfe]; exact Int.le_refl _, hmk2, hmm2⟩, (by show m - (i + 1) < m - i; omega), .cons rfl (.cons rfl (.cons rfl (.cons rfl (.cons rfl (.cons (look_eq rfl (by simp)) (.nil _)))))), fun w h => h.drop2⟩
                  | exact ⟨(i + 1, E, fu, mk), ⟨by show i + 1 ≤ m; omega, hEo, Int.le_trans hfu hEf', hmk, hEm'⟩, (by show m - (i + 1) < m - i; omega), .cons rfl (.cons rfl (.cons rfl (.cons rfl (.cons rfl (.cons (look_eq rfl (by simp)) (.nil _)))))), fun w h => h.drop2⟩
          · skip
            refine WC.seq ?_
            refine WC.region ?_
            refine WL.val (V.eql (OV.p rfl) (OV.p rfl)) rfl ?_
            refine WL.val (V.assign (OV.p rfl)) rfl ?_
            refine WL.nil ?_
            refine WC.cond rfl (fun hc5 => ?_) (fun hc5 => ?_)
            · skip
              refine WC.region ?_
              refine WL.val (V.move (OV.p rfl)) rfl ?_
              refine WL.val (V.fieldAddr fo45_1 (OV.p rfl)) rfl ?_
              refine WL.val (V.load Try.isAgg3 (OV.p rfl) (fun _ => by repeat (first | exact Rd.here rfl | apply Rd.up))) rfl ?_
              refine WL.call (vs := [_, _]) Try.call23 ⟨OV.p rfl, OV.p rfl, trivial⟩ (chip_Mark hC o.block) rfl ?_
              rintro v1 _ ⟨D, hD, rfl, s1, hv1⟩
              have hk : Chip.Keeps C.sem D.sem := by rw [s1]; exact Chip.keeps_mark _ _
              refine WL.nil ?_
              refine WC.seq ?_
              refine WC.seq ?_
              first
              | refine WC.toInvE (fun E : Cw => E.Ok ∧ Chip.Keeps C.sem E.sem) (fun _ => [(2, .slice A m cap'), (3, ptr b3 0), (7, ptr bc 0), (9, .int .i64 fu), (10, .slice (some ⟨b46, 0, none⟩) g.bl.toNat g.bl.toNat), (11, .int .i64 (i : Int))]) (fun E => E.A bc :: Cells b12 45 o.cells :: Cells b46 4 (mk.map Value.bool) :: Cells b3 23 [.int .i64 g.bl, .int .i64 g.pg, .int .i64 g.se, .int .i64 g.sb, .int .i64 g.fl] :: F) D ⟨hD, hk⟩ (.cons rfl (.cons rfl (.cons rfl (.cons rfl (.cons rfl (.cons rfl (.nil _))))))) (fun w h => h) (fun E hE => ?_)
              | refine WC.toInvE (fun E : Cw => E.Ok ∧ Chip.Keeps C.sem E.sem) (fun _ => [(2, .slice A m cap'), (3, ptr b3 0), (7, ptr bc 0), (9, .int .i64 fu), (10, .slice (some ⟨b46, 0, none⟩) g.bl.toNat g.bl.toNat), (11, .int .i64 (i : Int))]) (fun E => E.A bc :: Cells b12 45 o.cells :: Cells b46 4 (mk.map Value.bool) :: Cells b3 23 [.int .i64 g.bl, .int .i64 g.pg, .int .i64 g.se, .int .i64 g.sb, .int .i64 g.fl] :: F) C ⟨hC, Chip.Keeps.refl _⟩ (.cons rfl (.cons rfl (.cons rfl (.cons rfl (.cons rfl (.cons rfl (.nil _))))))) (fun w h => h) (fun E hE => ?_)
              obtain ⟨hEo, hEf, hEm, hEg⟩ := hE
              have hEf' : C.fuse ≤ E.fuse := hEf
              have hEm' : ∀ j : Nat, mk.getD j false = true → E.marked j = true := fun j h => hEm _ (hmm j h)
              refine WC.region ?_
              refine WL.val (V.move (OV.p rfl)) rfl ?_
              refine WL.call (vs := [_]) Try.call18 ⟨OV.p rfl, trivial⟩ (chip_Up (C := E)) rfl ?_
              rintro _ H0 ⟨rfl, h0⟩
              subst H0
              refine WL.val (V.not (OV.p rfl)) rfl ?_
              refine WL.nil ?_
              refine WC.cond rfl (fun hc12 => ?_) (fun hc12 => ?_)
              · skip
                skip
                refine WC.exit ?_
                refine WC.region ?_
                refine WL.val (V.move (OV.p rfl)) rfl ?_
                refine WL.val (V.addI (OV.p rfl) (OV.p rfl) (fun hc => by first | omega | (simp at hc; omega))) rfl ?_
                refine WL.val (V.assign (OV.p rfl)) rfl ?_
                refine WL.nil ?_
                refine ⟨rfl, ?_⟩
                first
                | exact ⟨(i + 1, E, E.sem.fused, mk2), ⟨by show i + 1 ≤ m; omega, hEo, by show E.sem.fused ≤ E.fuse; rw [hfe]; exact Int.le_refl _, hmk2, hmm2⟩, (by show m - (i + 1) < m - i; omega), .cons rfl (.cons rfl (.cons rfl (.cons rfl (.cons rfl (.cons (look_eq rfl (by simp)) (.nil _)))))), fun w h => h.drop2⟩
                | exact ⟨(i + 1, E, fu, mk), ⟨by show i + 1 ≤ m; omega, hEo, Int.le_trans hfu hEf', hmk, hEm'⟩, (by show m - (i + 1) < m - i; omega), .cons rfl (.cons rfl (.cons rfl (.cons rfl (.cons rfl (.cons (look_eq rfl (by simp)) (.nil _)))))), fun w h => h.drop2⟩
              · skip
                have hup : E.up = true := by cases h : E.up <;> simp_all
                have hfe : E.sem.fused = E.fuse := by show (if E.up then E.fuse else 0) = _; rw [hup]; rfl
                refine WC.skip ?_
                refine WC.seq ?_
                refine WC.seq ?_
                refine WC.region ?_
                refine WL.val (V.move (OV.p rfl)) rfl ?_
                refine WL.call (vs := [_]) Try.call28 ⟨OV.p rfl, trivial⟩ (chip_Fuse (C := E)) rfl ?_
                rintro _ H0 ⟨rfl, h0⟩
                subst H0
                refine WL.val (V.move (OV.p rfl)) rfl ?_
                refine WL.val (V.lss (OV.p rfl) (OV.p rfl)) rfl ?_
                refine WL.nil ?_
                refine WC.cond rfl (fun hc13 => ?_) (fun hc13 => ?_)
                · simp only [decide_eq_true_eq, decide_eq_false_iff_not] at hc13
                  have h13 := hc13
                  exfalso
                  rw [hfe] at h13
                  omega
                · simp only [decide_eq_true_eq, decide_eq_false_iff_not] at hc13
                  have h13 := hc13
                  refine WC.skip ?_
                  refine WC.seq ?_
                  refine WC.region ?_
                  refine WL.val (V.move (OV.p rfl)) rfl ?_
                  refine WL.call (vs := [_]) Try.call28 ⟨OV.p rfl, trivial⟩ (chip_Fuse (C := E)) rfl ?_
                  rintro _ H0 ⟨rfl, h0⟩
                  subst H0
                  refine WL.val (V.assign (OV.p rfl)) rfl ?_
                  refine WL.nil ?_
                  refine WC.seq ?_
                  refine WC.region ?_
                  refine WL.val (V.assign (OV.p rfl)) rfl ?_
                  refine WL.nil ?_
                  refine WC.block ?_
                  refine WC.loop (σ := Nat × List Bool) (fun x => [(2, .slice A m cap'), (3, ptr b3 0), (7, ptr bc 0), (9, .int .i64 E.sem.fused), (10, .slice (some ⟨b46, 0, none⟩) g.bl.toNat g.bl.toNat), (11, .int .i64 (i : Int)), (13, .int .i64 (x.1 : Int))]) (fun x => E.A bc :: Cells b12 45 o.cells :: Cells b46 4 (x.2.map Value.bool) :: Cells b3 23 [.int .i64 g.bl, .int .i64 g.pg, .int .i64 g.se, .int .i64 g.sb, .int .i64 g.fl] :: F) (fun x => (x.1 : Int) ≤ g.bl ∧ x.2.length = g.bl.toNat ∧ ∀ j : Nat, x.2.getD j false = true → E.marked j = true) (fun x => g.bl.toNat - x.1) (0, mk) ⟨by show ((0 : Nat) : Int) ≤ g.bl; omega, hmk, hEm'⟩ (.cons rfl (.cons rfl (.cons rfl (.cons rfl (.cons rfl (.cons rfl (.cons rfl (.nil _)))))))) (fun w h => h) ?_
                  rintro ⟨j, mk2⟩ ⟨hj, hmk2, hmm2⟩
                  dsimp only at hj hmk2 hmm2 ⊢
                  refine WC.seq ?_
                  refine WC.seq ?_
                  refine WC.region ?_
                  refine WL.val (V.move (OV.p rfl)) rfl ?_
                  refine WL.val (V.fieldAddr fo23_0 (OV.p rfl)) rfl ?_
                  refine WL.val (V.load Try.isAgg3 (OV.p rfl) (fun _ => by repeat (first | exact Rd.here rfl | apply Rd.up))) rfl ?_
                  refine WL.val (V.lss (OV.p rfl) (OV.p rfl)) rfl ?_
                  refine WL.nil ?_
                  refine WC.cond rfl (fun hc14 => ?_) (fun hc14 => ?_)
                  · try simp only [decide_eq_true_eq, decide_eq_false_iff_not, Bool.and_eq_true, Bool.or_eq_true, Bool.and_eq_false_iff, Bool.or_eq_false_iff, Bool.not_eq_true', Bool.not_eq_false', Bool.not_eq_true, Bool.not_eq_false, Int.not_lt, Int.not_le] at hc14
                    refine WC.skip ?_
                    refine WC.seq ?_
                    refine WC.block ?_
                    refine WC.seq ?_
                    refine WC.seq ?_
                    have htj : (j : Int).toNat = j := by omega
                    have hget : (mk2.map Value.bool)[0 + (j : Int).toNat * 1]? = some (.bool (mk2.getD j false)) := by rw [htj]; exact bools_at (by omega)
                    refine WC.region ?_
                    refine WL.val (V.move (OV.p rfl)) rfl ?_
                    refine WL.val (V.move (OV.p rfl)) rfl ?_
                    refine WL.val (V.idxB st43 (OV.p rfl) (OV.p rfl) (fun hc => by first | omega | (simp at hc; omega))) rfl ?_
                    refine WL.val (V.load Try.isAgg4 (OV.p rfl) (fun _ => by repeat (first | exact Rd.here hget | apply Rd.up))) rfl ?_
                    refine WL.val (V.move (OV.p rfl)) rfl ?_
                    refine WL.valG (oj := _) rfl rfl rfl GC.t (V.move (OV.p rfl)) rfl ?_
                    refine WL.valG (oj := _) rfl rfl rfl GC.t (V.move (OV.p rfl)) rfl ?_
                    refine WL.callG (oj := _) (vs := [_, _]) rfl rfl rfl GC.t Try.call29 ⟨OV.g rfl id, OV.g rfl id, trivial⟩ (fun hg => chip_Bad (C := E) _) rfl ?_
                    refine WL.valG (oj := _) rfl rfl rfl GC.t (V.not (OV.g rfl id)) rfl ?_
                    refine WL.val (V.pickAnd (OV.p rfl) (OV.g rfl id)) rfl ?_
                    refine WL.nil ?_
                    refine WC.cond rfl (fun hc15 => ?_) (fun hc15 => ?_)
                    · skip
                      have h15 := hc15
                      exfalso
                      rw [Bool.and_eq_true] at h15
                      have h1 : E.sem.bad j = true := by show (E.up && E.marked j) = true; rw [hup, hmm2 j h15.1]; rfl
                      have h2 := h15.2
                      rw [h1] at h2
                      cases h2
                    · skip
                      have h15 := hc15
                      refine WC.skip ?_
                      refine WC.region ?_
                      refine WL.val (V.move (OV.p rfl)) rfl ?_
                      refine WL.val (V.move (OV.p rfl)) rfl ?_
                      refine WL.val (V.move (OV.p rfl)) rfl ?_
                      refine WL.val (V.move (OV.p rfl)) rfl ?_
                      refine WL.call (vs := [_, _]) Try.call29 ⟨OV.p rfl, OV.p rfl, trivial⟩ (chip_Bad (C := E) _) rfl ?_
                      rintro _ H0 ⟨rfl, h0⟩
                      subst H0
                      refine WL.val (V.idxB st43 (OV.p rfl) (OV.p rfl) (fun hc => by first | omega | (simp at hc; omega))) rfl ?_
                      refine WL.store (cs := [_]) Try.sizeOf4 (OV.p rfl) (OV.p rfl) rfl rfl rfl (by repeat (first | exact Upd.at_ (by rw [List.length_map]; omega) | apply Upd.up)) ?_
                      refine WL.nil ?_
                      refine WC.region ?_
                      refine WL.val (V.move (OV.p rfl)) rfl ?_
                      refine WL.val (V.addI (OV.p rfl) (OV.p rfl) (fun hc => by first | omega | (simp at hc; omega))) rfl ?_
                      refine WL.val (V.assign (OV.p rfl)) rfl ?_
                      refine WL.nil ?_
                      refine ⟨rfl, ?_⟩
                      refine ⟨(j + 1, mk2.set j (E.sem.bad j)), ⟨by show ((j + 1 : Nat) : Int) ≤ g.bl; omega, by show (mk2.set j _).length = _; rw [List.length_set]; exact hmk2, fun j' h => ?_⟩, (by show g.bl.toNat - (j + 1) < g.bl.toNat - j; omega), .cons rfl (.cons rfl (.cons rfl (.cons rfl (.cons rfl (.cons rfl (.cons (look_eq rfl (by simp)) (.nil _))))))), fun w h => ?_⟩
                      · simp only [List.getD, List.getElem?_set] at h
                        by_cases hjj : j = j'
                        · subst hjj
                          rw [if_pos rfl, if_pos (by omega)] at h
                          have h' : (E.up && E.marked j) = true := h
                          rw [Bool.and_eq_true] at h'
                          exact h'.2
                        · rw [if_neg hjj] at h
                          exact hmm2 j' h
                      · rw [htj, Nat.zero_add, Nat.mul_one] at h
                        show Sat K w (_ :: _ :: Cells b46 _ ((mk2.set j (E.sem.bad j)).map Value.bool) :: _)
                        rw [List.map_set]
                        exact h
                  · try simp only [decide_eq_true_eq, decide_eq_false_iff_not, Bool.and_eq_true, Bool.or_eq_true, Bool.and_eq_false_iff, Bool.or_eq_false_iff, Bool.not_eq_true', Bool.not_eq_false', Bool.not_eq_true, Bool.not_eq_false, Int.not_lt, Int.not_le] at hc14
                    refine WC.exit ?_
                    refine WC.region ?_
                    refine WL.val (V.move (OV.p rfl)) rfl ?_
                    refine WL.val (V.addI (OV.p rfl) (OV.p rfl) (fun hc => by first | omega | (simp at hc; omega))) rfl ?_
                    refine WL.val (V.assign (OV.p rfl)) rfl ?_
                    refine WL.nil ?_
                    refine ⟨rfl, ?_⟩
                    first
                    | exact ⟨(i + 1, E, E.sem.fused, mk2), ⟨by show i + 1 ≤ m; omega, hEo, by show E.sem.fused ≤ E.fuse; rw [hfe]; exact Int.le_refl _, hmk2, hmm2⟩, (by show m - (i + 1) < m - i; omega), .cons rfl (.cons rfl (.cons rfl (.cons rfl (.cons rfl (.cons (look_eq rfl (by simp)) (.nil _)))))), fun w h => h.drop2⟩
                    | exact ⟨(i + 1, E, fu, mk), ⟨by show i + 1 ≤ m; omega, hEo, Int.le_trans hfu hEf', hmk, hEm'⟩, (by show m - (i + 1) < m - i; omega), .cons rfl (.cons rfl (.cons rfl (.cons rfl (.cons rfl (.cons (look_eq rfl (by simp)) (.nil _)))))), fun w h => h.drop2⟩
            · skip
              refine WC.seq ?_
              refine WC.region ?_
              refine WL.val (V.eql (OV.p rfl) (OV.p rfl)) rfl ?_
              refine WL.val (V.assign (OV.p rfl)) rfl ?_
              refine WL.nil ?_
              refine WC.cond rfl (fun hc6 => ?_) (fun hc6 => ?_)
              · skip
                refine WC.region ?_
                refine WL.val (V.move (OV.p rfl)) rfl ?_
                refine WL.val (V.fieldAddr fo45_3 (OV.p rfl)) rfl ?_
                refine WL.val (V.load Try.isAgg3 (OV.p rfl) (fun _ => by repeat (first | exact Rd.here rfl | apply Rd.up))) rfl ?_
                refine WL.call (vs := [_, _]) Try.call24 ⟨OV.p rfl, OV.p rfl, trivial⟩ (chip_Burn hC o.n) rfl ?_
                rintro v1 _ ⟨D, hD, rfl, s1, hv1⟩
                have hk : Chip.Keeps C.sem D.sem := by rw [s1]; exact Chip.keeps_burn _ _
                refine WL.nil ?_
                refine WC.seq ?_
                refine WC.seq ?_
                first
                | refine WC.toInvE (fun E : Cw => E.Ok ∧ Chip.Keeps C.sem E.sem) (fun _ => [(2, .slice A m cap'), (3, ptr b3 0), (7, ptr bc 0), (9, .int .i64 fu), (10, .slice (some ⟨b46, 0, none⟩) g.bl.toNat g.bl.toNat), (11, .int .i64 (i : Int))]) (fun E => E.A bc :: Cells b12 45 o.cells :: Cells b46 4 (mk.map Value.bool) :: Cells b3 23 [.int .i64 g.bl, .int .i64 g.pg, .int .i64 g.se, .int .i64 g.sb, .int .i64 g.fl] :: F) D ⟨hD, hk⟩ (.cons rfl (.cons rfl (.cons rfl (.cons rfl (.cons rfl (.cons rfl (.nil _))))))) (fun w h => h) (fun E hE => ?_)
                | refine WC.toInvE (fun E : Cw => E.Ok ∧ Chip.Keeps C.sem E.sem) (fun _ => [(2, .slice A m cap'), (3, ptr b3 0), (7, ptr bc 0), (9, .int .i64 fu), (10, .slice (some ⟨b46, 0, none⟩) g.bl.toNat g.bl.toNat), (11, .int .i64 (i : Int))]) (fun E => E.A bc :: Cells b12 45 o.cells :: Cells b46 4 (mk.map Value.bool) :: Cells b3 23 [.int .i64 g.bl, .int .i64 g.pg, .int .i64 g.se, .int .i64 g.sb, .int .i64 g.fl] :: F) C ⟨hC, Chip.Keeps.refl _⟩ (.cons rfl (.cons rfl (.cons rfl (.cons rfl (.cons rfl (.cons rfl (.nil _))))))) (fun w h => h) (fun E hE => ?_)
                obtain ⟨hEo, hEf, hEm, hEg⟩ := hE
                have hEf' : C.fuse ≤ E.fuse := hEf
                have hEm' : ∀ j : Nat, mk.getD j false = true → E.marked j = true := fun j h => hEm _ (hmm j h)
                refine WC.region ?_
                refine WL.val (V.move (OV.p rfl)) rfl ?_
                refine WL.call (vs := [_]) Try.call18 ⟨OV.p rfl, trivial⟩ (chip_Up (C := E)) rfl ?_
                rintro _ H0 ⟨rfl, h0⟩
                subst H0
                refine WL.val (V.not (OV.p rfl)) rfl ?_
                refine WL.nil ?_
                refine WC.cond rfl (fun hc12 => ?_) (fun hc12 => ?_)
                · skip
                  skip
                  refine WC.exit ?_
                  refine WC.region ?_
                  refine WL.val (V.move (OV.p rfl)) rfl ?_
                  refine WL.val (V.addI (OV.p rfl) (OV.p rfl) (fun hc => by first | omega | (simp at hc; omega))) rfl ?_
                  refine WL.val (V.assign (OV.p rfl)) rfl ?_
                  refine WL.nil ?_
                  refine ⟨rfl, ?_⟩
                  first
                  | exact ⟨(i + 1, E, E.sem.fused, mk2), ⟨by show i + 1 ≤ m; omega, hEo, by show E.sem.fused ≤ E.fuse; rw [hfe]; exact Int.le_refl _, hmk2, hmm2⟩, (by show m - (i + 1) < m - i; omega), .cons rfl (.cons rfl (.cons rfl (.cons rfl (.cons rfl (.cons (look_eq rfl (by simp)) (.nil _)))))), fun w h => h.drop2⟩
                  | exact ⟨(i + 1, E, fu, mk), ⟨by show i + 1 ≤ m; omega, hEo, Int.le_trans hfu hEf', hmk, hEm'⟩, (by show m - (i + 1) < m - i; omega), .cons rfl (.cons rfl (.cons rfl (.cons rfl (.cons rfl (.cons (look_eq rfl (by simp)) (.nil _)))))), fun w h => h.drop2⟩
                · skip
                  have hup : E.up = true := by cases h : E.up <;> simp_all
                  have hfe : E.sem.fused = E.fuse := by show (if E.up then E.fuse else 0) = _; rw [hup]; rfl
                  refine WC.skip ?_
                  refine WC.seq ?_
                  refine WC.seq ?_
                  refine WC.region ?_
                  refine WL.val (V.move (OV.p rfl)) rfl ?_
                  refine WL.call (vs := [_]) Try.call28 ⟨OV.p rfl, trivial⟩ (chip_Fuse (C := E)) rfl ?_
                  rintro _ H0 ⟨rfl, h0⟩
                  subst H0
                  refine WL.val (V.move (OV.p rfl)) rfl ?_
                  refine WL.val (V.lss (OV.p rfl) (OV.p rfl)) rfl ?_
                  refine WL.nil ?_
                  refine WC.cond rfl (fun hc13 => ?_) (fun hc13 => ?_)
                  · simp only [decide_eq_true_eq, decide_eq_false_iff_not] at hc13
                    have h13 := hc13
                    exfalso
                    rw [hfe] at h13
                    omega
                  · simp only [decide_eq_true_eq, decide_eq_false_iff_not] at hc13
                    have h13 := hc13
                    refine WC.skip ?_
                    refine WC.seq ?_
                    refine WC.region ?_
                    refine WL.val (V.move (OV.p rfl)) rfl ?_
                    refine WL.call (vs := [_]) Try.call28 ⟨OV.p rfl, trivial⟩ (chip_Fuse (C := E)) rfl ?_
                    rintro _ H0 ⟨rfl, h0⟩
                    subst H0
                    refine WL.val (V.assign (OV.p rfl)) rfl ?_
                    refine WL.nil ?_
                    refine WC.seq ?_
                    refine WC.region ?_
                    refine WL.val (V.assign (OV.p rfl)) rfl ?_
                    refine WL.nil ?_
                    refine WC.block ?_
                    refine WC.loop (σ := Nat × List Bool) (fun x => [(2, .slice A m cap'), (3, ptr b3 0), (7, ptr bc 0), (9, .int .i64 E.sem.fused), (10, .slice (some ⟨b46, 0, none⟩) g.bl.toNat g.bl.toNat), (11, .int .i64 (i : Int)), (13, .int .i64 (x.1 : Int))]) (fun x => E.A bc :: Cells b12 45 o.cells :: Cells b46 4 (x.2.map Value.bool) :: Cells b3 23 [.int .i64 g.bl, .int .i64 g.pg, .int .i64 g.se, .int .i64 g.sb, .int .i64 g.fl] :: F) (fun x => (x.1 : Int) ≤ g.bl ∧ x.2.length = g.bl.toNat ∧ ∀ j : Nat, x.2.getD j false = true → E.marked j = true) (fun x => g.bl.toNat - x.1) (0, mk) ⟨by show ((0 : Nat) : Int) ≤ g.bl; omega, hmk, hEm'⟩ (.cons rfl (.cons rfl (.cons rfl (.cons rfl (.cons rfl (.cons rfl (.cons rfl (.nil _)))))))) (fun w h => h) ?_
                    rintro ⟨j, mk2⟩ ⟨hj, hmk2, hmm2⟩
                    dsimp only at hj hmk2 hmm2 ⊢
                    refine WC.seq ?_
                    refine WC.seq ?_
                    refine WC.region ?_
                    refine WL.val (V.move (OV.p rfl)) rfl ?_
                    refine WL.val (V.fieldAddr fo23_0 (OV.p rfl)) rfl ?_
                    refine WL.val (V.load Try.isAgg3 (OV.p rfl) (fun _ => by repeat (first | exact Rd.here rfl | apply Rd.up))) rfl ?_
                    refine WL.val (V.lss (OV.p rfl) (OV.p rfl)) rfl ?_
                    refine WL.nil ?_
                    refine WC.cond rfl (fun hc14 => ?_) (fun hc14 => ?_)
                    · try simp only [decide_eq_true_eq, decide_eq_false_iff_not, Bool.and_eq_true, Bool.or_eq_true, Bool.and_eq_false_iff, Bool.or_eq_false_iff, Bool.not_eq_true', Bool.not_eq_false', Bool.not_eq_true, Bool.not_eq_false, Int.not_lt, Int.not_le] at hc14
                      refine WC.skip ?_
                      refine WC.seq ?_
                      refine WC.block ?_
                      refine WC.seq ?_
                      refine WC.seq ?_
                      have htj : (j : Int).toNat = j := by omega
                      have hget : (mk2.map Value.bool)[0 + (j : Int).toNat * 1]? = some (.bool (mk2.getD j false)) := by rw [htj]; exact bools_at (by omega)
                      refine WC.region ?_
                      refine WL.val (V.move (OV.p rfl)) rfl ?_
                      refine WL.val (V.move (OV.p rfl)) rfl ?_
                      refine WL.val (V.idxB st43 (OV.p rfl) (OV.p rfl) (fun hc => by first | omega | (simp at hc; omega))) rfl ?_
                      refine WL.val (V.load Try.isAgg4 (OV.p rfl) (fun _ => by repeat (first | exact Rd.here hget | apply Rd.up))) rfl ?_
                      refine WL.val (V.move (OV.p rfl)) rfl ?_
                      refine WL.valG (oj := _) rfl rfl rfl GC.t (V.move (OV.p rfl)) rfl ?_
                      refine WL.valG (oj := _) rfl rfl rfl GC.t (V.move (OV.p rfl)) rfl ?_
                      refine WL.callG (oj := _) (vs := [_, _]) rfl rfl rfl GC.t Try.call29 ⟨OV.g rfl id, OV.g rfl id, trivial⟩ (fun hg => chip_Bad (C := E) _) rfl ?_
                      refine WL.valG (oj := _) rfl rfl rfl GC.t (V.not (OV.g rfl id)) rfl ?_
                      refine WL.val (V.pickAnd (OV.p rfl) (OV.g rfl id)) rfl ?_
                      refine WL.nil ?_
                      refine WC.cond rfl (fun hc15 => ?_) (fun hc15 => ?_)
                      · skip
                        have h15 := hc15
                        exfalso
                        rw [Bool.and_eq_true] at h15
                        have h1 : E.sem.bad j = true := by show (E.up && E.marked j) = true; rw [hup, hmm2 j h15.1]; rfl
                        have h2 := h15.2
                        rw [h1] at h2
                        cases h2
                      · skip
                        have h15 := hc15
                        refine WC.skip ?_
                        refine WC.region ?_
                        refine WL.val (V.move (OV.p rfl)) rfl ?_
                        refine WL.val (V.move (OV.p rfl)) rfl ?_
                        refine WL.val (V.move (OV.p rfl)) rfl ?_
                        refine WL.val (V.move (OV.p rfl)) rfl ?_
                        refine WL.call (vs := [_, _]) Try.call29 ⟨OV.p rfl, OV.p rfl, trivial⟩ (chip_Bad (C := E) _) rfl ?_
                        rintro _ H0 ⟨rfl, h0⟩
                        subst H0
                        refine WL.val (V.idxB st43 (OV.p rfl) (OV.p rfl) (fun hc => by first | omega | (simp at hc; omega))) rfl ?_
                        refine WL.store (cs := [_]) Try.sizeOf4 (OV.p rfl) (OV.p rfl) rfl rfl rfl (by repeat (first | exact Upd.at_ (by rw [List.length_map]; omega) | apply Upd.up)) ?_
                        refine WL.nil ?_
                        refine WC.region ?_
                        refine WL.val (V.move (OV.p rfl)) rfl ?_
                        refine WL.val (V.addI (OV.p rfl) (OV.p rfl) (fun hc => by first | omega | (simp at hc; omega))) rfl ?_
                        refine WL.val (V.assign (OV.p rfl)) rfl ?_
                        refine WL.nil ?_
                        refine ⟨rfl, ?_⟩
                        refine ⟨(j + 1, mk2.set j (E.sem.bad j)), ⟨by show ((j + 1 : Nat) : Int) ≤ g.bl; omega, by show (mk2.set j _).length = _; rw [List.length_set]; exact hmk2, fun j' h => ?_⟩, (by show g.bl.toNat - (j + 1) < g.bl.toNat - j; omega), .cons rfl (.cons rfl (.cons rfl (.cons rfl (.cons rfl (.cons rfl (.cons (look_eq rfl (by simp)) (.nil _))))))), fun w h => ?_⟩
                        · simp only [List.getD, List.getElem?_set] at h
                          by_cases hjj : j = j'
                          · subst hjj
                            rw [if_pos rfl, if_pos (by omega)] at h
                            have h' : (E.up && E.marked j) = true := h
                            rw [Bool.and_eq_true] at h'
                            exact h'.2
                          · rw [if_neg hjj] at h
                            exact hmm2 j' h
                        · rw [htj, Nat.zero_add, Nat.mul_one] at h
                          show Sat K w (_ :: _ :: Cells b46 _ ((mk2.set j (E.sem.bad j)).map Value.bool) :: _)
                          rw [List.map_set]
                          exact h
                    · try simp only [decide_eq_true_eq, decide_eq_false_iff_not, Bool.and_eq_true, Bool.or_eq_true, Bool.and_eq_false_iff, Bool.or_eq_false_iff, Bool.not_eq_true', Bool.not_eq_false', Bool.not_eq_true, Bool.not_eq_false, Int.not_lt, Int.not_le] at hc14
                      refine WC.exit ?_
                      refine WC.region ?_
                      refine WL.val (V.move (OV.p rfl)) rfl ?_
                      refine WL.val (V.addI (OV.p rfl) (OV.p rfl) (fun hc => by first | omega | (simp at hc; omega))) rfl ?_
                      refine WL.val (V.assign (OV.p rfl)) rfl ?_
                      refine WL.nil ?_
                      refine ⟨rfl, ?_⟩
                      first
                      | exact ⟨(i + 1, E, E.sem.fused, mk2), ⟨by show i + 1 ≤ m; omega, hEo, by show E.sem.fused ≤ E.fuse; rw [hfe]; exact Int.le_refl _, hmk2, hmm2⟩, (by show m - (i + 1) < m - i; omega), .cons rfl (.cons rfl (.cons rfl (.cons rfl (.cons rfl (.cons (look_eq rfl (by simp)) (.nil _)))))), fun w h => h.drop2⟩
                      | exact ⟨(i + 1, E, fu, mk), ⟨by show i + 1 ≤ m; omega, hEo, Int.le_trans hfu hEf', hmk, hEm'⟩, (by show m - (i + 1) < m - i; omega), .cons rfl (.cons rfl (.cons rfl (.cons rfl (.cons rfl (.cons (look_eq rfl (by simp)) (.nil _)))))), fun w h => h.drop2⟩
              · skip
                refine WC.seq ?_
                refine WC.region ?_
                refine WL.val (V.eql (OV.p rfl) (OV.p rfl)) rfl ?_
                refine WL.val (V.assign (OV.p rfl)) rfl ?_
                refine WL.nil ?_
                refine WC.cond rfl (fun hc7 => ?_) (fun hc7 => ?_)
                · skip
                  refine WC.region ?_
                  refine WL.val (V.move (OV.p rfl)) rfl ?_
                  refine WL.call (vs := [_]) Try.call21 ⟨OV.p rfl, trivial⟩ (chip_On (C := C)) rfl ?_
                  rintro v1 _ rfl
                  obtain ⟨D, hDe⟩ : ∃ D, D = C.on := ⟨_, rfl⟩
                  have hD : D.Ok := by rw [hDe]; exact hC.on
                  have hk : Chip.Keeps C.sem D.sem := by rw [hDe]; exact ⟨Int.le_refl _, fun b h => h, rfl⟩
                  rw [← hDe]
                  refine WL.nil ?_
                  refine WC.seq ?_
                  refine WC.seq ?_
                  first
                  | refine WC.toInvE (fun E : Cw => E.Ok ∧ Chip.Keeps C.sem E.sem) (fun _ => [(2, .slice A m cap'), (3, ptr b3 0), (7, ptr bc 0), (9, .int .i64 fu), (10, .slice (some ⟨b46, 0, none⟩) g.bl.toNat g.bl.toNat), (11, .int .i64 (i : Int))]) (fun E => E.A bc :: Cells b12 45 o.cells :: Cells b46 4 (mk.map Value.bool) :: Cells b3 23 [.int .i64 g.bl, .int .i64 g.pg, .int .i64 g.se, .int .i64 g.sb, .int .i64 g.fl] :: F) D ⟨hD, hk⟩ (.cons rfl (.cons rfl (.cons rfl (.cons rfl (.cons rfl (.cons rfl (.nil _))))))) (fun w h => h) (fun E hE => ?_)
                  | refine WC.toInvE (fun E : Cw => E.Ok ∧ Chip.Keeps C.sem E.sem) (fun _ => [(2, .slice A m cap'), (3, ptr b3 0), (7, ptr bc 0), (9, .int .i64 fu), (10, .slice (some ⟨b46, 0, none⟩) g.bl.toNat g.bl.toNat), (11, .int .i64 (i : Int))]) (fun E => E.A bc :: Cells b12 45 o.cells :: Cells b46 4 (mk.map Value.bool) :: Cells b3 23 [.int .i64 g.bl, .int .i64 g.pg, .int .i64 g.se, .int .i64 g.sb, .int .i64 g.fl] :: F) C ⟨hC, Chip.Keeps.refl _⟩ (.cons rfl (.cons rfl (.cons rfl (.cons rfl (.cons rfl (.cons rfl (.nil _))))))) (fun w h => h) (fun E hE => ?_)
                  obtain ⟨hEo, hEf, hEm, hEg⟩ := hE
                  have hEf' : C.fuse ≤ E.fuse := hEf
                  have hEm' : ∀ j : Nat, mk.getD j false = true → E.marked j = true := fun j h => hEm _ (hmm j h)
                  refine WC.region ?_
                  refine WL.val (V.move (OV.p rfl)) rfl ?_
                  refine WL.call (vs := [_]) Try.call18 ⟨OV.p rfl, trivial⟩ (chip_Up (C := E)) rfl ?_
                  rintro _ H0 ⟨rfl, h0⟩
                  subst H0
                  refine WL.val (V.not (OV.p rfl)) rfl ?_
                  refine WL.nil ?_
                  refine WC.cond rfl (fun hc12 => ?_) (fun hc12 => ?_)
                  · skip
                    skip
                    refine WC.exit ?_
                    refine WC.region ?_
                    refine WL.val (V.move (OV.p rfl)) rfl ?_
                    refine WL.val (V.addI (OV.p rfl) (OV.p rfl) (fun hc => by first | omega | (simp at hc; omega))) rfl ?_
                    refine WL.val (V.assign (OV.p rfl)) rfl ?_
                    refine WL.nil ?_
                    refine ⟨rfl, ?_⟩
                    first
                    | exact ⟨(i + 1, E, E.sem.fused, mk2), ⟨by show i + 1 ≤ m; omega, hEo, by show E.sem.fused ≤ E.fuse; rw [hfe]; exact Int.le_refl _, hmk2, hmm2⟩, (by show m - (i + 1) < m - i; omega), .cons rfl (.cons rfl (.cons rfl (.cons rfl (.cons rfl (.cons (look_eq rfl (by simp)) (.nil _)))))), fun w h => h.drop2⟩
                    | exact ⟨(i + 1, E, fu, mk), ⟨by show i + 1 ≤ m; omega, hEo, Int.le_trans hfu hEf', hmk, hEm'⟩, (by show m - (i + 1) < m - i; omega), .cons rfl (.cons rfl (.cons rfl (.cons rfl (.cons rfl (.cons (look_eq rfl (by simp)) (.nil _)))))), fun w h => h.drop2⟩
                  · skip
                    have hup : E.up = true := by cases h : E.up <;> simp_all
                    have hfe : E.sem.fused = E.fuse := by show (if E.up then E.fuse else 0) = _; rw [hup]; rfl
                    refine WC.skip ?_
                    refine WC.seq ?_
                    refine WC.seq ?_
                    refine WC.region ?_
                    refine WL.val (V.move (OV.p rfl)) rfl ?_
                    refine WL.call (vs := [_]) Try.call28 ⟨OV.p rfl, trivial⟩ (chip_Fuse (C := E)) rfl ?_
                    rintro _ H0 ⟨rfl, h0⟩
                    subst H0
                    refine WL.val (V.move (OV.p rfl)) rfl ?_
                    refine WL.val (V.lss (OV.p rfl) (OV.p rfl)) rfl ?_
                    refine WL.nil ?_
                    refine WC.cond rfl (fun hc13 => ?_) (fun hc13 => ?_)
                    · simp only [decide_eq_true_eq, decide_eq_false_iff_not] at hc13
                      have h13 := hc13
                      exfalso
                      rw [hfe] at h13
                      omega
                    · simp only [decide_eq_true_eq, decide_eq_false_iff_not] at hc13
                      have h13 := hc13
                      refine WC.skip ?_
                      refine WC.seq ?_
                      refine WC.region ?_
                      refine WL.val (V.move (OV.p rfl)) rfl ?_
                      refine WL.call (vs := [_]) Try.call28 ⟨OV.p rfl, trivial⟩ (chip_Fuse (C := E)) rfl ?_
                      rintro _ H0 ⟨rfl, h0⟩
                      subst H0
                      refine WL.val (V.assign (OV.p rfl)) rfl ?_
                      refine WL.nil ?_
                      refine WC.seq ?_
                      refine WC.region ?_
                      refine WL.val (V.assign (OV.p rfl)) rfl ?_
                      refine WL.nil ?_
                      refine WC.block ?_
                      refine WC.loop (σ := Nat × List Bool) (fun x => [(2, .slice A m cap'), (3, ptr b3 0), (7, ptr bc 0), (9, .int .i64 E.sem.fused), (10, .slice (some ⟨b46, 0, none⟩) g.bl.toNat g.bl.toNat), (11, .int .i64 (i : Int)), (13, .int .i64 (x.1 : Int))]) (fun x => E.A bc :: Cells b12 45 o.cells :: Cells b46 4 (x.2.map Value.bool) :: Cells b3 23 [.int .i64 g.bl, .int .i64 g.pg, .int .i64 g.se, .int .i64 g.sb, .int .i64 g.fl] :: F) (fun x => (x.1 : Int) ≤ g.bl ∧ x.2.length = g.bl.toNat ∧ ∀ j : Nat, x.2.getD j false = true → E.marked j = true) (fun x => g.bl.toNat - x.1) (0, mk) ⟨by show ((0 : Nat) : Int) ≤ g.bl; omega, hmk, hEm'⟩ (.cons rfl (.cons rfl (.cons rfl (.cons rfl (.cons rfl (.cons rfl (.cons rfl (.nil _)))))))) (fun w h => h) ?_
                      rintro ⟨j, mk2⟩ ⟨hj, hmk2, hmm2⟩
                      dsimp only at hj hmk2 hmm2 ⊢
                      refine WC.seq ?_
                      refine WC.seq ?_
                      refine WC.region ?_
                      refine WL.val (V.move (OV.p rfl)) rfl ?_
                      refine WL.val (V.fieldAddr fo23_0 (OV.p rfl)) rfl ?_
                      refine WL.val (V.load Try.isAgg3 (OV.p rfl) (fun _ => by repeat (first | exact Rd.here rfl | apply Rd.up))) rfl ?_
                      refine WL.val (V.lss (OV.p rfl) (OV.p rfl)) rfl ?_
                      refine WL.nil ?_
                      refine WC.cond rfl (fun hc14 => ?_) (fun hc14 => ?_)
                      · try simp only [decide_eq_true_eq, decide_eq_false_iff_not, Bool.and_eq_true, Bool.or_eq_true, Bool.and_eq_false_iff, Bool.or_eq_false_iff, Bool.not_eq_true', Bool.not_eq_false', Bool.not_eq_true, Bool.not_eq_false, Int.not_lt, Int.not_le] at hc14
                        refine WC.skip ?_
                        refine WC.seq ?_
                        refine WC.block ?_
                        refine WC.seq ?_
                        refine WC.seq ?_
                        have htj : (j : Int).toNat = j := by omega
                        have hget : (mk2.map Value.bool)[0 + (j : Int).toNat * 1]? = some (.bool (mk2.getD j false)) := by rw [htj]; exact bools_at (by omega)
                        refine WC.region ?_
                        refine WL.val (V.move (OV.p rfl)) rfl ?_
                        refine WL.val (V.move (OV.p rfl)) rfl ?_
                        refine WL.val (V.idxB st43 (OV.p rfl) (OV.p rfl) (fun hc => by first | omega | (simp at hc; omega))) rfl ?_
                        refine WL.val (V.load Try.isAgg4 (OV.p rfl) (fun _ => by repeat (first | exact Rd.here hget | apply Rd.up))) rfl ?_
                        refine WL.val (V.move (OV.p rfl)) rfl ?_
                        refine WL.valG (oj := _) rfl rfl rfl GC.t (V.move (OV.p rfl)) rfl ?_
                        refine WL.valG (oj := _) rfl rfl rfl GC.t (V.move (OV.p rfl)) rfl ?_
                        refine WL.callG (oj := _) (vs := [_, _]) rfl rfl rfl GC.t Try.call29 ⟨OV.g rfl id, OV.g rfl id, trivial⟩ (fun hg => chip_Bad (C := E) _) rfl ?_
                        refine WL.valG (oj := _) rfl rfl rfl GC.t (V.not (OV.g rfl id)) rfl ?_
                        refine WL.val (V.pickAnd (OV.p rfl) (OV.g rfl id)) rfl ?_
                        refine WL.nil ?_
                        refine WC.cond rfl (fun hc15 => ?_) (fun hc15 => ?_)
                        · skip
                          have h15 := hc15
                          exfalso
                          rw [Bool.and_eq_true] at h15
                          have h1 : E.sem.bad j = true := by show (E.up && E.marked j) = true; rw [hup, hmm2 j h15.1]; rfl
                          have h2 := h15.2
                          rw [h1] at h2
                          cases h2
                        · skip
                          have h15 := hc15
                          refine WC.skip ?_
                          refine WC.region ?_
                          refine WL.val (V.move (OV.p rfl)) rfl ?_
                          refine WL.val (V.move (OV.p rfl)) rfl ?_
                          refine WL.val (V.move (OV.p rfl)) rfl ?_
                          refine WL.val (V.move (OV.p rfl)) rfl ?_
                          refine WL.call (vs := [_, _]) Try.call29 ⟨OV.p rfl, OV.p rfl, trivial⟩ (chip_Bad (C := E) _) rfl ?_
                          rintro _ H0 ⟨rfl, h0⟩
                          subst H0
                          refine WL.val (V.idxB st43 (OV.p rfl) (OV.p rfl) (fun hc => by first | omega | (simp at hc; omega))) rfl ?_
                          refine WL.store (cs := [_]) Try.sizeOf4 (OV.p rfl) (OV.p rfl) rfl rfl rfl (by repeat (first | exact Upd.at_ (by rw [List.length_map]; omega) | apply Upd.up)) ?_
                          refine WL.nil ?_
                          refine WC.region ?_
                          refine WL.val (V.move (OV.p rfl)) rfl ?_
                          refine WL.val (V.addI (OV.p rfl) (OV.p rfl) (fun hc => by first | omega | (simp at hc; omega))) rfl ?_
                          refine WL.val (V.assign (OV.p rfl)) rfl ?_
                          refine WL.nil ?_
                          refine ⟨rfl, ?_⟩
                          refine ⟨(j + 1, mk2.set j (E.sem.bad j)), ⟨by show ((j + 1 : Nat) : Int) ≤ g.bl; omega, by show (mk2.set j _).length = _; rw [List.length_set]; exact hmk2, fun j' h => ?_⟩, (by show g.bl.toNat - (j + 1) < g.bl.toNat - j; omega), .cons rfl (.cons rfl (.cons rfl (.cons rfl (.cons rfl (.cons rfl (.cons (look_eq rfl (by simp)) (.nil _))))))), fun w h => ?_⟩
                          · simp only [List.getD, List.getElem?_set] at h
                            by_cases hjj : j = j'
                            · subst hjj
                              rw [if_pos rfl, if_pos (by omega)] at h
                              have h' : (E.up && E.marked j) = true := h
                              rw [Bool.and_eq_true] at h'
                              exact h'.2
                            · rw [if_neg hjj] at h
                              exact hmm2 j' h
                          · rw [htj, Nat.zero_add, Nat.mul_one] at h
                            show Sat K w (_ :: _ :: Cells b46 _ ((mk2.set j (E.sem.bad j)).map Value.bool) :: _)
                            rw [List.map_set]
                            exact h
                      · try simp only [decide_eq_true_eq, decide_eq_false_iff_not, Bool.and_eq_true, Bool.or_eq_true, Bool.and_eq_false_iff, Bool.or_eq_false_iff, Bool.not_eq_true', Bool.not_eq_false', Bool.not_eq_true, Bool.not_eq_false, Int.not_lt, Int.not_le] at hc14
                        refine WC.exit ?_
                        refine WC.region ?_
                        refine WL.val (V.move (OV.p rfl)) rfl ?_
                        refine WL.val (V.addI (OV.p rfl) (OV.p rfl) (fun hc => by first | omega | (simp at hc; omega))) rfl ?_
                        refine WL.val (V.assign (OV.p rfl)) rfl ?_
                        refine WL.nil ?_
                        refine ⟨rfl, ?_⟩
                        first
                        | exact ⟨(i + 1, E, E.sem.fused, mk2), ⟨by show i + 1 ≤ m; omega, hEo, by show E.sem.fused ≤ E.fuse; rw [hfe]; exact Int.le_refl _, hmk2, hmm2⟩, (by show m - (i + 1) < m - i; omega), .cons rfl (.cons rfl (.cons rfl (.cons rfl (.cons rfl (.cons (look_eq rfl (by simp)) (.nil _)))))), fun w h => h.drop2⟩
                        | exact ⟨(i + 1, E, fu, mk), ⟨by show i + 1 ≤ m; omega, hEo, Int.le_trans hfu hEf', hmk, hEm'⟩, (by show m - (i + 1) < m - i; omega), .cons rfl (.cons rfl (.cons rfl (.cons rfl (.cons rfl (.cons (look_eq rfl (by simp)) (.nil _)))))), fun w h => h.drop2⟩
                · skip
                  refine WC.seq ?_
                  refine WC.region ?_
                  refine WL.val (V.eql (OV.p rfl) (OV.p rfl)) rfl ?_
                  refine WL.val (V.assign (OV.p rfl)) rfl ?_
                  refine WL.nil ?_
                  refine WC.cond rfl (fun hc8 => ?_) (fun hc8 => ?_)
                  · skip
                    refine WC.region ?_
                    refine WL.val (V.move (OV.p rfl)) rfl ?_
                    refine WL.call (vs := [_]) Try.call25 ⟨OV.p rfl, trivial⟩ (chip_Off (C := C)) rfl ?_
                    rintro v1 _ rfl
                    obtain ⟨D, hDe⟩ : ∃ D, D = C.off := ⟨_, rfl⟩
                    have hD : D.Ok := by rw [hDe]; exact hC.off
                    have hk : Chip.Keeps C.sem D.sem := by rw [hDe]; exact ⟨Int.le_refl _, fun b h => h, rfl⟩
                    rw [← hDe]
                    refine WL.nil ?_
                    refine WC.seq ?_
                    refine WC.seq ?_
                    first
                    | refine WC.toInvE (fun E : Cw => E.Ok ∧ Chip.Keeps C.sem E.sem) (fun _ => [(2, .slice A m cap'), (3, ptr b3 0), (7, ptr bc 0), (9, .int .i64 fu), (10, .slice (some ⟨b46, 0, none⟩) g.bl.toNat g.bl.toNat), (11, .int .i64 (i : Int))]) (fun E => E.A bc :: Cells b12 45 o.cells :: Cells b46 4 (mk.map Value.bool) :: Cells b3 23 [.int .i64 g.bl, .int .i64 g.pg, .int .i64 g.se, .int .i64 g.sb, .int .i64 g.fl] :: F) D ⟨hD, hk⟩ (.cons rfl (.cons rfl (.cons rfl (.cons rfl (.cons rfl (.cons rfl (.nil _))))))) (fun w h => h) (fun E hE => ?_)
                    | refine WC.toInvE (fun E : Cw => E.Ok ∧ Chip.Keeps C.sem E.sem) (fun _ => [(2, .slice A m cap'), (3, ptr b3 0), (7, ptr bc 0), (9, .int .i64 fu), (10, .slice (some ⟨b46, 0, none⟩) g.bl.toNat g.bl.toNat), (11, .int .i64 (i : Int))]) (fun E => E.A bc :: Cells b12 45 o.cells :: Cells b46 4 (mk.map Value.bool) :: Cells b3 23 [.int .i64 g.bl, .int .i64 g.pg, .int .i64 g.se, .int .i64 g.sb, .int .i64 g.fl] :: F) C ⟨hC, Chip.Keeps.refl _⟩ (.cons rfl (.cons rfl (.cons rfl (.cons rfl (.cons rfl (.cons rfl (.nil _))))))) (fun w h => h) (fun E hE => ?_)
                    obtain ⟨hEo, hEf, hEm, hEg⟩ := hE
                    have hEf' : C.fuse ≤ E.fuse := hEf
                    have hEm' : ∀ j : Nat, mk.getD j false = true → E.marked j = true := fun j h => hEm _ (hmm j h)
                    refine WC.region ?_
                    refine WL.val (V.move (OV.p rfl)) rfl ?_
                    refine WL.call (vs := [_]) Try.call18 ⟨OV.p rfl, trivial⟩ (chip_Up (C := E)) rfl ?_
                    rintro _ H0 ⟨rfl, h0⟩
                    subst H0
                    refine WL.val (V.not (OV.p rfl)) rfl ?_
                    refine WL.nil ?_
                    refine WC.cond rfl (fun hc12 => ?_) (fun hc12 => ?_)
                    · skip
                      skip
                      refine WC.exit ?_
                      refine WC.region ?_
                      refine WL.val (V.move (OV.p rfl)) rfl ?_
                      refine WL.val (V.addI (OV.p rfl) (OV.p rfl) (fun hc => by first | omega | (simp at hc; omega))) rfl ?_
                      refine WL.val (V.assign (OV.p rfl)) rfl ?_
                      refine WL.nil ?_
                      refine ⟨rfl, ?_⟩
                      first
                      | exact ⟨(i + 1, E, E.sem.fused, mk2), ⟨by show i + 1 ≤ m; omega, hEo, by show E.sem.fused ≤ E.fuse; rw [hfe]; exact Int.le_refl _, hmk2, hmm2⟩, (by show m - (i + 1) < m - i; omega), .cons rfl (.cons rfl (.cons rfl (.cons rfl (.cons rfl (.cons (look_eq rfl (by simp)) (.nil _)))))), fun w h => h.drop2⟩
                      | exact ⟨(i + 1, E, fu, mk), ⟨by show i + 1 ≤ m; omega, hEo, Int.le_trans hfu hEf', hmk, hEm'⟩, (by show m - (i + 1) < m - i; omega), .cons rfl (.cons rfl (.cons rfl (.cons rfl (.cons rfl (.cons (look_eq rfl (by simp)) (.nil _)))))), fun w h => h.drop2⟩
                    · skip
                      have hup : E.up = true := by cases h : E.up <;> simp_all
                      have hfe : E.sem.fused = E.fuse := by show (if E.up then E.fuse else 0) = _; rw [hup]; rfl
                      refine WC.skip ?_
                      refine WC.seq ?_
                      refine WC.seq ?_
                      refine WC.region ?_
                      refine WL.val (V.move (OV.p rfl)) rfl ?_
                      refine WL.call (vs := [_]) Try.call28 ⟨OV.p rfl, trivial⟩ (chip_Fuse (C := E)) rfl ?_
                      rintro _ H0 ⟨rfl, h0⟩
                      subst H0
                      refine WL.val (V.move (OV.p rfl)) rfl ?_
                      refine WL.val (V.lss (OV.p rfl) (OV.p rfl)) rfl ?_
                      refine WL.nil ?_
                      refine WC.cond rfl (fun hc13 => ?_) (fun hc13 => ?_)
                      · simp only [decide_eq_true_eq, decide_eq_false_iff_not] at hc13
                        have h13 := hc13
                        exfalso
                        rw [hfe] at h13
                        omega
                      · simp only [decide_eq_true_eq, decide_eq_false_iff_not] at hc13
                        have h13 := hc13
                        refine WC.skip ?_
                        refine WC.seq ?_
                        refine WC.region ?_
                        refine WL.val (V.move (OV.p rfl)) rfl ?_
                        refine WL.call (vs := [_]) Try.call28 ⟨OV.p rfl, trivial⟩ (chip_Fuse (C := E)) rfl ?_
                        rintro _ H0 ⟨rfl, h0⟩
                        subst H0
                        refine WL.val (V.assign (OV.p rfl)) rfl ?_
                        refine WL.nil ?_
                        refine WC.seq ?_
                        refine WC.region ?_
                        refine WL.val (V.assign (OV.p rfl)) rfl ?_
                        refine WL.nil ?_
                        refine WC.block ?_
                        refine WC.loop (σ := Nat × List Bool) (fun x => [(2, .slice A m cap'), (3, ptr b3 0), (7, ptr bc 0), (9, .int .i64 E.sem.fused), (10, .slice (some ⟨b46, 0, none⟩) g.bl.toNat g.bl.toNat), (11, .int .i64 (i : Int)), (13, .int .i64 (x.1 : Int))]) (fun x => E.A bc :: Cells b12 45 o.cells :: Cells b46 4 (x.2.map Value.bool) :: Cells b3 23 [.int .i64 g.bl, .int .i64 g.pg, .int .i64 g.se, .int .i64 g.sb, .int .i64 g.fl] :: F) (fun x => (x.1 : Int) ≤ g.bl ∧ x.2.length = g.bl.toNat ∧ ∀ j : Nat, x.2.getD j false = true → E.marked j = true) (fun x => g.bl.toNat - x.1) (0, mk) ⟨by show ((0 : Nat) : Int) ≤ g.bl; omega, hmk, hEm'⟩ (.cons rfl (.cons rfl (.cons rfl (.cons rfl (.cons rfl (.cons rfl (.cons rfl (.nil _)))))))) (fun w h => h) ?_
                        rintro ⟨j, mk2⟩ ⟨hj, hmk2, hmm2⟩
                        dsimp only at hj hmk2 hmm2 ⊢
                        refine WC.seq ?_
                        refine WC.seq ?_
                        refine WC.region ?_
                        refine WL.val (V.move (OV.p rfl)) rfl ?_
                        refine WL.val (V.fieldAddr fo23_0 (OV.p rfl)) rfl ?_
                        refine WL.val (V.load Try.isAgg3 (OV.p rfl) (fun _ => by repeat (first | exact Rd.here rfl | apply Rd.up))) rfl ?_
                        refine WL.val (V.lss (OV.p rfl) (OV.p rfl)) rfl ?_
                        refine WL.nil ?_
                        refine WC.cond rfl (fun hc14 => ?_) (fun hc14 => ?_)
                        · try simp only [decide_eq_true_eq, decide_eq_false_iff_not, Bool.and_eq_true, Bool.or_eq_true, Bool.and_eq_false_iff, Bool.or_eq_false_iff, Bool.not_eq_true', Bool.not_eq_false', Bool.not_eq_true, Bool.not_eq_false, Int.not_lt, Int.not_le] at hc14
                          refine WC.skip ?_
                          refine WC.seq ?_
                          refine WC.block ?_
                          refine WC.seq ?_
                          refine WC.seq ?_
                          have htj : (j : Int).toNat = j := by omega
                          have hget : (mk2.map Value.bool)[0 + (j : Int).toNat * 1]? = some (.bool (mk2.getD j false)) := by rw [htj]; exact bools_at (by omega)
                          refine WC.region ?_
                          refine WL.val (V.move (OV.p rfl)) rfl ?_
                          refine WL.val (V.move (OV.p rfl)) rfl ?_
                          refine WL.val (V.idxB st43 (OV.p rfl) (OV.p rfl) (fun hc => by first | omega | (simp at hc; omega))) rfl ?_
                          refine WL.val (V.load Try.isAgg4 (OV.p rfl) (fun _ => by repeat (first | exact Rd.here hget | apply Rd.up))) rfl ?_
                          refine WL.val (V.move (OV.p rfl)) rfl ?_
                          refine WL.valG (oj := _) rfl rfl rfl GC.t (V.move (OV.p rfl)) rfl ?_
                          refine WL.valG (oj := _) rfl rfl rfl GC.t (V.move (OV.p rfl)) rfl ?_
                          refine WL.callG (oj := _) (vs := [_, _]) rfl rfl rfl GC.t Try.call29 ⟨OV.g rfl id, OV.g rfl id, trivial⟩ (fun hg => chip_Bad (C := E) _) rfl ?_
                          refine WL.valG (oj := _) rfl rfl rfl GC.t (V.not (OV.g rfl id)) rfl ?_
                          refine WL.val (V.pickAnd (OV.p rfl) (OV.g rfl id)) rfl ?_
                          refine WL.nil ?_
                          refine WC.cond rfl (fun hc15 => ?_) (fun hc15 => ?_)
                          · skip
                            have h15 := hc15
                            exfalso
                            rw [Bool.and_eq_true] at h15
                            have h1 : E.sem.bad j = true := by show (E.up && E.marked j) = true; rw [hup, hmm2 j h15.1]; rfl
                            have h2 := h15.2
                            rw [h1] at h2
                            cases h2
                          · skip
                            have h15 := hc15
                            refine WC.skip ?_
                            refine WC.region ?_
                            refine WL.val (V.move (OV.p rfl)) rfl ?_
                            refine WL.val (V.move (OV.p rfl)) rfl ?_
                            refine WL.val (V.move (OV.p rfl)) rfl ?_
                            refine WL.val (V.move (OV.p rfl)) rfl ?_
                            refine WL.call (vs := [_, _]) Try.call29 ⟨OV.p rfl, OV.p rfl, trivial⟩ (chip_Bad (C := E) _) rfl ?_
                            rintro _ H0 ⟨rfl, h0⟩
                            subst H0
                            refine WL.val (V.idxB st43 (OV.p rfl) (OV.p rfl) (fun hc => by first | omega | (simp at hc; omega))) rfl ?_
                            refine WL.store (cs := [_]) Try.sizeOf4 (OV.p rfl) (OV.p rfl) rfl rfl rfl (by repeat (first | exact Upd.at_ (by rw [List.length_map]; omega) | apply Upd.up)) ?_
                            refine WL.nil ?_
                            refine WC.region ?_
                            refine WL.val (V.move (OV.p rfl)) rfl ?_
                            refine WL.val (V.addI (OV.p rfl) (OV.p rfl) (fun hc => by first | omega | (simp at hc; omega))) rfl ?_
                            refine WL.val (V.assign (OV.p rfl)) rfl ?_
                            refine WL.nil ?_
                            refine ⟨rfl, ?_⟩
                            refine ⟨(j + 1, mk2.set j (E.sem.bad j)), ⟨by show ((j + 1 : Nat) : Int) ≤ g.bl; omega, by show (mk2.set j _).length = _; rw [List.length_set]; exact hmk2, fun j' h => ?_⟩, (by show g.bl.toNat - (j + 1) < g.bl.toNat - j; omega), .cons rfl (.cons rfl (.cons rfl (.cons rfl (.cons rfl (.cons rfl (.cons (look_eq rfl (by simp)) (.nil _))))))), fun w h => ?_⟩
                            · simp only [List.getD, List.getElem?_set] at h
                              by_cases hjj : j = j'
                              · subst hjj
                                rw [if_pos rfl, if_pos (by omega)] at h
                                have h' : (E.up && E.marked j) = true := h
                                rw [Bool.and_eq_true] at h'
                                exact h'.2
                              · rw [if_neg hjj] at h
                                exact hmm2 j' h
                            · rw [htj, Nat.zero_add, Nat.mul_one] at h
                              show Sat K w (_ :: _ :: Cells b46 _ ((mk2.set j (E.sem.bad j)).map Value.bool) :: _)
                              rw [List.map_set]
                              exact h
                        · try simp only [decide_eq_true_eq, decide_eq_false_iff_not, Bool.and_eq_true, Bool.or_eq_true, Bool.and_eq_false_iff, Bool.or_eq_false_iff, Bool.not_eq_true', Bool.not_eq_false', Bool.not_eq_true, Bool.not_eq_false, Int.not_lt, Int.not_le] at hc14
                          refine WC.exit ?_
                          refine WC.region ?_
                          refine WL.val (V.move (OV.p rfl)) rfl ?_
                          refine WL.val (V.addI (OV.p rfl) (OV.p rfl) (fun hc => by first | omega | (simp at hc; omega))) rfl ?_
                          refine WL.val (V.assign (OV.p rfl)) rfl ?_
                          refine WL.nil ?_
                          refine ⟨rfl, ?_⟩
                          first
                          | exact ⟨(i + 1, E, E.sem.fused, mk2), ⟨by show i + 1 ≤ m; omega, hEo, by show E.sem.fused ≤ E.fuse; rw [hfe]; exact Int.le_refl _, hmk2, hmm2⟩, (by show m - (i + 1) < m - i; omega), .cons rfl (.cons rfl (.cons rfl (.cons rfl (.cons rfl (.cons (look_eq rfl (by simp)) (.nil _)))))), fun w h => h.drop2⟩
                          | exact ⟨(i + 1, E, fu, mk), ⟨by show i + 1 ≤ m; omega, hEo, Int.le_trans hfu hEf', hmk, hEm'⟩, (by show m - (i + 1) < m - i; omega), .cons rfl (.cons rfl (.cons rfl (.cons rfl (.cons rfl (.cons (look_eq rfl (by simp)) (.nil _)))))), fun w h => h.drop2⟩
                  · skip
                    refine WC.seq ?_
                    refine WC.region ?_
                    refine WL.val (V.eql (OV.p rfl) (OV.p rfl)) rfl ?_
                    refine WL.val (V.assign (OV.p rfl)) rfl ?_
                    refine WL.nil ?_
                    refine WC.cond rfl (fun hc9 => ?_) (fun hc9 => ?_)
                    · skip
                      refine WC.region ?_
                      refine WL.val (V.move (OV.p rfl)) rfl ?_
                      refine WL.val (V.fieldAddr fo45_3 (OV.p rfl)) rfl ?_
                      refine WL.val (V.load Try.isAgg3 (OV.p rfl) (fun _ => by repeat (first | exact Rd.here rfl | apply Rd.up))) rfl ?_
                      refine WL.val (V.fieldAddr fo45_2 (OV.p rfl)) rfl ?_
                      refine WL.val (V.load Try.isAgg3 (OV.p rfl) (fun _ => by repeat (first | exact Rd.here rfl | apply Rd.up))) rfl ?_
                      refine WL.call (vs := [_, _, _]) Try.call15 ⟨OV.p rfl, OV.p rfl, OV.p rfl, trivial⟩ (chip_Arm (C := C) o.n o.page) rfl ?_
                      rintro v1 _ rfl
                      obtain ⟨D, hDe⟩ : ∃ D, D = C.arm o.n o.page := ⟨_, rfl⟩
                      have hD : D.Ok := by rw [hDe]; exact hC.arm ho.n
                      have hk : Chip.Keeps C.sem D.sem := by rw [hDe]; exact ⟨Int.le_refl _, fun b h => h, rfl⟩
                      rw [← hDe]
                      refine WL.nil ?_
                      refine WC.seq ?_
                      refine WC.seq ?_
                      first
                      | refine WC.toInvE (fun E : Cw => E.Ok ∧ Chip.Keeps C.sem E.sem) (fun _ => [(2, .slice A m cap'), (3, ptr b3 0), (7, ptr bc 0), (9, .int .i64 fu), (10, .slice (some ⟨b46, 0, none⟩) g.bl.toNat g.bl.toNat), (11, .int .i64 (i : Int))]) (fun E => E.A bc :: Cells b12 45 o.cells :: Cells b46 4 (mk.map Value.bool) :: Cells b3 23 [.int .i64 g.bl, .int .i64 g.pg, .int .i64 g.se, .int .i64 g.sb, .int .i64 g.fl] :: F) D ⟨hD, hk⟩ (.cons rfl (.cons rfl (.cons rfl (.cons rfl (.cons rfl (.cons rfl (.nil _))))))) (fun w h => h) (fun E hE => ?_)
                      | refine WC.toInvE (fun E : Cw => E.Ok ∧ Chip.Keeps C.sem E.sem) (fun _ => [(2, .slice A m cap'), (3, ptr b3 0), (7, ptr bc 0), (9, .int .i64 fu), (10, .slice (some ⟨b46, 0, none⟩) g.bl.toNat g.bl.toNat), (11, .int .i64 (i : Int))]) (fun E => E.A bc :: Cells b12 45 o.cells :: Cells b46 4 (mk.map Value.bool) :: Cells b3 23 [.int .i64 g.bl, .int .i64 g.pg, .int .i64 g.se, .int .i64 g.sb, .int .i64 g.fl] :: F) C ⟨hC, Chip.Keeps.refl _⟩ (.cons rfl (.cons rfl (.cons rfl (.cons rfl (.cons rfl (.cons rfl (.nil _))))))) (fun w h => h) (fun E hE => ?_)
                      obtain ⟨hEo, hEf, hEm, hEg⟩ := hE
                      have hEf' : C.fuse ≤ E.fuse := hEf
                      have hEm' : ∀ j : Nat, mk.getD j false = true → E.marked j = true := fun j h => hEm _ (hmm j h)
                      refine WC.region ?_
                      refine WL.val (V.move (OV.p rfl)) rfl ?_
                      refine WL.call (vs := [_]) Try.call18 ⟨OV.p rfl, trivial⟩ (chip_Up (C := E)) rfl ?_
                      rintro _ H0 ⟨rfl, h0⟩
                      subst H0
                      refine WL.val (V.not (OV.p rfl)) rfl ?_
                      refine WL.nil ?_
                      refine WC.cond rfl (fun hc12 => ?_) (fun hc12 => ?_)
                      · skip
                        skip
                        refine WC.exit ?_
                        refine WC.region ?_
                        refine WL.val (V.move (OV.p rfl)) rfl ?_
                        refine WL.val (V.addI (OV.p rfl) (OV.p rfl) (fun hc => by first | omega | (simp at hc; omega))) rfl ?_
                        refine WL.val (V.assign (OV.p rfl)) rfl ?_
                        refine WL.nil ?_
                        refine ⟨rfl, ?_⟩
                        first
                        | exact ⟨(i + 1, E, E.sem.fused, mk2), ⟨by show i + 1 ≤ m; omega, hEo, by show E.sem.fused ≤ E.fuse; rw [hfe]; exact Int.le_refl _, hmk2, hmm2⟩, (by show m - (i + 1) < m - i; omega), .cons rfl (.cons rfl (.cons rfl (.cons rfl (.cons rfl (.cons (look_eq rfl (by simp)) (.nil _)))))), fun w h => h.drop2⟩
                        | exact ⟨(i + 1, E, fu, mk), ⟨by show i + 1 ≤ m; omega, hEo, Int.le_trans hfu hEf', hmk, hEm'⟩, (by show m - (i + 1) < m - i; omega), .cons rfl (.cons rfl (.cons rfl (.cons rfl (.cons rfl (.cons (look_eq rfl (by simp)) (.nil _)))))), fun w h => h.drop2⟩
                      · skip
                        have hup : E.up = true := by cases h : E.up <;> simp_all
                        have hfe : E.sem.fused = E.fuse := by show (if E.up then E.fuse else 0) = _; rw [hup]; rfl
                        refine WC.skip ?_
                        refine WC.seq ?_
                        refine WC.seq ?_
                        refine WC.region ?_
                        refine WL.val (V.move (OV.p rfl)) rfl ?_
                        refine WL.call (vs := [_]) Try.call28 ⟨OV.p rfl, trivial⟩ (chip_Fuse (C := E)) rfl ?_
                        rintro _ H0 ⟨rfl, h0⟩
                        subst H0
                        refine WL.val (V.move (OV.p rfl)) rfl ?_
                        refine WL.val (V.lss (OV.p rfl) (OV.p rfl)) rfl ?_
                        refine WL.nil ?_
                        refine WC.cond rfl (fun hc13 => ?_) (fun hc13 => ?_)
                        · simp only [decide_eq_true_eq, decide_eq_false_iff_not] at hc13
                          have h13 := hc13
                          exfalso
                          rw [hfe] at h13
                          omega
                        · simp only [decide_eq_true_eq, decide_eq_false_iff_not] at hc13
                          have h13 := hc13
                          refine WC.skip ?_
                          refine WC.seq ?_
                          refine WC.region ?_
                          refine WL.val (V.move (OV.p rfl)) rfl ?_
                          refine WL.call (vs := [_]) Try.call28 ⟨OV.p rfl, trivial⟩ (chip_Fuse (C := E)) rfl ?_
                          rintro _ H0 ⟨rfl, h0⟩
                          subst H0
                          refine WL.val (V.assign (OV.p rfl)) rfl ?_
                          refine WL.nil ?_
                          refine WC.seq ?_
                          refine WC.region ?_
                          refine WL.val (V.assign (OV.p rfl)) rfl ?_
                          refine WL.nil ?_
                          refine WC.block ?_
                          refine WC.loop (σ := Nat × List Bool) (fun x => [(2, .slice A m cap'), (3, ptr b3 0), (7, ptr bc 0), (9, .int .i64 E.sem.fused), (10, .slice (some ⟨b46, 0, none⟩) g.bl.toNat g.bl.toNat), (11, .int .i64 (i : Int)), (13, .int .i64 (x.1 : Int))]) (fun x => E.A bc :: Cells b12 45 o.cells :: Cells b46 4 (x.2.map Value.bool) :: Cells b3 23 [.int .i64 g.bl, .int .i64 g.pg, .int .i64 g.se, .int .i64 g.sb, .int .i64 g.fl] :: F) (fun x => (x.1 : Int) ≤ g.bl ∧ x.2.length = g.bl.toNat ∧ ∀ j : Nat, x.2.getD j false = true → E.marked j = true) (fun x => g.bl.toNat - x.1) (0, mk) ⟨by show ((0 : Nat) : Int) ≤ g.bl; omega, hmk, hEm'⟩ (.cons rfl (.cons rfl (.cons rfl (.cons rfl (.cons rfl (.cons rfl (.cons rfl (.nil _)))))))) (fun w h => h) ?_
                          rintro ⟨j, mk2⟩ ⟨hj, hmk2, hmm2⟩
                          dsimp only at hj hmk2 hmm2 ⊢
                          refine WC.seq ?_
                          refine WC.seq ?_
                          refine WC.region ?_
                          refine WL.val (V.move (OV.p rfl)) rfl ?_
                          refine WL.val (V.fieldAddr fo23_0 (OV.p rfl)) rfl ?_
                          refine WL.val (V.load Try.isAgg3 (OV.p rfl) (fun _ => by repeat (first | exact Rd.here rfl | apply Rd.up))) rfl ?_
                          refine WL.val (V.lss (OV.p rfl) (OV.p rfl)) rfl ?_
                          refine WL.nil ?_
                          refine WC.cond rfl (fun hc14 => ?_) (fun hc14 => ?_)
                          · try simp only [decide_eq_true_eq, decide_eq_false_iff_not, Bool.and_eq_true, Bool.or_eq_true, Bool.and_eq_false_iff, Bool.or_eq_false_iff, Bool.not_eq_true', Bool.not_eq_false', Bool.not_eq_true, Bool.not_eq_false, Int.not_lt, Int.not_le] at hc14
                            refine WC.skip ?_
                            refine WC.seq ?_
                            refine WC.block ?_
                            refine WC.seq ?_
                            refine WC.seq ?_
                            have htj : (j : Int).toNat = j := by omega
                            have hget : (mk2.map Value.bool)[0 + (j : Int).toNat * 1]? = some (.bool (mk2.getD j false)) := by rw [htj]; exact bools_at (by omega)
                            refine WC.region ?_
                            refine WL.val (V.move (OV.p rfl)) rfl ?_
                            refine WL.val (V.move (OV.p rfl)) rfl ?_
                            refine WL.val (V.idxB st43 (OV.p rfl) (OV.p rfl) (fun hc => by first | omega | (simp at hc; omega))) rfl ?_
                            refine WL.val (V.load Try.isAgg4 (OV.p rfl) (fun _ => by repeat (first | exact Rd.here hget | apply Rd.up))) rfl ?_
                            refine WL.val (V.move (OV.p rfl)) rfl ?_
                            refine WL.valG (oj := _) rfl rfl rfl GC.t (V.move (OV.p rfl)) rfl ?_
                            refine WL.valG (oj := _) rfl rfl rfl GC.t (V.move (OV.p rfl)) rfl ?_
                            refine WL.callG (oj := _) (vs := [_, _]) rfl rfl rfl GC.t Try.call29 ⟨OV.g rfl id, OV.g rfl id, trivial⟩ (fun hg => chip_Bad (C := E) _) rfl ?_
                            refine WL.valG (oj := _) rfl rfl rfl GC.t (V.not (OV.g rfl id)) rfl ?_
                            refine WL.val (V.pickAnd (OV.p rfl) (OV.g rfl id)) rfl ?_
                            refine WL.nil ?_
                            refine WC.cond rfl (fun hc15 => ?_) (fun hc15 => ?_)
                            · skip
                              have h15 := hc15
                              exfalso
                              rw [Bool.and_eq_true] at h15
                              have h1 : E.sem.bad j = true := by show (E.up && E.marked j) = true; rw [hup, hmm2 j h15.1]; rfl
                              have h2 := h15.2
                              rw [h1] at h2
                              cases h2
                            · skip
                              have h15 := hc15
                              refine WC.skip ?_
                              refine WC.region ?_
                              refine WL.val (V.move (OV.p rfl)) rfl ?_
                              refine WL.val (V.move (OV.p rfl)) rfl ?_
                              refine WL.val (V.move (OV.p rfl)) rfl ?_
                              refine WL.val (V.move (OV.p rfl)) rfl ?_
                              refine WL.call (vs := [_, _]) Try.call29 ⟨OV.p rfl, OV.p rfl, trivial⟩ (chip_Bad (C := E) _) rfl ?_
                              rintro _ H0 ⟨rfl, h0⟩
                              subst H0
                              refine WL.val (V.idxB st43 (OV.p rfl) (OV.p rfl) (fun hc => by first | omega | (simp at hc; omega))) rfl ?_
                              refine WL.store (cs := [_]) Try.sizeOf4 (OV.p rfl) (OV.p rfl) rfl rfl rfl (by repeat (first | exact Upd.at_ (by rw [List.length_map]; omega) | apply Upd.up)) ?_
                              refine WL.nil ?_
                              refine WC.region ?_
                              refine WL.val (V.move (OV.p rfl)) rfl ?_
                              refine WL.val (V.addI (OV.p rfl) (OV.p rfl) (fun hc => by first | omega | (simp at hc; omega))) rfl ?_
                              refine WL.val (V.assign (OV.p rfl)) rfl ?_
                              refine WL.nil ?_
                              refine ⟨rfl, ?_⟩
                              refine ⟨(j + 1, mk2.set j (E.sem.bad j)), ⟨by show ((j + 1 : Nat) : Int) ≤ g.bl; omega, by show (mk2.set j _).length = _; rw [List.length_set]; exact hmk2, fun j' h => ?_⟩, (by show g.bl.toNat - (j + 1) < g.bl.toNat - j; omega), .cons rfl (.cons rfl (.cons rfl (.cons rfl (.cons rfl (.cons rfl (.cons (look_eq rfl (by simp)) (.nil _))))))), fun w h => ?_⟩
                              · simp only [List.getD, List.getElem?_set] at h
                                by_cases hjj : j = j'
                                · subst hjj
                                  rw [if_pos rfl, if_pos (by omega)] at h
                                  have h' : (E.up && E.marked j) = true := h
                                  rw [Bool.and_eq_true] at h'
                                  exact h'.2
                                · rw [if_neg hjj] at h
                                  exact hmm2 j' h
                              · rw [htj, Nat.zero_add, Nat.mul_one] at h
                                show Sat K w (_ :: _ :: Cells b46 _ ((mk2.set j (E.sem.bad j)).map Value.bool) :: _)
                                rw [List.map_set]
                                exact h
                          · try simp only [decide_eq_true_eq, decide_eq_false_iff_not, Bool.and_eq_true, Bool.or_eq_true, Bool.and_eq_false_iff, Bool.or_eq_false_iff, Bool.not_eq_true', Bool.not_eq_false', Bool.not_eq_true, Bool.not_eq_false, Int.not_lt, Int.not_le] at hc14
                            refine WC.exit ?_
                            refine WC.region ?_
                            refine WL.val (V.move (OV.p rfl)) rfl ?_
                            refine WL.val (V.addI (OV.p rfl) (OV.p rfl) (fun hc => by first | omega | (simp at hc; omega))) rfl ?_
                            refine WL.val (V.assign (OV.p rfl)) rfl ?_
                            refine WL.nil ?_
                            refine ⟨rfl, ?_⟩
                            first
                            | exact ⟨(i + 1, E, E.sem.fused, mk2), ⟨by show i + 1 ≤ m; omega, hEo, by show E.sem.fused ≤ E.fuse; rw [hfe]; exact Int.le_refl _, hmk2, hmm2⟩, (by show m - (i + 1) < m - i; omega), .cons rfl (.cons rfl (.cons rfl (.cons rfl (.cons rfl (.cons (look_eq rfl (by simp)) (.nil _)))))), fun w h => h.drop2⟩
                            | exact ⟨(i + 1, E, fu, mk), ⟨by show i + 1 ≤ m; omega, hEo, Int.le_trans hfu hEf', hmk, hEm'⟩, (by show m - (i + 1) < m - i; omega), .cons rfl (.cons rfl (.cons rfl (.cons rfl (.cons rfl (.cons (look_eq rfl (by simp)) (.nil _)))))), fun w h => h.drop2⟩
                    · skip
                      refine WC.seq ?_
                      refine WC.region ?_
                      refine WL.val (V.eql (OV.p rfl) (OV.p rfl)) rfl ?_
                      refine WL.val (V.assign (OV.p rfl)) rfl ?_
                      refine WL.nil ?_
                      refine WC.cond rfl (fun hc10 => ?_) (fun hc10 => ?_)
                      · skip
                        refine WC.region ?_
                        refine WL.val (V.move (OV.p rfl)) rfl ?_
                        refine WL.val (V.fieldAddr fo45_1 (OV.p rfl)) rfl ?_
                        refine WL.val (V.load Try.isAgg3 (OV.p rfl) (fun _ => by repeat (first | exact Rd.here rfl | apply Rd.up))) rfl ?_
                        refine WL.call (vs := [_, _]) Try.call26 ⟨OV.p rfl, OV.p rfl, trivial⟩ (chip_Weak (C := C) o.block) rfl ?_
                        rintro v1 _ rfl
                        obtain ⟨D, hDe⟩ : ∃ D, D = (if C.sem.block o.block then C.weaken o.block else C) := ⟨_, rfl⟩
                        have hD : D.Ok := by rw [hDe]; exact ite_Ok hC.weaken hC
                        have hk : Chip.Keeps C.sem D.sem := by rw [hDe]; split; exact ⟨Int.le_refl _, fun b h => h, rfl⟩; exact Chip.Keeps.refl _
                        rw [← hDe]
                        refine WL.nil ?_
                        refine WC.seq ?_
                        refine WC.seq ?_
                        first
                        | refine WC.toInvE (fun E : Cw => E.Ok ∧ Chip.Keeps C.sem E.sem) (fun _ => [(2, .slice A m cap'), (3, ptr b3 0), (7, ptr bc 0), (9, .int .i64 fu), (10, .slice (some ⟨b46, 0, none⟩) g.bl.toNat g.bl.toNat), (11, .int .i64 (i : Int))]) (fun E => E.A bc :: Cells b12 45 o.cells :: Cells b46 4 (mk.map Value.bool) :: Cells b3 23 [.int .i64 g.bl, .int .i64 g.pg, .int .i64 g.se, .int .i64 g.sb, .int .i64 g.fl] :: F) D ⟨hD, hk⟩ (.cons rfl (.cons rfl (.cons rfl (.cons rfl (.cons rfl (.cons rfl (.nil _))))))) (fun w h => h) (fun E hE => ?_)
                        | refine WC.toInvE (fun E : Cw => E.Ok ∧ Chip.Keeps C.sem E.sem) (fun _ => [(2, .slice A m cap'), (3, ptr b3 0), (7, ptr bc 0), (9, .int .i64 fu), (10, .slice (some ⟨b46, 0, none⟩) g.bl.toNat g.bl.toNat), (11, .int .i64 (i : Int))]) (fun E => E.A bc :: Cells b12 45 o.cells :: Cells b46 4 (mk.map Value.bool) :: Cells b3 23 [.int .i64 g.bl, .int .i64 g.pg, .int .i64 g.se, .int .i64 g.sb, .int .i64 g.fl] :: F) C ⟨hC, Chip.Keeps.refl _⟩ (.cons rfl (.cons rfl (.cons rfl (.cons rfl (.cons rfl (.cons rfl (.nil _))))))) (fun w h => h) (fun E hE => ?_)
                        obtain ⟨hEo, hEf, hEm, hEg⟩ := hE
                        have hEf' : C.fuse ≤ E.fuse := hEf
                        have hEm' : ∀ j : Nat, mk.getD j false = true → E.marked j = true := fun j h => hEm _ (hmm j h)
                        refine WC.region ?_
                        refine WL.val (V.move (OV.p rfl)) rfl ?_
                        refine WL.call (vs := [_]) Try.call18 ⟨OV.p rfl, trivial⟩ (chip_Up (C := E)) rfl ?_
                        rintro _ H0 ⟨rfl, h0⟩
                        subst H0
                        refine WL.val (V.not (OV.p rfl)) rfl ?_
                        refine WL.nil ?_
                        refine WC.cond rfl (fun hc12 => ?_) (fun hc12 => ?_)
                        · skip
                          skip
                          refine WC.exit ?_
                          refine WC.region ?_
                          refine WL.val (V.move (OV.p rfl)) rfl ?_
                          refine WL.val (V.addI (OV.p rfl) (OV.p rfl) (fun hc => by first | omega | (simp at hc; omega))) rfl ?_
                          refine WL.val (V.assign (OV.p rfl)) rfl ?_
                          refine WL.nil ?_
                          refine ⟨rfl, ?_⟩
                          first
                          | exact ⟨(i + 1, E, E.sem.fused, mk2), ⟨by show i + 1 ≤ m; omega, hEo, by show E.sem.fused ≤ E.fuse; rw [hfe]; exact Int.le_refl _, hmk2, hmm2⟩, (by show m - (i + 1) < m - i; omega), .cons rfl (.cons rfl (.cons rfl (.cons rfl (.cons rfl (.cons (look_eq rfl (by simp)) (.nil _)))))), fun w h => h.drop2⟩
                          | exact ⟨(i + 1, E, fu, mk), ⟨by show i + 1 ≤ m; omega, hEo, Int.le_trans hfu hEf', hmk, hEm'⟩, (by show m - (i + 1) < m - i; omega), .cons rfl (.cons rfl (.cons rfl (.cons rfl (.cons rfl (.cons (look_eq rfl (by simp)) (.nil _)))))), fun w h => h.drop2⟩
                        · skip
                          have hup : E.up = true := by cases h : E.up <;> simp_all
                          have hfe : E.sem.fused = E.fuse := by show (if E.up then E.fuse else 0) = _; rw [hup]; rfl
                          refine WC.skip ?_
                          refine WC.seq ?_
                          refine WC.seq ?_
                          refine WC.region ?_
                          refine WL.val (V.move (OV.p rfl)) rfl ?_
                          refine WL.call (vs := [_]) Try.call28 ⟨OV.p rfl, trivial⟩ (chip_Fuse (C := E)) rfl ?_
                          rintro _ H0 ⟨rfl, h0⟩
                          subst H0
                          refine WL.val (V.move (OV.p rfl)) rfl ?_
                          refine WL.val (V.lss (OV.p rfl) (OV.p rfl)) rfl ?_
                          refine WL.nil ?_
                          refine WC.cond rfl (fun hc13 => ?_) (fun hc13 => ?_)
                          · simp only [decide_eq_true_eq, decide_eq_false_iff_not] at hc13
                            have h13 := hc13
                            exfalso
                            rw [hfe] at h13
                            omega
                          · simp only [decide_eq_true_eq, decide_eq_false_iff_not] at hc13
                            have h13 := hc13
                            refine WC.skip ?_
                            refine WC.seq ?_
                            refine WC.region ?_
                            refine WL.val (V.move (OV.p rfl)) rfl ?_
                            refine WL.call (vs := [_]) Try.call28 ⟨OV.p rfl, trivial⟩ (chip_Fuse (C := E)) rfl ?_
                            rintro _ H0 ⟨rfl, h0⟩
                            subst H0
                            refine WL.val (V.assign (OV.p rfl)) rfl ?_
                            refine WL.nil ?_
                            refine WC.seq ?_
                            refine WC.region ?_
                            refine WL.val (V.assign (OV.p rfl)) rfl ?_
                            refine WL.nil ?_
                            refine WC.block ?_
                            refine WC.loop (σ := Nat × List Bool) (fun x => [(2, .slice A m cap'), (3, ptr b3 0), (7, ptr bc 0), (9, .int .i64 E.sem.fused), (10, .slice (some ⟨b46, 0, none⟩) g.bl.toNat g.bl.toNat), (11, .int .i64 (i : Int)), (13, .int .i64 (x.1 : Int))]) (fun x => E.A bc :: Cells b12 45 o.cells :: Cells b46 4 (x.2.map Value.bool) :: Cells b3 23 [.int .i64 g.bl, .int .i64 g.pg, .int .i64 g.se, .int .i64 g.sb, .int .i64 g.fl] :: F) (fun x => (x.1 : Int) ≤ g.bl ∧ x.2.length = g.bl.toNat ∧ ∀ j : Nat, x.2.getD j false = true → E.marked j = true) (fun x => g.bl.toNat - x.1) (0, mk) ⟨by show ((0 : Nat) : Int) ≤ g.bl; omega, hmk, hEm'⟩ (.cons rfl (.cons rfl (.cons rfl (.cons rfl (.cons rfl (.cons rfl (.cons rfl (.nil _)))))))) (fun w h => h) ?_
                            rintro ⟨j, mk2⟩ ⟨hj, hmk2, hmm2⟩
                            dsimp only at hj hmk2 hmm2 ⊢
                            refine WC.seq ?_
                            refine WC.seq ?_
                            refine WC.region ?_
                            refine WL.val (V.move (OV.p rfl)) rfl ?_
                            refine WL.val (V.fieldAddr fo23_0 (OV.p rfl)) rfl ?_
                            refine WL.val (V.load Try.isAgg3 (OV.p rfl) (fun _ => by repeat (first | exact Rd.here rfl | apply Rd.up))) rfl ?_
                            refine WL.val (V.lss (OV.p rfl) (OV.p rfl)) rfl ?_
                            refine WL.nil ?_
                            refine WC.cond rfl (fun hc14 => ?_) (fun hc14 => ?_)
                            · try simp only [decide_eq_true_eq, decide_eq_false_iff_not, Bool.and_eq_true, Bool.or_eq_true, Bool.and_eq_false_iff, Bool.or_eq_false_iff, Bool.not_eq_true', Bool.not_eq_false', Bool.not_eq_true, Bool.not_eq_false, Int.not_lt, Int.not_le] at hc14
                              refine WC.skip ?_
                              refine WC.seq ?_
                              refine WC.block ?_
                              refine WC.seq ?_
                              refine WC.seq ?_
                              have htj : (j : Int).toNat = j := by omega
                              have hget : (mk2.map Value.bool)[0 + (j : Int).toNat * 1]? = some (.bool (mk2.getD j false)) := by rw [htj]; exact bools_at (by omega)
                              refine WC.region ?_
                              refine WL.val (V.move (OV.p rfl)) rfl ?_
                              refine WL.val (V.move (OV.p rfl)) rfl ?_
                              refine WL.val (V.idxB st43 (OV.p rfl) (OV.p rfl) (fun hc => by first | omega | (simp at hc; omega))) rfl ?_
                              refine WL.val (V.load Try.isAgg4 (OV.p rfl) (fun _ => by repeat (first | exact Rd.here hget | apply Rd.up))) rfl ?_
                              refine WL.val (V.move (OV.p rfl)) rfl ?_
                              refine WL.valG (oj := _) rfl rfl rfl GC.t (V.move (OV.p rfl)) rfl ?_
                              refine WL.valG (oj := _) rfl rfl rfl GC.t (V.move (OV.p rfl)) rfl ?_
                              refine WL.callG (oj := _) (vs := [_, _]) rfl rfl rfl GC.t Try.call29 ⟨OV.g rfl id, OV.g rfl id, trivial⟩ (fun hg => chip_Bad (C := E) _) rfl ?_
                              refine WL.valG (oj := _) rfl rfl rfl GC.t (V.not (OV.g rfl id)) rfl ?_
                              refine WL.val (V.pickAnd (OV.p rfl) (OV.g rfl id)) rfl ?_
                              refine WL.nil ?_
                              refine WC.cond rfl (fun hc15 => ?_) (fun hc15 => ?_)
                              · skip
                                have h15 := hc15
                                exfalso
                                rw [Bool.and_eq_true] at h15
                                have h1 : E.sem.bad j = true := by show (E.up && E.marked j) = true; rw [hup, hmm2 j h15.1]; rfl
                                have h2 := h15.2
                                rw [h1] at h2
                                cases h2
                              · skip
                                have h15 := hc15
                                refine WC.skip ?_
                                refine WC.region ?_
                                refine WL.val (V.move (OV.p rfl)) rfl ?_
                                refine WL.val (V.move (OV.p rfl)) rfl ?_
                                refine WL.val (V.move (OV.p rfl)) rfl ?_
                                refine WL.val (V.move (OV.p rfl)) rfl ?_
                                refine WL.call (vs := [_, _]) Try.call29 ⟨OV.p rfl, OV.p rfl, trivial⟩ (chip_Bad (C := E) _) rfl ?_
                                rintro _ H0 ⟨rfl, h0⟩
                                subst H0
                                refine WL.val (V.idxB st43 (OV.p rfl) (OV.p rfl) (fun hc => by first | omega | (simp at hc; omega))) rfl ?_
                                refine WL.store (cs := [_]) Try.sizeOf4 (OV.p rfl) (OV.p rfl) rfl rfl rfl (by repeat (first | exact Upd.at_ (by rw [List.length_map]; omega) | apply Upd.up)) ?_
                                refine WL.nil ?_
                                refine WC.region ?_
                                refine WL.val (V.move (OV.p rfl)) rfl ?_
                                refine WL.val (V.addI (OV.p rfl) (OV.p rfl) (fun hc => by first | omega | (simp at hc; omega))) rfl ?_
                                refine WL.val (V.assign (OV.p rfl)) rfl ?_
                                refine WL.nil ?_
                                refine ⟨rfl, ?_⟩
                                refine ⟨(j + 1, mk2.set j (E.sem.bad j)), ⟨by show ((j + 1 : Nat) : Int) ≤ g.bl; omega, by show (mk2.set j _).length = _; rw [List.length_set]; exact hmk2, fun j' h => ?_⟩, (by show g.bl.toNat - (j + 1) < g.bl.toNat - j; omega), .cons rfl (.cons rfl (.cons rfl (.cons rfl (.cons rfl (.cons rfl (.cons (look_eq rfl (by simp)) (.nil _))))))), fun w h => ?_⟩
                                · simp only [List.getD, List.getElem?_set] at h
                                  by_cases hjj : j = j'
                                  · subst hjj
                                    rw [if_pos rfl, if_pos (by omega)] at h
                                    have h' : (E.up && E.marked j) = true := h
                                    rw [Bool.and_eq_true] at h'
                                    exact h'.2
                                  · rw [if_neg hjj] at h
                                    exact hmm2 j' h
                                · rw [htj, Nat.zero_add, Nat.mul_one] at h
                                  show Sat K w (_ :: _ :: Cells b46 _ ((mk2.set j (E.sem.bad j)).map Value.bool) :: _)
                                  rw [List.map_set]
                                  exact h
                            · try simp only [decide_eq_true_eq, decide_eq_false_iff_not, Bool.and_eq_true, Bool.or_eq_true, Bool.and_eq_false_iff, Bool.or_eq_false_iff, Bool.not_eq_true', Bool.not_eq_false', Bool.not_eq_true, Bool.not_eq_false, Int.not_lt, Int.not_le] at hc14
                              refine WC.exit ?_
                              refine WC.region ?_
                              refine WL.val (V.move (OV.p rfl)) rfl ?_
                              refine WL.val (V.addI (OV.p rfl) (OV.p rfl) (fun hc => by first | omega | (simp at hc; omega))) rfl ?_
                              refine WL.val (V.assign (OV.p rfl)) rfl ?_
                              refine WL.nil ?_
                              refine ⟨rfl, ?_⟩
                              first
                              | exact ⟨(i + 1, E, E.sem.fused, mk2), ⟨by show i + 1 ≤ m; omega, hEo, by show E.sem.fused ≤ E.fuse; rw [hfe]; exact Int.le_refl _, hmk2, hmm2⟩, (by show m - (i + 1) < m - i; omega), .cons rfl (.cons rfl (.cons rfl (.cons rfl (.cons rfl (.cons (look_eq rfl (by simp)) (.nil _)))))), fun w h => h.drop2⟩
                              | exact ⟨(i + 1, E, fu, mk), ⟨by show i + 1 ≤ m; omega, hEo, Int.le_trans hfu hEf', hmk, hEm'⟩, (by show m - (i + 1) < m - i; omega), .cons rfl (.cons rfl (.cons rfl (.cons rfl (.cons rfl (.cons (look_eq rfl (by simp)) (.nil _)))))), fun w h => h.drop2⟩
                      · skip
                        refine WC.seq ?_
                        refine WC.region ?_
                        refine WL.val (V.eql (OV.p rfl) (OV.p rfl)) rfl ?_
                        refine WL.val (V.assign (OV.p rfl)) rfl ?_
                        refine WL.nil ?_
                        refine WC.cond rfl (fun hc11 => ?_) (fun hc11 => ?_)
                        · skip
                          refine WC.region ?_
                          refine WL.val (V.move (OV.p rfl)) rfl ?_
                          refine WL.val (V.fieldAddr fo45_1 (OV.p rfl)) rfl ?_
                          refine WL.val (V.load Try.isAgg3 (OV.p rfl) (fun _ => by repeat (first | exact Rd.here rfl | apply Rd.up))) rfl ?_
                          refine WL.val (V.fieldAddr fo45_2 (OV.p rfl)) rfl ?_
                          refine WL.val (V.load Try.isAgg3 (OV.p rfl) (fun _ => by repeat (first | exact Rd.here rfl | apply Rd.up))) rfl ?_
                          refine WL.val (V.fieldAddr fo45_4 (OV.p rfl)) rfl ?_
                          refine WL.val (V.load Try.isAgg29 (OV.p rfl) (fun _ => by repeat (first | exact Rd.here rfl | apply Rd.up))) rfl ?_
                          refine WL.call (vs := [_, _, _, _]) Try.call27 ⟨OV.p rfl, OV.p rfl, OV.p rfl, OV.p rfl, trivial⟩ (chip_Force hC o.block o.page ho.rb (by repeat (first | exact ho.raw | apply Seq.up))) rfl ?_
                          rintro v1 _ ⟨D, hD, rfl, s1, hv1⟩
                          have hk : Chip.Keeps C.sem D.sem := by rw [s1]; exact Chip.keeps_force _ _ _ _
                          refine WL.nil ?_
                          refine WC.seq ?_
                          refine WC.seq ?_
                          first
                          | refine WC.toInvE (fun E : Cw => E.Ok ∧ Chip.Keeps C.sem E.sem) (fun _ => [(2, .slice A m cap'), (3, ptr b3 0), (7, ptr bc 0), (9, .int .i64 fu), (10, .slice (some ⟨b46, 0, none⟩) g.bl.toNat g.bl.toNat), (11, .int .i64 (i : Int))]) (fun E => E.A bc :: Cells b12 45 o.cells :: Cells b46 4 (mk.map Value.bool) :: Cells b3 23 [.int .i64 g.bl, .int .i64 g.pg, .int .i64 g.se, .int .i64 g.sb, .int .i64 g.fl] :: F) D ⟨hD, hk⟩ (.cons rfl (.cons rfl (.cons rfl (.cons rfl (.cons rfl (.cons rfl (.nil _))))))) (fun w h => h) (fun E hE => ?_)
                          | refine WC.toInvE (fun E : Cw => E.Ok ∧ Chip.Keeps C.sem E.sem) (fun _ => [(2, .slice A m cap'), (3, ptr b3 0), (7, ptr bc 0), (9, .int .i64 fu), (10, .slice (some ⟨b46, 0, none⟩) g.bl.toNat g.bl.toNat), (11, .int .i64 (i : Int))]) (fun E => E.A bc :: Cells b12 45 o.cells :: Cells b46 4 (mk.map Value.bool) :: Cells b3 23 [.int .i64 g.bl, .int .i64 g.pg, .int .i64 g.se, .int .i64 g.sb, .int .i64 g.fl] :: F) C ⟨hC, Chip.Keeps.refl _⟩ (.cons rfl (.cons rfl (.cons rfl (.cons rfl (.cons rfl (.cons rfl (.nil _))))))) (fun w h => h) (fun E hE => ?_)
                          obtain ⟨hEo, hEf, hEm, hEg⟩ := hE
                          have hEf' : C.fuse ≤ E.fuse := hEf
                          have hEm' : ∀ j : Nat, mk.getD j false = true → E.marked j = true := fun j h => hEm _ (hmm j h)
                          refine WC.region ?_
                          refine WL.val (V.move (OV.p rfl)) rfl ?_
                          refine WL.call (vs := [_]) Try.call18 ⟨OV.p rfl, trivial⟩ (chip_Up (C := E)) rfl ?_
                          rintro _ H0 ⟨rfl, h0⟩
                          subst H0
                          refine WL.val (V.not (OV.p rfl)) rfl ?_
                          refine WL.nil ?_
                          refine WC.cond rfl (fun hc12 => ?_) (fun hc12 => ?_)
                          · skip
                            skip
                            refine WC.exit ?_
                            refine WC.region ?_
                            refine WL.val (V.move (OV.p rfl)) rfl ?_
                            refine WL.val (V.addI (OV.p rfl) (OV.p rfl) (fun hc => by first | omega | (simp at hc; omega))) rfl ?_
                            refine WL.val (V.assign (OV.p rfl)) rfl ?_
                            refine WL.nil ?_
                            refine ⟨rfl, ?_⟩
                            first
                            | exact ⟨(i + 1, E, E.sem.fused, mk2), ⟨by show i + 1 ≤ m; omega, hEo, by show E.sem.fused ≤ E.fuse; rw [hfe]; exact Int.le_refl _, hmk2, hmm2⟩, (by show m - (i + 1) < m - i; omega), .cons rfl (.cons rfl (.cons rfl (.cons rfl (.cons rfl (.cons (look_eq rfl (by simp)) (.nil _)))))), fun w h => h.drop2⟩
                            | exact ⟨(i + 1, E, fu, mk), ⟨by show i + 1 ≤ m; omega, hEo, Int.le_trans hfu hEf', hmk, hEm'⟩, (by show m - (i + 1) < m - i; omega), .cons rfl (.cons rfl (.cons rfl (.cons rfl (.cons rfl (.cons (look_eq rfl (by simp)) (.nil _)))))), fun w h => h.drop2⟩
                          · skip
                            have hup : E.up = true := by cases h : E.up <;> simp_all
                            have hfe : E.sem.fused = E.fuse := by show (if E.up then E.fuse else 0) = _; rw [hup]; rfl
                            refine WC.skip ?_
                            refine WC.seq ?_
                            refine WC.seq ?_
                            refine WC.region ?_
                            refine WL.val (V.move (OV.p rfl)) rfl ?_
                            refine WL.call (vs := [_]) Try.call28 ⟨OV.p rfl, trivial⟩ (chip_Fuse (C := E)) rfl ?_
                            rintro _ H0 ⟨rfl, h0⟩
                            subst H0
                            refine WL.val (V.move (OV.p rfl)) rfl ?_
                            refine WL.val (V.lss (OV.p rfl) (OV.p rfl)) rfl ?_
                            refine WL.nil ?_
                            refine WC.cond rfl (fun hc13 => ?_) (fun hc13 => ?_)
                            · simp only [decide_eq_true_eq, decide_eq_false_iff_not] at hc13
                              have h13 := hc13
                              exfalso
                              rw [hfe] at h13
                              omega
                            · simp only [decide_eq_true_eq, decide_eq_false_iff_not] at hc13
                              have h13 := hc13
                              refine WC.skip ?_
                              refine WC.seq ?_
                              refine WC.region ?_
                              refine WL.val (V.move (OV.p rfl)) rfl ?_
                              refine WL.call (vs := [_]) Try.call28 ⟨OV.p rfl, trivial⟩ (chip_Fuse (C := E)) rfl ?_
                              rintro _ H0 ⟨rfl, h0⟩
                              subst H0
                              refine WL.val (V.assign (OV.p rfl)) rfl ?_
                              refine WL.nil ?_
                              refine WC.seq ?_
                              refine WC.region ?_
                              refine WL.val (V.assign (OV.p rfl)) rfl ?_
                              refine WL.nil ?_
                              refine WC.block ?_
                              refine WC.loop (σ := Nat × List Bool) (fun x => [(2, .slice A m cap'), (3, ptr b3 0), (7, ptr bc 0), (9, .int .i64 E.sem.fused), (10, .slice (some ⟨b46, 0, none⟩) g.bl.toNat g.bl.toNat), (11, .int .i64 (i : Int)), (13, .int .i64 (x.1 : Int))]) (fun x => E.A bc :: Cells b12 45 o.cells :: Cells b46 4 (x.2.map Value.bool) :: Cells b3 23 [.int .i64 g.bl, .int .i64 g.pg, .int .i64 g.se, .int .i64 g.sb, .int .i64 g.fl] :: F) (fun x => (x.1 : Int) ≤ g.bl ∧ x.2.length = g.bl.toNat ∧ ∀ j : Nat, x.2.getD j false = true → E.marked j = true) (fun x => g.bl.toNat - x.1) (0, mk) ⟨by show ((0 : Nat) : Int) ≤ g.bl; omega, hmk, hEm'⟩ (.cons rfl (.cons rfl (.cons rfl (.cons rfl (.cons rfl (.cons rfl (.cons rfl (.nil _)))))))) (fun w h => h) ?_
                              rintro ⟨j, mk2⟩ ⟨hj, hmk2, hmm2⟩
                              dsimp only at hj hmk2 hmm2 ⊢
                              refine WC.seq ?_
                              refine WC.seq ?_
                              refine WC.region ?_
                              refine WL.val (V.move (OV.p rfl)) rfl ?_
                              refine WL.val (V.fieldAddr fo23_0 (OV.p rfl)) rfl ?_
                              refine WL.val (V.load Try.isAgg3 (OV.p rfl) (fun _ => by repeat (first | exact Rd.here rfl | apply Rd.up))) rfl ?_
                              refine WL.val (V.lss (OV.p rfl) (OV.p rfl)) rfl ?_
                              refine WL.nil ?_
                              refine WC.cond rfl (fun hc14 => ?_) (fun hc14 => ?_)
                              · try simp only [decide_eq_true_eq, decide_eq_false_iff_not, Bool.and_eq_true, Bool.or_eq_true, Bool.and_eq_false_iff, Bool.or_eq_false_iff, Bool.not_eq_true', Bool.not_eq_false', Bool.not_eq_true, Bool.not_eq_false, Int.not_lt, Int.not_le] at hc14
                                refine WC.skip ?_
                                refine WC.seq ?_
                                refine WC.block ?_
                                refine WC.seq ?_
                                refine WC.seq ?_
                                have htj : (j : Int).toNat = j := by omega
                                have hget : (mk2.map Value.bool)[0 + (j : Int).toNat * 1]? = some (.bool (mk2.getD j false)) := by rw [htj]; exact bools_at (by omega)
                                refine WC.region ?_
                                refine WL.val (V.move (OV.p rfl)) rfl ?_
                                refine WL.val (V.move (OV.p rfl)) rfl ?_
                                refine WL.val (V.idxB st43 (OV.p rfl) (OV.p rfl) (fun hc => by first | omega | (simp at hc; omega))) rfl ?_
                                refine WL.val (V.load Try.isAgg4 (OV.p rfl) (fun _ => by repeat (first | exact Rd.here hget | apply Rd.up))) rfl ?_
                                refine WL.val (V.move (OV.p rfl)) rfl ?_
                                refine WL.valG (oj := _) rfl rfl rfl GC.t (V.move (OV.p rfl)) rfl ?_
                                refine WL.valG (oj := _) rfl rfl rfl GC.t (V.move (OV.p rfl)) rfl ?_
                                refine WL.callG (oj := _) (vs := [_, _]) rfl rfl rfl GC.t Try.call29 ⟨OV.g rfl id, OV.g rfl id, trivial⟩ (fun hg => chip_Bad (C := E) _) rfl ?_
                                refine WL.valG (oj := _) rfl rfl rfl GC.t (V.not (OV.g rfl id)) rfl ?_
                                refine WL.val (V.pickAnd (OV.p rfl) (OV.g rfl id)) rfl ?_
                                refine WL.nil ?_
                                refine WC.cond rfl (fun hc15 => ?_) (fun hc15 => ?_)
                                · skip
                                  have h15 := hc15
                                  exfalso
                                  rw [Bool.and_eq_true] at h15
                                  have h1 : E.sem.bad j = true := by show (E.up && E.marked j) = true; rw [hup, hmm2 j h15.1]; rfl
                                  have h2 := h15.2
                                  rw [h1] at h2
                                  cases h2
                                · skip
                                  have h15 := hc15
                                  refine WC.skip ?_
                                  refine WC.region ?_
                                  refine WL.val (V.move (OV.p rfl)) rfl ?_
                                  refine WL.val (V.move (OV.p rfl)) rfl ?_
                                  refine WL.val (V.move (OV.p rfl)) rfl ?_
                                  refine WL.val (V.move (OV.p rfl)) rfl ?_
                                  refine WL.call (vs := [_, _]) Try.call29 ⟨OV.p rfl, OV.p rfl, trivial⟩ (chip_Bad (C := E) _) rfl ?_
                                  rintro _ H0 ⟨rfl, h0⟩
                                  subst H0
                                  refine WL.val (V.idxB st43 (OV.p rfl) (OV.p rfl) (fun hc => by first | omega | (simp at hc; omega))) rfl ?_
                                  refine WL.store (cs := [_]) Try.sizeOf4 (OV.p rfl) (OV.p rfl) rfl rfl rfl (by repeat (first | exact Upd.at_ (by rw [List.length_map]; omega) | apply Upd.up)) ?_
                                  refine WL.nil ?_
                                  refine WC.region ?_
                                  refine WL.val (V.move (OV.p rfl)) rfl ?_
                                  refine WL.val (V.addI (OV.p rfl) (OV.p rfl) (fun hc => by first | omega | (simp at hc; omega))) rfl ?_
                                  refine WL.val (V.assign (OV.p rfl)) rfl ?_
                                  refine WL.nil ?_
                                  refine ⟨rfl, ?_⟩
                                  refine ⟨(j + 1, mk2.set j (E.sem.bad j)), ⟨by show ((j + 1 : Nat) : Int) ≤ g.bl; omega, by show (mk2.set j _).length = _; rw [List.length_set]; exact hmk2, fun j' h => ?_⟩, (by show g.bl.toNat - (j + 1) < g.bl.toNat - j; omega), .cons rfl (.cons rfl (.cons rfl (.cons rfl (.cons rfl (.cons rfl (.cons (look_eq rfl (by simp)) (.nil _))))))), fun w h => ?_⟩
                                  · simp only [List.getD, List.getElem?_set] at h
                                    by_cases hjj : j = j'
                                    · subst hjj
                                      rw [if_pos rfl, if_pos (by omega)] at h
                                      have h' : (E.up && E.marked j) = true := h
                                      rw [Bool.and_eq_true] at h'
                                      exact h'.2
                                    · rw [if_neg hjj] at h
                                      exact hmm2 j' h
                                  · rw [htj, Nat.zero_add, Nat.mul_one] at h
                                    show Sat K w (_ :: _ :: Cells b46 _ ((mk2.set j (E.sem.bad j)).map Value.bool) :: _)
                                    rw [List.map_set]
                                    exact h
                              · try simp only [decide_eq_true_eq, decide_eq_false_iff_not, Bool.and_eq_true, Bool.or_eq_true, Bool.and_eq_false_iff, Bool.or_eq_false_iff, Bool.not_eq_true', Bool.not_eq_false', Bool.not_eq_true, Bool.not_eq_false, Int.not_lt, Int.not_le] at hc14
                                refine WC.exit ?_
                                refine WC.region ?_
                                refine WL.val (V.move (OV.p rfl)) rfl ?_
                                refine WL.val (V.addI (OV.p rfl) (OV.p rfl) (fun hc => by first | omega | (simp at hc; omega))) rfl ?_
                                refine WL.val (V.assign (OV.p rfl)) rfl ?_
                                refine WL.nil ?_
                                refine ⟨rfl, ?_⟩
                                first
                                | exact ⟨(i + 1, E, E.sem.fused, mk2), ⟨by show i + 1 ≤ m; omega, hEo, by show E.sem.fused ≤ E.fuse; rw [hfe]; exact Int.le_refl _, hmk2, hmm2⟩, (by show m - (i + 1) < m - i; omega), .cons rfl (.cons rfl (.cons rfl (.cons rfl (.cons rfl (.cons (look_eq rfl (by simp)) (.nil _)))))), fun w h => h.drop2⟩
                                | exact ⟨(i + 1, E, fu, mk), ⟨by show i + 1 ≤ m; omega, hEo, Int.le_trans hfu hEf', hmk, hEm'⟩, (by show m - (i + 1) < m - i; omega), .cons rfl (.cons rfl (.cons rfl (.cons rfl (.cons rfl (.cons (look_eq rfl (by simp)) (.nil _)))))), fun w h => h.drop2⟩
                        · skip
                          refine WC.skip ?_
                          refine WC.seq ?_
                          refine WC.seq ?_
                          first
                          | refine WC.toInvE (fun E : Cw => E.Ok ∧ Chip.Keeps C.sem E.sem) (fun _ => [(2, .slice A m cap'), (3, ptr b3 0), (7, ptr bc 0), (9, .int .i64 fu), (10, .slice (some ⟨b46, 0, none⟩) g.bl.toNat g.bl.toNat), (11, .int .i64 (i : Int))]) (fun E => E.A bc :: Cells b12 45 o.cells :: Cells b46 4 (mk.map Value.bool) :: Cells b3 23 [.int .i64 g.bl, .int .i64 g.pg, .int .i64 g.se, .int .i64 g.sb, .int .i64 g.fl] :: F) D ⟨hD, hk⟩ (.cons rfl (.cons rfl (.cons rfl (.cons rfl (.cons rfl (.cons rfl (.nil _))))))) (fun w h => h) (fun E hE => ?_)
                          | refine WC.toInvE (fun E : Cw => E.Ok ∧ Chip.Keeps C.sem E.sem) (fun _ => [(2, .slice A m cap'), (3, ptr b3 0), (7, ptr bc 0), (9, .int .i64 fu), (10, .slice (some ⟨b46, 0, none⟩) g.bl.toNat g.bl.toNat), (11, .int .i64 (i : Int))]) (fun E => E.A bc :: Cells b12 45 o.cells :: Cells b46 4 (mk.map Value.bool) :: Cells b3 23 [.int .i64 g.bl, .int .i64 g.pg, .int .i64 g.se, .int .i64 g.sb, .int .i64 g.fl] :: F) C ⟨hC, Chip.Keeps.refl _⟩ (.cons rfl (.cons rfl (.cons rfl (.cons rfl (.cons rfl (.cons rfl (.nil _))))))) (fun w h => h) (fun E hE => ?_)
                          obtain ⟨hEo, hEf, hEm, hEg⟩ := hE
                          have hEf' : C.fuse ≤ E.fuse := hEf
                          have hEm' : ∀ j : Nat, mk.getD j false = true → E.marked j = true := fun j h => hEm _ (hmm j h)
                          refine WC.region ?_
                          refine WL.val (V.move (OV.p rfl)) rfl ?_
                          refine WL.call (vs := [_]) Try.call18 ⟨OV.p rfl, trivial⟩ (chip_Up (C := E)) rfl ?_
                          rintro _ H0 ⟨rfl, h0⟩
                          subst H0
                          refine WL.val (V.not (OV.p rfl)) rfl ?_
                          refine WL.nil ?_
                          refine WC.cond rfl (fun hc12 => ?_) (fun hc12 => ?_)
                          · skip
                            skip
                            refine WC.exit ?_
                            refine WC.region ?_
                            refine WL.val (V.move (OV.p rfl)) rfl ?_
                            refine WL.val (V.addI (OV.p rfl) (OV.p rfl) (fun hc => by first | omega | (simp at hc; omega))) rfl ?_
                            refine WL.val (V.assign (OV.p rfl)) rfl ?_
                            refine WL.nil ?_
                            refine ⟨rfl, ?_⟩
                            first
                            | exact ⟨(i + 1, E, E.sem.fused, mk2), ⟨by show i + 1 ≤ m; omega, hEo, by show E.sem.fused ≤ E.fuse; rw [hfe]; exact Int.le_refl _, hmk2, hmm2⟩, (by show m - (i + 1) < m - i; omega), .cons rfl (.cons rfl (.cons rfl (.cons rfl (.cons rfl (.cons (look_eq rfl (by simp)) (.nil _)))))), fun w h => h.drop2⟩
                            | exact ⟨(i + 1, E, fu, mk), ⟨by show i + 1 ≤ m; omega, hEo, Int.le_trans hfu hEf', hmk, hEm'⟩, (by show m - (i + 1) < m - i; omega), .cons rfl (.cons rfl (.cons rfl (.cons rfl (.cons rfl (.cons (look_eq rfl (by simp)) (.nil _)))))), fun w h => h.drop2⟩
                          · skip
                            have hup : E.up = true := by cases h : E.up <;> simp_all
                            have hfe : E.sem.fused = E.fuse := by show (if E.up then E.fuse else 0) = _; rw [hup]; rfl
                            refine WC.skip ?_
                            refine WC.seq ?_
                            refine WC.seq ?_
                            refine WC.region ?_
                            refine WL.val (V.move (OV.p rfl)) rfl ?_
                            refine WL.call (vs := [_]) Try.call28 ⟨OV.p rfl, trivial⟩ (chip_Fuse (C := E)) rfl ?_
                            rintro _ H0 ⟨rfl, h0⟩
                            subst H0
                            refine WL.val (V.move (OV.p rfl)) rfl ?_
                            refine WL.val (V.lss (OV.p rfl) (OV.p rfl)) rfl ?_
                            refine WL.nil ?_
                            refine WC.cond rfl (fun hc13 => ?_) (fun hc13 => ?_)
                            · simp only [decide_eq_true_eq, decide_eq_false_iff_not] at hc13
                              have h13 := hc13
                              exfalso
                              rw [hfe] at h13
                              omega
                            · simp only [decide_eq_true_eq, decide_eq_false_iff_not] at hc13
                              have h13 := hc13
                              refine WC.skip ?_
                              refine WC.seq ?_
                              refine WC.region ?_
                              refine WL.val (V.move (OV.p rfl)) rfl ?_
                              refine WL.call (vs := [_]) Try.call28 ⟨OV.p rfl, trivial⟩ (chip_Fuse (C := E)) rfl ?_
                              rintro _ H0 ⟨rfl, h0⟩
                              subst H0
                              refine WL.val (V.assign (OV.p rfl)) rfl ?_
                              refine WL.nil ?_
                              refine WC.seq ?_
                              refine WC.region ?_
                              refine WL.val (V.assign (OV.p rfl)) rfl ?_
                              refine WL.nil ?_
                              refine WC.block ?_
                              refine WC.loop (σ := Nat × List Bool) (fun x => [(2, .slice A m cap'), (3, ptr b3 0), (7, ptr bc 0), (9, .int .i64 E.sem.fused), (10, .slice (some ⟨b46, 0, none⟩) g.bl.toNat g.bl.toNat), (11, .int .i64 (i : Int)), (13, .int .i64 (x.1 : Int))]) (fun x => E.A bc :: Cells b12 45 o.cells :: Cells b46 4 (x.2.map Value.bool) :: Cells b3 23 [.int .i64 g.bl, .int .i64 g.pg, .int .i64 g.se, .int .i64 g.sb, .int .i64 g.fl] :: F) (fun x => (x.1 : Int) ≤ g.bl ∧ x.2.length = g.bl.toNat ∧ ∀ j : Nat, x.2.getD j false = true → E.marked j = true) (fun x => g.bl.toNat - x.1) (0, mk) ⟨by show ((0 : Nat) : Int) ≤ g.bl; omega, hmk, hEm'⟩ (.cons rfl (.cons rfl (.cons rfl (.cons rfl (.cons rfl (.cons rfl (.cons rfl (.nil _)))))))) (fun w h => h) ?_
                              rintro ⟨j, mk2⟩ ⟨hj, hmk2, hmm2⟩
                              dsimp only at hj hmk2 hmm2 ⊢
                              refine WC.seq ?_
                              refine WC.seq ?_
                              refine WC.region ?_
                              refine WL.val (V.move (OV.p rfl)) rfl ?_
                              refine WL.val (V.fieldAddr fo23_0 (OV.p rfl)) rfl ?_
                              refine WL.val (V.load Try.isAgg3 (OV.p rfl) (fun _ => by repeat (first | exact Rd.here rfl | apply Rd.up))) rfl ?_
                              refine WL.val (V.lss (OV.p rfl) (OV.p rfl)) rfl ?_
                              refine WL.nil ?_
                              refine WC.cond rfl (fun hc14 => ?_) (fun hc14 => ?_)
                              · try simp only [decide_eq_true_eq, decide_eq_false_iff_not, Bool.and_eq_true, Bool.or_eq_true, Bool.and_eq_false_iff, Bool.or_eq_false_iff, Bool.not_eq_true', Bool.not_eq_false', Bool.not_eq_true, Bool.not_eq_false, Int.not_lt, Int.not_le] at hc14
                                refine WC.skip ?_
                                refine WC.seq ?_
                                refine WC.block ?_
                                refine WC.seq ?_
                                refine WC.seq ?_
                                have htj : (j : Int).toNat = j := by omega
                                have hget : (mk2.map Value.bool)[0 + (j : Int).toNat * 1]? = some (.bool (mk2.getD j false)) := by rw [htj]; exact bools_at (by omega)
                                refine WC.region ?_
                                refine WL.val (V.move (OV.p rfl)) rfl ?_
                                refine WL.val (V.move (OV.p rfl)) rfl ?_
                                refine WL.val (V.idxB st43 (OV.p rfl) (OV.p rfl) (fun hc => by first | omega | (simp at hc; omega))) rfl ?_
                                refine WL.val (V.load Try.isAgg4 (OV.p rfl) (fun _ => by repeat (first | exact Rd.here hget | apply Rd.up))) rfl ?_
                                refine WL.val (V.move (OV.p rfl)) rfl ?_
                                refine WL.valG (oj := _) rfl rfl rfl GC.t (V.move (OV.p rfl)) rfl ?_
                                refine WL.valG (oj := _) rfl rfl rfl GC.t (V.move (OV.p rfl)) rfl ?_
                                refine WL.callG (oj := _) (vs := [_, _]) rfl rfl rfl GC.t Try.call29 ⟨OV.g rfl id, OV.g rfl id, trivial⟩ (fun hg => chip_Bad (C := E) _) rfl ?_
                                refine WL.valG (oj := _) rfl rfl rfl GC.t (V.not (OV.g rfl id)) rfl ?_
                                refine WL.val (V.pickAnd (OV.p rfl) (OV.g rfl id)) rfl ?_
                                refine WL.nil ?_
                                refine WC.cond rfl (fun hc15 => ?_) (fun hc15 => ?_)
                                · skip
                                  have h15 := hc15
                                  exfalso
                                  rw [Bool.and_eq_true] at h15
                                  have h1 : E.sem.bad j = true := by show (E.up && E.marked j) = true; rw [hup, hmm2 j h15.1]; rfl
                                  have h2 := h15.2
                                  rw [h1] at h2
                                  cases h2
                                · skip
                                  have h15 := hc15
                                  refine WC.skip ?_
                                  refine WC.region ?_
                                  refine WL.val (V.move (OV.p rfl)) rfl ?_
                                  refine WL.val (V.move (OV.p rfl)) rfl ?_
                                  refine WL.val (V.move (OV.p rfl)) rfl ?_
                                  refine WL.val (V.move (OV.p rfl)) rfl ?_
                                  refine WL.call (vs := [_, _]) Try.call29 ⟨OV.p rfl, OV.p rfl, trivial⟩ (chip_Bad (C := E) _) rfl ?_
                                  rintro _ H0 ⟨rfl, h0⟩
                                  subst H0
                                  refine WL.val (V.idxB st43 (OV.p rfl) (OV.p rfl) (fun hc => by first | omega | (simp at hc; omega))) rfl ?_
                                  refine WL.store (cs := [_]) Try.sizeOf4 (OV.p rfl) (OV.p rfl) rfl rfl rfl (by repeat (first | exact Upd.at_ (by rw [List.length_map]; omega) | apply Upd.up)) ?_
                                  refine WL.nil ?_
                                  refine WC.region ?_
                                  refine WL.val (V.move (OV.p rfl)) rfl ?_
                                  refine WL.val (V.addI (OV.p rfl) (OV.p rfl) (fun hc => by first | omega | (simp at hc; omega))) rfl ?_
                                  refine WL.val (V.assign (OV.p rfl)) rfl ?_
                                  refine WL.nil ?_
                                  refine ⟨rfl, ?_⟩
                                  refine ⟨(j + 1, mk2.set j (E.sem.bad j)), ⟨by show ((j + 1 : Nat) : Int) ≤ g.bl; omega, by show (mk2.set j _).length = _; rw [List.length_set]; exact hmk2, fun j' h => ?_⟩, (by show g.bl.toNat - (j + 1) < g.bl.toNat - j; omega), .cons rfl (.cons rfl (.cons rfl (.cons rfl (.cons rfl (.cons rfl (.cons (look_eq rfl (by simp)) (.nil _))))))), fun w h => ?_⟩
                                  · simp only [List.getD, List.getElem?_set] at h
                                    by_cases hjj : j = j'
                                    · subst hjj
                                      rw [if_pos rfl, if_pos (by omega)] at h
                                      have h' : (E.up && E.marked j) = true := h
                                      rw [Bool.and_eq_true] at h'
                                      exact h'.2
                                    · rw [if_neg hjj] at h
                                      exact hmm2 j' h
                                  · rw [htj, Nat.zero_add, Nat.mul_one] at h
                                    show Sat K w (_ :: _ :: Cells b46 _ ((mk2.set j (E.sem.bad j)).map Value.bool) :: _)
                                    rw [List.map_set]
                                    exact h
                              · try simp only [decide_eq_true_eq, decide_eq_false_iff_not, Bool.and_eq_true, Bool.or_eq_true, Bool.and_eq_false_iff, Bool.or_eq_false_iff, Bool.not_eq_true', Bool.not_eq_false', Bool.not_eq_true, Bool.not_eq_false, Int.not_lt, Int.not_le] at hc14
                                refine WC.exit ?_
                                refine WC.region ?_
                                refine WL.val (V.move (OV.p rfl)) rfl ?_
                                refine WL.val (V.addI (OV.p rfl) (OV.p rfl) (fun hc => by first | omega | (simp at hc; omega))) rfl ?_
                                refine WL.val (V.assign (OV.p rfl)) rfl ?_
                                refine WL.nil ?_
                                refine ⟨rfl, ?_⟩
                                first
                                | exact ⟨(i + 1, E, E.sem.fused, mk2), ⟨by show i + 1 ≤ m; omega, hEo, by show E.sem.fused ≤ E.fuse; rw [hfe]; exact Int.le_refl _, hmk2, hmm2⟩, (by show m - (i + 1) < m - i; omega), .cons rfl (.cons rfl (.cons rfl (.cons rfl (.cons rfl (.cons (look_eq rfl (by simp)) (.nil _)))))), fun w h => h.drop2⟩
                                | exact ⟨(i + 1, E, fu, mk), ⟨by show i + 1 ≤ m; omega, hEo, Int.le_trans hfu hEf', hmk, hEm'⟩, (by show m - (i + 1) < m - i; omega), .cons rfl (.cons rfl (.cons rfl (.cons rfl (.cons rfl (.cons (look_eq rfl (by simp)) (.nil _)))))), fun w h => h.drop2⟩
      · try simp only [decide_eq_true_eq, decide_eq_false_iff_not, Bool.and_eq_true, Bool.or_eq_true, Bool.and_eq_false_iff, Bool.or_eq_false_iff, Bool.not_eq_true', Bool.not_eq_false', Bool.not_eq_true, Bool.not_eq_false, Int.not_lt, Int.not_le] at hc2
        refine WC.exit ?_
        refine WC.seq ?_
        refine WC.region ?_
        refine WL.call (vs := []) Try.call17 trivial (law07_awake _ _) rfl ?_
        rintro _ H0 ⟨rfl, h0⟩
        subst H0
        refine WL.val (V.assign (OV.p rfl)) rfl ?_
        refine WL.nil ?_
        refine WC.ret ?_
        exact BodyQ.ret (H' := F) (Res.tmp rfl rfl) (fun w h => by repeat (first | exact h | replace h := h.tail)) ⟨rfl, rfl⟩
end Go.Proofs.Ytgmdagjnigkaaaa
