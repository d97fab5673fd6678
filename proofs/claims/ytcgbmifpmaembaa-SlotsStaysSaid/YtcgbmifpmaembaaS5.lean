/- The law SlotsStays of casematelaw22/law.go. -/
import Derived.Test.YtcgbmifpmaembaaS4
namespace Go.Proofs.Ytcgbmifpmaembaa
open Go.Sl Go.RowKit
set_option linter.unusedVariables false
set_option linter.unusedSimpArgs false
set_option maxRecDepth 20000

namespace Slo
/-- Behind i tries, d of which took one of the other slot's. -/
def Stay (c : Slo) (slot : Int) (n : Slo) (i : Nat) (d : Int) : Prop :=
  n.ok = true ∧ n.g slot = true ∧ n.g (1 - slot) = c.g (1 - slot) ∧ (c.g (1 - slot) = false → n.t (1 - slot) + d = c.t (1 - slot)) ∧ 0 ≤ d ∧ d ≤ i
variable {c n : Slo} {slot : Int} (hsl : slot = 0 ∨ slot = 1)
theorem Stay.start (h1 : c.ok = true) (h2 : c.g slot = true) : Stay c slot c 0 0 := ⟨h1, h2, rfl, fun _ => by omega, by omega, by omega⟩
theorem Stay.left {i : Nat} {d : Int} (h : Stay c slot n i d) : (c.g (1 - slot) || decide (d ≤ c.t (1 - slot))) = true := by
  obtain ⟨h1, h2, h3, h4, h5, h6⟩ := h
  have hs := ok_spec h1
  cases hg : c.g (1 - slot)
  · have := h4 hg
    have h0 : 0 ≤ n.t (1 - slot) := by unfold t; split <;> omega
    simp; omega
  · rfl
theorem Stay.more {i : Nat} {d : Int} (h : Stay c slot n i d) : Stay c slot n (i + 1) d := ⟨h.1, h.2.1, h.2.2.1, h.2.2.2.1, h.2.2.2.2.1, by have := h.2.2.2.2.2; omega⟩
theorem mem_take_succ {l : List Int} {j : Nat} {x : Int} (h : j < l.length) : decide (x ∈ l.take (j + 1)) = (decide (x ∈ l.take j) || decide (l.getD j 0 = x)) := by
  have hg : l.getD j 0 = l[j] := by simp [List.getD, h]
  have ht : l.take (j + 1) = l.take j ++ [l[j]] := by rw [List.take_add_one, List.getElem?_eq_getElem h]; rfl
  rw [hg, ht, Bool.eq_iff_iff, Bool.or_eq_true, decide_eq_true_eq, decide_eq_true_eq, decide_eq_true_eq, List.mem_append, List.mem_singleton]
  exact or_congr Iff.rfl eq_comm
theorem confirm_slot {s : Slo} (h : (s.confirm slot).2 = 0) : slot = 0 ∨ slot = 1 := by
  unfold confirm at h
  split at h
  · cases h
  · rename_i h0
    exact (ahd_ok (by simpa using h0)).2
include hsl
theorem confirm_good {s : Slo} (h : (s.confirm slot).2 = 0) : (s.confirm slot).1.ok = true ∧ (s.confirm slot).1.g slot = true ∧ (s.confirm slot).1.f = slot := by
  unfold confirm at h ⊢
  split at h
  · cases h
  · rename_i h0
    rw [if_neg h0]
    have hs := ok_spec (ahd_ok (by simpa using h0)).1
    rcases hsl with rfl | rfl <;> simp [put, ok, g] <;> omega
theorem install_other {c : Slo} (h1 : c.ok = true) (h2 : c.g slot = true) (h3 : c.f = slot) : (c.install (1 - slot)).2 = 0 ∧ (c.install (1 - slot)).1.ok = true ∧ (c.install (1 - slot)).1.g slot = true := by
  have hs := ok_spec h1
  unfold install
  rw [if_neg (by rw [ahd_good h1 (by omega)]; omega)]
  rcases hsl with rfl | rfl <;> simp [put, ok, g] at h2 ⊢ <;> simp [h2] <;> omega
theorem Stay.try_ {i : Nat} {d x : Int} (h : Stay c slot n i d) (hx : (n.try_ x).2 = 0) : Stay c slot (n.try_ x).1 (i + 1) (if x = 1 - slot then d + 1 else d) := by
  obtain ⟨h1, h2, h3, h4, h5, h6⟩ := h
  have hs := ok_spec h1
  unfold Slo.try_ at hx ⊢
  split at hx
  · cases hx
  · rename_i h0
    rw [if_neg h0]
    have hx1 := (ahd_ok (by simpa using h0)).2
    split at hx
    · rename_i hm
      rw [if_pos hm]
      rcases hsl with rfl | rfl <;> rcases hx1 with rfl | rfl <;> simp [Stay, put, ok, g, t, may] at h2 h3 h4 hm ⊢ <;> (try simp [h2]) <;> cases hg : c.g0 <;> cases hg' : c.g1 <;> simp_all <;> omega
    · cases hx
theorem Stay.not_slot {i : Nat} {d x : Int} (h : Stay c slot n i d) (hx : ¬ (n.try_ x).2 = 0) : x ≠ slot := by
  rintro rfl
  apply hx
  unfold Slo.try_
  rw [if_neg (by rw [ahd_good h.1 hsl]; decide), if_pos (by unfold may; rw [h.2.1]; rfl)]
theorem Stay.mem {i : Nat} {d : Int} (h : Stay c slot n i d) : slot ∈ n.order := by
  have hs := ok_spec h.1
  unfold order
  rw [if_pos h.1]
  simp only [List.mem_filter, List.mem_cons, List.not_mem_nil, or_false]
  exact ⟨by omega, by unfold may; rw [h.2.1]; rfl⟩
end Slo
theorem law22_SlotsStays {A : Option Addr} {m cap : Nat} {xs : List Int} (s : Slo) (slot : Int) (inst : Bool) (K : World) (F : List Assn) (hs : Seq K F A m 1 (ints .i64 xs)) :
    Tells Try.prog 5 #[s.v, .int .i64 slot, .bool inst, .slice A m cap] K F (.bool true) := by
  refine Does.enter Try.func5 rfl Try.ntmps5 rfl ?_
  simp only [env0, Nat.reduceAdd]
  refine WC.seq ?_
  refine WC.region ?_
  refine WL.box (cs := [_, _, _, _, _]) (OV.p rfl) rfl rfl (fun b4 => ?_)
  refine WL.val (V.assign (OV.p rfl)) rfl ?_
  refine WL.nil ?_
  refine WC.seq ?_
  refine WC.region ?_
  refine WL.val (V.loadA (vs := [_, _, _, _, _]) ⟨Try.isAgg26, Try.sizeOf26⟩ (OV.p rfl) rfl (fun _ => by repeat (first | exact Rds.gets ⟨rfl, rfl, rfl, rfl, rfl, trivial⟩ | apply Rds.up))) rfl ?_
  refine WL.val (V.move (OV.p rfl)) rfl ?_
  refine WL.call (vs := [_, _]) Try.call14 ⟨OV.p rfl, OV.p rfl, trivial⟩ (slots_Confirm s slot _ _) rfl ?_
  rintro _ H0 ⟨rfl, h0⟩
  subst H0
  refine WL.val (V.move (OV.p rfl)) rfl ?_
  refine WL.val (V.extract (OV.p rfl) rfl) rfl ?_
  refine WL.val (V.extract (OV.p rfl) rfl) rfl ?_
  refine WL.alloc (cs := [(.int .i64 0), (.int .i64 0), (.bool false), (.int .i64 0), (.bool false)]) Try.zeroValue26 rfl rfl (fun b9 => ?_)
  refine WL.store (cs := [_, _, _, _, _]) Try.sizeOf26 (OV.p rfl) (OV.p rfl) rfl rfl rfl (by repeat (first | exact Upd.here (cs' := [_, _, _, _, _]) rfl rfl | apply Upd.up)) ?_
  refine WL.val (V.assign (OV.p rfl)) rfl ?_
  refine WL.nil ?_
  refine WC.seq ?_
  refine WC.seq ?_
  refine WC.region ?_
  refine WL.val (V.move (OV.p rfl)) rfl ?_
  refine WL.val (V.neq (OV.p rfl) (OV.p rfl)) rfl ?_
  refine WL.nil ?_
  refine WC.cond rfl (fun hc0 => ?_) (fun hc0 => ?_)
  · simp only [decide_eq_true_eq, decide_eq_false_iff_not, Bool.and_eq_true, Bool.or_eq_true, Bool.and_eq_false_iff, Bool.or_eq_false_iff, Bool.not_eq_true', Bool.not_eq_false', Bool.not_eq_true, Bool.not_eq_false, Int.not_lt, Int.not_le] at hc0
    refine WC.seq ?_
    refine WC.region ?_
    refine WL.call (vs := []) Try.call9 trivial (law22_awake _ _) rfl ?_
    rintro _ H0 ⟨rfl, h0⟩
    subst H0
    refine WL.val (V.assign (OV.p rfl)) rfl ?_
    refine WL.nil ?_
    refine WC.ret ?_
    exact BodyQ.ret (H' := F) (Res.tmp rfl rfl) (fun w h => by repeat (first | exact h | replace h := h.tail)) ⟨rfl, rfl⟩
  · simp only [decide_eq_true_eq, decide_eq_false_iff_not, Bool.and_eq_true, Bool.or_eq_true, Bool.and_eq_false_iff, Bool.or_eq_false_iff, Bool.not_eq_true', Bool.not_eq_false', Bool.not_eq_true, Bool.not_eq_false, Int.not_lt, Int.not_le] at hc0
    have hsl := Slo.confirm_slot hc0
    obtain ⟨ok0, g0, f0⟩ := Slo.confirm_good hsl hc0
    obtain ⟨e0, ok1, g1⟩ := Slo.install_other hsl ok0 g0 f0
    refine WC.skip ?_
    refine WC.seq ?_
    refine WC.seq ?_
    refine WC.region ?_
    refine WL.val (V.move (OV.p rfl)) rfl ?_
    refine WL.val (V.len (t := 27) Try.runUnderlying27 (OV.p rfl)) rfl ?_
    refine WL.val (V.gtr (OV.p rfl) (OV.p rfl)) rfl ?_
    refine WL.nil ?_
    refine WC.cond rfl (fun hc1 => ?_) (fun hc1 => ?_)
    · try simp only [decide_eq_true_eq, decide_eq_false_iff_not, Bool.and_eq_true, Bool.or_eq_true, Bool.and_eq_false_iff, Bool.or_eq_false_iff, Bool.not_eq_true', Bool.not_eq_false', Bool.not_eq_true, Bool.not_eq_false, Int.not_lt, Int.not_le] at hc1
      refine WC.seq ?_
      refine WC.region ?_
      refine WL.val (V.assign (OV.p rfl)) rfl ?_
      refine WL.nil ?_
      refine WC.ret ?_
      exact BodyQ.ret (H' := F) (Res.tmp rfl rfl) (fun w h => by repeat (first | exact h | replace h := h.tail)) ⟨rfl, rfl⟩
    · try simp only [decide_eq_true_eq, decide_eq_false_iff_not, Bool.and_eq_true, Bool.or_eq_true, Bool.and_eq_false_iff, Bool.or_eq_false_iff, Bool.not_eq_true', Bool.not_eq_false', Bool.not_eq_true, Bool.not_eq_false, Int.not_lt, Int.not_le] at hc1
      refine WC.skip ?_
      refine WC.seq ?_
      refine WC.seq ?_
      refine WC.region ?_
      refine WL.val (V.move (OV.p rfl)) rfl ?_
      refine WL.nil ?_
      refine WC.cond rfl (fun hc2 => ?_) (fun hc2 => ?_)
      · try simp only [decide_eq_true_eq, decide_eq_false_iff_not, Bool.and_eq_true, Bool.or_eq_true, Bool.and_eq_false_iff, Bool.or_eq_false_iff, Bool.not_eq_true', Bool.not_eq_false', Bool.not_eq_true, Bool.not_eq_false, Int.not_lt, Int.not_le] at hc2
        refine WC.seq ?_
        refine WC.region ?_
        refine WL.val (V.loadA (vs := [_, _, _, _, _]) ⟨Try.isAgg26, Try.sizeOf26⟩ (OV.p rfl) rfl (fun _ => by repeat (first | exact Rds.gets ⟨rfl, rfl, rfl, rfl, rfl, trivial⟩ | apply Rds.up))) rfl ?_
        refine WL.val (V.move (OV.p rfl)) rfl ?_
        refine WL.val (V.subI (OV.p rfl) (OV.p rfl) (fun hc => by first | omega | (simp at hc; omega))) rfl ?_
        refine WL.call (vs := [_, _]) Try.call10 ⟨OV.p rfl, OV.p rfl, trivial⟩ (slots_Install _ _ _ _) rfl ?_
        rintro _ H0 ⟨rfl, h0⟩
        subst H0
        refine WL.val (V.move (OV.p rfl)) rfl ?_
        refine WL.val (V.extract (OV.p rfl) rfl) rfl ?_
        refine WL.val (V.extract (OV.p rfl) rfl) rfl ?_
        refine WL.alloc (cs := [(.int .i64 0), (.int .i64 0), (.bool false), (.int .i64 0), (.bool false)]) Try.zeroValue26 rfl rfl (fun b11 => ?_)
        refine WL.store (cs := [_, _, _, _, _]) Try.sizeOf26 (OV.p rfl) (OV.p rfl) rfl rfl rfl (by repeat (first | exact Upd.here (cs' := [_, _, _, _, _]) rfl rfl | apply Upd.up)) ?_
        refine WL.val (V.assign (OV.p rfl)) rfl ?_
        refine WL.nil ?_
        refine WC.seq ?_
        refine WC.seq ?_
        refine WC.region ?_
        refine WL.val (V.move (OV.p rfl)) rfl ?_
        refine WL.val (V.neq (OV.p rfl) (OV.p rfl)) rfl ?_
        refine WL.nil ?_
        refine WC.condF' rfl ((by rw [e0]; simp)) ?_
        refine WC.skip ?_
        refine WC.region ?_
        refine WL.val (V.loadA (vs := [_, _, _, _, _]) ⟨Try.isAgg26, Try.sizeOf26⟩ (OV.p rfl) rfl (fun _ => by repeat (first | exact Rds.gets ⟨rfl, rfl, rfl, rfl, rfl, trivial⟩ | apply Rds.up))) rfl ?_
        refine WL.store (cs := [_, _, _, _, _]) Try.sizeOf26 (OV.p rfl) (OV.p rfl) rfl rfl rfl (by repeat (first | exact Upd.here (cs' := [_, _, _, _, _]) rfl rfl | apply Upd.up)) ?_
        refine WL.nil ?_
        refine WC.seq ?_
        first
        | refine WC.toInv (P' := fun c : Slo => c.ok = true ∧ c.g slot = true) (M := fun c : Slo => Cells b9 26 [.int .i64 c.f, .int .i64 c.t0, .bool c.g0, .int .i64 c.t1, .bool c.g1] :: F) ((s.confirm slot).1.install (1 - slot)).1 ⟨ok1, g1⟩ (fun w h => h.tail.drop2) (fun c hcc => ?_)
        | refine WC.toInv (P' := fun c : Slo => c.ok = true ∧ c.g slot = true) (M := fun c : Slo => Cells b9 26 [.int .i64 c.f, .int .i64 c.t0, .bool c.g0, .int .i64 c.t1, .bool c.g1] :: F) (s.confirm slot).1 ⟨ok0, g0⟩ (fun w h => h.drop2) (fun c hcc => ?_)
        refine WC.region ?_
        refine WL.val (V.move (OV.p rfl)) rfl ?_
        refine WL.val (V.subI (OV.p rfl) (OV.p rfl) (fun hc => by first | omega | (simp at hc; omega))) rfl ?_
        refine WL.val (V.fieldAddr fo26_1 (OV.p rfl)) rfl ?_
        refine WL.val (V.idxA at24 (OV.p rfl) (OV.p rfl) (fun hc => by first | omega | (simp at hc; omega))) rfl ?_
        refine WL.val (V.fieldAddr fo23_0 (OV.p rfl)) rfl ?_
        refine WL.val (V.load Try.isAgg3 (OV.p rfl) (fun _ => Rd.here (v := .int .i64 (c.t (1 - slot))) (by rcases hsl with rfl | rfl <;> rfl))) rfl ?_
        refine WL.val (V.assign (OV.p rfl)) rfl ?_
        refine WL.nil ?_
        refine WC.seq ?_
        refine WC.region ?_
        refine WL.val (V.move (OV.p rfl)) rfl ?_
        refine WL.val (V.subI (OV.p rfl) (OV.p rfl) (fun hc => by first | omega | (simp at hc; omega))) rfl ?_
        refine WL.val (V.fieldAddr fo26_1 (OV.p rfl)) rfl ?_
        refine WL.val (V.idxA at24 (OV.p rfl) (OV.p rfl) (fun hc => by first | omega | (simp at hc; omega))) rfl ?_
        refine WL.val (V.fieldAddr fo23_1 (OV.p rfl)) rfl ?_
        refine WL.val (V.load Try.isAgg4 (OV.p rfl) (fun _ => Rd.here (v := .bool (c.g (1 - slot))) (by rcases hsl with rfl | rfl <;> rfl))) rfl ?_
        refine WL.val (V.assign (OV.p rfl)) rfl ?_
        refine WL.nil ?_
        refine WC.seq ?_
        refine WC.region ?_
        refine WL.val (V.assign (OV.p rfl)) rfl ?_
        refine WL.nil ?_
        refine WC.seq ?_
        refine WC.seq ?_
        refine WC.region ?_
        refine WL.val (V.assign (OV.p rfl)) rfl ?_
        refine WL.nil ?_
        refine WC.block ?_
        refine WC.loop (σ := Slo × Nat × Int) (fun x => [(3, .slice A m cap), (1, .int .i64 slot), (9, ptr b9 0), (13, .int .i64 (c.t (1 - slot))), (14, .bool (c.g (1 - slot))), (15, .int .i64 x.2.2), (16, .int .i64 (x.2.1 : Int))]) (fun x => Cells b9 26 [.int .i64 x.1.f, .int .i64 x.1.t0, .bool x.1.g0, .int .i64 x.1.t1, .bool x.1.g1] :: F) (fun x => x.2.1 ≤ m ∧ Slo.Stay c slot x.1 x.2.1 x.2.2) (fun x => m - x.2.1) (c, 0, 0) ⟨Nat.zero_le _, Slo.Stay.start hcc.1 hcc.2⟩ (.cons rfl (.cons rfl (.cons rfl (.cons rfl (.cons rfl (.cons rfl (.cons rfl (.nil _)))))))) (fun w h => h) ?_
        rintro ⟨n, i, d⟩ ⟨hi, hst⟩
        dsimp only at hi hst ⊢
        obtain ⟨hok, hgs, hgo, hto, hd0, hdi⟩ := id hst
        refine WC.seq ?_
        refine WC.seq ?_
        refine WC.region ?_
        refine WL.val (V.move (OV.p rfl)) rfl ?_
        refine WL.val (V.move (OV.p rfl)) rfl ?_
        refine WL.val (V.len (t := 27) Try.runUnderlying27 (OV.p rfl)) rfl ?_
        refine WL.val (V.lss (OV.p rfl) (OV.p rfl)) rfl ?_
        refine WL.nil ?_
        refine WC.cond rfl (fun hc4 => ?_) (fun hc4 => ?_)
        · try simp only [decide_eq_true_eq, decide_eq_false_iff_not, Bool.and_eq_true, Bool.or_eq_true, Bool.and_eq_false_iff, Bool.or_eq_false_iff, Bool.not_eq_true', Bool.not_eq_false', Bool.not_eq_true, Bool.not_eq_false, Int.not_lt, Int.not_le] at hc4
          refine WC.skip ?_
          refine WC.seq ?_
          refine WC.block ?_
          refine WC.seq ?_
          refine WC.regionH (by kernel_rfl) ?_
          refine WA.take 0 (fun w h => h) rfl (by kernel_rfl) (by kernel_rfl) (by kernel_rfl) (fun _ _ _ h => h) (V.loadA (vs := [_, _, _, _, _]) ⟨Try.isAgg26, Try.sizeOf26⟩ (OV.p rfl) rfl (fun _ => by repeat (first | exact Rds.gets ⟨rfl, rfl, rfl, rfl, rfl, trivial⟩ | apply Rds.up))) rfl ?_
          refine WA.take 1 (fun w h => by repeat (first | exact h | replace h := h.tail)) rfl (by kernel_rfl) (by kernel_rfl) (by kernel_rfl) (fun _ _ _ h => h) (V.move (OV.p rfl)) rfl ?_
          refine WA.take 2 (fun w h => by repeat (first | exact h | replace h := h.tail)) rfl (by kernel_rfl) (by kernel_rfl) (by kernel_rfl) (fun _ _ _ h => h) (V.move (OV.p rfl)) rfl ?_
          refine WA.take 3 (fun w h => by repeat (first | exact h | replace h := h.tail)) rfl (by kernel_rfl) (by kernel_rfl) (by kernel_rfl) (fun _ _ _ h => h) (V.idxS st27 (OV.p rfl) (OV.p rfl) (fun hc => by first | omega | (simp at hc; omega)) (fun hc => by repeat (first | exact Seq.int_rd hs (by first | omega | (simp at hc; omega)) | apply Rd.up))) rfl ?_
          refine WA.take 4 (fun w h => by repeat (first | exact h | replace h := h.tail)) rfl (by kernel_rfl) (by kernel_rfl) (by kernel_rfl) (fun _ _ _ h => h) (V.load Try.isAgg3 (OV.p rfl) (fun hc => by repeat (first | exact Seq.int_rd hs (by first | omega | (simp at hc; omega)) | apply Rd.up))) rfl ?_
          refine WA.two (i := 5) (j := 9) (fun w h => by repeat (first | exact h | replace h := h.tail)) (by kernel_rfl) rfl rfl ?_ ?_
          · refine WL.call (vs := [_, _]) Try.call11 ⟨OV.p rfl, OV.p rfl, trivial⟩ (slots_Try _ _ _ _) rfl ?_
            rintro _ H0 ⟨rfl, h0⟩
            subst H0
            refine WL.nil ?_
            refine WA.take 6 (fun w h => by repeat (first | exact h | replace h := h.tail)) rfl (by kernel_rfl) (by kernel_rfl) (by kernel_rfl) (fun _ _ _ h => h) (V.move (OV.p rfl)) rfl ?_
            refine WA.take 7 (fun w h => by repeat (first | exact h | replace h := h.tail)) rfl (by kernel_rfl) (by kernel_rfl) (by kernel_rfl) (fun _ _ _ h => h) (V.extract (OV.p rfl) rfl) rfl ?_
            refine WA.take 8 (fun w h => by repeat (first | exact h | replace h := h.tail)) rfl (by kernel_rfl) (by kernel_rfl) (by kernel_rfl) (fun _ _ _ h => h) (V.extract (OV.p rfl) rfl) rfl ?_
            refine WA.one (i := 9) (fun w h => by repeat (first | exact h | replace h := h.tail)) (by kernel_rfl) rfl ?_
            refine WL.alloc (cs := [(.int .i64 0), (.int .i64 0), (.bool false), (.int .i64 0), (.bool false)]) Try.zeroValue26 rfl rfl (fun b17 => ?_)
            refine WL.nil ?_
            refine WA.one (i := 10) (fun w h => by repeat (first | exact h | replace h := h.tail)) (by kernel_rfl) rfl ?_
            refine WL.store (cs := [_, _, _, _, _]) Try.sizeOf26 (OV.p rfl) (OV.p rfl) rfl rfl rfl (by repeat (first | exact Upd.here (cs' := [_, _, _, _, _]) rfl rfl | apply Upd.up)) ?_
            refine WL.nil ?_
            refine WA.take 11 (fun w h => by repeat (first | exact h | replace h := h.tail)) rfl (by kernel_rfl) (by kernel_rfl) (by kernel_rfl) (fun _ _ _ h => h) (V.assign (OV.p rfl)) rfl ?_
            refine WA.done (by kernel_rfl) (fun w h => by repeat (first | exact h | replace h := h.tail)) ?_
            refine WC.seq ?_
            refine WC.region ?_
            refine WL.val (V.move (OV.p rfl)) rfl ?_
            refine WL.val (V.eql (OV.p rfl) (OV.p rfl)) rfl ?_
            refine WL.nil ?_
            refine WC.cond rfl (fun hc5 => ?_) (fun hc5 => ?_)
            · simp only [decide_eq_true_eq, decide_eq_false_iff_not, Bool.and_eq_true, Bool.or_eq_true, Bool.and_eq_false_iff, Bool.or_eq_false_iff, Bool.not_eq_true', Bool.not_eq_false', Bool.not_eq_true, Bool.not_eq_false, Int.not_lt, Int.not_le] at hc5
              have h5 := hc5
              refine WC.seq ?_
              refine WC.region ?_
              refine WL.val (V.loadA (vs := [_, _, _, _, _]) ⟨Try.isAgg26, Try.sizeOf26⟩ (OV.p rfl) rfl (fun _ => by repeat (first | exact Rds.gets ⟨rfl, rfl, rfl, rfl, rfl, trivial⟩ | apply Rds.up))) rfl ?_
              refine WL.store (cs := [_, _, _, _, _]) Try.sizeOf26 (OV.p rfl) (OV.p rfl) rfl rfl rfl (by repeat (first | exact Upd.here rfl rfl | apply Upd.up)) ?_
              refine WL.nil ?_
              refine WC.seq ?_
              refine WC.region ?_
              refine WL.val (V.move (OV.p rfl)) rfl ?_
              refine WL.val (V.move (OV.p rfl)) rfl ?_
              refine WL.val (V.idxS st27 (OV.p rfl) (OV.p rfl) (fun hc => by first | omega | (simp at hc; omega)) (fun hc => by repeat (first | exact Seq.int_rd hs (by first | omega | (simp at hc; omega)) | apply Rd.up))) rfl ?_
              refine WL.val (V.load Try.isAgg3 (OV.p rfl) (fun hc => by repeat (first | exact Seq.int_rd hs (by first | omega | (simp at hc; omega)) | apply Rd.up))) rfl ?_
              refine WL.val (V.move (OV.p rfl)) rfl ?_
              refine WL.val (V.subI (OV.p rfl) (OV.p rfl) (fun hc => by first | omega | (simp at hc; omega))) rfl ?_
              refine WL.val (V.eql (OV.p rfl) (OV.p rfl)) rfl ?_
              refine WL.nil ?_
              refine WC.cond rfl (fun hc6 => ?_) (fun hc6 => ?_)
              · simp only [decide_eq_true_eq, decide_eq_false_iff_not, Bool.and_eq_true, Bool.or_eq_true, Bool.and_eq_false_iff, Bool.or_eq_false_iff, Bool.not_eq_true', Bool.not_eq_false', Bool.not_eq_true, Bool.not_eq_false, Int.not_lt, Int.not_le] at hc6
                have h6 := hc6
                refine WC.region ?_
                refine WL.val (V.move (OV.p rfl)) rfl ?_
                refine WL.val (V.addI (OV.p rfl) (OV.p rfl) (fun hc => by first | omega | (simp at hc; omega))) rfl ?_
                refine WL.val (V.assign (OV.p rfl)) rfl ?_
                refine WL.nil ?_
                refine WC.region ?_
                refine WL.val (V.move (OV.p rfl)) rfl ?_
                refine WL.val (V.addI (OV.p rfl) (OV.p rfl) (fun hc => by first | omega | (simp at hc; omega))) rfl ?_
                refine WL.val (V.assign (OV.p rfl)) rfl ?_
                refine WL.nil ?_
                first
                | exact ⟨((n.try_ (xs.getD (i : Int).toNat 0)).1, i + 1, d + 1), ⟨by show i + 1 ≤ m; omega, by have := Slo.Stay.try_ hsl hst h5; rw [if_pos h6] at this; exact this⟩, (by show m - (i + 1) < m - i; omega), .cons rfl (.cons rfl (.cons rfl (.cons rfl (.cons rfl (.cons rfl (.cons (look_eq rfl (by simp)) (.nil _))))))), fun w h => h.tail⟩
                | exact ⟨((n.try_ (xs.getD (i : Int).toNat 0)).1, i + 1, d), ⟨by show i + 1 ≤ m; omega, by have := Slo.Stay.try_ hsl hst h5; rw [if_neg h6] at this; exact this⟩, (by show m - (i + 1) < m - i; omega), .cons rfl (.cons rfl (.cons rfl (.cons rfl (.cons rfl (.cons rfl (.cons (look_eq rfl (by simp)) (.nil _))))))), fun w h => h.tail⟩
                | exact ⟨(n, i + 1, d), ⟨by show i + 1 ≤ m; omega, hst.more⟩, (by show m - (i + 1) < m - i; omega), .cons rfl (.cons rfl (.cons rfl (.cons rfl (.cons rfl (.cons rfl (.cons (look_eq rfl (by simp)) (.nil _))))))), fun w h => h.tail⟩
              · simp only [decide_eq_true_eq, decide_eq_false_iff_not, Bool.and_eq_true, Bool.or_eq_true, Bool.and_eq_false_iff, Bool.or_eq_false_iff, Bool.not_eq_true', Bool.not_eq_false', Bool.not_eq_true, Bool.not_eq_false, Int.not_lt, Int.not_le] at hc6
                have h6 := hc6
                refine WC.skip ?_
                refine WC.region ?_
                refine WL.val (V.move (OV.p rfl)) rfl ?_
                refine WL.val (V.addI (OV.p rfl) (OV.p rfl) (fun hc => by first | omega | (simp at hc; omega))) rfl ?_
                refine WL.val (V.assign (OV.p rfl)) rfl ?_
                refine WL.nil ?_
                first
                | exact ⟨((n.try_ (xs.getD (i : Int).toNat 0)).1, i + 1, d + 1), ⟨by show i + 1 ≤ m; omega, by have := Slo.Stay.try_ hsl hst h5; rw [if_pos h6] at this; exact this⟩, (by show m - (i + 1) < m - i; omega), .cons rfl (.cons rfl (.cons rfl (.cons rfl (.cons rfl (.cons rfl (.cons (look_eq rfl (by simp)) (.nil _))))))), fun w h => h.tail⟩
                | exact ⟨((n.try_ (xs.getD (i : Int).toNat 0)).1, i + 1, d), ⟨by show i + 1 ≤ m; omega, by have := Slo.Stay.try_ hsl hst h5; rw [if_neg h6] at this; exact this⟩, (by show m - (i + 1) < m - i; omega), .cons rfl (.cons rfl (.cons rfl (.cons rfl (.cons rfl (.cons rfl (.cons (look_eq rfl (by simp)) (.nil _))))))), fun w h => h.tail⟩
                | exact ⟨(n, i + 1, d), ⟨by show i + 1 ≤ m; omega, hst.more⟩, (by show m - (i + 1) < m - i; omega), .cons rfl (.cons rfl (.cons rfl (.cons rfl (.cons rfl (.cons rfl (.cons (look_eq rfl (by simp)) (.nil _))))))), fun w h => h.tail⟩
            · simp only [decide_eq_true_eq, decide_eq_false_iff_not, Bool.and_eq_true, Bool.or_eq_true, Bool.and_eq_false_iff, Bool.or_eq_false_iff, Bool.not_eq_true', Bool.not_eq_false', Bool.not_eq_true, Bool.not_eq_false, Int.not_lt, Int.not_le] at hc5
              have h5 := hc5
              refine WC.seq ?_
              refine WC.region ?_
              refine WL.val (V.move (OV.p rfl)) rfl ?_
              refine WL.val (V.move (OV.p rfl)) rfl ?_
              refine WL.val (V.idxS st27 (OV.p rfl) (OV.p rfl) (fun hc => by first | omega | (simp at hc; omega)) (fun hc => by repeat (first | exact Seq.int_rd hs (by first | omega | (simp at hc; omega)) | apply Rd.up))) rfl ?_
              refine WL.val (V.load Try.isAgg3 (OV.p rfl) (fun hc => by repeat (first | exact Seq.int_rd hs (by first | omega | (simp at hc; omega)) | apply Rd.up))) rfl ?_
              refine WL.val (V.move (OV.p rfl)) rfl ?_
              refine WL.val (V.eql (OV.p rfl) (OV.p rfl)) rfl ?_
              refine WL.nil ?_
              refine WC.cond rfl (fun hc7 => ?_) (fun hc7 => ?_)
              · simp only [decide_eq_true_eq, decide_eq_false_iff_not, Bool.and_eq_true, Bool.or_eq_true, Bool.and_eq_false_iff, Bool.or_eq_false_iff, Bool.not_eq_true', Bool.not_eq_false', Bool.not_eq_true, Bool.not_eq_false, Int.not_lt, Int.not_le] at hc7
                have h7 := hc7
                exact absurd h7 (Slo.Stay.not_slot hsl hst h5)
              · simp only [decide_eq_true_eq, decide_eq_false_iff_not, Bool.and_eq_true, Bool.or_eq_true, Bool.and_eq_false_iff, Bool.or_eq_false_iff, Bool.not_eq_true', Bool.not_eq_false', Bool.not_eq_true, Bool.not_eq_false, Int.not_lt, Int.not_le] at hc7
                have h7 := hc7
                refine WC.skip ?_
                refine WC.region ?_
                refine WL.val (V.move (OV.p rfl)) rfl ?_
                refine WL.val (V.addI (OV.p rfl) (OV.p rfl) (fun hc => by first | omega | (simp at hc; omega))) rfl ?_
                refine WL.val (V.assign (OV.p rfl)) rfl ?_
                refine WL.nil ?_
                first
                | exact ⟨((n.try_ (xs.getD (i : Int).toNat 0)).1, i + 1, d + 1), ⟨by show i + 1 ≤ m; omega, by have := Slo.Stay.try_ hsl hst h5; rw [if_pos h6] at this; exact this⟩, (by show m - (i + 1) < m - i; omega), .cons rfl (.cons rfl (.cons rfl (.cons rfl (.cons rfl (.cons rfl (.cons (look_eq rfl (by simp)) (.nil _))))))), fun w h => h.tail⟩
                | exact ⟨((n.try_ (xs.getD (i : Int).toNat 0)).1, i + 1, d), ⟨by show i + 1 ≤ m; omega, by have := Slo.Stay.try_ hsl hst h5; rw [if_neg h6] at this; exact this⟩, (by show m - (i + 1) < m - i; omega), .cons rfl (.cons rfl (.cons rfl (.cons rfl (.cons rfl (.cons rfl (.cons (look_eq rfl (by simp)) (.nil _))))))), fun w h => h.tail⟩
                | exact ⟨(n, i + 1, d), ⟨by show i + 1 ≤ m; omega, hst.more⟩, (by show m - (i + 1) < m - i; omega), .cons rfl (.cons rfl (.cons rfl (.cons rfl (.cons rfl (.cons rfl (.cons (look_eq rfl (by simp)) (.nil _))))))), fun w h => h.tail⟩
          · refine WL.alloc (cs := [(.int .i64 0), (.int .i64 0), (.bool false), (.int .i64 0), (.bool false)]) Try.zeroValue26 rfl rfl (fun b17 => ?_)
            refine WL.nil ?_
            refine WA.one (i := 5) (fun w h => by repeat (first | exact h | replace h := h.tail)) (by kernel_rfl) rfl ?_
            refine WL.call (vs := [_, _]) Try.call11 ⟨OV.p rfl, OV.p rfl, trivial⟩ (slots_Try _ _ _ _) rfl ?_
            rintro _ H0 ⟨rfl, h0⟩
            subst H0
            refine WL.nil ?_
            refine WA.take 6 (fun w h => by repeat (first | exact h | replace h := h.tail)) rfl (by kernel_rfl) (by kernel_rfl) (by kernel_rfl) (fun _ _ _ h => h) (V.move (OV.p rfl)) rfl ?_
            refine WA.take 7 (fun w h => by repeat (first | exact h | replace h := h.tail)) rfl (by kernel_rfl) (by kernel_rfl) (by kernel_rfl) (fun _ _ _ h => h) (V.extract (OV.p rfl) rfl) rfl ?_
            refine WA.take 8 (fun w h => by repeat (first | exact h | replace h := h.tail)) rfl (by kernel_rfl) (by kernel_rfl) (by kernel_rfl) (fun _ _ _ h => h) (V.extract (OV.p rfl) rfl) rfl ?_
            refine WA.one (i := 10) (fun w h => by repeat (first | exact h | replace h := h.tail)) (by kernel_rfl) rfl ?_
            refine WL.store (cs := [_, _, _, _, _]) Try.sizeOf26 (OV.p rfl) (OV.p rfl) rfl rfl rfl (by repeat (first | exact Upd.here (cs' := [_, _, _, _, _]) rfl rfl | apply Upd.up)) ?_
            refine WL.nil ?_
            refine WA.take 11 (fun w h => by repeat (first | exact h | replace h := h.tail)) rfl (by kernel_rfl) (by kernel_rfl) (by kernel_rfl) (fun _ _ _ h => h) (V.assign (OV.p rfl)) rfl ?_
            refine WA.done (by kernel_rfl) (fun w h => by repeat (first | exact h | replace h := h.tail)) ?_
            refine WC.seq ?_
            refine WC.region ?_
            refine WL.val (V.move (OV.p rfl)) rfl ?_
            refine WL.val (V.eql (OV.p rfl) (OV.p rfl)) rfl ?_
            refine WL.nil ?_
            refine WC.cond rfl (fun hc5' => ?_) (fun hc5' => ?_)
            · simp only [decide_eq_true_eq, decide_eq_false_iff_not, Bool.and_eq_true, Bool.or_eq_true, Bool.and_eq_false_iff, Bool.or_eq_false_iff, Bool.not_eq_true', Bool.not_eq_false', Bool.not_eq_true, Bool.not_eq_false, Int.not_lt, Int.not_le] at hc5'
              have h5 := hc5'
              refine WC.seq ?_
              refine WC.region ?_
              refine WL.val (V.loadA (vs := [_, _, _, _, _]) ⟨Try.isAgg26, Try.sizeOf26⟩ (OV.p rfl) rfl (fun _ => by repeat (first | exact Rds.gets ⟨rfl, rfl, rfl, rfl, rfl, trivial⟩ | apply Rds.up))) rfl ?_
              refine WL.store (cs := [_, _, _, _, _]) Try.sizeOf26 (OV.p rfl) (OV.p rfl) rfl rfl rfl (by repeat (first | exact Upd.here rfl rfl | apply Upd.up)) ?_
              refine WL.nil ?_
              refine WC.seq ?_
              refine WC.region ?_
              refine WL.val (V.move (OV.p rfl)) rfl ?_
              refine WL.val (V.move (OV.p rfl)) rfl ?_
              refine WL.val (V.idxS st27 (OV.p rfl) (OV.p rfl) (fun hc => by first | omega | (simp at hc; omega)) (fun hc => by repeat (first | exact Seq.int_rd hs (by first | omega | (simp at hc; omega)) | apply Rd.up))) rfl ?_
              refine WL.val (V.load Try.isAgg3 (OV.p rfl) (fun hc => by repeat (first | exact Seq.int_rd hs (by first | omega | (simp at hc; omega)) | apply Rd.up))) rfl ?_
              refine WL.val (V.move (OV.p rfl)) rfl ?_
              refine WL.val (V.subI (OV.p rfl) (OV.p rfl) (fun hc => by first | omega | (simp at hc; omega))) rfl ?_
              refine WL.val (V.eql (OV.p rfl) (OV.p rfl)) rfl ?_
              refine WL.nil ?_
              refine WC.cond rfl (fun hc6 => ?_) (fun hc6 => ?_)
              · simp only [decide_eq_true_eq, decide_eq_false_iff_not, Bool.and_eq_true, Bool.or_eq_true, Bool.and_eq_false_iff, Bool.or_eq_false_iff, Bool.not_eq_true', Bool.not_eq_false', Bool.not_eq_true, Bool.not_eq_false, Int.not_lt, Int.not_le] at hc6
                have h6 := hc6
                refine WC.region ?_
                refine WL.val (V.move (OV.p rfl)) rfl ?_
                refine WL.val (V.addI (OV.p rfl) (OV.p rfl) (fun hc => by first | omega | (simp at hc; omega))) rfl ?_
                refine WL.val (V.assign (OV.p rfl)) rfl ?_
                refine WL.nil ?_
                refine WC.region ?_
                refine WL.val (V.move (OV.p rfl)) rfl ?_
                refine WL.val (V.addI (OV.p rfl) (OV.p rfl) (fun hc => by first | omega | (simp at hc; omega))) rfl ?_
                refine WL.val (V.assign (OV.p rfl)) rfl ?_
                refine WL.nil ?_
                first
                | exact ⟨((n.try_ (xs.getD (i : Int).toNat 0)).1, i + 1, d + 1), ⟨by show i + 1 ≤ m; omega, by have := Slo.Stay.try_ hsl hst h5; rw [if_pos h6] at this; exact this⟩, (by show m - (i + 1) < m - i; omega), .cons rfl (.cons rfl (.cons rfl (.cons rfl (.cons rfl (.cons rfl (.cons (look_eq rfl (by simp)) (.nil _))))))), fun w h => h.tail⟩
                | exact ⟨((n.try_ (xs.getD (i : Int).toNat 0)).1, i + 1, d), ⟨by show i + 1 ≤ m; omega, by have := Slo.Stay.try_ hsl hst h5; rw [if_neg h6] at this; exact this⟩, (by show m - (i + 1) < m - i; omega), .cons rfl (.cons rfl (.cons rfl (.cons rfl (.cons rfl (.cons rfl (.cons (look_eq rfl (by simp)) (.nil _))))))), fun w h => h.tail⟩
                | exact ⟨(n, i + 1, d), ⟨by show i + 1 ≤ m; omega, hst.more⟩, (by show m - (i + 1) < m - i; omega), .cons rfl (.cons rfl (.cons rfl (.cons rfl (.cons rfl (.cons rfl (.cons (look_eq rfl (by simp)) (.nil _))))))), fun w h => h.tail⟩
              · simp only [decide_eq_true_eq, decide_eq_false_iff_not, Bool.and_eq_true, Bool.or_eq_true, Bool.and_eq_false_iff, Bool.or_eq_false_iff, Bool.not_eq_true', Bool.not_eq_false', Bool.not_eq_true, Bool.not_eq_false, Int.not_lt, Int.not_le] at hc6
                have h6 := hc6
                refine WC.skip ?_
                refine WC.region ?_
                refine WL.val (V.move (OV.p rfl)) rfl ?_
                refine WL.val (V.addI (OV.p rfl) (OV.p rfl) (fun hc => by first | omega | (simp at hc; omega))) rfl ?_
                refine WL.val (V.assign (OV.p rfl)) rfl ?_
                refine WL.nil ?_
                first
                | exact ⟨((n.try_ (xs.getD (i : Int).toNat 0)).1, i + 1, d + 1), ⟨by show i + 1 ≤ m; omega, by have := Slo.Stay.try_ hsl hst h5; rw [if_pos h6] at this; exact this⟩, (by show m - (i + 1) < m - i; omega), .cons rfl (.cons rfl (.cons rfl (.cons rfl (.cons rfl (.cons rfl (.cons (look_eq rfl (by simp)) (.nil _))))))), fun w h => h.tail⟩
                | exact ⟨((n.try_ (xs.getD (i : Int).toNat 0)).1, i + 1, d), ⟨by show i + 1 ≤ m; omega, by have := Slo.Stay.try_ hsl hst h5; rw [if_neg h6] at this; exact this⟩, (by show m - (i + 1) < m - i; omega), .cons rfl (.cons rfl (.cons rfl (.cons rfl (.cons rfl (.cons rfl (.cons (look_eq rfl (by simp)) (.nil _))))))), fun w h => h.tail⟩
                | exact ⟨(n, i + 1, d), ⟨by show i + 1 ≤ m; omega, hst.more⟩, (by show m - (i + 1) < m - i; omega), .cons rfl (.cons rfl (.cons rfl (.cons rfl (.cons rfl (.cons rfl (.cons (look_eq rfl (by simp)) (.nil _))))))), fun w h => h.tail⟩
            · simp only [decide_eq_true_eq, decide_eq_false_iff_not, Bool.and_eq_true, Bool.or_eq_true, Bool.and_eq_false_iff, Bool.or_eq_false_iff, Bool.not_eq_true', Bool.not_eq_false', Bool.not_eq_true, Bool.not_eq_false, Int.not_lt, Int.not_le] at hc5'
              have h5 := hc5'
              refine WC.seq ?_
              refine WC.region ?_
              refine WL.val (V.move (OV.p rfl)) rfl ?_
              refine WL.val (V.move (OV.p rfl)) rfl ?_
              refine WL.val (V.idxS st27 (OV.p rfl) (OV.p rfl) (fun hc => by first | omega | (simp at hc; omega)) (fun hc => by repeat (first | exact Seq.int_rd hs (by first | omega | (simp at hc; omega)) | apply Rd.up))) rfl ?_
              refine WL.val (V.load Try.isAgg3 (OV.p rfl) (fun hc => by repeat (first | exact Seq.int_rd hs (by first | omega | (simp at hc; omega)) | apply Rd.up))) rfl ?_
              refine WL.val (V.move (OV.p rfl)) rfl ?_
              refine WL.val (V.eql (OV.p rfl) (OV.p rfl)) rfl ?_
              refine WL.nil ?_
              refine WC.cond rfl (fun hc7' => ?_) (fun hc7' => ?_)
              · simp only [decide_eq_true_eq, decide_eq_false_iff_not, Bool.and_eq_true, Bool.or_eq_true, Bool.and_eq_false_iff, Bool.or_eq_false_iff, Bool.not_eq_true', Bool.not_eq_false', Bool.not_eq_true, Bool.not_eq_false, Int.not_lt, Int.not_le] at hc7'
                have h7 := hc7'
                exact absurd h7 (Slo.Stay.not_slot hsl hst h5)
              · simp only [decide_eq_true_eq, decide_eq_false_iff_not, Bool.and_eq_true, Bool.or_eq_true, Bool.and_eq_false_iff, Bool.or_eq_false_iff, Bool.not_eq_true', Bool.not_eq_false', Bool.not_eq_true, Bool.not_eq_false, Int.not_lt, Int.not_le] at hc7'
                have h7 := hc7'
                refine WC.skip ?_
                refine WC.region ?_
                refine WL.val (V.move (OV.p rfl)) rfl ?_
                refine WL.val (V.addI (OV.p rfl) (OV.p rfl) (fun hc => by first | omega | (simp at hc; omega))) rfl ?_
                refine WL.val (V.assign (OV.p rfl)) rfl ?_
                refine WL.nil ?_
                first
                | exact ⟨((n.try_ (xs.getD (i : Int).toNat 0)).1, i + 1, d + 1), ⟨by show i + 1 ≤ m; omega, by have := Slo.Stay.try_ hsl hst h5; rw [if_pos h6] at this; exact this⟩, (by show m - (i + 1) < m - i; omega), .cons rfl (.cons rfl (.cons rfl (.cons rfl (.cons rfl (.cons rfl (.cons (look_eq rfl (by simp)) (.nil _))))))), fun w h => h.tail⟩
                | exact ⟨((n.try_ (xs.getD (i : Int).toNat 0)).1, i + 1, d), ⟨by show i + 1 ≤ m; omega, by have := Slo.Stay.try_ hsl hst h5; rw [if_neg h6] at this; exact this⟩, (by show m - (i + 1) < m - i; omega), .cons rfl (.cons rfl (.cons rfl (.cons rfl (.cons rfl (.cons rfl (.cons (look_eq rfl (by simp)) (.nil _))))))), fun w h => h.tail⟩
                | exact ⟨(n, i + 1, d), ⟨by show i + 1 ≤ m; omega, hst.more⟩, (by show m - (i + 1) < m - i; omega), .cons rfl (.cons rfl (.cons rfl (.cons rfl (.cons rfl (.cons rfl (.cons (look_eq rfl (by simp)) (.nil _))))))), fun w h => h.tail⟩
        · try simp only [decide_eq_true_eq, decide_eq_false_iff_not, Bool.and_eq_true, Bool.or_eq_true, Bool.and_eq_false_iff, Bool.or_eq_false_iff, Bool.not_eq_true', Bool.not_eq_false', Bool.not_eq_true, Bool.not_eq_false, Int.not_lt, Int.not_le] at hc4
          refine WC.exit ?_
          refine WC.seq ?_
          have hchk : n.chk = 0 := by unfold Slo.chk; rw [if_pos hok]
          have hlen := Slo.order_len n
          refine WC.region ?_
          refine WL.val (V.loadA (vs := [_, _, _, _, _]) ⟨Try.isAgg26, Try.sizeOf26⟩ (OV.p rfl) rfl (fun _ => by repeat (first | exact Rds.gets ⟨rfl, rfl, rfl, rfl, rfl, trivial⟩ | apply Rds.up))) rfl ?_
          refine WL.call (vs := [_]) Try.call8 ⟨OV.p rfl, trivial⟩ (slots_Order n _ _) rfl ?_
          rintro _ _ ⟨A19, c19, rfl, rfl⟩
          rw [hchk]
          refine WL.val (V.move (OV.p rfl)) rfl ?_
          refine WL.val (V.extract (OV.p rfl) rfl) rfl ?_
          refine WL.val (V.extract (OV.p rfl) rfl) rfl ?_
          refine WL.val (V.assign (OV.p rfl)) rfl ?_
          refine WL.val (V.assign (OV.p rfl)) rfl ?_
          refine WL.nil ?_
          refine WC.seq ?_
          refine WC.region ?_
          refine WL.val (V.assign (OV.p rfl)) rfl ?_
          refine WL.nil ?_
          refine WC.seq ?_
          refine WC.seq ?_
          refine WC.region ?_
          refine WL.val (V.assign (OV.p rfl)) rfl ?_
          refine WL.nil ?_
          refine WC.block ?_
          refine WC.loop (σ := Nat) (fun j => [(19, .slice A19 n.order.length c19), (1, .int .i64 slot), (13, .int .i64 (c.t (1 - slot))), (14, .bool (c.g (1 - slot))), (15, .int .i64 d), (20, .int .i64 0), (21, .bool (decide (slot ∈ n.order.take j))), (22, .int .i64 (j : Int))]) (fun j => SlA (.slice A19 n.order.length c19) 3 1 n.order.length (ints .i64 n.order) :: F) (fun j => j ≤ n.order.length) (fun j => n.order.length - j) 0 (Nat.zero_le _) (.cons rfl (.cons rfl (.cons rfl (.cons rfl (.cons rfl (.cons rfl (.cons (look_eq rfl (by simp)) (.cons rfl (.nil _))))))))) (fun w h => h.drop2) ?_
          rintro j hj
          refine WC.seq ?_
          refine WC.seq ?_
          refine WC.region ?_
          refine WL.val (V.move (OV.p rfl)) rfl ?_
          refine WL.val (V.move (OV.p rfl)) rfl ?_
          refine WL.val (V.len (t := 27) Try.runUnderlying27 (OV.p rfl)) rfl ?_
          refine WL.val (V.lss (OV.p rfl) (OV.p rfl)) rfl ?_
          refine WL.nil ?_
          refine WC.cond rfl (fun hc8 => ?_) (fun hc8 => ?_)
          · try simp only [decide_eq_true_eq, decide_eq_false_iff_not, Bool.and_eq_true, Bool.or_eq_true, Bool.and_eq_false_iff, Bool.or_eq_false_iff, Bool.not_eq_true', Bool.not_eq_false', Bool.not_eq_true, Bool.not_eq_false, Int.not_lt, Int.not_le] at hc8
            refine WC.skip ?_
            refine WC.seq ?_
            refine WC.block ?_
            refine WC.region ?_
            refine WL.val (V.move (OV.p rfl)) rfl ?_
            refine WL.val (V.move (OV.p rfl)) rfl ?_
            refine WL.valG (oj := _) rfl rfl rfl GC.f (V.move (OV.p rfl)) rfl ?_
            refine WL.valG (oj := _) rfl rfl rfl GC.f (V.move (OV.p rfl)) rfl ?_
            refine WL.valG (oj := _) rfl rfl rfl GC.f (V.idxS st27 (OV.g rfl id) (OV.g rfl id) (fun hc => by first | omega | (simp at hc; omega)) (fun hc => by repeat (first | exact Seq.int_rd SlA.seqI (by first | omega | (simp at hc; omega)) | apply Rd.up))) rfl ?_
            refine WL.valG (oj := _) rfl rfl rfl GC.f (V.load Try.isAgg3 (OV.g rfl id) (fun hc => by repeat (first | exact Seq.int_rd SlA.seqI (by first | omega | (simp at hc; omega)) | apply Rd.up))) rfl ?_
            refine WL.valG (oj := _) rfl rfl rfl GC.f (V.move (OV.p rfl)) rfl ?_
            refine WL.valG (oj := _) rfl rfl rfl GC.f (V.eql (OV.g rfl id) (OV.g rfl id)) rfl ?_
            refine WL.val (V.pickOr (OV.p rfl) (OV.g rfl id)) rfl ?_
            refine WL.val (V.assign (OV.p rfl)) rfl ?_
            refine WL.nil ?_
            refine WC.region ?_
            refine WL.val (V.move (OV.p rfl)) rfl ?_
            refine WL.val (V.addI (OV.p rfl) (OV.p rfl) (fun hc => by first | omega | (simp at hc; omega))) rfl ?_
            refine WL.val (V.assign (OV.p rfl)) rfl ?_
            refine WL.nil ?_
            refine ⟨j + 1, (by show j + 1 ≤ n.order.length; omega), (by show n.order.length - (j + 1) < n.order.length - j; omega), .cons rfl (.cons rfl (.cons rfl (.cons rfl (.cons rfl (.cons rfl (.cons (look_eq rfl ?_) (.cons (look_eq rfl (by simp)) (.nil _)))))))), fun w h => h⟩
            rw [Slo.mem_take_succ (by omega)]
            rfl
          · try simp only [decide_eq_true_eq, decide_eq_false_iff_not, Bool.and_eq_true, Bool.or_eq_true, Bool.and_eq_false_iff, Bool.or_eq_false_iff, Bool.not_eq_true', Bool.not_eq_false', Bool.not_eq_true, Bool.not_eq_false, Int.not_lt, Int.not_le] at hc8
            refine WC.exit ?_
            refine WC.seq ?_
            refine WC.region ?_
            refine WL.call (vs := []) Try.call9 trivial (law22_awake _ _) rfl ?_
            rintro _ H0 ⟨rfl, h0⟩
            subst H0
            refine WL.val (V.move (OV.p rfl)) rfl ?_
            refine WL.valG (oj := _) rfl rfl rfl GC.t (V.move (OV.p rfl)) rfl ?_
            refine WL.valG (oj := _) rfl rfl rfl GC.t (V.eql (OV.g rfl id) (OV.p rfl)) rfl ?_
            refine WL.val (V.pickAnd (OV.p rfl) (OV.g rfl id)) rfl ?_
            refine WL.val (V.move (OV.p rfl)) rfl ?_
            refine WL.valG (oj := _) rfl rfl rfl GC.t (V.move (OV.p rfl)) rfl ?_
            refine WL.val (V.pickAnd (OV.p rfl) (OV.g rfl id)) rfl ?_
            refine WL.val (V.move (OV.p rfl)) rfl ?_
            refine WL.valG (oj := _) rfl rfl rfl GC.t (V.move (OV.p rfl)) rfl ?_
            refine WL.valG (oj := _) rfl rfl rfl GC.t (V.move (OV.g rfl id)) rfl ?_
            refine WL.valG (oj := _) rfl rfl rfl GC.cf (V.move (OV.p rfl)) rfl ?_
            refine WL.valG (oj := _) rfl rfl rfl GC.cf (V.move (OV.p rfl)) rfl ?_
            refine WL.valG (oj := _) rfl rfl rfl GC.cf (V.leq (OV.g rfl id) (OV.g rfl id)) rfl ?_
            refine WL.valG (oj := _) rfl rfl rfl GC.t (V.pickOr (OV.g rfl id) (OV.g rfl id)) rfl ?_
            refine WL.val (V.pickAnd (OV.p rfl) (OV.g rfl id)) rfl ?_
            refine WL.val (V.assign (OV.p rfl)) rfl ?_
            refine WL.nil ?_
            refine WC.ret ?_
            obtain rfl : j = n.order.length := by omega
            refine BodyQ.ret (H' := F) (Res.tmp rfl rfl) (fun w h => by repeat (first | exact h | replace h := h.tail)) ⟨?_, rfl⟩
            have h1 := hst.mem hsl
            have h2 := hst.left
            simp [List.take_length, h1]
            simpa using h2
      · try simp only [decide_eq_true_eq, decide_eq_false_iff_not, Bool.and_eq_true, Bool.or_eq_true, Bool.and_eq_false_iff, Bool.or_eq_false_iff, Bool.not_eq_true', Bool.not_eq_false', Bool.not_eq_true, Bool.not_eq_false, Int.not_lt, Int.not_le] at hc2
        refine WC.skip ?_
        refine WC.seq ?_
        first
        | refine WC.toInv (P' := fun c : Slo => c.ok = true ∧ c.g slot = true) (M := fun c : Slo => Cells b9 26 [.int .i64 c.f, .int .i64 c.t0, .bool c.g0, .int .i64 c.t1, .bool c.g1] :: F) ((s.confirm slot).1.install (1 - slot)).1 ⟨ok1, g1⟩ (fun w h => h.tail.drop2) (fun c hcc => ?_)
        | refine WC.toInv (P' := fun c : Slo => c.ok = true ∧ c.g slot = true) (M := fun c : Slo => Cells b9 26 [.int .i64 c.f, .int .i64 c.t0, .bool c.g0, .int .i64 c.t1, .bool c.g1] :: F) (s.confirm slot).1 ⟨ok0, g0⟩ (fun w h => h.drop2) (fun c hcc => ?_)
        refine WC.region ?_
        refine WL.val (V.move (OV.p rfl)) rfl ?_
        refine WL.val (V.subI (OV.p rfl) (OV.p rfl) (fun hc => by first | omega | (simp at hc; omega))) rfl ?_
        refine WL.val (V.fieldAddr fo26_1 (OV.p rfl)) rfl ?_
        refine WL.val (V.idxA at24 (OV.p rfl) (OV.p rfl) (fun hc => by first | omega | (simp at hc; omega))) rfl ?_
        refine WL.val (V.fieldAddr fo23_0 (OV.p rfl)) rfl ?_
        refine WL.val (V.load Try.isAgg3 (OV.p rfl) (fun _ => Rd.here (v := .int .i64 (c.t (1 - slot))) (by rcases hsl with rfl | rfl <;> rfl))) rfl ?_
        refine WL.val (V.assign (OV.p rfl)) rfl ?_
        refine WL.nil ?_
        refine WC.seq ?_
        refine WC.region ?_
        refine WL.val (V.move (OV.p rfl)) rfl ?_
        refine WL.val (V.subI (OV.p rfl) (OV.p rfl) (fun hc => by first | omega | (simp at hc; omega))) rfl ?_
        refine WL.val (V.fieldAddr fo26_1 (OV.p rfl)) rfl ?_
        refine WL.val (V.idxA at24 (OV.p rfl) (OV.p rfl) (fun hc => by first | omega | (simp at hc; omega))) rfl ?_
        refine WL.val (V.fieldAddr fo23_1 (OV.p rfl)) rfl ?_
        refine WL.val (V.load Try.isAgg4 (OV.p rfl) (fun _ => Rd.here (v := .bool (c.g (1 - slot))) (by rcases hsl with rfl | rfl <;> rfl))) rfl ?_
        refine WL.val (V.assign (OV.p rfl)) rfl ?_
        refine WL.nil ?_
        refine WC.seq ?_
        refine WC.region ?_
        refine WL.val (V.assign (OV.p rfl)) rfl ?_
        refine WL.nil ?_
        refine WC.seq ?_
        refine WC.seq ?_
        refine WC.region ?_
        refine WL.val (V.assign (OV.p rfl)) rfl ?_
        refine WL.nil ?_
        refine WC.block ?_
        refine WC.loop (σ := Slo × Nat × Int) (fun x => [(3, .slice A m cap), (1, .int .i64 slot), (9, ptr b9 0), (13, .int .i64 (c.t (1 - slot))), (14, .bool (c.g (1 - slot))), (15, .int .i64 x.2.2), (16, .int .i64 (x.2.1 : Int))]) (fun x => Cells b9 26 [.int .i64 x.1.f, .int .i64 x.1.t0, .bool x.1.g0, .int .i64 x.1.t1, .bool x.1.g1] :: F) (fun x => x.2.1 ≤ m ∧ Slo.Stay c slot x.1 x.2.1 x.2.2) (fun x => m - x.2.1) (c, 0, 0) ⟨Nat.zero_le _, Slo.Stay.start hcc.1 hcc.2⟩ (.cons rfl (.cons rfl (.cons rfl (.cons rfl (.cons rfl (.cons rfl (.cons rfl (.nil _)))))))) (fun w h => h) ?_
        rintro ⟨n, i, d⟩ ⟨hi, hst⟩
        dsimp only at hi hst ⊢
        obtain ⟨hok, hgs, hgo, hto, hd0, hdi⟩ := id hst
        refine WC.seq ?_
        refine WC.seq ?_
        refine WC.region ?_
        refine WL.val (V.move (OV.p rfl)) rfl ?_
        refine WL.val (V.move (OV.p rfl)) rfl ?_
        refine WL.val (V.len (t := 27) Try.runUnderlying27 (OV.p rfl)) rfl ?_
        refine WL.val (V.lss (OV.p rfl) (OV.p rfl)) rfl ?_
        refine WL.nil ?_
        refine WC.cond rfl (fun hc4 => ?_) (fun hc4 => ?_)
        · try simp only [decide_eq_true_eq, decide_eq_false_iff_not, Bool.and_eq_true, Bool.or_eq_true, Bool.and_eq_false_iff, Bool.or_eq_false_iff, Bool.not_eq_true', Bool.not_eq_false', Bool.not_eq_true, Bool.not_eq_false, Int.not_lt, Int.not_le] at hc4
          refine WC.skip ?_
          refine WC.seq ?_
          refine WC.block ?_
          refine WC.seq ?_
          refine WC.regionH (by kernel_rfl) ?_
          refine WA.take 0 (fun w h => h) rfl (by kernel_rfl) (by kernel_rfl) (by kernel_rfl) (fun _ _ _ h => h) (V.loadA (vs := [_, _, _, _, _]) ⟨Try.isAgg26, Try.sizeOf26⟩ (OV.p rfl) rfl (fun _ => by repeat (first | exact Rds.gets ⟨rfl, rfl, rfl, rfl, rfl, trivial⟩ | apply Rds.up))) rfl ?_
          refine WA.take 1 (fun w h => by repeat (first | exact h | replace h := h.tail)) rfl (by kernel_rfl) (by kernel_rfl) (by kernel_rfl) (fun _ _ _ h => h) (V.move (OV.p rfl)) rfl ?_
          refine WA.take 2 (fun w h => by repeat (first | exact h | replace h := h.tail)) rfl (by kernel_rfl) (by kernel_rfl) (by kernel_rfl) (fun _ _ _ h => h) (V.move (OV.p rfl)) rfl ?_
          refine WA.take 3 (fun w h => by repeat (first | exact h | replace h := h.tail)) rfl (by kernel_rfl) (by kernel_rfl) (by kernel_rfl) (fun _ _ _ h => h) (V.idxS st27 (OV.p rfl) (OV.p rfl) (fun hc => by first | omega | (simp at hc; omega)) (fun hc => by repeat (first | exact Seq.int_rd hs (by first | omega | (simp at hc; omega)) | apply Rd.up))) rfl ?_
          refine WA.take 4 (fun w h => by repeat (first | exact h | replace h := h.tail)) rfl (by kernel_rfl) (by kernel_rfl) (by kernel_rfl) (fun _ _ _ h => h) (V.load Try.isAgg3 (OV.p rfl) (fun hc => by repeat (first | exact Seq.int_rd hs (by first | omega | (simp at hc; omega)) | apply Rd.up))) rfl ?_
          refine WA.two (i := 5) (j := 9) (fun w h => by repeat (first | exact h | replace h := h.tail)) (by kernel_rfl) rfl rfl ?_ ?_
          · refine WL.call (vs := [_, _]) Try.call11 ⟨OV.p rfl, OV.p rfl, trivial⟩ (slots_Try _ _ _ _) rfl ?_
            rintro _ H0 ⟨rfl, h0⟩
            subst H0
            refine WL.nil ?_
            refine WA.take 6 (fun w h => by repeat (first | exact h | replace h := h.tail)) rfl (by kernel_rfl) (by kernel_rfl) (by kernel_rfl) (fun _ _ _ h => h) (V.move (OV.p rfl)) rfl ?_
            refine WA.take 7 (fun w h => by repeat (first | exact h | replace h := h.tail)) rfl (by kernel_rfl) (by kernel_rfl) (by kernel_rfl) (fun _ _ _ h => h) (V.extract (OV.p rfl) rfl) rfl ?_
            refine WA.take 8 (fun w h => by repeat (first | exact h | replace h := h.tail)) rfl (by kernel_rfl) (by kernel_rfl) (by kernel_rfl) (fun _ _ _ h => h) (V.extract (OV.p rfl) rfl) rfl ?_
            refine WA.one (i := 9) (fun w h => by repeat (first | exact h | replace h := h.tail)) (by kernel_rfl) rfl ?_
            refine WL.alloc (cs := [(.int .i64 0), (.int .i64 0), (.bool false), (.int .i64 0), (.bool false)]) Try.zeroValue26 rfl rfl (fun b17 => ?_)
            refine WL.nil ?_
            refine WA.one (i := 10) (fun w h => by repeat (first | exact h | replace h := h.tail)) (by kernel_rfl) rfl ?_
            refine WL.store (cs := [_, _, _, _, _]) Try.sizeOf26 (OV.p rfl) (OV.p rfl) rfl rfl rfl (by repeat (first | exact Upd.here (cs' := [_, _, _, _, _]) rfl rfl | apply Upd.up)) ?_
            refine WL.nil ?_
            refine WA.take 11 (fun w h => by repeat (first | exact h | replace h := h.tail)) rfl (by kernel_rfl) (by kernel_rfl) (by kernel_rfl) (fun _ _ _ h => h) (V.assign (OV.p rfl)) rfl ?_
            refine WA.done (by kernel_rfl) (fun w h => by repeat (first | exact h | replace h := h.tail)) ?_
            refine WC.seq ?_
            refine WC.region ?_
            refine WL.val (V.move (OV.p rfl)) rfl ?_
            refine WL.val (V.eql (OV.p rfl) (OV.p rfl)) rfl ?_
            refine WL.nil ?_
            refine WC.cond rfl (fun hc5 => ?_) (fun hc5 => ?_)
            · simp only [decide_eq_true_eq, decide_eq_false_iff_not, Bool.and_eq_true, Bool.or_eq_true, Bool.and_eq_false_iff, Bool.or_eq_false_iff, Bool.not_eq_true', Bool.not_eq_false', Bool.not_eq_true, Bool.not_eq_false, Int.not_lt, Int.not_le] at hc5
              have h5 := hc5
              refine WC.seq ?_
              refine WC.region ?_
              refine WL.val (V.loadA (vs := [_, _, _, _, _]) ⟨Try.isAgg26, Try.sizeOf26⟩ (OV.p rfl) rfl (fun _ => by repeat (first | exact Rds.gets ⟨rfl, rfl, rfl, rfl, rfl, trivial⟩ | apply Rds.up))) rfl ?_
              refine WL.store (cs := [_, _, _, _, _]) Try.sizeOf26 (OV.p rfl) (OV.p rfl) rfl rfl rfl (by repeat (first | exact Upd.here rfl rfl | apply Upd.up)) ?_
              refine WL.nil ?_
              refine WC.seq ?_
              refine WC.region ?_
              refine WL.val (V.move (OV.p rfl)) rfl ?_
              refine WL.val (V.move (OV.p rfl)) rfl ?_
              refine WL.val (V.idxS st27 (OV.p rfl) (OV.p rfl) (fun hc => by first | omega | (simp at hc; omega)) (fun hc => by repeat (first | exact Seq.int_rd hs (by first | omega | (simp at hc; omega)) | apply Rd.up))) rfl ?_
              refine WL.val (V.load Try.isAgg3 (OV.p rfl) (fun hc => by repeat (first | exact Seq.int_rd hs (by first | omega | (simp at hc; omega)) | apply Rd.up))) rfl ?_
              refine WL.val (V.move (OV.p rfl)) rfl ?_
              refine WL.val (V.subI (OV.p rfl) (OV.p rfl) (fun hc => by first | omega | (simp at hc; omega))) rfl ?_
              refine WL.val (V.eql (OV.p rfl) (OV.p rfl)) rfl ?_
              refine WL.nil ?_
              refine WC.cond rfl (fun hc6 => ?_) (fun hc6 => ?_)
              · simp only [decide_eq_true_eq, decide_eq_false_iff_not, Bool.and_eq_true, Bool.or_eq_true, Bool.and_eq_false_iff, Bool.or_eq_false_iff, Bool.not_eq_true', Bool.not_eq_false', Bool.not_eq_true, Bool.not_eq_false, Int.not_lt, Int.not_le] at hc6
                have h6 := hc6
                refine WC.region ?_
                refine WL.val (V.move (OV.p rfl)) rfl ?_
                refine WL.val (V.addI (OV.p rfl) (OV.p rfl) (fun hc => by first | omega | (simp at hc; omega))) rfl ?_
                refine WL.val (V.assign (OV.p rfl)) rfl ?_
                refine WL.nil ?_
                refine WC.region ?_
                refine WL.val (V.move (OV.p rfl)) rfl ?_
                refine WL.val (V.addI (OV.p rfl) (OV.p rfl) (fun hc => by first | omega | (simp at hc; omega))) rfl ?_
                refine WL.val (V.assign (OV.p rfl)) rfl ?_
                refine WL.nil ?_
                first
                | exact ⟨((n.try_ (xs.getD (i : Int).toNat 0)).1, i + 1, d + 1), ⟨by show i + 1 ≤ m; omega, by have := Slo.Stay.try_ hsl hst h5; rw [if_pos h6] at this; exact this⟩, (by show m - (i + 1) < m - i; omega), .cons rfl (.cons rfl (.cons rfl (.cons rfl (.cons rfl (.cons rfl (.cons (look_eq rfl (by simp)) (.nil _))))))), fun w h => h.tail⟩
                | exact ⟨((n.try_ (xs.getD (i : Int).toNat 0)).1, i + 1, d), ⟨by show i + 1 ≤ m; omega, by have := Slo.Stay.try_ hsl hst h5; rw [if_neg h6] at this; exact this⟩, (by show m - (i + 1) < m - i; omega), .cons rfl (.cons rfl (.cons rfl (.cons rfl (.cons rfl (.cons rfl (.cons (look_eq rfl (by simp)) (.nil _))))))), fun w h => h.tail⟩
                | exact ⟨(n, i + 1, d), ⟨by show i + 1 ≤ m; omega, hst.more⟩, (by show m - (i + 1) < m - i; omega), .cons rfl (.cons rfl (.cons rfl (.cons rfl (.cons rfl (.cons rfl (.cons (look_eq rfl (by simp)) (.nil _))))))), fun w h => h.tail⟩
              · simp only [decide_eq_true_eq, decide_eq_false_iff_not, Bool.and_eq_true, Bool.or_eq_true, Bool.and_eq_false_iff, Bool.or_eq_false_iff, Bool.not_eq_true', Bool.not_eq_false', Bool.not_eq_true, Bool.not_eq_false, Int.not_lt, Int.not_le] at hc6
                have h6 := hc6
                refine WC.skip ?_
                refine WC.region ?_
                refine WL.val (V.move (OV.p rfl)) rfl ?_
                refine WL.val (V.addI (OV.p rfl) (OV.p rfl) (fun hc => by first | omega | (simp at hc; omega))) rfl ?_
                refine WL.val (V.assign (OV.p rfl)) rfl ?_
                refine WL.nil ?_
                first
                | exact ⟨((n.try_ (xs.getD (i : Int).toNat 0)).1, i + 1, d + 1), ⟨by show i + 1 ≤ m; omega, by have := Slo.Stay.try_ hsl hst h5; rw [if_pos h6] at this; exact this⟩, (by show m - (i + 1) < m - i; omega), .cons rfl (.cons rfl (.cons rfl (.cons rfl (.cons rfl (.cons rfl (.cons (look_eq rfl (by simp)) (.nil _))))))), fun w h => h.tail⟩
                | exact ⟨((n.try_ (xs.getD (i : Int).toNat 0)).1, i + 1, d), ⟨by show i + 1 ≤ m; omega, by have := Slo.Stay.try_ hsl hst h5; rw [if_neg h6] at this; exact this⟩, (by show m - (i + 1) < m - i; omega), .cons rfl (.cons rfl (.cons rfl (.cons rfl (.cons rfl (.cons rfl (.cons (look_eq rfl (by simp)) (.nil _))))))), fun w h => h.tail⟩
                | exact ⟨(n, i + 1, d), ⟨by show i + 1 ≤ m; omega, hst.more⟩, (by show m - (i + 1) < m - i; omega), .cons rfl (.cons rfl (.cons rfl (.cons rfl (.cons rfl (.cons rfl (.cons (look_eq rfl (by simp)) (.nil _))))))), fun w h => h.tail⟩
            · simp only [decide_eq_true_eq, decide_eq_false_iff_not, Bool.and_eq_true, Bool.or_eq_true, Bool.and_eq_false_iff, Bool.or_eq_false_iff, Bool.not_eq_true', Bool.not_eq_false', Bool.not_eq_true, Bool.not_eq_false, Int.not_lt, Int.not_le] at hc5
              have h5 := hc5
              refine WC.seq ?_
              refine WC.region ?_
              refine WL.val (V.move (OV.p rfl)) rfl ?_
              refine WL.val (V.move (OV.p rfl)) rfl ?_
              refine WL.val (V.idxS st27 (OV.p rfl) (OV.p rfl) (fun hc => by first | omega | (simp at hc; omega)) (fun hc => by repeat (first | exact Seq.int_rd hs (by first | omega | (simp at hc; omega)) | apply Rd.up))) rfl ?_
              refine WL.val (V.load Try.isAgg3 (OV.p rfl) (fun hc => by repeat (first | exact Seq.int_rd hs (by first | omega | (simp at hc; omega)) | apply Rd.up))) rfl ?_
              refine WL.val (V.move (OV.p rfl)) rfl ?_
              refine WL.val (V.eql (OV.p rfl) (OV.p rfl)) rfl ?_
              refine WL.nil ?_
              refine WC.cond rfl (fun hc7 => ?_) (fun hc7 => ?_)
              · simp only [decide_eq_true_eq, decide_eq_false_iff_not, Bool.and_eq_true, Bool.or_eq_true, Bool.and_eq_false_iff, Bool.or_eq_false_iff, Bool.not_eq_true', Bool.not_eq_false', Bool.not_eq_true, Bool.not_eq_false, Int.not_lt, Int.not_le] at hc7
                have h7 := hc7
                exact absurd h7 (Slo.Stay.not_slot hsl hst h5)
              · simp only [decide_eq_true_eq, decide_eq_false_iff_not, Bool.and_eq_true, Bool.or_eq_true, Bool.and_eq_false_iff, Bool.or_eq_false_iff, Bool.not_eq_true', Bool.not_eq_false', Bool.not_eq_true, Bool.not_eq_false, Int.not_lt, Int.not_le] at hc7
                have h7 := hc7
                refine WC.skip ?_
                refine WC.region ?_
                refine WL.val (V.move (OV.p rfl)) rfl ?_
                refine WL.val (V.addI (OV.p rfl) (OV.p rfl) (fun hc => by first | omega | (simp at hc; omega))) rfl ?_
                refine WL.val (V.assign (OV.p rfl)) rfl ?_
                refine WL.nil ?_
                first
                | exact ⟨((n.try_ (xs.getD (i : Int).toNat 0)).1, i + 1, d + 1), ⟨by show i + 1 ≤ m; omega, by have := Slo.Stay.try_ hsl hst h5; rw [if_pos h6] at this; exact this⟩, (by show m - (i + 1) < m - i; omega), .cons rfl (.cons rfl (.cons rfl (.cons rfl (.cons rfl (.cons rfl (.cons (look_eq rfl (by simp)) (.nil _))))))), fun w h => h.tail⟩
                | exact ⟨((n.try_ (xs.getD (i : Int).toNat 0)).1, i + 1, d), ⟨by show i + 1 ≤ m; omega, by have := Slo.Stay.try_ hsl hst h5; rw [if_neg h6] at this; exact this⟩, (by show m - (i + 1) < m - i; omega), .cons rfl (.cons rfl (.cons rfl (.cons rfl (.cons rfl (.cons rfl (.cons (look_eq rfl (by simp)) (.nil _))))))), fun w h => h.tail⟩
                | exact ⟨(n, i + 1, d), ⟨by show i + 1 ≤ m; omega, hst.more⟩, (by show m - (i + 1) < m - i; omega), .cons rfl (.cons rfl (.cons rfl (.cons rfl (.cons rfl (.cons rfl (.cons (look_eq rfl (by simp)) (.nil _))))))), fun w h => h.tail⟩
          · refine WL.alloc (cs := [(.int .i64 0), (.int .i64 0), (.bool false), (.int .i64 0), (.bool false)]) Try.zeroValue26 rfl rfl (fun b17 => ?_)
            refine WL.nil ?_
            refine WA.one (i := 5) (fun w h => by repeat (first | exact h | replace h := h.tail)) (by kernel_rfl) rfl ?_
            refine WL.call (vs := [_, _]) Try.call11 ⟨OV.p rfl, OV.p rfl, trivial⟩ (slots_Try _ _ _ _) rfl ?_
            rintro _ H0 ⟨rfl, h0⟩
            subst H0
            refine WL.nil ?_
            refine WA.take 6 (fun w h => by repeat (first | exact h | replace h := h.tail)) rfl (by kernel_rfl) (by kernel_rfl) (by kernel_rfl) (fun _ _ _ h => h) (V.move (OV.p rfl)) rfl ?_
            refine WA.take 7 (fun w h => by repeat (first | exact h | replace h := h.tail)) rfl (by kernel_rfl) (by kernel_rfl) (by kernel_rfl) (fun _ _ _ h => h) (V.extract (OV.p rfl) rfl) rfl ?_
            refine WA.take 8 (fun w h => by repeat (first | exact h | replace h := h.tail)) rfl (by kernel_rfl) (by kernel_rfl) (by kernel_rfl) (fun _ _ _ h => h) (V.extract (OV.p rfl) rfl) rfl ?_
            refine WA.one (i := 10) (fun w h => by repeat (first | exact h | replace h := h.tail)) (by kernel_rfl) rfl ?_
            refine WL.store (cs := [_, _, _, _, _]) Try.sizeOf26 (OV.p rfl) (OV.p rfl) rfl rfl rfl (by repeat (first | exact Upd.here (cs' := [_, _, _, _, _]) rfl rfl | apply Upd.up)) ?_
            refine WL.nil ?_
            refine WA.take 11 (fun w h => by repeat (first | exact h | replace h := h.tail)) rfl (by kernel_rfl) (by kernel_rfl) (by kernel_rfl) (fun _ _ _ h => h) (V.assign (OV.p rfl)) rfl ?_
            refine WA.done (by kernel_rfl) (fun w h => by repeat (first | exact h | replace h := h.tail)) ?_
            refine WC.seq ?_
            refine WC.region ?_
            refine WL.val (V.move (OV.p rfl)) rfl ?_
            refine WL.val (V.eql (OV.p rfl) (OV.p rfl)) rfl ?_
            refine WL.nil ?_
            refine WC.cond rfl (fun hc5' => ?_) (fun hc5' => ?_)
            · simp only [decide_eq_true_eq, decide_eq_false_iff_not, Bool.and_eq_true, Bool.or_eq_true, Bool.and_eq_false_iff, Bool.or_eq_false_iff, Bool.not_eq_true', Bool.not_eq_false', Bool.not_eq_true, Bool.not_eq_false, Int.not_lt, Int.not_le] at hc5'
              have h5 := hc5'
              refine WC.seq ?_
              refine WC.region ?_
              refine WL.val (V.loadA (vs := [_, _, _, _, _]) ⟨Try.isAgg26, Try.sizeOf26⟩ (OV.p rfl) rfl (fun _ => by repeat (first | exact Rds.gets ⟨rfl, rfl, rfl, rfl, rfl, trivial⟩ | apply Rds.up))) rfl ?_
              refine WL.store (cs := [_, _, _, _, _]) Try.sizeOf26 (OV.p rfl) (OV.p rfl) rfl rfl rfl (by repeat (first | exact Upd.here rfl rfl | apply Upd.up)) ?_
              refine WL.nil ?_
              refine WC.seq ?_
              refine WC.region ?_
              refine WL.val (V.move (OV.p rfl)) rfl ?_
              refine WL.val (V.move (OV.p rfl)) rfl ?_
              refine WL.val (V.idxS st27 (OV.p rfl) (OV.p rfl) (fun hc => by first | omega | (simp at hc; omega)) (fun hc => by repeat (first | exact Seq.int_rd hs (by first | omega | (simp at hc; omega)) | apply Rd.up))) rfl ?_
              refine WL.val (V.load Try.isAgg3 (OV.p rfl) (fun hc => by repeat (first | exact Seq.int_rd hs (by first | omega | (simp at hc; omega)) | apply Rd.up))) rfl ?_
              refine WL.val (V.move (OV.p rfl)) rfl ?_
              refine WL.val (V.subI (OV.p rfl) (OV.p rfl) (fun hc => by first | omega | (simp at hc; omega))) rfl ?_
              refine WL.val (V.eql (OV.p rfl) (OV.p rfl)) rfl ?_
              refine WL.nil ?_
              refine WC.cond rfl (fun hc6 => ?_) (fun hc6 => ?_)
              · simp only [decide_eq_true_eq, decide_eq_false_iff_not, Bool.and_eq_true, Bool.or_eq_true, Bool.and_eq_false_iff, Bool.or_eq_false_iff, Bool.not_eq_true', Bool.not_eq_false', Bool.not_eq_true, Bool.not_eq_false, Int.not_lt, Int.not_le] at hc6
                have h6 := hc6
                refine WC.region ?_
                refine WL.val (V.move (OV.p rfl)) rfl ?_
                refine WL.val (V.addI (OV.p rfl) (OV.p rfl) (fun hc => by first | omega | (simp at hc; omega))) rfl ?_
                refine WL.val (V.assign (OV.p rfl)) rfl ?_
                refine WL.nil ?_
                refine WC.region ?_
                refine WL.val (V.move (OV.p rfl)) rfl ?_
                refine WL.val (V.addI (OV.p rfl) (OV.p rfl) (fun hc => by first | omega | (simp at hc; omega))) rfl ?_
                refine WL.val (V.assign (OV.p rfl)) rfl ?_
                refine WL.nil ?_
                first
                | exact ⟨((n.try_ (xs.getD (i : Int).toNat 0)).1, i + 1, d + 1), ⟨by show i + 1 ≤ m; omega, by have := Slo.Stay.try_ hsl hst h5; rw [if_pos h6] at this; exact this⟩, (by show m - (i + 1) < m - i; omega), .cons rfl (.cons rfl (.cons rfl (.cons rfl (.cons rfl (.cons rfl (.cons (look_eq rfl (by simp)) (.nil _))))))), fun w h => h.tail⟩
                | exact ⟨((n.try_ (xs.getD (i : Int).toNat 0)).1, i + 1, d), ⟨by show i + 1 ≤ m; omega, by have := Slo.Stay.try_ hsl hst h5; rw [if_neg h6] at this; exact this⟩, (by show m - (i + 1) < m - i; omega), .cons rfl (.cons rfl (.cons rfl (.cons rfl (.cons rfl (.cons rfl (.cons (look_eq rfl (by simp)) (.nil _))))))), fun w h => h.tail⟩
                | exact ⟨(n, i + 1, d), ⟨by show i + 1 ≤ m; omega, hst.more⟩, (by show m - (i + 1) < m - i; omega), .cons rfl (.cons rfl (.cons rfl (.cons rfl (.cons rfl (.cons rfl (.cons (look_eq rfl (by simp)) (.nil _))))))), fun w h => h.tail⟩
              · simp only [decide_eq_true_eq, decide_eq_false_iff_not, Bool.and_eq_true, Bool.or_eq_true, Bool.and_eq_false_iff, Bool.or_eq_false_iff, Bool.not_eq_true', Bool.not_eq_false', Bool.not_eq_true, Bool.not_eq_false, Int.not_lt, Int.not_le] at hc6
                have h6 := hc6
                refine WC.skip ?_
                refine WC.region ?_
                refine WL.val (V.move (OV.p rfl)) rfl ?_
                refine WL.val (V.addI (OV.p rfl) (OV.p rfl) (fun hc => by first | omega | (simp at hc; omega))) rfl ?_
                refine WL.val (V.assign (OV.p rfl)) rfl ?_
                refine WL.nil ?_
                first
                | exact ⟨((n.try_ (xs.getD (i : Int).toNat 0)).1, i + 1, d + 1), ⟨by show i + 1 ≤ m; omega, by have := Slo.Stay.try_ hsl hst h5; rw [if_pos h6] at this; exact this⟩, (by show m - (i + 1) < m - i; omega), .cons rfl (.cons rfl (.cons rfl (.cons rfl (.cons rfl (.cons rfl (.cons (look_eq rfl (by simp)) (.nil _))))))), fun w h => h.tail⟩
                | exact ⟨((n.try_ (xs.getD (i : Int).toNat 0)).1, i + 1, d), ⟨by show i + 1 ≤ m; omega, by have := Slo.Stay.try_ hsl hst h5; rw [if_neg h6] at this; exact this⟩, (by show m - (i + 1) < m - i; omega), .cons rfl (.cons rfl (.cons rfl (.cons rfl (.cons rfl (.cons rfl (.cons (look_eq rfl (by simp)) (.nil _))))))), fun w h => h.tail⟩
                | exact ⟨(n, i + 1, d), ⟨by show i + 1 ≤ m; omega, hst.more⟩, (by show m - (i + 1) < m - i; omega), .cons rfl (.cons rfl (.cons rfl (.cons rfl (.cons rfl (.cons rfl (.cons (look_eq rfl (by simp)) (.nil _))))))), fun w h => h.tail⟩
            · simp only [decide_eq_true_eq, decide_eq_false_iff_not, Bool.and_eq_true, Bool.or_eq_true, Bool.and_eq_false_iff, Bool.or_eq_false_iff, Bool.not_eq_true', Bool.not_eq_false', Bool.not_eq_true, Bool.not_eq_false, Int.not_lt, Int.not_le] at hc5'
              have h5 := hc5'
              refine WC.seq ?_
              refine WC.region ?_
              refine WL.val (V.move (OV.p rfl)) rfl ?_
              refine WL.val (V.move (OV.p rfl)) rfl ?_
              refine WL.val (V.idxS st27 (OV.p rfl) (OV.p rfl) (fun hc => by first | omega | (simp at hc; omega)) (fun hc => by repeat (first | exact Seq.int_rd hs (by first | omega | (simp at hc; omega)) | apply Rd.up))) rfl ?_
              refine WL.val (V.load Try.isAgg3 (OV.p rfl) (fun hc => by repeat (first | exact Seq.int_rd hs (by first | omega | (simp at hc; omega)) | apply Rd.up))) rfl ?_
              refine WL.val (V.move (OV.p rfl)) rfl ?_
              refine WL.val (V.eql (OV.p rfl) (OV.p rfl)) rfl ?_
              refine WL.nil ?_
              refine WC.cond rfl (fun hc7' => ?_) (fun hc7' => ?_)
              · simp only [decide_eq_true_eq, decide_eq_false_iff_not, Bool.and_eq_true, Bool.or_eq_true, Bool.and_eq_false_iff, Bool.or_eq_false_iff, Bool.not_eq_true', Bool.not_eq_false', Bool.not_eq_true, Bool.not_eq_false, Int.not_lt, Int.not_le] at hc7'
                have h7 := hc7'
                exact absurd h7 (Slo.Stay.not_slot hsl hst h5)
              · simp only [decide_eq_true_eq, decide_eq_false_iff_not, Bool.and_eq_true, Bool.or_eq_true, Bool.and_eq_false_iff, Bool.or_eq_false_iff, Bool.not_eq_true', Bool.not_eq_false', Bool.not_eq_true, Bool.not_eq_false, Int.not_lt, Int.not_le] at hc7'
                have h7 := hc7'
                refine WC.skip ?_
                refine WC.region ?_
                refine WL.val (V.move (OV.p rfl)) rfl ?_
                refine WL.val (V.addI (OV.p rfl) (OV.p rfl) (fun hc => by first | omega | (simp at hc; omega))) rfl ?_
                refine WL.val (V.assign (OV.p rfl)) rfl ?_
                refine WL.nil ?_
                first
                | exact ⟨((n.try_ (xs.getD (i : Int).toNat 0)).1, i + 1, d + 1), ⟨by show i + 1 ≤ m; omega, by have := Slo.Stay.try_ hsl hst h5; rw [if_pos h6] at this; exact this⟩, (by show m - (i + 1) < m - i; omega), .cons rfl (.cons rfl (.cons rfl (.cons rfl (.cons rfl (.cons rfl (.cons (look_eq rfl (by simp)) (.nil _))))))), fun w h => h.tail⟩
                | exact ⟨((n.try_ (xs.getD (i : Int).toNat 0)).1, i + 1, d), ⟨by show i + 1 ≤ m; omega, by have := Slo.Stay.try_ hsl hst h5; rw [if_neg h6] at this; exact this⟩, (by show m - (i + 1) < m - i; omega), .cons rfl (.cons rfl (.cons rfl (.cons rfl (.cons rfl (.cons rfl (.cons (look_eq rfl (by simp)) (.nil _))))))), fun w h => h.tail⟩
                | exact ⟨(n, i + 1, d), ⟨by show i + 1 ≤ m; omega, hst.more⟩, (by show m - (i + 1) < m - i; omega), .cons rfl (.cons rfl (.cons rfl (.cons rfl (.cons rfl (.cons rfl (.cons (look_eq rfl (by simp)) (.nil _))))))), fun w h => h.tail⟩
        · try simp only [decide_eq_true_eq, decide_eq_false_iff_not, Bool.and_eq_true, Bool.or_eq_true, Bool.and_eq_false_iff, Bool.or_eq_false_iff, Bool.not_eq_true', Bool.not_eq_false', Bool.not_eq_true, Bool.not_eq_false, Int.not_lt, Int.not_le] at hc4
          refine WC.exit ?_
          refine WC.seq ?_
          have hchk : n.chk = 0 := by unfold Slo.chk; rw [if_pos hok]
          have hlen := Slo.order_len n
          refine WC.region ?_
          refine WL.val (V.loadA (vs := [_, _, _, _, _]) ⟨Try.isAgg26, Try.sizeOf26⟩ (OV.p rfl) rfl (fun _ => by repeat (first | exact Rds.gets ⟨rfl, rfl, rfl, rfl, rfl, trivial⟩ | apply Rds.up))) rfl ?_
          refine WL.call (vs := [_]) Try.call8 ⟨OV.p rfl, trivial⟩ (slots_Order n _ _) rfl ?_
          rintro _ _ ⟨A19, c19, rfl, rfl⟩
          rw [hchk]
          refine WL.val (V.move (OV.p rfl)) rfl ?_
          refine WL.val (V.extract (OV.p rfl) rfl) rfl ?_
          refine WL.val (V.extract (OV.p rfl) rfl) rfl ?_
          refine WL.val (V.assign (OV.p rfl)) rfl ?_
          refine WL.val (V.assign (OV.p rfl)) rfl ?_
          refine WL.nil ?_
          refine WC.seq ?_
          refine WC.region ?_
          refine WL.val (V.assign (OV.p rfl)) rfl ?_
          refine WL.nil ?_
          refine WC.seq ?_
          refine WC.seq ?_
          refine WC.region ?_
          refine WL.val (V.assign (OV.p rfl)) rfl ?_
          refine WL.nil ?_
          refine WC.block ?_
          refine WC.loop (σ := Nat) (fun j => [(19, .slice A19 n.order.length c19), (1, .int .i64 slot), (13, .int .i64 (c.t (1 - slot))), (14, .bool (c.g (1 - slot))), (15, .int .i64 d), (20, .int .i64 0), (21, .bool (decide (slot ∈ n.order.take j))), (22, .int .i64 (j : Int))]) (fun j => SlA (.slice A19 n.order.length c19) 3 1 n.order.length (ints .i64 n.order) :: F) (fun j => j ≤ n.order.length) (fun j => n.order.length - j) 0 (Nat.zero_le _) (.cons rfl (.cons rfl (.cons rfl (.cons rfl (.cons rfl (.cons rfl (.cons (look_eq rfl (by simp)) (.cons rfl (.nil _))))))))) (fun w h => h.drop2) ?_
          rintro j hj
          refine WC.seq ?_
          refine WC.seq ?_
          refine WC.region ?_
          refine WL.val (V.move (OV.p rfl)) rfl ?_
          refine WL.val (V.move (OV.p rfl)) rfl ?_
          refine WL.val (V.len (t := 27) Try.runUnderlying27 (OV.p rfl)) rfl ?_
          refine WL.val (V.lss (OV.p rfl) (OV.p rfl)) rfl ?_
          refine WL.nil ?_
          refine WC.cond rfl (fun hc8 => ?_) (fun hc8 => ?_)
          · try simp only [decide_eq_true_eq, decide_eq_false_iff_not, Bool.and_eq_true, Bool.or_eq_true, Bool.and_eq_false_iff, Bool.or_eq_false_iff, Bool.not_eq_true', Bool.not_eq_false', Bool.not_eq_true, Bool.not_eq_false, Int.not_lt, Int.not_le] at hc8
            refine WC.skip ?_
            refine WC.seq ?_
            refine WC.block ?_
            refine WC.region ?_
            refine WL.val (V.move (OV.p rfl)) rfl ?_
            refine WL.val (V.move (OV.p rfl)) rfl ?_
            refine WL.valG (oj := _) rfl rfl rfl GC.f (V.move (OV.p rfl)) rfl ?_
            refine WL.valG (oj := _) rfl rfl rfl GC.f (V.move (OV.p rfl)) rfl ?_
            refine WL.valG (oj := _) rfl rfl rfl GC.f (V.idxS st27 (OV.g rfl id) (OV.g rfl id) (fun hc => by first | omega | (simp at hc; omega)) (fun hc => by repeat (first | exact Seq.int_rd SlA.seqI (by first | omega | (simp at hc; omega)) | apply Rd.up))) rfl ?_
            refine WL.valG (oj := _) rfl rfl rfl GC.f (V.load Try.isAgg3 (OV.g rfl id) (fun hc => by repeat (first | exact Seq.int_rd SlA.seqI (by first | omega | (simp at hc; omega)) | apply Rd.up))) rfl ?_
            refine WL.valG (oj := _) rfl rfl rfl GC.f (V.move (OV.p rfl)) rfl ?_
            refine WL.valG (oj := _) rfl rfl rfl GC.f (V.eql (OV.g rfl id) (OV.g rfl id)) rfl ?_
            refine WL.val (V.pickOr (OV.p rfl) (OV.g rfl id)) rfl ?_
            refine WL.val (V.assign (OV.p rfl)) rfl ?_
            refine WL.nil ?_
            refine WC.region ?_
            refine WL.val (V.move (OV.p rfl)) rfl ?_
            refine WL.val (V.addI (OV.p rfl) (OV.p rfl) (fun hc => by first | omega | (simp at hc; omega))) rfl ?_
            refine WL.val (V.assign (OV.p rfl)) rfl ?_
            refine WL.nil ?_
            refine ⟨j + 1, (by show j + 1 ≤ n.order.length; omega), (by show n.order.length - (j + 1) < n.order.length - j; omega), .cons rfl (.cons rfl (.cons rfl (.cons rfl (.cons rfl (.cons rfl (.cons (look_eq rfl ?_) (.cons (look_eq rfl (by simp)) (.nil _)))))))), fun w h => h⟩
            rw [Slo.mem_take_succ (by omega)]
            rfl
          · try simp only [decide_eq_true_eq, decide_eq_false_iff_not, Bool.and_eq_true, Bool.or_eq_true, Bool.and_eq_false_iff, Bool.or_eq_false_iff, Bool.not_eq_true', Bool.not_eq_false', Bool.not_eq_true, Bool.not_eq_false, Int.not_lt, Int.not_le] at hc8
            refine WC.exit ?_
            refine WC.seq ?_
            refine WC.region ?_
            refine WL.call (vs := []) Try.call9 trivial (law22_awake _ _) rfl ?_
            rintro _ H0 ⟨rfl, h0⟩
            subst H0
            refine WL.val (V.move (OV.p rfl)) rfl ?_
            refine WL.valG (oj := _) rfl rfl rfl GC.t (V.move (OV.p rfl)) rfl ?_
            refine WL.valG (oj := _) rfl rfl rfl GC.t (V.eql (OV.g rfl id) (OV.p rfl)) rfl ?_
            refine WL.val (V.pickAnd (OV.p rfl) (OV.g rfl id)) rfl ?_
            refine WL.val (V.move (OV.p rfl)) rfl ?_
            refine WL.valG (oj := _) rfl rfl rfl GC.t (V.move (OV.p rfl)) rfl ?_
            refine WL.val (V.pickAnd (OV.p rfl) (OV.g rfl id)) rfl ?_
            refine WL.val (V.move (OV.p rfl)) rfl ?_
            refine WL.valG (oj := _) rfl rfl rfl GC.t (V.move (OV.p rfl)) rfl ?_
            refine WL.valG (oj := _) rfl rfl rfl GC.t (V.move (OV.g rfl id)) rfl ?_
            refine WL.valG (oj := _) rfl rfl rfl GC.cf (V.move (OV.p rfl)) rfl ?_
            refine WL.valG (oj := _) rfl rfl rfl GC.cf (V.move (OV.p rfl)) rfl ?_
            refine WL.valG (oj := _) rfl rfl rfl GC.cf (V.leq (OV.g rfl id) (OV.g rfl id)) rfl ?_
            refine WL.valG (oj := _) rfl rfl rfl GC.t (V.pickOr (OV.g rfl id) (OV.g rfl id)) rfl ?_
            refine WL.val (V.pickAnd (OV.p rfl) (OV.g rfl id)) rfl ?_
            refine WL.val (V.assign (OV.p rfl)) rfl ?_
            refine WL.nil ?_
            refine WC.ret ?_
            obtain rfl : j = n.order.length := by omega
            refine BodyQ.ret (H' := F) (Res.tmp rfl rfl) (fun w h => by repeat (first | exact h | replace h := h.tail)) ⟨?_, rfl⟩
            have h1 := hst.mem hsl
            have h2 := hst.left
            simp [List.take_length, h1]
            simpa using h2
end Go.Proofs.Ytcgbmifpmaembaa
