/- The functions of the package slots, one by one. -/
import Derived.Test.YtcgbmifpmaembaaTy
import Derived.Test.YtcgbmifpmaembaaSlG
namespace Go.Proofs.Ytcgbmifpmaembaa
open Go.Sl Go.RowKit
set_option linter.unusedVariables false
set_option linter.unusedSimpArgs false
set_option maxRecDepth 20000

/-! ### What they compute -/
structure Slo where
  (f t0 : Int) (g0 : Bool) (t1 : Int) (g1 : Bool)
  deriving DecidableEq
namespace Slo
abbrev v (s : Slo) : Value := .agg #[.int .i64 s.f, .int .i64 s.t0, .bool s.g0, .int .i64 s.t1, .bool s.g1]
def zero : Slo := ⟨0, 0, false, 0, false⟩
def ok (s : Slo) : Bool := (decide (s.f = 0) || decide (s.f = 1)) && decide (0 ≤ s.t0) && decide (s.t0 ≤ 7) && decide (0 ≤ s.t1) && decide (s.t1 ≤ 7)
def chk (s : Slo) : Int := if s.ok then 0 else 1
/-- ahead: 0 or 1. -/
def ahd (s : Slo) (slot : Int) : Int := if s.ok && (decide (slot = 0) || decide (slot = 1)) then 0 else 1
def t (s : Slo) (slot : Int) : Int := if slot = 0 then s.t0 else s.t1
def g (s : Slo) (slot : Int) : Bool := if slot = 0 then s.g0 else s.g1
def put (s : Slo) (slot first t : Int) (g : Bool) : Slo := if slot = 0 then ⟨first, t, g, s.t1, s.g1⟩ else ⟨first, s.t0, s.g0, t, g⟩
def may (s : Slo) (slot : Int) : Bool := s.g slot || decide (0 < s.t slot)
def try_ (s : Slo) (slot : Int) : Slo × Int :=
  if s.ahd slot ≠ 0 then (zero, 1) else if s.may slot then (s.put slot s.f (if s.g slot then s.t slot else s.t slot - 1) (s.g slot), 0) else (zero, 240)
def confirm (s : Slo) (slot : Int) : Slo × Int := if s.ahd slot ≠ 0 then (zero, 1) else (s.put slot slot 0 true, 0)
def install (s : Slo) (slot : Int) : Slo × Int := if s.ahd slot ≠ 0 ∨ slot = s.f then (zero, 1) else (s.put slot slot 7 false, 0)
def order (s : Slo) : List Int := if s.ok then [s.f, 1 - s.f].filter s.may else []
def b01 (b : Bool) : Int := if b then 1 else 0
def bytes (s : Slo) : List Int := if s.ok then [115, 108, 111, 116, s.f, s.t0, b01 s.g0, s.t1, b01 s.g1] else []
theorem ahd_ok {s : Slo} {slot : Int} (h : s.ahd slot = 0) : s.ok = true ∧ (slot = 0 ∨ slot = 1) := by
  unfold ahd at h
  split at h
  · rename_i h'; simp at h'; exact h'
  · cases h
theorem chk_ok {s : Slo} (h : s.chk = 0) : s.ok = true := by
  unfold chk at h
  split at h
  · assumption
  · cases h
theorem ok_spec {s : Slo} (h : s.ok = true) : (s.f = 0 ∨ s.f = 1) ∧ 0 ≤ s.t0 ∧ s.t0 ≤ 7 ∧ 0 ≤ s.t1 ∧ s.t1 ≤ 7 := by simp [ok] at h; omega
end Slo
abbrev sl (t : Int) (g : Bool) : Value := .agg #[.int .i64 t, .bool g]

/-! ### The walks -/
theorem slots_may (t : Int) (g : Bool) (K : World) (F : List Assn) : Tells Try.prog 25 #[sl t g] K F (.bool (g || decide (0 < t))) := by
  refine Does.enter Try.func25 rfl Try.ntmps25 rfl ?_
  simp only [env0, Nat.reduceAdd]
  refine WC.seq ?_
  refine WC.region ?_
  refine WL.box (cs := [_, _]) (OV.p rfl) rfl rfl (fun b1 => ?_)
  refine WL.val (V.assign (OV.p rfl)) rfl ?_
  refine WL.nil ?_
  refine WC.seq ?_
  refine WC.region ?_
  refine WL.val (V.fieldAddr fo23_1 (OV.p rfl)) rfl ?_
  refine WL.val (V.load Try.isAgg4 (OV.p rfl) (fun _ => by repeat (first | exact Rd.here rfl | apply Rd.up))) rfl ?_
  refine WL.val (V.move (OV.p rfl)) rfl ?_
  refine WL.valG (oj := _) rfl rfl rfl GC.f (V.fieldAddr fo23_0 (OV.p rfl)) rfl ?_
  refine WL.valG (oj := _) rfl rfl rfl GC.f (V.load Try.isAgg3 (OV.g rfl id) (fun _ => by repeat (first | exact Rd.here rfl | apply Rd.up))) rfl ?_
  refine WL.valG (oj := _) rfl rfl rfl GC.f (V.gtr (OV.g rfl id) (OV.p rfl)) rfl ?_
  refine WL.val (V.pickOr (OV.p rfl) (OV.g rfl id)) rfl ?_
  refine WL.val (V.assign (OV.p rfl)) rfl ?_
  refine WL.nil ?_
  refine WC.ret ?_
  exact BodyQ.ret (H' := F) (Res.tmp rfl rfl) (fun w h => by repeat (first | exact h | replace h := h.tail)) ⟨rfl, rfl⟩

theorem slots_Check (s : Slo) (K : World) (F : List Assn) : Tells Try.prog 12 #[s.v] K F (.int .i64 s.chk) := by
  refine Does.enter Try.func12 rfl Try.ntmps12 rfl ?_
  simp only [env0, Nat.reduceAdd]
  refine WC.seq ?_
  refine WC.region ?_
  refine WL.box (cs := [_, _, _, _, _]) (OV.p rfl) rfl rfl (fun b1 => ?_)
  refine WL.val (V.assign (OV.p rfl)) rfl ?_
  refine WL.nil ?_
  refine WC.seq ?_
  refine WC.seq ?_
  refine WC.region ?_
  refine WL.val (V.fieldAddr fo26_0 (OV.p rfl)) rfl ?_
  refine WL.val (V.load Try.isAgg3 (OV.p rfl) (fun _ => by repeat (first | exact Rd.here rfl | apply Rd.up))) rfl ?_
  refine WL.val (V.neq (OV.p rfl) (OV.p rfl)) rfl ?_
  refine WL.val (V.move (OV.p rfl)) rfl ?_
  refine WL.valG (oj := _) rfl rfl rfl GC.t (V.fieldAddr fo26_0 (OV.p rfl)) rfl ?_
  refine WL.valG (oj := _) rfl rfl rfl GC.t (V.load Try.isAgg3 (OV.g rfl id) (fun _ => by repeat (first | exact Rd.here rfl | apply Rd.up))) rfl ?_
  refine WL.valG (oj := _) rfl rfl rfl GC.t (V.neq (OV.g rfl id) (OV.p rfl)) rfl ?_
  refine WL.val (V.pickAnd (OV.p rfl) (OV.g rfl id)) rfl ?_
  refine WL.nil ?_
  refine WC.cond rfl (fun hc0 => ?_) (fun hc0 => ?_)
  · try simp only [decide_eq_true_eq, decide_eq_false_iff_not, Bool.and_eq_true, Bool.or_eq_true, Bool.and_eq_false_iff, Bool.or_eq_false_iff, Bool.not_eq_true', Bool.not_eq_false', Bool.not_eq_true, Bool.not_eq_false, Int.not_lt, Int.not_le] at hc0
    refine WC.seq ?_
    refine WC.region ?_
    refine WL.val (V.assign (OV.p rfl)) rfl ?_
    refine WL.nil ?_
    refine WC.ret ?_
    refine BodyQ.ret (H' := F) (Res.tmp rfl rfl) (fun w h => by repeat (first | exact h | replace h := h.tail)) ⟨?_, rfl⟩
    congr 1
    unfold Slo.chk Slo.ok
    first | rw [if_pos (by simp; omega)] | rw [if_neg (by simp; omega)]
  · try simp only [decide_eq_true_eq, decide_eq_false_iff_not, Bool.and_eq_true, Bool.or_eq_true, Bool.and_eq_false_iff, Bool.or_eq_false_iff, Bool.not_eq_true', Bool.not_eq_false', Bool.not_eq_true, Bool.not_eq_false, Int.not_lt, Int.not_le] at hc0
    refine WC.skip ?_
    refine WC.seq ?_
    refine WC.seq ?_
    refine WC.region ?_
    refine WL.val (V.fieldAddr fo26_1 (OV.p rfl)) rfl ?_
    refine WL.val (V.loadA (vs := [_, _, _, _]) ⟨Try.isAgg24, Try.sizeOf24⟩ (OV.p rfl) rfl (fun _ => by repeat (first | exact Rds.gets ⟨rfl, rfl, rfl, rfl, trivial⟩ | apply Rds.up))) rfl ?_
    refine WL.val (V.move (OV.p rfl)) rfl ?_
    refine WL.nil ?_
    refine WC.block ?_
    refine WC.rounds 3 ?_
    refine WC.seq ?_
    refine WC.region ?_
    refine WL.val (V.lss (OV.p rfl) (OV.p rfl)) rfl ?_
    refine WL.nil ?_
    refine WC.seq ?_
    refine WC.condT' rfl (by first | rfl | (simp; done) | (simp; omega)) ?_
    refine WC.skip ?_
    refine WC.seq ?_
    refine WC.block ?_
    refine WC.seq ?_
    refine WC.region ?_
    refine WL.val (V.index at24 (OV.p rfl) (OV.p rfl) (fun hc => by first | omega | (simp at hc; omega)) (fun _ => partG ⟨Try.isAgg23, Try.sizeOf23⟩ (vs := [_, _]) rfl ⟨rfl, rfl, trivial⟩)) rfl ?_
    refine WL.alloc (cs := [(.int .i64 0), (.bool false)]) Try.zeroValue23 rfl rfl (fun b4 => ?_)
    refine WL.store (cs := [_, _]) Try.sizeOf23 (OV.p rfl) (OV.p rfl) rfl rfl rfl (by repeat (first | exact Upd.here (cs' := [_, _]) rfl rfl | apply Upd.up)) ?_
    refine WL.nil ?_
    refine WC.seq ?_
    refine WC.region ?_
    refine WL.val (V.fieldAddr fo23_0 (OV.p rfl)) rfl ?_
    refine WL.val (V.load Try.isAgg3 (OV.p rfl) (fun _ => by repeat (first | exact Rd.here rfl | apply Rd.up))) rfl ?_
    refine WL.val (V.lss (OV.p rfl) (OV.p rfl)) rfl ?_
    refine WL.val (V.move (OV.p rfl)) rfl ?_
    refine WL.valG (oj := _) rfl rfl rfl GC.f (V.fieldAddr fo23_0 (OV.p rfl)) rfl ?_
    refine WL.valG (oj := _) rfl rfl rfl GC.f (V.load Try.isAgg3 (OV.g rfl id) (fun _ => by repeat (first | exact Rd.here rfl | apply Rd.up))) rfl ?_
    refine WL.valG (oj := _) rfl rfl rfl GC.f (V.gtr (OV.g rfl id) (OV.p rfl)) rfl ?_
    refine WL.val (V.pickOr (OV.p rfl) (OV.g rfl id)) rfl ?_
    refine WL.nil ?_
    refine WC.cond rfl (fun hc2 => ?_) (fun hc2 => ?_)
    · try simp only [decide_eq_true_eq, decide_eq_false_iff_not, Bool.and_eq_true, Bool.or_eq_true, Bool.and_eq_false_iff, Bool.or_eq_false_iff, Bool.not_eq_true', Bool.not_eq_false', Bool.not_eq_true, Bool.not_eq_false, Int.not_lt, Int.not_le] at hc2
      refine WC.seq ?_
      refine WC.region ?_
      refine WL.val (V.assign (OV.p rfl)) rfl ?_
      refine WL.nil ?_
      refine WC.ret ?_
      refine BodyQ.ret (H' := F) (Res.tmp rfl rfl) (fun w h => by repeat (first | exact h | replace h := h.tail)) ⟨?_, rfl⟩
      congr 1
      unfold Slo.chk Slo.ok
      first | rw [if_pos (by simp; omega)] | rw [if_neg (by simp; omega)]
    · try simp only [decide_eq_true_eq, decide_eq_false_iff_not, Bool.and_eq_true, Bool.or_eq_true, Bool.and_eq_false_iff, Bool.or_eq_false_iff, Bool.not_eq_true', Bool.not_eq_false', Bool.not_eq_true, Bool.not_eq_false, Int.not_lt, Int.not_le] at hc2
      refine WC.skip ?_
      refine WC.region ?_
      refine WL.val (V.val_eq (v' := .int .i64 (1)) (V.add (OV.p rfl) (OV.p rfl)) (fun _ => rfl)) rfl ?_
      refine WL.val (V.move (OV.p rfl)) rfl ?_
      refine WL.nil ?_
      refine WC.seq ?_
      refine WC.region ?_
      refine WL.val (V.lss (OV.p rfl) (OV.p rfl)) rfl ?_
      refine WL.nil ?_
      refine WC.seq ?_
      refine WC.condT' rfl (by first | rfl | (simp; done) | (simp; omega)) ?_
      refine WC.skip ?_
      refine WC.seq ?_
      refine WC.block ?_
      refine WC.seq ?_
      refine WC.region ?_
      refine WL.val (V.index at24 (OV.p rfl) (OV.p rfl) (fun hc => by first | omega | (simp at hc; omega)) (fun _ => partG ⟨Try.isAgg23, Try.sizeOf23⟩ (vs := [_, _]) rfl ⟨rfl, rfl, trivial⟩)) rfl ?_
      refine WL.alloc (cs := [(.int .i64 0), (.bool false)]) Try.zeroValue23 rfl rfl (fun b4 => ?_)
      refine WL.store (cs := [_, _]) Try.sizeOf23 (OV.p rfl) (OV.p rfl) rfl rfl rfl (by repeat (first | exact Upd.here (cs' := [_, _]) rfl rfl | apply Upd.up)) ?_
      refine WL.nil ?_
      refine WC.seq ?_
      refine WC.region ?_
      refine WL.val (V.fieldAddr fo23_0 (OV.p rfl)) rfl ?_
      refine WL.val (V.load Try.isAgg3 (OV.p rfl) (fun _ => by repeat (first | exact Rd.here rfl | apply Rd.up))) rfl ?_
      refine WL.val (V.lss (OV.p rfl) (OV.p rfl)) rfl ?_
      refine WL.val (V.move (OV.p rfl)) rfl ?_
      refine WL.valG (oj := _) rfl rfl rfl GC.f (V.fieldAddr fo23_0 (OV.p rfl)) rfl ?_
      refine WL.valG (oj := _) rfl rfl rfl GC.f (V.load Try.isAgg3 (OV.g rfl id) (fun _ => by repeat (first | exact Rd.here rfl | apply Rd.up))) rfl ?_
      refine WL.valG (oj := _) rfl rfl rfl GC.f (V.gtr (OV.g rfl id) (OV.p rfl)) rfl ?_
      refine WL.val (V.pickOr (OV.p rfl) (OV.g rfl id)) rfl ?_
      refine WL.nil ?_
      refine WC.cond rfl (fun hc2' => ?_) (fun hc2' => ?_)
      · try simp only [decide_eq_true_eq, decide_eq_false_iff_not, Bool.and_eq_true, Bool.or_eq_true, Bool.and_eq_false_iff, Bool.or_eq_false_iff, Bool.not_eq_true', Bool.not_eq_false', Bool.not_eq_true, Bool.not_eq_false, Int.not_lt, Int.not_le] at hc2'
        refine WC.seq ?_
        refine WC.region ?_
        refine WL.val (V.assign (OV.p rfl)) rfl ?_
        refine WL.nil ?_
        refine WC.ret ?_
        refine BodyQ.ret (H' := F) (Res.tmp rfl rfl) (fun w h => by repeat (first | exact h | replace h := h.tail)) ⟨?_, rfl⟩
        congr 1
        unfold Slo.chk Slo.ok
        first | rw [if_pos (by simp; omega)] | rw [if_neg (by simp; omega)]
      · try simp only [decide_eq_true_eq, decide_eq_false_iff_not, Bool.and_eq_true, Bool.or_eq_true, Bool.and_eq_false_iff, Bool.or_eq_false_iff, Bool.not_eq_true', Bool.not_eq_false', Bool.not_eq_true, Bool.not_eq_false, Int.not_lt, Int.not_le] at hc2'
        refine WC.skip ?_
        refine WC.region ?_
        refine WL.val (V.val_eq (v' := .int .i64 (2)) (V.add (OV.p rfl) (OV.p rfl)) (fun _ => rfl)) rfl ?_
        refine WL.val (V.move (OV.p rfl)) rfl ?_
        refine WL.nil ?_
        refine WC.seq ?_
        refine WC.region ?_
        refine WL.val (V.lss (OV.p rfl) (OV.p rfl)) rfl ?_
        refine WL.nil ?_
        refine WC.seq ?_
        refine WC.condF' rfl (by first | rfl | (simp; done) | (simp; omega)) ?_
        refine WC.exit ?_
        refine WC.seq ?_
        refine WC.region ?_
        refine WL.val (V.assign (OV.p rfl)) rfl ?_
        refine WL.nil ?_
        refine WC.ret ?_
        refine BodyQ.ret (H' := F) (Res.tmp rfl rfl) (fun w h => by repeat (first | exact h | replace h := h.tail)) ⟨?_, rfl⟩
        congr 1
        unfold Slo.chk Slo.ok
        first | rw [if_pos (by simp; omega)] | rw [if_neg (by simp; omega)]

theorem slots_Start (K : World) (F : List Assn) : Tells Try.prog 18 #[] K F Slo.zero.v := by
  refine Does.enter Try.func18 rfl Try.ntmps18 rfl ?_
  simp only [env0, Nat.reduceAdd]
  refine WC.seq ?_
  refine WC.region ?_
  refine WL.alloc (cs := [(.int .i64 0), (.int .i64 0), (.bool false), (.int .i64 0), (.bool false)]) Try.zeroValue26 rfl rfl (fun b0 => ?_)
  refine WL.nil ?_
  refine WC.seq ?_
  refine WC.region ?_
  refine WL.val (V.build (vs := []) trivial rfl (bld26 )) rfl ?_
  refine WL.store (cs := [_, _, _, _, _]) Try.sizeOf26 (OV.p rfl) (OV.p rfl) rfl rfl rfl (by repeat (first | exact Upd.here (cs' := [_, _, _, _, _]) rfl rfl | apply Upd.up)) ?_
  refine WL.nil ?_
  refine WC.ret ?_
  exact BodyQ.ret (H' := F) (Res.one rfl (R1.cellA (vs := [_, _, _, _, _]) rfl ⟨Try.isAgg26, Try.sizeOf26⟩ rfl (by repeat (first | exact Rds.gets ⟨rfl, rfl, rfl, rfl, rfl, trivial⟩ | apply Rds.up)))) (fun w h => by repeat (first | exact h | replace h := h.tail)) ⟨rfl, rfl⟩

theorem slots_ahead (s : Slo) (slot : Int) (K : World) (F : List Assn) : Tells Try.prog 26 #[s.v, .int .i64 slot] K F (.int .i64 (s.ahd slot)) := by
  refine Does.enter Try.func26 rfl Try.ntmps26 rfl ?_
  simp only [env0, Nat.reduceAdd]
  refine WC.seq ?_
  refine WC.region ?_
  refine WL.box (cs := [_, _, _, _, _]) (OV.p rfl) rfl rfl (fun b2 => ?_)
  refine WL.val (V.assign (OV.p rfl)) rfl ?_
  refine WL.nil ?_
  refine WC.seq ?_
  refine WC.seq ?_
  refine WC.region ?_
  refine WL.val (V.loadA (vs := [_, _, _, _, _]) ⟨Try.isAgg26, Try.sizeOf26⟩ (OV.p rfl) rfl (fun _ => by repeat (first | exact Rds.gets ⟨rfl, rfl, rfl, rfl, rfl, trivial⟩ | apply Rds.up))) rfl ?_
  refine WL.call (vs := [_]) Try.call12 ⟨OV.p rfl, trivial⟩ (slots_Check s _ _) rfl ?_
  rintro _ H0 ⟨rfl, h0⟩
  subst H0
  refine WL.val (V.assign (OV.p rfl)) rfl ?_
  refine WL.nil ?_
  refine WC.seq ?_
  refine WC.region ?_
  refine WL.val (V.move (OV.p rfl)) rfl ?_
  refine WL.val (V.neq (OV.p rfl) (OV.p rfl)) rfl ?_
  refine WL.val (V.move (OV.p rfl)) rfl ?_
  refine WL.valG (oj := _) rfl rfl rfl GC.f (V.move (OV.p rfl)) rfl ?_
  refine WL.valG (oj := _) rfl rfl rfl GC.f (V.neq (OV.g rfl id) (OV.p rfl)) rfl ?_
  refine WL.valG (oj := _) rfl rfl rfl GC.f (V.move (OV.g rfl id)) rfl ?_
  refine WL.valG (oj := _) rfl rfl rfl GC.ct (V.move (OV.p rfl)) rfl ?_
  refine WL.valG (oj := _) rfl rfl rfl GC.ct (V.neq (OV.g rfl id) (OV.p rfl)) rfl ?_
  refine WL.valG (oj := _) rfl rfl rfl GC.f (V.pickAnd (OV.g rfl id) (OV.g rfl id)) rfl ?_
  refine WL.val (V.pickOr (OV.p rfl) (OV.g rfl id)) rfl ?_
  refine WL.nil ?_
  refine WC.cond rfl (fun hc0 => ?_) (fun hc0 => ?_)
  · try simp only [decide_eq_true_eq, decide_eq_false_iff_not, Bool.and_eq_true, Bool.or_eq_true, Bool.and_eq_false_iff, Bool.or_eq_false_iff, Bool.not_eq_true', Bool.not_eq_false', Bool.not_eq_true, Bool.not_eq_false, Int.not_lt, Int.not_le] at hc0
    refine WC.seq ?_
    refine WC.region ?_
    refine WL.val (V.assign (OV.p rfl)) rfl ?_
    refine WL.nil ?_
    refine WC.ret ?_
    refine BodyQ.ret (H' := F) (Res.tmp rfl rfl) (fun w h => by repeat (first | exact h | replace h := h.tail)) ⟨?_, rfl⟩
    congr 1
    unfold Slo.ahd
    cases hok : s.ok <;> simp [Slo.chk, hok] at hc0 ⊢ <;> omega
  · try simp only [decide_eq_true_eq, decide_eq_false_iff_not, Bool.and_eq_true, Bool.or_eq_true, Bool.and_eq_false_iff, Bool.or_eq_false_iff, Bool.not_eq_true', Bool.not_eq_false', Bool.not_eq_true, Bool.not_eq_false, Int.not_lt, Int.not_le] at hc0
    refine WC.skip ?_
    refine WC.seq ?_
    refine WC.region ?_
    refine WL.val (V.assign (OV.p rfl)) rfl ?_
    refine WL.nil ?_
    refine WC.ret ?_
    refine BodyQ.ret (H' := F) (Res.tmp rfl rfl) (fun w h => by repeat (first | exact h | replace h := h.tail)) ⟨?_, rfl⟩
    congr 1
    unfold Slo.ahd
    cases hok : s.ok <;> simp [Slo.chk, hok] at hc0 ⊢ <;> omega

theorem slots_with (s : Slo) (slot first t : Int) (g : Bool) (h : slot = 0 ∨ slot = 1) (K : World) (F : List Assn) :
    Tells Try.prog 27 #[s.v, .int .i64 slot, .int .i64 first, sl t g] K F (.tuple #[(s.put slot first t g).v, .int .i64 0]) := by
  rcases h with rfl | rfl
  all_goals
    refine Does.enter Try.func27 rfl Try.ntmps27 rfl ?_
    simp only [env0, Nat.reduceAdd]
    refine WC.seq ?_
    refine WC.region ?_
    refine WL.box (cs := [_, _, _, _, _]) (OV.p rfl) rfl rfl (fun b4 => ?_)
    refine WL.box (cs := [_, _]) (OV.p rfl) rfl rfl (fun b7 => ?_)
    refine WL.alloc (cs := [(.int .i64 0), (.int .i64 0), (.bool false), (.int .i64 0), (.bool false)]) Try.zeroValue26 rfl rfl (fun b8 => ?_)
    refine WL.val (V.assign (OV.p rfl)) rfl ?_
    refine WL.nil ?_
    refine WC.seq ?_
    refine WC.regionA F (by kernel_rfl) ?_
    refine WA.take 0 (fun w h => by repeat (first | exact h | replace h := h.tail)) rfl (by kernel_rfl) (by kernel_rfl) (by kernel_rfl) (fun _ _ _ h => h) (V.move (OV.p rfl)) rfl ?_
    refine WA.take 1 (fun w h => by repeat (first | exact h | replace h := h.tail)) rfl (by kernel_rfl) (by kernel_rfl) (by kernel_rfl) (fun _ _ _ h => h) (V.move (OV.p rfl)) rfl ?_
    refine WA.take 3 (fun w h => by repeat (first | exact h | replace h := h.tail)) rfl (by kernel_rfl) (by kernel_rfl) (by kernel_rfl) (fun _ _ _ h => h) (V.fieldAddr fo26_0 (OV.p rfl)) rfl ?_
    refine WA.take 5 (fun w h => by repeat (first | exact h | replace h := h.tail)) rfl (by kernel_rfl) (by kernel_rfl) (by kernel_rfl) (fun _ _ _ h => h) (V.fieldAddr fo26_1 (OV.p rfl)) rfl ?_
    refine WA.two (i := 2) (j := 4) (fun w h => by repeat (first | exact h | replace h := h.tail)) (by kernel_rfl) rfl rfl ?_ ?_
    · refine WL.val (V.loadA (vs := [_, _]) ⟨Try.isAgg23, Try.sizeOf23⟩ (OV.p rfl) rfl (fun _ => by repeat (first | exact Rds.gets ⟨rfl, rfl, trivial⟩ | apply Rds.up))) rfl ?_
      refine WL.nil ?_
      refine WA.one (i := 4) (fun w h => by repeat (first | exact h | replace h := h.tail)) (by kernel_rfl) rfl ?_
      refine WL.store (cs := [_]) Try.sizeOf3 (OV.p rfl) (OV.p rfl) rfl rfl rfl (by repeat (first | exact Upd.here (cs' := [_, _, _, _, _]) rfl rfl | apply Upd.up)) ?_
      refine WL.nil ?_
      refine WA.take 6 (fun w h => by repeat (first | exact h | replace h := h.tail)) rfl (by kernel_rfl) (by kernel_rfl) (by kernel_rfl) (fun _ _ _ h => h) (V.idxA at24 (OV.p rfl) (OV.p rfl) (fun hc => by first | omega | (simp at hc; omega))) rfl ?_
      refine WA.one (i := 7) (fun w h => by repeat (first | exact h | replace h := h.tail)) (by kernel_rfl) rfl ?_
      refine WL.store (cs := [_, _]) Try.sizeOf23 (OV.p rfl) (OV.p rfl) rfl rfl rfl (by repeat (first | exact Upd.here (cs' := [_, _, _, _, _]) rfl rfl | apply Upd.up)) ?_
      refine WL.nil ?_
      refine WA.done (by kernel_rfl) (fun w h => by repeat (first | exact h | replace h := h.tail)) ?_
      refine WC.seq ?_
      refine WC.region ?_
      refine WL.val (V.loadA (vs := [_, _, _, _, _]) ⟨Try.isAgg26, Try.sizeOf26⟩ (OV.p rfl) rfl (fun _ => by repeat (first | exact Rds.gets ⟨rfl, rfl, rfl, rfl, rfl, trivial⟩ | apply Rds.up))) rfl ?_
      refine WL.store (cs := [_, _, _, _, _]) Try.sizeOf26 (OV.p rfl) (OV.p rfl) rfl rfl rfl (by repeat (first | exact Upd.here (cs' := [_, _, _, _, _]) rfl rfl | apply Upd.up)) ?_
      refine WL.val (V.assign (OV.p rfl)) rfl ?_
      refine WL.nil ?_
      refine WC.ret ?_
      exact BodyQ.ret (H' := F) (Res.two rfl (R1.cellA (vs := [_, _, _, _, _]) rfl ⟨Try.isAgg26, Try.sizeOf26⟩ rfl (by repeat (first | exact Rds.gets ⟨rfl, rfl, rfl, rfl, rfl, trivial⟩ | apply Rds.up))) (R1.tmp rfl)) (fun w h => by repeat (first | exact h | replace h := h.tail)) ⟨rfl, rfl⟩
    · refine WL.store (cs := [_]) Try.sizeOf3 (OV.p rfl) (OV.p rfl) rfl rfl rfl (by repeat (first | exact Upd.here (cs' := [_, _, _, _, _]) rfl rfl | apply Upd.up)) ?_
      refine WL.nil ?_
      refine WA.one (i := 2) (fun w h => by repeat (first | exact h | replace h := h.tail)) (by kernel_rfl) rfl ?_
      refine WL.val (V.loadA (vs := [_, _]) ⟨Try.isAgg23, Try.sizeOf23⟩ (OV.p rfl) rfl (fun _ => by repeat (first | exact Rds.gets ⟨rfl, rfl, trivial⟩ | apply Rds.up))) rfl ?_
      refine WL.nil ?_
      refine WA.take 6 (fun w h => by repeat (first | exact h | replace h := h.tail)) rfl (by kernel_rfl) (by kernel_rfl) (by kernel_rfl) (fun _ _ _ h => h) (V.idxA at24 (OV.p rfl) (OV.p rfl) (fun hc => by first | omega | (simp at hc; omega))) rfl ?_
      refine WA.one (i := 7) (fun w h => by repeat (first | exact h | replace h := h.tail)) (by kernel_rfl) rfl ?_
      refine WL.store (cs := [_, _]) Try.sizeOf23 (OV.p rfl) (OV.p rfl) rfl rfl rfl (by repeat (first | exact Upd.here (cs' := [_, _, _, _, _]) rfl rfl | apply Upd.up)) ?_
      refine WL.nil ?_
      refine WA.done (by kernel_rfl) (fun w h => by repeat (first | exact h | replace h := h.tail)) ?_
      refine WC.seq ?_
      refine WC.region ?_
      refine WL.val (V.loadA (vs := [_, _, _, _, _]) ⟨Try.isAgg26, Try.sizeOf26⟩ (OV.p rfl) rfl (fun _ => by repeat (first | exact Rds.gets ⟨rfl, rfl, rfl, rfl, rfl, trivial⟩ | apply Rds.up))) rfl ?_
      refine WL.store (cs := [_, _, _, _, _]) Try.sizeOf26 (OV.p rfl) (OV.p rfl) rfl rfl rfl (by repeat (first | exact Upd.here (cs' := [_, _, _, _, _]) rfl rfl | apply Upd.up)) ?_
      refine WL.val (V.assign (OV.p rfl)) rfl ?_
      refine WL.nil ?_
      refine WC.ret ?_
      exact BodyQ.ret (H' := F) (Res.two rfl (R1.cellA (vs := [_, _, _, _, _]) rfl ⟨Try.isAgg26, Try.sizeOf26⟩ rfl (by repeat (first | exact Rds.gets ⟨rfl, rfl, rfl, rfl, rfl, trivial⟩ | apply Rds.up))) (R1.tmp rfl)) (fun w h => by repeat (first | exact h | replace h := h.tail)) ⟨rfl, rfl⟩

theorem slots_Try (s : Slo) (slot : Int) (K : World) (F : List Assn) : Tells Try.prog 11 #[s.v, .int .i64 slot] K F (.tuple #[(s.try_ slot).1.v, .int .i64 (s.try_ slot).2]) := by
  refine Does.enter Try.func11 rfl Try.ntmps11 rfl ?_
  simp only [env0, Nat.reduceAdd]
  refine WC.seq ?_
  refine WC.region ?_
  refine WL.box (cs := [_, _, _, _, _]) (OV.p rfl) rfl rfl (fun b2 => ?_)
  refine WL.alloc (cs := [(.int .i64 0), (.int .i64 0), (.bool false), (.int .i64 0), (.bool false)]) Try.zeroValue26 rfl rfl (fun b4 => ?_)
  refine WL.val (V.assign (OV.p rfl)) rfl ?_
  refine WL.nil ?_
  refine WC.seq ?_
  refine WC.seq ?_
  refine WC.region ?_
  refine WL.val (V.loadA (vs := [_, _, _, _, _]) ⟨Try.isAgg26, Try.sizeOf26⟩ (OV.p rfl) rfl (fun _ => by repeat (first | exact Rds.gets ⟨rfl, rfl, rfl, rfl, rfl, trivial⟩ | apply Rds.up))) rfl ?_
  refine WL.val (V.move (OV.p rfl)) rfl ?_
  refine WL.call (vs := [_, _]) Try.call26 ⟨OV.p rfl, OV.p rfl, trivial⟩ (slots_ahead s slot _ _) rfl ?_
  rintro _ H0 ⟨rfl, h0⟩
  subst H0
  refine WL.val (V.assign (OV.p rfl)) rfl ?_
  refine WL.nil ?_
  refine WC.seq ?_
  refine WC.region ?_
  refine WL.val (V.move (OV.p rfl)) rfl ?_
  refine WL.val (V.neq (OV.p rfl) (OV.p rfl)) rfl ?_
  refine WL.nil ?_
  refine WC.cond rfl (fun hc0 => ?_) (fun hc0 => ?_)
  · simp only [Bool.not_eq_true', Bool.not_eq_false', decide_eq_true_eq, decide_eq_false_iff_not] at hc0
    have e1 : s.try_ slot = (Slo.zero, 1) := by unfold Slo.try_; rw [if_pos hc0]
    have e2 : s.ahd slot = 1 := by unfold Slo.ahd at hc0 ⊢; split <;> simp_all
    refine WC.seq ?_
    refine WC.region ?_
    refine WL.val (V.build (vs := []) trivial rfl (bld26 )) rfl ?_
    refine WL.val (V.move (OV.p rfl)) rfl ?_
    refine WL.store (cs := [_, _, _, _, _]) Try.sizeOf26 (OV.p rfl) (OV.p rfl) rfl rfl rfl (by repeat (first | exact Upd.here (cs' := [_, _, _, _, _]) rfl rfl | apply Upd.up)) ?_
    refine WL.val (V.assign (OV.p rfl)) rfl ?_
    refine WL.nil ?_
    refine WC.ret ?_
    refine BodyQ.ret (H' := F) (Res.two rfl (R1.cellA (vs := [_, _, _, _, _]) rfl ⟨Try.isAgg26, Try.sizeOf26⟩ rfl (by repeat (first | exact Rds.gets ⟨rfl, rfl, rfl, rfl, rfl, trivial⟩ | apply Rds.up))) (R1.tmp rfl)) (fun w h => by repeat (first | exact h | replace h := h.tail)) ⟨?_, rfl⟩
    rw [e1, e2]; rfl
  · simp only [Bool.not_eq_true', Bool.not_eq_false', decide_eq_true_eq, decide_eq_false_iff_not] at hc0
    obtain ⟨hok, hsl⟩ := Slo.ahd_ok hc0
    have hs := Slo.ok_spec hok
    have e1 : s.try_ slot = if s.may slot then (s.put slot s.f (if s.g slot then s.t slot else s.t slot - 1) (s.g slot), 0) else (Slo.zero, 240) := by unfold Slo.try_; rw [if_neg (by simp [hc0])]
    rcases hsl with rfl | rfl
    all_goals
      refine WC.skip ?_
      refine WC.seq ?_
      refine WC.region ?_
      refine WL.val (V.move (OV.p rfl)) rfl ?_
      refine WL.val (V.fieldAddr fo26_1 (OV.p rfl)) rfl ?_
      refine WL.val (V.idxA at24 (OV.p rfl) (OV.p rfl) (fun hc => by first | omega | (simp at hc; omega))) rfl ?_
      refine WL.val (V.loadA (vs := [_, _]) ⟨Try.isAgg23, Try.sizeOf23⟩ (OV.p rfl) rfl (fun _ => by repeat (first | exact Rds.gets ⟨rfl, rfl, trivial⟩ | apply Rds.up))) rfl ?_
      refine WL.alloc (cs := [(.int .i64 0), (.bool false)]) Try.zeroValue23 rfl rfl (fun b7 => ?_)
      refine WL.store (cs := [_, _]) Try.sizeOf23 (OV.p rfl) (OV.p rfl) rfl rfl rfl (by repeat (first | exact Upd.here (cs' := [_, _]) rfl rfl | apply Upd.up)) ?_
      refine WL.nil ?_
      refine WC.seq ?_
      refine WC.block ?_
      refine WC.seq ?_
      refine WC.region ?_
      refine WL.val (V.loadA (vs := [_, _]) ⟨Try.isAgg23, Try.sizeOf23⟩ (OV.p rfl) rfl (fun _ => by repeat (first | exact Rds.gets ⟨rfl, rfl, trivial⟩ | apply Rds.up))) rfl ?_
      refine WL.call (vs := [_]) Try.call25 ⟨OV.p rfl, trivial⟩ (slots_may _ _ _ _) rfl ?_
      rintro _ H0 ⟨rfl, h0⟩
      subst H0
      refine WL.val (V.not (OV.p rfl)) rfl ?_
      refine WL.val (V.assign (OV.p rfl)) rfl ?_
      refine WL.nil ?_
      refine WC.cond rfl (fun hc1 => ?_) (fun hc1 => ?_)
      · simp only [decide_eq_true_eq, decide_eq_false_iff_not, Bool.and_eq_true, Bool.or_eq_true, Bool.and_eq_false_iff, Bool.or_eq_false_iff, Bool.not_eq_true', Bool.not_eq_false', Bool.not_eq_true, Bool.not_eq_false] at hc1
        refine WC.seq ?_
        refine WC.region ?_
        refine WL.val (V.build (vs := []) trivial rfl (bld26 )) rfl ?_
        refine WL.store (cs := [_, _, _, _, _]) Try.sizeOf26 (OV.p rfl) (OV.p rfl) rfl rfl rfl (by repeat (first | exact Upd.here (cs' := [_, _, _, _, _]) rfl rfl | apply Upd.up)) ?_
        refine WL.val (V.assign (OV.p rfl)) rfl ?_
        refine WL.nil ?_
        refine WC.ret ?_
        refine BodyQ.ret (H' := F) (Res.two rfl (R1.cellA (vs := [_, _, _, _, _]) rfl ⟨Try.isAgg26, Try.sizeOf26⟩ rfl (by repeat (first | exact Rds.gets ⟨rfl, rfl, rfl, rfl, rfl, trivial⟩ | apply Rds.up))) (R1.tmp rfl)) (fun w h => by repeat (first | exact h | replace h := h.tail)) ⟨?_, rfl⟩
        rw [e1]
        simp [*, Slo.may, Slo.g, Slo.t, Slo.put, Slo.zero]
      · simp only [decide_eq_true_eq, decide_eq_false_iff_not, Bool.and_eq_true, Bool.or_eq_true, Bool.and_eq_false_iff, Bool.or_eq_false_iff, Bool.not_eq_true', Bool.not_eq_false', Bool.not_eq_true, Bool.not_eq_false] at hc1
        refine WC.seq ?_
        refine WC.region ?_
        refine WL.val (V.fieldAddr fo23_1 (OV.p rfl)) rfl ?_
        refine WL.val (V.load Try.isAgg4 (OV.p rfl) (fun _ => by repeat (first | exact Rd.here rfl | apply Rd.up))) rfl ?_
        refine WL.val (V.not (OV.p rfl)) rfl ?_
        refine WL.val (V.assign (OV.p rfl)) rfl ?_
        refine WL.nil ?_
        refine WC.cond rfl (fun hc2 => ?_) (fun hc2 => ?_)
        · simp only [decide_eq_true_eq, decide_eq_false_iff_not, Bool.and_eq_true, Bool.or_eq_true, Bool.and_eq_false_iff, Bool.or_eq_false_iff, Bool.not_eq_true', Bool.not_eq_false', Bool.not_eq_true, Bool.not_eq_false] at hc2
          simp [hc2] at hc1
          refine WC.region ?_
          refine WL.val (V.fieldAddr fo23_0 (OV.p rfl)) rfl ?_
          refine WL.val (V.load Try.isAgg3 (OV.p rfl) (fun _ => by repeat (first | exact Rd.here rfl | apply Rd.up))) rfl ?_
          refine WL.val (V.subI (OV.p rfl) (OV.p rfl) (fun hc => by first | omega | (simp at hc; omega))) rfl ?_
          refine WL.val (V.fieldAddr fo23_0 (OV.p rfl)) rfl ?_
          refine WL.store (cs := [_]) Try.sizeOf3 (OV.p rfl) (OV.p rfl) rfl rfl rfl (by repeat (first | exact Upd.here (cs' := [_, _]) rfl rfl | apply Upd.up)) ?_
          refine WL.nil ?_
          refine WC.seq ?_
          refine WC.region ?_
          refine WL.val (V.loadA (vs := [_, _, _, _, _]) ⟨Try.isAgg26, Try.sizeOf26⟩ (OV.p rfl) rfl (fun _ => by repeat (first | exact Rds.gets ⟨rfl, rfl, rfl, rfl, rfl, trivial⟩ | apply Rds.up))) rfl ?_
          refine WL.val (V.move (OV.p rfl)) rfl ?_
          refine WL.val (V.fieldAddr fo26_0 (OV.p rfl)) rfl ?_
          refine WL.val (V.load Try.isAgg3 (OV.p rfl) (fun _ => by repeat (first | exact Rd.here rfl | apply Rd.up))) rfl ?_
          refine WL.val (V.loadA (vs := [_, _]) ⟨Try.isAgg23, Try.sizeOf23⟩ (OV.p rfl) rfl (fun _ => by repeat (first | exact Rds.gets ⟨rfl, rfl, trivial⟩ | apply Rds.up))) rfl ?_
          refine WL.call (vs := [_, _, _, _]) Try.call27 ⟨OV.p rfl, OV.p rfl, OV.p rfl, OV.p rfl, trivial⟩ (slots_with s _ _ _ _ (by simp) _ _) rfl ?_
          rintro _ H0 ⟨rfl, h0⟩
          subst H0
          refine WL.val (V.extract (OV.p rfl) rfl) rfl ?_
          refine WL.val (V.extract (OV.p rfl) rfl) rfl ?_
          refine WL.store (cs := [_, _, _, _, _]) Try.sizeOf26 (OV.p rfl) (OV.p rfl) rfl rfl rfl (by repeat (first | exact Upd.here (cs' := [_, _, _, _, _]) rfl rfl | apply Upd.up)) ?_
          refine WL.val (V.assign (OV.p rfl)) rfl ?_
          refine WL.nil ?_
          refine WC.ret ?_
          refine BodyQ.ret (H' := F) (Res.two rfl (R1.cellA (vs := [_, _, _, _, _]) rfl ⟨Try.isAgg26, Try.sizeOf26⟩ rfl (by repeat (first | exact Rds.gets ⟨rfl, rfl, rfl, rfl, rfl, trivial⟩ | apply Rds.up))) (R1.tmp rfl)) (fun w h => by repeat (first | exact h | replace h := h.tail)) ⟨?_, rfl⟩
          rw [e1]
          simp [*, Slo.may, Slo.g, Slo.t, Slo.put, Slo.zero]
        · simp only [decide_eq_true_eq, decide_eq_false_iff_not, Bool.and_eq_true, Bool.or_eq_true, Bool.and_eq_false_iff, Bool.or_eq_false_iff, Bool.not_eq_true', Bool.not_eq_false', Bool.not_eq_true, Bool.not_eq_false] at hc2
          refine WC.skip ?_
          refine WC.seq ?_
          refine WC.region ?_
          refine WL.val (V.loadA (vs := [_, _, _, _, _]) ⟨Try.isAgg26, Try.sizeOf26⟩ (OV.p rfl) rfl (fun _ => by repeat (first | exact Rds.gets ⟨rfl, rfl, rfl, rfl, rfl, trivial⟩ | apply Rds.up))) rfl ?_
          refine WL.val (V.move (OV.p rfl)) rfl ?_
          refine WL.val (V.fieldAddr fo26_0 (OV.p rfl)) rfl ?_
          refine WL.val (V.load Try.isAgg3 (OV.p rfl) (fun _ => by repeat (first | exact Rd.here rfl | apply Rd.up))) rfl ?_
          refine WL.val (V.loadA (vs := [_, _]) ⟨Try.isAgg23, Try.sizeOf23⟩ (OV.p rfl) rfl (fun _ => by repeat (first | exact Rds.gets ⟨rfl, rfl, trivial⟩ | apply Rds.up))) rfl ?_
          refine WL.call (vs := [_, _, _, _]) Try.call27 ⟨OV.p rfl, OV.p rfl, OV.p rfl, OV.p rfl, trivial⟩ (slots_with s _ _ _ _ (by simp) _ _) rfl ?_
          rintro _ H0 ⟨rfl, h0⟩
          subst H0
          refine WL.val (V.extract (OV.p rfl) rfl) rfl ?_
          refine WL.val (V.extract (OV.p rfl) rfl) rfl ?_
          refine WL.store (cs := [_, _, _, _, _]) Try.sizeOf26 (OV.p rfl) (OV.p rfl) rfl rfl rfl (by repeat (first | exact Upd.here (cs' := [_, _, _, _, _]) rfl rfl | apply Upd.up)) ?_
          refine WL.val (V.assign (OV.p rfl)) rfl ?_
          refine WL.nil ?_
          refine WC.ret ?_
          refine BodyQ.ret (H' := F) (Res.two rfl (R1.cellA (vs := [_, _, _, _, _]) rfl ⟨Try.isAgg26, Try.sizeOf26⟩ rfl (by repeat (first | exact Rds.gets ⟨rfl, rfl, rfl, rfl, rfl, trivial⟩ | apply Rds.up))) (R1.tmp rfl)) (fun w h => by repeat (first | exact h | replace h := h.tail)) ⟨?_, rfl⟩
          rw [e1]
          simp [*, Slo.may, Slo.g, Slo.t, Slo.put, Slo.zero]

theorem slots_Confirm (s : Slo) (slot : Int) (K : World) (F : List Assn) : Tells Try.prog 14 #[s.v, .int .i64 slot] K F (.tuple #[(s.confirm slot).1.v, .int .i64 (s.confirm slot).2]) := by
  refine Does.enter Try.func14 rfl Try.ntmps14 rfl ?_
  simp only [env0, Nat.reduceAdd]
  refine WC.seq ?_
  refine WC.region ?_
  refine WL.box (cs := [_, _, _, _, _]) (OV.p rfl) rfl rfl (fun b2 => ?_)
  refine WL.alloc (cs := [(.int .i64 0), (.int .i64 0), (.bool false), (.int .i64 0), (.bool false)]) Try.zeroValue26 rfl rfl (fun b4 => ?_)
  refine WL.val (V.assign (OV.p rfl)) rfl ?_
  refine WL.nil ?_
  refine WC.seq ?_
  refine WC.seq ?_
  refine WC.region ?_
  refine WL.val (V.loadA (vs := [_, _, _, _, _]) ⟨Try.isAgg26, Try.sizeOf26⟩ (OV.p rfl) rfl (fun _ => by repeat (first | exact Rds.gets ⟨rfl, rfl, rfl, rfl, rfl, trivial⟩ | apply Rds.up))) rfl ?_
  refine WL.val (V.move (OV.p rfl)) rfl ?_
  refine WL.call (vs := [_, _]) Try.call26 ⟨OV.p rfl, OV.p rfl, trivial⟩ (slots_ahead s slot _ _) rfl ?_
  rintro _ H0 ⟨rfl, h0⟩
  subst H0
  refine WL.val (V.assign (OV.p rfl)) rfl ?_
  refine WL.nil ?_
  refine WC.seq ?_
  refine WC.region ?_
  refine WL.val (V.move (OV.p rfl)) rfl ?_
  refine WL.val (V.neq (OV.p rfl) (OV.p rfl)) rfl ?_
  refine WL.nil ?_
  refine WC.cond rfl (fun hc0 => ?_) (fun hc0 => ?_)
  · simp only [Bool.not_eq_true', Bool.not_eq_false', decide_eq_true_eq, decide_eq_false_iff_not] at hc0
    have e2 : s.ahd slot = 1 := by unfold Slo.ahd at hc0 ⊢; split <;> simp_all
    refine WC.seq ?_
    refine WC.region ?_
    refine WL.val (V.build (vs := []) trivial rfl (bld26 )) rfl ?_
    refine WL.val (V.move (OV.p rfl)) rfl ?_
    refine WL.store (cs := [_, _, _, _, _]) Try.sizeOf26 (OV.p rfl) (OV.p rfl) rfl rfl rfl (by repeat (first | exact Upd.here (cs' := [_, _, _, _, _]) rfl rfl | apply Upd.up)) ?_
    refine WL.val (V.assign (OV.p rfl)) rfl ?_
    refine WL.nil ?_
    refine WC.ret ?_
    refine BodyQ.ret (H' := F) (Res.two rfl (R1.cellA (vs := [_, _, _, _, _]) rfl ⟨Try.isAgg26, Try.sizeOf26⟩ rfl (by repeat (first | exact Rds.gets ⟨rfl, rfl, rfl, rfl, rfl, trivial⟩ | apply Rds.up))) (R1.tmp rfl)) (fun w h => by repeat (first | exact h | replace h := h.tail)) ⟨?_, rfl⟩
    unfold Slo.confirm; rw [if_pos hc0, e2]; rfl
  · simp only [Bool.not_eq_true', Bool.not_eq_false', decide_eq_true_eq, decide_eq_false_iff_not] at hc0
    obtain ⟨hok, hsl⟩ := Slo.ahd_ok hc0
    refine WC.skip ?_
    refine WC.seq ?_
    refine WC.region ?_
    refine WL.val (V.loadA (vs := [_, _, _, _, _]) ⟨Try.isAgg26, Try.sizeOf26⟩ (OV.p rfl) rfl (fun _ => by repeat (first | exact Rds.gets ⟨rfl, rfl, rfl, rfl, rfl, trivial⟩ | apply Rds.up))) rfl ?_
    refine WL.val (V.move (OV.p rfl)) rfl ?_
    refine WL.val (V.move (OV.p rfl)) rfl ?_
    refine WL.val (V.build (vs := [(1, _)]) ⟨OV.p rfl, trivial⟩ rfl (bld23_1 _)) rfl ?_
    refine WL.call (vs := [_, _, _, _]) Try.call27 ⟨OV.p rfl, OV.p rfl, OV.p rfl, OV.p rfl, trivial⟩ (slots_with s _ _ _ _ hsl _ _) rfl ?_
    rintro _ H0 ⟨rfl, h0⟩
    subst H0
    refine WL.val (V.extract (OV.p rfl) rfl) rfl ?_
    refine WL.val (V.extract (OV.p rfl) rfl) rfl ?_
    refine WL.store (cs := [_, _, _, _, _]) Try.sizeOf26 (OV.p rfl) (OV.p rfl) rfl rfl rfl (by repeat (first | exact Upd.here (cs' := [_, _, _, _, _]) rfl rfl | apply Upd.up)) ?_
    refine WL.val (V.assign (OV.p rfl)) rfl ?_
    refine WL.nil ?_
    refine WC.ret ?_
    refine BodyQ.ret (H' := F) (Res.two rfl (R1.cellA (vs := [_, _, _, _, _]) rfl ⟨Try.isAgg26, Try.sizeOf26⟩ rfl (by repeat (first | exact Rds.gets ⟨rfl, rfl, rfl, rfl, rfl, trivial⟩ | apply Rds.up))) (R1.tmp rfl)) (fun w h => by repeat (first | exact h | replace h := h.tail)) ⟨?_, rfl⟩
    unfold Slo.confirm; rw [if_neg (by simp [hc0])]

theorem slots_Install (s : Slo) (slot : Int) (K : World) (F : List Assn) : Tells Try.prog 10 #[s.v, .int .i64 slot] K F (.tuple #[(s.install slot).1.v, .int .i64 (s.install slot).2]) := by
  refine Does.enter Try.func10 rfl Try.ntmps10 rfl ?_
  simp only [env0, Nat.reduceAdd]
  refine WC.seq ?_
  refine WC.region ?_
  refine WL.box (cs := [_, _, _, _, _]) (OV.p rfl) rfl rfl (fun b2 => ?_)
  refine WL.alloc (cs := [(.int .i64 0), (.int .i64 0), (.bool false), (.int .i64 0), (.bool false)]) Try.zeroValue26 rfl rfl (fun b4 => ?_)
  refine WL.val (V.assign (OV.p rfl)) rfl ?_
  refine WL.nil ?_
  refine WC.seq ?_
  refine WC.seq ?_
  refine WC.region ?_
  refine WL.val (V.loadA (vs := [_, _, _, _, _]) ⟨Try.isAgg26, Try.sizeOf26⟩ (OV.p rfl) rfl (fun _ => by repeat (first | exact Rds.gets ⟨rfl, rfl, rfl, rfl, rfl, trivial⟩ | apply Rds.up))) rfl ?_
  refine WL.val (V.move (OV.p rfl)) rfl ?_
  refine WL.call (vs := [_, _]) Try.call26 ⟨OV.p rfl, OV.p rfl, trivial⟩ (slots_ahead s slot _ _) rfl ?_
  rintro _ H0 ⟨rfl, h0⟩
  subst H0
  refine WL.val (V.assign (OV.p rfl)) rfl ?_
  refine WL.nil ?_
  refine WC.seq ?_
  refine WC.region ?_
  refine WL.val (V.move (OV.p rfl)) rfl ?_
  refine WL.val (V.neq (OV.p rfl) (OV.p rfl)) rfl ?_
  refine WL.val (V.move (OV.p rfl)) rfl ?_
  refine WL.valG (oj := _) rfl rfl rfl GC.f (V.move (OV.p rfl)) rfl ?_
  refine WL.valG (oj := _) rfl rfl rfl GC.f (V.fieldAddr fo26_0 (OV.p rfl)) rfl ?_
  refine WL.valG (oj := _) rfl rfl rfl GC.f (V.load Try.isAgg3 (OV.g rfl id) (fun _ => by repeat (first | exact Rd.here rfl | apply Rd.up))) rfl ?_
  refine WL.valG (oj := _) rfl rfl rfl GC.f (V.eql (OV.g rfl id) (OV.g rfl id)) rfl ?_
  refine WL.val (V.pickOr (OV.p rfl) (OV.g rfl id)) rfl ?_
  refine WL.nil ?_
  refine WC.cond rfl (fun hc0 => ?_) (fun hc0 => ?_)
  · simp only [decide_eq_true_eq, decide_eq_false_iff_not, Bool.and_eq_true, Bool.or_eq_true, Bool.and_eq_false_iff, Bool.or_eq_false_iff, Bool.not_eq_true', Bool.not_eq_false', Bool.not_eq_true, Bool.not_eq_false, Int.not_lt, Int.not_le] at hc0
    refine WC.seq ?_
    refine WC.region ?_
    refine WL.val (V.build (vs := []) trivial rfl (bld26 )) rfl ?_
    refine WL.store (cs := [_, _, _, _, _]) Try.sizeOf26 (OV.p rfl) (OV.p rfl) rfl rfl rfl (by repeat (first | exact Upd.here (cs' := [_, _, _, _, _]) rfl rfl | apply Upd.up)) ?_
    refine WL.val (V.assign (OV.p rfl)) rfl ?_
    refine WL.nil ?_
    refine WC.ret ?_
    refine BodyQ.ret (H' := F) (Res.two rfl (R1.cellA (vs := [_, _, _, _, _]) rfl ⟨Try.isAgg26, Try.sizeOf26⟩ rfl (by repeat (first | exact Rds.gets ⟨rfl, rfl, rfl, rfl, rfl, trivial⟩ | apply Rds.up))) (R1.tmp rfl)) (fun w h => by repeat (first | exact h | replace h := h.tail)) ⟨?_, rfl⟩
    unfold Slo.install; rw [if_pos hc0]; rfl
  · simp only [decide_eq_true_eq, decide_eq_false_iff_not, Bool.and_eq_true, Bool.or_eq_true, Bool.and_eq_false_iff, Bool.or_eq_false_iff, Bool.not_eq_true', Bool.not_eq_false', Bool.not_eq_true, Bool.not_eq_false, Int.not_lt, Int.not_le] at hc0
    obtain ⟨hok, hsl⟩ := Slo.ahd_ok hc0.1
    refine WC.skip ?_
    refine WC.seq ?_
    refine WC.region ?_
    refine WL.val (V.loadA (vs := [_, _, _, _, _]) ⟨Try.isAgg26, Try.sizeOf26⟩ (OV.p rfl) rfl (fun _ => by repeat (first | exact Rds.gets ⟨rfl, rfl, rfl, rfl, rfl, trivial⟩ | apply Rds.up))) rfl ?_
    refine WL.val (V.move (OV.p rfl)) rfl ?_
    refine WL.val (V.move (OV.p rfl)) rfl ?_
    refine WL.val (V.build (vs := [(0, _)]) ⟨OV.p rfl, trivial⟩ rfl (bld23_0 _)) rfl ?_
    refine WL.call (vs := [_, _, _, _]) Try.call27 ⟨OV.p rfl, OV.p rfl, OV.p rfl, OV.p rfl, trivial⟩ (slots_with s _ _ _ _ hsl _ _) rfl ?_
    rintro _ H0 ⟨rfl, h0⟩
    subst H0
    refine WL.val (V.extract (OV.p rfl) rfl) rfl ?_
    refine WL.val (V.extract (OV.p rfl) rfl) rfl ?_
    refine WL.store (cs := [_, _, _, _, _]) Try.sizeOf26 (OV.p rfl) (OV.p rfl) rfl rfl rfl (by repeat (first | exact Upd.here (cs' := [_, _, _, _, _]) rfl rfl | apply Upd.up)) ?_
    refine WL.val (V.assign (OV.p rfl)) rfl ?_
    refine WL.nil ?_
    refine WC.ret ?_
    refine BodyQ.ret (H' := F) (Res.two rfl (R1.cellA (vs := [_, _, _, _, _]) rfl ⟨Try.isAgg26, Try.sizeOf26⟩ rfl (by repeat (first | exact Rds.gets ⟨rfl, rfl, rfl, rfl, rfl, trivial⟩ | apply Rds.up))) (R1.tmp rfl)) (fun w h => by repeat (first | exact h | replace h := h.tail)) ⟨?_, rfl⟩
    unfold Slo.install; rw [if_neg (by rintro (h | h); exact h hc0.1; exact hc0.2 h)]

/-- A slice of numbers that was made. -/
def SlI (v : Value) (k : IntKind) (E : Nat) (xs : List Int) : Assn := SlA v E 1 xs.length (ints k xs)
theorem slots_Order (s : Slo) (K : World) (F : List Assn) : Does Try.prog 8 #[s.v] K F (fun v H' => ∃ A cap, v = .tuple #[.slice A s.order.length cap, .int .i64 s.chk] ∧ H' = SlA (.slice A s.order.length cap) 3 1 s.order.length (ints .i64 s.order) :: F) := by
  obtain ⟨f, t0, g0, t1, g1⟩ := s
  dsimp only [Slo.v]
  refine Does.enter Try.func8 rfl Try.ntmps8 rfl ?_
  simp only [env0, Nat.reduceAdd]
  refine WC.seq ?_
  refine WC.region ?_
  refine WL.box (cs := [_, _, _, _, _]) (OV.p rfl) rfl rfl (fun b1 => ?_)
  refine WL.val (V.assign (OV.p rfl)) rfl ?_
  refine WL.val (V.assign (OV.p rfl)) rfl ?_
  refine WL.nil ?_
  refine WC.seq ?_
  refine WC.seq ?_
  refine WC.region ?_
  refine WL.val (V.loadA (vs := [_, _, _, _, _]) ⟨Try.isAgg26, Try.sizeOf26⟩ (OV.p rfl) rfl (fun _ => by repeat (first | exact Rds.gets ⟨rfl, rfl, rfl, rfl, rfl, trivial⟩ | apply Rds.up))) rfl ?_
  refine WL.call (vs := [_]) Try.call12 ⟨OV.p rfl, trivial⟩ (slots_Check ⟨_, _, _, _, _⟩ _ _) rfl ?_
  rintro _ H0 ⟨rfl, h0⟩
  subst H0
  refine WL.val (V.assign (OV.p rfl)) rfl ?_
  refine WL.nil ?_
  refine WC.seq ?_
  refine WC.region ?_
  refine WL.val (V.move (OV.p rfl)) rfl ?_
  refine WL.val (V.neq (OV.p rfl) (OV.p rfl)) rfl ?_
  refine WL.nil ?_
  refine WC.cond rfl (fun hc0 => ?_) (fun hc0 => ?_)
  · simp only [decide_eq_true_eq, decide_eq_false_iff_not, Bool.and_eq_true, Bool.or_eq_true, Bool.and_eq_false_iff, Bool.or_eq_false_iff, Bool.not_eq_true', Bool.not_eq_false', Bool.not_eq_true, Bool.not_eq_false, Int.not_lt, Int.not_le] at hc0
    refine WC.seq ?_
    refine WC.region ?_
    refine WL.val (V.move (OV.p rfl)) rfl ?_
    refine WL.val (V.assign (OV.p rfl)) rfl ?_
    refine WL.val (V.assign (OV.p rfl)) rfl ?_
    refine WL.nil ?_
    refine WC.ret ?_
    refine BodyQ.ret (H' := SlA (.slice none 0 0) 3 1 0 [] :: F) (Res.tmp2 rfl rfl rfl) (fun w h => Sat.slNil (by revert h; exact fun h => by repeat (first | exact h | replace h := h.tail)) _ _) ⟨none, 0, ?_⟩
    have e1 : (Slo.mk f t0 g0 t1 g1).order = [] := by unfold Slo.order; rw [if_neg (by intro h; apply hc0; unfold Slo.chk; rw [if_pos h])]
    rw [e1]; exact ⟨rfl, rfl⟩
  · simp only [decide_eq_true_eq, decide_eq_false_iff_not, Bool.and_eq_true, Bool.or_eq_true, Bool.and_eq_false_iff, Bool.or_eq_false_iff, Bool.not_eq_true', Bool.not_eq_false', Bool.not_eq_true, Bool.not_eq_false, Int.not_lt, Int.not_le] at hc0
    have hok := Slo.chk_ok hc0
    have hf := (Slo.ok_spec hok).1
    have e1 : (Slo.mk f t0 g0 t1 g1).order = [f, 1 - f].filter (Slo.mk f t0 g0 t1 g1).may := by unfold Slo.order; rw [if_pos hok]
    dsimp only at hf
    rcases hf with rfl | rfl
    all_goals
      refine WC.skip ?_
      refine WC.seq ?_
      refine WC.sub (Sub.refl _) (fun w h => h.slNil 3 1) ?_
      refine WC.region ?_
      refine WL.val (V.assign (OV.p rfl)) rfl ?_
      refine WL.nil ?_
      refine WC.seq ?_
      refine WC.seq ?_
      refine WC.region ?_
      refine WL.val (V.fieldAddr fo26_0 (OV.p rfl)) rfl ?_
      refine WL.val (V.load Try.isAgg3 (OV.p rfl) (fun _ => by repeat (first | exact Rd.here rfl | apply Rd.up))) rfl ?_
      refine WL.val (V.fieldAddr fo26_0 (OV.p rfl)) rfl ?_
      refine WL.val (V.load Try.isAgg3 (OV.p rfl) (fun _ => by repeat (first | exact Rd.here rfl | apply Rd.up))) rfl ?_
      refine WL.val (V.subI (OV.p rfl) (OV.p rfl) (fun hc => by first | omega | (simp at hc; omega))) rfl ?_
      refine WL.val (V.build (vs := [(0, _), (1, _)]) ⟨OV.p rfl, OV.p rfl, trivial⟩ rfl (bld49_0_1 _ _)) rfl ?_
      refine WL.val (V.move (OV.p rfl)) rfl ?_
      refine WL.nil ?_
      refine WC.block ?_
      refine WC.rounds 3 ?_
      refine WC.seq ?_
      refine WC.region ?_
      refine WL.val (V.lss (OV.p rfl) (OV.p rfl)) rfl ?_
      refine WL.nil ?_
      refine WC.seq ?_
      refine WC.condT' rfl (by first | rfl | (simp; done) | (simp; omega)) ?_
      refine WC.skip ?_
      refine WC.seq ?_
      refine WC.block ?_
      refine WC.seq ?_
      refine WC.region ?_
      refine WL.val (V.index at49 (OV.p rfl) (OV.p rfl) (fun hc => by first | omega | (simp at hc; omega)) (fun _ => part1 Try.isAgg3 rfl)) rfl ?_
      refine WL.val (V.assign (OV.p rfl)) rfl ?_
      refine WL.nil ?_
      refine WC.seq ?_
      refine WC.region ?_
      refine WL.val (V.move (OV.p rfl)) rfl ?_
      refine WL.val (V.fieldAddr fo26_1 (OV.p rfl)) rfl ?_
      refine WL.val (V.idxA at24 (OV.p rfl) (OV.p rfl) (fun hc => by first | omega | (simp at hc; omega))) rfl ?_
      refine WL.val (V.loadA (vs := [_, _]) ⟨Try.isAgg23, Try.sizeOf23⟩ (OV.p rfl) rfl (fun _ => by repeat (first | exact Rds.gets ⟨rfl, rfl, trivial⟩ | apply Rds.up))) rfl ?_
      refine WL.call (vs := [_]) Try.call25 ⟨OV.p rfl, trivial⟩ (slots_may _ _ _ _) rfl ?_
      rintro _ H0 ⟨rfl, h0⟩
      subst H0
      refine WL.nil ?_
      refine WC.cond rfl (fun hc2 => ?_) (fun hc2 => ?_)
      · skip
        refine WC.region ?_
        refine WL.val (V.move (OV.p rfl)) rfl ?_
        refine WL.val (V.move (OV.p rfl)) rfl ?_
        refine WL.buildSlice (E := 3) (cs := [_]) (vs := [(0, _)]) ⟨OV.p rfl, trivial⟩ rfl (bsl27_1_0 _) rfl (fun b29 => ?_)
        refine WL.sub (Sub.refl _) (fun w h => h.p1) ?_
        refine WL.append Try.underlying27 el3 (OV.p rfl) (OV.p rfl) (by repeat (first | exact Seq.all rfl | apply Seq.up)) (by simp [Value.oneCell']) (by first | omega | (simp; omega)) rfl rfl (fun A30 c30 hn30 hc30 => ?_)
        refine WL.val (V.assign (OV.p rfl)) rfl ?_
        refine WL.nil ?_
        refine WC.region ?_
        refine WL.val (V.val_eq (v' := .int .i64 (1)) (V.add (OV.p rfl) (OV.p rfl)) (fun _ => rfl)) rfl ?_
        refine WL.val (V.move (OV.p rfl)) rfl ?_
        refine WL.nil ?_
        refine WC.seq ?_
        refine WC.region ?_
        refine WL.val (V.lss (OV.p rfl) (OV.p rfl)) rfl ?_
        refine WL.nil ?_
        refine WC.seq ?_
        refine WC.condT' rfl (by first | rfl | (simp; done) | (simp; omega)) ?_
        refine WC.skip ?_
        refine WC.seq ?_
        refine WC.block ?_
        refine WC.seq ?_
        refine WC.region ?_
        refine WL.val (V.index at49 (OV.p rfl) (OV.p rfl) (fun hc => by first | omega | (simp at hc; omega)) (fun _ => part1 Try.isAgg3 rfl)) rfl ?_
        refine WL.val (V.assign (OV.p rfl)) rfl ?_
        refine WL.nil ?_
        refine WC.seq ?_
        refine WC.region ?_
        refine WL.val (V.move (OV.p rfl)) rfl ?_
        refine WL.val (V.fieldAddr fo26_1 (OV.p rfl)) rfl ?_
        refine WL.val (V.idxA at24 (OV.p rfl) (OV.p rfl) (fun hc => by first | omega | (simp at hc; omega))) rfl ?_
        refine WL.val (V.loadA (vs := [_, _]) ⟨Try.isAgg23, Try.sizeOf23⟩ (OV.p rfl) rfl (fun _ => by repeat (first | exact Rds.gets ⟨rfl, rfl, trivial⟩ | apply Rds.up))) rfl ?_
        refine WL.call (vs := [_]) Try.call25 ⟨OV.p rfl, trivial⟩ (slots_may _ _ _ _) rfl ?_
        rintro _ H0 ⟨rfl, h0⟩
        subst H0
        refine WL.nil ?_
        refine WC.cond rfl (fun hc2' => ?_) (fun hc2' => ?_)
        · skip
          refine WC.region ?_
          refine WL.val (V.move (OV.p rfl)) rfl ?_
          refine WL.val (V.move (OV.p rfl)) rfl ?_
          refine WL.buildSlice (E := 3) (cs := [_]) (vs := [(0, _)]) ⟨OV.p rfl, trivial⟩ rfl (bsl27_1_0 _) rfl (fun b29 => ?_)
          refine WL.sub (Sub.refl _) (fun w h => h.p1) ?_
          refine WL.append Try.underlying27 el3 (OV.p rfl) (OV.p rfl) (by repeat (first | exact Seq.all rfl | apply Seq.up)) (by simp [Value.oneCell']) (by first | omega | (simp; omega)) rfl rfl (fun A30 c30 hn30 hc30 => ?_)
          refine WL.val (V.assign (OV.p rfl)) rfl ?_
          refine WL.nil ?_
          refine WC.region ?_
          refine WL.val (V.val_eq (v' := .int .i64 (2)) (V.add (OV.p rfl) (OV.p rfl)) (fun _ => rfl)) rfl ?_
          refine WL.val (V.move (OV.p rfl)) rfl ?_
          refine WL.nil ?_
          refine WC.seq ?_
          refine WC.region ?_
          refine WL.val (V.lss (OV.p rfl) (OV.p rfl)) rfl ?_
          refine WL.nil ?_
          refine WC.seq ?_
          refine WC.condF' rfl (by first | rfl | (simp; done) | (simp; omega)) ?_
          refine WC.exit ?_
          refine WC.seq ?_
          refine WC.region ?_
          refine WL.val (V.move (OV.p rfl)) rfl ?_
          refine WL.val (V.assign (OV.p rfl)) rfl ?_
          refine WL.val (V.assign (OV.p rfl)) rfl ?_
          refine WL.nil ?_
          refine WC.ret ?_
          simp only [List.filter, Slo.may, Slo.g, Slo.t, Int.reduceSub, Int.reduceEq, ↓reduceIte, *] at e1
          exact BodyQ.ret (H' := SlA _ 3 1 _ _ :: F) (Res.tmp2 rfl rfl rfl) (fun w h => by repeat (first | exact h | replace h := h.drop2)) ⟨_, _, by rw [e1, hc0]; rfl, by rw [e1]; rfl⟩
        · skip
          refine WC.skip ?_
          refine WC.region ?_
          refine WL.val (V.val_eq (v' := .int .i64 (2)) (V.add (OV.p rfl) (OV.p rfl)) (fun _ => rfl)) rfl ?_
          refine WL.val (V.move (OV.p rfl)) rfl ?_
          refine WL.nil ?_
          refine WC.seq ?_
          refine WC.region ?_
          refine WL.val (V.lss (OV.p rfl) (OV.p rfl)) rfl ?_
          refine WL.nil ?_
          refine WC.seq ?_
          refine WC.condF' rfl (by first | rfl | (simp; done) | (simp; omega)) ?_
          refine WC.exit ?_
          refine WC.seq ?_
          refine WC.region ?_
          refine WL.val (V.move (OV.p rfl)) rfl ?_
          refine WL.val (V.assign (OV.p rfl)) rfl ?_
          refine WL.val (V.assign (OV.p rfl)) rfl ?_
          refine WL.nil ?_
          refine WC.ret ?_
          simp only [List.filter, Slo.may, Slo.g, Slo.t, Int.reduceSub, Int.reduceEq, ↓reduceIte, *] at e1
          exact BodyQ.ret (H' := SlA _ 3 1 _ _ :: F) (Res.tmp2 rfl rfl rfl) (fun w h => by repeat (first | exact h | replace h := h.drop2)) ⟨_, _, by rw [e1, hc0]; rfl, by rw [e1]; rfl⟩
      · skip
        refine WC.skip ?_
        refine WC.region ?_
        refine WL.val (V.val_eq (v' := .int .i64 (1)) (V.add (OV.p rfl) (OV.p rfl)) (fun _ => rfl)) rfl ?_
        refine WL.val (V.move (OV.p rfl)) rfl ?_
        refine WL.nil ?_
        refine WC.seq ?_
        refine WC.region ?_
        refine WL.val (V.lss (OV.p rfl) (OV.p rfl)) rfl ?_
        refine WL.nil ?_
        refine WC.seq ?_
        refine WC.condT' rfl (by first | rfl | (simp; done) | (simp; omega)) ?_
        refine WC.skip ?_
        refine WC.seq ?_
        refine WC.block ?_
        refine WC.seq ?_
        refine WC.region ?_
        refine WL.val (V.index at49 (OV.p rfl) (OV.p rfl) (fun hc => by first | omega | (simp at hc; omega)) (fun _ => part1 Try.isAgg3 rfl)) rfl ?_
        refine WL.val (V.assign (OV.p rfl)) rfl ?_
        refine WL.nil ?_
        refine WC.seq ?_
        refine WC.region ?_
        refine WL.val (V.move (OV.p rfl)) rfl ?_
        refine WL.val (V.fieldAddr fo26_1 (OV.p rfl)) rfl ?_
        refine WL.val (V.idxA at24 (OV.p rfl) (OV.p rfl) (fun hc => by first | omega | (simp at hc; omega))) rfl ?_
        refine WL.val (V.loadA (vs := [_, _]) ⟨Try.isAgg23, Try.sizeOf23⟩ (OV.p rfl) rfl (fun _ => by repeat (first | exact Rds.gets ⟨rfl, rfl, trivial⟩ | apply Rds.up))) rfl ?_
        refine WL.call (vs := [_]) Try.call25 ⟨OV.p rfl, trivial⟩ (slots_may _ _ _ _) rfl ?_
        rintro _ H0 ⟨rfl, h0⟩
        subst H0
        refine WL.nil ?_
        refine WC.cond rfl (fun hc2' => ?_) (fun hc2' => ?_)
        · skip
          refine WC.region ?_
          refine WL.val (V.move (OV.p rfl)) rfl ?_
          refine WL.val (V.move (OV.p rfl)) rfl ?_
          refine WL.buildSlice (E := 3) (cs := [_]) (vs := [(0, _)]) ⟨OV.p rfl, trivial⟩ rfl (bsl27_1_0 _) rfl (fun b29 => ?_)
          refine WL.sub (Sub.refl _) (fun w h => h.p1) ?_
          refine WL.append Try.underlying27 el3 (OV.p rfl) (OV.p rfl) (by repeat (first | exact Seq.all rfl | apply Seq.up)) (by simp [Value.oneCell']) (by first | omega | (simp; omega)) rfl rfl (fun A30 c30 hn30 hc30 => ?_)
          refine WL.val (V.assign (OV.p rfl)) rfl ?_
          refine WL.nil ?_
          refine WC.region ?_
          refine WL.val (V.val_eq (v' := .int .i64 (2)) (V.add (OV.p rfl) (OV.p rfl)) (fun _ => rfl)) rfl ?_
          refine WL.val (V.move (OV.p rfl)) rfl ?_
          refine WL.nil ?_
          refine WC.seq ?_
          refine WC.region ?_
          refine WL.val (V.lss (OV.p rfl) (OV.p rfl)) rfl ?_
          refine WL.nil ?_
          refine WC.seq ?_
          refine WC.condF' rfl (by first | rfl | (simp; done) | (simp; omega)) ?_
          refine WC.exit ?_
          refine WC.seq ?_
          refine WC.region ?_
          refine WL.val (V.move (OV.p rfl)) rfl ?_
          refine WL.val (V.assign (OV.p rfl)) rfl ?_
          refine WL.val (V.assign (OV.p rfl)) rfl ?_
          refine WL.nil ?_
          refine WC.ret ?_
          simp only [List.filter, Slo.may, Slo.g, Slo.t, Int.reduceSub, Int.reduceEq, ↓reduceIte, *] at e1
          exact BodyQ.ret (H' := SlA _ 3 1 _ _ :: F) (Res.tmp2 rfl rfl rfl) (fun w h => by repeat (first | exact h | replace h := h.drop2)) ⟨_, _, by rw [e1, hc0]; rfl, by rw [e1]; rfl⟩
        · skip
          refine WC.skip ?_
          refine WC.region ?_
          refine WL.val (V.val_eq (v' := .int .i64 (2)) (V.add (OV.p rfl) (OV.p rfl)) (fun _ => rfl)) rfl ?_
          refine WL.val (V.move (OV.p rfl)) rfl ?_
          refine WL.nil ?_
          refine WC.seq ?_
          refine WC.region ?_
          refine WL.val (V.lss (OV.p rfl) (OV.p rfl)) rfl ?_
          refine WL.nil ?_
          refine WC.seq ?_
          refine WC.condF' rfl (by first | rfl | (simp; done) | (simp; omega)) ?_
          refine WC.exit ?_
          refine WC.seq ?_
          refine WC.region ?_
          refine WL.val (V.move (OV.p rfl)) rfl ?_
          refine WL.val (V.assign (OV.p rfl)) rfl ?_
          refine WL.val (V.assign (OV.p rfl)) rfl ?_
          refine WL.nil ?_
          refine WC.ret ?_
          simp only [List.filter, Slo.may, Slo.g, Slo.t, Int.reduceSub, Int.reduceEq, ↓reduceIte, *] at e1
          exact BodyQ.ret (H' := SlA _ 3 1 _ _ :: F) (Res.tmp2 rfl rfl rfl) (fun w h => by repeat (first | exact h | replace h := h.drop2)) ⟨_, _, by rw [e1, hc0]; rfl, by rw [e1]; rfl⟩

theorem wrap_u8 {i : Int} (h : 0 ≤ i ∧ i < 256) : IntKind.u8.wrap i = i := by
  simp [IntKind.wrap, IntKind.signed, IntKind.bits]
  omega
theorem slots_Bytes (s : Slo) (K : World) (F : List Assn) : Does Try.prog 13 #[s.v] K F (fun v H' => (s.ok = true ∧ ∃ b, v = .tuple #[.slice (some ⟨b, 0, none⟩) 9 9, .int .i64 0] ∧ H' = Cells b 5 (ints .u8 s.bytes) :: F) ∨ (s.ok = false ∧ v = .tuple #[.slice none 0 0, .int .i64 1] ∧ H' = F)) := by
  obtain ⟨f, t0, g0, t1, g1⟩ := s
  dsimp only [Slo.v]
  refine Does.enter Try.func13 rfl Try.ntmps13 rfl ?_
  simp only [env0, Nat.reduceAdd]
  refine WC.seq ?_
  refine WC.region ?_
  refine WL.box (cs := [_, _, _, _, _]) (OV.p rfl) rfl rfl (fun b1 => ?_)
  refine WL.val (V.assign (OV.p rfl)) rfl ?_
  refine WL.val (V.assign (OV.p rfl)) rfl ?_
  refine WL.nil ?_
  refine WC.seq ?_
  refine WC.seq ?_
  refine WC.region ?_
  refine WL.val (V.loadA (vs := [_, _, _, _, _]) ⟨Try.isAgg26, Try.sizeOf26⟩ (OV.p rfl) rfl (fun _ => by repeat (first | exact Rds.gets ⟨rfl, rfl, rfl, rfl, rfl, trivial⟩ | apply Rds.up))) rfl ?_
  refine WL.call (vs := [_]) Try.call12 ⟨OV.p rfl, trivial⟩ (slots_Check ⟨_, _, _, _, _⟩ _ _) rfl ?_
  rintro _ H0 ⟨rfl, h0⟩
  subst H0
  refine WL.val (V.assign (OV.p rfl)) rfl ?_
  refine WL.nil ?_
  refine WC.seq ?_
  refine WC.region ?_
  refine WL.val (V.move (OV.p rfl)) rfl ?_
  refine WL.val (V.neq (OV.p rfl) (OV.p rfl)) rfl ?_
  refine WL.nil ?_
  refine WC.cond rfl (fun hc0 => ?_) (fun hc0 => ?_)
  · simp only [decide_eq_true_eq, decide_eq_false_iff_not, Bool.and_eq_true, Bool.or_eq_true, Bool.and_eq_false_iff, Bool.or_eq_false_iff, Bool.not_eq_true', Bool.not_eq_false', Bool.not_eq_true, Bool.not_eq_false, Int.not_lt, Int.not_le] at hc0
    refine WC.seq ?_
    refine WC.region ?_
    refine WL.val (V.move (OV.p rfl)) rfl ?_
    refine WL.val (V.assign (OV.p rfl)) rfl ?_
    refine WL.val (V.assign (OV.p rfl)) rfl ?_
    refine WL.nil ?_
    refine WC.ret ?_
    have e1 : (Slo.mk f t0 g0 t1 g1).ok = false := by
      cases h : (Slo.mk f t0 g0 t1 g1).ok with
      | false => rfl
      | true => exact (hc0 (by unfold Slo.chk; rw [if_pos h])).elim
    exact BodyQ.ret (H' := F) (Res.tmp2 rfl rfl rfl) (fun w h => by repeat (first | exact h | replace h := h.tail)) (.inr ⟨e1, by unfold Slo.chk; rw [if_neg (by simp [e1])], rfl⟩)
  · simp only [decide_eq_true_eq, decide_eq_false_iff_not, Bool.and_eq_true, Bool.or_eq_true, Bool.and_eq_false_iff, Bool.or_eq_false_iff, Bool.not_eq_true', Bool.not_eq_false', Bool.not_eq_true, Bool.not_eq_false, Int.not_lt, Int.not_le] at hc0
    have hok := Slo.chk_ok hc0
    have hs := Slo.ok_spec hok
    dsimp only at hs
    refine WC.skip ?_
    refine WC.seq ?_
    refine WC.region ?_
    refine WL.make1L 9 (cs := [_, _, _, _, _, _, _, _, _]) Try.underlying36 el5 (OV.p rfl) (OV.p rfl) rfl rfl (by omega) rfl rfl rfl rfl (fun b13 => ?_)
    refine WL.val (V.assign (OV.p rfl)) rfl ?_
    refine WL.nil ?_
    refine WC.seq ?_
    refine WC.region ?_
    refine WL.val (V.move (OV.p rfl)) rfl ?_
    refine WL.copyStr (news := [_, _, _, _]) st36 (OV.p rfl) rfl rfl (by repeat (first | exact Upd.here (cs' := [_, _, _, _, _, _, _, _, _]) rfl rfl | apply Upd.up)) rfl ?_
    refine WL.nil ?_
    refine WC.seq ?_
    refine WC.region ?_
    refine WL.val (V.move (OV.p rfl)) rfl ?_
    refine WL.val (V.fieldAddr fo26_0 (OV.p rfl)) rfl ?_
    refine WL.val (V.load Try.isAgg3 (OV.p rfl) (fun _ => by repeat (first | exact Rd.here rfl | apply Rd.up))) rfl ?_
    refine WL.val (V.convI Try.runUnderlying3 Try.runUnderlying5 (OV.p rfl)) rfl ?_
    refine WL.val (V.idxB st36 (OV.p rfl) (OV.p rfl) (fun hc => by first | omega | (simp at hc; omega))) rfl ?_
    refine WL.store (cs := [_]) Try.sizeOf5 (OV.p rfl) (OV.p rfl) rfl rfl rfl (by repeat (first | exact Upd.here (cs' := [_, _, _, _, _, _, _, _, _]) rfl rfl | apply Upd.up)) ?_
    refine WL.nil ?_
    refine WC.seq ?_
    refine WC.seq ?_
    refine WC.region ?_
    refine WL.val (V.fieldAddr fo26_1 (OV.p rfl)) rfl ?_
    refine WL.val (V.loadA (vs := [_, _, _, _]) ⟨Try.isAgg24, Try.sizeOf24⟩ (OV.p rfl) rfl (fun _ => by repeat (first | exact Rds.gets ⟨rfl, rfl, rfl, rfl, trivial⟩ | apply Rds.up))) rfl ?_
    refine WL.val (V.move (OV.p rfl)) rfl ?_
    refine WL.nil ?_
    refine WC.block ?_
    refine WC.rounds 3 ?_
    refine WC.seq ?_
    refine WC.region ?_
    refine WL.val (V.lss (OV.p rfl) (OV.p rfl)) rfl ?_
    refine WL.nil ?_
    refine WC.seq ?_
    refine WC.condT' rfl (by first | rfl | (simp; done) | (simp; omega)) ?_
    refine WC.skip ?_
    refine WC.seq ?_
    refine WC.block ?_
    refine WC.seq ?_
    refine WC.region ?_
    refine WL.val (V.move (OV.p rfl)) rfl ?_
    refine WL.val (V.index at24 (OV.p rfl) (OV.p rfl) (fun hc => by first | omega | (simp at hc; omega)) (fun _ => partG ⟨Try.isAgg23, Try.sizeOf23⟩ (vs := [_, _]) rfl ⟨rfl, rfl, trivial⟩)) rfl ?_
    refine WL.alloc (cs := [(.int .i64 0), (.bool false)]) Try.zeroValue23 rfl rfl (fun b7 => ?_)
    refine WL.val (V.assign (OV.p rfl)) rfl ?_
    refine WL.store (cs := [_, _]) Try.sizeOf23 (OV.p rfl) (OV.p rfl) rfl rfl rfl (by repeat (first | exact Upd.here (cs' := [_, _]) rfl rfl | apply Upd.up)) ?_
    refine WL.nil ?_
    refine WC.seq ?_
    refine WC.region ?_
    refine WL.val (V.move (OV.p rfl)) rfl ?_
    refine WL.val (V.move (OV.p rfl)) rfl ?_
    refine WL.val (V.val_eq (v' := .int .i64 (0)) (V.mul (OV.p rfl) (OV.p rfl)) (fun _ => rfl)) rfl ?_
    refine WL.val (V.val_eq (v' := .int .i64 (5)) (V.add (OV.p rfl) (OV.p rfl)) (fun _ => rfl)) rfl ?_
    refine WL.val (V.fieldAddr fo23_0 (OV.p rfl)) rfl ?_
    refine WL.val (V.load Try.isAgg3 (OV.p rfl) (fun _ => by repeat (first | exact Rd.here rfl | apply Rd.up))) rfl ?_
    refine WL.val (V.convI Try.runUnderlying3 Try.runUnderlying5 (OV.p rfl)) rfl ?_
    refine WL.val (V.idxB st36 (OV.p rfl) (OV.p rfl) (fun hc => by first | omega | (simp at hc; omega))) rfl ?_
    refine WL.store (cs := [_]) Try.sizeOf5 (OV.p rfl) (OV.p rfl) rfl rfl rfl (by repeat (first | exact Upd.here (cs' := [_, _, _, _, _, _, _, _, _]) rfl rfl | apply Upd.up)) ?_
    refine WL.nil ?_
    refine WC.seq ?_
    refine WC.region ?_
    refine WL.val (V.fieldAddr fo23_1 (OV.p rfl)) rfl ?_
    refine WL.val (V.load Try.isAgg4 (OV.p rfl) (fun _ => by repeat (first | exact Rd.here rfl | apply Rd.up))) rfl ?_
    refine WL.nil ?_
    refine WC.cond rfl (fun hc2 => ?_) (fun hc2 => ?_)
    · try simp only [decide_eq_true_eq, decide_eq_false_iff_not, Bool.and_eq_true, Bool.or_eq_true, Bool.and_eq_false_iff, Bool.or_eq_false_iff, Bool.not_eq_true', Bool.not_eq_false', Bool.not_eq_true, Bool.not_eq_false, Int.not_lt, Int.not_le] at hc2
      refine WC.region ?_
      refine WL.val (V.move (OV.p rfl)) rfl ?_
      refine WL.val (V.move (OV.p rfl)) rfl ?_
      refine WL.val (V.val_eq (v' := .int .i64 (0)) (V.mul (OV.p rfl) (OV.p rfl)) (fun _ => rfl)) rfl ?_
      refine WL.val (V.val_eq (v' := .int .i64 (6)) (V.add (OV.p rfl) (OV.p rfl)) (fun _ => rfl)) rfl ?_
      refine WL.val (V.idxB st36 (OV.p rfl) (OV.p rfl) (fun hc => by first | omega | (simp at hc; omega))) rfl ?_
      refine WL.store (cs := [_]) Try.sizeOf5 (OV.p rfl) (OV.p rfl) rfl rfl rfl (by repeat (first | exact Upd.here (cs' := [_, _, _, _, _, _, _, _, _]) rfl rfl | apply Upd.up)) ?_
      refine WL.nil ?_
      refine WC.region ?_
      refine WL.val (V.val_eq (v' := .int .i64 (1)) (V.add (OV.p rfl) (OV.p rfl)) (fun _ => rfl)) rfl ?_
      refine WL.val (V.move (OV.p rfl)) rfl ?_
      refine WL.nil ?_
      refine WC.seq ?_
      refine WC.region ?_
      refine WL.val (V.lss (OV.p rfl) (OV.p rfl)) rfl ?_
      refine WL.nil ?_
      refine WC.seq ?_
      refine WC.condT' rfl (by first | rfl | (simp; done) | (simp; omega)) ?_
      refine WC.skip ?_
      refine WC.seq ?_
      refine WC.block ?_
      refine WC.seq ?_
      refine WC.region ?_
      refine WL.val (V.move (OV.p rfl)) rfl ?_
      refine WL.val (V.index at24 (OV.p rfl) (OV.p rfl) (fun hc => by first | omega | (simp at hc; omega)) (fun _ => partG ⟨Try.isAgg23, Try.sizeOf23⟩ (vs := [_, _]) rfl ⟨rfl, rfl, trivial⟩)) rfl ?_
      refine WL.alloc (cs := [(.int .i64 0), (.bool false)]) Try.zeroValue23 rfl rfl (fun b7 => ?_)
      refine WL.val (V.assign (OV.p rfl)) rfl ?_
      refine WL.store (cs := [_, _]) Try.sizeOf23 (OV.p rfl) (OV.p rfl) rfl rfl rfl (by repeat (first | exact Upd.here (cs' := [_, _]) rfl rfl | apply Upd.up)) ?_
      refine WL.nil ?_
      refine WC.seq ?_
      refine WC.region ?_
      refine WL.val (V.move (OV.p rfl)) rfl ?_
      refine WL.val (V.move (OV.p rfl)) rfl ?_
      refine WL.val (V.val_eq (v' := .int .i64 (2)) (V.mul (OV.p rfl) (OV.p rfl)) (fun _ => rfl)) rfl ?_
      refine WL.val (V.val_eq (v' := .int .i64 (7)) (V.add (OV.p rfl) (OV.p rfl)) (fun _ => rfl)) rfl ?_
      refine WL.val (V.fieldAddr fo23_0 (OV.p rfl)) rfl ?_
      refine WL.val (V.load Try.isAgg3 (OV.p rfl) (fun _ => by repeat (first | exact Rd.here rfl | apply Rd.up))) rfl ?_
      refine WL.val (V.convI Try.runUnderlying3 Try.runUnderlying5 (OV.p rfl)) rfl ?_
      refine WL.val (V.idxB st36 (OV.p rfl) (OV.p rfl) (fun hc => by first | omega | (simp at hc; omega))) rfl ?_
      refine WL.store (cs := [_]) Try.sizeOf5 (OV.p rfl) (OV.p rfl) rfl rfl rfl (by repeat (first | exact Upd.here (cs' := [_, _, _, _, _, _, _, _, _]) rfl rfl | apply Upd.up)) ?_
      refine WL.nil ?_
      refine WC.seq ?_
      refine WC.region ?_
      refine WL.val (V.fieldAddr fo23_1 (OV.p rfl)) rfl ?_
      refine WL.val (V.load Try.isAgg4 (OV.p rfl) (fun _ => by repeat (first | exact Rd.here rfl | apply Rd.up))) rfl ?_
      refine WL.nil ?_
      refine WC.cond rfl (fun hc2' => ?_) (fun hc2' => ?_)
      · try simp only [decide_eq_true_eq, decide_eq_false_iff_not, Bool.and_eq_true, Bool.or_eq_true, Bool.and_eq_false_iff, Bool.or_eq_false_iff, Bool.not_eq_true', Bool.not_eq_false', Bool.not_eq_true, Bool.not_eq_false, Int.not_lt, Int.not_le] at hc2'
        refine WC.region ?_
        refine WL.val (V.move (OV.p rfl)) rfl ?_
        refine WL.val (V.move (OV.p rfl)) rfl ?_
        refine WL.val (V.val_eq (v' := .int .i64 (2)) (V.mul (OV.p rfl) (OV.p rfl)) (fun _ => rfl)) rfl ?_
        refine WL.val (V.val_eq (v' := .int .i64 (8)) (V.add (OV.p rfl) (OV.p rfl)) (fun _ => rfl)) rfl ?_
        refine WL.val (V.idxB st36 (OV.p rfl) (OV.p rfl) (fun hc => by first | omega | (simp at hc; omega))) rfl ?_
        refine WL.store (cs := [_]) Try.sizeOf5 (OV.p rfl) (OV.p rfl) rfl rfl rfl (by repeat (first | exact Upd.here (cs' := [_, _, _, _, _, _, _, _, _]) rfl rfl | apply Upd.up)) ?_
        refine WL.nil ?_
        refine WC.region ?_
        refine WL.val (V.val_eq (v' := .int .i64 (2)) (V.add (OV.p rfl) (OV.p rfl)) (fun _ => rfl)) rfl ?_
        refine WL.val (V.move (OV.p rfl)) rfl ?_
        refine WL.nil ?_
        refine WC.seq ?_
        refine WC.region ?_
        refine WL.val (V.lss (OV.p rfl) (OV.p rfl)) rfl ?_
        refine WL.nil ?_
        refine WC.seq ?_
        refine WC.condF' rfl (by first | rfl | (simp; done) | (simp; omega)) ?_
        refine WC.exit ?_
        refine WC.seq ?_
        refine WC.region ?_
        refine WL.val (V.move (OV.p rfl)) rfl ?_
        refine WL.val (V.assign (OV.p rfl)) rfl ?_
        refine WL.val (V.assign (OV.p rfl)) rfl ?_
        refine WL.nil ?_
        refine WC.ret ?_
        refine BodyQ.ret (H' := Cells b13 _ (ints .u8 (Slo.mk f t0 g0 t1 g1).bytes) :: F) (Res.tmp2 rfl rfl rfl) (fun w h => ?_) (.inl ⟨hok, b13, rfl, rfl⟩)
        replace h := h.tail.tail.drop2
        refine Sat.cells_eq h ?_
        rw [wrap_u8 (by omega), wrap_u8 (by omega), wrap_u8 (by omega)]
        unfold Slo.bytes
        rw [if_pos hok]
        simp [setL, ints, Slo.b01, *]
      · try simp only [decide_eq_true_eq, decide_eq_false_iff_not, Bool.and_eq_true, Bool.or_eq_true, Bool.and_eq_false_iff, Bool.or_eq_false_iff, Bool.not_eq_true', Bool.not_eq_false', Bool.not_eq_true, Bool.not_eq_false, Int.not_lt, Int.not_le] at hc2'
        refine WC.skip ?_
        refine WC.region ?_
        refine WL.val (V.val_eq (v' := .int .i64 (2)) (V.add (OV.p rfl) (OV.p rfl)) (fun _ => rfl)) rfl ?_
        refine WL.val (V.move (OV.p rfl)) rfl ?_
        refine WL.nil ?_
        refine WC.seq ?_
        refine WC.region ?_
        refine WL.val (V.lss (OV.p rfl) (OV.p rfl)) rfl ?_
        refine WL.nil ?_
        refine WC.seq ?_
        refine WC.condF' rfl (by first | rfl | (simp; done) | (simp; omega)) ?_
        refine WC.exit ?_
        refine WC.seq ?_
        refine WC.region ?_
        refine WL.val (V.move (OV.p rfl)) rfl ?_
        refine WL.val (V.assign (OV.p rfl)) rfl ?_
        refine WL.val (V.assign (OV.p rfl)) rfl ?_
        refine WL.nil ?_
        refine WC.ret ?_
        refine BodyQ.ret (H' := Cells b13 _ (ints .u8 (Slo.mk f t0 g0 t1 g1).bytes) :: F) (Res.tmp2 rfl rfl rfl) (fun w h => ?_) (.inl ⟨hok, b13, rfl, rfl⟩)
        replace h := h.tail.tail.drop2
        refine Sat.cells_eq h ?_
        rw [wrap_u8 (by omega), wrap_u8 (by omega), wrap_u8 (by omega)]
        unfold Slo.bytes
        rw [if_pos hok]
        simp [setL, ints, Slo.b01, *]
    · try simp only [decide_eq_true_eq, decide_eq_false_iff_not, Bool.and_eq_true, Bool.or_eq_true, Bool.and_eq_false_iff, Bool.or_eq_false_iff, Bool.not_eq_true', Bool.not_eq_false', Bool.not_eq_true, Bool.not_eq_false, Int.not_lt, Int.not_le] at hc2
      refine WC.skip ?_
      refine WC.region ?_
      refine WL.val (V.val_eq (v' := .int .i64 (1)) (V.add (OV.p rfl) (OV.p rfl)) (fun _ => rfl)) rfl ?_
      refine WL.val (V.move (OV.p rfl)) rfl ?_
      refine WL.nil ?_
      refine WC.seq ?_
      refine WC.region ?_
      refine WL.val (V.lss (OV.p rfl) (OV.p rfl)) rfl ?_
      refine WL.nil ?_
      refine WC.seq ?_
      refine WC.condT' rfl (by first | rfl | (simp; done) | (simp; omega)) ?_
      refine WC.skip ?_
      refine WC.seq ?_
      refine WC.block ?_
      refine WC.seq ?_
      refine WC.region ?_
      refine WL.val (V.move (OV.p rfl)) rfl ?_
      refine WL.val (V.index at24 (OV.p rfl) (OV.p rfl) (fun hc => by first | omega | (simp at hc; omega)) (fun _ => partG ⟨Try.isAgg23, Try.sizeOf23⟩ (vs := [_, _]) rfl ⟨rfl, rfl, trivial⟩)) rfl ?_
      refine WL.alloc (cs := [(.int .i64 0), (.bool false)]) Try.zeroValue23 rfl rfl (fun b7 => ?_)
      refine WL.val (V.assign (OV.p rfl)) rfl ?_
      refine WL.store (cs := [_, _]) Try.sizeOf23 (OV.p rfl) (OV.p rfl) rfl rfl rfl (by repeat (first | exact Upd.here (cs' := [_, _]) rfl rfl | apply Upd.up)) ?_
      refine WL.nil ?_
      refine WC.seq ?_
      refine WC.region ?_
      refine WL.val (V.move (OV.p rfl)) rfl ?_
      refine WL.val (V.move (OV.p rfl)) rfl ?_
      refine WL.val (V.val_eq (v' := .int .i64 (2)) (V.mul (OV.p rfl) (OV.p rfl)) (fun _ => rfl)) rfl ?_
      refine WL.val (V.val_eq (v' := .int .i64 (7)) (V.add (OV.p rfl) (OV.p rfl)) (fun _ => rfl)) rfl ?_
      refine WL.val (V.fieldAddr fo23_0 (OV.p rfl)) rfl ?_
      refine WL.val (V.load Try.isAgg3 (OV.p rfl) (fun _ => by repeat (first | exact Rd.here rfl | apply Rd.up))) rfl ?_
      refine WL.val (V.convI Try.runUnderlying3 Try.runUnderlying5 (OV.p rfl)) rfl ?_
      refine WL.val (V.idxB st36 (OV.p rfl) (OV.p rfl) (fun hc => by first | omega | (simp at hc; omega))) rfl ?_
      refine WL.store (cs := [_]) Try.sizeOf5 (OV.p rfl) (OV.p rfl) rfl rfl rfl (by repeat (first | exact Upd.here (cs' := [_, _, _, _, _, _, _, _, _]) rfl rfl | apply Upd.up)) ?_
      refine WL.nil ?_
      refine WC.seq ?_
      refine WC.region ?_
      refine WL.val (V.fieldAddr fo23_1 (OV.p rfl)) rfl ?_
      refine WL.val (V.load Try.isAgg4 (OV.p rfl) (fun _ => by repeat (first | exact Rd.here rfl | apply Rd.up))) rfl ?_
      refine WL.nil ?_
      refine WC.cond rfl (fun hc2' => ?_) (fun hc2' => ?_)
      · try simp only [decide_eq_true_eq, decide_eq_false_iff_not, Bool.and_eq_true, Bool.or_eq_true, Bool.and_eq_false_iff, Bool.or_eq_false_iff, Bool.not_eq_true', Bool.not_eq_false', Bool.not_eq_true, Bool.not_eq_false, Int.not_lt, Int.not_le] at hc2'
        refine WC.region ?_
        refine WL.val (V.move (OV.p rfl)) rfl ?_
        refine WL.val (V.move (OV.p rfl)) rfl ?_
        refine WL.val (V.val_eq (v' := .int .i64 (2)) (V.mul (OV.p rfl) (OV.p rfl)) (fun _ => rfl)) rfl ?_
        refine WL.val (V.val_eq (v' := .int .i64 (8)) (V.add (OV.p rfl) (OV.p rfl)) (fun _ => rfl)) rfl ?_
        refine WL.val (V.idxB st36 (OV.p rfl) (OV.p rfl) (fun hc => by first | omega | (simp at hc; omega))) rfl ?_
        refine WL.store (cs := [_]) Try.sizeOf5 (OV.p rfl) (OV.p rfl) rfl rfl rfl (by repeat (first | exact Upd.here (cs' := [_, _, _, _, _, _, _, _, _]) rfl rfl | apply Upd.up)) ?_
        refine WL.nil ?_
        refine WC.region ?_
        refine WL.val (V.val_eq (v' := .int .i64 (2)) (V.add (OV.p rfl) (OV.p rfl)) (fun _ => rfl)) rfl ?_
        refine WL.val (V.move (OV.p rfl)) rfl ?_
        refine WL.nil ?_
        refine WC.seq ?_
        refine WC.region ?_
        refine WL.val (V.lss (OV.p rfl) (OV.p rfl)) rfl ?_
        refine WL.nil ?_
        refine WC.seq ?_
        refine WC.condF' rfl (by first | rfl | (simp; done) | (simp; omega)) ?_
        refine WC.exit ?_
        refine WC.seq ?_
        refine WC.region ?_
        refine WL.val (V.move (OV.p rfl)) rfl ?_
        refine WL.val (V.assign (OV.p rfl)) rfl ?_
        refine WL.val (V.assign (OV.p rfl)) rfl ?_
        refine WL.nil ?_
        refine WC.ret ?_
        refine BodyQ.ret (H' := Cells b13 _ (ints .u8 (Slo.mk f t0 g0 t1 g1).bytes) :: F) (Res.tmp2 rfl rfl rfl) (fun w h => ?_) (.inl ⟨hok, b13, rfl, rfl⟩)
        replace h := h.tail.tail.drop2
        refine Sat.cells_eq h ?_
        rw [wrap_u8 (by omega), wrap_u8 (by omega), wrap_u8 (by omega)]
        unfold Slo.bytes
        rw [if_pos hok]
        simp [setL, ints, Slo.b01, *]
      · try simp only [decide_eq_true_eq, decide_eq_false_iff_not, Bool.and_eq_true, Bool.or_eq_true, Bool.and_eq_false_iff, Bool.or_eq_false_iff, Bool.not_eq_true', Bool.not_eq_false', Bool.not_eq_true, Bool.not_eq_false, Int.not_lt, Int.not_le] at hc2'
        refine WC.skip ?_
        refine WC.region ?_
        refine WL.val (V.val_eq (v' := .int .i64 (2)) (V.add (OV.p rfl) (OV.p rfl)) (fun _ => rfl)) rfl ?_
        refine WL.val (V.move (OV.p rfl)) rfl ?_
        refine WL.nil ?_
        refine WC.seq ?_
        refine WC.region ?_
        refine WL.val (V.lss (OV.p rfl) (OV.p rfl)) rfl ?_
        refine WL.nil ?_
        refine WC.seq ?_
        refine WC.condF' rfl (by first | rfl | (simp; done) | (simp; omega)) ?_
        refine WC.exit ?_
        refine WC.seq ?_
        refine WC.region ?_
        refine WL.val (V.move (OV.p rfl)) rfl ?_
        refine WL.val (V.assign (OV.p rfl)) rfl ?_
        refine WL.val (V.assign (OV.p rfl)) rfl ?_
        refine WL.nil ?_
        refine WC.ret ?_
        refine BodyQ.ret (H' := Cells b13 _ (ints .u8 (Slo.mk f t0 g0 t1 g1).bytes) :: F) (Res.tmp2 rfl rfl rfl) (fun w h => ?_) (.inl ⟨hok, b13, rfl, rfl⟩)
        replace h := h.tail.tail.drop2
        refine Sat.cells_eq h ?_
        rw [wrap_u8 (by omega), wrap_u8 (by omega), wrap_u8 (by omega)]
        unfold Slo.bytes
        rw [if_pos hok]
        simp [setL, ints, Slo.b01, *]

namespace Slo
/-- Of bytes. -/
def of (xs : List Int) : Slo := ⟨xs.getD 4 0, xs.getD 5 0, decide (xs.getD 6 0 = 1), xs.getD 7 0, decide (xs.getD 8 0 = 1)⟩
theorem bytes_length {s : Slo} (h : s.ok = true) : s.bytes.length = 9 := by unfold bytes; rw [if_pos h]; rfl
theorem bytes_isb {s : Slo} (h : s.ok = true) : IsBytes s.bytes := by
  have hs := ok_spec h
  unfold bytes
  rw [if_pos h]
  have hb : ∀ b, 0 ≤ b01 b ∧ b01 b < 256 := fun b => by cases b <;> simp [b01]
  have h0 := hb s.g0
  have h1 := hb s.g1
  intro x hx
  simp only [List.mem_cons, List.not_mem_nil, or_false] at hx
  omega
def good (xs : List Int) : Bool := decide (xs.length = 9) && (of xs).ok && decide ((of xs).bytes = xs)
def parse (xs : List Int) : Slo × Int := if good xs then (of xs, 0) else (zero, 4)
end Slo
theorem slots_Parse {A : Option Addr} {m cap : Nat} {xs : List Int} (hx : IsBytes xs) (K : World) (F : List Assn) (hs : Seq K F A m 1 (ints .u8 xs)) :
    Tells Try.prog 23 #[.slice A m cap] K F (.tuple #[(Slo.parse xs).1.v, .int .i64 (Slo.parse xs).2]) := by
  have hl : xs.length = m := by simpa [ints] using hs.len
  refine Does.enter Try.func23 rfl Try.ntmps23 rfl ?_
  simp only [env0, Nat.reduceAdd]
  refine WC.seq ?_
  refine WC.region ?_
  refine WL.alloc (cs := [(.int .i64 0), (.int .i64 0), (.bool false), (.int .i64 0), (.bool false)]) Try.zeroValue26 rfl rfl (fun b2 => ?_)
  refine WL.val (V.assign (OV.p rfl)) rfl ?_
  refine WL.nil ?_
  refine WC.seq ?_
  refine WC.seq ?_
  refine WC.region ?_
  refine WL.val (V.move (OV.p rfl)) rfl ?_
  refine WL.val (V.len (t := 36) Try.runUnderlying36 (OV.p rfl)) rfl ?_
  refine WL.val (V.neq (OV.p rfl) (OV.p rfl)) rfl ?_
  refine WL.nil ?_
  refine WC.cond rfl (fun hc0 => ?_) (fun hc0 => ?_)
  · simp only [decide_eq_true_eq, decide_eq_false_iff_not, Bool.and_eq_true, Bool.or_eq_true, Bool.and_eq_false_iff, Bool.or_eq_false_iff, Bool.not_eq_true', Bool.not_eq_false', Bool.not_eq_true, Bool.not_eq_false, Int.not_lt, Int.not_le] at hc0
    refine WC.seq ?_
    refine WC.region ?_
    refine WL.val (V.build (vs := []) trivial rfl (bld26 )) rfl ?_
    refine WL.store (cs := [_, _, _, _, _]) Try.sizeOf26 (OV.p rfl) (OV.p rfl) rfl rfl rfl (by repeat (first | exact Upd.here (cs' := [_, _, _, _, _]) rfl rfl | apply Upd.up)) ?_
    refine WL.val (V.assign (OV.p rfl)) rfl ?_
    refine WL.nil ?_
    refine WC.ret ?_
    refine BodyQ.ret (H' := F) (Res.two rfl (R1.cellA (vs := [_, _, _, _, _]) rfl ⟨Try.isAgg26, Try.sizeOf26⟩ rfl (by repeat (first | exact Rds.gets ⟨rfl, rfl, rfl, rfl, rfl, trivial⟩ | apply Rds.up))) (R1.tmp rfl)) (fun w h => by repeat (first | exact h | replace h := h.tail)) ⟨?_, rfl⟩
    unfold Slo.parse; rw [if_neg (by simp [Slo.good]; omega)]; rfl
  · simp only [decide_eq_true_eq, decide_eq_false_iff_not, Bool.and_eq_true, Bool.or_eq_true, Bool.and_eq_false_iff, Bool.or_eq_false_iff, Bool.not_eq_true', Bool.not_eq_false', Bool.not_eq_true, Bool.not_eq_false, Int.not_lt, Int.not_le] at hc0
    obtain rfl : m = 9 := by omega
    refine WC.skip ?_
    refine WC.seq ?_
    refine WC.regionH (by kernel_rfl) ?_
    refine WA.take 0 (fun w h => h) rfl (by kernel_rfl) (by kernel_rfl) (by kernel_rfl) (fun _ _ _ h => h) (V.move (OV.p rfl)) rfl ?_
    refine WA.take 1 (fun w h => by repeat (first | exact h | replace h := h.tail)) rfl (by kernel_rfl) (by kernel_rfl) (by kernel_rfl) (fun _ _ _ h => h) (V.idxS st36 (OV.p rfl) (OV.p rfl) (fun hc => by first | omega | (simp at hc; omega)) (fun hc => by repeat (first | exact Seq.int_rd hs (by first | omega | (simp at hc; omega)) | apply Rd.up))) rfl ?_
    refine WA.take 2 (fun w h => by repeat (first | exact h | replace h := h.tail)) rfl (by kernel_rfl) (by kernel_rfl) (by kernel_rfl) (fun _ _ _ h => h) (V.load Try.isAgg5 (OV.p rfl) (fun hc => by repeat (first | exact Seq.int_rd hs (by first | omega | (simp at hc; omega)) | apply Rd.up))) rfl ?_
    refine WA.take 3 (fun w h => by repeat (first | exact h | replace h := h.tail)) rfl (by kernel_rfl) (by kernel_rfl) (by kernel_rfl) (fun _ _ _ h => h) (V.convW Try.runUnderlying5 Try.runUnderlying3 (OV.p rfl) (fun _ => wrap_i64 (IsBytes.wide hx _))) rfl ?_
    refine WA.take 4 (fun w h => by repeat (first | exact h | replace h := h.tail)) rfl (by kernel_rfl) (by kernel_rfl) (by kernel_rfl) (fun _ _ _ h => h) (V.move (OV.p rfl)) rfl ?_
    refine WA.take 5 (fun w h => by repeat (first | exact h | replace h := h.tail)) rfl (by kernel_rfl) (by kernel_rfl) (by kernel_rfl) (fun _ _ _ h => h) (V.idxS st36 (OV.p rfl) (OV.p rfl) (fun hc => by first | omega | (simp at hc; omega)) (fun hc => by repeat (first | exact Seq.int_rd hs (by first | omega | (simp at hc; omega)) | apply Rd.up))) rfl ?_
    refine WA.take 6 (fun w h => by repeat (first | exact h | replace h := h.tail)) rfl (by kernel_rfl) (by kernel_rfl) (by kernel_rfl) (fun _ _ _ h => h) (V.load Try.isAgg5 (OV.p rfl) (fun hc => by repeat (first | exact Seq.int_rd hs (by first | omega | (simp at hc; omega)) | apply Rd.up))) rfl ?_
    refine WA.take 7 (fun w h => by repeat (first | exact h | replace h := h.tail)) rfl (by kernel_rfl) (by kernel_rfl) (by kernel_rfl) (fun _ _ _ h => h) (V.convW Try.runUnderlying5 Try.runUnderlying3 (OV.p rfl) (fun _ => wrap_i64 (IsBytes.wide hx _))) rfl ?_
    refine WA.take 8 (fun w h => by repeat (first | exact h | replace h := h.tail)) rfl (by kernel_rfl) (by kernel_rfl) (by kernel_rfl) (fun _ _ _ h => h) (V.move (OV.p rfl)) rfl ?_
    refine WA.take 9 (fun w h => by repeat (first | exact h | replace h := h.tail)) rfl (by kernel_rfl) (by kernel_rfl) (by kernel_rfl) (fun _ _ _ h => h) (V.idxS st36 (OV.p rfl) (OV.p rfl) (fun hc => by first | omega | (simp at hc; omega)) (fun hc => by repeat (first | exact Seq.int_rd hs (by first | omega | (simp at hc; omega)) | apply Rd.up))) rfl ?_
    refine WA.take 10 (fun w h => by repeat (first | exact h | replace h := h.tail)) rfl (by kernel_rfl) (by kernel_rfl) (by kernel_rfl) (fun _ _ _ h => h) (V.load Try.isAgg5 (OV.p rfl) (fun hc => by repeat (first | exact Seq.int_rd hs (by first | omega | (simp at hc; omega)) | apply Rd.up))) rfl ?_
    refine WA.take 11 (fun w h => by repeat (first | exact h | replace h := h.tail)) rfl (by kernel_rfl) (by kernel_rfl) (by kernel_rfl) (fun _ _ _ h => h) (V.eql (OV.p rfl) (OV.p rfl)) rfl ?_
    refine WA.take 12 (fun w h => by repeat (first | exact h | replace h := h.tail)) rfl (by kernel_rfl) (by kernel_rfl) (by kernel_rfl) (fun _ _ _ h => h) (V.build (vs := [(0, _), (1, _)]) ⟨OV.p rfl, OV.p rfl, trivial⟩ rfl (bld23_0_1 _ _)) rfl ?_
    refine WA.take 13 (fun w h => by repeat (first | exact h | replace h := h.tail)) rfl (by kernel_rfl) (by kernel_rfl) (by kernel_rfl) (fun _ _ _ h => h) (V.move (OV.p rfl)) rfl ?_
    refine WA.take 14 (fun w h => by repeat (first | exact h | replace h := h.tail)) rfl (by kernel_rfl) (by kernel_rfl) (by kernel_rfl) (fun _ _ _ h => h) (V.idxS st36 (OV.p rfl) (OV.p rfl) (fun hc => by first | omega | (simp at hc; omega)) (fun hc => by repeat (first | exact Seq.int_rd hs (by first | omega | (simp at hc; omega)) | apply Rd.up))) rfl ?_
    refine WA.take 15 (fun w h => by repeat (first | exact h | replace h := h.tail)) rfl (by kernel_rfl) (by kernel_rfl) (by kernel_rfl) (fun _ _ _ h => h) (V.load Try.isAgg5 (OV.p rfl) (fun hc => by repeat (first | exact Seq.int_rd hs (by first | omega | (simp at hc; omega)) | apply Rd.up))) rfl ?_
    refine WA.take 16 (fun w h => by repeat (first | exact h | replace h := h.tail)) rfl (by kernel_rfl) (by kernel_rfl) (by kernel_rfl) (fun _ _ _ h => h) (V.convW Try.runUnderlying5 Try.runUnderlying3 (OV.p rfl) (fun _ => wrap_i64 (IsBytes.wide hx _))) rfl ?_
    refine WA.take 17 (fun w h => by repeat (first | exact h | replace h := h.tail)) rfl (by kernel_rfl) (by kernel_rfl) (by kernel_rfl) (fun _ _ _ h => h) (V.move (OV.p rfl)) rfl ?_
    refine WA.take 18 (fun w h => by repeat (first | exact h | replace h := h.tail)) rfl (by kernel_rfl) (by kernel_rfl) (by kernel_rfl) (fun _ _ _ h => h) (V.idxS st36 (OV.p rfl) (OV.p rfl) (fun hc => by first | omega | (simp at hc; omega)) (fun hc => by repeat (first | exact Seq.int_rd hs (by first | omega | (simp at hc; omega)) | apply Rd.up))) rfl ?_
    refine WA.take 19 (fun w h => by repeat (first | exact h | replace h := h.tail)) rfl (by kernel_rfl) (by kernel_rfl) (by kernel_rfl) (fun _ _ _ h => h) (V.load Try.isAgg5 (OV.p rfl) (fun hc => by repeat (first | exact Seq.int_rd hs (by first | omega | (simp at hc; omega)) | apply Rd.up))) rfl ?_
    refine WA.take 20 (fun w h => by repeat (first | exact h | replace h := h.tail)) rfl (by kernel_rfl) (by kernel_rfl) (by kernel_rfl) (fun _ _ _ h => h) (V.eql (OV.p rfl) (OV.p rfl)) rfl ?_
    refine WA.take 21 (fun w h => by repeat (first | exact h | replace h := h.tail)) rfl (by kernel_rfl) (by kernel_rfl) (by kernel_rfl) (fun _ _ _ h => h) (V.build (vs := [(0, _), (1, _)]) ⟨OV.p rfl, OV.p rfl, trivial⟩ rfl (bld23_0_1 _ _)) rfl ?_
    refine WA.take 22 (fun w h => by repeat (first | exact h | replace h := h.tail)) rfl (by kernel_rfl) (by kernel_rfl) (by kernel_rfl) (fun _ _ _ h => h) (V.build (vs := [(0, _), (1, _)]) ⟨OV.p rfl, OV.p rfl, trivial⟩ rfl (bld24_0_1 _ _ _ _)) rfl ?_
    refine WA.take 23 (fun w h => by repeat (first | exact h | replace h := h.tail)) rfl (by kernel_rfl) (by kernel_rfl) (by kernel_rfl) (fun _ _ _ h => h) (V.build (vs := [(0, _), (1, _)]) ⟨OV.p rfl, OV.p rfl, trivial⟩ rfl (bld26_0_1 _ _ _ _ _)) rfl ?_
    refine WA.one (i := 24) (fun w h => by repeat (first | exact h | replace h := h.tail)) (by kernel_rfl) rfl ?_
    refine WL.alloc (cs := [(.int .i64 0), (.int .i64 0), (.bool false), (.int .i64 0), (.bool false)]) Try.zeroValue26 rfl rfl (fun b4 => ?_)
    refine WL.nil ?_
    refine WA.one (i := 25) (fun w h => by repeat (first | exact h | replace h := h.tail)) (by kernel_rfl) rfl ?_
    refine WL.store (cs := [_, _, _, _, _]) Try.sizeOf26 (OV.p rfl) (OV.p rfl) rfl rfl rfl (by repeat (first | exact Upd.here (cs' := [_, _, _, _, _]) rfl rfl | apply Upd.up)) ?_
    refine WL.nil ?_
    refine WA.done (by kernel_rfl) (fun w h => by repeat (first | exact h | replace h := h.tail)) ?_
    refine WC.seq ?_
    refine WC.seq ?_
    refine WC.region ?_
    refine WL.val (V.loadA (vs := [_, _, _, _, _]) ⟨Try.isAgg26, Try.sizeOf26⟩ (OV.p rfl) rfl (fun _ => by repeat (first | exact Rds.gets ⟨rfl, rfl, rfl, rfl, rfl, trivial⟩ | apply Rds.up))) rfl ?_
    refine WL.call (vs := [_]) Try.call13 ⟨OV.p rfl, trivial⟩ (slots_Bytes (Slo.of xs) _ _) rfl ?_
    rintro v H' (⟨hok, bb, rfl, rfl⟩ | ⟨hok, rfl, rfl⟩)
    all_goals
      refine WL.val (V.move (OV.p rfl)) rfl ?_
      refine WL.val (V.extract (OV.p rfl) rfl) rfl ?_
      refine WL.val (V.extract (OV.p rfl) rfl) rfl ?_
      refine WL.val (V.assign (OV.p rfl)) rfl ?_
      refine WL.val (V.assign (OV.p rfl)) rfl ?_
      refine WL.nil ?_
      refine WC.seq ?_
      refine WC.region ?_
      refine WL.val (V.move (OV.p rfl)) rfl ?_
      refine WL.val (V.neq (OV.p rfl) (OV.p rfl)) rfl ?_
      refine WL.val (V.move (OV.p rfl)) rfl ?_
      refine WL.valG (oj := _) rfl rfl rfl GC.f (V.move (OV.p rfl)) rfl ?_
      refine WL.valG (oj := _) rfl rfl rfl GC.f (V.bytesStr Try.underlying36 Try.underlying5 Try.underlying9 (OV.g rfl id) (fun hc => by first | exact Seq.nilI | exact Seq.allI (Slo.bytes_length hok))) rfl ?_
      refine WL.valG (oj := _) rfl rfl rfl GC.f (V.move (OV.p rfl)) rfl ?_
      refine WL.valG (oj := _) rfl rfl rfl GC.f (V.bytesStr Try.underlying36 Try.underlying5 Try.underlying9 (OV.g rfl id) (fun hc => by repeat (first | exact Seq.nilI | exact Seq.allI (by simp) | assumption | apply Seq.up))) rfl ?_
      refine WL.valG (oj := _) rfl rfl rfl GC.f (V.neqS (OV.g rfl id) (OV.g rfl id)) rfl ?_
      refine WL.val (V.pickOr (OV.p rfl) (OV.g rfl id)) rfl ?_
      refine WL.nil ?_
      refine WC.cond rfl (fun hc1 => ?_) (fun hc1 => ?_)
      · skip
        have hng : Slo.good xs = false := by first | (simp [Slo.good, hok]; done) | (rw [str_eq (Slo.bytes_isb hok) hx] at hc1; simp at hc1; simp [Slo.good, hc1])
        refine WC.seq ?_
        refine WC.region ?_
        refine WL.val (V.build (vs := []) trivial rfl (bld26 )) rfl ?_
        refine WL.store (cs := [_, _, _, _, _]) Try.sizeOf26 (OV.p rfl) (OV.p rfl) rfl rfl rfl (by repeat (first | exact Upd.here (cs' := [_, _, _, _, _]) rfl rfl | apply Upd.up)) ?_
        refine WL.val (V.assign (OV.p rfl)) rfl ?_
        refine WL.nil ?_
        refine WC.ret ?_
        refine BodyQ.ret (H' := F) (Res.two rfl (R1.cellA (vs := [_, _, _, _, _]) rfl ⟨Try.isAgg26, Try.sizeOf26⟩ rfl (by repeat (first | exact Rds.gets ⟨rfl, rfl, rfl, rfl, rfl, trivial⟩ | apply Rds.up))) (R1.tmp rfl)) (fun w h => by repeat (first | exact h | replace h := h.tail)) ⟨?_, rfl⟩
        unfold Slo.parse; rw [if_neg (by simp [hng])]; rfl
      · skip
        have hg : Slo.good xs = true := by first | (exfalso; revert hc1; simp; done) | (rw [str_eq (Slo.bytes_isb hok) hx] at hc1; simp at hc1; simp [Slo.good, hok, hl, hc1])
        refine WC.skip ?_
        refine WC.seq ?_
        refine WC.region ?_
        refine WL.val (V.loadA (vs := [_, _, _, _, _]) ⟨Try.isAgg26, Try.sizeOf26⟩ (OV.p rfl) rfl (fun _ => by repeat (first | exact Rds.gets ⟨rfl, rfl, rfl, rfl, rfl, trivial⟩ | apply Rds.up))) rfl ?_
        refine WL.store (cs := [_, _, _, _, _]) Try.sizeOf26 (OV.p rfl) (OV.p rfl) rfl rfl rfl (by repeat (first | exact Upd.here (cs' := [_, _, _, _, _]) rfl rfl | apply Upd.up)) ?_
        refine WL.val (V.assign (OV.p rfl)) rfl ?_
        refine WL.nil ?_
        refine WC.ret ?_
        refine BodyQ.ret (H' := F) (Res.two rfl (R1.cellA (vs := [_, _, _, _, _]) rfl ⟨Try.isAgg26, Try.sizeOf26⟩ rfl (by repeat (first | exact Rds.gets ⟨rfl, rfl, rfl, rfl, rfl, trivial⟩ | apply Rds.up))) (R1.tmp rfl)) (fun w h => by repeat (first | exact h | replace h := h.tail)) ⟨?_, rfl⟩
        unfold Slo.parse; rw [if_pos hg]; rfl
end Go.Proofs.Ytcgbmifpmaembaa
