import Derived.Test.YtcedojacbhnbiaaGreatP5
import Derived.Test.YtcedojacbhnbiaaGreatP2
namespace Go.Proofs.YtcedojacbhnbiaaGreat
open Go.Sl Go.RowKit
set_option linter.unusedVariables false
set_option linter.unusedSimpArgs false
set_option maxRecDepth 20000
structure bW where
  (f t0 : Int) (g0 : Bool) (t1 : Int) (g1 : Bool)
  deriving DecidableEq
namespace bW
abbrev v (s : bW) : Value := .agg #[.int .i64 s.f, .int .i64 s.t0, .bool s.g0, .int .i64 s.t1, .bool s.g1]
def zero : bW := ⟨0, 0, false, 0, false⟩
def ok (s : bW) : Bool := (decide (s.f = 0) || decide (s.f = 1)) && decide (0 ≤ s.t0) && decide (s.t0 ≤ 7) && decide (0 ≤ s.t1) && decide (s.t1 ≤ 7)
def GJ (s : bW) : Int := if s.ok then 0 else 1
def LD (s : bW) (slot : Int) : Int := if s.ok && (decide (slot = 0) || decide (slot = 1)) then 0 else 1
def t (s : bW) (slot : Int) : Int := if slot = 0 then s.t0 else s.t1
def g (s : bW) (slot : Int) : Bool := if slot = 0 then s.g0 else s.g1
def put (s : bW) (slot first t : Int) (g : Bool) : bW := if slot = 0 then ⟨first, t, g, s.t1, s.g1⟩ else ⟨first, s.t0, s.g0, t, g⟩
def may (s : bW) (slot : Int) : Bool := s.g slot || decide (0 < s.t slot)
def confirm (s : bW) (slot : Int) : bW × Int := if s.LD slot ≠ 0 then (zero, 1) else (s.put slot slot 0 true, 0)
def order (s : bW) : List Int := if s.ok then [s.f, 1 - s.f].filter s.may else []
def b01 (b : Bool) : Int := if b then 1 else 0
def bytes (s : bW) : List Int := if s.ok then [115, 108, 111, 116, s.f, s.t0, b01 s.g0, s.t1, b01 s.g1] else []
theorem Nq {s : bW} {slot : Int} (h : s.LD slot = 0) : s.ok = true ∧ (slot = 0 ∨ slot = 1) := by
  unfold LD at h
  split at h
  · rename_i h'; simp at h'; exact h'
  · cases h
theorem Kh {s : bW} (h : s.GJ = 0) : s.ok = true := by
  unfold GJ at h
  split at h
  · assumption
  · cases h
theorem wS {s : bW} (h : s.ok = true) : (s.f = 0 ∨ s.f = 1) ∧ 0 ≤ s.t0 ∧ s.t0 ≤ 7 ∧ 0 ≤ s.t1 ∧ s.t1 ≤ 7 := by simp [ok] at h; omega
end bW
abbrev sl (t : Int) (g : Bool) : Value := .agg #[.int .i64 t, .bool g]
theorem uN (t : Int) (g : Bool) (K : World) (F : List au) : aG Tryz.prog 128 #[sl t g] K F (.bool (g || decide (0 < t))) := by
  refine Does.enter Tryz.func128 rfl Tryz.ntmps128 rfl ?_
  simp only [aJ, Nat.reduceAdd]
  refine WC.sr ?_
  refine WL.box (cs := [_, _]) (OV.p rfl) rfl rfl (fun b1 => ?_)
  refine WL.sg rfl rfl (WL.nil (WC.sr (WL.val (V.fieldAddr Cr (OV.p rfl)) rfl (WL.ld Tryz.isAgg4 rfl rfl ?_))))
  refine WL.mv rfl rfl (WL.ah (oj := _) rfl rfl rfl GC.f (V.fieldAddr oU (OV.p rfl)) rfl ?_)
  refine WL.ah (oj := _) rfl rfl rfl GC.f (V.load Tryz.isAgg3 (OV.g rfl id) (fun _ => by repeat (first | exact Rd.here rfl | apply Rd.up))) rfl ?_
  refine WL.ah (oj := _) rfl rfl rfl GC.f (V.gtr (OV.g rfl id) (OV.p rfl)) rfl (WL.val (V.aS (OV.p rfl) (OV.g rfl id)) rfl (WL.sg rfl rfl (WL.nil (WC.ret ?_))))
  exact aj.ret (H' := F) (aL.tmp rfl rfl) (fun w h => by repeat (first | exact h | replace h := h.tail)) ⟨rfl, rfl⟩
theorem oP (s : bW) (K : World) (F : List au) : aG Tryz.prog 127 #[s.v] K F (.int .i64 s.GJ) := by
  refine Does.enter Tryz.func127 rfl Tryz.ntmps127 rfl ?_
  simp only [aJ, Nat.reduceAdd]
  refine WC.sr ?_
  refine WL.box (cs := [_, _, _, _, _]) (OV.p rfl) rfl rfl (fun b1 => ?_)
  refine WL.sg rfl rfl (WL.nil (WC.seq (WC.sr (WL.val (V.fieldAddr uT (OV.p rfl)) rfl (WL.ld Tryz.isAgg3 rfl rfl ?_)))))
  refine WL.val (V.neq (OV.p rfl) (OV.p rfl)) rfl (WL.mv rfl rfl (WL.ah (oj := _) rfl rfl rfl GC.t (V.fieldAddr uT (OV.p rfl)) rfl ?_))
  refine WL.ah (oj := _) rfl rfl rfl GC.t (V.load Tryz.isAgg3 (OV.g rfl id) (fun _ => by repeat (first | exact Rd.here rfl | apply Rd.up))) rfl ?_
  refine WL.ah (oj := _) rfl rfl rfl GC.t (V.neq (OV.g rfl id) (OV.p rfl)) rfl (WL.val (V.aD (OV.p rfl) (OV.g rfl id)) rfl (WL.nil ?_))
  refine WC.cond rfl (fun hc0 => ?_) (fun hc0 => ?_)
  ·try simp only [decide_eq_true_eq, decide_eq_false_iff_not, Bool.and_eq_true, Bool.or_eq_true, Bool.and_eq_false_iff, Bool.or_eq_false_iff, Bool.not_eq_true', Bool.not_eq_false', Bool.not_eq_true, Bool.not_eq_false, Int.not_lt, Int.not_le] at hc0
   refine WC.sr (WL.sg rfl rfl (WL.nil (WC.ret ?_)))
   refine aj.ret (H' := F) (aL.tmp rfl rfl) (fun w h => by repeat (first | exact h | replace h := h.tail)) ⟨?_, rfl⟩
   congr 1
   unfold bW.GJ bW.ok
   first | rw [if_pos (by simp; omega)] | rw [if_neg (by simp; omega)]
  ·try simp only [decide_eq_true_eq, decide_eq_false_iff_not, Bool.and_eq_true, Bool.or_eq_true, Bool.and_eq_false_iff, Bool.or_eq_false_iff, Bool.not_eq_true', Bool.not_eq_false', Bool.not_eq_true, Bool.not_eq_false, Int.not_lt, Int.not_le] at hc0
   refine WC.skip (WC.seq (WC.sr (WL.val (V.fieldAddr u7 (OV.p rfl)) rfl ?_)))
   refine WL.val (V.aU (vs := [_, _, _, _]) ⟨Tryz.isAgg56, Tryz.sizeOf56⟩ (OV.p rfl) rfl (fun _ => by repeat (first | exact aT.gets ⟨rfl, rfl, rfl, rfl, trivial⟩ | apply aT.up))) rfl ?_
   refine WL.mv rfl rfl (WL.nil (WC.block (WC.rounds 3 (WC.sr (WL.val (V.lss (OV.p rfl) (OV.p rfl)) rfl (WL.nil (WC.seq ?_)))))))
   refine WC.bU rfl (by first | rfl | (simp; done) | (simp; omega)) ?_
   refine WC.skip (WC.seq (WC.block (WC.sr ?_)))
   refine WL.val (V.index Aa (OV.p rfl) (OV.p rfl) (fun hc => by first | omega | (simp at hc; omega)) (fun _ => Ee ⟨Tryz.isAgg55, Tryz.sizeOf55⟩ (vs := [_, _]) rfl ⟨rfl, rfl, trivial⟩)) rfl ?_
   refine WL.alloc (cs := [(.int .i64 0), (.bool false)]) Tryz.zeroValue55 rfl rfl (fun b4 => ?_)
   refine WL.store (cs := [_, _]) Tryz.sizeOf55 (OV.p rfl) (OV.p rfl) rfl rfl rfl (by repeat (first | exact aQ.here (cs' := [_, _]) rfl rfl | apply aQ.up)) ?_
   refine WL.nil (WC.sr (WL.val (V.fieldAddr oU (OV.p rfl)) rfl (WL.ld Tryz.isAgg3 rfl rfl ?_)))
   refine WL.val (V.lss (OV.p rfl) (OV.p rfl)) rfl (WL.mv rfl rfl (WL.ah (oj := _) rfl rfl rfl GC.f (V.fieldAddr oU (OV.p rfl)) rfl ?_))
   refine WL.ah (oj := _) rfl rfl rfl GC.f (V.load Tryz.isAgg3 (OV.g rfl id) (fun _ => by repeat (first | exact Rd.here rfl | apply Rd.up))) rfl ?_
   refine WL.ah (oj := _) rfl rfl rfl GC.f (V.gtr (OV.g rfl id) (OV.p rfl)) rfl (WL.val (V.aS (OV.p rfl) (OV.g rfl id)) rfl (WL.nil ?_))
   refine WC.cond rfl (fun hc2 => ?_) (fun hc2 => ?_)
   ·try simp only [decide_eq_true_eq, decide_eq_false_iff_not, Bool.and_eq_true, Bool.or_eq_true, Bool.and_eq_false_iff, Bool.or_eq_false_iff, Bool.not_eq_true', Bool.not_eq_false', Bool.not_eq_true, Bool.not_eq_false, Int.not_lt, Int.not_le] at hc2
    refine WC.sr (WL.sg rfl rfl (WL.nil (WC.ret ?_)))
    refine aj.ret (H' := F) (aL.tmp rfl rfl) (fun w h => by repeat (first | exact h | replace h := h.tail)) ⟨?_, rfl⟩
    congr 1
    unfold bW.GJ bW.ok
    first | rw [if_pos (by simp; omega)] | rw [if_neg (by simp; omega)]
   ·try simp only [decide_eq_true_eq, decide_eq_false_iff_not, Bool.and_eq_true, Bool.or_eq_true, Bool.and_eq_false_iff, Bool.or_eq_false_iff, Bool.not_eq_true', Bool.not_eq_false', Bool.not_eq_true, Bool.not_eq_false, Int.not_lt, Int.not_le] at hc2
    refine WC.skip (WC.region ?_)
    refine WL.val (V.aA (v' := .int .i64 (1)) (V.add (OV.p rfl) (OV.p rfl)) (fun _ => rfl)) rfl ?_
    refine WL.mv rfl rfl (WL.nil (WC.sr (WL.val (V.lss (OV.p rfl) (OV.p rfl)) rfl (WL.nil (WC.seq ?_)))))
    refine WC.bU rfl (by first | rfl | (simp; done) | (simp; omega)) ?_
    refine WC.skip (WC.seq (WC.block (WC.sr ?_)))
    refine WL.val (V.index Aa (OV.p rfl) (OV.p rfl) (fun hc => by first | omega | (simp at hc; omega)) (fun _ => Ee ⟨Tryz.isAgg55, Tryz.sizeOf55⟩ (vs := [_, _]) rfl ⟨rfl, rfl, trivial⟩)) rfl ?_
    refine WL.alloc (cs := [(.int .i64 0), (.bool false)]) Tryz.zeroValue55 rfl rfl (fun b4 => ?_)
    refine WL.store (cs := [_, _]) Tryz.sizeOf55 (OV.p rfl) (OV.p rfl) rfl rfl rfl (by repeat (first | exact aQ.here (cs' := [_, _]) rfl rfl | apply aQ.up)) ?_
    refine WL.nil (WC.sr (WL.val (V.fieldAddr oU (OV.p rfl)) rfl (WL.ld Tryz.isAgg3 rfl rfl ?_)))
    refine WL.val (V.lss (OV.p rfl) (OV.p rfl)) rfl (WL.mv rfl rfl (WL.ah (oj := _) rfl rfl rfl GC.f (V.fieldAddr oU (OV.p rfl)) rfl ?_))
    refine WL.ah (oj := _) rfl rfl rfl GC.f (V.load Tryz.isAgg3 (OV.g rfl id) (fun _ => by repeat (first | exact Rd.here rfl | apply Rd.up))) rfl ?_
    refine WL.ah (oj := _) rfl rfl rfl GC.f (V.gtr (OV.g rfl id) (OV.p rfl)) rfl (WL.val (V.aS (OV.p rfl) (OV.g rfl id)) rfl (WL.nil ?_))
    refine WC.cond rfl (fun hc2' => ?_) (fun hc2' => ?_)
    ·try simp only [decide_eq_true_eq, decide_eq_false_iff_not, Bool.and_eq_true, Bool.or_eq_true, Bool.and_eq_false_iff, Bool.or_eq_false_iff, Bool.not_eq_true', Bool.not_eq_false', Bool.not_eq_true, Bool.not_eq_false, Int.not_lt, Int.not_le] at hc2'
     refine WC.sr (WL.sg rfl rfl (WL.nil (WC.ret ?_)))
     refine aj.ret (H' := F) (aL.tmp rfl rfl) (fun w h => by repeat (first | exact h | replace h := h.tail)) ⟨?_, rfl⟩
     congr 1
     unfold bW.GJ bW.ok
     first | rw [if_pos (by simp; omega)] | rw [if_neg (by simp; omega)]
    ·try simp only [decide_eq_true_eq, decide_eq_false_iff_not, Bool.and_eq_true, Bool.or_eq_true, Bool.and_eq_false_iff, Bool.or_eq_false_iff, Bool.not_eq_true', Bool.not_eq_false', Bool.not_eq_true, Bool.not_eq_false, Int.not_lt, Int.not_le] at hc2'
     refine WC.skip (WC.region ?_)
     refine WL.val (V.aA (v' := .int .i64 (2)) (V.add (OV.p rfl) (OV.p rfl)) (fun _ => rfl)) rfl ?_
     refine WL.mv rfl rfl (WL.nil (WC.sr (WL.val (V.lss (OV.p rfl) (OV.p rfl)) rfl (WL.nil (WC.seq ?_)))))
     refine WC.aM rfl (by first | rfl | (simp; done) | (simp; omega)) ?_
     refine WC.exit (WC.sr (WL.sg rfl rfl (WL.nil (WC.ret ?_))))
     refine aj.ret (H' := F) (aL.tmp rfl rfl) (fun w h => by repeat (first | exact h | replace h := h.tail)) ⟨?_, rfl⟩
     congr 1
     unfold bW.GJ bW.ok
     first | rw [if_pos (by simp; omega)] | rw [if_neg (by simp; omega)]
theorem EW (K : World) (F : List au) : aG Tryz.prog 89 #[] K F bW.zero.v := by
  refine Does.enter Tryz.func89 rfl Tryz.ntmps89 rfl ?_
  simp only [aJ, Nat.reduceAdd]
  refine WC.sr ?_
  refine WL.alloc (cs := [(.int .i64 0), (.int .i64 0), (.bool false), (.int .i64 0), (.bool false)]) Tryz.zeroValue58 rfl rfl (fun b0 => ?_)
  refine WL.nil (WC.sr (WL.val (V.build (vs := []) trivial rfl (zl )) rfl ?_))
  refine WL.store (cs := [_, _, _, _, _]) Tryz.sizeOf58 (OV.p rfl) (OV.p rfl) rfl rfl rfl (by repeat (first | exact aQ.here (cs' := [_, _, _, _, _]) rfl rfl | apply aQ.up)) ?_
  refine WL.nil (WC.ret ?_)
  exact aj.ret (H' := F) (aL.one rfl (R1.gF (vs := [_, _, _, _, _]) rfl ⟨Tryz.isAgg58, Tryz.sizeOf58⟩ rfl (by repeat (first | exact aT.gets ⟨rfl, rfl, rfl, rfl, rfl, trivial⟩ | apply aT.up)))) (fun w h => by repeat (first | exact h | replace h := h.tail)) ⟨rfl, rfl⟩
theorem Ej (s : bW) (slot : Int) (K : World) (F : List au) : aG Tryz.prog 129 #[s.v, .int .i64 slot] K F (.int .i64 (s.LD slot)) := by
  refine Does.enter Tryz.func129 rfl Tryz.ntmps129 rfl ?_
  simp only [aJ, Nat.reduceAdd]
  refine WC.sr ?_
  refine WL.box (cs := [_, _, _, _, _]) (OV.p rfl) rfl rfl (fun b2 => ?_)
  refine WL.sg rfl rfl (WL.nil (WC.seq (WC.sr ?_)))
  refine WL.val (V.aU (vs := [_, _, _, _, _]) ⟨Tryz.isAgg58, Tryz.sizeOf58⟩ (OV.p rfl) rfl (fun _ => by repeat (first | exact aT.gets ⟨rfl, rfl, rfl, rfl, rfl, trivial⟩ | apply aT.up))) rfl ?_
  refine WL.call (vs := [_]) Tryz.call127 ⟨OV.p rfl, trivial⟩ (oP s _ _) rfl ?_
  rintro _ H0 ⟨rfl, h0⟩
  subst H0
  refine WL.sg rfl rfl (WL.nil (WC.sr (WL.mv rfl rfl (WL.val (V.neq (OV.p rfl) (OV.p rfl)) rfl (WL.mv rfl rfl (WL.ah (oj := _) rfl rfl rfl GC.f (V.move (OV.p rfl)) rfl (WL.ah (oj := _) rfl rfl rfl GC.f (V.neq (OV.g rfl id) (OV.p rfl)) rfl (WL.ah (oj := _) rfl rfl rfl GC.f (V.move (OV.g rfl id)) rfl (WL.ah (oj := _) rfl rfl rfl GC.ct (V.move (OV.p rfl)) rfl (WL.ah (oj := _) rfl rfl rfl GC.ct (V.neq (OV.g rfl id) (OV.p rfl)) rfl (WL.ah (oj := _) rfl rfl rfl GC.f (V.aD (OV.g rfl id) (OV.g rfl id)) rfl (WL.val (V.aS (OV.p rfl) (OV.g rfl id)) rfl (WL.nil ?_)))))))))))))
  refine WC.cond rfl (fun hc0 => ?_) (fun hc0 => ?_)
  ·try simp only [decide_eq_true_eq, decide_eq_false_iff_not, Bool.and_eq_true, Bool.or_eq_true, Bool.and_eq_false_iff, Bool.or_eq_false_iff, Bool.not_eq_true', Bool.not_eq_false', Bool.not_eq_true, Bool.not_eq_false, Int.not_lt, Int.not_le] at hc0
   refine WC.sr (WL.sg rfl rfl (WL.nil (WC.ret ?_)))
   refine aj.ret (H' := F) (aL.tmp rfl rfl) (fun w h => by repeat (first | exact h | replace h := h.tail)) ⟨?_, rfl⟩
   congr 1
   unfold bW.LD
   cases hok : s.ok <;> simp [bW.GJ, hok] at hc0 ⊢ <;> omega
  ·try simp only [decide_eq_true_eq, decide_eq_false_iff_not, Bool.and_eq_true, Bool.or_eq_true, Bool.and_eq_false_iff, Bool.or_eq_false_iff, Bool.not_eq_true', Bool.not_eq_false', Bool.not_eq_true, Bool.not_eq_false, Int.not_lt, Int.not_le] at hc0
   refine WC.skip (WC.sr (WL.sg rfl rfl (WL.nil (WC.ret ?_))))
   refine aj.ret (H' := F) (aL.tmp rfl rfl) (fun w h => by repeat (first | exact h | replace h := h.tail)) ⟨?_, rfl⟩
   congr 1
   unfold bW.LD
   cases hok : s.ok <;> simp [bW.GJ, hok] at hc0 ⊢ <;> omega
theorem FT (s : bW) (slot first t : Int) (g : Bool) (h : slot = 0 ∨ slot = 1) (K : World) (F : List au) :
    aG Tryz.prog 130 #[s.v, .int .i64 slot, .int .i64 first, sl t g] K F (.tuple #[(s.put slot first t g).v, .int .i64 0]) := by
  rcases h with rfl | rfl
  all_goals
    refine Does.enter Tryz.func130 rfl Tryz.ntmps130 rfl ?_
    simp only [aJ, Nat.reduceAdd]
    refine WC.sr ?_
    refine WL.box (cs := [_, _, _, _, _]) (OV.p rfl) rfl rfl (fun b4 => ?_)
    refine WL.box (cs := [_, _]) (OV.p rfl) rfl rfl (fun b7 => ?_)
    refine WL.alloc (cs := [(.int .i64 0), (.int .i64 0), (.bool false), (.int .i64 0), (.bool false)]) Tryz.zeroValue58 rfl rfl (fun b8 => ?_)
    refine WL.sg rfl rfl (WL.nil (WC.seq ?_))
    refine WC.dY F (by kernel_rfl) ?_
    refine WA.t 0 rfl (V.move (OV.p rfl)) (WA.t 1 rfl (V.move (OV.p rfl)) (WA.t 3 rfl (V.fieldAddr uT (OV.p rfl)) (WA.t 5 rfl (V.fieldAddr u7 (OV.p rfl)) ?_)))
    refine WA.two (i := 2) (j := 4) (fun w h => by repeat (first | exact h | replace h := h.tail)) (by kernel_rfl) rfl rfl ?_ ?_
    ·refine WL.val (V.aU (vs := [_, _]) ⟨Tryz.isAgg55, Tryz.sizeOf55⟩ (OV.p rfl) rfl (fun _ => by repeat (first | exact aT.gets ⟨rfl, rfl, trivial⟩ | apply aT.up))) rfl ?_
     refine WL.nil (WA.o 4 rfl ?_)
     refine WL.store (cs := [_]) Tryz.sizeOf3 (OV.p rfl) (OV.p rfl) rfl rfl rfl (by repeat (first | exact aQ.here (cs' := [_, _, _, _, _]) rfl rfl | apply aQ.up)) ?_
     refine WL.nil ?_
     refine WA.t 6 rfl (V.J8 Aa (OV.p rfl) (OV.p rfl) (fun hc => by first | omega | (simp at hc; omega))) ?_
     refine WA.o 7 rfl ?_
     refine WL.store (cs := [_, _]) Tryz.sizeOf55 (OV.p rfl) (OV.p rfl) rfl rfl rfl (by repeat (first | exact aQ.here (cs' := [_, _, _, _, _]) rfl rfl | apply aQ.up)) ?_
     refine WL.nil (WA.fin (WC.sr ?_))
     refine WL.val (V.aU (vs := [_, _, _, _, _]) ⟨Tryz.isAgg58, Tryz.sizeOf58⟩ (OV.p rfl) rfl (fun _ => by repeat (first | exact aT.gets ⟨rfl, rfl, rfl, rfl, rfl, trivial⟩ | apply aT.up))) rfl ?_
     refine WL.store (cs := [_, _, _, _, _]) Tryz.sizeOf58 (OV.p rfl) (OV.p rfl) rfl rfl rfl (by repeat (first | exact aQ.here (cs' := [_, _, _, _, _]) rfl rfl | apply aQ.up)) ?_
     refine WL.sg rfl rfl (WL.nil (WC.ret ?_))
     exact aj.ret (H' := F) (aL.two rfl (R1.gF (vs := [_, _, _, _, _]) rfl ⟨Tryz.isAgg58, Tryz.sizeOf58⟩ rfl (by repeat (first | exact aT.gets ⟨rfl, rfl, rfl, rfl, rfl, trivial⟩ | apply aT.up))) (R1.tmp rfl)) (fun w h => by repeat (first | exact h | replace h := h.tail)) ⟨rfl, rfl⟩
    ·refine WL.store (cs := [_]) Tryz.sizeOf3 (OV.p rfl) (OV.p rfl) rfl rfl rfl (by repeat (first | exact aQ.here (cs' := [_, _, _, _, _]) rfl rfl | apply aQ.up)) ?_
     refine WL.nil (WA.o 2 rfl ?_)
     refine WL.val (V.aU (vs := [_, _]) ⟨Tryz.isAgg55, Tryz.sizeOf55⟩ (OV.p rfl) rfl (fun _ => by repeat (first | exact aT.gets ⟨rfl, rfl, trivial⟩ | apply aT.up))) rfl ?_
     refine WL.nil ?_
     refine WA.t 6 rfl (V.J8 Aa (OV.p rfl) (OV.p rfl) (fun hc => by first | omega | (simp at hc; omega))) ?_
     refine WA.o 7 rfl ?_
     refine WL.store (cs := [_, _]) Tryz.sizeOf55 (OV.p rfl) (OV.p rfl) rfl rfl rfl (by repeat (first | exact aQ.here (cs' := [_, _, _, _, _]) rfl rfl | apply aQ.up)) ?_
     refine WL.nil (WA.fin (WC.sr ?_))
     refine WL.val (V.aU (vs := [_, _, _, _, _]) ⟨Tryz.isAgg58, Tryz.sizeOf58⟩ (OV.p rfl) rfl (fun _ => by repeat (first | exact aT.gets ⟨rfl, rfl, rfl, rfl, rfl, trivial⟩ | apply aT.up))) rfl ?_
     refine WL.store (cs := [_, _, _, _, _]) Tryz.sizeOf58 (OV.p rfl) (OV.p rfl) rfl rfl rfl (by repeat (first | exact aQ.here (cs' := [_, _, _, _, _]) rfl rfl | apply aQ.up)) ?_
     refine WL.sg rfl rfl (WL.nil (WC.ret ?_))
     exact aj.ret (H' := F) (aL.two rfl (R1.gF (vs := [_, _, _, _, _]) rfl ⟨Tryz.isAgg58, Tryz.sizeOf58⟩ rfl (by repeat (first | exact aT.gets ⟨rfl, rfl, rfl, rfl, rfl, trivial⟩ | apply aT.up))) (R1.tmp rfl)) (fun w h => by repeat (first | exact h | replace h := h.tail)) ⟨rfl, rfl⟩
theorem zV (s : bW) (slot : Int) (K : World) (F : List au) : aG Tryz.prog 94 #[s.v, .int .i64 slot] K F (.tuple #[(s.confirm slot).1.v, .int .i64 (s.confirm slot).2]) := by
  refine Does.enter Tryz.func94 rfl Tryz.ntmps94 rfl ?_
  simp only [aJ, Nat.reduceAdd]
  refine WC.sr ?_
  refine WL.box (cs := [_, _, _, _, _]) (OV.p rfl) rfl rfl (fun b2 => ?_)
  refine WL.alloc (cs := [(.int .i64 0), (.int .i64 0), (.bool false), (.int .i64 0), (.bool false)]) Tryz.zeroValue58 rfl rfl (fun b4 => ?_)
  refine WL.sg rfl rfl (WL.nil (WC.seq (WC.sr ?_)))
  refine WL.val (V.aU (vs := [_, _, _, _, _]) ⟨Tryz.isAgg58, Tryz.sizeOf58⟩ (OV.p rfl) rfl (fun _ => by repeat (first | exact aT.gets ⟨rfl, rfl, rfl, rfl, rfl, trivial⟩ | apply aT.up))) rfl ?_
  refine WL.mv rfl rfl (WL.call (vs := [_, _]) Tryz.call129 ⟨OV.p rfl, OV.p rfl, trivial⟩ (Ej s slot _ _) rfl ?_)
  rintro _ H0 ⟨rfl, h0⟩
  subst H0
  refine WL.sg rfl rfl (WL.nil (WC.sr (WL.mv rfl rfl (WL.val (V.neq (OV.p rfl) (OV.p rfl)) rfl (WL.nil ?_)))))
  refine WC.cond rfl (fun hc0 => ?_) (fun hc0 => ?_)
  ·simp only [Bool.not_eq_true', Bool.not_eq_false', decide_eq_true_eq, decide_eq_false_iff_not] at hc0
   have e2 : s.LD slot = 1 := by unfold bW.LD at hc0 ⊢; split <;> simp_all
   refine WC.sr (WL.val (V.build (vs := []) trivial rfl (zl )) rfl (WL.mv rfl rfl ?_))
   refine WL.store (cs := [_, _, _, _, _]) Tryz.sizeOf58 (OV.p rfl) (OV.p rfl) rfl rfl rfl (by repeat (first | exact aQ.here (cs' := [_, _, _, _, _]) rfl rfl | apply aQ.up)) ?_
   refine WL.sg rfl rfl (WL.nil (WC.ret ?_))
   refine aj.ret (H' := F) (aL.two rfl (R1.gF (vs := [_, _, _, _, _]) rfl ⟨Tryz.isAgg58, Tryz.sizeOf58⟩ rfl (by repeat (first | exact aT.gets ⟨rfl, rfl, rfl, rfl, rfl, trivial⟩ | apply aT.up))) (R1.tmp rfl)) (fun w h => by repeat (first | exact h | replace h := h.tail)) ⟨?_, rfl⟩
   unfold bW.confirm; rw [if_pos hc0, e2]; rfl
  ·simp only [Bool.not_eq_true', Bool.not_eq_false', decide_eq_true_eq, decide_eq_false_iff_not] at hc0
   obtain ⟨hok, hsl⟩ := bW.Nq hc0
   refine WC.skip (WC.sr ?_)
   refine WL.val (V.aU (vs := [_, _, _, _, _]) ⟨Tryz.isAgg58, Tryz.sizeOf58⟩ (OV.p rfl) rfl (fun _ => by repeat (first | exact aT.gets ⟨rfl, rfl, rfl, rfl, rfl, trivial⟩ | apply aT.up))) rfl ?_
   refine WL.mv rfl rfl (WL.mv rfl rfl (WL.val (V.build (vs := [(1, _)]) ⟨OV.p rfl, trivial⟩ rfl (MH _)) rfl (WL.call (vs := [_, _, _, _]) Tryz.call130 ⟨OV.p rfl, OV.p rfl, OV.p rfl, OV.p rfl, trivial⟩ (FT s _ _ _ _ hsl _ _) rfl ?_)))
   rintro _ H0 ⟨rfl, h0⟩
   subst H0
   refine WL.xt rfl rfl rfl (WL.xt rfl rfl rfl ?_)
   refine WL.store (cs := [_, _, _, _, _]) Tryz.sizeOf58 (OV.p rfl) (OV.p rfl) rfl rfl rfl (by repeat (first | exact aQ.here (cs' := [_, _, _, _, _]) rfl rfl | apply aQ.up)) ?_
   refine WL.sg rfl rfl (WL.nil (WC.ret ?_))
   refine aj.ret (H' := F) (aL.two rfl (R1.gF (vs := [_, _, _, _, _]) rfl ⟨Tryz.isAgg58, Tryz.sizeOf58⟩ rfl (by repeat (first | exact aT.gets ⟨rfl, rfl, rfl, rfl, rfl, trivial⟩ | apply aT.up))) (R1.tmp rfl)) (fun w h => by repeat (first | exact h | replace h := h.tail)) ⟨?_, rfl⟩
   unfold bW.confirm; rw [if_neg (by simp [hc0])]
theorem EI (s : bW) (K : World) (F : List au) : Does Tryz.prog 67 #[s.v] K F (fun v H' => ∃ A cap, v = .tuple #[.slice A s.order.length cap, .int .i64 s.GJ] ∧ H' = bC (.slice A s.order.length cap) 3 1 s.order.length (ints .i64 s.order) :: F) := by
  obtain ⟨f, t0, g0, t1, g1⟩ := s
  dsimp only [bW.v]
  refine Does.enter Tryz.func67 rfl Tryz.ntmps67 rfl ?_
  simp only [aJ, Nat.reduceAdd]
  refine WC.sr ?_
  refine WL.box (cs := [_, _, _, _, _]) (OV.p rfl) rfl rfl (fun b1 => ?_)
  refine WL.sg rfl rfl (WL.sg rfl rfl (WL.nil (WC.seq (WC.sr ?_))))
  refine WL.val (V.aU (vs := [_, _, _, _, _]) ⟨Tryz.isAgg58, Tryz.sizeOf58⟩ (OV.p rfl) rfl (fun _ => by repeat (first | exact aT.gets ⟨rfl, rfl, rfl, rfl, rfl, trivial⟩ | apply aT.up))) rfl ?_
  refine WL.call (vs := [_]) Tryz.call127 ⟨OV.p rfl, trivial⟩ (oP ⟨_, _, _, _, _⟩ _ _) rfl ?_
  rintro _ H0 ⟨rfl, h0⟩
  subst H0
  refine WL.sg rfl rfl (WL.nil (WC.sr (WL.mv rfl rfl (WL.val (V.neq (OV.p rfl) (OV.p rfl)) rfl (WL.nil ?_)))))
  refine WC.cond rfl (fun hc0 => ?_) (fun hc0 => ?_)
  ·simp only [decide_eq_true_eq, decide_eq_false_iff_not, Bool.and_eq_true, Bool.or_eq_true, Bool.and_eq_false_iff, Bool.or_eq_false_iff, Bool.not_eq_true', Bool.not_eq_false', Bool.not_eq_true, Bool.not_eq_false, Int.not_lt, Int.not_le] at hc0
   refine WC.sr (WL.mv rfl rfl (WL.sg rfl rfl (WL.sg rfl rfl (WL.nil (WC.ret ?_)))))
   refine aj.ret (H' := bC (.slice none 0 0) 3 1 0 [] :: F) (aL.dJ rfl rfl rfl) (fun w h => Sat.iA (by revert h; exact fun h => by repeat (first | exact h | replace h := h.tail)) _ _) ⟨none, 0, ?_⟩
   have e1 : (bW.mk f t0 g0 t1 g1).order = [] := by unfold bW.order; rw [if_neg (by intro h; apply hc0; unfold bW.GJ; rw [if_pos h])]
   rw [e1]; exact ⟨rfl, rfl⟩
  ·simp only [decide_eq_true_eq, decide_eq_false_iff_not, Bool.and_eq_true, Bool.or_eq_true, Bool.and_eq_false_iff, Bool.or_eq_false_iff, Bool.not_eq_true', Bool.not_eq_false', Bool.not_eq_true, Bool.not_eq_false, Int.not_lt, Int.not_le] at hc0
   have hok := bW.Kh hc0
   have hf := (bW.wS hok).1
   have e1 : (bW.mk f t0 g0 t1 g1).order = [f, 1 - f].filter (bW.mk f t0 g0 t1 g1).may := by unfold bW.order; rw [if_pos hok]
   dsimp only at hf
   rcases hf with rfl | rfl
   all_goals
    refine WC.skip (WC.seq ?_)
    refine WC.sub (Sub.refl _) (fun w h => h.iA 3 1) ?_
    refine WC.region (WL.sg rfl rfl (WL.nil (WC.seq (WC.sr (WL.val (V.fieldAddr uT (OV.p rfl)) rfl (WL.ld Tryz.isAgg3 rfl rfl ?_))))))
    refine WL.val (V.fieldAddr uT (OV.p rfl)) rfl (WL.ld Tryz.isAgg3 rfl rfl ?_)
    refine WL.sb rfl rfl rfl ?_
    refine WL.val (V.build (vs := [(0, _), (1, _)]) ⟨OV.p rfl, OV.p rfl, trivial⟩ rfl (Gs _ _)) rfl (WL.mv rfl rfl (WL.nil (WC.block (WC.rounds 3 (WC.sr (WL.val (V.lss (OV.p rfl) (OV.p rfl)) rfl (WL.nil (WC.seq ?_))))))))
    refine WC.bU rfl (by first | rfl | (simp; done) | (simp; omega)) ?_
    refine WC.skip (WC.seq (WC.block (WC.sr ?_)))
    refine WL.val (V.index KH (OV.p rfl) (OV.p rfl) (fun hc => by first | omega | (simp at hc; omega)) (fun _ => xZ Tryz.isAgg3 rfl)) rfl ?_
    refine WL.sg rfl rfl (WL.nil (WC.sr (WL.mv rfl rfl (WL.val (V.fieldAddr u7 (OV.p rfl)) rfl ?_))))
    refine WL.val (V.J8 Aa (OV.p rfl) (OV.p rfl) (fun hc => by first | omega | (simp at hc; omega))) rfl ?_
    refine WL.val (V.aU (vs := [_, _]) ⟨Tryz.isAgg55, Tryz.sizeOf55⟩ (OV.p rfl) rfl (fun _ => by repeat (first | exact aT.gets ⟨rfl, rfl, trivial⟩ | apply aT.up))) rfl ?_
    refine WL.call (vs := [_]) Tryz.call128 ⟨OV.p rfl, trivial⟩ (uN _ _ _ _) rfl ?_
    rintro _ H0 ⟨rfl, h0⟩
    subst H0
    refine WL.nil ?_
    refine WC.cond rfl (fun hc2 => ?_) (fun hc2 => ?_)
    ·skip
     refine WC.region (WL.mv rfl rfl (WL.mv rfl rfl ?_))
     refine WL.buildSlice (E := 3) (cs := [_]) (vs := [(0, _)]) ⟨OV.p rfl, trivial⟩ rfl (cZ _) rfl (fun I8 => ?_)
     refine WL.sub (Sub.refl _) (fun w h => h.p1) ?_
     refine WL.append Tryz.underlying124 el3 (OV.p rfl) (OV.p rfl) (by repeat (first | exact Seq.all rfl | apply Seq.up)) (by simp [Value.oneCell']) (by first | omega | (simp; omega)) rfl rfl (fun QG QX OB Om => ?_)
     refine WL.sg rfl rfl (WL.nil (WC.region ?_))
     refine WL.val (V.aA (v' := .int .i64 (1)) (V.add (OV.p rfl) (OV.p rfl)) (fun _ => rfl)) rfl ?_
     refine WL.mv rfl rfl (WL.nil (WC.sr (WL.val (V.lss (OV.p rfl) (OV.p rfl)) rfl (WL.nil (WC.seq ?_)))))
     refine WC.bU rfl (by first | rfl | (simp; done) | (simp; omega)) ?_
     refine WC.skip (WC.seq (WC.block (WC.sr ?_)))
     refine WL.val (V.index KH (OV.p rfl) (OV.p rfl) (fun hc => by first | omega | (simp at hc; omega)) (fun _ => xZ Tryz.isAgg3 rfl)) rfl ?_
     refine WL.sg rfl rfl (WL.nil (WC.sr (WL.mv rfl rfl (WL.val (V.fieldAddr u7 (OV.p rfl)) rfl ?_))))
     refine WL.val (V.J8 Aa (OV.p rfl) (OV.p rfl) (fun hc => by first | omega | (simp at hc; omega))) rfl ?_
     refine WL.val (V.aU (vs := [_, _]) ⟨Tryz.isAgg55, Tryz.sizeOf55⟩ (OV.p rfl) rfl (fun _ => by repeat (first | exact aT.gets ⟨rfl, rfl, trivial⟩ | apply aT.up))) rfl ?_
     refine WL.call (vs := [_]) Tryz.call128 ⟨OV.p rfl, trivial⟩ (uN _ _ _ _) rfl ?_
     rintro _ H0 ⟨rfl, h0⟩
     subst H0
     refine WL.nil ?_
     refine WC.cond rfl (fun hc2' => ?_) (fun hc2' => ?_)
     ·skip
      refine WC.region (WL.mv rfl rfl (WL.mv rfl rfl ?_))
      refine WL.buildSlice (E := 3) (cs := [_]) (vs := [(0, _)]) ⟨OV.p rfl, trivial⟩ rfl (cZ _) rfl (fun I8 => ?_)
      refine WL.sub (Sub.refl _) (fun w h => h.p1) ?_
      refine WL.append Tryz.underlying124 el3 (OV.p rfl) (OV.p rfl) (by repeat (first | exact Seq.all rfl | apply Seq.up)) (by simp [Value.oneCell']) (by first | omega | (simp; omega)) rfl rfl (fun QG QX OB Om => ?_)
      refine WL.sg rfl rfl (WL.nil (WC.region ?_))
      refine WL.val (V.aA (v' := .int .i64 (2)) (V.add (OV.p rfl) (OV.p rfl)) (fun _ => rfl)) rfl ?_
      refine WL.mv rfl rfl (WL.nil (WC.sr (WL.val (V.lss (OV.p rfl) (OV.p rfl)) rfl (WL.nil (WC.seq ?_)))))
      refine WC.aM rfl (by first | rfl | (simp; done) | (simp; omega)) ?_
      refine WC.exit (WC.sr (WL.mv rfl rfl (WL.sg rfl rfl (WL.sg rfl rfl (WL.nil (WC.ret ?_))))))
      simp only [List.filter, bW.may, bW.g, bW.t, Int.reduceSub, Int.reduceEq, ↓reduceIte, *] at e1
      exact aj.ret (H' := bC _ 3 1 _ _ :: F) (aL.dJ rfl rfl rfl) (fun w h => by repeat (first | exact h | replace h := h.drop2)) ⟨_, _, by rw [e1, hc0]; rfl, by rw [e1]; rfl⟩
     ·skip
      refine WC.skip (WC.region ?_)
      refine WL.val (V.aA (v' := .int .i64 (2)) (V.add (OV.p rfl) (OV.p rfl)) (fun _ => rfl)) rfl ?_
      refine WL.mv rfl rfl (WL.nil (WC.sr (WL.val (V.lss (OV.p rfl) (OV.p rfl)) rfl (WL.nil (WC.seq ?_)))))
      refine WC.aM rfl (by first | rfl | (simp; done) | (simp; omega)) ?_
      refine WC.exit (WC.sr (WL.mv rfl rfl (WL.sg rfl rfl (WL.sg rfl rfl (WL.nil (WC.ret ?_))))))
      simp only [List.filter, bW.may, bW.g, bW.t, Int.reduceSub, Int.reduceEq, ↓reduceIte, *] at e1
      exact aj.ret (H' := bC _ 3 1 _ _ :: F) (aL.dJ rfl rfl rfl) (fun w h => by repeat (first | exact h | replace h := h.drop2)) ⟨_, _, by rw [e1, hc0]; rfl, by rw [e1]; rfl⟩
    ·skip
     refine WC.skip (WC.region ?_)
     refine WL.val (V.aA (v' := .int .i64 (1)) (V.add (OV.p rfl) (OV.p rfl)) (fun _ => rfl)) rfl ?_
     refine WL.mv rfl rfl (WL.nil (WC.sr (WL.val (V.lss (OV.p rfl) (OV.p rfl)) rfl (WL.nil (WC.seq ?_)))))
     refine WC.bU rfl (by first | rfl | (simp; done) | (simp; omega)) ?_
     refine WC.skip (WC.seq (WC.block (WC.sr ?_)))
     refine WL.val (V.index KH (OV.p rfl) (OV.p rfl) (fun hc => by first | omega | (simp at hc; omega)) (fun _ => xZ Tryz.isAgg3 rfl)) rfl ?_
     refine WL.sg rfl rfl (WL.nil (WC.sr (WL.mv rfl rfl (WL.val (V.fieldAddr u7 (OV.p rfl)) rfl ?_))))
     refine WL.val (V.J8 Aa (OV.p rfl) (OV.p rfl) (fun hc => by first | omega | (simp at hc; omega))) rfl ?_
     refine WL.val (V.aU (vs := [_, _]) ⟨Tryz.isAgg55, Tryz.sizeOf55⟩ (OV.p rfl) rfl (fun _ => by repeat (first | exact aT.gets ⟨rfl, rfl, trivial⟩ | apply aT.up))) rfl ?_
     refine WL.call (vs := [_]) Tryz.call128 ⟨OV.p rfl, trivial⟩ (uN _ _ _ _) rfl ?_
     rintro _ H0 ⟨rfl, h0⟩
     subst H0
     refine WL.nil ?_
     refine WC.cond rfl (fun hc2' => ?_) (fun hc2' => ?_)
     ·skip
      refine WC.region (WL.mv rfl rfl (WL.mv rfl rfl ?_))
      refine WL.buildSlice (E := 3) (cs := [_]) (vs := [(0, _)]) ⟨OV.p rfl, trivial⟩ rfl (cZ _) rfl (fun I8 => ?_)
      refine WL.sub (Sub.refl _) (fun w h => h.p1) ?_
      refine WL.append Tryz.underlying124 el3 (OV.p rfl) (OV.p rfl) (by repeat (first | exact Seq.all rfl | apply Seq.up)) (by simp [Value.oneCell']) (by first | omega | (simp; omega)) rfl rfl (fun QG QX OB Om => ?_)
      refine WL.sg rfl rfl (WL.nil (WC.region ?_))
      refine WL.val (V.aA (v' := .int .i64 (2)) (V.add (OV.p rfl) (OV.p rfl)) (fun _ => rfl)) rfl ?_
      refine WL.mv rfl rfl (WL.nil (WC.sr (WL.val (V.lss (OV.p rfl) (OV.p rfl)) rfl (WL.nil (WC.seq ?_)))))
      refine WC.aM rfl (by first | rfl | (simp; done) | (simp; omega)) ?_
      refine WC.exit (WC.sr (WL.mv rfl rfl (WL.sg rfl rfl (WL.sg rfl rfl (WL.nil (WC.ret ?_))))))
      simp only [List.filter, bW.may, bW.g, bW.t, Int.reduceSub, Int.reduceEq, ↓reduceIte, *] at e1
      exact aj.ret (H' := bC _ 3 1 _ _ :: F) (aL.dJ rfl rfl rfl) (fun w h => by repeat (first | exact h | replace h := h.drop2)) ⟨_, _, by rw [e1, hc0]; rfl, by rw [e1]; rfl⟩
     ·skip
      refine WC.skip (WC.region ?_)
      refine WL.val (V.aA (v' := .int .i64 (2)) (V.add (OV.p rfl) (OV.p rfl)) (fun _ => rfl)) rfl ?_
      refine WL.mv rfl rfl (WL.nil (WC.sr (WL.val (V.lss (OV.p rfl) (OV.p rfl)) rfl (WL.nil (WC.seq ?_)))))
      refine WC.aM rfl (by first | rfl | (simp; done) | (simp; omega)) ?_
      refine WC.exit (WC.sr (WL.mv rfl rfl (WL.sg rfl rfl (WL.sg rfl rfl (WL.nil (WC.ret ?_))))))
      simp only [List.filter, bW.may, bW.g, bW.t, Int.reduceSub, Int.reduceEq, ↓reduceIte, *] at e1
      exact aj.ret (H' := bC _ 3 1 _ _ :: F) (aL.dJ rfl rfl rfl) (fun w h => by repeat (first | exact h | replace h := h.drop2)) ⟨_, _, by rw [e1, hc0]; rfl, by rw [e1]; rfl⟩
theorem wrap_u8 {i : Int} (h : 0 ≤ i ∧ i < 256) : IntKind.u8.wrap i = i := by
  simp [IntKind.wrap, IntKind.signed, IntKind.bits]
  omega
theorem wh (s : bW) (K : World) (F : List au) : Does Tryz.prog 131 #[s.v] K F (fun v H' => (s.ok = true ∧ ∃ b, v = .tuple #[.slice (some ⟨b, 0, none⟩) 9 9, .int .i64 0] ∧ H' = Cells b 5 (ints .u8 s.bytes) :: F) ∨ (s.ok = false ∧ v = .tuple #[.slice none 0 0, .int .i64 1] ∧ H' = F)) := by
  obtain ⟨f, t0, g0, t1, g1⟩ := s
  dsimp only [bW.v]
  refine Does.enter Tryz.func131 rfl Tryz.ntmps131 rfl ?_
  simp only [aJ, Nat.reduceAdd]
  refine WC.sr ?_
  refine WL.box (cs := [_, _, _, _, _]) (OV.p rfl) rfl rfl (fun b1 => ?_)
  refine WL.sg rfl rfl (WL.sg rfl rfl (WL.nil (WC.seq (WC.sr ?_))))
  refine WL.val (V.aU (vs := [_, _, _, _, _]) ⟨Tryz.isAgg58, Tryz.sizeOf58⟩ (OV.p rfl) rfl (fun _ => by repeat (first | exact aT.gets ⟨rfl, rfl, rfl, rfl, rfl, trivial⟩ | apply aT.up))) rfl ?_
  refine WL.call (vs := [_]) Tryz.call127 ⟨OV.p rfl, trivial⟩ (oP ⟨_, _, _, _, _⟩ _ _) rfl ?_
  rintro _ H0 ⟨rfl, h0⟩
  subst H0
  refine WL.sg rfl rfl (WL.nil (WC.sr (WL.mv rfl rfl (WL.val (V.neq (OV.p rfl) (OV.p rfl)) rfl (WL.nil ?_)))))
  refine WC.cond rfl (fun hc0 => ?_) (fun hc0 => ?_)
  ·simp only [decide_eq_true_eq, decide_eq_false_iff_not, Bool.and_eq_true, Bool.or_eq_true, Bool.and_eq_false_iff, Bool.or_eq_false_iff, Bool.not_eq_true', Bool.not_eq_false', Bool.not_eq_true, Bool.not_eq_false, Int.not_lt, Int.not_le] at hc0
   refine WC.sr (WL.mv rfl rfl (WL.sg rfl rfl (WL.sg rfl rfl (WL.nil (WC.ret ?_)))))
   have e1 : (bW.mk f t0 g0 t1 g1).ok = false := by
     cases h : (bW.mk f t0 g0 t1 g1).ok with
     | false => rfl
     | true => exact (hc0 (by unfold bW.GJ; rw [if_pos h])).elim
   exact aj.ret (H' := F) (aL.dJ rfl rfl rfl) (fun w h => by repeat (first | exact h | replace h := h.tail)) (.inr ⟨e1, by unfold bW.GJ; rw [if_neg (by simp [e1])], rfl⟩)
  ·simp only [decide_eq_true_eq, decide_eq_false_iff_not, Bool.and_eq_true, Bool.or_eq_true, Bool.and_eq_false_iff, Bool.or_eq_false_iff, Bool.not_eq_true', Bool.not_eq_false', Bool.not_eq_true, Bool.not_eq_false, Int.not_lt, Int.not_le] at hc0
   have hok := bW.Kh hc0
   have hs := bW.wS hok
   dsimp only at hs
   refine WC.skip (WC.sr ?_)
   refine WL.NI 9 (cs := [_, _, _, _, _, _, _, _, _]) Tryz.underlying34 vP (OV.p rfl) (OV.p rfl) rfl rfl (by omega) rfl rfl rfl rfl (fun b13 => ?_)
   refine WL.sg rfl rfl (WL.nil (WC.sr (WL.mv rfl rfl ?_)))
   refine WL.Lv (news := [_, _, _, _]) dB (OV.p rfl) rfl rfl (by repeat (first | exact aQ.here (cs' := [_, _, _, _, _, _, _, _, _]) rfl rfl | apply aQ.up)) rfl ?_
   refine WL.nil (WC.sr (WL.mv rfl rfl (WL.val (V.fieldAddr uT (OV.p rfl)) rfl (WL.ld Tryz.isAgg3 rfl rfl ?_))))
   refine WL.val (V.iM Tryz.runUnderlying3 Tryz.runUnderlying5 (OV.p rfl)) rfl ?_
   refine WL.val (V.bP dB (OV.p rfl) (OV.p rfl) (fun hc => by first | omega | (simp at hc; omega))) rfl ?_
   refine WL.store (cs := [_]) Tryz.sizeOf5 (OV.p rfl) (OV.p rfl) rfl rfl rfl (by repeat (first | exact aQ.here (cs' := [_, _, _, _, _, _, _, _, _]) rfl rfl | apply aQ.up)) ?_
   refine WL.nil (WC.seq (WC.sr (WL.val (V.fieldAddr u7 (OV.p rfl)) rfl ?_)))
   refine WL.val (V.aU (vs := [_, _, _, _]) ⟨Tryz.isAgg56, Tryz.sizeOf56⟩ (OV.p rfl) rfl (fun _ => by repeat (first | exact aT.gets ⟨rfl, rfl, rfl, rfl, trivial⟩ | apply aT.up))) rfl ?_
   refine WL.mv rfl rfl (WL.nil (WC.block (WC.rounds 3 (WC.sr (WL.val (V.lss (OV.p rfl) (OV.p rfl)) rfl (WL.nil (WC.seq ?_)))))))
   refine WC.bU rfl (by first | rfl | (simp; done) | (simp; omega)) ?_
   refine WC.skip (WC.seq (WC.block (WC.sr (WL.mv rfl rfl ?_))))
   refine WL.val (V.index Aa (OV.p rfl) (OV.p rfl) (fun hc => by first | omega | (simp at hc; omega)) (fun _ => Ee ⟨Tryz.isAgg55, Tryz.sizeOf55⟩ (vs := [_, _]) rfl ⟨rfl, rfl, trivial⟩)) rfl ?_
   refine WL.alloc (cs := [(.int .i64 0), (.bool false)]) Tryz.zeroValue55 rfl rfl (fun b7 => ?_)
   refine WL.sg rfl rfl ?_
   refine WL.store (cs := [_, _]) Tryz.sizeOf55 (OV.p rfl) (OV.p rfl) rfl rfl rfl (by repeat (first | exact aQ.here (cs' := [_, _]) rfl rfl | apply aQ.up)) ?_
   refine WL.nil (WC.sr (WL.mv rfl rfl (WL.mv rfl rfl ?_)))
   refine WL.val (V.aA (v' := .int .i64 (0)) (V.mul (OV.p rfl) (OV.p rfl)) (fun _ => rfl)) rfl ?_
   refine WL.val (V.aA (v' := .int .i64 (5)) (V.add (OV.p rfl) (OV.p rfl)) (fun _ => rfl)) rfl ?_
   refine WL.val (V.fieldAddr oU (OV.p rfl)) rfl (WL.ld Tryz.isAgg3 rfl rfl ?_)
   refine WL.val (V.iM Tryz.runUnderlying3 Tryz.runUnderlying5 (OV.p rfl)) rfl ?_
   refine WL.val (V.bP dB (OV.p rfl) (OV.p rfl) (fun hc => by first | omega | (simp at hc; omega))) rfl ?_
   refine WL.store (cs := [_]) Tryz.sizeOf5 (OV.p rfl) (OV.p rfl) rfl rfl rfl (by repeat (first | exact aQ.here (cs' := [_, _, _, _, _, _, _, _, _]) rfl rfl | apply aQ.up)) ?_
   refine WL.nil (WC.sr (WL.val (V.fieldAddr Cr (OV.p rfl)) rfl (WL.ld Tryz.isAgg4 rfl rfl ?_)))
   refine WL.nil ?_
   refine WC.cond rfl (fun hc2 => ?_) (fun hc2 => ?_)
   ·try simp only [decide_eq_true_eq, decide_eq_false_iff_not, Bool.and_eq_true, Bool.or_eq_true, Bool.and_eq_false_iff, Bool.or_eq_false_iff, Bool.not_eq_true', Bool.not_eq_false', Bool.not_eq_true, Bool.not_eq_false, Int.not_lt, Int.not_le] at hc2
    refine WC.region (WL.mv rfl rfl (WL.mv rfl rfl ?_))
    refine WL.val (V.aA (v' := .int .i64 (0)) (V.mul (OV.p rfl) (OV.p rfl)) (fun _ => rfl)) rfl ?_
    refine WL.val (V.aA (v' := .int .i64 (6)) (V.add (OV.p rfl) (OV.p rfl)) (fun _ => rfl)) rfl ?_
    refine WL.val (V.bP dB (OV.p rfl) (OV.p rfl) (fun hc => by first | omega | (simp at hc; omega))) rfl ?_
    refine WL.store (cs := [_]) Tryz.sizeOf5 (OV.p rfl) (OV.p rfl) rfl rfl rfl (by repeat (first | exact aQ.here (cs' := [_, _, _, _, _, _, _, _, _]) rfl rfl | apply aQ.up)) ?_
    refine WL.nil (WC.region ?_)
    refine WL.val (V.aA (v' := .int .i64 (1)) (V.add (OV.p rfl) (OV.p rfl)) (fun _ => rfl)) rfl ?_
    refine WL.mv rfl rfl (WL.nil (WC.sr (WL.val (V.lss (OV.p rfl) (OV.p rfl)) rfl (WL.nil (WC.seq ?_)))))
    refine WC.bU rfl (by first | rfl | (simp; done) | (simp; omega)) ?_
    refine WC.skip (WC.seq (WC.block (WC.sr (WL.mv rfl rfl ?_))))
    refine WL.val (V.index Aa (OV.p rfl) (OV.p rfl) (fun hc => by first | omega | (simp at hc; omega)) (fun _ => Ee ⟨Tryz.isAgg55, Tryz.sizeOf55⟩ (vs := [_, _]) rfl ⟨rfl, rfl, trivial⟩)) rfl ?_
    refine WL.alloc (cs := [(.int .i64 0), (.bool false)]) Tryz.zeroValue55 rfl rfl (fun b7 => ?_)
    refine WL.sg rfl rfl ?_
    refine WL.store (cs := [_, _]) Tryz.sizeOf55 (OV.p rfl) (OV.p rfl) rfl rfl rfl (by repeat (first | exact aQ.here (cs' := [_, _]) rfl rfl | apply aQ.up)) ?_
    refine WL.nil (WC.sr (WL.mv rfl rfl (WL.mv rfl rfl ?_)))
    refine WL.val (V.aA (v' := .int .i64 (2)) (V.mul (OV.p rfl) (OV.p rfl)) (fun _ => rfl)) rfl ?_
    refine WL.val (V.aA (v' := .int .i64 (7)) (V.add (OV.p rfl) (OV.p rfl)) (fun _ => rfl)) rfl ?_
    refine WL.val (V.fieldAddr oU (OV.p rfl)) rfl (WL.ld Tryz.isAgg3 rfl rfl ?_)
    refine WL.val (V.iM Tryz.runUnderlying3 Tryz.runUnderlying5 (OV.p rfl)) rfl ?_
    refine WL.val (V.bP dB (OV.p rfl) (OV.p rfl) (fun hc => by first | omega | (simp at hc; omega))) rfl ?_
    refine WL.store (cs := [_]) Tryz.sizeOf5 (OV.p rfl) (OV.p rfl) rfl rfl rfl (by repeat (first | exact aQ.here (cs' := [_, _, _, _, _, _, _, _, _]) rfl rfl | apply aQ.up)) ?_
    refine WL.nil (WC.sr (WL.val (V.fieldAddr Cr (OV.p rfl)) rfl (WL.ld Tryz.isAgg4 rfl rfl ?_)))
    refine WL.nil ?_
    refine WC.cond rfl (fun hc2' => ?_) (fun hc2' => ?_)
    ·try simp only [decide_eq_true_eq, decide_eq_false_iff_not, Bool.and_eq_true, Bool.or_eq_true, Bool.and_eq_false_iff, Bool.or_eq_false_iff, Bool.not_eq_true', Bool.not_eq_false', Bool.not_eq_true, Bool.not_eq_false, Int.not_lt, Int.not_le] at hc2'
     refine WC.region (WL.mv rfl rfl (WL.mv rfl rfl ?_))
     refine WL.val (V.aA (v' := .int .i64 (2)) (V.mul (OV.p rfl) (OV.p rfl)) (fun _ => rfl)) rfl ?_
     refine WL.val (V.aA (v' := .int .i64 (8)) (V.add (OV.p rfl) (OV.p rfl)) (fun _ => rfl)) rfl ?_
     refine WL.val (V.bP dB (OV.p rfl) (OV.p rfl) (fun hc => by first | omega | (simp at hc; omega))) rfl ?_
     refine WL.store (cs := [_]) Tryz.sizeOf5 (OV.p rfl) (OV.p rfl) rfl rfl rfl (by repeat (first | exact aQ.here (cs' := [_, _, _, _, _, _, _, _, _]) rfl rfl | apply aQ.up)) ?_
     refine WL.nil (WC.region ?_)
     refine WL.val (V.aA (v' := .int .i64 (2)) (V.add (OV.p rfl) (OV.p rfl)) (fun _ => rfl)) rfl ?_
     refine WL.mv rfl rfl (WL.nil (WC.sr (WL.val (V.lss (OV.p rfl) (OV.p rfl)) rfl (WL.nil (WC.seq ?_)))))
     refine WC.aM rfl (by first | rfl | (simp; done) | (simp; omega)) ?_
     refine WC.exit (WC.sr (WL.mv rfl rfl (WL.sg rfl rfl (WL.sg rfl rfl (WL.nil (WC.ret ?_))))))
     refine aj.ret (H' := Cells b13 _ (ints .u8 (bW.mk f t0 g0 t1 g1).bytes) :: F) (aL.dJ rfl rfl rfl) (fun w h => ?_) (.inl ⟨hok, b13, rfl, rfl⟩)
     replace h := h.tail.tail.drop2
     refine Sat.aV h ?_
     rw [wrap_u8 (by omega), wrap_u8 (by omega), wrap_u8 (by omega)]
     unfold bW.bytes
     rw [if_pos hok]
     simp [kP, ints, bW.b01, *]
    ·try simp only [decide_eq_true_eq, decide_eq_false_iff_not, Bool.and_eq_true, Bool.or_eq_true, Bool.and_eq_false_iff, Bool.or_eq_false_iff, Bool.not_eq_true', Bool.not_eq_false', Bool.not_eq_true, Bool.not_eq_false, Int.not_lt, Int.not_le] at hc2'
     refine WC.skip (WC.region ?_)
     refine WL.val (V.aA (v' := .int .i64 (2)) (V.add (OV.p rfl) (OV.p rfl)) (fun _ => rfl)) rfl ?_
     refine WL.mv rfl rfl (WL.nil (WC.sr (WL.val (V.lss (OV.p rfl) (OV.p rfl)) rfl (WL.nil (WC.seq ?_)))))
     refine WC.aM rfl (by first | rfl | (simp; done) | (simp; omega)) ?_
     refine WC.exit (WC.sr (WL.mv rfl rfl (WL.sg rfl rfl (WL.sg rfl rfl (WL.nil (WC.ret ?_))))))
     refine aj.ret (H' := Cells b13 _ (ints .u8 (bW.mk f t0 g0 t1 g1).bytes) :: F) (aL.dJ rfl rfl rfl) (fun w h => ?_) (.inl ⟨hok, b13, rfl, rfl⟩)
     replace h := h.tail.tail.drop2
     refine Sat.aV h ?_
     rw [wrap_u8 (by omega), wrap_u8 (by omega), wrap_u8 (by omega)]
     unfold bW.bytes
     rw [if_pos hok]
     simp [kP, ints, bW.b01, *]
   ·try simp only [decide_eq_true_eq, decide_eq_false_iff_not, Bool.and_eq_true, Bool.or_eq_true, Bool.and_eq_false_iff, Bool.or_eq_false_iff, Bool.not_eq_true', Bool.not_eq_false', Bool.not_eq_true, Bool.not_eq_false, Int.not_lt, Int.not_le] at hc2
    refine WC.skip (WC.region ?_)
    refine WL.val (V.aA (v' := .int .i64 (1)) (V.add (OV.p rfl) (OV.p rfl)) (fun _ => rfl)) rfl ?_
    refine WL.mv rfl rfl (WL.nil (WC.sr (WL.val (V.lss (OV.p rfl) (OV.p rfl)) rfl (WL.nil (WC.seq ?_)))))
    refine WC.bU rfl (by first | rfl | (simp; done) | (simp; omega)) ?_
    refine WC.skip (WC.seq (WC.block (WC.sr (WL.mv rfl rfl ?_))))
    refine WL.val (V.index Aa (OV.p rfl) (OV.p rfl) (fun hc => by first | omega | (simp at hc; omega)) (fun _ => Ee ⟨Tryz.isAgg55, Tryz.sizeOf55⟩ (vs := [_, _]) rfl ⟨rfl, rfl, trivial⟩)) rfl ?_
    refine WL.alloc (cs := [(.int .i64 0), (.bool false)]) Tryz.zeroValue55 rfl rfl (fun b7 => ?_)
    refine WL.sg rfl rfl ?_
    refine WL.store (cs := [_, _]) Tryz.sizeOf55 (OV.p rfl) (OV.p rfl) rfl rfl rfl (by repeat (first | exact aQ.here (cs' := [_, _]) rfl rfl | apply aQ.up)) ?_
    refine WL.nil (WC.sr (WL.mv rfl rfl (WL.mv rfl rfl ?_)))
    refine WL.val (V.aA (v' := .int .i64 (2)) (V.mul (OV.p rfl) (OV.p rfl)) (fun _ => rfl)) rfl ?_
    refine WL.val (V.aA (v' := .int .i64 (7)) (V.add (OV.p rfl) (OV.p rfl)) (fun _ => rfl)) rfl ?_
    refine WL.val (V.fieldAddr oU (OV.p rfl)) rfl (WL.ld Tryz.isAgg3 rfl rfl ?_)
    refine WL.val (V.iM Tryz.runUnderlying3 Tryz.runUnderlying5 (OV.p rfl)) rfl ?_
    refine WL.val (V.bP dB (OV.p rfl) (OV.p rfl) (fun hc => by first | omega | (simp at hc; omega))) rfl ?_
    refine WL.store (cs := [_]) Tryz.sizeOf5 (OV.p rfl) (OV.p rfl) rfl rfl rfl (by repeat (first | exact aQ.here (cs' := [_, _, _, _, _, _, _, _, _]) rfl rfl | apply aQ.up)) ?_
    refine WL.nil (WC.sr (WL.val (V.fieldAddr Cr (OV.p rfl)) rfl (WL.ld Tryz.isAgg4 rfl rfl ?_)))
    refine WL.nil ?_
    refine WC.cond rfl (fun hc2' => ?_) (fun hc2' => ?_)
    ·try simp only [decide_eq_true_eq, decide_eq_false_iff_not, Bool.and_eq_true, Bool.or_eq_true, Bool.and_eq_false_iff, Bool.or_eq_false_iff, Bool.not_eq_true', Bool.not_eq_false', Bool.not_eq_true, Bool.not_eq_false, Int.not_lt, Int.not_le] at hc2'
     refine WC.region (WL.mv rfl rfl (WL.mv rfl rfl ?_))
     refine WL.val (V.aA (v' := .int .i64 (2)) (V.mul (OV.p rfl) (OV.p rfl)) (fun _ => rfl)) rfl ?_
     refine WL.val (V.aA (v' := .int .i64 (8)) (V.add (OV.p rfl) (OV.p rfl)) (fun _ => rfl)) rfl ?_
     refine WL.val (V.bP dB (OV.p rfl) (OV.p rfl) (fun hc => by first | omega | (simp at hc; omega))) rfl ?_
     refine WL.store (cs := [_]) Tryz.sizeOf5 (OV.p rfl) (OV.p rfl) rfl rfl rfl (by repeat (first | exact aQ.here (cs' := [_, _, _, _, _, _, _, _, _]) rfl rfl | apply aQ.up)) ?_
     refine WL.nil (WC.region ?_)
     refine WL.val (V.aA (v' := .int .i64 (2)) (V.add (OV.p rfl) (OV.p rfl)) (fun _ => rfl)) rfl ?_
     refine WL.mv rfl rfl (WL.nil (WC.sr (WL.val (V.lss (OV.p rfl) (OV.p rfl)) rfl (WL.nil (WC.seq ?_)))))
     refine WC.aM rfl (by first | rfl | (simp; done) | (simp; omega)) ?_
     refine WC.exit (WC.sr (WL.mv rfl rfl (WL.sg rfl rfl (WL.sg rfl rfl (WL.nil (WC.ret ?_))))))
     refine aj.ret (H' := Cells b13 _ (ints .u8 (bW.mk f t0 g0 t1 g1).bytes) :: F) (aL.dJ rfl rfl rfl) (fun w h => ?_) (.inl ⟨hok, b13, rfl, rfl⟩)
     replace h := h.tail.tail.drop2
     refine Sat.aV h ?_
     rw [wrap_u8 (by omega), wrap_u8 (by omega), wrap_u8 (by omega)]
     unfold bW.bytes
     rw [if_pos hok]
     simp [kP, ints, bW.b01, *]
    ·try simp only [decide_eq_true_eq, decide_eq_false_iff_not, Bool.and_eq_true, Bool.or_eq_true, Bool.and_eq_false_iff, Bool.or_eq_false_iff, Bool.not_eq_true', Bool.not_eq_false', Bool.not_eq_true, Bool.not_eq_false, Int.not_lt, Int.not_le] at hc2'
     refine WC.skip (WC.region ?_)
     refine WL.val (V.aA (v' := .int .i64 (2)) (V.add (OV.p rfl) (OV.p rfl)) (fun _ => rfl)) rfl ?_
     refine WL.mv rfl rfl (WL.nil (WC.sr (WL.val (V.lss (OV.p rfl) (OV.p rfl)) rfl (WL.nil (WC.seq ?_)))))
     refine WC.aM rfl (by first | rfl | (simp; done) | (simp; omega)) ?_
     refine WC.exit (WC.sr (WL.mv rfl rfl (WL.sg rfl rfl (WL.sg rfl rfl (WL.nil (WC.ret ?_))))))
     refine aj.ret (H' := Cells b13 _ (ints .u8 (bW.mk f t0 g0 t1 g1).bytes) :: F) (aL.dJ rfl rfl rfl) (fun w h => ?_) (.inl ⟨hok, b13, rfl, rfl⟩)
     replace h := h.tail.tail.drop2
     refine Sat.aV h ?_
     rw [wrap_u8 (by omega), wrap_u8 (by omega), wrap_u8 (by omega)]
     unfold bW.bytes
     rw [if_pos hok]
     simp [kP, ints, bW.b01, *]
namespace bW
def of (xs : List Int) : bW := ⟨xs.getD 4 0, xs.getD 5 0, decide (xs.getD 6 0 = 1), xs.getD 7 0, decide (xs.getD 8 0 = 1)⟩
theorem jZ {s : bW} (h : s.ok = true) : s.bytes.length = 9 := by unfold bytes; rw [if_pos h]; rfl
theorem qd {s : bW} (h : s.ok = true) : aZ s.bytes := by
  have hs := wS h
  unfold bytes
  rw [if_pos h]
  have hb : ∀ b, 0 ≤ b01 b ∧ b01 b < 256 := fun b => by cases b <;> simp [b01]
  have h0 := hb s.g0
  have h1 := hb s.g1
  intro x hx
  simp only [List.mem_cons, List.not_mem_nil, or_false] at hx
  omega
def good (xs : List Int) : Bool := decide (xs.length = 9) && (of xs).ok && decide ((of xs).bytes = xs)
def parse (xs : List Int) : bW × Int := if good xs then (of xs, 0) else (zero, 4)
end bW
theorem DC {A : Option Addr} {m cap : Nat} {xs : List Int} (hx : aZ xs) (K : World) (F : List au) (hs : Seq K F A m 1 (ints .u8 xs)) :
    aG Tryz.prog 88 #[.slice A m cap] K F (.tuple #[(bW.parse xs).1.v, .int .i64 (bW.parse xs).2]) := by
  have hl : xs.length = m := by simpa [ints] using hs.len
  refine Does.enter Tryz.func88 rfl Tryz.ntmps88 rfl ?_
  simp only [aJ, Nat.reduceAdd]
  refine WC.sr ?_
  refine WL.alloc (cs := [(.int .i64 0), (.int .i64 0), (.bool false), (.int .i64 0), (.bool false)]) Tryz.zeroValue58 rfl rfl (fun b2 => ?_)
  refine WL.sg rfl rfl (WL.nil (WC.seq (WC.sr (WL.mv rfl rfl (WL.val (V.len (t := 34) Tryz.runUnderlying34 (OV.p rfl)) rfl (WL.val (V.neq (OV.p rfl) (OV.p rfl)) rfl (WL.nil ?_)))))))
  refine WC.cond rfl (fun hc0 => ?_) (fun hc0 => ?_)
  ·simp only [decide_eq_true_eq, decide_eq_false_iff_not, Bool.and_eq_true, Bool.or_eq_true, Bool.and_eq_false_iff, Bool.or_eq_false_iff, Bool.not_eq_true', Bool.not_eq_false', Bool.not_eq_true, Bool.not_eq_false, Int.not_lt, Int.not_le] at hc0
   refine WC.sr (WL.val (V.build (vs := []) trivial rfl (zl )) rfl ?_)
   refine WL.store (cs := [_, _, _, _, _]) Tryz.sizeOf58 (OV.p rfl) (OV.p rfl) rfl rfl rfl (by repeat (first | exact aQ.here (cs' := [_, _, _, _, _]) rfl rfl | apply aQ.up)) ?_
   refine WL.sg rfl rfl (WL.nil (WC.ret ?_))
   refine aj.ret (H' := F) (aL.two rfl (R1.gF (vs := [_, _, _, _, _]) rfl ⟨Tryz.isAgg58, Tryz.sizeOf58⟩ rfl (by repeat (first | exact aT.gets ⟨rfl, rfl, rfl, rfl, rfl, trivial⟩ | apply aT.up))) (R1.tmp rfl)) (fun w h => by repeat (first | exact h | replace h := h.tail)) ⟨?_, rfl⟩
   unfold bW.parse; rw [if_neg (by simp [bW.good]; omega)]; rfl
  ·simp only [decide_eq_true_eq, decide_eq_false_iff_not, Bool.and_eq_true, Bool.or_eq_true, Bool.and_eq_false_iff, Bool.or_eq_false_iff, Bool.not_eq_true', Bool.not_eq_false', Bool.not_eq_true, Bool.not_eq_false, Int.not_lt, Int.not_le] at hc0
   obtain rfl : m = 9 := by omega
   refine WC.skip (WC.seq ?_)
   refine WC.xC (by kernel_rfl) ?_
   refine WA.t 0 rfl (V.move (OV.p rfl)) ?_
   refine WA.t 1 rfl (V.fu dB (OV.p rfl) (OV.p rfl) (fun hc => by first | omega | (simp at hc; omega)) (fun hc => by repeat (first | exact Seq.fB hs (by first | omega | (simp at hc; omega)) | apply Rd.up))) ?_
   refine WA.t 2 rfl (V.load Tryz.isAgg5 (OV.p rfl) (fun hc => by repeat (first | exact Seq.fB hs (by first | omega | (simp at hc; omega)) | apply Rd.up))) ?_
   refine WA.t 3 rfl (V.tX Tryz.runUnderlying5 Tryz.runUnderlying3 (OV.p rfl) (fun _ => wrap_i64 (aZ.wide hx _))) ?_
   refine WA.t 4 rfl (V.move (OV.p rfl)) ?_
   refine WA.t 5 rfl (V.fu dB (OV.p rfl) (OV.p rfl) (fun hc => by first | omega | (simp at hc; omega)) (fun hc => by repeat (first | exact Seq.fB hs (by first | omega | (simp at hc; omega)) | apply Rd.up))) ?_
   refine WA.t 6 rfl (V.load Tryz.isAgg5 (OV.p rfl) (fun hc => by repeat (first | exact Seq.fB hs (by first | omega | (simp at hc; omega)) | apply Rd.up))) ?_
   refine WA.t 7 rfl (V.tX Tryz.runUnderlying5 Tryz.runUnderlying3 (OV.p rfl) (fun _ => wrap_i64 (aZ.wide hx _))) ?_
   refine WA.t 8 rfl (V.move (OV.p rfl)) ?_
   refine WA.t 9 rfl (V.fu dB (OV.p rfl) (OV.p rfl) (fun hc => by first | omega | (simp at hc; omega)) (fun hc => by repeat (first | exact Seq.fB hs (by first | omega | (simp at hc; omega)) | apply Rd.up))) ?_
   refine WA.t 10 rfl (V.load Tryz.isAgg5 (OV.p rfl) (fun hc => by repeat (first | exact Seq.fB hs (by first | omega | (simp at hc; omega)) | apply Rd.up))) ?_
   refine WA.t 11 rfl (V.eql (OV.p rfl) (OV.p rfl)) (WA.t 12 rfl (V.build (vs := [(0, _), (1, _)]) ⟨OV.p rfl, OV.p rfl, trivial⟩ rfl (AQ _ _)) (WA.t 13 rfl (V.move (OV.p rfl)) ?_))
   refine WA.t 14 rfl (V.fu dB (OV.p rfl) (OV.p rfl) (fun hc => by first | omega | (simp at hc; omega)) (fun hc => by repeat (first | exact Seq.fB hs (by first | omega | (simp at hc; omega)) | apply Rd.up))) ?_
   refine WA.t 15 rfl (V.load Tryz.isAgg5 (OV.p rfl) (fun hc => by repeat (first | exact Seq.fB hs (by first | omega | (simp at hc; omega)) | apply Rd.up))) ?_
   refine WA.t 16 rfl (V.tX Tryz.runUnderlying5 Tryz.runUnderlying3 (OV.p rfl) (fun _ => wrap_i64 (aZ.wide hx _))) ?_
   refine WA.t 17 rfl (V.move (OV.p rfl)) ?_
   refine WA.t 18 rfl (V.fu dB (OV.p rfl) (OV.p rfl) (fun hc => by first | omega | (simp at hc; omega)) (fun hc => by repeat (first | exact Seq.fB hs (by first | omega | (simp at hc; omega)) | apply Rd.up))) ?_
   refine WA.t 19 rfl (V.load Tryz.isAgg5 (OV.p rfl) (fun hc => by repeat (first | exact Seq.fB hs (by first | omega | (simp at hc; omega)) | apply Rd.up))) ?_
   refine WA.t 20 rfl (V.eql (OV.p rfl) (OV.p rfl)) (WA.t 21 rfl (V.build (vs := [(0, _), (1, _)]) ⟨OV.p rfl, OV.p rfl, trivial⟩ rfl (AQ _ _)) (WA.t 22 rfl (V.build (vs := [(0, _), (1, _)]) ⟨OV.p rfl, OV.p rfl, trivial⟩ rfl (IJ _ _ _ _)) (WA.t 23 rfl (V.build (vs := [(0, _), (1, _)]) ⟨OV.p rfl, OV.p rfl, trivial⟩ rfl (Io _ _ _ _ _)) (WA.o 24 rfl ?_))))
   refine WL.alloc (cs := [(.int .i64 0), (.int .i64 0), (.bool false), (.int .i64 0), (.bool false)]) Tryz.zeroValue58 rfl rfl (fun b4 => ?_)
   refine WL.nil (WA.o 25 rfl ?_)
   refine WL.store (cs := [_, _, _, _, _]) Tryz.sizeOf58 (OV.p rfl) (OV.p rfl) rfl rfl rfl (by repeat (first | exact aQ.here (cs' := [_, _, _, _, _]) rfl rfl | apply aQ.up)) ?_
   refine WL.nil (WA.fin (WC.seq (WC.sr ?_)))
   refine WL.val (V.aU (vs := [_, _, _, _, _]) ⟨Tryz.isAgg58, Tryz.sizeOf58⟩ (OV.p rfl) rfl (fun _ => by repeat (first | exact aT.gets ⟨rfl, rfl, rfl, rfl, rfl, trivial⟩ | apply aT.up))) rfl ?_
   refine WL.call (vs := [_]) Tryz.call131 ⟨OV.p rfl, trivial⟩ (wh (bW.of xs) _ _) rfl ?_
   rintro v H' (⟨hok, bb, rfl, rfl⟩ | ⟨hok, rfl, rfl⟩)
   all_goals
    refine WL.mv rfl rfl (WL.xt rfl rfl rfl (WL.xt rfl rfl rfl (WL.sg rfl rfl (WL.sg rfl rfl (WL.nil (WC.sr (WL.mv rfl rfl (WL.val (V.neq (OV.p rfl) (OV.p rfl)) rfl (WL.mv rfl rfl (WL.ah (oj := _) rfl rfl rfl GC.f (V.move (OV.p rfl)) rfl ?_))))))))))
    refine WL.ah (oj := _) rfl rfl rfl GC.f (V.tC Tryz.underlying34 Tryz.underlying5 Tryz.underlying9 (OV.g rfl id) (fun hc => by first | exact Seq.Np | exact Seq.allI (bW.jZ hok))) rfl ?_
    refine WL.ah (oj := _) rfl rfl rfl GC.f (V.move (OV.p rfl)) rfl ?_
    refine WL.ah (oj := _) rfl rfl rfl GC.f (V.tC Tryz.underlying34 Tryz.underlying5 Tryz.underlying9 (OV.g rfl id) (fun hc => by repeat (first | exact Seq.Np | exact Seq.allI (by simp) | assumption | apply Seq.up))) rfl ?_
    refine WL.ah (oj := _) rfl rfl rfl GC.f (V.P5 (OV.g rfl id) (OV.g rfl id)) rfl (WL.val (V.aS (OV.p rfl) (OV.g rfl id)) rfl (WL.nil ?_))
    refine WC.cond rfl (fun hc1 => ?_) (fun hc1 => ?_)
    ·skip
     have Rk : bW.good xs = false := by first | (simp [bW.good, hok]; done) | (rw [str_eq (bW.qd hok) hx] at hc1; simp at hc1; simp [bW.good, hc1])
     refine WC.sr (WL.val (V.build (vs := []) trivial rfl (zl )) rfl ?_)
     refine WL.store (cs := [_, _, _, _, _]) Tryz.sizeOf58 (OV.p rfl) (OV.p rfl) rfl rfl rfl (by repeat (first | exact aQ.here (cs' := [_, _, _, _, _]) rfl rfl | apply aQ.up)) ?_
     refine WL.sg rfl rfl (WL.nil (WC.ret ?_))
     refine aj.ret (H' := F) (aL.two rfl (R1.gF (vs := [_, _, _, _, _]) rfl ⟨Tryz.isAgg58, Tryz.sizeOf58⟩ rfl (by repeat (first | exact aT.gets ⟨rfl, rfl, rfl, rfl, rfl, trivial⟩ | apply aT.up))) (R1.tmp rfl)) (fun w h => by repeat (first | exact h | replace h := h.tail)) ⟨?_, rfl⟩
     unfold bW.parse; rw [if_neg (by simp [Rk])]; rfl
    ·skip
     have hg : bW.good xs = true := by first | (exfalso; revert hc1; simp; done) | (rw [str_eq (bW.qd hok) hx] at hc1; simp at hc1; simp [bW.good, hok, hl, hc1])
     refine WC.skip (WC.sr ?_)
     refine WL.val (V.aU (vs := [_, _, _, _, _]) ⟨Tryz.isAgg58, Tryz.sizeOf58⟩ (OV.p rfl) rfl (fun _ => by repeat (first | exact aT.gets ⟨rfl, rfl, rfl, rfl, rfl, trivial⟩ | apply aT.up))) rfl ?_
     refine WL.store (cs := [_, _, _, _, _]) Tryz.sizeOf58 (OV.p rfl) (OV.p rfl) rfl rfl rfl (by repeat (first | exact aQ.here (cs' := [_, _, _, _, _]) rfl rfl | apply aQ.up)) ?_
     refine WL.sg rfl rfl (WL.nil (WC.ret ?_))
     refine aj.ret (H' := F) (aL.two rfl (R1.gF (vs := [_, _, _, _, _]) rfl ⟨Tryz.isAgg58, Tryz.sizeOf58⟩ rfl (by repeat (first | exact aT.gets ⟨rfl, rfl, rfl, rfl, rfl, trivial⟩ | apply aT.up))) (R1.tmp rfl)) (fun w h => by repeat (first | exact h | replace h := h.tail)) ⟨?_, rfl⟩
     unfold bW.parse; rw [if_pos hg]; rfl
end Go.Proofs.YtcedojacbhnbiaaGreat
