import Derived.Test.YtcmojpiokjhmhaaGreatP15
import Derived.Test.YtcmojpiokjhmhaaGreatP14
namespace Go.Proofs.YtcmojpiokjhmhaaGreat
open Go.Sl Go.RowKit
set_option linter.unusedVariables false
set_option linter.unusedSimpArgs false
set_option maxRecDepth 20000
def dU (xs : List Int) : List Nat := xs.map Int.toNat
theorem xP {xs : List Int} (h : bF xs) : ints .u8 xs = aA .u8 (dU xs) := by
  unfold ints aA dU
  rw [List.map_map]
  apply List.map_congr_left
  intro x hx
  have := h x hx
  show Value.int .u8 x = Value.int .u8 ((x.toNat : Nat) : Int)
  congr 1; omega
theorem vO {xs : List Int} (h : bF xs) : Small 256 (dU xs) := fun y hy => by
  obtain ⟨x, hx, rfl⟩ := List.mem_map.1 hy
  have := h x hx; omega
theorem mX (xs : List Int) : (dU xs).length = xs.length := by simp [dU]
def aZ (xs : List Nat) : List Int := xs.map fun x : Nat => (x : Int)
theorem oI {xs : List Nat} (h : Small 256 xs) : bF (aZ xs) := fun y hy => by
  obtain ⟨x, hx, rfl⟩ := List.mem_map.1 hy
  have := h x hx; omega
theorem jN (xs : List Nat) : dU (aZ xs) = xs := by
  unfold dU aZ
  rw [List.map_map]
  conv => rhs; rw [← List.map_id xs]
  apply List.map_congr_left
  intro x _; rfl
theorem l5 (k : IntKind) (xs : List Nat) : aA k xs = ints k (aZ xs) := wo k xs
namespace ah
def ahead (S : ah) (b p : Int) (ok : Bool) : Int := if S.up = false then 70 else if b < 0 ∨ S.g.bl ≤ b ∨ p < 0 ∨ S.g.pg ≤ p ∨ ok = false then 1 else if S.bad b then 73 else 0
def done (b : Int) (x : ah × Int) : ah × Int := if x.2 ≠ 72 then x else if (x.1.mark b).2 ≠ 0 then x.1.mark b else ((x.1.mark b).1, 72)
def aM (S : ah) (b : Int) : ah × Int := if S.ahead b 0 true ≠ 0 then (S, S.ahead b 0 true) else done b (S.erase b)
end ah
abbrev bK (bd bc : Nat) (g : Geo) : ak := Cells bd 120 [ptr bc 0, .int .i64 g.bl, .int .i64 g.pg, .int .i64 g.se, .int .i64 g.sb, .int .i64 g.fl]
section
variable {bc bd : Nat} {C : Cw} {K : World} {F : List ak}
theorem Jh (hC : C.Ok) : Does Tryz.prog 48 #[ptr bc 0] K (C.A bc :: F) (fun v H' => ∃ bd, v = .tuple #[ptr bd 0, .int .i64 0] ∧ H' = C.A bc :: bK bd bc C.g :: F) := by
  refine Does.enter Tryz.func48 rfl Tryz.ntmps48 rfl ?_
  simp only [aI, Nat.reduceAdd]
  refine WC.sr (WL.sg rfl rfl (WL.sg rfl rfl (WL.nil (WC.seq (WC.sr (WL.mv rfl rfl (WL.val (V.lQ Tryz.underlying28 (OV.p rfl) (OV.p rfl)) rfl (WL.nil ?_))))))))
  refine WC.aQ rfl (by first | rfl | (simp; done) | (simp; omega)) ?_
  refine WC.skip (WC.sr (WL.mv rfl rfl (WL.mv rfl rfl (WL.call (vs := [_]) Tryz.call79 ⟨OV.p rfl, trivial⟩ (BO) rfl ?_))))
  rintro _ H0 ⟨rfl, h0⟩
  subst H0
  refine WL.val (V.build (vs := [(0, _), (1, _)]) ⟨OV.p rfl, OV.p rfl, trivial⟩ rfl (GD _ _ _ _ _ _)) rfl ?_
  refine WL.box (cs := [_, _, _, _, _, _]) (OV.p rfl) rfl rfl (fun b10 => ?_)
  refine WL.sg rfl rfl (WL.sg rfl rfl (WL.nil (WC.ret ?_)))
  exact au.ret (H' := C.A bc :: bK b10 bc C.g :: F) (aO.fD rfl rfl rfl) (fun w h => h.p1) ⟨b10, rfl, rfl⟩
theorem iw {g : Geo} : aL Tryz.prog 74 #[ptr bd 0] K (C.A bc :: bK bd bc g :: F) g.v := by
  refine Does.enter Tryz.func74 rfl Tryz.ntmps74 rfl ?_
  simp only [aI, Nat.reduceAdd]
  refine WC.sr ?_
  refine WL.alloc (cs := [(.int .i64 0), (.int .i64 0), (.int .i64 0), (.int .i64 0), (.int .i64 0)]) Tryz.zeroValue23 rfl rfl (fun b2 => ?_)
  refine WL.nil (WC.seq (WC.sr (WL.mv rfl rfl (WL.val (V.lQ Tryz.underlying58 (OV.p rfl) (OV.p rfl)) rfl (WL.nil ?_)))))
  refine WC.aQ rfl (by first | rfl | (simp; done) | (simp; omega)) ?_
  refine WC.skip (WC.sr (WL.mv rfl rfl (WL.nc rfl rfl (WL.val (V.fieldAddr rM (OV.p rfl)) rfl ?_))))
  refine WL.val (V.bB (vs := [_, _, _, _, _]) ⟨Tryz.isAgg23, Tryz.sizeOf23⟩ (OV.p rfl) rfl (fun _ => by repeat (first | exact bD.gets ⟨rfl, rfl, rfl, rfl, rfl, trivial⟩ | apply bD.up))) rfl ?_
  refine WL.store (cs := [_, _, _, _, _]) Tryz.sizeOf23 (OV.p rfl) (OV.p rfl) rfl rfl rfl (by repeat (first | exact bA.here (cs' := [_, _, _, _, _]) rfl rfl | apply bA.up)) ?_
  refine WL.nil (WC.ret ?_)
  exact au.ret (H' := C.A bc :: bK bd bc g :: F) (aO.one rfl (R1.xZ (vs := [_, _, _, _, _]) rfl ⟨Tryz.isAgg23, Tryz.sizeOf23⟩ rfl (by repeat (first | exact bD.gets ⟨rfl, rfl, rfl, rfl, rfl, trivial⟩ | apply bD.up)))) (fun w h => h.drop 1) ⟨rfl, rfl⟩
theorem mJ (b p : Int) (ok : Bool) : aL Tryz.prog 89 #[ptr bd 0, .int .i64 b, .int .i64 p, .bool ok] K (C.A bc :: bK bd bc C.g :: F) (.int .i64 (C.sem.ahead b p ok)) := by
  refine Does.enter Tryz.func89 rfl Tryz.ntmps89 rfl ?_
  simp only [aI, Nat.reduceAdd]
  refine WC.sr (WL.sg rfl rfl (WL.nil (WC.seq (WC.block (WC.sr (WL.mv rfl rfl (WL.val (V.lQ Tryz.underlying58 (OV.p rfl) (OV.p rfl)) rfl (WL.sg rfl rfl (WL.nil ?_)))))))))
  refine WC.aQ rfl (by first | rfl | (simp; done) | (simp; omega)) ?_
  refine WC.sr (WL.mv rfl rfl (WL.nc rfl rfl (WL.val (V.fieldAddr jM (OV.p rfl)) rfl (WL.ld Tryz.isAgg28 rfl rfl ?_))))
  refine WL.call (vs := [_]) Tryz.call110 ⟨OV.p rfl, trivial⟩ (IC) rfl ?_
  rintro _ H0 ⟨rfl, h0⟩
  subst H0
  refine WL.val (V.not (OV.p rfl)) rfl (WL.sg rfl rfl (WL.nil ?_))
  refine WC.cond rfl (fun hc1 => ?_) (fun hc1 => ?_)
  ·simp only [Bool.not_eq_true', Bool.not_eq_false'] at hc1
   have hup := hc1
   refine WC.sr (WL.sg rfl rfl (WL.nil (WC.ret ?_)))
   exact au.ret (H' := C.A bc :: bK bd bc C.g :: F) (aO.tmp rfl rfl) (fun w h => h) ⟨by unfold ah.ahead; rw [if_pos (show C.sem.up = false from hup)], rfl⟩
  ·simp only [Bool.not_eq_true', Bool.not_eq_false'] at hc1
   have hup := hc1
   refine WC.sr (WL.mv rfl rfl (WL.val (V.lss (OV.p rfl) (OV.p rfl)) rfl (WL.mv rfl rfl (WL.av (oj := _) rfl rfl rfl GC.f (V.move (OV.p rfl)) rfl (WL.av (oj := _) rfl rfl rfl GC.f (V.move (OV.p rfl)) rfl (WL.av (oj := _) rfl rfl rfl GC.f (V.nilCheck (OV.g rfl id)) rfl (WL.av (oj := _) rfl rfl rfl GC.f (V.fieldAddr rM (OV.g rfl id)) rfl (WL.av (oj := _) rfl rfl rfl GC.f (V.fieldAddr jI (OV.g rfl id)) rfl ?_))))))))
   refine WL.av (oj := _) rfl rfl rfl GC.f (V.load Tryz.isAgg3 (OV.g rfl id) (fun _ => by repeat (first | exact Rd.here rfl | apply Rd.up))) rfl ?_
   refine WL.av (oj := _) rfl rfl rfl GC.f (V.geq (OV.g rfl id) (OV.g rfl id)) rfl (WL.val (V.bH (OV.p rfl) (OV.g rfl id)) rfl (WL.mv rfl rfl (WL.av (oj := _) rfl rfl rfl GC.f (V.move (OV.p rfl)) rfl (WL.av (oj := _) rfl rfl rfl GC.f (V.lss (OV.g rfl id) (OV.p rfl)) rfl (WL.val (V.bH (OV.p rfl) (OV.g rfl id)) rfl (WL.mv rfl rfl (WL.av (oj := _) rfl rfl rfl GC.f (V.move (OV.p rfl)) rfl (WL.av (oj := _) rfl rfl rfl GC.f (V.move (OV.p rfl)) rfl (WL.av (oj := _) rfl rfl rfl GC.f (V.nilCheck (OV.g rfl id)) rfl (WL.av (oj := _) rfl rfl rfl GC.f (V.fieldAddr rM (OV.g rfl id)) rfl (WL.av (oj := _) rfl rfl rfl GC.f (V.fieldAddr nR (OV.g rfl id)) rfl ?_)))))))))))
   refine WL.av (oj := _) rfl rfl rfl GC.f (V.load Tryz.isAgg3 (OV.g rfl id) (fun _ => by repeat (first | exact Rd.here rfl | apply Rd.up))) rfl ?_
   refine WL.av (oj := _) rfl rfl rfl GC.f (V.geq (OV.g rfl id) (OV.g rfl id)) rfl (WL.val (V.bH (OV.p rfl) (OV.g rfl id)) rfl (WL.mv rfl rfl (WL.av (oj := _) rfl rfl rfl GC.f (V.move (OV.p rfl)) rfl (WL.av (oj := _) rfl rfl rfl GC.f (V.not (OV.g rfl id)) rfl (WL.val (V.bH (OV.p rfl) (OV.g rfl id)) rfl (WL.sg rfl rfl (WL.nil ?_)))))))
   refine WC.cond rfl (fun hc2 => ?_) (fun hc2 => ?_)
   ·simp only [Bool.or_eq_true, Bool.or_eq_false_iff, decide_eq_true_eq, decide_eq_false_iff_not, Bool.not_eq_true', Bool.not_eq_false'] at hc2
    have h2 := hc2
    refine WC.sr (WL.sg rfl rfl (WL.nil (WC.ret ?_)))
    exact au.ret (H' := C.A bc :: bK bd bc C.g :: F) (aO.tmp rfl rfl) (fun w h => h) ⟨by unfold ah.ahead; rw [if_neg (show ¬ C.sem.up = false by rw [show C.sem.up = C.up from rfl, hup]; decide), if_pos (by show b < 0 ∨ C.g.bl ≤ b ∨ p < 0 ∨ C.g.pg ≤ p ∨ ok = false; simp only [or_assoc] at h2; exact h2)], rfl⟩
   ·simp only [Bool.or_eq_true, Bool.or_eq_false_iff, decide_eq_true_eq, decide_eq_false_iff_not, Bool.not_eq_true', Bool.not_eq_false'] at hc2
    have h2 := hc2
    refine WC.sr (WL.mv rfl rfl (WL.nc rfl rfl (WL.val (V.fieldAddr jM (OV.p rfl)) rfl (WL.ld Tryz.isAgg28 rfl rfl ?_))))
    refine WL.mv rfl rfl (WL.call (vs := [_, _]) Tryz.call17 ⟨OV.p rfl, OV.p rfl, trivial⟩ (Gl b) rfl ?_)
    rintro _ H0 ⟨rfl, h0⟩
    subst H0
    refine WL.sg rfl rfl (WL.nil ?_)
    refine WC.cond rfl (fun hc3 => ?_) (fun hc3 => ?_)
    ·skip
     have h3 := hc3
     refine WC.sr (WL.sg rfl rfl (WL.nil (WC.ret ?_)))
     exact au.ret (H' := C.A bc :: bK bd bc C.g :: F) (aO.tmp rfl rfl) (fun w h => h) ⟨by unfold ah.ahead; rw [if_neg (show ¬ C.sem.up = false by rw [show C.sem.up = C.up from rfl, hup]; decide), if_neg (by show ¬ (b < 0 ∨ C.g.bl ≤ b ∨ p < 0 ∨ C.g.pg ≤ p ∨ ok = false); obtain ⟨⟨⟨⟨q1, q2⟩, q3⟩, q4⟩, q5⟩ := h2; rw [q5]; simp; omega), if_pos h3], rfl⟩
    ·skip
     have h3 := hc3
     refine WC.skip (WC.sr (WL.sg rfl rfl (WL.nil (WC.ret ?_))))
     exact au.ret (H' := C.A bc :: bK bd bc C.g :: F) (aO.tmp rfl rfl) (fun w h => h) ⟨by unfold ah.ahead; rw [if_neg (show ¬ C.sem.up = false by rw [show C.sem.up = C.up from rfl, hup]; decide), if_neg (by show ¬ (b < 0 ∨ C.g.bl ≤ b ∨ p < 0 ∨ C.g.pg ≤ p ∨ ok = false); obtain ⟨⟨⟨⟨q1, q2⟩, q3⟩, q4⟩, q5⟩ := h2; rw [q5]; simp; omega), if_neg (by rw [h3]; decide)], rfl⟩
theorem Gf (hC : C.Ok) (b e : Int) : Does Tryz.prog 90 #[.int .i64 b, .int .i64 e, .func (.func 92) #[ptr bc 0] #[]] K (C.A bc :: F)
    (fun v H' => ∃ C' : Cw, C'.Ok ∧ H' = C'.A bc :: F ∧ C'.sem = (ah.done b (C.sem, e)).1 ∧ v = .int .i64 (ah.done b (C.sem, e)).2) := by
  refine Does.enter Tryz.func90 rfl Tryz.ntmps90 rfl ?_
  simp only [aI, Nat.reduceAdd]
  refine WC.sr (WL.sg rfl rfl (WL.nil (WC.seq (WC.sr (WL.mv rfl rfl (WL.val (V.neq (OV.p rfl) (OV.p rfl)) rfl (WL.nil ?_)))))))
  refine WC.cond rfl (fun hc0 => ?_) (fun hc0 => ?_)
  ·simp only [decide_eq_true_eq, decide_eq_false_iff_not, Bool.not_eq_true', Bool.not_eq_false'] at hc0
   have h0 := hc0
   have hd : ah.done b (C.sem, e) = (C.sem, e) := by unfold ah.done; rw [if_pos hc0]
   refine WC.sr (WL.mv rfl rfl (WL.sg rfl rfl (WL.nil (WC.ret ?_))))
   exact au.ret (H' := C.A bc :: F) (aO.tmp rfl rfl) (fun w h => h) ⟨C, hC, rfl, by rw [hd], by rw [hd]⟩
  ·simp only [decide_eq_true_eq, decide_eq_false_iff_not, Bool.not_eq_true', Bool.not_eq_false'] at hc0
   have h0 := hc0
   have hd : ah.done b (C.sem, e) = if (C.sem.mark b).2 ≠ 0 then C.sem.mark b else ((C.sem.mark b).1, 72) := by unfold ah.done; rw [if_neg (by simpa using hc0)]
   refine WC.skip (WC.seq (WC.sr (WL.mv rfl rfl (WL.mv rfl rfl (WL.mg (first := [ptr bc 0]) (vs := [_]) (captured := []) Tryz.call92 (OV.p rfl) ⟨OV.p rfl, trivial⟩ (JW hC b) rfl ?_)))))
   rintro _ _ ⟨C1, Ir, rfl, s1, rfl⟩
   refine WL.sg rfl rfl (WL.nil (WC.sr (WL.mv rfl rfl (WL.val (V.neq (OV.p rfl) (OV.p rfl)) rfl (WL.nil ?_)))))
   refine WC.cond rfl (fun hc1 => ?_) (fun hc1 => ?_)
   ·simp only [decide_eq_true_eq, decide_eq_false_iff_not, Bool.not_eq_true', Bool.not_eq_false'] at hc1
    rw [if_pos hc1] at hd
    refine WC.sr (WL.mv rfl rfl (WL.sg rfl rfl (WL.nil (WC.ret ?_))))
    exact au.ret (H' := C1.A bc :: F) (aO.tmp rfl rfl) (fun w h => h) ⟨C1, Ir, rfl, by rw [hd, s1], by rw [hd]⟩
   ·simp only [decide_eq_true_eq, decide_eq_false_iff_not, Bool.not_eq_true', Bool.not_eq_false'] at hc1
    rw [if_neg (by simpa using hc1)] at hd
    refine WC.skip (WC.sr (WL.mv rfl rfl (WL.sg rfl rfl (WL.nil (WC.ret ?_)))))
    exact au.ret (H' := C1.A bc :: F) (aO.tmp rfl rfl) (fun w h => h) ⟨C1, Ir, rfl, by rw [hd, s1], by rw [hd, h0]⟩
theorem Fg (hC : C.Ok) (b : Int) : Does Tryz.prog 58 #[ptr bd 0, .int .i64 b] K (C.A bc :: bK bd bc C.g :: F)
    (fun v H' => ∃ C' : Cw, C'.Ok ∧ H' = C'.A bc :: bK bd bc C.g :: F ∧ C'.sem = (C.sem.aM b).1 ∧ v = .int .i64 (C.sem.aM b).2) := by
  refine Does.enter Tryz.func58 rfl Tryz.ntmps58 rfl ?_
  simp only [aI, Nat.reduceAdd]
  refine WC.sr (WL.sg rfl rfl (WL.nil (WC.seq (WC.sr (WL.mv rfl rfl (WL.mv rfl rfl (WL.call (vs := [_, _, _, _]) Tryz.call89 ⟨OV.p rfl, OV.p rfl, OV.p rfl, OV.p rfl, trivial⟩ (mJ b 0 true) rfl ?_)))))))
  rintro _ H0 ⟨rfl, h0⟩
  subst H0
  refine WL.sg rfl rfl (WL.nil (WC.sr (WL.mv rfl rfl (WL.val (V.neq (OV.p rfl) (OV.p rfl)) rfl (WL.nil ?_)))))
  refine WC.cond rfl (fun hc0 => ?_) (fun hc0 => ?_)
  ·simp only [decide_eq_true_eq, decide_eq_false_iff_not, Bool.not_eq_true', Bool.not_eq_false'] at hc0
   have hd : C.sem.aM b = (C.sem, C.sem.ahead b 0 true) := by unfold ah.aM; rw [if_pos hc0]
   refine WC.sr (WL.mv rfl rfl (WL.sg rfl rfl (WL.nil (WC.ret ?_))))
   exact au.ret (H' := C.A bc :: bK bd bc C.g :: F) (aO.tmp rfl rfl) (fun w h => h) ⟨C, hC, rfl, by rw [hd], by rw [hd]⟩
  ·simp only [decide_eq_true_eq, decide_eq_false_iff_not, Bool.not_eq_true', Bool.not_eq_false'] at hc0
   have hd : C.sem.aM b = ah.done b (C.sem.erase b) := by unfold ah.aM; rw [if_neg (by simpa using hc0)]
   refine WC.skip (WC.seq ?_)
   refine WC.dR (bK bd bc C.g :: F) (by kernel_rfl) ?_
   refine WA.t 0 rfl (V.move (OV.p rfl)) (WA.t 1 rfl (V.move (OV.p rfl)) (WA.t 2 rfl (V.nilCheck (OV.p rfl)) (WA.t 3 rfl (V.fieldAddr jM (OV.p rfl)) ?_)))
   refine WA.t 4 rfl (V.load Tryz.isAgg28 (OV.p rfl) (fun _ => by repeat (first | exact Rd.here rfl | apply Rd.up))) ?_
   refine WA.t 5 rfl (V.move (OV.p rfl)) (WA.t 7 rfl (V.move (OV.p rfl)) (WA.t 8 rfl (V.nilCheck (OV.p rfl)) (WA.t 9 rfl (V.fieldAddr jM (OV.p rfl)) ?_)))
   refine WA.t 10 rfl (V.load Tryz.isAgg28 (OV.p rfl) (fun _ => by repeat (first | exact Rd.here rfl | apply Rd.up))) ?_
   refine WA.t 11 rfl (V.makeFunc (us := [_]) (vs := []) ⟨OV.p rfl, trivial⟩ trivial) (WA.o 6 rfl (WL.call (vs := [_, _]) Tryz.call91 ⟨OV.p rfl, OV.p rfl, trivial⟩ (Hz hC b) rfl ?_))
   rintro _ _ ⟨C1, Ir, rfl, s1, rfl⟩
   refine WL.nil (WA.o 12 rfl (WL.call (vs := [_, _, _]) Tryz.call90 ⟨OV.p rfl, OV.p rfl, OV.p rfl, trivial⟩ (Gf Ir b _) rfl ?_))
   rintro _ _ ⟨C2, hC2, rfl, s2, rfl⟩
   refine WL.nil (WA.t 13 rfl (V.assign (OV.p rfl)) (WA.fin (WC.ret ?_)))
   exact au.ret (H' := C2.A bc :: bK bd bc C.g :: F) (aO.tmp rfl rfl) (fun w h => h) ⟨C2, hC2, rfl, by rw [hd, s2, s1], by rw [hd, s1]⟩
end
namespace ah
def room (S : ah) : Nat := S.g.se.toNat * S.g.sb.toNat
def dw (g : Geo) (d : List Nat) : List Nat := jD g.fl.toNat g.se.toNat g.sb.toNat d
def bO (S : ah) (b p : Int) (d : List Nat) : ah × Int :=
  if S.ahead b p (decide (d.length = S.room)) ≠ 0 then (S, S.ahead b p (decide (d.length = S.room))) else done b (S.program b p (aZ (dw S.g d)))
structure Got where
  err : Int
  d : List Nat
  n : Nat
def fJ (S : ah) (b p : Int) : List Nat := dU (S.reads b p)
def aY (S : ah) (b p : Int) : Got :=
  if S.ahead b p true ≠ 0 then ⟨S.ahead b p true, [], 0⟩
  else ⟨(dD S.g.fl.toNat S.g.se.toNat S.g.sb.toNat (S.fJ b p)).err, (dD S.g.fl.toNat S.g.se.toNat S.g.sb.toNat (S.fJ b p)).d, (dD S.g.fl.toNat S.g.se.toNat S.g.sb.toNat (S.fJ b p)).n⟩
def ku (S : ah) (b p : Int) : Nat := dW S.g.fl.toNat S.g.se.toNat (S.g.sb.toNat + ay S.g.fl.toNat) (S.fJ b p)
def iB (S : ah) (b : Int) : Nat → Bool
  | 0 => true
  | k + 1 => iB S b k && decide (S.ku b (k : Nat) = 0)
def jC (S : ah) (b n : Int) : Bool × Int :=
  if S.ahead b 0 (decide (0 ≤ n) && decide (n ≤ S.g.pg)) = 73 then (false, 0)
  else if S.ahead b 0 (decide (0 ≤ n) && decide (n ≤ S.g.pg)) ≠ 0 then (false, S.ahead b 0 (decide (0 ≤ n) && decide (n ≤ S.g.pg)))
  else (S.iB b n.toNat, 0)
def dK (S : ah) : Nat → List Int
  | 0 => []
  | k + 1 => if (S.up && !S.bad (k : Int)) = true then dK S k ++ [(k : Int)] else dK S k
def good (S : ah) : List Int := S.dK S.g.bl.toNat
theorem fF (S : ah) : ∀ k, (S.dK k).length ≤ k
  | 0 => Nat.le_refl _
  | k + 1 => by
    have := fF S k
    rw [dK]; split
    · rw [List.length_append]; simp; omega
    · omega
theorem ahead_zero {S : ah} {b p : Int} {ok : Bool} (h : S.ahead b p ok = 0) : S.up = true ∧ (0 ≤ b ∧ b < S.g.bl ∧ 0 ≤ p ∧ p < S.g.pg) ∧ ok = true ∧ S.bad b = false := by
  unfold ahead at h
  split at h
  · cases h
  · rename_i h1
    split at h
    · cases h
    · rename_i h2
      split at h
      · cases h
      · rename_i h3
        cases hok : ok with
        | false => exact absurd (.inr (.inr (.inr (.inr hok)))) h2
        | true => exact ⟨by simpa using h1, by omega, rfl, by simpa using h3⟩
theorem Kh {S : ah} {b p : Int} {ok : Bool} (h : S.ahead b p ok = 0) : S.eD b p = 0 := by
  obtain ⟨h1, h2, _, _⟩ := ahead_zero h
  unfold eD page block
  rw [if_neg (by rw [h1]; decide), if_neg (by simp; omega)]
end ah
theorem iG {g : Geo} (h : g.aD) : g = NG g.bl g.pg g.se.toNat g.sb.toNat g.fl.toNat := by
  unfold Geo.aD at h
  obtain ⟨a, b, c, d, e⟩ := g
  dsimp only at h ⊢
  unfold NG
  congr 1 <;> omega
theorem Geo.nP {g : Geo} (h : g.aD) : g.raw = ((fJ g.se.toNat g.sb.toNat g.fl.toNat : Nat) : Int) := by
  have h1 := NG.raw (bl := g.bl) (pg := g.pg) (S := g.se.toNat) (B := g.sb.toNat) (t := g.fl.toNat)
  rw [← iG h] at h1
  exact h1
theorem Geo.zk {g : Geo} (h : g.aD) : g.room = ((g.se.toNat * g.sb.toNat : Nat) : Int) := by
  have h1 := NG.room (bl := g.bl) (pg := g.pg) (S := g.se.toNat) (B := g.sb.toNat) (t := g.fl.toNat)
  rw [← iG h] at h1
  exact h1
section
variable {bc bd : Nat} {C : Cw} {K : World} {F : List ak}
theorem JV {g : Geo} {A : Option Addr} {m cap : Nat} {d : List Nat} (hg : g.aD) (hd : Seq K F A m 1 (aA .u8 d)) (h8 : Small 256 d) (hm : m = g.se.toNat * g.sb.toNat) (hmc : m ≤ cap) :
    Does Tryz.prog 114 #[g.v, .slice A m cap] K F
      (fun v H' => ∃ A' cap', v = .tuple #[.slice A' g.raw.toNat cap', .int .i64 0] ∧ H' = aU (.slice A' g.raw.toNat cap') 5 1 g.raw.toNat (aA .u8 (ah.dw g d)) :: F) := by
  have h := K8 (bl := g.bl) (pg := g.pg) (S := g.se.toNat) (B := g.sb.toNat) (t := g.fl.toNat) (by rw [← iG hg]; exact hg) hd h8 hm hmc
  rw [← iG hg] at h
  rw [Geo.nP hg, Int.toNat_natCast]
  exact h
theorem Jd {g : Geo} {A : Option Addr} {m cap : Nat} {raw : List Nat} (hg : g.aD) (hr : Seq K F A m 1 (aA .u8 raw)) (h8 : Small 256 raw) (hm : m = g.raw.toNat) (hmc : m ≤ cap) :
    Does Tryz.prog 97 #[g.v, .slice A m cap] K F
      (fun v H' => ∃ A' cap', v = .tuple #[.slice A' (dD g.fl.toNat g.se.toNat g.sb.toNat raw).d.length cap', .int .i64 ((dD g.fl.toNat g.se.toNat g.sb.toNat raw).n : Nat), .int .i64 ((dD g.fl.toNat g.se.toNat g.sb.toNat raw).err : Nat)] ∧
        H' = aU (.slice A' (dD g.fl.toNat g.se.toNat g.sb.toNat raw).d.length cap') 5 1 (dD g.fl.toNat g.se.toNat g.sb.toNat raw).d.length (aA .u8 (dD g.fl.toNat g.se.toNat g.sb.toNat raw).d) :: F) := by
  have h := Lj (bl := g.bl) (pg := g.pg) (S := g.se.toNat) (B := g.sb.toNat) (t := g.fl.toNat) (by rw [← iG hg]; exact hg) hr h8 (by rw [hm, Geo.nP hg, Int.toNat_natCast]) hmc
  rw [← iG hg] at h
  exact h
theorem EN {g : Geo} {A : Option Addr} {m cap : Nat} {raw : List Nat} (hg : g.aD) (hr : Seq K F A m 1 (aA .u8 raw)) (h8 : Small 256 raw) (hm : m = g.raw.toNat) (hmc : m ≤ cap) :
    Does Tryz.prog 116 #[g.v, .slice A m cap] K F
      (fun v H' => ∃ A' n' cap', v = .tuple #[.slice A' n' cap', .int .i64 (dW g.fl.toNat g.se.toNat (g.sb.toNat + ay g.fl.toNat) raw : Nat)] ∧ H' = F) := by
  have h := zW (bl := g.bl) (pg := g.pg) (S := g.se.toNat) (B := g.sb.toNat) (t := g.fl.toNat) (by rw [← iG hg]; exact hg) hr h8 (by rw [hm, Geo.nP hg, Int.toNat_natCast]) hmc
  rw [← iG hg] at h
  refine Does.post_ h (fun v H' hp => ?_)
  rcases hp with ⟨h1, rfl, rfl⟩ | ⟨h1, A', cap', l, rs, rfl, _, _, rfl⟩
  · exact ⟨H', fun w hw => hw, _, _, _, rfl, rfl⟩
  · exact ⟨F, fun w hw => hw.drop 2, A', _, cap', by rw [h1]; rfl, rfl⟩
theorem FQ (hC : C.Ok) (b p : Int) {A : Option Addr} {m cap : Nat} {d : List Nat} (hd : Seq K F A m 1 (aA .u8 d)) (h8 : Small 256 d) (hmc : m ≤ cap) (hm : m ≤ 1000000) :
    Does Tryz.prog 86 #[ptr bd 0, .int .i64 b, .int .i64 p, .slice A m cap] K (C.A bc :: bK bd bc C.g :: F)
    (fun v H' => ∃ C' : Cw, C'.Ok ∧ H' = C'.A bc :: bK bd bc C.g :: F ∧ C'.sem = (C.sem.bO b p d).1 ∧ v = .int .i64 (C.sem.bO b p d).2) := by
  have hl : d.length = m := by simpa [aA] using hd.len
  have hmay : C.g.may = true := decide_eq_true hC.aD
  refine Does.enter Tryz.func86 rfl Tryz.ntmps86 rfl ?_
  simp only [aI, Nat.reduceAdd]
  refine WC.sr (WL.sg rfl rfl (WL.nil (WC.sr (WL.mv rfl rfl (WL.call (vs := [_]) Tryz.call74 ⟨OV.p rfl, trivial⟩ (iw) rfl ?_)))))
  rintro _ H0 ⟨rfl, h0⟩
  subst H0
  refine WL.call (vs := [_]) Tryz.call80 ⟨OV.p rfl, trivial⟩ (aL.eq (v' := .tuple #[.int .i64 C.g.room, .int .i64 0]) (z8 C.g) (by rw [hmay]; rfl)) rfl ?_
  rintro _ H0 ⟨rfl, h0⟩
  subst H0
  refine WL.mv rfl rfl (WL.xt rfl rfl rfl (WL.xt rfl rfl rfl (WL.sg rfl rfl (WL.sg rfl rfl (WL.nil (WC.seq (WC.sr (WL.mv rfl rfl (WL.mv rfl rfl (WL.mv rfl rfl (WL.mv rfl rfl (WL.val (V.len (t := 43) Tryz.runUnderlying43 (OV.p rfl)) rfl (WL.mv rfl rfl ?_)))))))))))))
  refine WL.val (V.aC (v' := .bool (decide (d.length = C.sem.room))) (V.eql (OV.p rfl) (OV.p rfl)) (fun _ => by rw [Geo.zk hC.aD, hl]; congr 1; apply decide_eq_decide.2; show ((m : Int) = ((C.g.se.toNat * C.g.sb.toNat : Nat) : Int)) ↔ m = C.g.se.toNat * C.g.sb.toNat; omega)) rfl ?_
  refine WL.call (vs := [_, _, _, _]) Tryz.call89 ⟨OV.p rfl, OV.p rfl, OV.p rfl, OV.p rfl, trivial⟩ (mJ b p _) rfl ?_
  rintro _ H0 ⟨rfl, h0⟩
  subst H0
  refine WL.sg rfl rfl (WL.nil (WC.sr (WL.mv rfl rfl (WL.val (V.neq (OV.p rfl) (OV.p rfl)) rfl (WL.nil ?_)))))
  refine WC.cond rfl (fun hc0 => ?_) (fun hc0 => ?_)
  ·simp only [decide_eq_true_eq, decide_eq_false_iff_not, Bool.not_eq_true', Bool.not_eq_false'] at hc0
   have h0 := hc0
   have hdw : C.sem.bO b p d = (C.sem, C.sem.ahead b p (decide (d.length = C.sem.room))) := by unfold ah.bO; rw [if_pos hc0]
   refine WC.sr (WL.mv rfl rfl (WL.sg rfl rfl (WL.nil (WC.ret ?_))))
   exact au.ret (H' := C.A bc :: bK bd bc C.g :: F) (aO.tmp rfl rfl) (fun w h => h) ⟨C, hC, rfl, by rw [hdw], by rw [hdw]⟩
  ·simp only [decide_eq_true_eq, decide_eq_false_iff_not, Bool.not_eq_true', Bool.not_eq_false'] at hc0
   have h0 := hc0
   have hdw : C.sem.bO b p d = ah.done b (C.sem.program b p (aZ (ah.dw C.g d))) := by unfold ah.bO; rw [if_neg (by simpa using hc0)]; rfl
   have hok := (ah.ahead_zero hc0).2.2.1
   have hmr : m = C.g.se.toNat * C.g.sb.toNat := by rw [← hl]; exact of_decide_eq_true hok
   refine WC.skip (WC.sr (WL.mv rfl rfl (WL.nc rfl rfl (WL.val (V.fieldAddr rM (OV.p rfl)) rfl ?_))))
   refine WL.val (V.bB (vs := [_, _, _, _, _]) ⟨Tryz.isAgg23, Tryz.sizeOf23⟩ (OV.p rfl) rfl (fun _ => by repeat (first | exact bD.gets ⟨rfl, rfl, rfl, rfl, rfl, trivial⟩ | apply bD.up))) rfl ?_
   refine WL.mv rfl rfl (WL.call (vs := [_, _]) Tryz.call114 ⟨OV.p rfl, OV.p rfl, trivial⟩ (JV hC.aD hd.up.up h8 hmr hmc) rfl ?_)
   rintro _ _ ⟨Ap, cp, rfl, rfl⟩
   refine WL.sub (Sub.refl _) (fun w h => h.p1) ?_
   refine WL.have_ (fun w h => (aU.shape h.p1.head)) (fun ⟨Aq, cq, hq, hq2, _⟩ => ?_)
   have hcp : C.g.raw.toNat ≤ cp := by injection hq with q1 q2 q3; omega
   have hN := qM.of (bl := C.g.bl) (pg := C.g.pg) (by rw [← iG hC.aD]; exact hC.aD)
   have hpl : (ah.dw C.g d).length = C.g.raw.toNat := by
     unfold ah.dw
     rw [nQ hN.t h8 (hl.trans hmr), Geo.nP hC.aD, Int.toNat_natCast]
   have hps : Small 256 (ah.dw C.g d) := xG hN.t h8
   refine WL.mv rfl rfl (WL.xt rfl rfl rfl (WL.xt rfl rfl rfl (WL.sg rfl rfl (WL.sg rfl rfl (WL.nil (WC.seq ?_))))))
   refine WC.dR (aU (.slice Ap C.g.raw.toNat cp) 5 1 C.g.raw.toNat (aA .u8 (ah.dw C.g d)) :: bK bd bc C.g :: F) (by kernel_rfl) ?_
   refine WA.t 0 rfl (V.move (OV.p rfl)) (WA.t 1 rfl (V.move (OV.p rfl)) (WA.t 2 rfl (V.nilCheck (OV.p rfl)) (WA.t 3 rfl (V.fieldAddr jM (OV.p rfl)) ?_)))
   refine WA.t 4 rfl (V.load Tryz.isAgg28 (OV.p rfl) (fun _ => by repeat (first | exact Rd.here rfl | apply Rd.up))) ?_
   refine WA.t 5 rfl (V.move (OV.p rfl)) (WA.t 6 rfl (V.move (OV.p rfl)) (WA.t 7 rfl (V.move (OV.p rfl)) (WA.t 9 rfl (V.move (OV.p rfl)) (WA.t 10 rfl (V.nilCheck (OV.p rfl)) (WA.t 11 rfl (V.fieldAddr jM (OV.p rfl)) ?_)))))
   refine WA.t 12 rfl (V.load Tryz.isAgg28 (OV.p rfl) (fun _ => by repeat (first | exact Rd.here rfl | apply Rd.up))) ?_
   refine WA.t 13 rfl (V.makeFunc (us := [_]) (vs := []) ⟨OV.p rfl, trivial⟩ trivial) (WA.o 8 rfl ?_)
   refine WL.call (vs := [_, _, _, _]) Tryz.call115 ⟨OV.p rfl, OV.p rfl, OV.p rfl, OV.p rfl, trivial⟩ (DN hC b p (oI hps) (by rw [← l5]; exact aU.seq (by rw [aH, hpl, Nat.mul_one])) hcp) rfl ?_
   rintro _ _ ⟨C1, Ir, rfl, s1, rfl⟩
   refine WL.nil (WA.o 14 rfl (WL.call (vs := [_, _, _]) Tryz.call90 ⟨OV.p rfl, OV.p rfl, OV.p rfl, trivial⟩ (Gf Ir b _) rfl ?_))
   rintro _ _ ⟨C2, hC2, rfl, s2, rfl⟩
   refine WL.nil (WA.t 15 rfl (V.assign (OV.p rfl)) (WA.fin (WC.ret ?_)))
   exact au.ret (H' := C2.A bc :: bK bd bc C.g :: F) (aO.tmp rfl rfl) (fun w h => h.sel 2 [0] rfl) ⟨C2, hC2, rfl, by rw [hdw, s2, s1], by rw [hdw, s1]⟩
end
theorem Cw.Ok.Je {C : Cw} (hC : C.Ok) (b p : Int) : bF (C.sem.reads b p) := by
  have hr := Geo.lN hC.aD
  have hl := hC.Cy b p
  unfold ah.reads at hl ⊢
  rw [je] at hl
  refine Bh (hC.EY b p) (fun i hi => ?_)
  obtain ⟨A, c, l, h1, h2, h3, h4, h5⟩ := hC.Fq b p
  rw [← h4] at hi
  have := h3 i hi
  rw [hl]; omega
theorem Cw.Ok.oQ {C : Cw} (hC : C.Ok) (b p : Int) : ints .u8 (C.sem.reads b p) = aA .u8 (C.sem.fJ b p) ∧ Small 256 (C.sem.fJ b p) ∧ (C.sem.fJ b p).length = C.g.raw.toNat := by
  have h := hC.Je b p
  exact ⟨xP h, vO h, by unfold ah.fJ; rw [mX, hC.Cy]⟩
section
variable {bc bd : Nat} {C : Cw} {K : World} {F : List ak}
theorem Gt (hC : C.Ok) (b p : Int) : Does Tryz.prog 70 #[ptr bd 0, .int .i64 b, .int .i64 p] K (C.A bc :: bK bd bc C.g :: F)
    (fun v H' => ∃ A' c', v = .tuple #[.slice A' (C.sem.aY b p).d.length c', .int .i64 ((C.sem.aY b p).n : Nat), .int .i64 (C.sem.aY b p).err] ∧
      H' = aU (.slice A' (C.sem.aY b p).d.length c') 5 1 (C.sem.aY b p).d.length (aA .u8 (C.sem.aY b p).d) :: C.A bc :: bK bd bc C.g :: F) := by
  obtain ⟨G, hG⟩ : ∃ G, G = C.sem.aY b p := ⟨_, rfl⟩
  rw [← hG]
  obtain ⟨r1, r2, r3⟩ := hC.oQ b p
  have hrb := Geo.lN hC.aD
  refine Does.enter Tryz.func70 rfl Tryz.ntmps70 rfl ?_
  simp only [aI, Nat.reduceAdd]
  refine WC.sr (WL.sg rfl rfl (WL.sg rfl rfl (WL.sg rfl rfl (WL.nil (WC.seq (WC.sr (WL.mv rfl rfl (WL.mv rfl rfl (WL.mv rfl rfl (WL.call (vs := [_, _, _, _]) Tryz.call89 ⟨OV.p rfl, OV.p rfl, OV.p rfl, OV.p rfl, trivial⟩ (mJ b p true) rfl ?_))))))))))
  rintro _ H0 ⟨rfl, h0⟩
  subst H0
  refine WL.sg rfl rfl (WL.nil (WC.sr (WL.mv rfl rfl (WL.val (V.neq (OV.p rfl) (OV.p rfl)) rfl (WL.nil ?_)))))
  refine WC.cond rfl (fun hc0 => ?_) (fun hc0 => ?_)
  ·simp only [decide_eq_true_eq, decide_eq_false_iff_not, Bool.not_eq_true', Bool.not_eq_false'] at hc0
   have h0 := hc0
   have hG2 : G = ⟨C.sem.ahead b p true, [], 0⟩ := by rw [hG]; unfold ah.aY; rw [if_pos h0]
   refine WC.sr (WL.mv rfl rfl (WL.sg rfl rfl (WL.sg rfl rfl (WL.sg rfl rfl (WL.nil (WC.ret ?_))))))
   exact au.ret (H' := aU (.slice none 0 0) 5 1 0 [] :: C.A bc :: bK bd bc C.g :: F) (aO.r9 rfl rfl rfl rfl) (fun w h => Sat.fO h _ _) ⟨none, 0, by rw [hG2]; rfl, by rw [hG2]; rfl⟩
  ·simp only [decide_eq_true_eq, decide_eq_false_iff_not, Bool.not_eq_true', Bool.not_eq_false'] at hc0
   have h0 := hc0
   have h0 : C.sem.ahead b p true = 0 := by simpa using h0
   have hG2 : G = ⟨(dD C.g.fl.toNat C.g.se.toNat C.g.sb.toNat (C.sem.fJ b p)).err, (dD C.g.fl.toNat C.g.se.toNat C.g.sb.toNat (C.sem.fJ b p)).d, (dD C.g.fl.toNat C.g.se.toNat C.g.sb.toNat (C.sem.fJ b p)).n⟩ := by rw [hG]; unfold ah.aY; rw [if_neg (by rw [h0]; decide)]; rfl
   refine WC.skip (WC.sr (WL.mv rfl rfl (WL.nc rfl rfl (WL.val (V.fieldAddr jM (OV.p rfl)) rfl (WL.ld Tryz.isAgg28 rfl rfl ?_)))))
   refine WL.mv rfl rfl (WL.mv rfl rfl (WL.call (vs := [_, _, _]) Tryz.call96 ⟨OV.p rfl, OV.p rfl, OV.p rfl, trivial⟩ (CY hC b p) rfl ?_))
   rintro _ _ (⟨_, bo, rfl, rfl⟩ | ⟨hno, rfl, rfl⟩)
   rotate_left
   · exact (hno (ah.Kh h0)).elim
   rw [r1]
   refine WL.mv rfl rfl (WL.xt rfl rfl rfl (WL.xt rfl rfl rfl (WL.sg rfl rfl (WL.sg rfl rfl (WL.nil (WC.seq (WC.sr (WL.mv rfl rfl (WL.val (V.neq (OV.p rfl) (OV.p rfl)) rfl (WL.nil ?_))))))))))
   refine WC.aQ rfl (by first | rfl | (simp; done) | (simp; omega)) ?_
   refine WC.skip (WC.sr (WL.mv rfl rfl (WL.nc rfl rfl (WL.val (V.fieldAddr rM (OV.p rfl)) rfl ?_))))
   refine WL.val (V.bB (vs := [_, _, _, _, _]) ⟨Tryz.isAgg23, Tryz.sizeOf23⟩ (OV.p rfl) rfl (fun _ => by repeat (first | exact bD.gets ⟨rfl, rfl, rfl, rfl, rfl, trivial⟩ | apply bD.up))) rfl ?_
   refine WL.mv rfl rfl (WL.call (vs := [_, _]) Tryz.call97 ⟨OV.p rfl, OV.p rfl, trivial⟩ (Jd hC.aD (Seq.yG r3) r2 rfl (Nat.le_refl _)) rfl ?_)
   rintro _ _ ⟨A', c', rfl, rfl⟩
   refine WL.xt rfl rfl rfl (WL.xt rfl rfl rfl (WL.xt rfl rfl rfl (WL.sg rfl rfl (WL.sg rfl rfl (WL.sg rfl rfl (WL.nil (WC.ret ?_)))))))
   refine au.ret (H' := aU (.slice A' G.d.length c') 5 1 G.d.length (aA .u8 G.d) :: C.A bc :: bK bd bc C.g :: F) (aO.r9 rfl rfl rfl rfl) (fun w h => ?_) ⟨A', c', by rw [hG2], rfl⟩
   rw [hG2]
   exact h.sel 2 [0] rfl
theorem Ev (hC : C.Ok) (b n : Int) (hn : -9223372036854775808 ≤ n ∧ n ≤ 9223372036854775807) : aL Tryz.prog 88 #[ptr bd 0, .int .i64 b, .int .i64 n] K (C.A bc :: bK bd bc C.g :: F) (.tuple #[.bool (C.sem.jC b n).1, .int .i64 (C.sem.jC b n).2]) := by
  have hrb := Geo.lN hC.aD
  have hpg := hC.aD
  unfold Geo.aD at hpg
  refine Does.enter Tryz.func88 rfl Tryz.ntmps88 rfl ?_
  simp only [aI, Nat.reduceAdd]
  refine WC.sr (WL.sg rfl rfl (WL.sg rfl rfl (WL.nil (WC.sr (WL.mv rfl rfl (WL.mv rfl rfl (WL.mv rfl rfl (WL.val (V.geq (OV.p rfl) (OV.p rfl)) rfl (WL.mv rfl rfl (WL.av (oj := _) rfl rfl rfl GC.t (V.move (OV.p rfl)) rfl (WL.av (oj := _) rfl rfl rfl GC.t (V.move (OV.p rfl)) rfl ?_)))))))))))
  refine WL.oV (oj := _) (vs := [_]) rfl rfl rfl GC.t Tryz.call74 ⟨OV.g rfl id, trivial⟩ (fun hg => iw) rfl ?_
  refine WL.av (oj := _) rfl rfl rfl GC.t (V.field (OV.g rfl id) (Ni _ _ _ _ _)) rfl (WL.av (oj := _) rfl rfl rfl GC.t (V.leq (OV.g rfl id) (OV.g rfl id)) rfl (WL.val (V.aJ (OV.p rfl) (OV.g rfl id)) rfl (WL.call (vs := [_, _, _, _]) Tryz.call89 ⟨OV.p rfl, OV.p rfl, OV.p rfl, OV.p rfl, trivial⟩ (mJ b 0 _) rfl ?_)))
  rintro _ H0 ⟨rfl, h0⟩
  subst H0
  refine WL.sg rfl rfl (WL.nil (WC.seq (WC.seq ?_)))
  obtain ⟨e, he⟩ : ∃ e, e = C.sem.ahead b 0 (decide (0 ≤ n) && decide (n ≤ C.g.pg)) := ⟨_, rfl⟩
  rw [← he]
  have hW : C.sem.jC b n = if e = 73 then (false, 0) else if e ≠ 0 then (false, e) else (C.sem.iB b n.toNat, 0) := by unfold ah.jC; rw [he]; rfl
  rw [hW]
  refine WC.region (WL.mv rfl rfl (WL.val (V.eql (OV.p rfl) (OV.p rfl)) rfl (WL.nil ?_)))
  refine WC.cond rfl (fun hc0 => ?_) (fun hc0 => ?_)
  ·simp only [decide_eq_true_eq, decide_eq_false_iff_not, Bool.not_eq_true', Bool.not_eq_false'] at hc0
   rw [if_pos hc0]
   refine WC.sr (WL.sg rfl rfl (WL.sg rfl rfl (WL.nil (WC.ret ?_))))
   exact au.ret (H' := C.A bc :: bK bd bc C.g :: F) (aO.fD rfl rfl rfl) (fun w h => h) ⟨rfl, rfl⟩
  ·simp only [decide_eq_true_eq, decide_eq_false_iff_not, Bool.not_eq_true', Bool.not_eq_false'] at hc0
   rw [if_neg hc0]
   refine WC.skip (WC.seq (WC.sr (WL.mv rfl rfl (WL.val (V.neq (OV.p rfl) (OV.p rfl)) rfl (WL.nil ?_)))))
   refine WC.cond rfl (fun hc1 => ?_) (fun hc1 => ?_)
   ·simp only [decide_eq_true_eq, decide_eq_false_iff_not, Bool.not_eq_true', Bool.not_eq_false'] at hc1
    rw [if_pos hc1]
    refine WC.sr (WL.mv rfl rfl (WL.sg rfl rfl (WL.sg rfl rfl (WL.nil (WC.ret ?_)))))
    exact au.ret (H' := C.A bc :: bK bd bc C.g :: F) (aO.fD rfl rfl rfl) (fun w h => h) ⟨rfl, rfl⟩
   ·simp only [decide_eq_true_eq, decide_eq_false_iff_not, Bool.not_eq_true', Bool.not_eq_false'] at hc1
    have he0 : e = 0 := by simpa using hc1
    rw [if_neg (by rw [he0]; decide)]
    obtain ⟨q1, q2, q3, q4⟩ := ah.ahead_zero (he ▸ he0 : C.sem.ahead b 0 (decide (0 ≤ n) && decide (n ≤ C.g.pg)) = 0)
    simp only [Bool.and_eq_true, decide_eq_true_eq] at q3
    obtain ⟨k, hk⟩ : ∃ k : Nat, n = (k : Int) := ⟨n.toNat, by omega⟩
    subst hk
    rw [Int.toNat_natCast]
    refine WC.skip (WC.seq (WC.sr (WL.mv rfl rfl (WL.mv rfl rfl (WL.nil (WC.block ?_))))))
    refine WC.loop (σ := Nat) (fun j => [(0, ptr bd 0), (1, .int .i64 b), (31, .int .i64 (k : Int)), (32, .int .i64 (j : Int))]) (fun _ => C.A bc :: bK bd bc C.g :: F) (fun j => j ≤ k ∧ C.sem.iB b j = true) (fun j => k - j) 0 ⟨Nat.zero_le _, rfl⟩ (.cons rfl (.cons rfl (.cons rfl (.cons rfl (.nil _))))) (fun w h => h) ?_
    rintro j ⟨hj, Tj⟩
    refine WC.sr (WL.val (V.lss (OV.p rfl) (OV.p rfl)) rfl (WL.nil (WC.seq ?_)))
    refine WC.cond rfl (fun hc2 => ?_) (fun hc2 => ?_)
    ·simp only [decide_eq_true_eq, decide_eq_false_iff_not] at hc2
     refine WC.skip (WC.seq (WC.block (WC.sr (WL.mv rfl rfl (WL.sg rfl rfl (WL.nil (WC.seq ?_)))))))
     have hjk : j < k := by omega
     obtain ⟨r1, r2, r3⟩ := hC.oQ b (j : Int)
     have hre : C.sem.eD b (j : Int) = 0 := by
       unfold ah.eD ah.page ah.block
       rw [if_neg (by rw [q1]; decide), if_neg]
       have e1 : C.sem.g = C.g := rfl
       simp only [e1] at q2 ⊢
       simp; omega
     refine WC.region (WL.mv rfl rfl (WL.nc rfl rfl (WL.val (V.fieldAddr jM (OV.p rfl)) rfl (WL.ld Tryz.isAgg28 rfl rfl ?_))))
     refine WL.mv rfl rfl (WL.mv rfl rfl (WL.call (vs := [_, _, _]) Tryz.call96 ⟨OV.p rfl, OV.p rfl, OV.p rfl, trivial⟩ (CY hC b (j : Int)) rfl ?_))
     rintro _ _ (⟨_, bo, rfl, rfl⟩ | ⟨hno, rfl, rfl⟩)
     rotate_left
     · exact (hno hre).elim
     rw [r1]
     refine WL.mv rfl rfl (WL.xt rfl rfl rfl (WL.xt rfl rfl rfl (WL.sg rfl rfl (WL.sg rfl rfl (WL.nil (WC.sr (WL.mv rfl rfl (WL.nc rfl rfl (WL.val (V.fieldAddr rM (OV.p rfl)) rfl ?_)))))))))
     refine WL.val (V.bB (vs := [_, _, _, _, _]) ⟨Tryz.isAgg23, Tryz.sizeOf23⟩ (OV.p rfl) rfl (fun _ => by repeat (first | exact bD.gets ⟨rfl, rfl, rfl, rfl, rfl, trivial⟩ | apply bD.up))) rfl ?_
     refine WL.mv rfl rfl (WL.call (vs := [_, _]) Tryz.call116 ⟨OV.p rfl, OV.p rfl, trivial⟩ (EN hC.aD (Seq.yG r3) r2 rfl (Nat.le_refl _)) rfl ?_)
     rintro _ _ ⟨A', n', c', rfl, rfl⟩
     refine WL.mv rfl rfl (WL.xt rfl rfl rfl (WL.xt rfl rfl rfl (WL.sg rfl rfl (WL.sg rfl rfl (WL.nil (WC.sr (WL.mv rfl rfl (WL.val (V.neq (OV.p rfl) (OV.p rfl)) rfl (WL.nil ?_)))))))))
     refine WC.cond rfl (fun hc3 => ?_) (fun hc3 => ?_)
     ·simp only [decide_eq_true_eq, decide_eq_false_iff_not, Bool.not_eq_true', Bool.not_eq_false'] at hc3
      have hst : decide (C.sem.ku b (j : Nat) = 0) = false := decide_eq_false (by intro h; exact hc3 (by show ((C.sem.ku b (j : Nat) : Nat) : Int) = 0; rw [h]; rfl))
      refine WC.sr (WL.sg rfl rfl (WL.sg rfl rfl (WL.nil (WC.ret ?_))))
      refine au.ret (H' := C.A bc :: bK bd bc C.g :: F) (aO.fD rfl rfl rfl) (fun w h => h.drop 1) ⟨?_, rfl⟩
      have hno : ∀ i, j < i → C.sem.iB b i = false := fun i hi => by
        induction i with
        | zero => omega
        | succ i ih =>
          rw [ah.iB]
          rcases Nat.lt_or_ge j i with h | h
          · rw [ih h]; rfl
          · obtain rfl : j = i := by omega
            rw [hst, Bool.and_false]
      rw [hno k hjk]
     ·simp only [decide_eq_true_eq, decide_eq_false_iff_not, Bool.not_eq_true', Bool.not_eq_false'] at hc3
      have hst : decide (C.sem.ku b (j : Nat) = 0) = true := decide_eq_true (by have h9 := hc3; simp at h9; exact h9)
      refine WC.skip (WC.region (WL.ad rfl rfl rfl ?_))
      refine WL.mv rfl rfl (WL.nil ?_)
      refine ⟨rfl, ?_⟩
      exact ⟨j + 1, ⟨by omega, by rw [ah.iB, Tj, hst]; rfl⟩, (by show k - (j + 1) < k - j; omega), .cons rfl (.cons rfl (.cons rfl (.cons (look_eq rfl (by simp)) (.nil _)))), fun w h => h.drop 1⟩
    ·simp only [decide_eq_true_eq, decide_eq_false_iff_not] at hc2
     refine WC.exit (WC.sr (WL.sg rfl rfl (WL.sg rfl rfl (WL.nil (WC.ret ?_)))))
     obtain rfl : j = k := by omega
     exact au.ret (H' := C.A bc :: bK bd bc C.g :: F) (aO.fD rfl rfl rfl) (fun w h => h) ⟨by rw [Tj], rfl⟩
theorem Io (hC : C.Ok) : Does Tryz.prog 82 #[ptr bd 0] K (C.A bc :: bK bd bc C.g :: F)
    (fun v H' => ∃ A' c', v = .slice A' C.sem.good.length c' ∧ H' = aU (.slice A' C.sem.good.length c') 3 1 C.sem.good.length (ints .i64 C.sem.good) :: C.A bc :: bK bd bc C.g :: F) := by
  have hbl := hC.aD
  unfold Geo.aD at hbl
  obtain ⟨n, hn⟩ : ∃ n : Nat, C.g.bl = (n : Int) := ⟨C.g.bl.toNat, by omega⟩
  have hgd : C.sem.good = C.sem.dK n := by unfold ah.good; rw [show C.sem.g.bl = (n : Int) from hn, Int.toNat_natCast]
  rw [hgd]
  refine Does.enter Tryz.func82 rfl Tryz.ntmps82 rfl ?_
  simp only [aI, Nat.reduceAdd]
  refine WC.sr (WL.sg rfl rfl (WL.nil (WC.sr (WL.sg rfl rfl (WL.nil (WC.seq (WC.sr (WL.mv rfl rfl (WL.call (vs := [_]) Tryz.call74 ⟨OV.p rfl, trivial⟩ (iw) rfl ?_)))))))))
  rintro _ H0 ⟨rfl, h0⟩
  subst H0
  refine WL.val (V.field (OV.p rfl) (Np _ _ _ _ _)) rfl (WL.mv rfl rfl (WL.nil (WC.block ?_)))
  refine WC.loop (σ := Nat × Option Addr × Nat) (fun x => [(0, ptr bd 0), (3, .slice x.2.1 (C.sem.dK x.1).length x.2.2), (7, .int .i64 C.g.bl), (8, .int .i64 (x.1 : Int))]) (fun x => C.A bc :: aU (.slice x.2.1 (C.sem.dK x.1).length x.2.2) 3 1 (C.sem.dK x.1).length (ints .i64 (C.sem.dK x.1)) :: bK bd bc C.g :: F) (fun x => x.1 ≤ n) (fun x => n - x.1) (0, none, 0) (Nat.zero_le _) (.cons rfl (.cons rfl (.cons rfl (.cons rfl (.nil _))))) (fun w h => (Sat.fO h 3 1).p1) ?_
  rintro ⟨k, Ao, co⟩ hk
  dsimp only at hk ⊢
  have hkl := C.sem.fF k
  refine WC.sr (WL.val (V.lss (OV.p rfl) (OV.p rfl)) rfl (WL.nil (WC.seq ?_)))
  refine WC.cond rfl (fun hc0 => ?_) (fun hc0 => ?_)
  ·simp only [decide_eq_true_eq, decide_eq_false_iff_not] at hc0
   refine WC.skip (WC.seq (WC.block (WC.sr (WL.mv rfl rfl (WL.sg rfl rfl (WL.nil (WC.sr (WL.mv rfl rfl (WL.nc rfl rfl (WL.val (V.fieldAddr jM (OV.p rfl)) rfl (WL.ld Tryz.isAgg28 rfl rfl ?_)))))))))))
   refine WL.call (vs := [_]) Tryz.call110 ⟨OV.p rfl, trivial⟩ (IC) rfl ?_
   rintro _ H0 ⟨rfl, h0⟩
   subst H0
   refine WL.mv rfl rfl (WL.av (oj := _) rfl rfl rfl GC.t (V.move (OV.p rfl)) rfl (WL.av (oj := _) rfl rfl rfl GC.t (V.nilCheck (OV.g rfl id)) rfl (WL.av (oj := _) rfl rfl rfl GC.t (V.fieldAddr jM (OV.g rfl id)) rfl ?_)))
   refine WL.av (oj := _) rfl rfl rfl GC.t (V.load Tryz.isAgg28 (OV.g rfl id) (fun _ => by repeat (first | exact Rd.here rfl | apply Rd.up))) rfl ?_
   refine WL.av (oj := _) rfl rfl rfl GC.t (V.move (OV.p rfl)) rfl ?_
   refine WL.oV (oj := _) (vs := [_, _]) rfl rfl rfl GC.t Tryz.call17 ⟨OV.g rfl id, OV.g rfl id, trivial⟩ (fun hg => Gl (k : Int)) rfl ?_
   refine WL.av (oj := _) rfl rfl rfl GC.t (V.not (OV.g rfl id)) rfl (WL.val (V.aJ (OV.p rfl) (OV.g rfl id)) rfl (WL.nil ?_))
   refine WC.cond rfl (fun hc1 => ?_) (fun hc1 => ?_)
   ·skip
    have h1 := hc1
    have N9 : C.sem.dK (k + 1) = C.sem.dK k ++ [(k : Int)] := by rw [ah.dK, if_pos (show (C.sem.up && !C.sem.bad (k : Int)) = true from h1)]
    refine WC.region (WL.mv rfl rfl (WL.mv rfl rfl ?_))
    refine WL.buildSlice (E := 3) (cs := [_]) (vs := [(0, _)]) ⟨OV.p rfl, trivial⟩ rfl (bT _) rfl (fun Po => ?_)
    refine WL.sub (Sub.refl _) (fun w h => h.sel 4 [2, 0, 1, 3] rfl) ?_
    refine WL.append (m := (C.sem.dK k).length) (q := 1) (news := [.int .i64 (k : Int)]) Tryz.underlying24 el3 (OV.p rfl) (OV.p rfl) (Seq.all rfl) (by intro u hu; rw [List.mem_singleton.1 hu]; rfl) (by omega) rfl rfl (fun A' c' hA' hc' => ?_)
    refine WL.sg rfl rfl (WL.nil (WC.region (WL.ad rfl rfl rfl ?_)))
    refine WL.mv rfl rfl (WL.nil ?_)
    refine ⟨rfl, ?_⟩
    first
    | exact ⟨(k + 1, A', c'), (by show k + 1 ≤ n; omega), (by show n - (k + 1) < n - k; omega), .cons rfl (.cons (look_eq rfl (by dsimp only; rw [N9, List.length_append]; rfl)) (.cons rfl (.cons (look_eq rfl (by simp)) (.nil _)))), fun w h => by
        dsimp only
        rw [N9, List.length_append, bf]
        exact h.sel 4 [2, 0, 3] rfl⟩
    | exact ⟨(k + 1, Ao, co), (by show k + 1 ≤ n; omega), (by show n - (k + 1) < n - k; omega), .cons rfl (.cons (look_eq rfl (by dsimp only; rw [N9])) (.cons rfl (.cons (look_eq rfl (by simp)) (.nil _)))), fun w h => by
        dsimp only
        rw [N9]
        exact h⟩
   ·skip
    have h1 := hc1
    have N9 : C.sem.dK (k + 1) = C.sem.dK k := by rw [ah.dK, if_neg (by rw [show (C.sem.up && !C.sem.bad (k : Int)) = false from h1]; decide)]
    refine WC.skip (WC.region (WL.ad rfl rfl rfl ?_))
    refine WL.mv rfl rfl (WL.nil ?_)
    refine ⟨rfl, ?_⟩
    first
    | exact ⟨(k + 1, A', c'), (by show k + 1 ≤ n; omega), (by show n - (k + 1) < n - k; omega), .cons rfl (.cons (look_eq rfl (by dsimp only; rw [N9, List.length_append]; rfl)) (.cons rfl (.cons (look_eq rfl (by simp)) (.nil _)))), fun w h => by
        dsimp only
        rw [N9, List.length_append, bf]
        exact h.sel 4 [2, 0, 3] rfl⟩
    | exact ⟨(k + 1, Ao, co), (by show k + 1 ≤ n; omega), (by show n - (k + 1) < n - k; omega), .cons rfl (.cons (look_eq rfl (by dsimp only; rw [N9])) (.cons rfl (.cons (look_eq rfl (by simp)) (.nil _)))), fun w h => by
        dsimp only
        rw [N9]
        exact h⟩
  ·simp only [decide_eq_true_eq, decide_eq_false_iff_not] at hc0
   refine WC.exit (WC.sr (WL.mv rfl rfl (WL.sg rfl rfl (WL.nil (WC.ret ?_)))))
   obtain rfl : k = n := by omega
   exact au.ret (H' := aU (.slice Ao (C.sem.dK k).length co) 3 1 (C.sem.dK k).length (ints .i64 (C.sem.dK k)) :: C.A bc :: bK bd bc C.g :: F) (aO.tmp rfl rfl) (fun w h => h.p1) ⟨Ao, co, rfl, rfl⟩
end
theorem zm : ∀ {l m : List Nat}, l.Nodup → (∀ x ∈ l, x ∈ m) → l.length ≤ m.length
  | [], m, _, _ => Nat.zero_le _
  | a :: l, m, hn, hs => by
    have hne := List.nodup_cons.1 hn
    have ha := hs a (.head _)
    have h1 := zm (l := l) (m := m.erase a) hne.2 (fun x hx => (List.mem_erase_of_ne (fun h : x = a => hne.1 (by rw [← h]; exact hx))).2 (hs x (.tail _ hx)))
    rw [List.length_erase_of_mem ha] at h1
    have h2 : 0 < m.length := List.length_pos_of_mem ha
    rw [List.length_cons]; omega
theorem ES (ys : List Int) (i : Nat) : (dU ys).getD i 0 = (ys.getD i 0).toNat := by
  unfold dU
  simp only [List.getD, List.getElem?_map]
  cases ys[i]? <;> rfl
theorem DL (ys : List Int) {i : Int} (hi : 0 ≤ i) : dU (zl ys i) = iL (dU ys) i.toNat := by
  unfold zl iL
  rw [ES]
  unfold dU yg
  rw [List.map_set, Int.toNat_natCast, show (i / 8).toNat = i.toNat / 8 by omega, show (i % 8).toNat = i.toNat % 8 by omega]
def fu (xs ks : List Nat) : List Nat := ks.foldl iL xs
theorem pG : ∀ (l xs : List Int), (∀ i ∈ l, 0 ≤ i) → dU (turn xs l) = fu (dU xs) (dU l)
  | [], _, _ => rfl
  | i :: l, xs, h => by
    rw [turn, List.foldl_cons, ← turn, pG l _ (fun j hj => h j (.tail _ hj)), DL _ (h i (.head _))]
    rfl
theorem qK : ∀ (ks xs : List Nat), (fu xs ks).length = xs.length
  | [], _ => rfl
  | k :: ks, xs => by
    show (fu (iL xs k) ks).length = _
    rw [qK ks, d9]
theorem mQ : ∀ (ks xs : List Nat), Small 256 xs → Small 256 (fu xs ks)
  | [], _, h => h
  | k :: ks, xs, h => mQ ks _ (jh h k)
theorem xI : ∀ (ks xs : List Nat), ks.Nodup → (∀ k ∈ ks, k < 8 * xs.length) → ∀ k, aS (fu xs ks) k = (aS xs k ^^ decide (k ∈ ks))
  | [], xs, _, _, k => by simp [fu]
  | i :: ks, xs, hn, hk, k => by
    have hne := List.nodup_cons.1 hn
    show aS (fu (iL xs i) ks) k = _
    rw [xI ks _ hne.2 (fun j hj => by rw [d9]; exact hk j (.tail _ hj)), nU (hk i (.head _)), Bool.xor_assoc]
    congr 1
    by_cases h : k = i
    · subst h; simp [hne.1]
    · rw [decide_eq_false (show ¬ i = k from fun e => h e.symm), Bool.false_xor]
      apply decide_eq_decide.2
      rw [List.mem_cons]
      exact ⟨.inr, fun e => e.resolve_left h⟩
theorem nS : ∀ (ks xs : List Nat) (p : Nat), (∀ k ∈ ks, k / 8 ≠ p) → (fu xs ks).getD p 0 = xs.getD p 0
  | [], _, _, _ => rfl
  | i :: ks, xs, p, h => by
    show (fu (iL xs i) ks).getD p 0 = _
    rw [nS ks _ p (fun k hk => h k (.tail _ hk))]
    unfold iL
    rw [lu, if_neg (fun hh => h i (.head _) hh.1)]
theorem KD (xs : List Nat) (a B i : Nat) : ((xs.drop a).take B).getD i 0 = if i < B then xs.getD (a + i) 0 else 0 := by
  simp only [List.getD, List.getElem?_take, List.getElem?_drop]
  split <;> rfl
theorem rG (xs : List Nat) (a B k : Nat) (hk : k < 8 * B) : aS ((xs.drop a).take B) k = aS xs (8 * a + k) := by
  unfold aS
  rw [KD, if_pos (by omega), show (8 * a + k) / 8 = a + k / 8 by omega, show (8 * a + k) % 8 = k % 8 by omega]
section
variable {t B S : Nat} {d : List Nat}
def MR (t B n j e : Nat) : Nat := if 13 * t ≤ e then 8 * (j * n) + (e - 13 * t) else 8 * (j * n + B) + e
def DV (t B n : Nat) (ks : List Nat) (j : Nat) : List Nat := (List.range (13 * t + 8 * B)).filter fun e => decide (MR t B n j e ∈ ks)
theorem zB (t B n : Nat) (ks : List Nat) (j : Nat) : (DV t B n ks j).Nodup := List.Pairwise.filter _ List.nodup_range
theorem Gg {n j : Nat} {ks : List Nat} (hn : n = B + ay t) : (DV t B n ks j).length ≤ (ks.filter fun k => decide (k / 8 / n = j)).length := by
  have OE : 13 * t ≤ 8 * ay t := by unfold ay; omega
  have hinj : ∀ a b, a < 13 * t + 8 * B → b < 13 * t + 8 * B → MR t B n j a = MR t B n j b → a = b := fun a b ha hb h => by
    unfold MR at h
    split at h <;> split at h <;> omega
  have h1 := zm (l := (DV t B n ks j).map (MR t B n j)) (m := ks.filter fun k => decide (k / 8 / n = j)) (by
    unfold List.Nodup
    rw [List.pairwise_map]
    refine List.Pairwise.imp_of_mem ?_ (zB t B n ks j)
    intro a b ha hb hab h
    exact hab (hinj a b (List.mem_range.1 (List.mem_filter.1 ha).1) (List.mem_range.1 (List.mem_filter.1 hb).1) h)) (fun x hx => by
    obtain ⟨e, he, rfl⟩ := List.mem_map.1 hx
    obtain ⟨h2, h3⟩ := List.mem_filter.1 he
    have h2 := List.mem_range.1 h2
    refine List.mem_filter.2 ⟨of_decide_eq_true h3, decide_eq_true ?_⟩
    have hB : MR t B n j e / 8 < (j + 1) * n ∧ j * n ≤ MR t B n j e / 8 := by
      rw [Nat.succ_mul]
      unfold MR
      split <;> omega
    exact Nat.div_eq_of_lt_le hB.2 hB.1)
  rwa [List.length_map] at h1
theorem xB : ∀ (k j : Nat) (acc : List Nat) (m0 : Nat) (c : Nat → Nat), m0 ≤ t → (∀ i, c i ≤ t) → ∃ N, N ≤ t ∧ m0 ≤ N ∧ (∀ i, j ≤ i → i < j + k → c i ≤ N) ∧ gJ ((List.range' j k).map fun i => some ((dG B d i, fI t (dG B d i)), c i)) acc m0 = ⟨0, acc ++ (d.drop (j * B)).take (k * B), N⟩
  | 0, j, acc, m0, c, h0, h => ⟨m0, h0, Nat.le_refl _, fun i h1 h2 => by omega, by simp [gJ]⟩
  | k + 1, j, acc, m0, c, h0, h => by
    obtain ⟨N, hN, hN0, QC, h1⟩ := xB k (j + 1) (acc ++ dG B d j) (max m0 (c j)) c (by have := h j; omega) h
    refine ⟨N, hN, by omega, fun i h3 h4 => ?_, ?_⟩
    · by_cases hij : i = j
      · subst hij; omega
      · exact QC i (by omega) (by omega)
    rw [List.range'_succ, List.map_cons, gJ, h1]
    congr 1
    rw [List.append_assoc]
    congr 1
    unfold dG
    rw [show (k + 1) * B = B + k * B by rw [Nat.succ_mul, Nat.add_comm], List.take_add, List.drop_drop, Nat.succ_mul]
theorem Hg (ht : 1 ≤ t ∧ t ≤ 8) (hB : B ≤ 512) (h8 : Small 256 d) (hl : d.length = S * B) {ks : List Nat} (hk : ks.Nodup) (hks : ∀ k ∈ ks, k < 8 * (S * (B + ay t))) (hc : ∀ j, (ks.filter fun k => decide (k / 8 / (B + ay t) = j)).length ≤ t) :
    ∃ N, N ≤ t ∧ (∀ j, j < S → (DV t B (B + ay t) ks j).length ≤ N) ∧ dD t S B (fu (jD t S B d) ks) = ⟨0, d, N⟩ := by
  obtain ⟨n, hn⟩ : ∃ n, n = B + ay t := ⟨_, rfl⟩
  rw [← hn] at hks hc ⊢
  obtain ⟨P, hP⟩ : ∃ P, P = jD t S B d := ⟨_, rfl⟩
  have Vt : P.length = S * n + 1 := by rw [hP, nQ ht h8 hl, hn]; rfl
  have SH : Small 256 P := by rw [hP]; exact xG ht h8
  have hst : dW t S n P = 0 := by rw [hP, hn]; exact xW ht h8 hl
  have hz : P.getD (S * n) 0 = 0 := by
    unfold dW at hst
    split at hst
    · assumption
    · split at hst
      · cases hst
      · split at hst <;> cases hst
  have qO : dW t S n (fu P ks) = 0 := by
    unfold dW
    rw [if_pos]
    rw [nS ks P (S * n) (fun k hk => by have := hks k hk; omega)]
    exact hz
  have hlt : ∀ k ∈ ks, k < 8 * P.length := fun k hk => by have := hks k hk; omega
  have hbit := xI ks P hk hlt
  have O8 : ∀ j, j < S → uw t B n (fu P ks) j = some ((dG B d j, fI t (dG B d j)), (DV t B n ks j).length) := fun j hj => by
    have e1 : uH B n P j = dG B d j := by rw [hP, hn]; exact (qb ht h8 hl hj).1
    have e2 : EW B n P j = fI t (dG B d j) := by rw [hP, hn]; exact (qb ht h8 hl hj).2
    have hsl := l9 hl hj
    have hjn : (j + 1) * n ≤ S * n := Nat.mul_le_mul_right _ hj
    rw [Nat.succ_mul] at hjn
    have hfl := qK ks P
    unfold uw
    refine Jt ht (fV h8 j) (by omega) (Small.take (Small.drop (mQ ks P SH))) (Small.take (Small.drop (Small.drop (mQ ks P SH)))) ?_ ?_ (zB t B n ks j) (fun e he => ?_) ?_ (fun i hi => ?_)
    · show ((_ : List Nat).take B).length = _
      rw [List.length_take, List.length_drop]; omega
    · show ((_ : List Nat).take (n - B)).length = _
      rw [List.length_take, List.length_drop, List.length_drop]; omega
    · have := List.mem_range.1 (List.mem_filter.1 he).1
      omega
    · exact Nat.le_trans (Gg hn) (hc j)
    · have hmem : decide (i ∈ DV t B n ks j) = decide (MR t B n j i ∈ ks) := by
        apply decide_eq_decide.2
        unfold DV
        rw [List.mem_filter, List.mem_range]
        exact ⟨fun h => of_decide_eq_true h.2, fun h => ⟨by omega, decide_eq_true h⟩⟩
      rw [hmem]
      unfold yU MR
      by_cases h : 13 * t ≤ i
      · rw [if_pos h, if_pos h, if_pos h, ← e1]
        unfold uH
        rw [rG _ _ _ _ (by omega), rG _ _ _ _ (by omega), hbit]
      · have OE : 13 * t ≤ 8 * ay t := by unfold ay; omega
        rw [if_neg h, if_neg h, if_neg h, ← e2]
        unfold EW
        rw [List.drop_drop, List.drop_drop, rG _ _ _ _ (by omega), rG _ _ _ _ (by omega), hbit]
  obtain ⟨N, hN, _, QC, h1⟩ := xB (t := t) (B := B) (d := d) S 0 [] 0 (fun j => (DV t B n ks j).length) (Nat.zero_le _) (fun j => Nat.le_trans (Gg hn) (hc j))
  refine ⟨N, hN, fun j hj => QC j (Nat.zero_le _) (by omega), ?_⟩
  rw [← hP]
  unfold dD
  rw [← hn, if_neg (fun h => h qO)]
  have h2 : (List.range S).map (uw t B n (fu P ks)) = (List.range' 0 S).map fun i => some ((dG B d i, fI t (dG B d i)), (DV t B n ks i).length) := by
    rw [← List.range_eq_range']
    apply List.map_congr_left
    intro j hj
    exact O8 j (List.mem_range.1 hj)
  rw [h2, h1, Nat.zero_mul, List.drop_zero, List.nil_append, ← hl, List.take_length]
theorem JA (ht : 1 ≤ t ∧ t ≤ 8) (hB : B ≤ 512) (h8 : Small 256 d) (hl : d.length = S * B) {ks : List Nat} (hk : ks.Nodup) (hks : ∀ k ∈ ks, k < 8 * (S * (B + ay t))) (hc : ∀ j, (ks.filter fun k => decide (k / 8 / (B + ay t) = j)).length ≤ t) :
    ∃ N, N ≤ t ∧ dD t S B (fu (jD t S B d) ks) = ⟨0, d, N⟩ := by
  obtain ⟨N, h1, _, h2⟩ := Hg ht hB h8 hl hk hks hc
  exact ⟨N, h1, h2⟩
end
end Go.Proofs.YtcmojpiokjhmhaaGreat
