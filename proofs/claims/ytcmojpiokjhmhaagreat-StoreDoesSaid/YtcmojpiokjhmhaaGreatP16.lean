import Derived.Test.YtcmojpiokjhmhaaGreatP15
import Derived.Test.YtcmojpiokjhmhaaGreatP14
namespace Go.Proofs.YtcmojpiokjhmhaaGreat
open Go.Sl Go.RowKit
set_option linter.unusedVariables false
set_option linter.unusedSimpArgs false
set_option maxRecDepth 20000
def cu (xs : List Int) : List Nat := xs.map Int.toNat
theorem xq {xs : List Int} (h : bf xs) : ints .u8 xs = aA .u8 (cu xs) := by
  unfold ints aA cu
  rw [List.map_map]
  apply List.map_congr_left
  intro x hx
  have := h x hx
  show Value.int .u8 x = Value.int .u8 ((x.toNat : Nat) : Int)
  congr 1; omega
theorem uE {xs : List Int} (h : bf xs) : Small 256 (cu xs) := fun y hy => by
  obtain ⟨x, hx, rfl⟩ := List.mem_map.1 hy
  have := h x hx; omega
theorem iO (xs : List Int) : (cu xs).length = xs.length := by simp [cu]
def aT (xs : List Nat) : List Int := xs.map fun x : Nat => (x : Int)
theorem jo {xs : List Nat} (h : Small 256 xs) : bf (aT xs) := fun y hy => by
  obtain ⟨x, hx, rfl⟩ := List.mem_map.1 hy
  have := h x hx; omega
theorem gu (xs : List Nat) : cu (aT xs) = xs := by
  unfold cu aT
  rw [List.map_map]
  conv => rhs; rw [← List.map_id xs]
  apply List.map_congr_left
  intro x _; rfl
theorem fH (k : IntKind) (xs : List Nat) : aA k xs = ints k (aT xs) := wD k xs
namespace ah
def ahead (S : ah) (b p : Int) (ok : Bool) : Int := if S.up = false then 70 else if b < 0 ∨ S.g.bl ≤ b ∨ p < 0 ∨ S.g.pg ≤ p ∨ ok = false then 1 else if S.bad b then 73 else 0
def done (b : Int) (x : ah × Int) : ah × Int := if x.2 ≠ 72 then x else if (x.1.mark b).2 ≠ 0 then x.1.mark b else ((x.1.mark b).1, 72)
def aM (S : ah) (b : Int) : ah × Int := if S.ahead b 0 true ≠ 0 then (S, S.ahead b 0 true) else done b (S.erase b)
end ah
abbrev bO (bd bc : Nat) (g : Geo) : aj := Cells bd 120 [ptr bc 0, .int .i64 g.bl, .int .i64 g.pg, .int .i64 g.se, .int .i64 g.sb, .int .i64 g.fl]
section
variable {bc bd : Nat} {C : Cw} {K : World} {F : List aj}
theorem IK (hC : C.Ok) : Does Tryz.prog 48 #[ptr bc 0] K (C.A bc :: F) (fun v H' => ∃ bd, v = .tuple #[ptr bd 0, .int .i64 0] ∧ H' = C.A bc :: bO bd bc C.g :: F) := by
  refine Does.enter Tryz.func48 rfl Tryz.ntmps48 rfl ?_
  simp only [aH, Nat.reduceAdd]
  refine WC.sr (WL.sg rfl rfl (WL.sg rfl rfl (WL.nil (WC.seq (WC.sr (WL.mv rfl rfl (WL.val (V.su Tryz.underlying28 (OV.p rfl) (OV.p rfl)) rfl (WL.nil ?_))))))))
  refine WC.aS rfl (by first | rfl | (simp; done) | (simp; omega)) ?_
  refine WC.skip (WC.sr (WL.mv rfl rfl (WL.mv rfl rfl (WL.call (vs := [_]) Tryz.call79 ⟨OV.p rfl, trivial⟩ (AP) rfl ?_))))
  rintro _ H0 ⟨rfl, h0⟩
  subst H0
  refine WL.val (V.build (vs := [(0, _), (1, _)]) ⟨OV.p rfl, OV.p rfl, trivial⟩ rfl (Gi _ _ _ _ _ _)) rfl ?_
  refine WL.box (cs := [_, _, _, _, _, _]) (OV.p rfl) rfl rfl (fun b10 => ?_)
  refine WL.sg rfl rfl (WL.sg rfl rfl (WL.nil (WC.ret ?_)))
  exact ak.ret (H' := C.A bc :: bO b10 bc C.g :: F) (aQ.fG rfl rfl rfl) (fun w h => h.p1) ⟨b10, rfl, rfl⟩
theorem gT {g : Geo} : aJ Tryz.prog 74 #[ptr bd 0] K (C.A bc :: bO bd bc g :: F) g.v := by
  refine Does.enter Tryz.func74 rfl Tryz.ntmps74 rfl ?_
  simp only [aH, Nat.reduceAdd]
  refine WC.sr ?_
  refine WL.alloc (cs := [(.int .i64 0), (.int .i64 0), (.int .i64 0), (.int .i64 0), (.int .i64 0)]) Tryz.zeroValue23 rfl rfl (fun b2 => ?_)
  refine WL.nil (WC.seq (WC.sr (WL.mv rfl rfl (WL.val (V.su Tryz.underlying58 (OV.p rfl) (OV.p rfl)) rfl (WL.nil ?_)))))
  refine WC.aS rfl (by first | rfl | (simp; done) | (simp; omega)) ?_
  refine WC.skip (WC.sr (WL.mv rfl rfl (WL.nc rfl rfl (WL.val (V.fieldAddr qE (OV.p rfl)) rfl ?_))))
  refine WL.val (V.bB (vs := [_, _, _, _, _]) ⟨Tryz.isAgg23, Tryz.sizeOf23⟩ (OV.p rfl) rfl (fun _ => by repeat (first | exact bA.gets ⟨rfl, rfl, rfl, rfl, rfl, trivial⟩ | apply bA.up))) rfl ?_
  refine WL.store (cs := [_, _, _, _, _]) Tryz.sizeOf23 (OV.p rfl) (OV.p rfl) rfl rfl rfl (by repeat (first | exact bD.here (cs' := [_, _, _, _, _]) rfl rfl | apply bD.up)) ?_
  refine WL.nil (WC.ret ?_)
  exact ak.ret (H' := C.A bc :: bO bd bc g :: F) (aQ.one rfl (R1.rP (vs := [_, _, _, _, _]) rfl ⟨Tryz.isAgg23, Tryz.sizeOf23⟩ rfl (by repeat (first | exact bA.gets ⟨rfl, rfl, rfl, rfl, rfl, trivial⟩ | apply bA.up)))) (fun w h => h.drop 1) ⟨rfl, rfl⟩
theorem lV (b p : Int) (ok : Bool) : aJ Tryz.prog 89 #[ptr bd 0, .int .i64 b, .int .i64 p, .bool ok] K (C.A bc :: bO bd bc C.g :: F) (.int .i64 (C.sem.ahead b p ok)) := by
  refine Does.enter Tryz.func89 rfl Tryz.ntmps89 rfl ?_
  simp only [aH, Nat.reduceAdd]
  refine WC.sr (WL.sg rfl rfl (WL.nil (WC.seq (WC.block (WC.sr (WL.mv rfl rfl (WL.val (V.su Tryz.underlying58 (OV.p rfl) (OV.p rfl)) rfl (WL.sg rfl rfl (WL.nil ?_)))))))))
  refine WC.aS rfl (by first | rfl | (simp; done) | (simp; omega)) ?_
  refine WC.sr (WL.mv rfl rfl (WL.nc rfl rfl (WL.val (V.fieldAddr jL (OV.p rfl)) rfl (WL.ld Tryz.isAgg28 rfl rfl ?_))))
  refine WL.call (vs := [_]) Tryz.call110 ⟨OV.p rfl, trivial⟩ (Ii) rfl ?_
  rintro _ H0 ⟨rfl, h0⟩
  subst H0
  refine WL.val (V.not (OV.p rfl)) rfl (WL.sg rfl rfl (WL.nil ?_))
  refine WC.cond rfl (fun hc1 => ?_) (fun hc1 => ?_)
  ·simp only [Bool.not_eq_true', Bool.not_eq_false'] at hc1
   have hup := hc1
   refine WC.sr (WL.sg rfl rfl (WL.nil (WC.ret ?_)))
   exact ak.ret (H' := C.A bc :: bO bd bc C.g :: F) (aQ.tmp rfl rfl) (fun w h => h) ⟨by unfold ah.ahead; rw [if_pos (show C.sem.up = false from hup)], rfl⟩
  ·simp only [Bool.not_eq_true', Bool.not_eq_false'] at hc1
   have hup := hc1
   refine WC.sr (WL.mv rfl rfl (WL.val (V.lss (OV.p rfl) (OV.p rfl)) rfl (WL.mv rfl rfl (WL.av (oj := _) rfl rfl rfl GC.f (V.move (OV.p rfl)) rfl (WL.av (oj := _) rfl rfl rfl GC.f (V.move (OV.p rfl)) rfl (WL.av (oj := _) rfl rfl rfl GC.f (V.nilCheck (OV.g rfl id)) rfl (WL.av (oj := _) rfl rfl rfl GC.f (V.fieldAddr qE (OV.g rfl id)) rfl (WL.av (oj := _) rfl rfl rfl GC.f (V.fieldAddr iV (OV.g rfl id)) rfl ?_))))))))
   refine WL.av (oj := _) rfl rfl rfl GC.f (V.load Tryz.isAgg3 (OV.g rfl id) (fun _ => by repeat (first | exact Rd.here rfl | apply Rd.up))) rfl ?_
   refine WL.av (oj := _) rfl rfl rfl GC.f (V.geq (OV.g rfl id) (OV.g rfl id)) rfl (WL.val (V.bK (OV.p rfl) (OV.g rfl id)) rfl (WL.mv rfl rfl (WL.av (oj := _) rfl rfl rfl GC.f (V.move (OV.p rfl)) rfl (WL.av (oj := _) rfl rfl rfl GC.f (V.lss (OV.g rfl id) (OV.p rfl)) rfl (WL.val (V.bK (OV.p rfl) (OV.g rfl id)) rfl (WL.mv rfl rfl (WL.av (oj := _) rfl rfl rfl GC.f (V.move (OV.p rfl)) rfl (WL.av (oj := _) rfl rfl rfl GC.f (V.move (OV.p rfl)) rfl (WL.av (oj := _) rfl rfl rfl GC.f (V.nilCheck (OV.g rfl id)) rfl (WL.av (oj := _) rfl rfl rfl GC.f (V.fieldAddr qE (OV.g rfl id)) rfl (WL.av (oj := _) rfl rfl rfl GC.f (V.fieldAddr nM (OV.g rfl id)) rfl ?_)))))))))))
   refine WL.av (oj := _) rfl rfl rfl GC.f (V.load Tryz.isAgg3 (OV.g rfl id) (fun _ => by repeat (first | exact Rd.here rfl | apply Rd.up))) rfl ?_
   refine WL.av (oj := _) rfl rfl rfl GC.f (V.geq (OV.g rfl id) (OV.g rfl id)) rfl (WL.val (V.bK (OV.p rfl) (OV.g rfl id)) rfl (WL.mv rfl rfl (WL.av (oj := _) rfl rfl rfl GC.f (V.move (OV.p rfl)) rfl (WL.av (oj := _) rfl rfl rfl GC.f (V.not (OV.g rfl id)) rfl (WL.val (V.bK (OV.p rfl) (OV.g rfl id)) rfl (WL.sg rfl rfl (WL.nil ?_)))))))
   refine WC.cond rfl (fun hc2 => ?_) (fun hc2 => ?_)
   ·simp only [Bool.or_eq_true, Bool.or_eq_false_iff, decide_eq_true_eq, decide_eq_false_iff_not, Bool.not_eq_true', Bool.not_eq_false'] at hc2
    have h2 := hc2
    refine WC.sr (WL.sg rfl rfl (WL.nil (WC.ret ?_)))
    exact ak.ret (H' := C.A bc :: bO bd bc C.g :: F) (aQ.tmp rfl rfl) (fun w h => h) ⟨by unfold ah.ahead; rw [if_neg (show ¬ C.sem.up = false by rw [show C.sem.up = C.up from rfl, hup]; decide), if_pos (by show b < 0 ∨ C.g.bl ≤ b ∨ p < 0 ∨ C.g.pg ≤ p ∨ ok = false; simp only [or_assoc] at h2; exact h2)], rfl⟩
   ·simp only [Bool.or_eq_true, Bool.or_eq_false_iff, decide_eq_true_eq, decide_eq_false_iff_not, Bool.not_eq_true', Bool.not_eq_false'] at hc2
    have h2 := hc2
    refine WC.sr (WL.mv rfl rfl (WL.nc rfl rfl (WL.val (V.fieldAddr jL (OV.p rfl)) rfl (WL.ld Tryz.isAgg28 rfl rfl ?_))))
    refine WL.mv rfl rfl (WL.call (vs := [_, _]) Tryz.call17 ⟨OV.p rfl, OV.p rfl, trivial⟩ (zn b) rfl ?_)
    rintro _ H0 ⟨rfl, h0⟩
    subst H0
    refine WL.sg rfl rfl (WL.nil ?_)
    refine WC.cond rfl (fun hc3 => ?_) (fun hc3 => ?_)
    ·skip
     have h3 := hc3
     refine WC.sr (WL.sg rfl rfl (WL.nil (WC.ret ?_)))
     exact ak.ret (H' := C.A bc :: bO bd bc C.g :: F) (aQ.tmp rfl rfl) (fun w h => h) ⟨by unfold ah.ahead; rw [if_neg (show ¬ C.sem.up = false by rw [show C.sem.up = C.up from rfl, hup]; decide), if_neg (by show ¬ (b < 0 ∨ C.g.bl ≤ b ∨ p < 0 ∨ C.g.pg ≤ p ∨ ok = false); obtain ⟨⟨⟨⟨q1, q2⟩, q3⟩, q4⟩, q5⟩ := h2; rw [q5]; simp; omega), if_pos h3], rfl⟩
    ·skip
     have h3 := hc3
     refine WC.skip (WC.sr (WL.sg rfl rfl (WL.nil (WC.ret ?_))))
     exact ak.ret (H' := C.A bc :: bO bd bc C.g :: F) (aQ.tmp rfl rfl) (fun w h => h) ⟨by unfold ah.ahead; rw [if_neg (show ¬ C.sem.up = false by rw [show C.sem.up = C.up from rfl, hup]; decide), if_neg (by show ¬ (b < 0 ∨ C.g.bl ≤ b ∨ p < 0 ∨ C.g.pg ≤ p ∨ ok = false); obtain ⟨⟨⟨⟨q1, q2⟩, q3⟩, q4⟩, q5⟩ := h2; rw [q5]; simp; omega), if_neg (by rw [h3]; decide)], rfl⟩
theorem Ey (hC : C.Ok) (b e : Int) : Does Tryz.prog 90 #[.int .i64 b, .int .i64 e, .func (.func 92) #[ptr bc 0] #[]] K (C.A bc :: F)
    (fun v H' => ∃ C' : Cw, C'.Ok ∧ H' = C'.A bc :: F ∧ C'.sem = (ah.done b (C.sem, e)).1 ∧ v = .int .i64 (ah.done b (C.sem, e)).2) := by
  refine Does.enter Tryz.func90 rfl Tryz.ntmps90 rfl ?_
  simp only [aH, Nat.reduceAdd]
  refine WC.sr (WL.sg rfl rfl (WL.nil (WC.seq (WC.sr (WL.mv rfl rfl (WL.val (V.neq (OV.p rfl) (OV.p rfl)) rfl (WL.nil ?_)))))))
  refine WC.cond rfl (fun hc0 => ?_) (fun hc0 => ?_)
  ·simp only [decide_eq_true_eq, decide_eq_false_iff_not, Bool.not_eq_true', Bool.not_eq_false'] at hc0
   have h0 := hc0
   have hd : ah.done b (C.sem, e) = (C.sem, e) := by unfold ah.done; rw [if_pos hc0]
   refine WC.sr (WL.mv rfl rfl (WL.sg rfl rfl (WL.nil (WC.ret ?_))))
   exact ak.ret (H' := C.A bc :: F) (aQ.tmp rfl rfl) (fun w h => h) ⟨C, hC, rfl, by rw [hd], by rw [hd]⟩
  ·simp only [decide_eq_true_eq, decide_eq_false_iff_not, Bool.not_eq_true', Bool.not_eq_false'] at hc0
   have h0 := hc0
   have hd : ah.done b (C.sem, e) = if (C.sem.mark b).2 ≠ 0 then C.sem.mark b else ((C.sem.mark b).1, 72) := by unfold ah.done; rw [if_neg (by simpa using hc0)]
   refine WC.skip (WC.seq (WC.sr (WL.mv rfl rfl (WL.mv rfl rfl (WL.lQ (first := [ptr bc 0]) (vs := [_]) (captured := []) Tryz.call92 (OV.p rfl) ⟨OV.p rfl, trivial⟩ (I8 hC b) rfl ?_)))))
   rintro _ _ ⟨C1, Ik, rfl, s1, rfl⟩
   refine WL.sg rfl rfl (WL.nil (WC.sr (WL.mv rfl rfl (WL.val (V.neq (OV.p rfl) (OV.p rfl)) rfl (WL.nil ?_)))))
   refine WC.cond rfl (fun hc1 => ?_) (fun hc1 => ?_)
   ·simp only [decide_eq_true_eq, decide_eq_false_iff_not, Bool.not_eq_true', Bool.not_eq_false'] at hc1
    rw [if_pos hc1] at hd
    refine WC.sr (WL.mv rfl rfl (WL.sg rfl rfl (WL.nil (WC.ret ?_))))
    exact ak.ret (H' := C1.A bc :: F) (aQ.tmp rfl rfl) (fun w h => h) ⟨C1, Ik, rfl, by rw [hd, s1], by rw [hd]⟩
   ·simp only [decide_eq_true_eq, decide_eq_false_iff_not, Bool.not_eq_true', Bool.not_eq_false'] at hc1
    rw [if_neg (by simpa using hc1)] at hd
    refine WC.skip (WC.sr (WL.mv rfl rfl (WL.sg rfl rfl (WL.nil (WC.ret ?_)))))
    exact ak.ret (H' := C1.A bc :: F) (aQ.tmp rfl rfl) (fun w h => h) ⟨C1, Ik, rfl, by rw [hd, s1], by rw [hd, h0]⟩
theorem ER (hC : C.Ok) (b : Int) : Does Tryz.prog 58 #[ptr bd 0, .int .i64 b] K (C.A bc :: bO bd bc C.g :: F)
    (fun v H' => ∃ C' : Cw, C'.Ok ∧ H' = C'.A bc :: bO bd bc C.g :: F ∧ C'.sem = (C.sem.aM b).1 ∧ v = .int .i64 (C.sem.aM b).2) := by
  refine Does.enter Tryz.func58 rfl Tryz.ntmps58 rfl ?_
  simp only [aH, Nat.reduceAdd]
  refine WC.sr (WL.sg rfl rfl (WL.nil (WC.seq (WC.sr (WL.mv rfl rfl (WL.mv rfl rfl (WL.call (vs := [_, _, _, _]) Tryz.call89 ⟨OV.p rfl, OV.p rfl, OV.p rfl, OV.p rfl, trivial⟩ (lV b 0 true) rfl ?_)))))))
  rintro _ H0 ⟨rfl, h0⟩
  subst H0
  refine WL.sg rfl rfl (WL.nil (WC.sr (WL.mv rfl rfl (WL.val (V.neq (OV.p rfl) (OV.p rfl)) rfl (WL.nil ?_)))))
  refine WC.cond rfl (fun hc0 => ?_) (fun hc0 => ?_)
  ·simp only [decide_eq_true_eq, decide_eq_false_iff_not, Bool.not_eq_true', Bool.not_eq_false'] at hc0
   have hd : C.sem.aM b = (C.sem, C.sem.ahead b 0 true) := by unfold ah.aM; rw [if_pos hc0]
   refine WC.sr (WL.mv rfl rfl (WL.sg rfl rfl (WL.nil (WC.ret ?_))))
   exact ak.ret (H' := C.A bc :: bO bd bc C.g :: F) (aQ.tmp rfl rfl) (fun w h => h) ⟨C, hC, rfl, by rw [hd], by rw [hd]⟩
  ·simp only [decide_eq_true_eq, decide_eq_false_iff_not, Bool.not_eq_true', Bool.not_eq_false'] at hc0
   have hd : C.sem.aM b = ah.done b (C.sem.erase b) := by unfold ah.aM; rw [if_neg (by simpa using hc0)]
   refine WC.skip (WC.seq ?_)
   refine WC.dK (bO bd bc C.g :: F) (by kernel_rfl) ?_
   refine WA.t 0 rfl (V.move (OV.p rfl)) (WA.t 1 rfl (V.move (OV.p rfl)) (WA.t 2 rfl (V.nilCheck (OV.p rfl)) (WA.t 3 rfl (V.fieldAddr jL (OV.p rfl)) ?_)))
   refine WA.t 4 rfl (V.load Tryz.isAgg28 (OV.p rfl) (fun _ => by repeat (first | exact Rd.here rfl | apply Rd.up))) ?_
   refine WA.t 5 rfl (V.move (OV.p rfl)) (WA.t 7 rfl (V.move (OV.p rfl)) (WA.t 8 rfl (V.nilCheck (OV.p rfl)) (WA.t 9 rfl (V.fieldAddr jL (OV.p rfl)) ?_)))
   refine WA.t 10 rfl (V.load Tryz.isAgg28 (OV.p rfl) (fun _ => by repeat (first | exact Rd.here rfl | apply Rd.up))) ?_
   refine WA.t 11 rfl (V.makeFunc (us := [_]) (vs := []) ⟨OV.p rfl, trivial⟩ trivial) (WA.o 6 rfl (WL.call (vs := [_, _]) Tryz.call91 ⟨OV.p rfl, OV.p rfl, trivial⟩ (FZ hC b) rfl ?_))
   rintro _ _ ⟨C1, Ik, rfl, s1, rfl⟩
   refine WL.nil (WA.o 12 rfl (WL.call (vs := [_, _, _]) Tryz.call90 ⟨OV.p rfl, OV.p rfl, OV.p rfl, trivial⟩ (Ey Ik b _) rfl ?_))
   rintro _ _ ⟨C2, hC2, rfl, s2, rfl⟩
   refine WL.nil (WA.t 13 rfl (V.assign (OV.p rfl)) (WA.fin (WC.ret ?_)))
   exact ak.ret (H' := C2.A bc :: bO bd bc C.g :: F) (aQ.tmp rfl rfl) (fun w h => h) ⟨C2, hC2, rfl, by rw [hd, s2, s1], by rw [hd, s1]⟩
end
namespace ah
def room (S : ah) : Nat := S.g.se.toNat * S.g.sb.toNat
def cZ (g : Geo) (d : List Nat) : List Nat := kg g.fl.toNat g.se.toNat g.sb.toNat d
def bQ (S : ah) (b p : Int) (d : List Nat) : ah × Int :=
  if S.ahead b p (decide (d.length = S.room)) ≠ 0 then (S, S.ahead b p (decide (d.length = S.room))) else done b (S.program b p (aT (cZ S.g d)))
structure Got where
  err : Int
  d : List Nat
  n : Nat
def fU (S : ah) (b p : Int) : List Nat := cu (S.reads b p)
def bG (S : ah) (b p : Int) : Got :=
  if S.ahead b p true ≠ 0 then ⟨S.ahead b p true, [], 0⟩
  else ⟨(dB S.g.fl.toNat S.g.se.toNat S.g.sb.toNat (S.fU b p)).err, (dB S.g.fl.toNat S.g.se.toNat S.g.sb.toNat (S.fU b p)).d, (dB S.g.fl.toNat S.g.se.toNat S.g.sb.toNat (S.fU b p)).n⟩
def kE (S : ah) (b p : Int) : Nat := dR S.g.fl.toNat S.g.se.toNat (S.g.sb.toNat + ay S.g.fl.toNat) (S.fU b p)
def iA (S : ah) (b : Int) : Nat → Bool
  | 0 => true
  | k + 1 => iA S b k && decide (S.kE b (k : Nat) = 0)
def jr (S : ah) (b n : Int) : Bool × Int :=
  if S.ahead b 0 (decide (0 ≤ n) && decide (n ≤ S.g.pg)) = 73 then (false, 0)
  else if S.ahead b 0 (decide (0 ≤ n) && decide (n ≤ S.g.pg)) ≠ 0 then (false, S.ahead b 0 (decide (0 ≤ n) && decide (n ≤ S.g.pg)))
  else (S.iA b n.toNat, 0)
def dG (S : ah) : Nat → List Int
  | 0 => []
  | k + 1 => if (S.up && !S.bad (k : Int)) = true then dG S k ++ [(k : Int)] else dG S k
def good (S : ah) : List Int := S.dG S.g.bl.toNat
theorem gq (S : ah) : ∀ k, (S.dG k).length ≤ k
  | 0 => Nat.le_refl _
  | k + 1 => by
    have := gq S k
    rw [dG]; split
    · rw [List.length_append]; simp; omega
    · omega
theorem ahead_zero {S : ah} {b p : Int} {ok : Bool} (h : S.ahead b p ok = 0) : S.up = true ∧ (0 ≤ b ∧ b < S.g.bl ∧ 0 ≤ p ∧ p < S.g.pg) ∧ ok = true ∧ S.bad b = false := by
  unfold ahead at h
  split at h
  · cases h
  · rename_i h1
    split at h
    · cases h
    · rename_i h2
      split at h
      · cases h
      · rename_i h3
        cases hok : ok with
        | false => exact absurd (.inr (.inr (.inr (.inr hok)))) h2
        | true => exact ⟨by simpa using h1, by omega, rfl, by simpa using h3⟩
theorem JC {S : ah} {b p : Int} {ok : Bool} (h : S.ahead b p ok = 0) : S.dX b p = 0 := by
  obtain ⟨h1, h2, _, _⟩ := ahead_zero h
  unfold dX page block
  rw [if_neg (by rw [h1]; decide), if_neg (by simp; omega)]
end ah
theorem iC {g : Geo} (h : g.aD) : g = NG g.bl g.pg g.se.toNat g.sb.toNat g.fl.toNat := by
  unfold Geo.aD at h
  obtain ⟨a, b, c, d, e⟩ := g
  dsimp only at h ⊢
  unfold NG
  congr 1 <;> omega
theorem Geo.nQ {g : Geo} (h : g.aD) : g.raw = ((fU g.se.toNat g.sb.toNat g.fl.toNat : Nat) : Int) := by
  have h1 := NG.raw (bl := g.bl) (pg := g.pg) (S := g.se.toNat) (B := g.sb.toNat) (t := g.fl.toNat)
  rw [← iC h] at h1
  exact h1
theorem Geo.zS {g : Geo} (h : g.aD) : g.room = ((g.se.toNat * g.sb.toNat : Nat) : Int) := by
  have h1 := NG.room (bl := g.bl) (pg := g.pg) (S := g.se.toNat) (B := g.sb.toNat) (t := g.fl.toNat)
  rw [← iC h] at h1
  exact h1
section
variable {bc bd : Nat} {C : Cw} {K : World} {F : List aj}
theorem JJ {g : Geo} {A : Option Addr} {m cap : Nat} {d : List Nat} (hg : g.aD) (hd : Seq K F A m 1 (aA .u8 d)) (h8 : Small 256 d) (hm : m = g.se.toNat * g.sb.toNat) (hmc : m ≤ cap) :
    Does Tryz.prog 114 #[g.v, .slice A m cap] K F
      (fun v H' => ∃ A' cap', v = .tuple #[.slice A' g.raw.toNat cap', .int .i64 0] ∧ H' = aZ (.slice A' g.raw.toNat cap') 5 1 g.raw.toNat (aA .u8 (ah.cZ g d)) :: F) := by
  have h := J8 (bl := g.bl) (pg := g.pg) (S := g.se.toNat) (B := g.sb.toNat) (t := g.fl.toNat) (by rw [← iC hg]; exact hg) hd h8 hm hmc
  rw [← iC hg] at h
  rw [Geo.nQ hg, Int.toNat_natCast]
  exact h
theorem Jr {g : Geo} {A : Option Addr} {m cap : Nat} {raw : List Nat} (hg : g.aD) (hr : Seq K F A m 1 (aA .u8 raw)) (h8 : Small 256 raw) (hm : m = g.raw.toNat) (hmc : m ≤ cap) :
    Does Tryz.prog 97 #[g.v, .slice A m cap] K F
      (fun v H' => ∃ A' cap', v = .tuple #[.slice A' (dB g.fl.toNat g.se.toNat g.sb.toNat raw).d.length cap', .int .i64 ((dB g.fl.toNat g.se.toNat g.sb.toNat raw).n : Nat), .int .i64 ((dB g.fl.toNat g.se.toNat g.sb.toNat raw).err : Nat)] ∧
        H' = aZ (.slice A' (dB g.fl.toNat g.se.toNat g.sb.toNat raw).d.length cap') 5 1 (dB g.fl.toNat g.se.toNat g.sb.toNat raw).d.length (aA .u8 (dB g.fl.toNat g.se.toNat g.sb.toNat raw).d) :: F) := by
  have h := LM (bl := g.bl) (pg := g.pg) (S := g.se.toNat) (B := g.sb.toNat) (t := g.fl.toNat) (by rw [← iC hg]; exact hg) hr h8 (by rw [hm, Geo.nQ hg, Int.toNat_natCast]) hmc
  rw [← iC hg] at h
  exact h
theorem Ez {g : Geo} {A : Option Addr} {m cap : Nat} {raw : List Nat} (hg : g.aD) (hr : Seq K F A m 1 (aA .u8 raw)) (h8 : Small 256 raw) (hm : m = g.raw.toNat) (hmc : m ≤ cap) :
    Does Tryz.prog 116 #[g.v, .slice A m cap] K F
      (fun v H' => ∃ A' n' cap', v = .tuple #[.slice A' n' cap', .int .i64 (dR g.fl.toNat g.se.toNat (g.sb.toNat + ay g.fl.toNat) raw : Nat)] ∧ H' = F) := by
  have h := zT (bl := g.bl) (pg := g.pg) (S := g.se.toNat) (B := g.sb.toNat) (t := g.fl.toNat) (by rw [← iC hg]; exact hg) hr h8 (by rw [hm, Geo.nQ hg, Int.toNat_natCast]) hmc
  rw [← iC hg] at h
  refine Does.post_ h (fun v H' hp => ?_)
  rcases hp with ⟨h1, rfl, rfl⟩ | ⟨h1, A', cap', l, rs, rfl, _, _, rfl⟩
  · exact ⟨H', fun w hw => hw, _, _, _, rfl, rfl⟩
  · exact ⟨F, fun w hw => hw.drop 2, A', _, cap', by rw [h1]; rfl, rfl⟩
theorem EB (hC : C.Ok) (b p : Int) {A : Option Addr} {m cap : Nat} {d : List Nat} (hd : Seq K F A m 1 (aA .u8 d)) (h8 : Small 256 d) (hmc : m ≤ cap) (hm : m ≤ 1000000) :
    Does Tryz.prog 86 #[ptr bd 0, .int .i64 b, .int .i64 p, .slice A m cap] K (C.A bc :: bO bd bc C.g :: F)
    (fun v H' => ∃ C' : Cw, C'.Ok ∧ H' = C'.A bc :: bO bd bc C.g :: F ∧ C'.sem = (C.sem.bQ b p d).1 ∧ v = .int .i64 (C.sem.bQ b p d).2) := by
  have hl : d.length = m := by simpa [aA] using hd.len
  have hmay : C.g.may = true := decide_eq_true hC.aD
  refine Does.enter Tryz.func86 rfl Tryz.ntmps86 rfl ?_
  simp only [aH, Nat.reduceAdd]
  refine WC.sr (WL.sg rfl rfl (WL.nil (WC.sr (WL.mv rfl rfl (WL.call (vs := [_]) Tryz.call74 ⟨OV.p rfl, trivial⟩ (gT) rfl ?_)))))
  rintro _ H0 ⟨rfl, h0⟩
  subst H0
  refine WL.call (vs := [_]) Tryz.call80 ⟨OV.p rfl, trivial⟩ (aJ.eq (v' := .tuple #[.int .i64 C.g.room, .int .i64 0]) (yK C.g) (by rw [hmay]; rfl)) rfl ?_
  rintro _ H0 ⟨rfl, h0⟩
  subst H0
  refine WL.mv rfl rfl (WL.xt rfl rfl rfl (WL.xt rfl rfl rfl (WL.sg rfl rfl (WL.sg rfl rfl (WL.nil (WC.seq (WC.sr (WL.mv rfl rfl (WL.mv rfl rfl (WL.mv rfl rfl (WL.mv rfl rfl (WL.val (V.len (t := 43) Tryz.runUnderlying43 (OV.p rfl)) rfl (WL.mv rfl rfl ?_)))))))))))))
  refine WL.val (V.aB (v' := .bool (decide (d.length = C.sem.room))) (V.eql (OV.p rfl) (OV.p rfl)) (fun _ => by rw [Geo.zS hC.aD, hl]; congr 1; apply decide_eq_decide.2; show ((m : Int) = ((C.g.se.toNat * C.g.sb.toNat : Nat) : Int)) ↔ m = C.g.se.toNat * C.g.sb.toNat; omega)) rfl ?_
  refine WL.call (vs := [_, _, _, _]) Tryz.call89 ⟨OV.p rfl, OV.p rfl, OV.p rfl, OV.p rfl, trivial⟩ (lV b p _) rfl ?_
  rintro _ H0 ⟨rfl, h0⟩
  subst H0
  refine WL.sg rfl rfl (WL.nil (WC.sr (WL.mv rfl rfl (WL.val (V.neq (OV.p rfl) (OV.p rfl)) rfl (WL.nil ?_)))))
  refine WC.cond rfl (fun hc0 => ?_) (fun hc0 => ?_)
  ·simp only [decide_eq_true_eq, decide_eq_false_iff_not, Bool.not_eq_true', Bool.not_eq_false'] at hc0
   have h0 := hc0
   have hdw : C.sem.bQ b p d = (C.sem, C.sem.ahead b p (decide (d.length = C.sem.room))) := by unfold ah.bQ; rw [if_pos hc0]
   refine WC.sr (WL.mv rfl rfl (WL.sg rfl rfl (WL.nil (WC.ret ?_))))
   exact ak.ret (H' := C.A bc :: bO bd bc C.g :: F) (aQ.tmp rfl rfl) (fun w h => h) ⟨C, hC, rfl, by rw [hdw], by rw [hdw]⟩
  ·simp only [decide_eq_true_eq, decide_eq_false_iff_not, Bool.not_eq_true', Bool.not_eq_false'] at hc0
   have h0 := hc0
   have hdw : C.sem.bQ b p d = ah.done b (C.sem.program b p (aT (ah.cZ C.g d))) := by unfold ah.bQ; rw [if_neg (by simpa using hc0)]; rfl
   have hok := (ah.ahead_zero hc0).2.2.1
   have hmr : m = C.g.se.toNat * C.g.sb.toNat := by rw [← hl]; exact of_decide_eq_true hok
   refine WC.skip (WC.sr (WL.mv rfl rfl (WL.nc rfl rfl (WL.val (V.fieldAddr qE (OV.p rfl)) rfl ?_))))
   refine WL.val (V.bB (vs := [_, _, _, _, _]) ⟨Tryz.isAgg23, Tryz.sizeOf23⟩ (OV.p rfl) rfl (fun _ => by repeat (first | exact bA.gets ⟨rfl, rfl, rfl, rfl, rfl, trivial⟩ | apply bA.up))) rfl ?_
   refine WL.mv rfl rfl (WL.call (vs := [_, _]) Tryz.call114 ⟨OV.p rfl, OV.p rfl, trivial⟩ (JJ hC.aD hd.up.up h8 hmr hmc) rfl ?_)
   rintro _ _ ⟨Ap, cp, rfl, rfl⟩
   refine WL.sub (Sub.refl _) (fun w h => h.p1) ?_
   refine WL.have_ (fun w h => (aZ.shape h.p1.head)) (fun ⟨Aq, cq, hq, hq2, _⟩ => ?_)
   have hcp : C.g.raw.toNat ≤ cp := by injection hq with q1 q2 q3; omega
   have hN := o8.of (bl := C.g.bl) (pg := C.g.pg) (by rw [← iC hC.aD]; exact hC.aD)
   have hpl : (ah.cZ C.g d).length = C.g.raw.toNat := by
     unfold ah.cZ
     rw [nV hN.t h8 (hl.trans hmr), Geo.nQ hC.aD, Int.toNat_natCast]
   have hps : Small 256 (ah.cZ C.g d) := wO hN.t h8
   refine WL.mv rfl rfl (WL.xt rfl rfl rfl (WL.xt rfl rfl rfl (WL.sg rfl rfl (WL.sg rfl rfl (WL.nil (WC.seq ?_))))))
   refine WC.dK (aZ (.slice Ap C.g.raw.toNat cp) 5 1 C.g.raw.toNat (aA .u8 (ah.cZ C.g d)) :: bO bd bc C.g :: F) (by kernel_rfl) ?_
   refine WA.t 0 rfl (V.move (OV.p rfl)) (WA.t 1 rfl (V.move (OV.p rfl)) (WA.t 2 rfl (V.nilCheck (OV.p rfl)) (WA.t 3 rfl (V.fieldAddr jL (OV.p rfl)) ?_)))
   refine WA.t 4 rfl (V.load Tryz.isAgg28 (OV.p rfl) (fun _ => by repeat (first | exact Rd.here rfl | apply Rd.up))) ?_
   refine WA.t 5 rfl (V.move (OV.p rfl)) (WA.t 6 rfl (V.move (OV.p rfl)) (WA.t 7 rfl (V.move (OV.p rfl)) (WA.t 9 rfl (V.move (OV.p rfl)) (WA.t 10 rfl (V.nilCheck (OV.p rfl)) (WA.t 11 rfl (V.fieldAddr jL (OV.p rfl)) ?_)))))
   refine WA.t 12 rfl (V.load Tryz.isAgg28 (OV.p rfl) (fun _ => by repeat (first | exact Rd.here rfl | apply Rd.up))) ?_
   refine WA.t 13 rfl (V.makeFunc (us := [_]) (vs := []) ⟨OV.p rfl, trivial⟩ trivial) (WA.o 8 rfl ?_)
   refine WL.call (vs := [_, _, _, _]) Tryz.call115 ⟨OV.p rfl, OV.p rfl, OV.p rfl, OV.p rfl, trivial⟩ (Dx hC b p (jo hps) (by rw [← fH]; exact aZ.seq (by rw [aG, hpl, Nat.mul_one])) hcp) rfl ?_
   rintro _ _ ⟨C1, Ik, rfl, s1, rfl⟩
   refine WL.nil (WA.o 14 rfl (WL.call (vs := [_, _, _]) Tryz.call90 ⟨OV.p rfl, OV.p rfl, OV.p rfl, trivial⟩ (Ey Ik b _) rfl ?_))
   rintro _ _ ⟨C2, hC2, rfl, s2, rfl⟩
   refine WL.nil (WA.t 15 rfl (V.assign (OV.p rfl)) (WA.fin (WC.ret ?_)))
   exact ak.ret (H' := C2.A bc :: bO bd bc C.g :: F) (aQ.tmp rfl rfl) (fun w h => h.sel 2 [0] rfl) ⟨C2, hC2, rfl, by rw [hdw, s2, s1], by rw [hdw, s1]⟩
end
theorem Cw.Ok.Jk {C : Cw} (hC : C.Ok) (b p : Int) : bf (C.sem.reads b p) := by
  have hr := Geo.kV hC.aD
  have hl := hC.BN b p
  unfold ah.reads at hl ⊢
  rw [je] at hl
  refine zK (hC.Fb b p) (fun i hi => ?_)
  obtain ⟨A, c, l, h1, h2, h3, h4, h5⟩ := hC.FJ b p
  rw [← h4] at hi
  have := h3 i hi
  rw [hl]; omega
theorem Cw.Ok.nT {C : Cw} (hC : C.Ok) (b p : Int) : ints .u8 (C.sem.reads b p) = aA .u8 (C.sem.fU b p) ∧ Small 256 (C.sem.fU b p) ∧ (C.sem.fU b p).length = C.g.raw.toNat := by
  have h := hC.Jk b p
  exact ⟨xq h, uE h, by unfold ah.fU; rw [iO, hC.BN]⟩
section
variable {bc bd : Nat} {C : Cw} {K : World} {F : List aj}
theorem Gx (hC : C.Ok) (b p : Int) : Does Tryz.prog 70 #[ptr bd 0, .int .i64 b, .int .i64 p] K (C.A bc :: bO bd bc C.g :: F)
    (fun v H' => ∃ A' c', v = .tuple #[.slice A' (C.sem.bG b p).d.length c', .int .i64 ((C.sem.bG b p).n : Nat), .int .i64 (C.sem.bG b p).err] ∧
      H' = aZ (.slice A' (C.sem.bG b p).d.length c') 5 1 (C.sem.bG b p).d.length (aA .u8 (C.sem.bG b p).d) :: C.A bc :: bO bd bc C.g :: F) := by
  obtain ⟨G, hG⟩ : ∃ G, G = C.sem.bG b p := ⟨_, rfl⟩
  rw [← hG]
  obtain ⟨r1, r2, r3⟩ := hC.nT b p
  have hrb := Geo.kV hC.aD
  refine Does.enter Tryz.func70 rfl Tryz.ntmps70 rfl ?_
  simp only [aH, Nat.reduceAdd]
  refine WC.sr (WL.sg rfl rfl (WL.sg rfl rfl (WL.sg rfl rfl (WL.nil (WC.seq (WC.sr (WL.mv rfl rfl (WL.mv rfl rfl (WL.mv rfl rfl (WL.call (vs := [_, _, _, _]) Tryz.call89 ⟨OV.p rfl, OV.p rfl, OV.p rfl, OV.p rfl, trivial⟩ (lV b p true) rfl ?_))))))))))
  rintro _ H0 ⟨rfl, h0⟩
  subst H0
  refine WL.sg rfl rfl (WL.nil (WC.sr (WL.mv rfl rfl (WL.val (V.neq (OV.p rfl) (OV.p rfl)) rfl (WL.nil ?_)))))
  refine WC.cond rfl (fun hc0 => ?_) (fun hc0 => ?_)
  ·simp only [decide_eq_true_eq, decide_eq_false_iff_not, Bool.not_eq_true', Bool.not_eq_false'] at hc0
   have h0 := hc0
   have hG2 : G = ⟨C.sem.ahead b p true, [], 0⟩ := by rw [hG]; unfold ah.bG; rw [if_pos h0]
   refine WC.sr (WL.mv rfl rfl (WL.sg rfl rfl (WL.sg rfl rfl (WL.sg rfl rfl (WL.nil (WC.ret ?_))))))
   exact ak.ret (H' := aZ (.slice none 0 0) 5 1 0 [] :: C.A bc :: bO bd bc C.g :: F) (aQ.vV rfl rfl rfl rfl) (fun w h => Sat.iE h _ _) ⟨none, 0, by rw [hG2]; rfl, by rw [hG2]; rfl⟩
  ·simp only [decide_eq_true_eq, decide_eq_false_iff_not, Bool.not_eq_true', Bool.not_eq_false'] at hc0
   have h0 := hc0
   have h0 : C.sem.ahead b p true = 0 := by simpa using h0
   have hG2 : G = ⟨(dB C.g.fl.toNat C.g.se.toNat C.g.sb.toNat (C.sem.fU b p)).err, (dB C.g.fl.toNat C.g.se.toNat C.g.sb.toNat (C.sem.fU b p)).d, (dB C.g.fl.toNat C.g.se.toNat C.g.sb.toNat (C.sem.fU b p)).n⟩ := by rw [hG]; unfold ah.bG; rw [if_neg (by rw [h0]; decide)]; rfl
   refine WC.skip (WC.sr (WL.mv rfl rfl (WL.nc rfl rfl (WL.val (V.fieldAddr jL (OV.p rfl)) rfl (WL.ld Tryz.isAgg28 rfl rfl ?_)))))
   refine WL.mv rfl rfl (WL.mv rfl rfl (WL.call (vs := [_, _, _]) Tryz.call96 ⟨OV.p rfl, OV.p rfl, OV.p rfl, trivial⟩ (BK hC b p) rfl ?_))
   rintro _ _ (⟨_, bo, rfl, rfl⟩ | ⟨hno, rfl, rfl⟩)
   rotate_left
   · exact (hno (ah.JC h0)).elim
   rw [r1]
   refine WL.mv rfl rfl (WL.xt rfl rfl rfl (WL.xt rfl rfl rfl (WL.sg rfl rfl (WL.sg rfl rfl (WL.nil (WC.seq (WC.sr (WL.mv rfl rfl (WL.val (V.neq (OV.p rfl) (OV.p rfl)) rfl (WL.nil ?_))))))))))
   refine WC.aS rfl (by first | rfl | (simp; done) | (simp; omega)) ?_
   refine WC.skip (WC.sr (WL.mv rfl rfl (WL.nc rfl rfl (WL.val (V.fieldAddr qE (OV.p rfl)) rfl ?_))))
   refine WL.val (V.bB (vs := [_, _, _, _, _]) ⟨Tryz.isAgg23, Tryz.sizeOf23⟩ (OV.p rfl) rfl (fun _ => by repeat (first | exact bA.gets ⟨rfl, rfl, rfl, rfl, rfl, trivial⟩ | apply bA.up))) rfl ?_
   refine WL.mv rfl rfl (WL.call (vs := [_, _]) Tryz.call97 ⟨OV.p rfl, OV.p rfl, trivial⟩ (Jr hC.aD (Seq.xK r3) r2 rfl (Nat.le_refl _)) rfl ?_)
   rintro _ _ ⟨A', c', rfl, rfl⟩
   refine WL.xt rfl rfl rfl (WL.xt rfl rfl rfl (WL.xt rfl rfl rfl (WL.sg rfl rfl (WL.sg rfl rfl (WL.sg rfl rfl (WL.nil (WC.ret ?_)))))))
   refine ak.ret (H' := aZ (.slice A' G.d.length c') 5 1 G.d.length (aA .u8 G.d) :: C.A bc :: bO bd bc C.g :: F) (aQ.vV rfl rfl rfl rfl) (fun w h => ?_) ⟨A', c', by rw [hG2], rfl⟩
   rw [hG2]
   exact h.sel 2 [0] rfl
theorem EF (hC : C.Ok) (b n : Int) (hn : -9223372036854775808 ≤ n ∧ n ≤ 9223372036854775807) : aJ Tryz.prog 88 #[ptr bd 0, .int .i64 b, .int .i64 n] K (C.A bc :: bO bd bc C.g :: F) (.tuple #[.bool (C.sem.jr b n).1, .int .i64 (C.sem.jr b n).2]) := by
  have hrb := Geo.kV hC.aD
  have hpg := hC.aD
  unfold Geo.aD at hpg
  refine Does.enter Tryz.func88 rfl Tryz.ntmps88 rfl ?_
  simp only [aH, Nat.reduceAdd]
  refine WC.sr (WL.sg rfl rfl (WL.sg rfl rfl (WL.nil (WC.sr (WL.mv rfl rfl (WL.mv rfl rfl (WL.mv rfl rfl (WL.val (V.geq (OV.p rfl) (OV.p rfl)) rfl (WL.mv rfl rfl (WL.av (oj := _) rfl rfl rfl GC.t (V.move (OV.p rfl)) rfl (WL.av (oj := _) rfl rfl rfl GC.t (V.move (OV.p rfl)) rfl ?_)))))))))))
  refine WL.iD (oj := _) (vs := [_]) rfl rfl rfl GC.t Tryz.call74 ⟨OV.g rfl id, trivial⟩ (fun hg => gT) rfl ?_
  refine WL.av (oj := _) rfl rfl rfl GC.t (V.field (OV.g rfl id) (MP _ _ _ _ _)) rfl (WL.av (oj := _) rfl rfl rfl GC.t (V.leq (OV.g rfl id) (OV.g rfl id)) rfl (WL.val (V.aI (OV.p rfl) (OV.g rfl id)) rfl (WL.call (vs := [_, _, _, _]) Tryz.call89 ⟨OV.p rfl, OV.p rfl, OV.p rfl, OV.p rfl, trivial⟩ (lV b 0 _) rfl ?_)))
  rintro _ H0 ⟨rfl, h0⟩
  subst H0
  refine WL.sg rfl rfl (WL.nil (WC.seq (WC.seq ?_)))
  obtain ⟨e, he⟩ : ∃ e, e = C.sem.ahead b 0 (decide (0 ≤ n) && decide (n ≤ C.g.pg)) := ⟨_, rfl⟩
  rw [← he]
  have hW : C.sem.jr b n = if e = 73 then (false, 0) else if e ≠ 0 then (false, e) else (C.sem.iA b n.toNat, 0) := by unfold ah.jr; rw [he]; rfl
  rw [hW]
  refine WC.region (WL.mv rfl rfl (WL.val (V.eql (OV.p rfl) (OV.p rfl)) rfl (WL.nil ?_)))
  refine WC.cond rfl (fun hc0 => ?_) (fun hc0 => ?_)
  ·simp only [decide_eq_true_eq, decide_eq_false_iff_not, Bool.not_eq_true', Bool.not_eq_false'] at hc0
   rw [if_pos hc0]
   refine WC.sr (WL.sg rfl rfl (WL.sg rfl rfl (WL.nil (WC.ret ?_))))
   exact ak.ret (H' := C.A bc :: bO bd bc C.g :: F) (aQ.fG rfl rfl rfl) (fun w h => h) ⟨rfl, rfl⟩
  ·simp only [decide_eq_true_eq, decide_eq_false_iff_not, Bool.not_eq_true', Bool.not_eq_false'] at hc0
   rw [if_neg hc0]
   refine WC.skip (WC.seq (WC.sr (WL.mv rfl rfl (WL.val (V.neq (OV.p rfl) (OV.p rfl)) rfl (WL.nil ?_)))))
   refine WC.cond rfl (fun hc1 => ?_) (fun hc1 => ?_)
   ·simp only [decide_eq_true_eq, decide_eq_false_iff_not, Bool.not_eq_true', Bool.not_eq_false'] at hc1
    rw [if_pos hc1]
    refine WC.sr (WL.mv rfl rfl (WL.sg rfl rfl (WL.sg rfl rfl (WL.nil (WC.ret ?_)))))
    exact ak.ret (H' := C.A bc :: bO bd bc C.g :: F) (aQ.fG rfl rfl rfl) (fun w h => h) ⟨rfl, rfl⟩
   ·simp only [decide_eq_true_eq, decide_eq_false_iff_not, Bool.not_eq_true', Bool.not_eq_false'] at hc1
    have he0 : e = 0 := by simpa using hc1
    rw [if_neg (by rw [he0]; decide)]
    obtain ⟨q1, q2, q3, q4⟩ := ah.ahead_zero (he ▸ he0 : C.sem.ahead b 0 (decide (0 ≤ n) && decide (n ≤ C.g.pg)) = 0)
    simp only [Bool.and_eq_true, decide_eq_true_eq] at q3
    obtain ⟨k, hk⟩ : ∃ k : Nat, n = (k : Int) := ⟨n.toNat, by omega⟩
    subst hk
    rw [Int.toNat_natCast]
    refine WC.skip (WC.seq (WC.sr (WL.mv rfl rfl (WL.mv rfl rfl (WL.nil (WC.block ?_))))))
    refine WC.loop (σ := Nat) (fun j => [(0, ptr bd 0), (1, .int .i64 b), (31, .int .i64 (k : Int)), (32, .int .i64 (j : Int))]) (fun _ => C.A bc :: bO bd bc C.g :: F) (fun j => j ≤ k ∧ C.sem.iA b j = true) (fun j => k - j) 0 ⟨Nat.zero_le _, rfl⟩ (.cons rfl (.cons rfl (.cons rfl (.cons rfl (.nil _))))) (fun w h => h) ?_
    rintro j ⟨hj, Td⟩
    refine WC.sr (WL.val (V.lss (OV.p rfl) (OV.p rfl)) rfl (WL.nil (WC.seq ?_)))
    refine WC.cond rfl (fun hc2 => ?_) (fun hc2 => ?_)
    ·simp only [decide_eq_true_eq, decide_eq_false_iff_not] at hc2
     refine WC.skip (WC.seq (WC.block (WC.sr (WL.mv rfl rfl (WL.sg rfl rfl (WL.nil (WC.seq ?_)))))))
     have hjk : j < k := by omega
     obtain ⟨r1, r2, r3⟩ := hC.nT b (j : Int)
     have hre : C.sem.dX b (j : Int) = 0 := by
       unfold ah.dX ah.page ah.block
       rw [if_neg (by rw [q1]; decide), if_neg]
       have e1 : C.sem.g = C.g := rfl
       simp only [e1] at q2 ⊢
       simp; omega
     refine WC.region (WL.mv rfl rfl (WL.nc rfl rfl (WL.val (V.fieldAddr jL (OV.p rfl)) rfl (WL.ld Tryz.isAgg28 rfl rfl ?_))))
     refine WL.mv rfl rfl (WL.mv rfl rfl (WL.call (vs := [_, _, _]) Tryz.call96 ⟨OV.p rfl, OV.p rfl, OV.p rfl, trivial⟩ (BK hC b (j : Int)) rfl ?_))
     rintro _ _ (⟨_, bo, rfl, rfl⟩ | ⟨hno, rfl, rfl⟩)
     rotate_left
     · exact (hno hre).elim
     rw [r1]
     refine WL.mv rfl rfl (WL.xt rfl rfl rfl (WL.xt rfl rfl rfl (WL.sg rfl rfl (WL.sg rfl rfl (WL.nil (WC.sr (WL.mv rfl rfl (WL.nc rfl rfl (WL.val (V.fieldAddr qE (OV.p rfl)) rfl ?_)))))))))
     refine WL.val (V.bB (vs := [_, _, _, _, _]) ⟨Tryz.isAgg23, Tryz.sizeOf23⟩ (OV.p rfl) rfl (fun _ => by repeat (first | exact bA.gets ⟨rfl, rfl, rfl, rfl, rfl, trivial⟩ | apply bA.up))) rfl ?_
     refine WL.mv rfl rfl (WL.call (vs := [_, _]) Tryz.call116 ⟨OV.p rfl, OV.p rfl, trivial⟩ (Ez hC.aD (Seq.xK r3) r2 rfl (Nat.le_refl _)) rfl ?_)
     rintro _ _ ⟨A', n', c', rfl, rfl⟩
     refine WL.mv rfl rfl (WL.xt rfl rfl rfl (WL.xt rfl rfl rfl (WL.sg rfl rfl (WL.sg rfl rfl (WL.nil (WC.sr (WL.mv rfl rfl (WL.val (V.neq (OV.p rfl) (OV.p rfl)) rfl (WL.nil ?_)))))))))
     refine WC.cond rfl (fun hc3 => ?_) (fun hc3 => ?_)
     ·simp only [decide_eq_true_eq, decide_eq_false_iff_not, Bool.not_eq_true', Bool.not_eq_false'] at hc3
      have hst : decide (C.sem.kE b (j : Nat) = 0) = false := decide_eq_false (by intro h; exact hc3 (by show ((C.sem.kE b (j : Nat) : Nat) : Int) = 0; rw [h]; rfl))
      refine WC.sr (WL.sg rfl rfl (WL.sg rfl rfl (WL.nil (WC.ret ?_))))
      refine ak.ret (H' := C.A bc :: bO bd bc C.g :: F) (aQ.fG rfl rfl rfl) (fun w h => h.drop 1) ⟨?_, rfl⟩
      have hno : ∀ i, j < i → C.sem.iA b i = false := fun i hi => by
        induction i with
        | zero => omega
        | succ i ih =>
          rw [ah.iA]
          rcases Nat.lt_or_ge j i with h | h
          · rw [ih h]; rfl
          · obtain rfl : j = i := by omega
            rw [hst, Bool.and_false]
      rw [hno k hjk]
     ·simp only [decide_eq_true_eq, decide_eq_false_iff_not, Bool.not_eq_true', Bool.not_eq_false'] at hc3
      have hst : decide (C.sem.kE b (j : Nat) = 0) = true := decide_eq_true (by have h9 := hc3; simp at h9; exact h9)
      refine WC.skip (WC.region (WL.ad rfl rfl rfl ?_))
      refine WL.mv rfl rfl (WL.nil ?_)
      refine ⟨rfl, ?_⟩
      exact ⟨j + 1, ⟨by omega, by rw [ah.iA, Td, hst]; rfl⟩, (by show k - (j + 1) < k - j; omega), .cons rfl (.cons rfl (.cons rfl (.cons (look_eq rfl (by simp)) (.nil _)))), fun w h => h.drop 1⟩
    ·simp only [decide_eq_true_eq, decide_eq_false_iff_not] at hc2
     refine WC.exit (WC.sr (WL.sg rfl rfl (WL.sg rfl rfl (WL.nil (WC.ret ?_)))))
     obtain rfl : j = k := by omega
     exact ak.ret (H' := C.A bc :: bO bd bc C.g :: F) (aQ.fG rfl rfl rfl) (fun w h => h) ⟨by rw [Td], rfl⟩
theorem GJ (hC : C.Ok) : Does Tryz.prog 82 #[ptr bd 0] K (C.A bc :: bO bd bc C.g :: F)
    (fun v H' => ∃ A' c', v = .slice A' C.sem.good.length c' ∧ H' = aZ (.slice A' C.sem.good.length c') 3 1 C.sem.good.length (ints .i64 C.sem.good) :: C.A bc :: bO bd bc C.g :: F) := by
  have hbl := hC.aD
  unfold Geo.aD at hbl
  obtain ⟨n, hn⟩ : ∃ n : Nat, C.g.bl = (n : Int) := ⟨C.g.bl.toNat, by omega⟩
  have hgd : C.sem.good = C.sem.dG n := by unfold ah.good; rw [show C.sem.g.bl = (n : Int) from hn, Int.toNat_natCast]
  rw [hgd]
  refine Does.enter Tryz.func82 rfl Tryz.ntmps82 rfl ?_
  simp only [aH, Nat.reduceAdd]
  refine WC.sr (WL.sg rfl rfl (WL.nil (WC.sr (WL.sg rfl rfl (WL.nil (WC.seq (WC.sr (WL.mv rfl rfl (WL.call (vs := [_]) Tryz.call74 ⟨OV.p rfl, trivial⟩ (gT) rfl ?_)))))))))
  rintro _ H0 ⟨rfl, h0⟩
  subst H0
  refine WL.val (V.field (OV.p rfl) (MJ _ _ _ _ _)) rfl (WL.mv rfl rfl (WL.nil (WC.block ?_)))
  refine WC.loop (σ := Nat × Option Addr × Nat) (fun x => [(0, ptr bd 0), (3, .slice x.2.1 (C.sem.dG x.1).length x.2.2), (7, .int .i64 C.g.bl), (8, .int .i64 (x.1 : Int))]) (fun x => C.A bc :: aZ (.slice x.2.1 (C.sem.dG x.1).length x.2.2) 3 1 (C.sem.dG x.1).length (ints .i64 (C.sem.dG x.1)) :: bO bd bc C.g :: F) (fun x => x.1 ≤ n) (fun x => n - x.1) (0, none, 0) (Nat.zero_le _) (.cons rfl (.cons rfl (.cons rfl (.cons rfl (.nil _))))) (fun w h => (Sat.iE h 3 1).p1) ?_
  rintro ⟨k, Ao, co⟩ hk
  dsimp only at hk ⊢
  have hkl := C.sem.gq k
  refine WC.sr (WL.val (V.lss (OV.p rfl) (OV.p rfl)) rfl (WL.nil (WC.seq ?_)))
  refine WC.cond rfl (fun hc0 => ?_) (fun hc0 => ?_)
  ·simp only [decide_eq_true_eq, decide_eq_false_iff_not] at hc0
   refine WC.skip (WC.seq (WC.block (WC.sr (WL.mv rfl rfl (WL.sg rfl rfl (WL.nil (WC.sr (WL.mv rfl rfl (WL.nc rfl rfl (WL.val (V.fieldAddr jL (OV.p rfl)) rfl (WL.ld Tryz.isAgg28 rfl rfl ?_)))))))))))
   refine WL.call (vs := [_]) Tryz.call110 ⟨OV.p rfl, trivial⟩ (Ii) rfl ?_
   rintro _ H0 ⟨rfl, h0⟩
   subst H0
   refine WL.mv rfl rfl (WL.av (oj := _) rfl rfl rfl GC.t (V.move (OV.p rfl)) rfl (WL.av (oj := _) rfl rfl rfl GC.t (V.nilCheck (OV.g rfl id)) rfl (WL.av (oj := _) rfl rfl rfl GC.t (V.fieldAddr jL (OV.g rfl id)) rfl ?_)))
   refine WL.av (oj := _) rfl rfl rfl GC.t (V.load Tryz.isAgg28 (OV.g rfl id) (fun _ => by repeat (first | exact Rd.here rfl | apply Rd.up))) rfl ?_
   refine WL.av (oj := _) rfl rfl rfl GC.t (V.move (OV.p rfl)) rfl ?_
   refine WL.iD (oj := _) (vs := [_, _]) rfl rfl rfl GC.t Tryz.call17 ⟨OV.g rfl id, OV.g rfl id, trivial⟩ (fun hg => zn (k : Int)) rfl ?_
   refine WL.av (oj := _) rfl rfl rfl GC.t (V.not (OV.g rfl id)) rfl (WL.val (V.aI (OV.p rfl) (OV.g rfl id)) rfl (WL.nil ?_))
   refine WC.cond rfl (fun hc1 => ?_) (fun hc1 => ?_)
   ·skip
    have h1 := hc1
    have Nt : C.sem.dG (k + 1) = C.sem.dG k ++ [(k : Int)] := by rw [ah.dG, if_pos (show (C.sem.up && !C.sem.bad (k : Int)) = true from h1)]
    refine WC.region (WL.mv rfl rfl (WL.mv rfl rfl ?_))
    refine WL.buildSlice (E := 3) (cs := [_]) (vs := [(0, _)]) ⟨OV.p rfl, trivial⟩ rfl (dO _) rfl (fun Oj => ?_)
    refine WL.sub (Sub.refl _) (fun w h => h.sel 4 [2, 0, 1, 3] rfl) ?_
    refine WL.append (m := (C.sem.dG k).length) (q := 1) (news := [.int .i64 (k : Int)]) Tryz.underlying24 el3 (OV.p rfl) (OV.p rfl) (Seq.all rfl) (by intro u hu; rw [List.mem_singleton.1 hu]; rfl) (by omega) rfl rfl (fun A' c' hA' hc' => ?_)
    refine WL.sg rfl rfl (WL.nil (WC.region (WL.ad rfl rfl rfl ?_)))
    refine WL.mv rfl rfl (WL.nil ?_)
    refine ⟨rfl, ?_⟩
    first
    | exact ⟨(k + 1, A', c'), (by show k + 1 ≤ n; omega), (by show n - (k + 1) < n - k; omega), .cons rfl (.cons (look_eq rfl (by dsimp only; rw [Nt, List.length_append]; rfl)) (.cons rfl (.cons (look_eq rfl (by simp)) (.nil _)))), fun w h => by
        dsimp only
        rw [Nt, List.length_append, bL]
        exact h.sel 4 [2, 0, 3] rfl⟩
    | exact ⟨(k + 1, Ao, co), (by show k + 1 ≤ n; omega), (by show n - (k + 1) < n - k; omega), .cons rfl (.cons (look_eq rfl (by dsimp only; rw [Nt])) (.cons rfl (.cons (look_eq rfl (by simp)) (.nil _)))), fun w h => by
        dsimp only
        rw [Nt]
        exact h⟩
   ·skip
    have h1 := hc1
    have Nt : C.sem.dG (k + 1) = C.sem.dG k := by rw [ah.dG, if_neg (by rw [show (C.sem.up && !C.sem.bad (k : Int)) = false from h1]; decide)]
    refine WC.skip (WC.region (WL.ad rfl rfl rfl ?_))
    refine WL.mv rfl rfl (WL.nil ?_)
    refine ⟨rfl, ?_⟩
    first
    | exact ⟨(k + 1, A', c'), (by show k + 1 ≤ n; omega), (by show n - (k + 1) < n - k; omega), .cons rfl (.cons (look_eq rfl (by dsimp only; rw [Nt, List.length_append]; rfl)) (.cons rfl (.cons (look_eq rfl (by simp)) (.nil _)))), fun w h => by
        dsimp only
        rw [Nt, List.length_append, bL]
        exact h.sel 4 [2, 0, 3] rfl⟩
    | exact ⟨(k + 1, Ao, co), (by show k + 1 ≤ n; omega), (by show n - (k + 1) < n - k; omega), .cons rfl (.cons (look_eq rfl (by dsimp only; rw [Nt])) (.cons rfl (.cons (look_eq rfl (by simp)) (.nil _)))), fun w h => by
        dsimp only
        rw [Nt]
        exact h⟩
  ·simp only [decide_eq_true_eq, decide_eq_false_iff_not] at hc0
   refine WC.exit (WC.sr (WL.mv rfl rfl (WL.sg rfl rfl (WL.nil (WC.ret ?_)))))
   obtain rfl : k = n := by omega
   exact ak.ret (H' := aZ (.slice Ao (C.sem.dG k).length co) 3 1 (C.sem.dG k).length (ints .i64 (C.sem.dG k)) :: C.A bc :: bO bd bc C.g :: F) (aQ.tmp rfl rfl) (fun w h => h.p1) ⟨Ao, co, rfl, rfl⟩
end
theorem qp : ∀ {l m : List Nat}, l.Nodup → (∀ x ∈ l, x ∈ m) → l.length ≤ m.length
  | [], m, _, _ => Nat.zero_le _
  | a :: l, m, hn, hs => by
    have hne := List.nodup_cons.1 hn
    have ha := hs a (.head _)
    have h1 := qp (l := l) (m := m.erase a) hne.2 (fun x hx => (List.mem_erase_of_ne (fun h : x = a => hne.1 (by rw [← h]; exact hx))).2 (hs x (.tail _ hx)))
    rw [List.length_erase_of_mem ha] at h1
    have h2 : 0 < m.length := List.length_pos_of_mem ha
    rw [List.length_cons]; omega
theorem EP (ys : List Int) (i : Nat) : (cu ys).getD i 0 = (ys.getD i 0).toNat := by
  unfold cu
  simp only [List.getD, List.getElem?_map]
  cases ys[i]? <;> rfl
theorem Ct (ys : List Int) {i : Int} (hi : 0 ≤ i) : cu (zB ys i) = iN (cu ys) i.toNat := by
  unfold zB iN
  rw [EP]
  unfold cu wF
  rw [List.map_set, Int.toNat_natCast, show (i / 8).toNat = i.toNat / 8 by omega, show (i % 8).toNat = i.toNat % 8 by omega]
def fE (xs ks : List Nat) : List Nat := ks.foldl iN xs
theorem qc : ∀ (l xs : List Int), (∀ i ∈ l, 0 ≤ i) → cu (turn xs l) = fE (cu xs) (cu l)
  | [], _, _ => rfl
  | i :: l, xs, h => by
    rw [turn, List.foldl_cons, ← turn, qc l _ (fun j hj => h j (.tail _ hj)), Ct _ (h i (.head _))]
    rfl
theorem o7 : ∀ (ks xs : List Nat), (fE xs ks).length = xs.length
  | [], _ => rfl
  | k :: ks, xs => by
    show (fE (iN xs k) ks).length = _
    rw [o7 ks, dW]
theorem mI : ∀ (ks xs : List Nat), Small 256 xs → Small 256 (fE xs ks)
  | [], _, h => h
  | k :: ks, xs, h => mI ks _ (jf h k)
theorem wI : ∀ (ks xs : List Nat), ks.Nodup → (∀ k ∈ ks, k < 8 * xs.length) → ∀ k, aR (fE xs ks) k = (aR xs k ^^ decide (k ∈ ks))
  | [], xs, _, _, k => by simp [fE]
  | i :: ks, xs, hn, hk, k => by
    have hne := List.nodup_cons.1 hn
    show aR (fE (iN xs i) ks) k = _
    rw [wI ks _ hne.2 (fun j hj => by rw [dW]; exact hk j (.tail _ hj)), nO (hk i (.head _)), Bool.xor_assoc]
    congr 1
    by_cases h : k = i
    · subst h; simp [hne.1]
    · rw [decide_eq_false (show ¬ i = k from fun e => h e.symm), Bool.false_xor]
      apply decide_eq_decide.2
      rw [List.mem_cons]
      exact ⟨.inr, fun e => e.resolve_left h⟩
theorem og : ∀ (ks xs : List Nat) (p : Nat), (∀ k ∈ ks, k / 8 ≠ p) → (fE xs ks).getD p 0 = xs.getD p 0
  | [], _, _, _ => rfl
  | i :: ks, xs, p, h => by
    show (fE (iN xs i) ks).getD p 0 = _
    rw [og ks _ p (fun k hk => h k (.tail _ hk))]
    unfold iN
    rw [lC, if_neg (fun hh => h i (.head _) hh.1)]
theorem J4 (xs : List Nat) (a B i : Nat) : ((xs.drop a).take B).getD i 0 = if i < B then xs.getD (a + i) 0 else 0 := by
  simp only [List.getD, List.getElem?_take, List.getElem?_drop]
  split <;> rfl
theorem q9 (xs : List Nat) (a B k : Nat) (hk : k < 8 * B) : aR ((xs.drop a).take B) k = aR xs (8 * a + k) := by
  unfold aR
  rw [J4, if_pos (by omega), show (8 * a + k) / 8 = a + k / 8 by omega, show (8 * a + k) % 8 = k % 8 by omega]
section
variable {t B S : Nat} {d : List Nat}
def Mh (t B n j e : Nat) : Nat := if 13 * t ≤ e then 8 * (j * n) + (e - 13 * t) else 8 * (j * n + B) + e
def Fq (t B n : Nat) (ks : List Nat) (j : Nat) : List Nat := (List.range (13 * t + 8 * B)).filter fun e => decide (Mh t B n j e ∈ ks)
theorem yQ (t B n : Nat) (ks : List Nat) (j : Nat) : (Fq t B n ks j).Nodup := List.Pairwise.filter _ List.nodup_range
theorem EM {n j : Nat} {ks : List Nat} (hn : n = B + ay t) : (Fq t B n ks j).length ≤ (ks.filter fun k => decide (k / 8 / n = j)).length := by
  have N7 : 13 * t ≤ 8 * ay t := by unfold ay; omega
  have hinj : ∀ a b, a < 13 * t + 8 * B → b < 13 * t + 8 * B → Mh t B n j a = Mh t B n j b → a = b := fun a b ha hb h => by
    unfold Mh at h
    split at h <;> split at h <;> omega
  have h1 := qp (l := (Fq t B n ks j).map (Mh t B n j)) (m := ks.filter fun k => decide (k / 8 / n = j)) (by
    unfold List.Nodup
    rw [List.pairwise_map]
    refine List.Pairwise.imp_of_mem ?_ (yQ t B n ks j)
    intro a b ha hb hab h
    exact hab (hinj a b (List.mem_range.1 (List.mem_filter.1 ha).1) (List.mem_range.1 (List.mem_filter.1 hb).1) h)) (fun x hx => by
    obtain ⟨e, he, rfl⟩ := List.mem_map.1 hx
    obtain ⟨h2, h3⟩ := List.mem_filter.1 he
    have h2 := List.mem_range.1 h2
    refine List.mem_filter.2 ⟨of_decide_eq_true h3, decide_eq_true ?_⟩
    have hB : Mh t B n j e / 8 < (j + 1) * n ∧ j * n ≤ Mh t B n j e / 8 := by
      rw [Nat.succ_mul]
      unfold Mh
      split <;> omega
    exact Nat.div_eq_of_lt_le hB.2 hB.1)
  rwa [List.length_map] at h1
theorem xg : ∀ (k j : Nat) (acc : List Nat) (m0 : Nat) (c : Nat → Nat), m0 ≤ t → (∀ i, c i ≤ t) → ∃ N, N ≤ t ∧ gH ((List.range' j k).map fun i => some ((dI B d i, fD t (dI B d i)), c i)) acc m0 = ⟨0, acc ++ (d.drop (j * B)).take (k * B), N⟩
  | 0, j, acc, m0, c, h0, h => ⟨m0, h0, by simp [gH]⟩
  | k + 1, j, acc, m0, c, h0, h => by
    obtain ⟨N, hN, h1⟩ := xg k (j + 1) (acc ++ dI B d j) (max m0 (c j)) c (by have := h j; omega) h
    refine ⟨N, hN, ?_⟩
    rw [List.range'_succ, List.map_cons, gH, h1]
    congr 1
    rw [List.append_assoc]
    congr 1
    unfold dI
    rw [show (k + 1) * B = B + k * B by rw [Nat.succ_mul, Nat.add_comm], List.take_add, List.drop_drop, Nat.succ_mul]
theorem JN (ht : 1 ≤ t ∧ t ≤ 8) (hB : B ≤ 512) (h8 : Small 256 d) (hl : d.length = S * B) {ks : List Nat} (hk : ks.Nodup) (hks : ∀ k ∈ ks, k < 8 * (S * (B + ay t))) (hc : ∀ j, (ks.filter fun k => decide (k / 8 / (B + ay t) = j)).length ≤ t) :
    ∃ N, N ≤ t ∧ dB t S B (fE (kg t S B d) ks) = ⟨0, d, N⟩ := by
  obtain ⟨n, hn⟩ : ∃ n, n = B + ay t := ⟨_, rfl⟩
  rw [← hn] at hks hc
  obtain ⟨P, hP⟩ : ∃ P, P = kg t S B d := ⟨_, rfl⟩
  have UN : P.length = S * n + 1 := by rw [hP, nV ht h8 hl, hn]; rfl
  have SF : Small 256 P := by rw [hP]; exact wO ht h8
  have hst : dR t S n P = 0 := by rw [hP, hn]; exact wG ht h8 hl
  have hz : P.getD (S * n) 0 = 0 := by
    unfold dR at hst
    split at hst
    · assumption
    · split at hst
      · cases hst
      · split at hst <;> cases hst
  have pF : dR t S n (fE P ks) = 0 := by
    unfold dR
    rw [if_pos]
    rw [og ks P (S * n) (fun k hk => by have := hks k hk; omega)]
    exact hz
  have hlt : ∀ k ∈ ks, k < 8 * P.length := fun k hk => by have := hks k hk; omega
  have hbit := wI ks P hk hlt
  have O5 : ∀ j, j < S → sj t B n (fE P ks) j = some ((dI B d j, fD t (dI B d j)), (Fq t B n ks j).length) := fun j hj => by
    have e1 : uN B n P j = dI B d j := by rw [hP, hn]; exact (oN ht h8 hl hj).1
    have e2 : Fe B n P j = fD t (dI B d j) := by rw [hP, hn]; exact (oN ht h8 hl hj).2
    have hsl := mq hl hj
    have hjn : (j + 1) * n ≤ S * n := Nat.mul_le_mul_right _ hj
    rw [Nat.succ_mul] at hjn
    have hfl := o7 ks P
    unfold sj
    refine JK ht (fP h8 j) (by omega) (Small.take (Small.drop (mI ks P SF))) (Small.take (Small.drop (Small.drop (mI ks P SF)))) ?_ ?_ (yQ t B n ks j) (fun e he => ?_) ?_ (fun i hi => ?_)
    · show ((_ : List Nat).take B).length = _
      rw [List.length_take, List.length_drop]; omega
    · show ((_ : List Nat).take (n - B)).length = _
      rw [List.length_take, List.length_drop, List.length_drop]; omega
    · have := List.mem_range.1 (List.mem_filter.1 he).1
      omega
    · exact Nat.le_trans (EM hn) (hc j)
    · have hmem : decide (i ∈ Fq t B n ks j) = decide (Mh t B n j i ∈ ks) := by
        apply decide_eq_decide.2
        unfold Fq
        rw [List.mem_filter, List.mem_range]
        exact ⟨fun h => of_decide_eq_true h.2, fun h => ⟨by omega, decide_eq_true h⟩⟩
      rw [hmem]
      unfold yg Mh
      by_cases h : 13 * t ≤ i
      · rw [if_pos h, if_pos h, if_pos h, ← e1]
        unfold uN
        rw [q9 _ _ _ _ (by omega), q9 _ _ _ _ (by omega), hbit]
      · have N7 : 13 * t ≤ 8 * ay t := by unfold ay; omega
        rw [if_neg h, if_neg h, if_neg h, ← e2]
        unfold Fe
        rw [List.drop_drop, List.drop_drop, q9 _ _ _ _ (by omega), q9 _ _ _ _ (by omega), hbit]
  obtain ⟨N, hN, h1⟩ := xg (t := t) (B := B) (d := d) S 0 [] 0 (fun j => (Fq t B n ks j).length) (Nat.zero_le _) (fun j => Nat.le_trans (EM hn) (hc j))
  refine ⟨N, hN, ?_⟩
  rw [← hP]
  unfold dB
  rw [← hn, if_neg (fun h => h pF)]
  have h2 : (List.range S).map (sj t B n (fE P ks)) = (List.range' 0 S).map fun i => some ((dI B d i, fD t (dI B d i)), (Fq t B n ks i).length) := by
    rw [← List.range_eq_range']
    apply List.map_congr_left
    intro j hj
    exact O5 j (List.mem_range.1 hj)
  rw [h2, h1, Nat.zero_mul, List.drop_zero, List.nil_append, ← hl, List.take_length]
end
end Go.Proofs.YtcmojpiokjhmhaaGreat
