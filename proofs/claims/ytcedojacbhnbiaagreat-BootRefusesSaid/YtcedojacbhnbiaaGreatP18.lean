import Derived.Test.YtcedojacbhnbiaaGreatP17
namespace Go.Proofs.YtcedojacbhnbiaaGreat
open Go.Sl Go.RowKit
set_option linter.unusedVariables false
set_option linter.unusedSimpArgs false
set_option maxRecDepth 20000
def eU (xs : List Int) : List Nat := xs.map Int.toNat
theorem wu {xs : List Int} (h : aZ xs) : ints .u8 xs = aB .u8 (eU xs) := by
  unfold ints aB eU
  rw [List.map_map]
  apply List.map_congr_left
  intro x hx
  have := h x hx
  show Value.int .u8 x = Value.int .u8 ((x.toNat : Nat) : Int)
  congr 1; omega
theorem mV {xs : List Int} (h : aZ xs) : Small 256 (eU xs) := fun y hy => by
  obtain ⟨x, hx, rfl⟩ := List.mem_map.1 hy
  have := h x hx; omega
theorem jB (xs : List Int) : (eU xs).length = xs.length := by simp [eU]
def bq (xs : List Nat) : List Int := xs.map fun x : Nat => (x : Int)
theorem jU {xs : List Nat} (h : Small 256 xs) : aZ (bq xs) := fun y hy => by
  obtain ⟨x, hx, rfl⟩ := List.mem_map.1 hy
  have := h x hx; omega
theorem jy (xs : List Nat) : eU (bq xs) = xs := by
  unfold eU bq
  rw [List.map_map]
  conv => rhs; rw [← List.map_id xs]
  apply List.map_congr_left
  intro x _; rfl
theorem lI (k : IntKind) (xs : List Nat) : aB k xs = ints k (bq xs) := uZ k xs
namespace ak
def ahead (S : ak) (b p : Int) (ok : Bool) : Int := if S.up = false then 70 else if b < 0 ∨ S.g.bl ≤ b ∨ p < 0 ∨ S.g.pg ≤ p ∨ ok = false then 1 else if S.bad b then 73 else 0
def done (b : Int) (x : ak × Int) : ak × Int := if x.2 ≠ 72 then x else if (x.1.mark b).2 ≠ 0 then x.1.mark b else ((x.1.mark b).1, 72)
def bD (S : ak) (b : Int) : ak × Int := if S.ahead b 0 true ≠ 0 then (S, S.ahead b 0 true) else done b (S.erase b)
end ak
abbrev bQ (bd bc : Nat) (g : Geo) : au := Cells bd 169 [ptr bc 0, .int .i64 g.bl, .int .i64 g.pg, .int .i64 g.se, .int .i64 g.sb, .int .i64 g.fl]
section
variable {bc bd : Nat} {C : Cw} {K : World} {F : List au}
theorem H6 (hC : C.Ok) : Does Tryz.prog 30 #[ptr bc 0] K (C.A bc :: F) (fun v H' => ∃ bd, v = .tuple #[ptr bd 0, .int .i64 0] ∧ H' = C.A bc :: bQ bd bc C.g :: F) := by
  refine Does.enter Tryz.func30 rfl Tryz.ntmps30 rfl ?_
  simp only [aJ, Nat.reduceAdd]
  refine WC.sr (WL.sg rfl rfl (WL.sg rfl rfl (WL.nil (WC.seq (WC.sr (WL.mv rfl rfl (WL.val (V.ku Tryz.underlying27 (OV.p rfl) (OV.p rfl)) rfl (WL.nil ?_))))))))
  refine WC.aM rfl (by first | rfl | (simp; done) | (simp; omega)) ?_
  refine WC.skip (WC.sr (WL.mv rfl rfl (WL.mv rfl rfl (WL.call (vs := [_]) Tryz.call98 ⟨OV.p rfl, trivial⟩ (zY) rfl ?_))))
  rintro _ H0 ⟨rfl, h0⟩
  subst H0
  refine WL.val (V.build (vs := [(0, _), (1, _)]) ⟨OV.p rfl, OV.p rfl, trivial⟩ rfl (FE _ _ _ _ _ _)) rfl ?_
  refine WL.box (cs := [_, _, _, _, _, _]) (OV.p rfl) rfl rfl (fun b10 => ?_)
  refine WL.sg rfl rfl (WL.sg rfl rfl (WL.nil (WC.ret ?_)))
  exact aj.ret (H' := C.A bc :: bQ b10 bc C.g :: F) (aL.dJ rfl rfl rfl) (fun w h => h.p1) ⟨b10, rfl, rfl⟩
theorem gG {g : Geo} : aG Tryz.prog 100 #[ptr bd 0] K (C.A bc :: bQ bd bc g :: F) g.v := by
  refine Does.enter Tryz.func100 rfl Tryz.ntmps100 rfl ?_
  simp only [aJ, Nat.reduceAdd]
  refine WC.sr ?_
  refine WL.alloc (cs := [(.int .i64 0), (.int .i64 0), (.int .i64 0), (.int .i64 0), (.int .i64 0)]) Tryz.zeroValue23 rfl rfl (fun b2 => ?_)
  refine WL.nil (WC.seq (WC.sr (WL.mv rfl rfl (WL.val (V.ku Tryz.underlying70 (OV.p rfl) (OV.p rfl)) rfl (WL.nil ?_)))))
  refine WC.aM rfl (by first | rfl | (simp; done) | (simp; omega)) ?_
  refine WC.skip (WC.sr (WL.mv rfl rfl (WL.nc rfl rfl (WL.val (V.fieldAddr qj (OV.p rfl)) rfl ?_))))
  refine WL.val (V.aU (vs := [_, _, _, _, _]) ⟨Tryz.isAgg23, Tryz.sizeOf23⟩ (OV.p rfl) rfl (fun _ => by repeat (first | exact aT.gets ⟨rfl, rfl, rfl, rfl, rfl, trivial⟩ | apply aT.up))) rfl ?_
  refine WL.store (cs := [_, _, _, _, _]) Tryz.sizeOf23 (OV.p rfl) (OV.p rfl) rfl rfl rfl (by repeat (first | exact aQ.here (cs' := [_, _, _, _, _]) rfl rfl | apply aQ.up)) ?_
  refine WL.nil (WC.ret ?_)
  exact aj.ret (H' := C.A bc :: bQ bd bc g :: F) (aL.one rfl (R1.gF (vs := [_, _, _, _, _]) rfl ⟨Tryz.isAgg23, Tryz.sizeOf23⟩ rfl (by repeat (first | exact aT.gets ⟨rfl, rfl, rfl, rfl, rfl, trivial⟩ | apply aT.up)))) (fun w h => h.drop 1) ⟨rfl, rfl⟩
theorem lN (b p : Int) (ok : Bool) : aG Tryz.prog 154 #[ptr bd 0, .int .i64 b, .int .i64 p, .bool ok] K (C.A bc :: bQ bd bc C.g :: F) (.int .i64 (C.sem.ahead b p ok)) := by
  refine Does.enter Tryz.func154 rfl Tryz.ntmps154 rfl ?_
  simp only [aJ, Nat.reduceAdd]
  refine WC.sr (WL.sg rfl rfl (WL.nil (WC.seq (WC.block (WC.sr (WL.mv rfl rfl (WL.val (V.ku Tryz.underlying70 (OV.p rfl) (OV.p rfl)) rfl (WL.sg rfl rfl (WL.nil ?_)))))))))
  refine WC.aM rfl (by first | rfl | (simp; done) | (simp; omega)) ?_
  refine WC.sr (WL.mv rfl rfl (WL.nc rfl rfl (WL.val (V.fieldAddr jC (OV.p rfl)) rfl (WL.ld Tryz.isAgg27 rfl rfl ?_))))
  refine WL.call (vs := [_]) Tryz.call185 ⟨OV.p rfl, trivial⟩ (Gz) rfl ?_
  rintro _ H0 ⟨rfl, h0⟩
  subst H0
  refine WL.val (V.not (OV.p rfl)) rfl (WL.sg rfl rfl (WL.nil ?_))
  refine WC.cond rfl (fun hc1 => ?_) (fun hc1 => ?_)
  ·simp only [Bool.not_eq_true', Bool.not_eq_false'] at hc1
   have hup := hc1
   refine WC.sr (WL.sg rfl rfl (WL.nil (WC.ret ?_)))
   exact aj.ret (H' := C.A bc :: bQ bd bc C.g :: F) (aL.tmp rfl rfl) (fun w h => h) ⟨by unfold ak.ahead; rw [if_pos (show C.sem.up = false from hup)], rfl⟩
  ·simp only [Bool.not_eq_true', Bool.not_eq_false'] at hc1
   have hup := hc1
   refine WC.sr (WL.mv rfl rfl (WL.val (V.lss (OV.p rfl) (OV.p rfl)) rfl (WL.mv rfl rfl (WL.ah (oj := _) rfl rfl rfl GC.f (V.move (OV.p rfl)) rfl (WL.ah (oj := _) rfl rfl rfl GC.f (V.move (OV.p rfl)) rfl (WL.ah (oj := _) rfl rfl rfl GC.f (V.nilCheck (OV.g rfl id)) rfl (WL.ah (oj := _) rfl rfl rfl GC.f (V.fieldAddr qj (OV.g rfl id)) rfl (WL.ah (oj := _) rfl rfl rfl GC.f (V.fieldAddr jk (OV.g rfl id)) rfl ?_))))))))
   refine WL.ah (oj := _) rfl rfl rfl GC.f (V.load Tryz.isAgg3 (OV.g rfl id) (fun _ => by repeat (first | exact Rd.here rfl | apply Rd.up))) rfl ?_
   refine WL.ah (oj := _) rfl rfl rfl GC.f (V.geq (OV.g rfl id) (OV.g rfl id)) rfl (WL.val (V.aS (OV.p rfl) (OV.g rfl id)) rfl (WL.mv rfl rfl (WL.ah (oj := _) rfl rfl rfl GC.f (V.move (OV.p rfl)) rfl (WL.ah (oj := _) rfl rfl rfl GC.f (V.lss (OV.g rfl id) (OV.p rfl)) rfl (WL.val (V.aS (OV.p rfl) (OV.g rfl id)) rfl (WL.mv rfl rfl (WL.ah (oj := _) rfl rfl rfl GC.f (V.move (OV.p rfl)) rfl (WL.ah (oj := _) rfl rfl rfl GC.f (V.move (OV.p rfl)) rfl (WL.ah (oj := _) rfl rfl rfl GC.f (V.nilCheck (OV.g rfl id)) rfl (WL.ah (oj := _) rfl rfl rfl GC.f (V.fieldAddr qj (OV.g rfl id)) rfl (WL.ah (oj := _) rfl rfl rfl GC.f (V.fieldAddr pJ (OV.g rfl id)) rfl ?_)))))))))))
   refine WL.ah (oj := _) rfl rfl rfl GC.f (V.load Tryz.isAgg3 (OV.g rfl id) (fun _ => by repeat (first | exact Rd.here rfl | apply Rd.up))) rfl ?_
   refine WL.ah (oj := _) rfl rfl rfl GC.f (V.geq (OV.g rfl id) (OV.g rfl id)) rfl (WL.val (V.aS (OV.p rfl) (OV.g rfl id)) rfl (WL.mv rfl rfl (WL.ah (oj := _) rfl rfl rfl GC.f (V.move (OV.p rfl)) rfl (WL.ah (oj := _) rfl rfl rfl GC.f (V.not (OV.g rfl id)) rfl (WL.val (V.aS (OV.p rfl) (OV.g rfl id)) rfl (WL.sg rfl rfl (WL.nil ?_)))))))
   refine WC.cond rfl (fun hc2 => ?_) (fun hc2 => ?_)
   ·simp only [Bool.or_eq_true, Bool.or_eq_false_iff, decide_eq_true_eq, decide_eq_false_iff_not, Bool.not_eq_true', Bool.not_eq_false'] at hc2
    have h2 := hc2
    refine WC.sr (WL.sg rfl rfl (WL.nil (WC.ret ?_)))
    exact aj.ret (H' := C.A bc :: bQ bd bc C.g :: F) (aL.tmp rfl rfl) (fun w h => h) ⟨by unfold ak.ahead; rw [if_neg (show ¬ C.sem.up = false by rw [show C.sem.up = C.up from rfl, hup]; decide), if_pos (by show b < 0 ∨ C.g.bl ≤ b ∨ p < 0 ∨ C.g.pg ≤ p ∨ ok = false; simp only [or_assoc] at h2; exact h2)], rfl⟩
   ·simp only [Bool.or_eq_true, Bool.or_eq_false_iff, decide_eq_true_eq, decide_eq_false_iff_not, Bool.not_eq_true', Bool.not_eq_false'] at hc2
    have h2 := hc2
    refine WC.sr (WL.mv rfl rfl (WL.nc rfl rfl (WL.val (V.fieldAddr jC (OV.p rfl)) rfl (WL.ld Tryz.isAgg27 rfl rfl ?_))))
    refine WL.mv rfl rfl (WL.call (vs := [_, _]) Tryz.call186 ⟨OV.p rfl, OV.p rfl, trivial⟩ (E9 b) rfl ?_)
    rintro _ H0 ⟨rfl, h0⟩
    subst H0
    refine WL.sg rfl rfl (WL.nil ?_)
    refine WC.cond rfl (fun hc3 => ?_) (fun hc3 => ?_)
    ·skip
     have h3 := hc3
     refine WC.sr (WL.sg rfl rfl (WL.nil (WC.ret ?_)))
     exact aj.ret (H' := C.A bc :: bQ bd bc C.g :: F) (aL.tmp rfl rfl) (fun w h => h) ⟨by unfold ak.ahead; rw [if_neg (show ¬ C.sem.up = false by rw [show C.sem.up = C.up from rfl, hup]; decide), if_neg (by show ¬ (b < 0 ∨ C.g.bl ≤ b ∨ p < 0 ∨ C.g.pg ≤ p ∨ ok = false); obtain ⟨⟨⟨⟨q1, q2⟩, q3⟩, q4⟩, q5⟩ := h2; rw [q5]; simp; omega), if_pos h3], rfl⟩
    ·skip
     have h3 := hc3
     refine WC.skip (WC.sr (WL.sg rfl rfl (WL.nil (WC.ret ?_))))
     exact aj.ret (H' := C.A bc :: bQ bd bc C.g :: F) (aL.tmp rfl rfl) (fun w h => h) ⟨by unfold ak.ahead; rw [if_neg (show ¬ C.sem.up = false by rw [show C.sem.up = C.up from rfl, hup]; decide), if_neg (by show ¬ (b < 0 ∨ C.g.bl ≤ b ∨ p < 0 ∨ C.g.pg ≤ p ∨ ok = false); obtain ⟨⟨⟨⟨q1, q2⟩, q3⟩, q4⟩, q5⟩ := h2; rw [q5]; simp; omega), if_neg (by rw [h3]; decide)], rfl⟩
theorem Ei (hC : C.Ok) (b e : Int) : Does Tryz.prog 171 #[.int .i64 b, .int .i64 e, .func (.func 173) #[ptr bc 0] #[]] K (C.A bc :: F)
    (fun v H' => ∃ C' : Cw, C'.Ok ∧ H' = C'.A bc :: F ∧ C'.sem = (ak.done b (C.sem, e)).1 ∧ v = .int .i64 (ak.done b (C.sem, e)).2) := by
  refine Does.enter Tryz.func171 rfl Tryz.ntmps171 rfl ?_
  simp only [aJ, Nat.reduceAdd]
  refine WC.sr (WL.sg rfl rfl (WL.nil (WC.seq (WC.sr (WL.mv rfl rfl (WL.val (V.neq (OV.p rfl) (OV.p rfl)) rfl (WL.nil ?_)))))))
  refine WC.cond rfl (fun hc0 => ?_) (fun hc0 => ?_)
  ·simp only [decide_eq_true_eq, decide_eq_false_iff_not, Bool.not_eq_true', Bool.not_eq_false'] at hc0
   have h0 := hc0
   have hd : ak.done b (C.sem, e) = (C.sem, e) := by unfold ak.done; rw [if_pos hc0]
   refine WC.sr (WL.mv rfl rfl (WL.sg rfl rfl (WL.nil (WC.ret ?_))))
   exact aj.ret (H' := C.A bc :: F) (aL.tmp rfl rfl) (fun w h => h) ⟨C, hC, rfl, by rw [hd], by rw [hd]⟩
  ·simp only [decide_eq_true_eq, decide_eq_false_iff_not, Bool.not_eq_true', Bool.not_eq_false'] at hc0
   have h0 := hc0
   have hd : ak.done b (C.sem, e) = if (C.sem.mark b).2 ≠ 0 then C.sem.mark b else ((C.sem.mark b).1, 72) := by unfold ak.done; rw [if_neg (by simpa using hc0)]
   refine WC.skip (WC.seq (WC.sr (WL.mv rfl rfl (WL.mv rfl rfl (WL.kV (first := [ptr bc 0]) (vs := [_]) (captured := []) Tryz.call173 (OV.p rfl) ⟨OV.p rfl, trivial⟩ (Iq hC b) rfl ?_)))))
   rintro _ _ ⟨C1, Lf, rfl, s1, rfl⟩
   refine WL.sg rfl rfl (WL.nil (WC.sr (WL.mv rfl rfl (WL.val (V.neq (OV.p rfl) (OV.p rfl)) rfl (WL.nil ?_)))))
   refine WC.cond rfl (fun hc1 => ?_) (fun hc1 => ?_)
   ·simp only [decide_eq_true_eq, decide_eq_false_iff_not, Bool.not_eq_true', Bool.not_eq_false'] at hc1
    rw [if_pos hc1] at hd
    refine WC.sr (WL.mv rfl rfl (WL.sg rfl rfl (WL.nil (WC.ret ?_))))
    exact aj.ret (H' := C1.A bc :: F) (aL.tmp rfl rfl) (fun w h => h) ⟨C1, Lf, rfl, by rw [hd, s1], by rw [hd]⟩
   ·simp only [decide_eq_true_eq, decide_eq_false_iff_not, Bool.not_eq_true', Bool.not_eq_false'] at hc1
    rw [if_neg (by simpa using hc1)] at hd
    refine WC.skip (WC.sr (WL.mv rfl rfl (WL.sg rfl rfl (WL.nil (WC.ret ?_)))))
    exact aj.ret (H' := C1.A bc :: F) (aL.tmp rfl rfl) (fun w h => h) ⟨C1, Lf, rfl, by rw [hd, s1], by rw [hd, h0]⟩
theorem Da (hC : C.Ok) (b : Int) : Does Tryz.prog 104 #[ptr bd 0, .int .i64 b] K (C.A bc :: bQ bd bc C.g :: F)
    (fun v H' => ∃ C' : Cw, C'.Ok ∧ H' = C'.A bc :: bQ bd bc C.g :: F ∧ C'.sem = (C.sem.bD b).1 ∧ v = .int .i64 (C.sem.bD b).2) := by
  refine Does.enter Tryz.func104 rfl Tryz.ntmps104 rfl ?_
  simp only [aJ, Nat.reduceAdd]
  refine WC.sr (WL.sg rfl rfl (WL.nil (WC.seq (WC.sr (WL.mv rfl rfl (WL.mv rfl rfl (WL.call (vs := [_, _, _, _]) Tryz.call154 ⟨OV.p rfl, OV.p rfl, OV.p rfl, OV.p rfl, trivial⟩ (lN b 0 true) rfl ?_)))))))
  rintro _ H0 ⟨rfl, h0⟩
  subst H0
  refine WL.sg rfl rfl (WL.nil (WC.sr (WL.mv rfl rfl (WL.val (V.neq (OV.p rfl) (OV.p rfl)) rfl (WL.nil ?_)))))
  refine WC.cond rfl (fun hc0 => ?_) (fun hc0 => ?_)
  ·simp only [decide_eq_true_eq, decide_eq_false_iff_not, Bool.not_eq_true', Bool.not_eq_false'] at hc0
   have hd : C.sem.bD b = (C.sem, C.sem.ahead b 0 true) := by unfold ak.bD; rw [if_pos hc0]
   refine WC.sr (WL.mv rfl rfl (WL.sg rfl rfl (WL.nil (WC.ret ?_))))
   exact aj.ret (H' := C.A bc :: bQ bd bc C.g :: F) (aL.tmp rfl rfl) (fun w h => h) ⟨C, hC, rfl, by rw [hd], by rw [hd]⟩
  ·simp only [decide_eq_true_eq, decide_eq_false_iff_not, Bool.not_eq_true', Bool.not_eq_false'] at hc0
   have hd : C.sem.bD b = ak.done b (C.sem.erase b) := by unfold ak.bD; rw [if_neg (by simpa using hc0)]
   refine WC.skip (WC.seq ?_)
   refine WC.dY (bQ bd bc C.g :: F) (by kernel_rfl) ?_
   refine WA.t 0 rfl (V.move (OV.p rfl)) (WA.t 1 rfl (V.move (OV.p rfl)) (WA.t 2 rfl (V.nilCheck (OV.p rfl)) (WA.t 3 rfl (V.fieldAddr jC (OV.p rfl)) ?_)))
   refine WA.t 4 rfl (V.load Tryz.isAgg27 (OV.p rfl) (fun _ => by repeat (first | exact Rd.here rfl | apply Rd.up))) ?_
   refine WA.t 5 rfl (V.move (OV.p rfl)) (WA.t 7 rfl (V.move (OV.p rfl)) (WA.t 8 rfl (V.nilCheck (OV.p rfl)) (WA.t 9 rfl (V.fieldAddr jC (OV.p rfl)) ?_)))
   refine WA.t 10 rfl (V.load Tryz.isAgg27 (OV.p rfl) (fun _ => by repeat (first | exact Rd.here rfl | apply Rd.up))) ?_
   refine WA.t 11 rfl (V.makeFunc (us := [_]) (vs := []) ⟨OV.p rfl, trivial⟩ trivial) (WA.o 6 rfl (WL.call (vs := [_, _]) Tryz.call172 ⟨OV.p rfl, OV.p rfl, trivial⟩ (Fq hC b) rfl ?_))
   rintro _ _ ⟨C1, Lf, rfl, s1, rfl⟩
   refine WL.nil (WA.o 12 rfl (WL.call (vs := [_, _, _]) Tryz.call171 ⟨OV.p rfl, OV.p rfl, OV.p rfl, trivial⟩ (Ei Lf b _) rfl ?_))
   rintro _ _ ⟨C2, hC2, rfl, s2, rfl⟩
   refine WL.nil (WA.t 13 rfl (V.assign (OV.p rfl)) (WA.fin (WC.ret ?_)))
   exact aj.ret (H' := C2.A bc :: bQ bd bc C.g :: F) (aL.tmp rfl rfl) (fun w h => h) ⟨C2, hC2, rfl, by rw [hd, s2, s1], by rw [hd, s1]⟩
end
namespace ak
def room (S : ak) : Nat := S.g.se.toNat * S.g.sb.toNat
def cK (g : Geo) (d : List Nat) : List Nat := ji g.fl.toNat g.se.toNat g.sb.toNat d
def bM (S : ak) (b p : Int) (d : List Nat) : ak × Int :=
  if S.ahead b p (decide (d.length = S.room)) ≠ 0 then (S, S.ahead b p (decide (d.length = S.room))) else done b (S.program b p (bq (cK S.g d)))
structure Got where
  err : Int
  d : List Nat
  n : Nat
def fU (S : ak) (b p : Int) : List Nat := eU (S.reads b p)
def bB (S : ak) (b p : Int) : Got :=
  if S.ahead b p true ≠ 0 then ⟨S.ahead b p true, [], 0⟩
  else ⟨(cO S.g.fl.toNat S.g.se.toNat S.g.sb.toNat (S.fU b p)).err, (cO S.g.fl.toNat S.g.se.toNat S.g.sb.toNat (S.fU b p)).d, (cO S.g.fl.toNat S.g.se.toNat S.g.sb.toNat (S.fU b p)).n⟩
def jP (S : ak) (b p : Int) : Nat := dN S.g.fl.toNat S.g.se.toNat (S.g.sb.toNat + ay S.g.fl.toNat) (S.fU b p)
def gP (S : ak) (b : Int) : Nat → Bool
  | 0 => true
  | k + 1 => gP S b k && decide (S.jP b (k : Nat) = 0)
def jg (S : ak) (b n : Int) : Bool × Int :=
  if S.ahead b 0 (decide (0 ≤ n) && decide (n ≤ S.g.pg)) = 73 then (false, 0)
  else if S.ahead b 0 (decide (0 ≤ n) && decide (n ≤ S.g.pg)) ≠ 0 then (false, S.ahead b 0 (decide (0 ≤ n) && decide (n ≤ S.g.pg)))
  else (S.gP b n.toNat, 0)
def dz (S : ak) : Nat → List Int
  | 0 => []
  | k + 1 => if (S.up && !S.bad (k : Int)) = true then dz S k ++ [(k : Int)] else dz S k
def good (S : ak) : List Int := S.dz S.g.bl.toNat
theorem fV (S : ak) : ∀ k, (S.dz k).length ≤ k
  | 0 => Nat.le_refl _
  | k + 1 => by
    have := fV S k
    rw [dz]; split
    · rw [List.length_append]; simp; omega
    · omega
theorem ahead_zero {S : ak} {b p : Int} {ok : Bool} (h : S.ahead b p ok = 0) : S.up = true ∧ (0 ≤ b ∧ b < S.g.bl ∧ 0 ≤ p ∧ p < S.g.pg) ∧ ok = true ∧ S.bad b = false := by
  unfold ahead at h
  split at h
  · cases h
  · rename_i h1
    split at h
    · cases h
    · rename_i h2
      split at h
      · cases h
      · rename_i h3
        cases hok : ok with
        | false => exact absurd (.inr (.inr (.inr (.inr hok)))) h2
        | true => exact ⟨by simpa using h1, by omega, rfl, by simpa using h3⟩
theorem Ja {S : ak} {b p : Int} {ok : Bool} (h : S.ahead b p ok = 0) : S.dP b p = 0 := by
  obtain ⟨h1, h2, _, _⟩ := ahead_zero h
  unfold dP page block
  rw [if_neg (by rw [h1]; decide), if_neg (by simp; omega)]
end ak
theorem gT {g : Geo} (h : g.aF) : g = NG g.bl g.pg g.se.toNat g.sb.toNat g.fl.toNat := by
  unfold Geo.aF at h
  obtain ⟨a, b, c, d, e⟩ := g
  dsimp only at h ⊢
  unfold NG
  congr 1 <;> omega
theorem Geo.nP {g : Geo} (h : g.aF) : g.raw = ((fU g.se.toNat g.sb.toNat g.fl.toNat : Nat) : Int) := by
  have h1 := NG.raw (bl := g.bl) (pg := g.pg) (S := g.se.toNat) (B := g.sb.toNat) (t := g.fl.toNat)
  rw [← gT h] at h1
  exact h1
theorem Geo.yg {g : Geo} (h : g.aF) : g.room = ((g.se.toNat * g.sb.toNat : Nat) : Int) := by
  have h1 := NG.room (bl := g.bl) (pg := g.pg) (S := g.se.toNat) (B := g.sb.toNat) (t := g.fl.toNat)
  rw [← gT h] at h1
  exact h1
section
variable {bc bd : Nat} {C : Cw} {K : World} {F : List au}
theorem I5 {g : Geo} {A : Option Addr} {m cap : Nat} {d : List Nat} (hg : g.aF) (hd : Seq K F A m 1 (aB .u8 d)) (h8 : Small 256 d) (hm : m = g.se.toNat * g.sb.toNat) (hmc : m ≤ cap) :
    Does Tryz.prog 191 #[g.v, .slice A m cap] K F
      (fun v H' => ∃ A' cap', v = .tuple #[.slice A' g.raw.toNat cap', .int .i64 0] ∧ H' = bC (.slice A' g.raw.toNat cap') 5 1 g.raw.toNat (aB .u8 (ak.cK g d)) :: F) := by
  have h := KY (bl := g.bl) (pg := g.pg) (S := g.se.toNat) (B := g.sb.toNat) (t := g.fl.toNat) (by rw [← gT hg]; exact hg) hd h8 hm hmc
  rw [← gT hg] at h
  rw [Geo.nP hg, Int.toNat_natCast]
  exact h
theorem IV {g : Geo} {A : Option Addr} {m cap : Nat} {raw : List Nat} (hg : g.aF) (hr : Seq K F A m 1 (aB .u8 raw)) (h8 : Small 256 raw) (hm : m = g.raw.toNat) (hmc : m ≤ cap) :
    Does Tryz.prog 156 #[g.v, .slice A m cap] K F
      (fun v H' => ∃ A' cap', v = .tuple #[.slice A' (cO g.fl.toNat g.se.toNat g.sb.toNat raw).d.length cap', .int .i64 ((cO g.fl.toNat g.se.toNat g.sb.toNat raw).n : Nat), .int .i64 ((cO g.fl.toNat g.se.toNat g.sb.toNat raw).err : Nat)] ∧
        H' = bC (.slice A' (cO g.fl.toNat g.se.toNat g.sb.toNat raw).d.length cap') 5 1 (cO g.fl.toNat g.se.toNat g.sb.toNat raw).d.length (aB .u8 (cO g.fl.toNat g.se.toNat g.sb.toNat raw).d) :: F) := by
  have h := JZ (bl := g.bl) (pg := g.pg) (S := g.se.toNat) (B := g.sb.toNat) (t := g.fl.toNat) (by rw [← gT hg]; exact hg) hr h8 (by rw [hm, Geo.nP hg, Int.toNat_natCast]) hmc
  rw [← gT hg] at h
  exact h
theorem Dh {g : Geo} {A : Option Addr} {m cap : Nat} {raw : List Nat} (hg : g.aF) (hr : Seq K F A m 1 (aB .u8 raw)) (h8 : Small 256 raw) (hm : m = g.raw.toNat) (hmc : m ≤ cap) :
    Does Tryz.prog 193 #[g.v, .slice A m cap] K F
      (fun v H' => ∃ A' n' cap', v = .tuple #[.slice A' n' cap', .int .i64 (dN g.fl.toNat g.se.toNat (g.sb.toNat + ay g.fl.toNat) raw : Nat)] ∧ H' = F) := by
  have h := yL (bl := g.bl) (pg := g.pg) (S := g.se.toNat) (B := g.sb.toNat) (t := g.fl.toNat) (by rw [← gT hg]; exact hg) hr h8 (by rw [hm, Geo.nP hg, Int.toNat_natCast]) hmc
  rw [← gT hg] at h
  refine Does.post_ h (fun v H' hp => ?_)
  rcases hp with ⟨h1, rfl, rfl⟩ | ⟨h1, A', cap', l, rs, rfl, _, _, rfl⟩
  · exact ⟨H', fun w hw => hw, _, _, _, rfl, rfl⟩
  · exact ⟨F, fun w hw => hw.drop 2, A', _, cap', by rw [h1]; rfl, rfl⟩
theorem D7 (hC : C.Ok) (b p : Int) {A : Option Addr} {m cap : Nat} {d : List Nat} (hd : Seq K F A m 1 (aB .u8 d)) (h8 : Small 256 d) (hmc : m ≤ cap) (hm : m ≤ 1000000) :
    Does Tryz.prog 124 #[ptr bd 0, .int .i64 b, .int .i64 p, .slice A m cap] K (C.A bc :: bQ bd bc C.g :: F)
    (fun v H' => ∃ C' : Cw, C'.Ok ∧ H' = C'.A bc :: bQ bd bc C.g :: F ∧ C'.sem = (C.sem.bM b p d).1 ∧ v = .int .i64 (C.sem.bM b p d).2) := by
  have hl : d.length = m := by simpa [aB] using hd.len
  have hmay : C.g.may = true := decide_eq_true hC.aF
  refine Does.enter Tryz.func124 rfl Tryz.ntmps124 rfl ?_
  simp only [aJ, Nat.reduceAdd]
  refine WC.sr (WL.sg rfl rfl (WL.nil (WC.sr (WL.mv rfl rfl (WL.call (vs := [_]) Tryz.call100 ⟨OV.p rfl, trivial⟩ (gG) rfl ?_)))))
  rintro _ H0 ⟨rfl, h0⟩
  subst H0
  refine WL.call (vs := [_]) Tryz.call122 ⟨OV.p rfl, trivial⟩ (aG.eq (v' := .tuple #[.int .i64 C.g.room, .int .i64 0]) (zC C.g) (by rw [hmay]; rfl)) rfl ?_
  rintro _ H0 ⟨rfl, h0⟩
  subst H0
  refine WL.mv rfl rfl (WL.xt rfl rfl rfl (WL.xt rfl rfl rfl (WL.sg rfl rfl (WL.sg rfl rfl (WL.nil (WC.seq (WC.sr (WL.mv rfl rfl (WL.mv rfl rfl (WL.mv rfl rfl (WL.mv rfl rfl (WL.val (V.len (t := 34) Tryz.runUnderlying34 (OV.p rfl)) rfl (WL.mv rfl rfl ?_)))))))))))))
  refine WL.val (V.aA (v' := .bool (decide (d.length = C.sem.room))) (V.eql (OV.p rfl) (OV.p rfl)) (fun _ => by rw [Geo.yg hC.aF, hl]; congr 1; apply decide_eq_decide.2; show ((m : Int) = ((C.g.se.toNat * C.g.sb.toNat : Nat) : Int)) ↔ m = C.g.se.toNat * C.g.sb.toNat; omega)) rfl ?_
  refine WL.call (vs := [_, _, _, _]) Tryz.call154 ⟨OV.p rfl, OV.p rfl, OV.p rfl, OV.p rfl, trivial⟩ (lN b p _) rfl ?_
  rintro _ H0 ⟨rfl, h0⟩
  subst H0
  refine WL.sg rfl rfl (WL.nil (WC.sr (WL.mv rfl rfl (WL.val (V.neq (OV.p rfl) (OV.p rfl)) rfl (WL.nil ?_)))))
  refine WC.cond rfl (fun hc0 => ?_) (fun hc0 => ?_)
  ·simp only [decide_eq_true_eq, decide_eq_false_iff_not, Bool.not_eq_true', Bool.not_eq_false'] at hc0
   have h0 := hc0
   have hdw : C.sem.bM b p d = (C.sem, C.sem.ahead b p (decide (d.length = C.sem.room))) := by unfold ak.bM; rw [if_pos hc0]
   refine WC.sr (WL.mv rfl rfl (WL.sg rfl rfl (WL.nil (WC.ret ?_))))
   exact aj.ret (H' := C.A bc :: bQ bd bc C.g :: F) (aL.tmp rfl rfl) (fun w h => h) ⟨C, hC, rfl, by rw [hdw], by rw [hdw]⟩
  ·simp only [decide_eq_true_eq, decide_eq_false_iff_not, Bool.not_eq_true', Bool.not_eq_false'] at hc0
   have h0 := hc0
   have hdw : C.sem.bM b p d = ak.done b (C.sem.program b p (bq (ak.cK C.g d))) := by unfold ak.bM; rw [if_neg (by simpa using hc0)]; rfl
   have hok := (ak.ahead_zero hc0).2.2.1
   have hmr : m = C.g.se.toNat * C.g.sb.toNat := by rw [← hl]; exact of_decide_eq_true hok
   refine WC.skip (WC.sr (WL.mv rfl rfl (WL.nc rfl rfl (WL.val (V.fieldAddr qj (OV.p rfl)) rfl ?_))))
   refine WL.val (V.aU (vs := [_, _, _, _, _]) ⟨Tryz.isAgg23, Tryz.sizeOf23⟩ (OV.p rfl) rfl (fun _ => by repeat (first | exact aT.gets ⟨rfl, rfl, rfl, rfl, rfl, trivial⟩ | apply aT.up))) rfl ?_
   refine WL.mv rfl rfl (WL.call (vs := [_, _]) Tryz.call191 ⟨OV.p rfl, OV.p rfl, trivial⟩ (I5 hC.aF hd.up.up h8 hmr hmc) rfl ?_)
   rintro _ _ ⟨Ap, cp, rfl, rfl⟩
   refine WL.sub (Sub.refl _) (fun w h => h.p1) ?_
   refine WL.have_ (fun w h => (bC.shape h.p1.head)) (fun ⟨Aq, cq, hq, hq2, _⟩ => ?_)
   have hcp : C.g.raw.toNat ≤ cp := by injection hq with q1 q2 q3; omega
   have hN := nY.of (bl := C.g.bl) (pg := C.g.pg) (by rw [← gT hC.aF]; exact hC.aF)
   have hpl : (ak.cK C.g d).length = C.g.raw.toNat := by
     unfold ak.cK
     rw [nA hN.t h8 (hl.trans hmr), Geo.nP hC.aF, Int.toNat_natCast]
   have hps : Small 256 (ak.cK C.g d) := vJ hN.t h8
   refine WL.mv rfl rfl (WL.xt rfl rfl rfl (WL.xt rfl rfl rfl (WL.sg rfl rfl (WL.sg rfl rfl (WL.nil (WC.seq ?_))))))
   refine WC.dY (bC (.slice Ap C.g.raw.toNat cp) 5 1 C.g.raw.toNat (aB .u8 (ak.cK C.g d)) :: bQ bd bc C.g :: F) (by kernel_rfl) ?_
   refine WA.t 0 rfl (V.move (OV.p rfl)) (WA.t 1 rfl (V.move (OV.p rfl)) (WA.t 2 rfl (V.nilCheck (OV.p rfl)) (WA.t 3 rfl (V.fieldAddr jC (OV.p rfl)) ?_)))
   refine WA.t 4 rfl (V.load Tryz.isAgg27 (OV.p rfl) (fun _ => by repeat (first | exact Rd.here rfl | apply Rd.up))) ?_
   refine WA.t 5 rfl (V.move (OV.p rfl)) (WA.t 6 rfl (V.move (OV.p rfl)) (WA.t 7 rfl (V.move (OV.p rfl)) (WA.t 9 rfl (V.move (OV.p rfl)) (WA.t 10 rfl (V.nilCheck (OV.p rfl)) (WA.t 11 rfl (V.fieldAddr jC (OV.p rfl)) ?_)))))
   refine WA.t 12 rfl (V.load Tryz.isAgg27 (OV.p rfl) (fun _ => by repeat (first | exact Rd.here rfl | apply Rd.up))) ?_
   refine WA.t 13 rfl (V.makeFunc (us := [_]) (vs := []) ⟨OV.p rfl, trivial⟩ trivial) (WA.o 8 rfl ?_)
   refine WL.call (vs := [_, _, _, _]) Tryz.call192 ⟨OV.p rfl, OV.p rfl, OV.p rfl, OV.p rfl, trivial⟩ (Cb hC b p (jU hps) (by rw [← lI]; exact bC.seq (by rw [aH, hpl, Nat.mul_one])) hcp) rfl ?_
   rintro _ _ ⟨C1, Lf, rfl, s1, rfl⟩
   refine WL.nil (WA.o 14 rfl (WL.call (vs := [_, _, _]) Tryz.call171 ⟨OV.p rfl, OV.p rfl, OV.p rfl, trivial⟩ (Ei Lf b _) rfl ?_))
   rintro _ _ ⟨C2, hC2, rfl, s2, rfl⟩
   refine WL.nil (WA.t 15 rfl (V.assign (OV.p rfl)) (WA.fin (WC.ret ?_)))
   exact aj.ret (H' := C2.A bc :: bQ bd bc C.g :: F) (aL.tmp rfl rfl) (fun w h => h.sel 2 [0] rfl) ⟨C2, hC2, rfl, by rw [hdw, s2, s1], by rw [hdw, s1]⟩
end
theorem Cw.Ok.I9 {C : Cw} (hC : C.Ok) (b p : Int) : aZ (C.sem.reads b p) := by
  have hr := Geo.lX hC.aF
  have hl := hC.Bu b p
  unfold ak.reads at hl ⊢
  rw [iK] at hl
  refine xX (hC.DZ b p) (fun i hi => ?_)
  obtain ⟨A, c, l, h1, h2, h3, h4, h5⟩ := hC.DI b p
  rw [← h4] at hi
  have := h3 i hi
  rw [hl]; omega
theorem Cw.Ok.nu {C : Cw} (hC : C.Ok) (b p : Int) : ints .u8 (C.sem.reads b p) = aB .u8 (C.sem.fU b p) ∧ Small 256 (C.sem.fU b p) ∧ (C.sem.fU b p).length = C.g.raw.toNat := by
  have h := hC.I9 b p
  exact ⟨wu h, mV h, by unfold ak.fU; rw [jB, hC.Bu]⟩
section
variable {bc bd : Nat} {C : Cw} {K : World} {F : List au}
theorem FP (hC : C.Ok) (b p : Int) : Does Tryz.prog 90 #[ptr bd 0, .int .i64 b, .int .i64 p] K (C.A bc :: bQ bd bc C.g :: F)
    (fun v H' => ∃ A' c', v = .tuple #[.slice A' (C.sem.bB b p).d.length c', .int .i64 ((C.sem.bB b p).n : Nat), .int .i64 (C.sem.bB b p).err] ∧
      H' = bC (.slice A' (C.sem.bB b p).d.length c') 5 1 (C.sem.bB b p).d.length (aB .u8 (C.sem.bB b p).d) :: C.A bc :: bQ bd bc C.g :: F) := by
  obtain ⟨G, hG⟩ : ∃ G, G = C.sem.bB b p := ⟨_, rfl⟩
  rw [← hG]
  obtain ⟨r1, r2, r3⟩ := hC.nu b p
  have hrb := Geo.lX hC.aF
  refine Does.enter Tryz.func90 rfl Tryz.ntmps90 rfl ?_
  simp only [aJ, Nat.reduceAdd]
  refine WC.sr (WL.sg rfl rfl (WL.sg rfl rfl (WL.sg rfl rfl (WL.nil (WC.seq (WC.sr (WL.mv rfl rfl (WL.mv rfl rfl (WL.mv rfl rfl (WL.call (vs := [_, _, _, _]) Tryz.call154 ⟨OV.p rfl, OV.p rfl, OV.p rfl, OV.p rfl, trivial⟩ (lN b p true) rfl ?_))))))))))
  rintro _ H0 ⟨rfl, h0⟩
  subst H0
  refine WL.sg rfl rfl (WL.nil (WC.sr (WL.mv rfl rfl (WL.val (V.neq (OV.p rfl) (OV.p rfl)) rfl (WL.nil ?_)))))
  refine WC.cond rfl (fun hc0 => ?_) (fun hc0 => ?_)
  ·simp only [decide_eq_true_eq, decide_eq_false_iff_not, Bool.not_eq_true', Bool.not_eq_false'] at hc0
   have h0 := hc0
   have hG2 : G = ⟨C.sem.ahead b p true, [], 0⟩ := by rw [hG]; unfold ak.bB; rw [if_pos h0]
   refine WC.sr (WL.mv rfl rfl (WL.sg rfl rfl (WL.sg rfl rfl (WL.sg rfl rfl (WL.nil (WC.ret ?_))))))
   exact aj.ret (H' := bC (.slice none 0 0) 5 1 0 [] :: C.A bc :: bQ bd bc C.g :: F) (aL.vD rfl rfl rfl rfl) (fun w h => Sat.iA h _ _) ⟨none, 0, by rw [hG2]; rfl, by rw [hG2]; rfl⟩
  ·simp only [decide_eq_true_eq, decide_eq_false_iff_not, Bool.not_eq_true', Bool.not_eq_false'] at hc0
   have h0 := hc0
   have h0 : C.sem.ahead b p true = 0 := by simpa using h0
   have hG2 : G = ⟨(cO C.g.fl.toNat C.g.se.toNat C.g.sb.toNat (C.sem.fU b p)).err, (cO C.g.fl.toNat C.g.se.toNat C.g.sb.toNat (C.sem.fU b p)).d, (cO C.g.fl.toNat C.g.se.toNat C.g.sb.toNat (C.sem.fU b p)).n⟩ := by rw [hG]; unfold ak.bB; rw [if_neg (by rw [h0]; decide)]; rfl
   refine WC.skip (WC.sr (WL.mv rfl rfl (WL.nc rfl rfl (WL.val (V.fieldAddr jC (OV.p rfl)) rfl (WL.ld Tryz.isAgg27 rfl rfl ?_)))))
   refine WL.mv rfl rfl (WL.mv rfl rfl (WL.call (vs := [_, _, _]) Tryz.call155 ⟨OV.p rfl, OV.p rfl, OV.p rfl, trivial⟩ (Bd hC b p) rfl ?_))
   rintro _ _ (⟨_, bo, rfl, rfl⟩ | ⟨hno, rfl, rfl⟩)
   rotate_left
   · exact (hno (ak.Ja h0)).elim
   rw [r1]
   refine WL.mv rfl rfl (WL.xt rfl rfl rfl (WL.xt rfl rfl rfl (WL.sg rfl rfl (WL.sg rfl rfl (WL.nil (WC.seq (WC.sr (WL.mv rfl rfl (WL.val (V.neq (OV.p rfl) (OV.p rfl)) rfl (WL.nil ?_))))))))))
   refine WC.aM rfl (by first | rfl | (simp; done) | (simp; omega)) ?_
   refine WC.skip (WC.sr (WL.mv rfl rfl (WL.nc rfl rfl (WL.val (V.fieldAddr qj (OV.p rfl)) rfl ?_))))
   refine WL.val (V.aU (vs := [_, _, _, _, _]) ⟨Tryz.isAgg23, Tryz.sizeOf23⟩ (OV.p rfl) rfl (fun _ => by repeat (first | exact aT.gets ⟨rfl, rfl, rfl, rfl, rfl, trivial⟩ | apply aT.up))) rfl ?_
   refine WL.mv rfl rfl (WL.call (vs := [_, _]) Tryz.call156 ⟨OV.p rfl, OV.p rfl, trivial⟩ (IV hC.aF (Seq.wL r3) r2 rfl (Nat.le_refl _)) rfl ?_)
   rintro _ _ ⟨A', c', rfl, rfl⟩
   refine WL.xt rfl rfl rfl (WL.xt rfl rfl rfl (WL.xt rfl rfl rfl (WL.sg rfl rfl (WL.sg rfl rfl (WL.sg rfl rfl (WL.nil (WC.ret ?_)))))))
   refine aj.ret (H' := bC (.slice A' G.d.length c') 5 1 G.d.length (aB .u8 G.d) :: C.A bc :: bQ bd bc C.g :: F) (aL.vD rfl rfl rfl rfl) (fun w h => ?_) ⟨A', c', by rw [hG2], rfl⟩
   rw [hG2]
   exact h.sel 2 [0] rfl
theorem Dl (hC : C.Ok) (b n : Int) (hn : -9223372036854775808 ≤ n ∧ n ≤ 9223372036854775807) : aG Tryz.prog 126 #[ptr bd 0, .int .i64 b, .int .i64 n] K (C.A bc :: bQ bd bc C.g :: F) (.tuple #[.bool (C.sem.jg b n).1, .int .i64 (C.sem.jg b n).2]) := by
  have hrb := Geo.lX hC.aF
  have hpg := hC.aF
  unfold Geo.aF at hpg
  refine Does.enter Tryz.func126 rfl Tryz.ntmps126 rfl ?_
  simp only [aJ, Nat.reduceAdd]
  refine WC.sr (WL.sg rfl rfl (WL.sg rfl rfl (WL.nil (WC.sr (WL.mv rfl rfl (WL.mv rfl rfl (WL.mv rfl rfl (WL.val (V.geq (OV.p rfl) (OV.p rfl)) rfl (WL.mv rfl rfl (WL.ah (oj := _) rfl rfl rfl GC.t (V.move (OV.p rfl)) rfl (WL.ah (oj := _) rfl rfl rfl GC.t (V.move (OV.p rfl)) rfl ?_)))))))))))
  refine WL.kN (oj := _) (vs := [_]) rfl rfl rfl GC.t Tryz.call100 ⟨OV.g rfl id, trivial⟩ (fun hg => gG) rfl ?_
  refine WL.ah (oj := _) rfl rfl rfl GC.t (V.field (OV.g rfl id) (Mf _ _ _ _ _)) rfl (WL.ah (oj := _) rfl rfl rfl GC.t (V.leq (OV.g rfl id) (OV.g rfl id)) rfl (WL.val (V.aD (OV.p rfl) (OV.g rfl id)) rfl (WL.call (vs := [_, _, _, _]) Tryz.call154 ⟨OV.p rfl, OV.p rfl, OV.p rfl, OV.p rfl, trivial⟩ (lN b 0 _) rfl ?_)))
  rintro _ H0 ⟨rfl, h0⟩
  subst H0
  refine WL.sg rfl rfl (WL.nil (WC.seq (WC.seq ?_)))
  obtain ⟨e, he⟩ : ∃ e, e = C.sem.ahead b 0 (decide (0 ≤ n) && decide (n ≤ C.g.pg)) := ⟨_, rfl⟩
  rw [← he]
  have hW : C.sem.jg b n = if e = 73 then (false, 0) else if e ≠ 0 then (false, e) else (C.sem.gP b n.toNat, 0) := by unfold ak.jg; rw [he]; rfl
  rw [hW]
  refine WC.region (WL.mv rfl rfl (WL.val (V.eql (OV.p rfl) (OV.p rfl)) rfl (WL.nil ?_)))
  refine WC.cond rfl (fun hc0 => ?_) (fun hc0 => ?_)
  ·simp only [decide_eq_true_eq, decide_eq_false_iff_not, Bool.not_eq_true', Bool.not_eq_false'] at hc0
   rw [if_pos hc0]
   refine WC.sr (WL.sg rfl rfl (WL.sg rfl rfl (WL.nil (WC.ret ?_))))
   exact aj.ret (H' := C.A bc :: bQ bd bc C.g :: F) (aL.dJ rfl rfl rfl) (fun w h => h) ⟨rfl, rfl⟩
  ·simp only [decide_eq_true_eq, decide_eq_false_iff_not, Bool.not_eq_true', Bool.not_eq_false'] at hc0
   rw [if_neg hc0]
   refine WC.skip (WC.seq (WC.sr (WL.mv rfl rfl (WL.val (V.neq (OV.p rfl) (OV.p rfl)) rfl (WL.nil ?_)))))
   refine WC.cond rfl (fun hc1 => ?_) (fun hc1 => ?_)
   ·simp only [decide_eq_true_eq, decide_eq_false_iff_not, Bool.not_eq_true', Bool.not_eq_false'] at hc1
    rw [if_pos hc1]
    refine WC.sr (WL.mv rfl rfl (WL.sg rfl rfl (WL.sg rfl rfl (WL.nil (WC.ret ?_)))))
    exact aj.ret (H' := C.A bc :: bQ bd bc C.g :: F) (aL.dJ rfl rfl rfl) (fun w h => h) ⟨rfl, rfl⟩
   ·simp only [decide_eq_true_eq, decide_eq_false_iff_not, Bool.not_eq_true', Bool.not_eq_false'] at hc1
    have he0 : e = 0 := by simpa using hc1
    rw [if_neg (by rw [he0]; decide)]
    obtain ⟨q1, q2, q3, q4⟩ := ak.ahead_zero (he ▸ he0 : C.sem.ahead b 0 (decide (0 ≤ n) && decide (n ≤ C.g.pg)) = 0)
    simp only [Bool.and_eq_true, decide_eq_true_eq] at q3
    obtain ⟨k, hk⟩ : ∃ k : Nat, n = (k : Int) := ⟨n.toNat, by omega⟩
    subst hk
    rw [Int.toNat_natCast]
    refine WC.skip (WC.seq (WC.sr (WL.mv rfl rfl (WL.mv rfl rfl (WL.nil (WC.block ?_))))))
    refine WC.loop (σ := Nat) (fun j => [(0, ptr bd 0), (1, .int .i64 b), (31, .int .i64 (k : Int)), (32, .int .i64 (j : Int))]) (fun _ => C.A bc :: bQ bd bc C.g :: F) (fun j => j ≤ k ∧ C.sem.gP b j = true) (fun j => k - j) 0 ⟨Nat.zero_le _, rfl⟩ (.cons rfl (.cons rfl (.cons rfl (.cons rfl (.nil _))))) (fun w h => h) ?_
    rintro j ⟨hj, QI⟩
    refine WC.sr (WL.val (V.lss (OV.p rfl) (OV.p rfl)) rfl (WL.nil (WC.seq ?_)))
    refine WC.cond rfl (fun hc2 => ?_) (fun hc2 => ?_)
    ·simp only [decide_eq_true_eq, decide_eq_false_iff_not] at hc2
     refine WC.skip (WC.seq (WC.block (WC.sr (WL.mv rfl rfl (WL.sg rfl rfl (WL.nil (WC.seq ?_)))))))
     have hjk : j < k := by omega
     obtain ⟨r1, r2, r3⟩ := hC.nu b (j : Int)
     have hre : C.sem.dP b (j : Int) = 0 := by
       unfold ak.dP ak.page ak.block
       rw [if_neg (by rw [q1]; decide), if_neg]
       have e1 : C.sem.g = C.g := rfl
       simp only [e1] at q2 ⊢
       simp; omega
     refine WC.region (WL.mv rfl rfl (WL.nc rfl rfl (WL.val (V.fieldAddr jC (OV.p rfl)) rfl (WL.ld Tryz.isAgg27 rfl rfl ?_))))
     refine WL.mv rfl rfl (WL.mv rfl rfl (WL.call (vs := [_, _, _]) Tryz.call155 ⟨OV.p rfl, OV.p rfl, OV.p rfl, trivial⟩ (Bd hC b (j : Int)) rfl ?_))
     rintro _ _ (⟨_, bo, rfl, rfl⟩ | ⟨hno, rfl, rfl⟩)
     rotate_left
     · exact (hno hre).elim
     rw [r1]
     refine WL.mv rfl rfl (WL.xt rfl rfl rfl (WL.xt rfl rfl rfl (WL.sg rfl rfl (WL.sg rfl rfl (WL.nil (WC.sr (WL.mv rfl rfl (WL.nc rfl rfl (WL.val (V.fieldAddr qj (OV.p rfl)) rfl ?_)))))))))
     refine WL.val (V.aU (vs := [_, _, _, _, _]) ⟨Tryz.isAgg23, Tryz.sizeOf23⟩ (OV.p rfl) rfl (fun _ => by repeat (first | exact aT.gets ⟨rfl, rfl, rfl, rfl, rfl, trivial⟩ | apply aT.up))) rfl ?_
     refine WL.mv rfl rfl (WL.call (vs := [_, _]) Tryz.call193 ⟨OV.p rfl, OV.p rfl, trivial⟩ (Dh hC.aF (Seq.wL r3) r2 rfl (Nat.le_refl _)) rfl ?_)
     rintro _ _ ⟨A', n', c', rfl, rfl⟩
     refine WL.mv rfl rfl (WL.xt rfl rfl rfl (WL.xt rfl rfl rfl (WL.sg rfl rfl (WL.sg rfl rfl (WL.nil (WC.sr (WL.mv rfl rfl (WL.val (V.neq (OV.p rfl) (OV.p rfl)) rfl (WL.nil ?_)))))))))
     refine WC.cond rfl (fun hc3 => ?_) (fun hc3 => ?_)
     ·simp only [decide_eq_true_eq, decide_eq_false_iff_not, Bool.not_eq_true', Bool.not_eq_false'] at hc3
      have hst : decide (C.sem.jP b (j : Nat) = 0) = false := decide_eq_false (by intro h; exact hc3 (by show ((C.sem.jP b (j : Nat) : Nat) : Int) = 0; rw [h]; rfl))
      refine WC.sr (WL.sg rfl rfl (WL.sg rfl rfl (WL.nil (WC.ret ?_))))
      refine aj.ret (H' := C.A bc :: bQ bd bc C.g :: F) (aL.dJ rfl rfl rfl) (fun w h => h.drop 1) ⟨?_, rfl⟩
      have hno : ∀ i, j < i → C.sem.gP b i = false := fun i hi => by
        induction i with
        | zero => omega
        | succ i ih =>
          rw [ak.gP]
          rcases Nat.lt_or_ge j i with h | h
          · rw [ih h]; rfl
          · obtain rfl : j = i := by omega
            rw [hst, Bool.and_false]
      rw [hno k hjk]
     ·simp only [decide_eq_true_eq, decide_eq_false_iff_not, Bool.not_eq_true', Bool.not_eq_false'] at hc3
      have hst : decide (C.sem.jP b (j : Nat) = 0) = true := decide_eq_true (by have h9 := hc3; simp at h9; exact h9)
      refine WC.skip (WC.region (WL.ad rfl rfl rfl ?_))
      refine WL.mv rfl rfl (WL.nil ?_)
      refine ⟨rfl, ?_⟩
      exact ⟨j + 1, ⟨by omega, by rw [ak.gP, QI, hst]; rfl⟩, (by show k - (j + 1) < k - j; omega), .cons rfl (.cons rfl (.cons rfl (.cons (look_eq rfl (by simp)) (.nil _)))), fun w h => h.drop 1⟩
    ·simp only [decide_eq_true_eq, decide_eq_false_iff_not] at hc2
     refine WC.exit (WC.sr (WL.sg rfl rfl (WL.sg rfl rfl (WL.nil (WC.ret ?_)))))
     obtain rfl : j = k := by omega
     exact aj.ret (H' := C.A bc :: bQ bd bc C.g :: F) (aL.dJ rfl rfl rfl) (fun w h => h) ⟨by rw [QI], rfl⟩
theorem FK (hC : C.Ok) : Does Tryz.prog 118 #[ptr bd 0] K (C.A bc :: bQ bd bc C.g :: F)
    (fun v H' => ∃ A' c', v = .slice A' C.sem.good.length c' ∧ H' = bC (.slice A' C.sem.good.length c') 3 1 C.sem.good.length (ints .i64 C.sem.good) :: C.A bc :: bQ bd bc C.g :: F) := by
  have hbl := hC.aF
  unfold Geo.aF at hbl
  obtain ⟨n, hn⟩ : ∃ n : Nat, C.g.bl = (n : Int) := ⟨C.g.bl.toNat, by omega⟩
  have hgd : C.sem.good = C.sem.dz n := by unfold ak.good; rw [show C.sem.g.bl = (n : Int) from hn, Int.toNat_natCast]
  rw [hgd]
  refine Does.enter Tryz.func118 rfl Tryz.ntmps118 rfl ?_
  simp only [aJ, Nat.reduceAdd]
  refine WC.sr (WL.sg rfl rfl (WL.nil (WC.sr (WL.sg rfl rfl (WL.nil (WC.seq (WC.sr (WL.mv rfl rfl (WL.call (vs := [_]) Tryz.call100 ⟨OV.p rfl, trivial⟩ (gG) rfl ?_)))))))))
  rintro _ H0 ⟨rfl, h0⟩
  subst H0
  refine WL.val (V.field (OV.p rfl) (LP _ _ _ _ _)) rfl (WL.mv rfl rfl (WL.nil (WC.block ?_)))
  refine WC.loop (σ := Nat × Option Addr × Nat) (fun x => [(0, ptr bd 0), (3, .slice x.2.1 (C.sem.dz x.1).length x.2.2), (7, .int .i64 C.g.bl), (8, .int .i64 (x.1 : Int))]) (fun x => C.A bc :: bC (.slice x.2.1 (C.sem.dz x.1).length x.2.2) 3 1 (C.sem.dz x.1).length (ints .i64 (C.sem.dz x.1)) :: bQ bd bc C.g :: F) (fun x => x.1 ≤ n) (fun x => n - x.1) (0, none, 0) (Nat.zero_le _) (.cons rfl (.cons rfl (.cons rfl (.cons rfl (.nil _))))) (fun w h => (Sat.iA h 3 1).p1) ?_
  rintro ⟨k, Ao, co⟩ hk
  dsimp only at hk ⊢
  have hkl := C.sem.fV k
  refine WC.sr (WL.val (V.lss (OV.p rfl) (OV.p rfl)) rfl (WL.nil (WC.seq ?_)))
  refine WC.cond rfl (fun hc0 => ?_) (fun hc0 => ?_)
  ·simp only [decide_eq_true_eq, decide_eq_false_iff_not] at hc0
   refine WC.skip (WC.seq (WC.block (WC.sr (WL.mv rfl rfl (WL.sg rfl rfl (WL.nil (WC.sr (WL.mv rfl rfl (WL.nc rfl rfl (WL.val (V.fieldAddr jC (OV.p rfl)) rfl (WL.ld Tryz.isAgg27 rfl rfl ?_)))))))))))
   refine WL.call (vs := [_]) Tryz.call185 ⟨OV.p rfl, trivial⟩ (Gz) rfl ?_
   rintro _ H0 ⟨rfl, h0⟩
   subst H0
   refine WL.mv rfl rfl (WL.ah (oj := _) rfl rfl rfl GC.t (V.move (OV.p rfl)) rfl (WL.ah (oj := _) rfl rfl rfl GC.t (V.nilCheck (OV.g rfl id)) rfl (WL.ah (oj := _) rfl rfl rfl GC.t (V.fieldAddr jC (OV.g rfl id)) rfl ?_)))
   refine WL.ah (oj := _) rfl rfl rfl GC.t (V.load Tryz.isAgg27 (OV.g rfl id) (fun _ => by repeat (first | exact Rd.here rfl | apply Rd.up))) rfl ?_
   refine WL.ah (oj := _) rfl rfl rfl GC.t (V.move (OV.p rfl)) rfl ?_
   refine WL.kN (oj := _) (vs := [_, _]) rfl rfl rfl GC.t Tryz.call186 ⟨OV.g rfl id, OV.g rfl id, trivial⟩ (fun hg => E9 (k : Int)) rfl ?_
   refine WL.ah (oj := _) rfl rfl rfl GC.t (V.not (OV.g rfl id)) rfl (WL.val (V.aD (OV.p rfl) (OV.g rfl id)) rfl (WL.nil ?_))
   refine WC.cond rfl (fun hc1 => ?_) (fun hc1 => ?_)
   ·skip
    have h1 := hc1
    have Lx : C.sem.dz (k + 1) = C.sem.dz k ++ [(k : Int)] := by rw [ak.dz, if_pos (show (C.sem.up && !C.sem.bad (k : Int)) = true from h1)]
    refine WC.region (WL.mv rfl rfl (WL.mv rfl rfl ?_))
    refine WL.buildSlice (E := 3) (cs := [_]) (vs := [(0, _)]) ⟨OV.p rfl, trivial⟩ rfl (cZ _) rfl (fun NC => ?_)
    refine WL.sub (Sub.refl _) (fun w h => h.sel 4 [2, 0, 1, 3] rfl) ?_
    refine WL.append (m := (C.sem.dz k).length) (q := 1) (news := [.int .i64 (k : Int)]) Tryz.underlying124 el3 (OV.p rfl) (OV.p rfl) (Seq.all rfl) (by intro u hu; rw [List.mem_singleton.1 hu]; rfl) (by omega) rfl rfl (fun A' c' hA' hc' => ?_)
    refine WL.sg rfl rfl (WL.nil (WC.region (WL.ad rfl rfl rfl ?_)))
    refine WL.mv rfl rfl (WL.nil ?_)
    refine ⟨rfl, ?_⟩
    first
    | exact ⟨(k + 1, A', c'), (by show k + 1 ≤ n; omega), (by show n - (k + 1) < n - k; omega), .cons rfl (.cons (look_eq rfl (by dsimp only; rw [Lx, List.length_append]; rfl)) (.cons rfl (.cons (look_eq rfl (by simp)) (.nil _)))), fun w h => by
        dsimp only
        rw [Lx, List.length_append, bY]
        exact h.sel 4 [2, 0, 3] rfl⟩
    | exact ⟨(k + 1, Ao, co), (by show k + 1 ≤ n; omega), (by show n - (k + 1) < n - k; omega), .cons rfl (.cons (look_eq rfl (by dsimp only; rw [Lx])) (.cons rfl (.cons (look_eq rfl (by simp)) (.nil _)))), fun w h => by
        dsimp only
        rw [Lx]
        exact h⟩
   ·skip
    have h1 := hc1
    have Lx : C.sem.dz (k + 1) = C.sem.dz k := by rw [ak.dz, if_neg (by rw [show (C.sem.up && !C.sem.bad (k : Int)) = false from h1]; decide)]
    refine WC.skip (WC.region (WL.ad rfl rfl rfl ?_))
    refine WL.mv rfl rfl (WL.nil ?_)
    refine ⟨rfl, ?_⟩
    first
    | exact ⟨(k + 1, A', c'), (by show k + 1 ≤ n; omega), (by show n - (k + 1) < n - k; omega), .cons rfl (.cons (look_eq rfl (by dsimp only; rw [Lx, List.length_append]; rfl)) (.cons rfl (.cons (look_eq rfl (by simp)) (.nil _)))), fun w h => by
        dsimp only
        rw [Lx, List.length_append, bY]
        exact h.sel 4 [2, 0, 3] rfl⟩
    | exact ⟨(k + 1, Ao, co), (by show k + 1 ≤ n; omega), (by show n - (k + 1) < n - k; omega), .cons rfl (.cons (look_eq rfl (by dsimp only; rw [Lx])) (.cons rfl (.cons (look_eq rfl (by simp)) (.nil _)))), fun w h => by
        dsimp only
        rw [Lx]
        exact h⟩
  ·simp only [decide_eq_true_eq, decide_eq_false_iff_not] at hc0
   refine WC.exit (WC.sr (WL.mv rfl rfl (WL.sg rfl rfl (WL.nil (WC.ret ?_)))))
   obtain rfl : k = n := by omega
   exact aj.ret (H' := bC (.slice Ao (C.sem.dz k).length co) 3 1 (C.sem.dz k).length (ints .i64 (C.sem.dz k)) :: C.A bc :: bQ bd bc C.g :: F) (aL.tmp rfl rfl) (fun w h => h.p1) ⟨Ao, co, rfl, rfl⟩
end
end Go.Proofs.YtcedojacbhnbiaaGreat
