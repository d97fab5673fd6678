import Derived.Test.YtohkefolnmcjnaaGreatP16
import Derived.Test.YtohkefolnmcjnaaGreatP15
namespace Go.Proofs.YtohkefolnmcjnaaGreat
open Go.Sl Go.RowKit
set_option linter.unusedVariables false
set_option linter.unusedSimpArgs false
set_option maxRecDepth 20000
def natsOf (xs : List Int) : List Nat := xs.map Int.toNat
theorem ints_natsOf {xs : List Int} (h : IsBytes xs) : ints .u8 xs = nats .u8 (natsOf xs) := by
  unfold ints nats natsOf
  rw [List.map_map]
  apply List.map_congr_left
  intro x hx
  have := h x hx
  show Value.int .u8 x = Value.int .u8 ((x.toNat : Nat) : Int)
  congr 1; omega
theorem natsOf_small {xs : List Int} (h : IsBytes xs) : Small 256 (natsOf xs) := fun y hy => by
  obtain ⟨x, hx, rfl⟩ := List.mem_map.1 hy
  have := h x hx; omega
theorem natsOf_length (xs : List Int) : (natsOf xs).length = xs.length := by simp [natsOf]
def intsOf (xs : List Nat) : List Int := xs.map fun x : Nat => (x : Int)
theorem intsOf_bytes {xs : List Nat} (h : Small 256 xs) : IsBytes (intsOf xs) := fun y hy => by
  obtain ⟨x, hx, rfl⟩ := List.mem_map.1 hy
  have := h x hx; omega
theorem natsOf_intsOf (xs : List Nat) : natsOf (intsOf xs) = xs := by
  unfold natsOf intsOf
  rw [List.map_map]
  conv => rhs; rw [← List.map_id xs]
  apply List.map_congr_left
  intro x _; rfl
theorem nats_intsOf (k : IntKind) (xs : List Nat) : nats k xs = ints k (intsOf xs) := nats_ints k xs
namespace Chip
def ahead (S : Chip) (b p : Int) (ok : Bool) : Int := if S.up = false then 70 else if b < 0 ∨ S.g.bl ≤ b ∨ p < 0 ∨ S.g.pg ≤ p ∨ ok = false then 1 else if S.bad b then 73 else 0
def done (b : Int) (x : Chip × Int) : Chip × Int := if x.2 ≠ 72 then x else if (x.1.mark b).2 ≠ 0 then x.1.mark b else ((x.1.mark b).1, 72)
def dErase (S : Chip) (b : Int) : Chip × Int := if S.ahead b 0 true ≠ 0 then (S, S.ahead b 0 true) else done b (S.erase b)
end Chip
abbrev DvA (bd bc : Nat) (g : Geo) : Assn := Cells bd 94 [ptr bc 0, .int .i64 g.bl, .int .i64 g.pg, .int .i64 g.se, .int .i64 g.sb, .int .i64 g.fl]
section
variable {bc bd : Nat} {C : Cw} {K : World} {F : List Assn}
theorem drive_New (hC : C.Ok) : Does Tryz.prog 14 #[ptr bc 0] K (C.A bc :: F) (fun v H' => ∃ bd, v = .tuple #[ptr bd 0, .int .i64 0] ∧ H' = C.A bc :: DvA bd bc C.g :: F) := by
  refine Does.enter Tryz.func14 rfl Tryz.ntmps14 rfl ?_
  simp only [env0, Nat.reduceAdd]
  refine WC.sr ?_
  refine WL.sg rfl rfl ?_
  refine WL.sg rfl rfl ?_
  refine WL.nil ?_
  refine WC.seq ?_
  refine WC.sr ?_
  refine WL.mv rfl rfl ?_
  refine WL.val (V.eqlP Tryz.underlying27 (OV.p rfl) (OV.p rfl)) rfl ?_
  refine WL.nil ?_
  refine WC.condF' rfl (by first | rfl | (simp; done) | (simp; omega)) ?_
  refine WC.skip ?_
  refine WC.sr ?_
  refine WL.mv rfl rfl ?_
  refine WL.mv rfl rfl ?_
  refine WL.call (vs := [_]) Tryz.call56 ⟨OV.p rfl, trivial⟩ (chip_Geometry) rfl ?_
  rintro _ H0 ⟨rfl, h0⟩
  subst H0
  refine WL.val (V.build (vs := [(0, _), (1, _)]) ⟨OV.p rfl, OV.p rfl, trivial⟩ rfl (bld94_0_1 _ _ _ _ _ _)) rfl ?_
  refine WL.box (cs := [_, _, _, _, _, _]) (OV.p rfl) rfl rfl (fun b10 => ?_)
  refine WL.sg rfl rfl ?_
  refine WL.sg rfl rfl ?_
  refine WL.nil ?_
  refine WC.ret ?_
  exact BodyQ.ret (H' := C.A bc :: DvA b10 bc C.g :: F) (Res.tmp2 rfl rfl rfl) (fun w h => h.p1) ⟨b10, rfl, rfl⟩
theorem drive_Geometry {g : Geo} : Tells Tryz.prog 20 #[ptr bd 0] K (C.A bc :: DvA bd bc g :: F) g.v := by
  refine Does.enter Tryz.func20 rfl Tryz.ntmps20 rfl ?_
  simp only [env0, Nat.reduceAdd]
  refine WC.sr ?_
  refine WL.alloc (cs := [(.int .i64 0), (.int .i64 0), (.int .i64 0), (.int .i64 0), (.int .i64 0)]) Tryz.zeroValue23 rfl rfl (fun b2 => ?_)
  refine WL.nil ?_
  refine WC.seq ?_
  refine WC.sr ?_
  refine WL.mv rfl rfl ?_
  refine WL.val (V.eqlP Tryz.underlying31 (OV.p rfl) (OV.p rfl)) rfl ?_
  refine WL.nil ?_
  refine WC.condF' rfl (by first | rfl | (simp; done) | (simp; omega)) ?_
  refine WC.skip ?_
  refine WC.sr ?_
  refine WL.mv rfl rfl ?_
  refine WL.nc rfl rfl ?_
  refine WL.val (V.fieldAddr fo94_1 (OV.p rfl)) rfl ?_
  refine WL.val (V.loadA (vs := [_, _, _, _, _]) ⟨Tryz.isAgg23, Tryz.sizeOf23⟩ (OV.p rfl) rfl (fun _ => by repeat (first | exact Rds.gets ⟨rfl, rfl, rfl, rfl, rfl, trivial⟩ | apply Rds.up))) rfl ?_
  refine WL.store (cs := [_, _, _, _, _]) Tryz.sizeOf23 (OV.p rfl) (OV.p rfl) rfl rfl rfl (by repeat (first | exact Upd.here (cs' := [_, _, _, _, _]) rfl rfl | apply Upd.up)) ?_
  refine WL.nil ?_
  refine WC.ret ?_
  exact BodyQ.ret (H' := C.A bc :: DvA bd bc g :: F) (Res.one rfl (R1.cellA (vs := [_, _, _, _, _]) rfl ⟨Tryz.isAgg23, Tryz.sizeOf23⟩ rfl (by repeat (first | exact Rds.gets ⟨rfl, rfl, rfl, rfl, rfl, trivial⟩ | apply Rds.up)))) (fun w h => h.drop 1) ⟨rfl, rfl⟩
theorem drive_ahead (b p : Int) (ok : Bool) : Tells Tryz.prog 74 #[ptr bd 0, .int .i64 b, .int .i64 p, .bool ok] K (C.A bc :: DvA bd bc C.g :: F) (.int .i64 (C.sem.ahead b p ok)) := by
  refine Does.enter Tryz.func74 rfl Tryz.ntmps74 rfl ?_
  simp only [env0, Nat.reduceAdd]
  refine WC.sr ?_
  refine WL.sg rfl rfl ?_
  refine WL.nil ?_
  refine WC.seq ?_
  refine WC.block ?_
  refine WC.sr ?_
  refine WL.mv rfl rfl ?_
  refine WL.val (V.eqlP Tryz.underlying31 (OV.p rfl) (OV.p rfl)) rfl ?_
  refine WL.sg rfl rfl ?_
  refine WL.nil ?_
  refine WC.condF' rfl (by first | rfl | (simp; done) | (simp; omega)) ?_
  refine WC.sr ?_
  refine WL.mv rfl rfl ?_
  refine WL.nc rfl rfl ?_
  refine WL.val (V.fieldAddr fo94_0 (OV.p rfl)) rfl ?_
  refine WL.ld Tryz.isAgg27 rfl rfl ?_
  refine WL.call (vs := [_]) Tryz.call71 ⟨OV.p rfl, trivial⟩ (chip_Up) rfl ?_
  rintro _ H0 ⟨rfl, h0⟩
  subst H0
  refine WL.val (V.not (OV.p rfl)) rfl ?_
  refine WL.sg rfl rfl ?_
  refine WL.nil ?_
  refine WC.cond rfl (fun hc1 => ?_) (fun hc1 => ?_)
  ·simp only [Bool.not_eq_true', Bool.not_eq_false'] at hc1
   have hup := hc1
   refine WC.sr ?_
   refine WL.sg rfl rfl ?_
   refine WL.nil ?_
   refine WC.ret ?_
   exact BodyQ.ret (H' := C.A bc :: DvA bd bc C.g :: F) (Res.tmp rfl rfl) (fun w h => h) ⟨by unfold Chip.ahead; rw [if_pos (show C.sem.up = false from hup)], rfl⟩
  ·simp only [Bool.not_eq_true', Bool.not_eq_false'] at hc1
   have hup := hc1
   refine WC.sr ?_
   refine WL.mv rfl rfl ?_
   refine WL.val (V.lss (OV.p rfl) (OV.p rfl)) rfl ?_
   refine WL.mv rfl rfl ?_
   refine WL.valG (oj := _) rfl rfl rfl GC.f (V.move (OV.p rfl)) rfl ?_
   refine WL.valG (oj := _) rfl rfl rfl GC.f (V.move (OV.p rfl)) rfl ?_
   refine WL.valG (oj := _) rfl rfl rfl GC.f (V.nilCheck (OV.g rfl id)) rfl ?_
   refine WL.valG (oj := _) rfl rfl rfl GC.f (V.fieldAddr fo94_1 (OV.g rfl id)) rfl ?_
   refine WL.valG (oj := _) rfl rfl rfl GC.f (V.fieldAddr fo23_0 (OV.g rfl id)) rfl ?_
   refine WL.valG (oj := _) rfl rfl rfl GC.f (V.load Tryz.isAgg3 (OV.g rfl id) (fun _ => by repeat (first | exact Rd.here rfl | apply Rd.up))) rfl ?_
   refine WL.valG (oj := _) rfl rfl rfl GC.f (V.geq (OV.g rfl id) (OV.g rfl id)) rfl ?_
   refine WL.val (V.pickOr (OV.p rfl) (OV.g rfl id)) rfl ?_
   refine WL.mv rfl rfl ?_
   refine WL.valG (oj := _) rfl rfl rfl GC.f (V.move (OV.p rfl)) rfl ?_
   refine WL.valG (oj := _) rfl rfl rfl GC.f (V.lss (OV.g rfl id) (OV.p rfl)) rfl ?_
   refine WL.val (V.pickOr (OV.p rfl) (OV.g rfl id)) rfl ?_
   refine WL.mv rfl rfl ?_
   refine WL.valG (oj := _) rfl rfl rfl GC.f (V.move (OV.p rfl)) rfl ?_
   refine WL.valG (oj := _) rfl rfl rfl GC.f (V.move (OV.p rfl)) rfl ?_
   refine WL.valG (oj := _) rfl rfl rfl GC.f (V.nilCheck (OV.g rfl id)) rfl ?_
   refine WL.valG (oj := _) rfl rfl rfl GC.f (V.fieldAddr fo94_1 (OV.g rfl id)) rfl ?_
   refine WL.valG (oj := _) rfl rfl rfl GC.f (V.fieldAddr fo23_1 (OV.g rfl id)) rfl ?_
   refine WL.valG (oj := _) rfl rfl rfl GC.f (V.load Tryz.isAgg3 (OV.g rfl id) (fun _ => by repeat (first | exact Rd.here rfl | apply Rd.up))) rfl ?_
   refine WL.valG (oj := _) rfl rfl rfl GC.f (V.geq (OV.g rfl id) (OV.g rfl id)) rfl ?_
   refine WL.val (V.pickOr (OV.p rfl) (OV.g rfl id)) rfl ?_
   refine WL.mv rfl rfl ?_
   refine WL.valG (oj := _) rfl rfl rfl GC.f (V.move (OV.p rfl)) rfl ?_
   refine WL.valG (oj := _) rfl rfl rfl GC.f (V.not (OV.g rfl id)) rfl ?_
   refine WL.val (V.pickOr (OV.p rfl) (OV.g rfl id)) rfl ?_
   refine WL.sg rfl rfl ?_
   refine WL.nil ?_
   refine WC.cond rfl (fun hc2 => ?_) (fun hc2 => ?_)
   ·simp only [Bool.or_eq_true, Bool.or_eq_false_iff, decide_eq_true_eq, decide_eq_false_iff_not, Bool.not_eq_true', Bool.not_eq_false'] at hc2
    have h2 := hc2
    refine WC.sr ?_
    refine WL.sg rfl rfl ?_
    refine WL.nil ?_
    refine WC.ret ?_
    exact BodyQ.ret (H' := C.A bc :: DvA bd bc C.g :: F) (Res.tmp rfl rfl) (fun w h => h) ⟨by unfold Chip.ahead; rw [if_neg (show ¬ C.sem.up = false by rw [show C.sem.up = C.up from rfl, hup]; decide), if_pos (by show b < 0 ∨ C.g.bl ≤ b ∨ p < 0 ∨ C.g.pg ≤ p ∨ ok = false; simp only [or_assoc] at h2; exact h2)], rfl⟩
   ·simp only [Bool.or_eq_true, Bool.or_eq_false_iff, decide_eq_true_eq, decide_eq_false_iff_not, Bool.not_eq_true', Bool.not_eq_false'] at hc2
    have h2 := hc2
    refine WC.sr ?_
    refine WL.mv rfl rfl ?_
    refine WL.nc rfl rfl ?_
    refine WL.val (V.fieldAddr fo94_0 (OV.p rfl)) rfl ?_
    refine WL.ld Tryz.isAgg27 rfl rfl ?_
    refine WL.mv rfl rfl ?_
    refine WL.call (vs := [_, _]) Tryz.call48 ⟨OV.p rfl, OV.p rfl, trivial⟩ (chip_Bad b) rfl ?_
    rintro _ H0 ⟨rfl, h0⟩
    subst H0
    refine WL.sg rfl rfl ?_
    refine WL.nil ?_
    refine WC.cond rfl (fun hc3 => ?_) (fun hc3 => ?_)
    ·skip
     have h3 := hc3
     refine WC.sr ?_
     refine WL.sg rfl rfl ?_
     refine WL.nil ?_
     refine WC.ret ?_
     exact BodyQ.ret (H' := C.A bc :: DvA bd bc C.g :: F) (Res.tmp rfl rfl) (fun w h => h) ⟨by unfold Chip.ahead; rw [if_neg (show ¬ C.sem.up = false by rw [show C.sem.up = C.up from rfl, hup]; decide), if_neg (by show ¬ (b < 0 ∨ C.g.bl ≤ b ∨ p < 0 ∨ C.g.pg ≤ p ∨ ok = false); obtain ⟨⟨⟨⟨q1, q2⟩, q3⟩, q4⟩, q5⟩ := h2; rw [q5]; simp; omega), if_pos h3], rfl⟩
    ·skip
     have h3 := hc3
     refine WC.skip ?_
     refine WC.sr ?_
     refine WL.sg rfl rfl ?_
     refine WL.nil ?_
     refine WC.ret ?_
     exact BodyQ.ret (H' := C.A bc :: DvA bd bc C.g :: F) (Res.tmp rfl rfl) (fun w h => h) ⟨by unfold Chip.ahead; rw [if_neg (show ¬ C.sem.up = false by rw [show C.sem.up = C.up from rfl, hup]; decide), if_neg (by show ¬ (b < 0 ∨ C.g.bl ≤ b ∨ p < 0 ∨ C.g.pg ≤ p ∨ ok = false); obtain ⟨⟨⟨⟨q1, q2⟩, q3⟩, q4⟩, q5⟩ := h2; rw [q5]; simp; omega), if_neg (by rw [h3]; decide)], rfl⟩
theorem drive_do (hC : C.Ok) (b e : Int) : Does Tryz.prog 76 #[.int .i64 b, .int .i64 e, .func (.func 78) #[ptr bc 0] #[]] K (C.A bc :: F)
    (fun v H' => ∃ C' : Cw, C'.Ok ∧ H' = C'.A bc :: F ∧ C'.sem = (Chip.done b (C.sem, e)).1 ∧ v = .int .i64 (Chip.done b (C.sem, e)).2) := by
  refine Does.enter Tryz.func76 rfl Tryz.ntmps76 rfl ?_
  simp only [env0, Nat.reduceAdd]
  refine WC.sr ?_
  refine WL.sg rfl rfl ?_
  refine WL.nil ?_
  refine WC.seq ?_
  refine WC.sr ?_
  refine WL.mv rfl rfl ?_
  refine WL.val (V.neq (OV.p rfl) (OV.p rfl)) rfl ?_
  refine WL.nil ?_
  refine WC.cond rfl (fun hc0 => ?_) (fun hc0 => ?_)
  ·simp only [decide_eq_true_eq, decide_eq_false_iff_not, Bool.not_eq_true', Bool.not_eq_false'] at hc0
   have h0 := hc0
   have hd : Chip.done b (C.sem, e) = (C.sem, e) := by unfold Chip.done; rw [if_pos hc0]
   refine WC.sr ?_
   refine WL.mv rfl rfl ?_
   refine WL.sg rfl rfl ?_
   refine WL.nil ?_
   refine WC.ret ?_
   exact BodyQ.ret (H' := C.A bc :: F) (Res.tmp rfl rfl) (fun w h => h) ⟨C, hC, rfl, by rw [hd], by rw [hd]⟩
  ·simp only [decide_eq_true_eq, decide_eq_false_iff_not, Bool.not_eq_true', Bool.not_eq_false'] at hc0
   have h0 := hc0
   have hd : Chip.done b (C.sem, e) = if (C.sem.mark b).2 ≠ 0 then C.sem.mark b else ((C.sem.mark b).1, 72) := by unfold Chip.done; rw [if_neg (by simpa using hc0)]
   refine WC.skip ?_
   refine WC.seq ?_
   refine WC.sr ?_
   refine WL.mv rfl rfl ?_
   refine WL.mv rfl rfl ?_
   refine WL.callV (first := [ptr bc 0]) (vs := [_]) (captured := []) Tryz.call78 (OV.p rfl) ⟨OV.p rfl, trivial⟩ (chip_Mark hC b) rfl ?_
   rintro _ _ ⟨C1, hC1, rfl, s1, rfl⟩
   refine WL.sg rfl rfl ?_
   refine WL.nil ?_
   refine WC.sr ?_
   refine WL.mv rfl rfl ?_
   refine WL.val (V.neq (OV.p rfl) (OV.p rfl)) rfl ?_
   refine WL.nil ?_
   refine WC.cond rfl (fun hc1 => ?_) (fun hc1 => ?_)
   ·simp only [decide_eq_true_eq, decide_eq_false_iff_not, Bool.not_eq_true', Bool.not_eq_false'] at hc1
    rw [if_pos hc1] at hd
    refine WC.sr ?_
    refine WL.mv rfl rfl ?_
    refine WL.sg rfl rfl ?_
    refine WL.nil ?_
    refine WC.ret ?_
    exact BodyQ.ret (H' := C1.A bc :: F) (Res.tmp rfl rfl) (fun w h => h) ⟨C1, hC1, rfl, by rw [hd, s1], by rw [hd]⟩
   ·simp only [decide_eq_true_eq, decide_eq_false_iff_not, Bool.not_eq_true', Bool.not_eq_false'] at hc1
    rw [if_neg (by simpa using hc1)] at hd
    refine WC.skip ?_
    refine WC.sr ?_
    refine WL.mv rfl rfl ?_
    refine WL.sg rfl rfl ?_
    refine WL.nil ?_
    refine WC.ret ?_
    exact BodyQ.ret (H' := C1.A bc :: F) (Res.tmp rfl rfl) (fun w h => h) ⟨C1, hC1, rfl, by rw [hd, s1], by rw [hd, h0]⟩
theorem drive_Erase (hC : C.Ok) (b : Int) : Does Tryz.prog 61 #[ptr bd 0, .int .i64 b] K (C.A bc :: DvA bd bc C.g :: F)
    (fun v H' => ∃ C' : Cw, C'.Ok ∧ H' = C'.A bc :: DvA bd bc C.g :: F ∧ C'.sem = (C.sem.dErase b).1 ∧ v = .int .i64 (C.sem.dErase b).2) := by
  refine Does.enter Tryz.func61 rfl Tryz.ntmps61 rfl ?_
  simp only [env0, Nat.reduceAdd]
  refine WC.sr ?_
  refine WL.sg rfl rfl ?_
  refine WL.nil ?_
  refine WC.seq ?_
  refine WC.sr ?_
  refine WL.mv rfl rfl ?_
  refine WL.mv rfl rfl ?_
  refine WL.call (vs := [_, _, _, _]) Tryz.call74 ⟨OV.p rfl, OV.p rfl, OV.p rfl, OV.p rfl, trivial⟩ (drive_ahead b 0 true) rfl ?_
  rintro _ H0 ⟨rfl, h0⟩
  subst H0
  refine WL.sg rfl rfl ?_
  refine WL.nil ?_
  refine WC.sr ?_
  refine WL.mv rfl rfl ?_
  refine WL.val (V.neq (OV.p rfl) (OV.p rfl)) rfl ?_
  refine WL.nil ?_
  refine WC.cond rfl (fun hc0 => ?_) (fun hc0 => ?_)
  ·simp only [decide_eq_true_eq, decide_eq_false_iff_not, Bool.not_eq_true', Bool.not_eq_false'] at hc0
   have hd : C.sem.dErase b = (C.sem, C.sem.ahead b 0 true) := by unfold Chip.dErase; rw [if_pos hc0]
   refine WC.sr ?_
   refine WL.mv rfl rfl ?_
   refine WL.sg rfl rfl ?_
   refine WL.nil ?_
   refine WC.ret ?_
   exact BodyQ.ret (H' := C.A bc :: DvA bd bc C.g :: F) (Res.tmp rfl rfl) (fun w h => h) ⟨C, hC, rfl, by rw [hd], by rw [hd]⟩
  ·simp only [decide_eq_true_eq, decide_eq_false_iff_not, Bool.not_eq_true', Bool.not_eq_false'] at hc0
   have hd : C.sem.dErase b = Chip.done b (C.sem.erase b) := by unfold Chip.dErase; rw [if_neg (by simpa using hc0)]
   refine WC.skip ?_
   refine WC.seq ?_
   refine WC.regionA (DvA bd bc C.g :: F) (by kernel_rfl) ?_
   refine WA.t 0 rfl (V.move (OV.p rfl)) ?_
   refine WA.t 1 rfl (V.move (OV.p rfl)) ?_
   refine WA.t 2 rfl (V.nilCheck (OV.p rfl)) ?_
   refine WA.t 3 rfl (V.fieldAddr fo94_0 (OV.p rfl)) ?_
   refine WA.t 4 rfl (V.load Tryz.isAgg27 (OV.p rfl) (fun _ => by repeat (first | exact Rd.here rfl | apply Rd.up))) ?_
   refine WA.t 5 rfl (V.move (OV.p rfl)) ?_
   refine WA.t 7 rfl (V.move (OV.p rfl)) ?_
   refine WA.t 8 rfl (V.nilCheck (OV.p rfl)) ?_
   refine WA.t 9 rfl (V.fieldAddr fo94_0 (OV.p rfl)) ?_
   refine WA.t 10 rfl (V.load Tryz.isAgg27 (OV.p rfl) (fun _ => by repeat (first | exact Rd.here rfl | apply Rd.up))) ?_
   refine WA.t 11 rfl (V.makeFunc (us := [_]) (vs := []) ⟨OV.p rfl, trivial⟩ trivial) ?_
   refine WA.o 6 rfl ?_
   refine WL.call (vs := [_, _]) Tryz.call107 ⟨OV.p rfl, OV.p rfl, trivial⟩ (chip_Erase hC b) rfl ?_
   rintro _ _ ⟨C1, hC1, rfl, s1, rfl⟩
   refine WL.nil ?_
   refine WA.o 12 rfl ?_
   refine WL.call (vs := [_, _, _]) Tryz.call76 ⟨OV.p rfl, OV.p rfl, OV.p rfl, trivial⟩ (drive_do hC1 b _) rfl ?_
   rintro _ _ ⟨C2, hC2, rfl, s2, rfl⟩
   refine WL.nil ?_
   refine WA.t 13 rfl (V.assign (OV.p rfl)) ?_
   refine WA.fin ?_
   refine WC.ret ?_
   exact BodyQ.ret (H' := C2.A bc :: DvA bd bc C.g :: F) (Res.tmp rfl rfl) (fun w h => h) ⟨C2, hC2, rfl, by rw [hd, s2, s1], by rw [hd, s1]⟩
end
namespace Chip
def room (S : Chip) : Nat := S.g.se.toNat * S.g.sb.toNat
def packG (g : Geo) (d : List Nat) : List Nat := packF g.fl.toNat g.se.toNat g.sb.toNat d
def dWrite (S : Chip) (b p : Int) (d : List Nat) : Chip × Int :=
  if S.ahead b p (decide (d.length = S.room)) ≠ 0 then (S, S.ahead b p (decide (d.length = S.room))) else done b (S.program b p (intsOf (packG S.g d)))
structure Got where
  err : Int
  d : List Nat
  n : Nat
def rawN (S : Chip) (b p : Int) : List Nat := natsOf (S.reads b p)
def dRead (S : Chip) (b p : Int) : Got :=
  if S.ahead b p true ≠ 0 then ⟨S.ahead b p true, [], 0⟩
  else ⟨(readF S.g.fl.toNat S.g.se.toNat S.g.sb.toNat (S.rawN b p)).err, (readF S.g.fl.toNat S.g.se.toNat S.g.sb.toNat (S.rawN b p)).d, (readF S.g.fl.toNat S.g.se.toNat S.g.sb.toNat (S.rawN b p)).n⟩
def stateG (S : Chip) (b p : Int) : Nat := stateF S.g.fl.toNat S.g.se.toNat (S.g.sb.toNat + moreLen S.g.fl.toNat) (S.rawN b p)
def wholeTo (S : Chip) (b : Int) : Nat → Bool
  | 0 => true
  | k + 1 => wholeTo S b k && decide (S.stateG b (k : Nat) = 0)
def dWhole (S : Chip) (b n : Int) : Bool × Int :=
  if S.ahead b 0 (decide (0 ≤ n) && decide (n ≤ S.g.pg)) = 73 then (false, 0)
  else if S.ahead b 0 (decide (0 ≤ n) && decide (n ≤ S.g.pg)) ≠ 0 then (false, S.ahead b 0 (decide (0 ≤ n) && decide (n ≤ S.g.pg)))
  else (S.wholeTo b n.toNat, 0)
def goodTo (S : Chip) : Nat → List Int
  | 0 => []
  | k + 1 => if (S.up && !S.bad (k : Int)) = true then goodTo S k ++ [(k : Int)] else goodTo S k
def good (S : Chip) : List Int := S.goodTo S.g.bl.toNat
theorem goodTo_length (S : Chip) : ∀ k, (S.goodTo k).length ≤ k
  | 0 => Nat.le_refl _
  | k + 1 => by
    have := goodTo_length S k
    rw [goodTo]; split
    · rw [List.length_append]; simp; omega
    · omega
theorem ahead_zero {S : Chip} {b p : Int} {ok : Bool} (h : S.ahead b p ok = 0) : S.up = true ∧ (0 ≤ b ∧ b < S.g.bl ∧ 0 ≤ p ∧ p < S.g.pg) ∧ ok = true ∧ S.bad b = false := by
  unfold ahead at h
  split at h
  · cases h
  · rename_i h1
    split at h
    · cases h
    · rename_i h2
      split at h
      · cases h
      · rename_i h3
        cases hok : ok with
        | false => exact absurd (.inr (.inr (.inr (.inr hok)))) h2
        | true => exact ⟨by simpa using h1, by omega, rfl, by simpa using h3⟩
theorem read_zero {S : Chip} {b p : Int} {ok : Bool} (h : S.ahead b p ok = 0) : S.readErr b p = 0 := by
  obtain ⟨h1, h2, _, _⟩ := ahead_zero h
  unfold readErr page block
  rw [if_neg (by rw [h1]; decide), if_neg (by simp; omega)]
end Chip
theorem geo_nat {g : Geo} (h : g.mays) : g = NG g.bl g.pg g.se.toNat g.sb.toNat g.fl.toNat := by
  unfold Geo.mays at h
  obtain ⟨a, b, c, d, e⟩ := g
  dsimp only at h ⊢
  unfold NG
  congr 1 <;> omega
theorem Geo.raw_nat {g : Geo} (h : g.mays) : g.raw = ((rawN g.se.toNat g.sb.toNat g.fl.toNat : Nat) : Int) := by
  have h1 := NG.raw (bl := g.bl) (pg := g.pg) (S := g.se.toNat) (B := g.sb.toNat) (t := g.fl.toNat)
  rw [← geo_nat h] at h1
  exact h1
theorem Geo.room_nat {g : Geo} (h : g.mays) : g.room = ((g.se.toNat * g.sb.toNat : Nat) : Int) := by
  have h1 := NG.room (bl := g.bl) (pg := g.pg) (S := g.se.toNat) (B := g.sb.toNat) (t := g.fl.toNat)
  rw [← geo_nat h] at h1
  exact h1
section
variable {bc bd : Nat} {C : Cw} {K : World} {F : List Assn}
theorem ecc_PackG {g : Geo} {A : Option Addr} {m cap : Nat} {d : List Nat} (hg : g.mays) (hd : Seq K F A m 1 (nats .u8 d)) (h8 : Small 256 d) (hm : m = g.se.toNat * g.sb.toNat) (hmc : m ≤ cap) :
    Does Tryz.prog 75 #[g.v, .slice A m cap] K F
      (fun v H' => ∃ A' cap', v = .tuple #[.slice A' g.raw.toNat cap', .int .i64 0] ∧ H' = SlA (.slice A' g.raw.toNat cap') 5 1 g.raw.toNat (nats .u8 (Chip.packG g d)) :: F) := by
  have h := ecc_Pack (bl := g.bl) (pg := g.pg) (S := g.se.toNat) (B := g.sb.toNat) (t := g.fl.toNat) (by rw [← geo_nat hg]; exact hg) hd h8 hm hmc
  rw [← geo_nat hg] at h
  rw [Geo.raw_nat hg, Int.toNat_natCast]
  exact h
theorem ecc_ReadG {g : Geo} {A : Option Addr} {m cap : Nat} {raw : List Nat} (hg : g.mays) (hr : Seq K F A m 1 (nats .u8 raw)) (h8 : Small 256 raw) (hm : m = g.raw.toNat) (hmc : m ≤ cap) :
    Does Tryz.prog 70 #[g.v, .slice A m cap] K F
      (fun v H' => ∃ A' cap', v = .tuple #[.slice A' (readF g.fl.toNat g.se.toNat g.sb.toNat raw).d.length cap', .int .i64 ((readF g.fl.toNat g.se.toNat g.sb.toNat raw).n : Nat), .int .i64 ((readF g.fl.toNat g.se.toNat g.sb.toNat raw).err : Nat)] ∧
        H' = SlA (.slice A' (readF g.fl.toNat g.se.toNat g.sb.toNat raw).d.length cap') 5 1 (readF g.fl.toNat g.se.toNat g.sb.toNat raw).d.length (nats .u8 (readF g.fl.toNat g.se.toNat g.sb.toNat raw).d) :: F) := by
  have h := ecc_Read (bl := g.bl) (pg := g.pg) (S := g.se.toNat) (B := g.sb.toNat) (t := g.fl.toNat) (by rw [← geo_nat hg]; exact hg) hr h8 (by rw [hm, Geo.raw_nat hg, Int.toNat_natCast]) hmc
  rw [← geo_nat hg] at h
  exact h
theorem ecc_UnpackG {g : Geo} {A : Option Addr} {m cap : Nat} {raw : List Nat} (hg : g.mays) (hr : Seq K F A m 1 (nats .u8 raw)) (h8 : Small 256 raw) (hm : m = g.raw.toNat) (hmc : m ≤ cap) :
    Does Tryz.prog 87 #[g.v, .slice A m cap] K F
      (fun v H' => ∃ A' n' cap', v = .tuple #[.slice A' n' cap', .int .i64 (stateF g.fl.toNat g.se.toNat (g.sb.toNat + moreLen g.fl.toNat) raw : Nat)] ∧ H' = F) := by
  have h := ecc_Unpack (bl := g.bl) (pg := g.pg) (S := g.se.toNat) (B := g.sb.toNat) (t := g.fl.toNat) (by rw [← geo_nat hg]; exact hg) hr h8 (by rw [hm, Geo.raw_nat hg, Int.toNat_natCast]) hmc
  rw [← geo_nat hg] at h
  refine Does.post_ h (fun v H' hp => ?_)
  rcases hp with ⟨h1, rfl, rfl⟩ | ⟨h1, A', cap', l, rs, rfl, _, _, rfl⟩
  · exact ⟨H', fun w hw => hw, _, _, _, rfl, rfl⟩
  · exact ⟨F, fun w hw => hw.drop 2, A', _, cap', by rw [h1]; rfl, rfl⟩
theorem drive_Write (hC : C.Ok) (b p : Int) {A : Option Addr} {m cap : Nat} {d : List Nat} (hd : Seq K F A m 1 (nats .u8 d)) (h8 : Small 256 d) (hmc : m ≤ cap) (hm : m ≤ 1000000) :
    Does Tryz.prog 23 #[ptr bd 0, .int .i64 b, .int .i64 p, .slice A m cap] K (C.A bc :: DvA bd bc C.g :: F)
    (fun v H' => ∃ C' : Cw, C'.Ok ∧ H' = C'.A bc :: DvA bd bc C.g :: F ∧ C'.sem = (C.sem.dWrite b p d).1 ∧ v = .int .i64 (C.sem.dWrite b p d).2) := by
  have hl : d.length = m := by simpa [nats] using hd.len
  have hmay : C.g.may = true := decide_eq_true hC.mays
  refine Does.enter Tryz.func23 rfl Tryz.ntmps23 rfl ?_
  simp only [env0, Nat.reduceAdd]
  refine WC.sr ?_
  refine WL.sg rfl rfl ?_
  refine WL.nil ?_
  refine WC.sr ?_
  refine WL.mv rfl rfl ?_
  refine WL.call (vs := [_]) Tryz.call20 ⟨OV.p rfl, trivial⟩ (drive_Geometry) rfl ?_
  rintro _ H0 ⟨rfl, h0⟩
  subst H0
  refine WL.call (vs := [_]) Tryz.call73 ⟨OV.p rfl, trivial⟩ (Tells.eq (v' := .tuple #[.int .i64 C.g.room, .int .i64 0]) (ecc_Room C.g) (by rw [hmay]; rfl)) rfl ?_
  rintro _ H0 ⟨rfl, h0⟩
  subst H0
  refine WL.mv rfl rfl ?_
  refine WL.xt rfl rfl rfl ?_
  refine WL.xt rfl rfl rfl ?_
  refine WL.sg rfl rfl ?_
  refine WL.sg rfl rfl ?_
  refine WL.nil ?_
  refine WC.seq ?_
  refine WC.sr ?_
  refine WL.mv rfl rfl ?_
  refine WL.mv rfl rfl ?_
  refine WL.mv rfl rfl ?_
  refine WL.mv rfl rfl ?_
  refine WL.val (V.len (t := 38) Tryz.runUnderlying38 (OV.p rfl)) rfl ?_
  refine WL.mv rfl rfl ?_
  refine WL.val (V.val_eq (v' := .bool (decide (d.length = C.sem.room))) (V.eql (OV.p rfl) (OV.p rfl)) (fun _ => by rw [Geo.room_nat hC.mays, hl]; congr 1; apply decide_eq_decide.2; show ((m : Int) = ((C.g.se.toNat * C.g.sb.toNat : Nat) : Int)) ↔ m = C.g.se.toNat * C.g.sb.toNat; omega)) rfl ?_
  refine WL.call (vs := [_, _, _, _]) Tryz.call74 ⟨OV.p rfl, OV.p rfl, OV.p rfl, OV.p rfl, trivial⟩ (drive_ahead b p _) rfl ?_
  rintro _ H0 ⟨rfl, h0⟩
  subst H0
  refine WL.sg rfl rfl ?_
  refine WL.nil ?_
  refine WC.sr ?_
  refine WL.mv rfl rfl ?_
  refine WL.val (V.neq (OV.p rfl) (OV.p rfl)) rfl ?_
  refine WL.nil ?_
  refine WC.cond rfl (fun hc0 => ?_) (fun hc0 => ?_)
  ·simp only [decide_eq_true_eq, decide_eq_false_iff_not, Bool.not_eq_true', Bool.not_eq_false'] at hc0
   have h0 := hc0
   have hdw : C.sem.dWrite b p d = (C.sem, C.sem.ahead b p (decide (d.length = C.sem.room))) := by unfold Chip.dWrite; rw [if_pos hc0]
   refine WC.sr ?_
   refine WL.mv rfl rfl ?_
   refine WL.sg rfl rfl ?_
   refine WL.nil ?_
   refine WC.ret ?_
   exact BodyQ.ret (H' := C.A bc :: DvA bd bc C.g :: F) (Res.tmp rfl rfl) (fun w h => h) ⟨C, hC, rfl, by rw [hdw], by rw [hdw]⟩
  ·simp only [decide_eq_true_eq, decide_eq_false_iff_not, Bool.not_eq_true', Bool.not_eq_false'] at hc0
   have h0 := hc0
   have hdw : C.sem.dWrite b p d = Chip.done b (C.sem.program b p (intsOf (Chip.packG C.g d))) := by unfold Chip.dWrite; rw [if_neg (by simpa using hc0)]; rfl
   have hok := (Chip.ahead_zero hc0).2.2.1
   have hmr : m = C.g.se.toNat * C.g.sb.toNat := by rw [← hl]; exact of_decide_eq_true hok
   refine WC.skip ?_
   refine WC.sr ?_
   refine WL.mv rfl rfl ?_
   refine WL.nc rfl rfl ?_
   refine WL.val (V.fieldAddr fo94_1 (OV.p rfl)) rfl ?_
   refine WL.val (V.loadA (vs := [_, _, _, _, _]) ⟨Tryz.isAgg23, Tryz.sizeOf23⟩ (OV.p rfl) rfl (fun _ => by repeat (first | exact Rds.gets ⟨rfl, rfl, rfl, rfl, rfl, trivial⟩ | apply Rds.up))) rfl ?_
   refine WL.mv rfl rfl ?_
   refine WL.call (vs := [_, _]) Tryz.call75 ⟨OV.p rfl, OV.p rfl, trivial⟩ (ecc_PackG hC.mays hd.up.up h8 hmr hmc) rfl ?_
   rintro _ _ ⟨Ap, cp, rfl, rfl⟩
   refine WL.sub (Sub.refl _) (fun w h => h.p1) ?_
   refine WL.have_ (fun w h => (SlA.shape h.p1.head)) (fun ⟨Aq, cq, hq, hq2, _⟩ => ?_)
   have hcp : C.g.raw.toNat ≤ cp := by injection hq with q1 q2 q3; omega
   have hN := NGood.of (bl := C.g.bl) (pg := C.g.pg) (by rw [← geo_nat hC.mays]; exact hC.mays)
   have hpl : (Chip.packG C.g d).length = C.g.raw.toNat := by
     unfold Chip.packG
     rw [packF_length hN.t h8 (hl.trans hmr), Geo.raw_nat hC.mays, Int.toNat_natCast]
   have hps : Small 256 (Chip.packG C.g d) := packF_small hN.t h8
   refine WL.mv rfl rfl ?_
   refine WL.xt rfl rfl rfl ?_
   refine WL.xt rfl rfl rfl ?_
   refine WL.sg rfl rfl ?_
   refine WL.sg rfl rfl ?_
   refine WL.nil ?_
   refine WC.seq ?_
   refine WC.regionA (SlA (.slice Ap C.g.raw.toNat cp) 5 1 C.g.raw.toNat (nats .u8 (Chip.packG C.g d)) :: DvA bd bc C.g :: F) (by kernel_rfl) ?_
   refine WA.t 0 rfl (V.move (OV.p rfl)) ?_
   refine WA.t 1 rfl (V.move (OV.p rfl)) ?_
   refine WA.t 2 rfl (V.nilCheck (OV.p rfl)) ?_
   refine WA.t 3 rfl (V.fieldAddr fo94_0 (OV.p rfl)) ?_
   refine WA.t 4 rfl (V.load Tryz.isAgg27 (OV.p rfl) (fun _ => by repeat (first | exact Rd.here rfl | apply Rd.up))) ?_
   refine WA.t 5 rfl (V.move (OV.p rfl)) ?_
   refine WA.t 6 rfl (V.move (OV.p rfl)) ?_
   refine WA.t 7 rfl (V.move (OV.p rfl)) ?_
   refine WA.t 9 rfl (V.move (OV.p rfl)) ?_
   refine WA.t 10 rfl (V.nilCheck (OV.p rfl)) ?_
   refine WA.t 11 rfl (V.fieldAddr fo94_0 (OV.p rfl)) ?_
   refine WA.t 12 rfl (V.load Tryz.isAgg27 (OV.p rfl) (fun _ => by repeat (first | exact Rd.here rfl | apply Rd.up))) ?_
   refine WA.t 13 rfl (V.makeFunc (us := [_]) (vs := []) ⟨OV.p rfl, trivial⟩ trivial) ?_
   refine WA.o 8 rfl ?_
   refine WL.call (vs := [_, _, _, _]) Tryz.call77 ⟨OV.p rfl, OV.p rfl, OV.p rfl, OV.p rfl, trivial⟩ (chip_Program hC b p (intsOf_bytes hps) (by rw [← nats_intsOf]; exact SlA.seq (by rw [nats_length, hpl, Nat.mul_one])) hcp) rfl ?_
   rintro _ _ ⟨C1, hC1, rfl, s1, rfl⟩
   refine WL.nil ?_
   refine WA.o 14 rfl ?_
   refine WL.call (vs := [_, _, _]) Tryz.call76 ⟨OV.p rfl, OV.p rfl, OV.p rfl, trivial⟩ (drive_do hC1 b _) rfl ?_
   rintro _ _ ⟨C2, hC2, rfl, s2, rfl⟩
   refine WL.nil ?_
   refine WA.t 15 rfl (V.assign (OV.p rfl)) ?_
   refine WA.fin ?_
   refine WC.ret ?_
   exact BodyQ.ret (H' := C2.A bc :: DvA bd bc C.g :: F) (Res.tmp rfl rfl) (fun w h => h.sel 2 [0] rfl) ⟨C2, hC2, rfl, by rw [hdw, s2, s1], by rw [hdw, s1]⟩
end
end Go.Proofs.YtohkefolnmcjnaaGreat
namespace Go.Proofs.YtohkefolnmcjnaaGreat
open Go.Sl Go.RowKit
set_option linter.unusedVariables false
set_option linter.unusedSimpArgs false
set_option maxRecDepth 20000
theorem Cw.Ok.reads_isb {C : Cw} (hC : C.Ok) (b p : Int) : IsBytes (C.sem.reads b p) := by
  have hr := Geo.raw_bd hC.mays
  have hl := hC.reads_len b p
  unfold Chip.reads at hl ⊢
  rw [turn_length] at hl
  refine turn_isb (hC.base_isb b p) (fun i hi => ?_)
  obtain ⟨A, c, l, h1, h2, h3, h4, h5⟩ := hC.wrong_at b p
  rw [← h4] at hi
  have := h3 i hi
  rw [hl]; omega
theorem Cw.Ok.rawN_facts {C : Cw} (hC : C.Ok) (b p : Int) : ints .u8 (C.sem.reads b p) = nats .u8 (C.sem.rawN b p) ∧ Small 256 (C.sem.rawN b p) ∧ (C.sem.rawN b p).length = C.g.raw.toNat := by
  have h := hC.reads_isb b p
  exact ⟨ints_natsOf h, natsOf_small h, by unfold Chip.rawN; rw [natsOf_length, hC.reads_len]⟩
section
variable {bc bd : Nat} {C : Cw} {K : World} {F : List Assn}
theorem drive_Read (hC : C.Ok) (b p : Int) : Does Tryz.prog 26 #[ptr bd 0, .int .i64 b, .int .i64 p] K (C.A bc :: DvA bd bc C.g :: F)
    (fun v H' => ∃ A' c', v = .tuple #[.slice A' (C.sem.dRead b p).d.length c', .int .i64 ((C.sem.dRead b p).n : Nat), .int .i64 (C.sem.dRead b p).err] ∧
      H' = SlA (.slice A' (C.sem.dRead b p).d.length c') 5 1 (C.sem.dRead b p).d.length (nats .u8 (C.sem.dRead b p).d) :: C.A bc :: DvA bd bc C.g :: F) := by
  obtain ⟨G, hG⟩ : ∃ G, G = C.sem.dRead b p := ⟨_, rfl⟩
  rw [← hG]
  obtain ⟨r1, r2, r3⟩ := hC.rawN_facts b p
  have hrb := Geo.raw_bd hC.mays
  refine Does.enter Tryz.func26 rfl Tryz.ntmps26 rfl ?_
  simp only [env0, Nat.reduceAdd]
  refine WC.sr ?_
  refine WL.sg rfl rfl ?_
  refine WL.sg rfl rfl ?_
  refine WL.sg rfl rfl ?_
  refine WL.nil ?_
  refine WC.seq ?_
  refine WC.sr ?_
  refine WL.mv rfl rfl ?_
  refine WL.mv rfl rfl ?_
  refine WL.mv rfl rfl ?_
  refine WL.call (vs := [_, _, _, _]) Tryz.call74 ⟨OV.p rfl, OV.p rfl, OV.p rfl, OV.p rfl, trivial⟩ (drive_ahead b p true) rfl ?_
  rintro _ H0 ⟨rfl, h0⟩
  subst H0
  refine WL.sg rfl rfl ?_
  refine WL.nil ?_
  refine WC.sr ?_
  refine WL.mv rfl rfl ?_
  refine WL.val (V.neq (OV.p rfl) (OV.p rfl)) rfl ?_
  refine WL.nil ?_
  refine WC.cond rfl (fun hc0 => ?_) (fun hc0 => ?_)
  ·simp only [decide_eq_true_eq, decide_eq_false_iff_not, Bool.not_eq_true', Bool.not_eq_false'] at hc0
   have h0 := hc0
   have hG2 : G = ⟨C.sem.ahead b p true, [], 0⟩ := by rw [hG]; unfold Chip.dRead; rw [if_pos h0]
   refine WC.sr ?_
   refine WL.mv rfl rfl ?_
   refine WL.sg rfl rfl ?_
   refine WL.sg rfl rfl ?_
   refine WL.sg rfl rfl ?_
   refine WL.nil ?_
   refine WC.ret ?_
   exact BodyQ.ret (H' := SlA (.slice none 0 0) 5 1 0 [] :: C.A bc :: DvA bd bc C.g :: F) (Res.tmp3 rfl rfl rfl rfl) (fun w h => Sat.slNil h _ _) ⟨none, 0, by rw [hG2]; rfl, by rw [hG2]; rfl⟩
  ·simp only [decide_eq_true_eq, decide_eq_false_iff_not, Bool.not_eq_true', Bool.not_eq_false'] at hc0
   have h0 := hc0
   have h0 : C.sem.ahead b p true = 0 := by simpa using h0
   have hG2 : G = ⟨(readF C.g.fl.toNat C.g.se.toNat C.g.sb.toNat (C.sem.rawN b p)).err, (readF C.g.fl.toNat C.g.se.toNat C.g.sb.toNat (C.sem.rawN b p)).d, (readF C.g.fl.toNat C.g.se.toNat C.g.sb.toNat (C.sem.rawN b p)).n⟩ := by rw [hG]; unfold Chip.dRead; rw [if_neg (by rw [h0]; decide)]; rfl
   refine WC.skip ?_
   refine WC.sr ?_
   refine WL.mv rfl rfl ?_
   refine WL.nc rfl rfl ?_
   refine WL.val (V.fieldAddr fo94_0 (OV.p rfl)) rfl ?_
   refine WL.ld Tryz.isAgg27 rfl rfl ?_
   refine WL.mv rfl rfl ?_
   refine WL.mv rfl rfl ?_
   refine WL.call (vs := [_, _, _]) Tryz.call86 ⟨OV.p rfl, OV.p rfl, OV.p rfl, trivial⟩ (chip_Read hC b p) rfl ?_
   rintro _ _ (⟨_, bo, rfl, rfl⟩ | ⟨hno, rfl, rfl⟩)
   rotate_left
   · exact (hno (Chip.read_zero h0)).elim
   rw [r1]
   refine WL.mv rfl rfl ?_
   refine WL.xt rfl rfl rfl ?_
   refine WL.xt rfl rfl rfl ?_
   refine WL.sg rfl rfl ?_
   refine WL.sg rfl rfl ?_
   refine WL.nil ?_
   refine WC.seq ?_
   refine WC.sr ?_
   refine WL.mv rfl rfl ?_
   refine WL.val (V.neq (OV.p rfl) (OV.p rfl)) rfl ?_
   refine WL.nil ?_
   refine WC.condF' rfl (by first | rfl | (simp; done) | (simp; omega)) ?_
   refine WC.skip ?_
   refine WC.sr ?_
   refine WL.mv rfl rfl ?_
   refine WL.nc rfl rfl ?_
   refine WL.val (V.fieldAddr fo94_1 (OV.p rfl)) rfl ?_
   refine WL.val (V.loadA (vs := [_, _, _, _, _]) ⟨Tryz.isAgg23, Tryz.sizeOf23⟩ (OV.p rfl) rfl (fun _ => by repeat (first | exact Rds.gets ⟨rfl, rfl, rfl, rfl, rfl, trivial⟩ | apply Rds.up))) rfl ?_
   refine WL.mv rfl rfl ?_
   refine WL.call (vs := [_, _]) Tryz.call70 ⟨OV.p rfl, OV.p rfl, trivial⟩ (ecc_ReadG hC.mays (Seq.allN r3) r2 rfl (Nat.le_refl _)) rfl ?_
   rintro _ _ ⟨A', c', rfl, rfl⟩
   refine WL.xt rfl rfl rfl ?_
   refine WL.xt rfl rfl rfl ?_
   refine WL.xt rfl rfl rfl ?_
   refine WL.sg rfl rfl ?_
   refine WL.sg rfl rfl ?_
   refine WL.sg rfl rfl ?_
   refine WL.nil ?_
   refine WC.ret ?_
   refine BodyQ.ret (H' := SlA (.slice A' G.d.length c') 5 1 G.d.length (nats .u8 G.d) :: C.A bc :: DvA bd bc C.g :: F) (Res.tmp3 rfl rfl rfl rfl) (fun w h => ?_) ⟨A', c', by rw [hG2], rfl⟩
   rw [hG2]
   exact h.sel 2 [0] rfl
theorem drive_Whole (hC : C.Ok) (b n : Int) (hn : -9223372036854775808 ≤ n ∧ n ≤ 9223372036854775807) : Tells Tryz.prog 27 #[ptr bd 0, .int .i64 b, .int .i64 n] K (C.A bc :: DvA bd bc C.g :: F) (.tuple #[.bool (C.sem.dWhole b n).1, .int .i64 (C.sem.dWhole b n).2]) := by
  have hrb := Geo.raw_bd hC.mays
  have hpg := hC.mays
  unfold Geo.mays at hpg
  refine Does.enter Tryz.func27 rfl Tryz.ntmps27 rfl ?_
  simp only [env0, Nat.reduceAdd]
  refine WC.sr ?_
  refine WL.sg rfl rfl ?_
  refine WL.sg rfl rfl ?_
  refine WL.nil ?_
  refine WC.sr ?_
  refine WL.mv rfl rfl ?_
  refine WL.mv rfl rfl ?_
  refine WL.mv rfl rfl ?_
  refine WL.val (V.geq (OV.p rfl) (OV.p rfl)) rfl ?_
  refine WL.mv rfl rfl ?_
  refine WL.valG (oj := _) rfl rfl rfl GC.t (V.move (OV.p rfl)) rfl ?_
  refine WL.valG (oj := _) rfl rfl rfl GC.t (V.move (OV.p rfl)) rfl ?_
  refine WL.callG (oj := _) (vs := [_]) rfl rfl rfl GC.t Tryz.call20 ⟨OV.g rfl id, trivial⟩ (fun hg => drive_Geometry) rfl ?_
  refine WL.valG (oj := _) rfl rfl rfl GC.t (V.field (OV.g rfl id) (fld23_1 _ _ _ _ _)) rfl ?_
  refine WL.valG (oj := _) rfl rfl rfl GC.t (V.leq (OV.g rfl id) (OV.g rfl id)) rfl ?_
  refine WL.val (V.pickAnd (OV.p rfl) (OV.g rfl id)) rfl ?_
  refine WL.call (vs := [_, _, _, _]) Tryz.call74 ⟨OV.p rfl, OV.p rfl, OV.p rfl, OV.p rfl, trivial⟩ (drive_ahead b 0 _) rfl ?_
  rintro _ H0 ⟨rfl, h0⟩
  subst H0
  refine WL.sg rfl rfl ?_
  refine WL.nil ?_
  refine WC.seq ?_
  refine WC.seq ?_
  obtain ⟨e, he⟩ : ∃ e, e = C.sem.ahead b 0 (decide (0 ≤ n) && decide (n ≤ C.g.pg)) := ⟨_, rfl⟩
  rw [← he]
  have hW : C.sem.dWhole b n = if e = 73 then (false, 0) else if e ≠ 0 then (false, e) else (C.sem.wholeTo b n.toNat, 0) := by unfold Chip.dWhole; rw [he]; rfl
  rw [hW]
  refine WC.region ?_
  refine WL.mv rfl rfl ?_
  refine WL.val (V.eql (OV.p rfl) (OV.p rfl)) rfl ?_
  refine WL.nil ?_
  refine WC.cond rfl (fun hc0 => ?_) (fun hc0 => ?_)
  ·simp only [decide_eq_true_eq, decide_eq_false_iff_not, Bool.not_eq_true', Bool.not_eq_false'] at hc0
   rw [if_pos hc0]
   refine WC.sr ?_
   refine WL.sg rfl rfl ?_
   refine WL.sg rfl rfl ?_
   refine WL.nil ?_
   refine WC.ret ?_
   exact BodyQ.ret (H' := C.A bc :: DvA bd bc C.g :: F) (Res.tmp2 rfl rfl rfl) (fun w h => h) ⟨rfl, rfl⟩
  ·simp only [decide_eq_true_eq, decide_eq_false_iff_not, Bool.not_eq_true', Bool.not_eq_false'] at hc0
   rw [if_neg hc0]
   refine WC.skip ?_
   refine WC.seq ?_
   refine WC.sr ?_
   refine WL.mv rfl rfl ?_
   refine WL.val (V.neq (OV.p rfl) (OV.p rfl)) rfl ?_
   refine WL.nil ?_
   refine WC.cond rfl (fun hc1 => ?_) (fun hc1 => ?_)
   ·simp only [decide_eq_true_eq, decide_eq_false_iff_not, Bool.not_eq_true', Bool.not_eq_false'] at hc1
    rw [if_pos hc1]
    refine WC.sr ?_
    refine WL.mv rfl rfl ?_
    refine WL.sg rfl rfl ?_
    refine WL.sg rfl rfl ?_
    refine WL.nil ?_
    refine WC.ret ?_
    exact BodyQ.ret (H' := C.A bc :: DvA bd bc C.g :: F) (Res.tmp2 rfl rfl rfl) (fun w h => h) ⟨rfl, rfl⟩
   ·simp only [decide_eq_true_eq, decide_eq_false_iff_not, Bool.not_eq_true', Bool.not_eq_false'] at hc1
    have he0 : e = 0 := by simpa using hc1
    rw [if_neg (by rw [he0]; decide)]
    obtain ⟨q1, q2, q3, q4⟩ := Chip.ahead_zero (he ▸ he0 : C.sem.ahead b 0 (decide (0 ≤ n) && decide (n ≤ C.g.pg)) = 0)
    simp only [Bool.and_eq_true, decide_eq_true_eq] at q3
    obtain ⟨k, hk⟩ : ∃ k : Nat, n = (k : Int) := ⟨n.toNat, by omega⟩
    subst hk
    rw [Int.toNat_natCast]
    refine WC.skip ?_
    refine WC.seq ?_
    refine WC.sr ?_
    refine WL.mv rfl rfl ?_
    refine WL.mv rfl rfl ?_
    refine WL.nil ?_
    refine WC.block ?_
    refine WC.loop (σ := Nat) (fun j => [(0, ptr bd 0), (1, .int .i64 b), (31, .int .i64 (k : Int)), (32, .int .i64 (j : Int))]) (fun _ => C.A bc :: DvA bd bc C.g :: F) (fun j => j ≤ k ∧ C.sem.wholeTo b j = true) (fun j => k - j) 0 ⟨Nat.zero_le _, rfl⟩ (.cons rfl (.cons rfl (.cons rfl (.cons rfl (.nil _))))) (fun w h => h) ?_
    rintro j ⟨hj, hjw⟩
    refine WC.sr ?_
    refine WL.val (V.lss (OV.p rfl) (OV.p rfl)) rfl ?_
    refine WL.nil ?_
    refine WC.seq ?_
    refine WC.cond rfl (fun hc2 => ?_) (fun hc2 => ?_)
    ·simp only [decide_eq_true_eq, decide_eq_false_iff_not] at hc2
     refine WC.skip ?_
     refine WC.seq ?_
     refine WC.block ?_
     refine WC.sr ?_
     refine WL.mv rfl rfl ?_
     refine WL.sg rfl rfl ?_
     refine WL.nil ?_
     refine WC.seq ?_
     have hjk : j < k := by omega
     obtain ⟨r1, r2, r3⟩ := hC.rawN_facts b (j : Int)
     have hre : C.sem.readErr b (j : Int) = 0 := by
       unfold Chip.readErr Chip.page Chip.block
       rw [if_neg (by rw [q1]; decide), if_neg]
       have e1 : C.sem.g = C.g := rfl
       simp only [e1] at q2 ⊢
       simp; omega
     refine WC.region ?_
     refine WL.mv rfl rfl ?_
     refine WL.nc rfl rfl ?_
     refine WL.val (V.fieldAddr fo94_0 (OV.p rfl)) rfl ?_
     refine WL.ld Tryz.isAgg27 rfl rfl ?_
     refine WL.mv rfl rfl ?_
     refine WL.mv rfl rfl ?_
     refine WL.call (vs := [_, _, _]) Tryz.call86 ⟨OV.p rfl, OV.p rfl, OV.p rfl, trivial⟩ (chip_Read hC b (j : Int)) rfl ?_
     rintro _ _ (⟨_, bo, rfl, rfl⟩ | ⟨hno, rfl, rfl⟩)
     rotate_left
     · exact (hno hre).elim
     rw [r1]
     refine WL.mv rfl rfl ?_
     refine WL.xt rfl rfl rfl ?_
     refine WL.xt rfl rfl rfl ?_
     refine WL.sg rfl rfl ?_
     refine WL.sg rfl rfl ?_
     refine WL.nil ?_
     refine WC.sr ?_
     refine WL.mv rfl rfl ?_
     refine WL.nc rfl rfl ?_
     refine WL.val (V.fieldAddr fo94_1 (OV.p rfl)) rfl ?_
     refine WL.val (V.loadA (vs := [_, _, _, _, _]) ⟨Tryz.isAgg23, Tryz.sizeOf23⟩ (OV.p rfl) rfl (fun _ => by repeat (first | exact Rds.gets ⟨rfl, rfl, rfl, rfl, rfl, trivial⟩ | apply Rds.up))) rfl ?_
     refine WL.mv rfl rfl ?_
     refine WL.call (vs := [_, _]) Tryz.call87 ⟨OV.p rfl, OV.p rfl, trivial⟩ (ecc_UnpackG hC.mays (Seq.allN r3) r2 rfl (Nat.le_refl _)) rfl ?_
     rintro _ _ ⟨A', n', c', rfl, rfl⟩
     refine WL.mv rfl rfl ?_
     refine WL.xt rfl rfl rfl ?_
     refine WL.xt rfl rfl rfl ?_
     refine WL.sg rfl rfl ?_
     refine WL.sg rfl rfl ?_
     refine WL.nil ?_
     refine WC.sr ?_
     refine WL.mv rfl rfl ?_
     refine WL.val (V.neq (OV.p rfl) (OV.p rfl)) rfl ?_
     refine WL.nil ?_
     refine WC.cond rfl (fun hc3 => ?_) (fun hc3 => ?_)
     ·simp only [decide_eq_true_eq, decide_eq_false_iff_not, Bool.not_eq_true', Bool.not_eq_false'] at hc3
      have hst : decide (C.sem.stateG b (j : Nat) = 0) = false := decide_eq_false (by intro h; exact hc3 (by show ((C.sem.stateG b (j : Nat) : Nat) : Int) = 0; rw [h]; rfl))
      refine WC.sr ?_
      refine WL.sg rfl rfl ?_
      refine WL.sg rfl rfl ?_
      refine WL.nil ?_
      refine WC.ret ?_
      refine BodyQ.ret (H' := C.A bc :: DvA bd bc C.g :: F) (Res.tmp2 rfl rfl rfl) (fun w h => h.drop 1) ⟨?_, rfl⟩
      have hno : ∀ i, j < i → C.sem.wholeTo b i = false := fun i hi => by
        induction i with
        | zero => omega
        | succ i ih =>
          rw [Chip.wholeTo]
          rcases Nat.lt_or_ge j i with h | h
          · rw [ih h]; rfl
          · obtain rfl : j = i := by omega
            rw [hst, Bool.and_false]
      rw [hno k hjk]
     ·simp only [decide_eq_true_eq, decide_eq_false_iff_not, Bool.not_eq_true', Bool.not_eq_false'] at hc3
      have hst : decide (C.sem.stateG b (j : Nat) = 0) = true := decide_eq_true (by have h9 := hc3; simp at h9; exact h9)
      refine WC.skip ?_
      refine WC.region ?_
      refine WL.ad rfl rfl rfl ?_
      refine WL.mv rfl rfl ?_
      refine WL.nil ?_
      refine ⟨rfl, ?_⟩
      exact ⟨j + 1, ⟨by omega, by rw [Chip.wholeTo, hjw, hst]; rfl⟩, (by show k - (j + 1) < k - j; omega), .cons rfl (.cons rfl (.cons rfl (.cons (look_eq rfl (by simp)) (.nil _)))), fun w h => h.drop 1⟩
    ·simp only [decide_eq_true_eq, decide_eq_false_iff_not] at hc2
     refine WC.exit ?_
     refine WC.sr ?_
     refine WL.sg rfl rfl ?_
     refine WL.sg rfl rfl ?_
     refine WL.nil ?_
     refine WC.ret ?_
     obtain rfl : j = k := by omega
     exact BodyQ.ret (H' := C.A bc :: DvA bd bc C.g :: F) (Res.tmp2 rfl rfl rfl) (fun w h => h) ⟨by rw [hjw], rfl⟩
theorem drive_Good (hC : C.Ok) : Does Tryz.prog 18 #[ptr bd 0] K (C.A bc :: DvA bd bc C.g :: F)
    (fun v H' => ∃ A' c', v = .slice A' C.sem.good.length c' ∧ H' = SlA (.slice A' C.sem.good.length c') 3 1 C.sem.good.length (ints .i64 C.sem.good) :: C.A bc :: DvA bd bc C.g :: F) := by
  have hbl := hC.mays
  unfold Geo.mays at hbl
  obtain ⟨n, hn⟩ : ∃ n : Nat, C.g.bl = (n : Int) := ⟨C.g.bl.toNat, by omega⟩
  have hgd : C.sem.good = C.sem.goodTo n := by unfold Chip.good; rw [show C.sem.g.bl = (n : Int) from hn, Int.toNat_natCast]
  rw [hgd]
  refine Does.enter Tryz.func18 rfl Tryz.ntmps18 rfl ?_
  simp only [env0, Nat.reduceAdd]
  refine WC.sr ?_
  refine WL.sg rfl rfl ?_
  refine WL.nil ?_
  refine WC.sr ?_
  refine WL.sg rfl rfl ?_
  refine WL.nil ?_
  refine WC.seq ?_
  refine WC.sr ?_
  refine WL.mv rfl rfl ?_
  refine WL.call (vs := [_]) Tryz.call20 ⟨OV.p rfl, trivial⟩ (drive_Geometry) rfl ?_
  rintro _ H0 ⟨rfl, h0⟩
  subst H0
  refine WL.val (V.field (OV.p rfl) (fld23_0 _ _ _ _ _)) rfl ?_
  refine WL.mv rfl rfl ?_
  refine WL.nil ?_
  refine WC.block ?_
  refine WC.loop (σ := Nat × Option Addr × Nat) (fun x => [(0, ptr bd 0), (3, .slice x.2.1 (C.sem.goodTo x.1).length x.2.2), (7, .int .i64 C.g.bl), (8, .int .i64 (x.1 : Int))]) (fun x => C.A bc :: SlA (.slice x.2.1 (C.sem.goodTo x.1).length x.2.2) 3 1 (C.sem.goodTo x.1).length (ints .i64 (C.sem.goodTo x.1)) :: DvA bd bc C.g :: F) (fun x => x.1 ≤ n) (fun x => n - x.1) (0, none, 0) (Nat.zero_le _) (.cons rfl (.cons rfl (.cons rfl (.cons rfl (.nil _))))) (fun w h => (Sat.slNil h 3 1).p1) ?_
  rintro ⟨k, Ao, co⟩ hk
  dsimp only at hk ⊢
  have hkl := C.sem.goodTo_length k
  refine WC.sr ?_
  refine WL.val (V.lss (OV.p rfl) (OV.p rfl)) rfl ?_
  refine WL.nil ?_
  refine WC.seq ?_
  refine WC.cond rfl (fun hc0 => ?_) (fun hc0 => ?_)
  ·simp only [decide_eq_true_eq, decide_eq_false_iff_not] at hc0
   refine WC.skip ?_
   refine WC.seq ?_
   refine WC.block ?_
   refine WC.sr ?_
   refine WL.mv rfl rfl ?_
   refine WL.sg rfl rfl ?_
   refine WL.nil ?_
   refine WC.sr ?_
   refine WL.mv rfl rfl ?_
   refine WL.nc rfl rfl ?_
   refine WL.val (V.fieldAddr fo94_0 (OV.p rfl)) rfl ?_
   refine WL.ld Tryz.isAgg27 rfl rfl ?_
   refine WL.call (vs := [_]) Tryz.call71 ⟨OV.p rfl, trivial⟩ (chip_Up) rfl ?_
   rintro _ H0 ⟨rfl, h0⟩
   subst H0
   refine WL.mv rfl rfl ?_
   refine WL.valG (oj := _) rfl rfl rfl GC.t (V.move (OV.p rfl)) rfl ?_
   refine WL.valG (oj := _) rfl rfl rfl GC.t (V.nilCheck (OV.g rfl id)) rfl ?_
   refine WL.valG (oj := _) rfl rfl rfl GC.t (V.fieldAddr fo94_0 (OV.g rfl id)) rfl ?_
   refine WL.valG (oj := _) rfl rfl rfl GC.t (V.load Tryz.isAgg27 (OV.g rfl id) (fun _ => by repeat (first | exact Rd.here rfl | apply Rd.up))) rfl ?_
   refine WL.valG (oj := _) rfl rfl rfl GC.t (V.move (OV.p rfl)) rfl ?_
   refine WL.callG (oj := _) (vs := [_, _]) rfl rfl rfl GC.t Tryz.call48 ⟨OV.g rfl id, OV.g rfl id, trivial⟩ (fun hg => chip_Bad (k : Int)) rfl ?_
   refine WL.valG (oj := _) rfl rfl rfl GC.t (V.not (OV.g rfl id)) rfl ?_
   refine WL.val (V.pickAnd (OV.p rfl) (OV.g rfl id)) rfl ?_
   refine WL.nil ?_
   refine WC.cond rfl (fun hc1 => ?_) (fun hc1 => ?_)
   ·skip
    have h1 := hc1
    have hgk : C.sem.goodTo (k + 1) = C.sem.goodTo k ++ [(k : Int)] := by rw [Chip.goodTo, if_pos (show (C.sem.up && !C.sem.bad (k : Int)) = true from h1)]
    refine WC.region ?_
    refine WL.mv rfl rfl ?_
    refine WL.mv rfl rfl ?_
    refine WL.buildSlice (E := 3) (cs := [_]) (vs := [(0, _)]) ⟨OV.p rfl, trivial⟩ rfl (bsl42_1_0 _) rfl (fun b27 => ?_)
    refine WL.sub (Sub.refl _) (fun w h => h.sel 4 [2, 0, 1, 3] rfl) ?_
    refine WL.append (m := (C.sem.goodTo k).length) (q := 1) (news := [.int .i64 (k : Int)]) Tryz.underlying42 el3 (OV.p rfl) (OV.p rfl) (Seq.all rfl) (by intro u hu; rw [List.mem_singleton.1 hu]; rfl) (by omega) rfl rfl (fun A' c' hA' hc' => ?_)
    refine WL.sg rfl rfl ?_
    refine WL.nil ?_
    refine WC.region ?_
    refine WL.ad rfl rfl rfl ?_
    refine WL.mv rfl rfl ?_
    refine WL.nil ?_
    refine ⟨rfl, ?_⟩
    first
    | exact ⟨(k + 1, A', c'), (by show k + 1 ≤ n; omega), (by show n - (k + 1) < n - k; omega), .cons rfl (.cons (look_eq rfl (by dsimp only; rw [hgk, List.length_append]; rfl)) (.cons rfl (.cons (look_eq rfl (by simp)) (.nil _)))), fun w h => by
        dsimp only
        rw [hgk, List.length_append, ints_append]
        exact h.sel 4 [2, 0, 3] rfl⟩
    | exact ⟨(k + 1, Ao, co), (by show k + 1 ≤ n; omega), (by show n - (k + 1) < n - k; omega), .cons rfl (.cons (look_eq rfl (by dsimp only; rw [hgk])) (.cons rfl (.cons (look_eq rfl (by simp)) (.nil _)))), fun w h => by
        dsimp only
        rw [hgk]
        exact h⟩
   ·skip
    have h1 := hc1
    have hgk : C.sem.goodTo (k + 1) = C.sem.goodTo k := by rw [Chip.goodTo, if_neg (by rw [show (C.sem.up && !C.sem.bad (k : Int)) = false from h1]; decide)]
    refine WC.skip ?_
    refine WC.region ?_
    refine WL.ad rfl rfl rfl ?_
    refine WL.mv rfl rfl ?_
    refine WL.nil ?_
    refine ⟨rfl, ?_⟩
    first
    | exact ⟨(k + 1, A', c'), (by show k + 1 ≤ n; omega), (by show n - (k + 1) < n - k; omega), .cons rfl (.cons (look_eq rfl (by dsimp only; rw [hgk, List.length_append]; rfl)) (.cons rfl (.cons (look_eq rfl (by simp)) (.nil _)))), fun w h => by
        dsimp only
        rw [hgk, List.length_append, ints_append]
        exact h.sel 4 [2, 0, 3] rfl⟩
    | exact ⟨(k + 1, Ao, co), (by show k + 1 ≤ n; omega), (by show n - (k + 1) < n - k; omega), .cons rfl (.cons (look_eq rfl (by dsimp only; rw [hgk])) (.cons rfl (.cons (look_eq rfl (by simp)) (.nil _)))), fun w h => by
        dsimp only
        rw [hgk]
        exact h⟩
  ·simp only [decide_eq_true_eq, decide_eq_false_iff_not] at hc0
   refine WC.exit ?_
   refine WC.sr ?_
   refine WL.mv rfl rfl ?_
   refine WL.sg rfl rfl ?_
   refine WL.nil ?_
   refine WC.ret ?_
   obtain rfl : k = n := by omega
   exact BodyQ.ret (H' := SlA (.slice Ao (C.sem.goodTo k).length co) 3 1 (C.sem.goodTo k).length (ints .i64 (C.sem.goodTo k)) :: C.A bc :: DvA bd bc C.g :: F) (Res.tmp rfl rfl) (fun w h => h.p1) ⟨Ao, co, rfl, rfl⟩
end
end Go.Proofs.YtohkefolnmcjnaaGreat
namespace Go.Proofs.YtohkefolnmcjnaaGreat
open Go.Sl Go.RowKit
set_option linter.unusedVariables false
set_option linter.unusedSimpArgs false
set_option maxRecDepth 20000
theorem nodup_le : ∀ {l m : List Nat}, l.Nodup → (∀ x ∈ l, x ∈ m) → l.length ≤ m.length
  | [], m, _, _ => Nat.zero_le _
  | a :: l, m, hn, hs => by
    have hne := List.nodup_cons.1 hn
    have ha := hs a (.head _)
    have h1 := nodup_le (l := l) (m := m.erase a) hne.2 (fun x hx => (List.mem_erase_of_ne (fun h : x = a => hne.1 (by rw [← h]; exact hx))).2 (hs x (.tail _ hx)))
    rw [List.length_erase_of_mem ha] at h1
    have h2 : 0 < m.length := List.length_pos_of_mem ha
    rw [List.length_cons]; omega
theorem natsOf_getD (ys : List Int) (i : Nat) : (natsOf ys).getD i 0 = (ys.getD i 0).toNat := by
  unfold natsOf
  simp only [List.getD, List.getElem?_map]
  cases ys[i]? <;> rfl
theorem natsOf_turn1 (ys : List Int) {i : Int} (hi : 0 ≤ i) : natsOf (turn1 ys i) = flipB (natsOf ys) i.toNat := by
  unfold turn1 flipB
  rw [natsOf_getD]
  unfold natsOf flip8
  rw [List.map_set, Int.toNat_natCast, show (i / 8).toNat = i.toNat / 8 by omega, show (i % 8).toNat = i.toNat % 8 by omega]
def flipAll (xs ks : List Nat) : List Nat := ks.foldl flipB xs
theorem natsOf_turn : ∀ (l xs : List Int), (∀ i ∈ l, 0 ≤ i) → natsOf (turn xs l) = flipAll (natsOf xs) (natsOf l)
  | [], _, _ => rfl
  | i :: l, xs, h => by
    rw [turn, List.foldl_cons, ← turn, natsOf_turn l _ (fun j hj => h j (.tail _ hj)), natsOf_turn1 _ (h i (.head _))]
    rfl
theorem flipAll_length : ∀ (ks xs : List Nat), (flipAll xs ks).length = xs.length
  | [], _ => rfl
  | k :: ks, xs => by
    show (flipAll (flipB xs k) ks).length = _
    rw [flipAll_length ks, flipB_length]
theorem flipAll_small : ∀ (ks xs : List Nat), Small 256 xs → Small 256 (flipAll xs ks)
  | [], _, h => h
  | k :: ks, xs, h => flipAll_small ks _ (flipB_small h k)
theorem flipAll_bit : ∀ (ks xs : List Nat), ks.Nodup → (∀ k ∈ ks, k < 8 * xs.length) → ∀ k, bitAt (flipAll xs ks) k = (bitAt xs k ^^ decide (k ∈ ks))
  | [], xs, _, _, k => by simp [flipAll]
  | i :: ks, xs, hn, hk, k => by
    have hne := List.nodup_cons.1 hn
    show bitAt (flipAll (flipB xs i) ks) k = _
    rw [flipAll_bit ks _ hne.2 (fun j hj => by rw [flipB_length]; exact hk j (.tail _ hj)), bitAt_flip (hk i (.head _)), Bool.xor_assoc]
    congr 1
    by_cases h : k = i
    · subst h; simp [hne.1]
    · rw [decide_eq_false (show ¬ i = k from fun e => h e.symm), Bool.false_xor]
      apply decide_eq_decide.2
      rw [List.mem_cons]
      exact ⟨.inr, fun e => e.resolve_left h⟩
theorem flipAll_byte : ∀ (ks xs : List Nat) (p : Nat), (∀ k ∈ ks, k / 8 ≠ p) → (flipAll xs ks).getD p 0 = xs.getD p 0
  | [], _, _, _ => rfl
  | i :: ks, xs, p, h => by
    show (flipAll (flipB xs i) ks).getD p 0 = _
    rw [flipAll_byte ks _ p (fun k hk => h k (.tail _ hk))]
    unfold flipB
    rw [getD_set, if_neg (fun hh => h i (.head _) hh.1)]
theorem getD_sub (xs : List Nat) (a B i : Nat) : ((xs.drop a).take B).getD i 0 = if i < B then xs.getD (a + i) 0 else 0 := by
  simp only [List.getD, List.getElem?_take, List.getElem?_drop]
  split <;> rfl
theorem bitAt_sub (xs : List Nat) (a B k : Nat) (hk : k < 8 * B) : bitAt ((xs.drop a).take B) k = bitAt xs (8 * a + k) := by
  unfold bitAt
  rw [getD_sub, if_pos (by omega), show (8 * a + k) / 8 = a + k / 8 by omega, show (8 * a + k) % 8 = k % 8 by omega]
section
variable {t B S : Nat} {d : List Nat}
def plc (t B n j e : Nat) : Nat := if 13 * t ≤ e then 8 * (j * n) + (e - 13 * t) else 8 * (j * n + B) + e
def secE (t B n : Nat) (ks : List Nat) (j : Nat) : List Nat := (List.range (13 * t + 8 * B)).filter fun e => decide (plc t B n j e ∈ ks)
theorem secE_nodup (t B n : Nat) (ks : List Nat) (j : Nat) : (secE t B n ks j).Nodup := List.Pairwise.filter _ List.nodup_range
theorem secE_len {n j : Nat} {ks : List Nat} (hn : n = B + moreLen t) : (secE t B n ks j).length ≤ (ks.filter fun k => decide (k / 8 / n = j)).length := by
  have hm8 : 13 * t ≤ 8 * moreLen t := by unfold moreLen; omega
  have hinj : ∀ a b, a < 13 * t + 8 * B → b < 13 * t + 8 * B → plc t B n j a = plc t B n j b → a = b := fun a b ha hb h => by
    unfold plc at h
    split at h <;> split at h <;> omega
  have h1 := nodup_le (l := (secE t B n ks j).map (plc t B n j)) (m := ks.filter fun k => decide (k / 8 / n = j)) (by
    unfold List.Nodup
    rw [List.pairwise_map]
    refine List.Pairwise.imp_of_mem ?_ (secE_nodup t B n ks j)
    intro a b ha hb hab h
    exact hab (hinj a b (List.mem_range.1 (List.mem_filter.1 ha).1) (List.mem_range.1 (List.mem_filter.1 hb).1) h)) (fun x hx => by
    obtain ⟨e, he, rfl⟩ := List.mem_map.1 hx
    obtain ⟨h2, h3⟩ := List.mem_filter.1 he
    have h2 := List.mem_range.1 h2
    refine List.mem_filter.2 ⟨of_decide_eq_true h3, decide_eq_true ?_⟩
    have hB : plc t B n j e / 8 < (j + 1) * n ∧ j * n ≤ plc t B n j e / 8 := by
      rw [Nat.succ_mul]
      unfold plc
      split <;> omega
    exact Nat.div_eq_of_lt_le hB.2 hB.1)
  rwa [List.length_map] at h1
theorem readTo_many : ∀ (k j : Nat) (acc : List Nat) (m0 : Nat) (c : Nat → Nat), m0 ≤ t → (∀ i, c i ≤ t) → ∃ N, N ≤ t ∧ readTo ((List.range' j k).map fun i => some ((sect B d i, encB t (sect B d i)), c i)) acc m0 = ⟨0, acc ++ (d.drop (j * B)).take (k * B), N⟩
  | 0, j, acc, m0, c, h0, h => ⟨m0, h0, by simp [readTo]⟩
  | k + 1, j, acc, m0, c, h0, h => by
    obtain ⟨N, hN, h1⟩ := readTo_many k (j + 1) (acc ++ sect B d j) (max m0 (c j)) c (by have := h j; omega) h
    refine ⟨N, hN, ?_⟩
    rw [List.range'_succ, List.map_cons, readTo, h1]
    congr 1
    rw [List.append_assoc]
    congr 1
    unfold sect
    rw [show (k + 1) * B = B + k * B by rw [Nat.succ_mul, Nat.add_comm], List.take_add, List.drop_drop, Nat.succ_mul]
theorem read_flip (ht : 1 ≤ t ∧ t ≤ 8) (hB : B ≤ 512) (h8 : Small 256 d) (hl : d.length = S * B) {ks : List Nat} (hk : ks.Nodup) (hks : ∀ k ∈ ks, k < 8 * (S * (B + moreLen t))) (hc : ∀ j, (ks.filter fun k => decide (k / 8 / (B + moreLen t) = j)).length ≤ t) :
    ∃ N, N ≤ t ∧ readF t S B (flipAll (packF t S B d) ks) = ⟨0, d, N⟩ := by
  obtain ⟨n, hn⟩ : ∃ n, n = B + moreLen t := ⟨_, rfl⟩
  rw [← hn] at hks hc
  obtain ⟨P, hP⟩ : ∃ P, P = packF t S B d := ⟨_, rfl⟩
  have hPl : P.length = S * n + 1 := by rw [hP, packF_length ht h8 hl, hn]; rfl
  have hP8 : Small 256 P := by rw [hP]; exact packF_small ht h8
  have hst : stateF t S n P = 0 := by rw [hP, hn]; exact packF_state ht h8 hl
  have hz : P.getD (S * n) 0 = 0 := by
    unfold stateF at hst
    split at hst
    · assumption
    · split at hst
      · cases hst
      · split at hst <;> cases hst
  have hst2 : stateF t S n (flipAll P ks) = 0 := by
    unfold stateF
    rw [if_pos]
    rw [flipAll_byte ks P (S * n) (fun k hk => by have := hks k hk; omega)]
    exact hz
  have hlt : ∀ k ∈ ks, k < 8 * P.length := fun k hk => by have := hks k hk; omega
  have hbit := flipAll_bit ks P hk hlt
  have hsec : ∀ j, j < S → uSec t B n (flipAll P ks) j = some ((sect B d j, encB t (sect B d j)), (secE t B n ks j).length) := fun j hj => by
    have e1 : secD B n P j = sect B d j := by rw [hP, hn]; exact (packF_split ht h8 hl hj).1
    have e2 : secM B n P j = encB t (sect B d j) := by rw [hP, hn]; exact (packF_split ht h8 hl hj).2
    have hsl := sect_length hl hj
    have hjn : (j + 1) * n ≤ S * n := Nat.mul_le_mul_right _ hj
    rw [Nat.succ_mul] at hjn
    have hfl := flipAll_length ks P
    unfold uSec
    refine dec_mends ht (sect_small h8 j) (by omega) (Small.take (Small.drop (flipAll_small ks P hP8))) (Small.take (Small.drop (Small.drop (flipAll_small ks P hP8)))) ?_ ?_ (secE_nodup t B n ks j) (fun e he => ?_) ?_ (fun i hi => ?_)
    · show ((_ : List Nat).take B).length = _
      rw [List.length_take, List.length_drop]; omega
    · show ((_ : List Nat).take (n - B)).length = _
      rw [List.length_take, List.length_drop, List.length_drop]; omega
    · have := List.mem_range.1 (List.mem_filter.1 he).1
      omega
    · exact Nat.le_trans (secE_len hn) (hc j)
    · have hmem : decide (i ∈ secE t B n ks j) = decide (plc t B n j i ∈ ks) := by
        apply decide_eq_decide.2
        unfold secE
        rw [List.mem_filter, List.mem_range]
        exact ⟨fun h => of_decide_eq_true h.2, fun h => ⟨by omega, decide_eq_true h⟩⟩
      rw [hmem]
      unfold wAt plc
      by_cases h : 13 * t ≤ i
      · rw [if_pos h, if_pos h, if_pos h, ← e1]
        unfold secD
        rw [bitAt_sub _ _ _ _ (by omega), bitAt_sub _ _ _ _ (by omega), hbit]
      · have hm8 : 13 * t ≤ 8 * moreLen t := by unfold moreLen; omega
        rw [if_neg h, if_neg h, if_neg h, ← e2]
        unfold secM
        rw [List.drop_drop, List.drop_drop, bitAt_sub _ _ _ _ (by omega), bitAt_sub _ _ _ _ (by omega), hbit]
  obtain ⟨N, hN, h1⟩ := readTo_many (t := t) (B := B) (d := d) S 0 [] 0 (fun j => (secE t B n ks j).length) (Nat.zero_le _) (fun j => Nat.le_trans (secE_len hn) (hc j))
  refine ⟨N, hN, ?_⟩
  rw [← hP]
  unfold readF
  rw [← hn, if_neg (fun h => h hst2)]
  have h2 : (List.range S).map (uSec t B n (flipAll P ks)) = (List.range' 0 S).map fun i => some ((sect B d i, encB t (sect B d i)), (secE t B n ks i).length) := by
    rw [← List.range_eq_range']
    apply List.map_congr_left
    intro j hj
    exact hsec j (List.mem_range.1 hj)
  rw [h2, h1, Nat.zero_mul, List.drop_zero, List.nil_append, ← hl, List.take_length]
end
end Go.Proofs.YtohkefolnmcjnaaGreat
