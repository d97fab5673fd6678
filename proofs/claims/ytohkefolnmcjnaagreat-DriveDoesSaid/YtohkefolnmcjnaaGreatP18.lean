import Derived.Test.YtohkefolnmcjnaaGreatP17
/- The drive: its functions. -/
namespace Go.Proofs.YtohkefolnmcjnaaGreat
open Go.Sl Go.RowKit
set_option linter.unusedVariables false
set_option linter.unusedSimpArgs false
set_option maxRecDepth 20000

/-! ### What a drive does, of a chip -/
def natsOf (xs : List Int) : List Nat := xs.map Int.toNat
theorem ints_natsOf {xs : List Int} (h : IsBytes xs) : ints .u8 xs = nats .u8 (natsOf xs) := by
  unfold ints nats natsOf
  rw [List.map_map]
  apply List.map_congr_left
  intro x hx
  have := h x hx
  show Value.int .u8 x = Value.int .u8 ((x.toNat : Nat) : Int)
  congr 1; omega
theorem natsOf_small {xs : List Int} (h : IsBytes xs) : Small 256 (natsOf xs) := fun y hy => by
  obtain ⟨x, hx, rfl⟩ := List.mem_map.1 hy
  have := h x hx; omega
theorem natsOf_length (xs : List Int) : (natsOf xs).length = xs.length := by simp [natsOf]
def intsOf (xs : List Nat) : List Int := xs.map fun x : Nat => (x : Int)
theorem intsOf_bytes {xs : List Nat} (h : Small 256 xs) : IsBytes (intsOf xs) := fun y hy => by
  obtain ⟨x, hx, rfl⟩ := List.mem_map.1 hy
  have := h x hx; omega
theorem natsOf_intsOf (xs : List Nat) : natsOf (intsOf xs) = xs := by
  unfold natsOf intsOf
  rw [List.map_map]
  conv => rhs; rw [← List.map_id xs]
  apply List.map_congr_left
  intro x _; rfl
theorem nats_intsOf (k : IntKind) (xs : List Nat) : nats k xs = ints k (intsOf xs) := nats_ints k xs
namespace Chip
def ahead (S : Chip) (b p : Int) (ok : Bool) : Int := if S.up = false then 70 else if b < 0 ∨ S.g.bl ≤ b ∨ p < 0 ∨ S.g.pg ≤ p ∨ ok = false then 1 else if S.bad b then 73 else 0
/-- A deed's error; a block that fails is marked. -/
def done (b : Int) (x : Chip × Int) : Chip × Int := if x.2 ≠ 72 then x else if (x.1.mark b).2 ≠ 0 then x.1.mark b else ((x.1.mark b).1, 72)
def dErase (S : Chip) (b : Int) : Chip × Int := if S.ahead b 0 true ≠ 0 then (S, S.ahead b 0 true) else done b (S.erase b)
end Chip
abbrev DvA (bd bc : Nat) (g : Geo) : Assn := Cells bd 94 [ptr bc 0, .int .i64 g.bl, .int .i64 g.pg, .int .i64 g.se, .int .i64 g.sb, .int .i64 g.fl]
section
variable {bc bd : Nat} {C : Cw} {K : World} {F : List Assn}
theorem drive_New (hC : C.Ok) : Does Tryz.prog 14 #[ptr bc 0] K (C.A bc :: F) (fun v H' => ∃ bd, v = .tuple #[ptr bd 0, .int .i64 0] ∧ H' = C.A bc :: DvA bd bc C.g :: F) := by
  refine Does.enter Tryz.func14 rfl Tryz.ntmps14 rfl ?_
  simp only [env0, Nat.reduceAdd]
  refine WC.sr ?_
  refine WL.val (V.assign (OV.p rfl)) rfl ?_
  refine WL.val (V.assign (OV.p rfl)) rfl ?_
  refine WL.nil ?_
  refine WC.seq ?_
  refine WC.sr ?_
  refine WL.val (V.move (OV.p rfl)) rfl ?_
  refine WL.val (V.eqlP Tryz.underlying27 (OV.p rfl) (OV.p rfl)) rfl ?_
  refine WL.nil ?_
  refine WC.condF' rfl (by first | rfl | (simp; done) | (simp; omega)) ?_
  refine WC.skip ?_
  refine WC.sr ?_
  refine WL.val (V.move (OV.p rfl)) rfl ?_
  refine WL.val (V.move (OV.p rfl)) rfl ?_
  refine WL.call (vs := [_]) Tryz.call56 ⟨OV.p rfl, trivial⟩ (chip_Geometry) rfl ?_
  rintro _ H0 ⟨rfl, h0⟩
  subst H0
  refine WL.val (V.build (vs := [(0, _), (1, _)]) ⟨OV.p rfl, OV.p rfl, trivial⟩ rfl (bld94_0_1 _ _ _ _ _ _)) rfl ?_
  refine WL.box (cs := [_, _, _, _, _, _]) (OV.p rfl) rfl rfl (fun b10 => ?_)
  refine WL.val (V.assign (OV.p rfl)) rfl ?_
  refine WL.val (V.assign (OV.p rfl)) rfl ?_
  refine WL.nil ?_
  refine WC.ret ?_
  exact BodyQ.ret (H' := C.A bc :: DvA b10 bc C.g :: F) (Res.tmp2 rfl rfl rfl) (fun w h => h.p1) ⟨b10, rfl, rfl⟩
theorem drive_Geometry {g : Geo} : Tells Tryz.prog 20 #[ptr bd 0] K (C.A bc :: DvA bd bc g :: F) g.v := by
  refine Does.enter Tryz.func20 rfl Tryz.ntmps20 rfl ?_
  simp only [env0, Nat.reduceAdd]
  refine WC.sr ?_
  refine WL.alloc (cs := [(.int .i64 0), (.int .i64 0), (.int .i64 0), (.int .i64 0), (.int .i64 0)]) Tryz.zeroValue23 rfl rfl (fun b2 => ?_)
  refine WL.nil ?_
  refine WC.seq ?_
  refine WC.sr ?_
  refine WL.val (V.move (OV.p rfl)) rfl ?_
  refine WL.val (V.eqlP Tryz.underlying31 (OV.p rfl) (OV.p rfl)) rfl ?_
  refine WL.nil ?_
  refine WC.condF' rfl (by first | rfl | (simp; done) | (simp; omega)) ?_
  refine WC.skip ?_
  refine WC.sr ?_
  refine WL.val (V.move (OV.p rfl)) rfl ?_
  refine WL.val (V.nilCheck (OV.p rfl)) rfl ?_
  refine WL.val (V.fieldAddr fo94_1 (OV.p rfl)) rfl ?_
  refine WL.val (V.loadA (vs := [_, _, _, _, _]) ⟨Tryz.isAgg23, Tryz.sizeOf23⟩ (OV.p rfl) rfl (fun _ => by repeat (first | exact Rds.gets ⟨rfl, rfl, rfl, rfl, rfl, trivial⟩ | apply Rds.up))) rfl ?_
  refine WL.store (cs := [_, _, _, _, _]) Tryz.sizeOf23 (OV.p rfl) (OV.p rfl) rfl rfl rfl (by repeat (first | exact Upd.here (cs' := [_, _, _, _, _]) rfl rfl | apply Upd.up)) ?_
  refine WL.nil ?_
  refine WC.ret ?_
  exact BodyQ.ret (H' := C.A bc :: DvA bd bc g :: F) (Res.one rfl (R1.cellA (vs := [_, _, _, _, _]) rfl ⟨Tryz.isAgg23, Tryz.sizeOf23⟩ rfl (by repeat (first | exact Rds.gets ⟨rfl, rfl, rfl, rfl, rfl, trivial⟩ | apply Rds.up)))) (fun w h => h.drop 1) ⟨rfl, rfl⟩
theorem drive_ahead (b p : Int) (ok : Bool) : Tells Tryz.prog 74 #[ptr bd 0, .int .i64 b, .int .i64 p, .bool ok] K (C.A bc :: DvA bd bc C.g :: F) (.int .i64 (C.sem.ahead b p ok)) := by
  refine Does.enter Tryz.func74 rfl Tryz.ntmps74 rfl ?_
  simp only [env0, Nat.reduceAdd]
  refine WC.sr ?_
  refine WL.val (V.assign (OV.p rfl)) rfl ?_
  refine WL.nil ?_
  refine WC.seq ?_
  refine WC.block ?_
  refine WC.sr ?_
  refine WL.val (V.move (OV.p rfl)) rfl ?_
  refine WL.val (V.eqlP Tryz.underlying31 (OV.p rfl) (OV.p rfl)) rfl ?_
  refine WL.val (V.assign (OV.p rfl)) rfl ?_
  refine WL.nil ?_
  refine WC.condF' rfl (by first | rfl | (simp; done) | (simp; omega)) ?_
  refine WC.sr ?_
  refine WL.val (V.move (OV.p rfl)) rfl ?_
  refine WL.val (V.nilCheck (OV.p rfl)) rfl ?_
  refine WL.val (V.fieldAddr fo94_0 (OV.p rfl)) rfl ?_
  refine WL.val (V.load Tryz.isAgg27 (OV.p rfl) (fun _ => by repeat (first | exact Rd.here rfl | apply Rd.up))) rfl ?_
  refine WL.call (vs := [_]) Tryz.call71 ⟨OV.p rfl, trivial⟩ (chip_Up) rfl ?_
  rintro _ H0 ⟨rfl, h0⟩
  subst H0
  refine WL.val (V.not (OV.p rfl)) rfl ?_
  refine WL.val (V.assign (OV.p rfl)) rfl ?_
  refine WL.nil ?_
  refine WC.cond rfl (fun hc1 => ?_) (fun hc1 => ?_)
  ·simp only [Bool.not_eq_true', Bool.not_eq_false'] at hc1
   have hup := hc1
   refine WC.sr ?_
   refine WL.val (V.assign (OV.p rfl)) rfl ?_
   refine WL.nil ?_
   refine WC.ret ?_
   exact BodyQ.ret (H' := C.A bc :: DvA bd bc C.g :: F) (Res.tmp rfl rfl) (fun w h => h) ⟨by unfold Chip.ahead; rw [if_pos (show C.sem.up = false from hup)], rfl⟩
  ·simp only [Bool.not_eq_true', Bool.not_eq_false'] at hc1
   have hup := hc1
   refine WC.sr ?_
   refine WL.val (V.move (OV.p rfl)) rfl ?_
   refine WL.val (V.lss (OV.p rfl) (OV.p rfl)) rfl ?_
   refine WL.val (V.move (OV.p rfl)) rfl ?_
   refine WL.valG (oj := _) rfl rfl rfl GC.f (V.move (OV.p rfl)) rfl ?_
   refine WL.valG (oj := _) rfl rfl rfl GC.f (V.move (OV.p rfl)) rfl ?_
   refine WL.valG (oj := _) rfl rfl rfl GC.f (V.nilCheck (OV.g rfl id)) rfl ?_
   refine WL.valG (oj := _) rfl rfl rfl GC.f (V.fieldAddr fo94_1 (OV.g rfl id)) rfl ?_
   refine WL.valG (oj := _) rfl rfl rfl GC.f (V.fieldAddr fo23_0 (OV.g rfl id)) rfl ?_
   refine WL.valG (oj := _) rfl rfl rfl GC.f (V.load Tryz.isAgg3 (OV.g rfl id) (fun _ => by repeat (first | exact Rd.here rfl | apply Rd.up))) rfl ?_
   refine WL.valG (oj := _) rfl rfl rfl GC.f (V.geq (OV.g rfl id) (OV.g rfl id)) rfl ?_
   refine WL.val (V.pickOr (OV.p rfl) (OV.g rfl id)) rfl ?_
   refine WL.val (V.move (OV.p rfl)) rfl ?_
   refine WL.valG (oj := _) rfl rfl rfl GC.f (V.move (OV.p rfl)) rfl ?_
   refine WL.valG (oj := _) rfl rfl rfl GC.f (V.lss (OV.g rfl id) (OV.p rfl)) rfl ?_
   refine WL.val (V.pickOr (OV.p rfl) (OV.g rfl id)) rfl ?_
   refine WL.val (V.move (OV.p rfl)) rfl ?_
   refine WL.valG (oj := _) rfl rfl rfl GC.f (V.move (OV.p rfl)) rfl ?_
   refine WL.valG (oj := _) rfl rfl rfl GC.f (V.move (OV.p rfl)) rfl ?_
   refine WL.valG (oj := _) rfl rfl rfl GC.f (V.nilCheck (OV.g rfl id)) rfl ?_
   refine WL.valG (oj := _) rfl rfl rfl GC.f (V.fieldAddr fo94_1 (OV.g rfl id)) rfl ?_
   refine WL.valG (oj := _) rfl rfl rfl GC.f (V.fieldAddr fo23_1 (OV.g rfl id)) rfl ?_
   refine WL.valG (oj := _) rfl rfl rfl GC.f (V.load Tryz.isAgg3 (OV.g rfl id) (fun _ => by repeat (first | exact Rd.here rfl | apply Rd.up))) rfl ?_
   refine WL.valG (oj := _) rfl rfl rfl GC.f (V.geq (OV.g rfl id) (OV.g rfl id)) rfl ?_
   refine WL.val (V.pickOr (OV.p rfl) (OV.g rfl id)) rfl ?_
   refine WL.val (V.move (OV.p rfl)) rfl ?_
   refine WL.valG (oj := _) rfl rfl rfl GC.f (V.move (OV.p rfl)) rfl ?_
   refine WL.valG (oj := _) rfl rfl rfl GC.f (V.not (OV.g rfl id)) rfl ?_
   refine WL.val (V.pickOr (OV.p rfl) (OV.g rfl id)) rfl ?_
   refine WL.val (V.assign (OV.p rfl)) rfl ?_
   refine WL.nil ?_
   refine WC.cond rfl (fun hc2 => ?_) (fun hc2 => ?_)
   ·simp only [Bool.or_eq_true, Bool.or_eq_false_iff, decide_eq_true_eq, decide_eq_false_iff_not, Bool.not_eq_true', Bool.not_eq_false'] at hc2
    have h2 := hc2
    refine WC.sr ?_
    refine WL.val (V.assign (OV.p rfl)) rfl ?_
    refine WL.nil ?_
    refine WC.ret ?_
    exact BodyQ.ret (H' := C.A bc :: DvA bd bc C.g :: F) (Res.tmp rfl rfl) (fun w h => h) ⟨by unfold Chip.ahead; rw [if_neg (show ¬ C.sem.up = false by rw [show C.sem.up = C.up from rfl, hup]; decide), if_pos (by show b < 0 ∨ C.g.bl ≤ b ∨ p < 0 ∨ C.g.pg ≤ p ∨ ok = false; simp only [or_assoc] at h2; exact h2)], rfl⟩
   ·simp only [Bool.or_eq_true, Bool.or_eq_false_iff, decide_eq_true_eq, decide_eq_false_iff_not, Bool.not_eq_true', Bool.not_eq_false'] at hc2
    have h2 := hc2
    refine WC.sr ?_
    refine WL.val (V.move (OV.p rfl)) rfl ?_
    refine WL.val (V.nilCheck (OV.p rfl)) rfl ?_
    refine WL.val (V.fieldAddr fo94_0 (OV.p rfl)) rfl ?_
    refine WL.val (V.load Tryz.isAgg27 (OV.p rfl) (fun _ => by repeat (first | exact Rd.here rfl | apply Rd.up))) rfl ?_
    refine WL.val (V.move (OV.p rfl)) rfl ?_
    refine WL.call (vs := [_, _]) Tryz.call48 ⟨OV.p rfl, OV.p rfl, trivial⟩ (chip_Bad b) rfl ?_
    rintro _ H0 ⟨rfl, h0⟩
    subst H0
    refine WL.val (V.assign (OV.p rfl)) rfl ?_
    refine WL.nil ?_
    refine WC.cond rfl (fun hc3 => ?_) (fun hc3 => ?_)
    ·skip
     have h3 := hc3
     refine WC.sr ?_
     refine WL.val (V.assign (OV.p rfl)) rfl ?_
     refine WL.nil ?_
     refine WC.ret ?_
     exact BodyQ.ret (H' := C.A bc :: DvA bd bc C.g :: F) (Res.tmp rfl rfl) (fun w h => h) ⟨by unfold Chip.ahead; rw [if_neg (show ¬ C.sem.up = false by rw [show C.sem.up = C.up from rfl, hup]; decide), if_neg (by show ¬ (b < 0 ∨ C.g.bl ≤ b ∨ p < 0 ∨ C.g.pg ≤ p ∨ ok = false); obtain ⟨⟨⟨⟨q1, q2⟩, q3⟩, q4⟩, q5⟩ := h2; rw [q5]; simp; omega), if_pos h3], rfl⟩
    ·skip
     have h3 := hc3
     refine WC.skip ?_
     refine WC.sr ?_
     refine WL.val (V.assign (OV.p rfl)) rfl ?_
     refine WL.nil ?_
     refine WC.ret ?_
     exact BodyQ.ret (H' := C.A bc :: DvA bd bc C.g :: F) (Res.tmp rfl rfl) (fun w h => h) ⟨by unfold Chip.ahead; rw [if_neg (show ¬ C.sem.up = false by rw [show C.sem.up = C.up from rfl, hup]; decide), if_neg (by show ¬ (b < 0 ∨ C.g.bl ≤ b ∨ p < 0 ∨ C.g.pg ≤ p ∨ ok = false); obtain ⟨⟨⟨⟨q1, q2⟩, q3⟩, q4⟩, q5⟩ := h2; rw [q5]; simp; omega), if_neg (by rw [h3]; decide)], rfl⟩
theorem drive_do (hC : C.Ok) (b e : Int) : Does Tryz.prog 76 #[.int .i64 b, .int .i64 e, .func (.func 78) #[ptr bc 0] #[]] K (C.A bc :: F)
    (fun v H' => ∃ C' : Cw, C'.Ok ∧ H' = C'.A bc :: F ∧ C'.sem = (Chip.done b (C.sem, e)).1 ∧ v = .int .i64 (Chip.done b (C.sem, e)).2) := by
  refine Does.enter Tryz.func76 rfl Tryz.ntmps76 rfl ?_
  simp only [env0, Nat.reduceAdd]
  refine WC.sr ?_
  refine WL.val (V.assign (OV.p rfl)) rfl ?_
  refine WL.nil ?_
  refine WC.seq ?_
  refine WC.sr ?_
  refine WL.val (V.move (OV.p rfl)) rfl ?_
  refine WL.val (V.neq (OV.p rfl) (OV.p rfl)) rfl ?_
  refine WL.nil ?_
  refine WC.cond rfl (fun hc0 => ?_) (fun hc0 => ?_)
  ·simp only [decide_eq_true_eq, decide_eq_false_iff_not, Bool.not_eq_true', Bool.not_eq_false'] at hc0
   have h0 := hc0
   have hd : Chip.done b (C.sem, e) = (C.sem, e) := by unfold Chip.done; rw [if_pos hc0]
   refine WC.sr ?_
   refine WL.val (V.move (OV.p rfl)) rfl ?_
   refine WL.val (V.assign (OV.p rfl)) rfl ?_
   refine WL.nil ?_
   refine WC.ret ?_
   exact BodyQ.ret (H' := C.A bc :: F) (Res.tmp rfl rfl) (fun w h => h) ⟨C, hC, rfl, by rw [hd], by rw [hd]⟩
  ·simp only [decide_eq_true_eq, decide_eq_false_iff_not, Bool.not_eq_true', Bool.not_eq_false'] at hc0
   have h0 := hc0
   have hd : Chip.done b (C.sem, e) = if (C.sem.mark b).2 ≠ 0 then C.sem.mark b else ((C.sem.mark b).1, 72) := by unfold Chip.done; rw [if_neg (by simpa using hc0)]
   refine WC.skip ?_
   refine WC.seq ?_
   refine WC.sr ?_
   refine WL.val (V.move (OV.p rfl)) rfl ?_
   refine WL.val (V.move (OV.p rfl)) rfl ?_
   refine WL.callV (first := [ptr bc 0]) (vs := [_]) (captured := []) Tryz.call78 (OV.p rfl) ⟨OV.p rfl, trivial⟩ (chip_Mark hC b) rfl ?_
   rintro _ _ ⟨C1, hC1, rfl, s1, rfl⟩
   refine WL.val (V.assign (OV.p rfl)) rfl ?_
   refine WL.nil ?_
   refine WC.sr ?_
   refine WL.val (V.move (OV.p rfl)) rfl ?_
   refine WL.val (V.neq (OV.p rfl) (OV.p rfl)) rfl ?_
   refine WL.nil ?_
   refine WC.cond rfl (fun hc1 => ?_) (fun hc1 => ?_)
   ·simp only [decide_eq_true_eq, decide_eq_false_iff_not, Bool.not_eq_true', Bool.not_eq_false'] at hc1
    rw [if_pos hc1] at hd
    refine WC.sr ?_
    refine WL.val (V.move (OV.p rfl)) rfl ?_
    refine WL.val (V.assign (OV.p rfl)) rfl ?_
    refine WL.nil ?_
    refine WC.ret ?_
    exact BodyQ.ret (H' := C1.A bc :: F) (Res.tmp rfl rfl) (fun w h => h) ⟨C1, hC1, rfl, by rw [hd, s1], by rw [hd]⟩
   ·simp only [decide_eq_true_eq, decide_eq_false_iff_not, Bool.not_eq_true', Bool.not_eq_false'] at hc1
    rw [if_neg (by simpa using hc1)] at hd
    refine WC.skip ?_
    refine WC.sr ?_
    refine WL.val (V.move (OV.p rfl)) rfl ?_
    refine WL.val (V.assign (OV.p rfl)) rfl ?_
    refine WL.nil ?_
    refine WC.ret ?_
    exact BodyQ.ret (H' := C1.A bc :: F) (Res.tmp rfl rfl) (fun w h => h) ⟨C1, hC1, rfl, by rw [hd, s1], by rw [hd, h0]⟩
theorem drive_Erase (hC : C.Ok) (b : Int) : Does Tryz.prog 61 #[ptr bd 0, .int .i64 b] K (C.A bc :: DvA bd bc C.g :: F)
    (fun v H' => ∃ C' : Cw, C'.Ok ∧ H' = C'.A bc :: DvA bd bc C.g :: F ∧ C'.sem = (C.sem.dErase b).1 ∧ v = .int .i64 (C.sem.dErase b).2) := by
  refine Does.enter Tryz.func61 rfl Tryz.ntmps61 rfl ?_
  simp only [env0, Nat.reduceAdd]
  refine WC.sr ?_
  refine WL.val (V.assign (OV.p rfl)) rfl ?_
  refine WL.nil ?_
  refine WC.seq ?_
  refine WC.sr ?_
  refine WL.val (V.move (OV.p rfl)) rfl ?_
  refine WL.val (V.move (OV.p rfl)) rfl ?_
  refine WL.call (vs := [_, _, _, _]) Tryz.call74 ⟨OV.p rfl, OV.p rfl, OV.p rfl, OV.p rfl, trivial⟩ (drive_ahead b 0 true) rfl ?_
  rintro _ H0 ⟨rfl, h0⟩
  subst H0
  refine WL.val (V.assign (OV.p rfl)) rfl ?_
  refine WL.nil ?_
  refine WC.sr ?_
  refine WL.val (V.move (OV.p rfl)) rfl ?_
  refine WL.val (V.neq (OV.p rfl) (OV.p rfl)) rfl ?_
  refine WL.nil ?_
  refine WC.cond rfl (fun hc0 => ?_) (fun hc0 => ?_)
  ·simp only [decide_eq_true_eq, decide_eq_false_iff_not, Bool.not_eq_true', Bool.not_eq_false'] at hc0
   have hd : C.sem.dErase b = (C.sem, C.sem.ahead b 0 true) := by unfold Chip.dErase; rw [if_pos hc0]
   refine WC.sr ?_
   refine WL.val (V.move (OV.p rfl)) rfl ?_
   refine WL.val (V.assign (OV.p rfl)) rfl ?_
   refine WL.nil ?_
   refine WC.ret ?_
   exact BodyQ.ret (H' := C.A bc :: DvA bd bc C.g :: F) (Res.tmp rfl rfl) (fun w h => h) ⟨C, hC, rfl, by rw [hd], by rw [hd]⟩
  ·simp only [decide_eq_true_eq, decide_eq_false_iff_not, Bool.not_eq_true', Bool.not_eq_false'] at hc0
   have hd : C.sem.dErase b = Chip.done b (C.sem.erase b) := by unfold Chip.dErase; rw [if_neg (by simpa using hc0)]
   refine WC.skip ?_
   refine WC.seq ?_
   refine WC.regionA (DvA bd bc C.g :: F) (by kernel_rfl) ?_
   refine WA.t 0 rfl (V.move (OV.p rfl)) ?_
   refine WA.t 1 rfl (V.move (OV.p rfl)) ?_
   refine WA.t 2 rfl (V.nilCheck (OV.p rfl)) ?_
   refine WA.t 3 rfl (V.fieldAddr fo94_0 (OV.p rfl)) ?_
   refine WA.t 4 rfl (V.load Tryz.isAgg27 (OV.p rfl) (fun _ => by repeat (first | exact Rd.here rfl | apply Rd.up))) ?_
   refine WA.t 5 rfl (V.move (OV.p rfl)) ?_
   refine WA.t 7 rfl (V.move (OV.p rfl)) ?_
   refine WA.t 8 rfl (V.nilCheck (OV.p rfl)) ?_
   refine WA.t 9 rfl (V.fieldAddr fo94_0 (OV.p rfl)) ?_
   refine WA.t 10 rfl (V.load Tryz.isAgg27 (OV.p rfl) (fun _ => by repeat (first | exact Rd.here rfl | apply Rd.up))) ?_
   refine WA.t 11 rfl (V.makeFunc (us := [_]) (vs := []) ⟨OV.p rfl, trivial⟩ trivial) ?_
   refine WA.o 6 rfl ?_
   refine WL.call (vs := [_, _]) Tryz.call107 ⟨OV.p rfl, OV.p rfl, trivial⟩ (chip_Erase hC b) rfl ?_
   rintro _ _ ⟨C1, hC1, rfl, s1, rfl⟩
   refine WL.nil ?_
   refine WA.o 12 rfl ?_
   refine WL.call (vs := [_, _, _]) Tryz.call76 ⟨OV.p rfl, OV.p rfl, OV.p rfl, trivial⟩ (drive_do hC1 b _) rfl ?_
   rintro _ _ ⟨C2, hC2, rfl, s2, rfl⟩
   refine WL.nil ?_
   refine WA.t 13 rfl (V.assign (OV.p rfl)) ?_
   refine WA.fin ?_
   refine WC.ret ?_
   exact BodyQ.ret (H' := C2.A bc :: DvA bd bc C.g :: F) (Res.tmp rfl rfl) (fun w h => h) ⟨C2, hC2, rfl, by rw [hd, s2, s1], by rw [hd, s1]⟩
end
namespace Chip
def room (S : Chip) : Nat := S.g.se.toNat * S.g.sb.toNat
def packG (g : Geo) (d : List Nat) : List Nat := packF g.fl.toNat g.se.toNat g.sb.toNat d
def dWrite (S : Chip) (b p : Int) (d : List Nat) : Chip × Int :=
  if S.ahead b p (decide (d.length = S.room)) ≠ 0 then (S, S.ahead b p (decide (d.length = S.room))) else done b (S.program b p (intsOf (packG S.g d)))
structure Got where
  err : Int
  d : List Nat
  n : Nat
def rawN (S : Chip) (b p : Int) : List Nat := natsOf (S.reads b p)
def dRead (S : Chip) (b p : Int) : Got :=
  if S.ahead b p true ≠ 0 then ⟨S.ahead b p true, [], 0⟩
  else ⟨(readF S.g.fl.toNat S.g.se.toNat S.g.sb.toNat (S.rawN b p)).err, (readF S.g.fl.toNat S.g.se.toNat S.g.sb.toNat (S.rawN b p)).d, (readF S.g.fl.toNat S.g.se.toNat S.g.sb.toNat (S.rawN b p)).n⟩
def stateG (S : Chip) (b p : Int) : Nat := stateF S.g.fl.toNat S.g.se.toNat (S.g.sb.toNat + moreLen S.g.fl.toNat) (S.rawN b p)
def wholeTo (S : Chip) (b : Int) : Nat → Bool
  | 0 => true
  | k + 1 => wholeTo S b k && decide (S.stateG b (k : Nat) = 0)
def dWhole (S : Chip) (b n : Int) : Bool × Int :=
  if S.ahead b 0 (decide (0 ≤ n) && decide (n ≤ S.g.pg)) = 73 then (false, 0)
  else if S.ahead b 0 (decide (0 ≤ n) && decide (n ≤ S.g.pg)) ≠ 0 then (false, S.ahead b 0 (decide (0 ≤ n) && decide (n ≤ S.g.pg)))
  else (S.wholeTo b n.toNat, 0)
def goodTo (S : Chip) : Nat → List Int
  | 0 => []
  | k + 1 => if (S.up && !S.bad (k : Int)) = true then goodTo S k ++ [(k : Int)] else goodTo S k
def good (S : Chip) : List Int := S.goodTo S.g.bl.toNat
theorem goodTo_length (S : Chip) : ∀ k, (S.goodTo k).length ≤ k
  | 0 => Nat.le_refl _
  | k + 1 => by
    have := goodTo_length S k
    rw [goodTo]; split
    · rw [List.length_append]; simp; omega
    · omega
theorem ahead_zero {S : Chip} {b p : Int} {ok : Bool} (h : S.ahead b p ok = 0) : S.up = true ∧ (0 ≤ b ∧ b < S.g.bl ∧ 0 ≤ p ∧ p < S.g.pg) ∧ ok = true ∧ S.bad b = false := by
  unfold ahead at h
  split at h
  · cases h
  · rename_i h1
    split at h
    · cases h
    · rename_i h2
      split at h
      · cases h
      · rename_i h3
        cases hok : ok with
        | false => exact absurd (.inr (.inr (.inr (.inr hok)))) h2
        | true => exact ⟨by simpa using h1, by omega, rfl, by simpa using h3⟩
theorem read_zero {S : Chip} {b p : Int} {ok : Bool} (h : S.ahead b p ok = 0) : S.readErr b p = 0 := by
  obtain ⟨h1, h2, _, _⟩ := ahead_zero h
  unfold readErr page block
  rw [if_neg (by rw [h1]; decide), if_neg (by simp; omega)]
end Chip
theorem geo_nat {g : Geo} (h : g.mays) : g = NG g.bl g.pg g.se.toNat g.sb.toNat g.fl.toNat := by
  unfold Geo.mays at h
  obtain ⟨a, b, c, d, e⟩ := g
  dsimp only at h ⊢
  unfold NG
  congr 1 <;> omega
theorem Geo.raw_nat {g : Geo} (h : g.mays) : g.raw = ((rawN g.se.toNat g.sb.toNat g.fl.toNat : Nat) : Int) := by
  have h1 := NG.raw (bl := g.bl) (pg := g.pg) (S := g.se.toNat) (B := g.sb.toNat) (t := g.fl.toNat)
  rw [← geo_nat h] at h1
  exact h1
theorem Geo.room_nat {g : Geo} (h : g.mays) : g.room = ((g.se.toNat * g.sb.toNat : Nat) : Int) := by
  have h1 := NG.room (bl := g.bl) (pg := g.pg) (S := g.se.toNat) (B := g.sb.toNat) (t := g.fl.toNat)
  rw [← geo_nat h] at h1
  exact h1
section
variable {bc bd : Nat} {C : Cw} {K : World} {F : List Assn}
theorem ecc_PackG {g : Geo} {A : Option Addr} {m cap : Nat} {d : List Nat} (hg : g.mays) (hd : Seq K F A m 1 (nats .u8 d)) (h8 : Small 256 d) (hm : m = g.se.toNat * g.sb.toNat) (hmc : m ≤ cap) :
    Does Tryz.prog 75 #[g.v, .slice A m cap] K F
      (fun v H' => ∃ A' cap', v = .tuple #[.slice A' g.raw.toNat cap', .int .i64 0] ∧ H' = SlA (.slice A' g.raw.toNat cap') 5 1 g.raw.toNat (nats .u8 (Chip.packG g d)) :: F) := by
  have h := ecc_Pack (bl := g.bl) (pg := g.pg) (S := g.se.toNat) (B := g.sb.toNat) (t := g.fl.toNat) (by rw [← geo_nat hg]; exact hg) hd h8 hm hmc
  rw [← geo_nat hg] at h
  rw [Geo.raw_nat hg, Int.toNat_natCast]
  exact h
theorem ecc_ReadG {g : Geo} {A : Option Addr} {m cap : Nat} {raw : List Nat} (hg : g.mays) (hr : Seq K F A m 1 (nats .u8 raw)) (h8 : Small 256 raw) (hm : m = g.raw.toNat) (hmc : m ≤ cap) :
    Does Tryz.prog 70 #[g.v, .slice A m cap] K F
      (fun v H' => ∃ A' cap', v = .tuple #[.slice A' (readF g.fl.toNat g.se.toNat g.sb.toNat raw).d.length cap', .int .i64 ((readF g.fl.toNat g.se.toNat g.sb.toNat raw).n : Nat), .int .i64 ((readF g.fl.toNat g.se.toNat g.sb.toNat raw).err : Nat)] ∧
        H' = SlA (.slice A' (readF g.fl.toNat g.se.toNat g.sb.toNat raw).d.length cap') 5 1 (readF g.fl.toNat g.se.toNat g.sb.toNat raw).d.length (nats .u8 (readF g.fl.toNat g.se.toNat g.sb.toNat raw).d) :: F) := by
  have h := ecc_Read (bl := g.bl) (pg := g.pg) (S := g.se.toNat) (B := g.sb.toNat) (t := g.fl.toNat) (by rw [← geo_nat hg]; exact hg) hr h8 (by rw [hm, Geo.raw_nat hg, Int.toNat_natCast]) hmc
  rw [← geo_nat hg] at h
  exact h
theorem ecc_UnpackG {g : Geo} {A : Option Addr} {m cap : Nat} {raw : List Nat} (hg : g.mays) (hr : Seq K F A m 1 (nats .u8 raw)) (h8 : Small 256 raw) (hm : m = g.raw.toNat) (hmc : m ≤ cap) :
    Does Tryz.prog 87 #[g.v, .slice A m cap] K F
      (fun v H' => ∃ A' n' cap', v = .tuple #[.slice A' n' cap', .int .i64 (stateF g.fl.toNat g.se.toNat (g.sb.toNat + moreLen g.fl.toNat) raw : Nat)] ∧ H' = F) := by
  have h := ecc_Unpack (bl := g.bl) (pg := g.pg) (S := g.se.toNat) (B := g.sb.toNat) (t := g.fl.toNat) (by rw [← geo_nat hg]; exact hg) hr h8 (by rw [hm, Geo.raw_nat hg, Int.toNat_natCast]) hmc
  rw [← geo_nat hg] at h
  refine Does.post_ h (fun v H' hp => ?_)
  rcases hp with ⟨h1, rfl, rfl⟩ | ⟨h1, A', cap', l, rs, rfl, _, _, rfl⟩
  · exact ⟨H', fun w hw => hw, _, _, _, rfl, rfl⟩
  · exact ⟨F, fun w hw => hw.drop 2, A', _, cap', by rw [h1]; rfl, rfl⟩
theorem drive_Write (hC : C.Ok) (b p : Int) {A : Option Addr} {m cap : Nat} {d : List Nat} (hd : Seq K F A m 1 (nats .u8 d)) (h8 : Small 256 d) (hmc : m ≤ cap) (hm : m ≤ 1000000) :
    Does Tryz.prog 23 #[ptr bd 0, .int .i64 b, .int .i64 p, .slice A m cap] K (C.A bc :: DvA bd bc C.g :: F)
    (fun v H' => ∃ C' : Cw, C'.Ok ∧ H' = C'.A bc :: DvA bd bc C.g :: F ∧ C'.sem = (C.sem.dWrite b p d).1 ∧ v = .int .i64 (C.sem.dWrite b p d).2) := by
  have hl : d.length = m := by simpa [nats] using hd.len
  have hmay : C.g.may = true := decide_eq_true hC.mays
  refine Does.enter Tryz.func23 rfl Tryz.ntmps23 rfl ?_
  simp only [env0, Nat.reduceAdd]
  refine WC.sr ?_
  refine WL.val (V.assign (OV.p rfl)) rfl ?_
  refine WL.nil ?_
  refine WC.sr ?_
  refine WL.val (V.move (OV.p rfl)) rfl ?_
  refine WL.call (vs := [_]) Tryz.call20 ⟨OV.p rfl, trivial⟩ (drive_Geometry) rfl ?_
  rintro _ H0 ⟨rfl, h0⟩
  subst H0
  refine WL.call (vs := [_]) Tryz.call73 ⟨OV.p rfl, trivial⟩ (Tells.eq (v' := .tuple #[.int .i64 C.g.room, .int .i64 0]) (ecc_Room C.g) (by rw [hmay]; rfl)) rfl ?_
  rintro _ H0 ⟨rfl, h0⟩
  subst H0
  refine WL.val (V.move (OV.p rfl)) rfl ?_
  refine WL.val (V.extract (OV.p rfl) rfl) rfl ?_
  refine WL.val (V.extract (OV.p rfl) rfl) rfl ?_
  refine WL.val (V.assign (OV.p rfl)) rfl ?_
  refine WL.val (V.assign (OV.p rfl)) rfl ?_
  refine WL.nil ?_
  refine WC.seq ?_
  refine WC.sr ?_
  refine WL.val (V.move (OV.p rfl)) rfl ?_
  refine WL.val (V.move (OV.p rfl)) rfl ?_
  refine WL.val (V.move (OV.p rfl)) rfl ?_
  refine WL.val (V.move (OV.p rfl)) rfl ?_
  refine WL.val (V.len (t := 38) Tryz.runUnderlying38 (OV.p rfl)) rfl ?_
  refine WL.val (V.move (OV.p rfl)) rfl ?_
  refine WL.val (V.val_eq (v' := .bool (decide (d.length = C.sem.room))) (V.eql (OV.p rfl) (OV.p rfl)) (fun _ => by rw [Geo.room_nat hC.mays, hl]; congr 1; apply decide_eq_decide.2; show ((m : Int) = ((C.g.se.toNat * C.g.sb.toNat : Nat) : Int)) ↔ m = C.g.se.toNat * C.g.sb.toNat; omega)) rfl ?_
  refine WL.call (vs := [_, _, _, _]) Tryz.call74 ⟨OV.p rfl, OV.p rfl, OV.p rfl, OV.p rfl, trivial⟩ (drive_ahead b p _) rfl ?_
  rintro _ H0 ⟨rfl, h0⟩
  subst H0
  refine WL.val (V.assign (OV.p rfl)) rfl ?_
  refine WL.nil ?_
  refine WC.sr ?_
  refine WL.val (V.move (OV.p rfl)) rfl ?_
  refine WL.val (V.neq (OV.p rfl) (OV.p rfl)) rfl ?_
  refine WL.nil ?_
  refine WC.cond rfl (fun hc0 => ?_) (fun hc0 => ?_)
  ·simp only [decide_eq_true_eq, decide_eq_false_iff_not, Bool.not_eq_true', Bool.not_eq_false'] at hc0
   have h0 := hc0
   have hdw : C.sem.dWrite b p d = (C.sem, C.sem.ahead b p (decide (d.length = C.sem.room))) := by unfold Chip.dWrite; rw [if_pos hc0]
   refine WC.sr ?_
   refine WL.val (V.move (OV.p rfl)) rfl ?_
   refine WL.val (V.assign (OV.p rfl)) rfl ?_
   refine WL.nil ?_
   refine WC.ret ?_
   exact BodyQ.ret (H' := C.A bc :: DvA bd bc C.g :: F) (Res.tmp rfl rfl) (fun w h => h) ⟨C, hC, rfl, by rw [hdw], by rw [hdw]⟩
  ·simp only [decide_eq_true_eq, decide_eq_false_iff_not, Bool.not_eq_true', Bool.not_eq_false'] at hc0
   have h0 := hc0
   have hdw : C.sem.dWrite b p d = Chip.done b (C.sem.program b p (intsOf (Chip.packG C.g d))) := by unfold Chip.dWrite; rw [if_neg (by simpa using hc0)]; rfl
   have hok := (Chip.ahead_zero hc0).2.2.1
   have hmr : m = C.g.se.toNat * C.g.sb.toNat := by rw [← hl]; exact of_decide_eq_true hok
   refine WC.skip ?_
   refine WC.sr ?_
   refine WL.val (V.move (OV.p rfl)) rfl ?_
   refine WL.val (V.nilCheck (OV.p rfl)) rfl ?_
   refine WL.val (V.fieldAddr fo94_1 (OV.p rfl)) rfl ?_
   refine WL.val (V.loadA (vs := [_, _, _, _, _]) ⟨Tryz.isAgg23, Tryz.sizeOf23⟩ (OV.p rfl) rfl (fun _ => by repeat (first | exact Rds.gets ⟨rfl, rfl, rfl, rfl, rfl, trivial⟩ | apply Rds.up))) rfl ?_
   refine WL.val (V.move (OV.p rfl)) rfl ?_
   refine WL.call (vs := [_, _]) Tryz.call75 ⟨OV.p rfl, OV.p rfl, trivial⟩ (ecc_PackG hC.mays hd.up.up h8 hmr hmc) rfl ?_
   rintro _ _ ⟨Ap, cp, rfl, rfl⟩
   refine WL.sub (Sub.refl _) (fun w h => h.p1) ?_
   refine WL.have_ (fun w h => (SlA.shape h.p1.head)) (fun ⟨Aq, cq, hq, hq2, _⟩ => ?_)
   have hcp : C.g.raw.toNat ≤ cp := by injection hq with q1 q2 q3; omega
   have hN := NGood.of (bl := C.g.bl) (pg := C.g.pg) (by rw [← geo_nat hC.mays]; exact hC.mays)
   have hpl : (Chip.packG C.g d).length = C.g.raw.toNat := by
     unfold Chip.packG
     rw [packF_length hN.t h8 (hl.trans hmr), Geo.raw_nat hC.mays, Int.toNat_natCast]
   have hps : Small 256 (Chip.packG C.g d) := packF_small hN.t h8
   refine WL.val (V.move (OV.p rfl)) rfl ?_
   refine WL.val (V.extract (OV.p rfl) rfl) rfl ?_
   refine WL.val (V.extract (OV.p rfl) rfl) rfl ?_
   refine WL.val (V.assign (OV.p rfl)) rfl ?_
   refine WL.val (V.assign (OV.p rfl)) rfl ?_
   refine WL.nil ?_
   refine WC.seq ?_
   refine WC.regionA (SlA (.slice Ap C.g.raw.toNat cp) 5 1 C.g.raw.toNat (nats .u8 (Chip.packG C.g d)) :: DvA bd bc C.g :: F) (by kernel_rfl) ?_
   refine WA.t 0 rfl (V.move (OV.p rfl)) ?_
   refine WA.t 1 rfl (V.move (OV.p rfl)) ?_
   refine WA.t 2 rfl (V.nilCheck (OV.p rfl)) ?_
   refine WA.t 3 rfl (V.fieldAddr fo94_0 (OV.p rfl)) ?_
   refine WA.t 4 rfl (V.load Tryz.isAgg27 (OV.p rfl) (fun _ => by repeat (first | exact Rd.here rfl | apply Rd.up))) ?_
   refine WA.t 5 rfl (V.move (OV.p rfl)) ?_
   refine WA.t 6 rfl (V.move (OV.p rfl)) ?_
   refine WA.t 7 rfl (V.move (OV.p rfl)) ?_
   refine WA.t 9 rfl (V.move (OV.p rfl)) ?_
   refine WA.t 10 rfl (V.nilCheck (OV.p rfl)) ?_
   refine WA.t 11 rfl (V.fieldAddr fo94_0 (OV.p rfl)) ?_
   refine WA.t 12 rfl (V.load Tryz.isAgg27 (OV.p rfl) (fun _ => by repeat (first | exact Rd.here rfl | apply Rd.up))) ?_
   refine WA.t 13 rfl (V.makeFunc (us := [_]) (vs := []) ⟨OV.p rfl, trivial⟩ trivial) ?_
   refine WA.o 8 rfl ?_
   refine WL.call (vs := [_, _, _, _]) Tryz.call77 ⟨OV.p rfl, OV.p rfl, OV.p rfl, OV.p rfl, trivial⟩ (chip_Program hC b p (intsOf_bytes hps) (by rw [← nats_intsOf]; exact SlA.seq (by rw [nats_length, hpl, Nat.mul_one])) hcp) rfl ?_
   rintro _ _ ⟨C1, hC1, rfl, s1, rfl⟩
   refine WL.nil ?_
   refine WA.o 14 rfl ?_
   refine WL.call (vs := [_, _, _]) Tryz.call76 ⟨OV.p rfl, OV.p rfl, OV.p rfl, trivial⟩ (drive_do hC1 b _) rfl ?_
   rintro _ _ ⟨C2, hC2, rfl, s2, rfl⟩
   refine WL.nil ?_
   refine WA.t 15 rfl (V.assign (OV.p rfl)) ?_
   refine WA.fin ?_
   refine WC.ret ?_
   exact BodyQ.ret (H' := C2.A bc :: DvA bd bc C.g :: F) (Res.tmp rfl rfl) (fun w h => h.sel 2 [0] rfl) ⟨C2, hC2, rfl, by rw [hdw, s2, s1], by rw [hdw, s1]⟩
end
end Go.Proofs.YtohkefolnmcjnaaGreat
