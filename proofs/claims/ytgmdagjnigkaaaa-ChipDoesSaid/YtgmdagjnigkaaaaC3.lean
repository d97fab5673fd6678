/- The chip: what turns one cell, what is asked; Erase. -/
import Derived.Test.YtgmdagjnigkaaaaC2
namespace Go.Proofs.Ytgmdagjnigkaaaa
open Go.Sl Go.RowKit
set_option linter.unusedVariables false
set_option linter.unusedSimpArgs false
set_option maxRecDepth 20000

namespace Cw
def on (C : Cw) : Cw := { C with up := true }
def off (C : Cw) : Cw := { C with up := false }
def arm (C : Cw) (n keep : Int) : Cw := { C with left := max n 0, keep := keep }
def weaken (C : Cw) (b : Int) : Cw := { C with weak := fun k => if k = b then true else C.weak k }
def mark (C : Cw) (b : Int) : Cw := { C with marked := fun k => if k = b then true else C.marked k }
def burn (C : Cw) (n : Int) : Cw := { C with fuse := n }
variable {C : Cw} (h : C.Ok)
include h
theorem Ok.on : C.on.Ok := ⟨h.mays, h.page, h.wr, h.len, h.next, h.left⟩
theorem Ok.off : C.off.Ok := ⟨h.mays, h.page, h.wr, h.len, h.next, h.left⟩
theorem Ok.arm {n keep : Int} (hn : n ≤ 9223372036854775807) : (C.arm n keep).Ok := ⟨h.mays, h.page, h.wr, h.len, h.next, by show 0 ≤ max n 0 ∧ max n 0 ≤ 9223372036854775807; omega⟩
theorem Ok.weaken {b : Int} : (C.weaken b).Ok := ⟨h.mays, h.page, h.wr, h.len, h.next, h.left⟩
theorem Ok.mark {b : Int} : (C.mark b).Ok := ⟨h.mays, h.page, h.wr, h.len, h.next, h.left⟩
theorem Ok.burn {n : Int} : (C.burn n).Ok := ⟨h.mays, h.page, h.wr, h.len, h.next, h.left⟩
end Cw

section
variable {bc : Nat} {C : Cw} {K : World} {F : List Assn}
theorem chip_On : Does Try.prog 21 #[ptr bc 0] K (C.A bc :: F) (fun v H' => H' = C.on.A bc :: F) := by
  refine Does.openC ?_
  dsimp only [Cw.parts, List.cons_append, List.nil_append]
  refine Does.enter Try.func21 rfl Try.ntmps21 rfl ?_
  simp only [env0, Nat.reduceAdd]
  refine WC.seq ?_
  refine WC.region ?_
  refine WL.val (V.move (OV.p rfl)) rfl ?_
  refine WL.val (V.neqP Try.underlying25 (OV.p rfl) (OV.p rfl)) rfl ?_
  refine WL.nil ?_
  refine WC.condT' rfl (by first | rfl | (simp; done) | (simp; omega)) ?_
  refine WC.region ?_
  refine WL.val (V.move (OV.p rfl)) rfl ?_
  refine WL.val (V.nilCheck (OV.p rfl)) rfl ?_
  refine WL.val (V.fieldAddr fo77_8 (OV.p rfl)) rfl ?_
  refine WL.store (cs := [_]) Try.sizeOf4 (OV.p rfl) (OV.p rfl) rfl rfl rfl (by repeat (first | exact Upd.here rfl rfl | apply Upd.up)) ?_
  refine WL.nil ?_
  exact BodyQ.ret (H' := C.on.A bc :: F) (Res.none rfl) (fun w h => Sat.all (l := C.on.parts bc) h) rfl
theorem chip_Off : Does Try.prog 25 #[ptr bc 0] K (C.A bc :: F) (fun v H' => H' = C.off.A bc :: F) := by
  refine Does.openC ?_
  dsimp only [Cw.parts, List.cons_append, List.nil_append]
  refine Does.enter Try.func25 rfl Try.ntmps25 rfl ?_
  simp only [env0, Nat.reduceAdd]
  refine WC.seq ?_
  refine WC.region ?_
  refine WL.val (V.move (OV.p rfl)) rfl ?_
  refine WL.val (V.neqP Try.underlying25 (OV.p rfl) (OV.p rfl)) rfl ?_
  refine WL.nil ?_
  refine WC.condT' rfl (by first | rfl | (simp; done) | (simp; omega)) ?_
  refine WC.region ?_
  refine WL.val (V.move (OV.p rfl)) rfl ?_
  refine WL.val (V.nilCheck (OV.p rfl)) rfl ?_
  refine WL.val (V.fieldAddr fo77_8 (OV.p rfl)) rfl ?_
  refine WL.store (cs := [_]) Try.sizeOf4 (OV.p rfl) (OV.p rfl) rfl rfl rfl (by repeat (first | exact Upd.here rfl rfl | apply Upd.up)) ?_
  refine WL.nil ?_
  exact BodyQ.ret (H' := C.off.A bc :: F) (Res.none rfl) (fun w h => Sat.all (l := C.off.parts bc) h) rfl
theorem chip_Arm (n keep : Int) : Does Try.prog 15 #[ptr bc 0, .int .i64 n, .int .i64 keep] K (C.A bc :: F) (fun v H' => H' = (C.arm n keep).A bc :: F) := by
  refine Does.openC ?_
  dsimp only [Cw.parts, List.cons_append, List.nil_append]
  refine Does.enter Try.func15 rfl Try.ntmps15 rfl ?_
  simp only [env0, Nat.reduceAdd]
  refine WC.seq ?_
  refine WC.region ?_
  refine WL.val (V.move (OV.p rfl)) rfl ?_
  refine WL.val (V.neqP Try.underlying25 (OV.p rfl) (OV.p rfl)) rfl ?_
  refine WL.nil ?_
  refine WC.condT' rfl (by first | rfl | (simp; done) | (simp; omega)) ?_
  refine WC.region ?_
  refine WL.val (V.move (OV.p rfl)) rfl ?_
  refine WL.val (V.move (OV.p rfl)) rfl ?_
  refine WL.val (V.move (OV.p rfl)) rfl ?_
  refine WL.val (V.max (OV.p rfl) (OV.p rfl)) rfl ?_
  refine WL.val (V.move (OV.p rfl)) rfl ?_
  refine WL.val (V.nilCheck (OV.p rfl)) rfl ?_
  refine WL.val (V.fieldAddr fo77_9 (OV.p rfl)) rfl ?_
  refine WL.store (cs := [_]) Try.sizeOf3 (OV.p rfl) (OV.p rfl) rfl rfl rfl (by repeat (first | exact Upd.here rfl rfl | apply Upd.up)) ?_
  refine WL.val (V.nilCheck (OV.p rfl)) rfl ?_
  refine WL.val (V.fieldAddr fo77_10 (OV.p rfl)) rfl ?_
  refine WL.store (cs := [_]) Try.sizeOf3 (OV.p rfl) (OV.p rfl) rfl rfl rfl (by repeat (first | exact Upd.here rfl rfl | apply Upd.up)) ?_
  refine WL.nil ?_
  exact BodyQ.ret (H' := (C.arm n keep).A bc :: F) (Res.none rfl) (fun w h => Sat.all (l := (C.arm n keep).parts bc) h) rfl
theorem chip_Up : Tells Try.prog 18 #[ptr bc 0] K (C.A bc :: F) (.bool C.up) := by
  refine Does.openC ?_
  dsimp only [Cw.parts, List.cons_append, List.nil_append]
  refine Does.enter Try.func18 rfl Try.ntmps18 rfl ?_
  simp only [env0, Nat.reduceAdd]
  refine WC.seq ?_
  refine WC.region ?_
  refine WL.val (V.assign (OV.p rfl)) rfl ?_
  refine WL.nil ?_
  refine WC.seq ?_
  refine WC.region ?_
  refine WL.val (V.move (OV.p rfl)) rfl ?_
  refine WL.call (vs := [_]) Try.call43 ⟨OV.p rfl, trivial⟩ (chip_ready (C := C) (by repeat (first | exact Rds.all | apply Rds.up))) rfl ?_
  rintro _ H0 ⟨rfl, h0⟩
  subst H0
  refine WL.val (V.eql (OV.p rfl) (OV.p rfl)) rfl ?_
  refine WL.val (V.assign (OV.p rfl)) rfl ?_
  refine WL.nil ?_
  refine WC.ret ?_
  refine BodyQ.ret (H' := C.A bc :: F) (Res.tmp rfl rfl) (fun w h => Sat.all (l := C.parts bc) h) ⟨?_, rfl⟩
  show Value.bool (decide ((if C.up then (0 : Int) else 70) = 0)) = _
  cases C.up <;> rfl
theorem chip_Fuse : Tells Try.prog 28 #[ptr bc 0] K (C.A bc :: F) (.int .i64 C.sem.fused) := by
  refine Does.openC ?_
  dsimp only [Cw.parts, List.cons_append, List.nil_append]
  refine Does.enter Try.func28 rfl Try.ntmps28 rfl ?_
  simp only [env0, Nat.reduceAdd]
  refine WC.seq ?_
  refine WC.region ?_
  refine WL.val (V.assign (OV.p rfl)) rfl ?_
  refine WL.nil ?_
  refine WC.seq ?_
  refine WC.seq ?_
  refine WC.region ?_
  refine WL.val (V.move (OV.p rfl)) rfl ?_
  refine WL.call (vs := [_]) Try.call43 ⟨OV.p rfl, trivial⟩ (chip_ready (C := C) (by repeat (first | exact Rds.all | apply Rds.up))) rfl ?_
  rintro _ H0 ⟨rfl, h0⟩
  subst H0
  refine WL.val (V.neq (OV.p rfl) (OV.p rfl)) rfl ?_
  refine WL.nil ?_
  refine WC.cond rfl (fun hc0 => ?_) (fun hc0 => ?_)
  · skip
    have h0 := hc0
    refine WC.seq ?_
    refine WC.region ?_
    refine WL.val (V.assign (OV.p rfl)) rfl ?_
    refine WL.nil ?_
    refine WC.ret ?_
    refine BodyQ.ret (H' := C.A bc :: F) (Res.tmp rfl rfl) (fun w h => Sat.all (l := C.parts bc) h) ⟨?_, rfl⟩
    have h1 : C.sem.ready = if C.up then 0 else 70 := rfl
    rw [h1] at h0
    show _ = Value.int .i64 (if C.up then C.fuse else 0)
    cases hu : C.up <;> simp [hu] at h0 ⊢
  · skip
    have h0 := hc0
    refine WC.skip ?_
    refine WC.seq ?_
    refine WC.region ?_
    refine WL.val (V.move (OV.p rfl)) rfl ?_
    refine WL.val (V.nilCheck (OV.p rfl)) rfl ?_
    refine WL.val (V.fieldAddr fo77_7 (OV.p rfl)) rfl ?_
    refine WL.val (V.load Try.isAgg3 (OV.p rfl) (fun _ => by repeat (first | exact Rd.here rfl | apply Rd.up))) rfl ?_
    refine WL.val (V.assign (OV.p rfl)) rfl ?_
    refine WL.nil ?_
    refine WC.ret ?_
    refine BodyQ.ret (H' := C.A bc :: F) (Res.tmp rfl rfl) (fun w h => Sat.all (l := C.parts bc) h) ⟨?_, rfl⟩
    have h1 : C.sem.ready = if C.up then 0 else 70 := rfl
    rw [h1] at h0
    show _ = Value.int .i64 (if C.up then C.fuse else 0)
    cases hu : C.up <;> simp [hu] at h0 ⊢
theorem chip_Bad (b : Int) : Tells Try.prog 29 #[ptr bc 0, .int .i64 b] K (C.A bc :: F) (.bool (C.sem.bad b)) := by
  refine Does.openC ?_
  dsimp only [Cw.parts, List.cons_append, List.nil_append]
  refine Does.enter Try.func29 rfl Try.ntmps29 rfl ?_
  simp only [env0, Nat.reduceAdd]
  refine WC.seq ?_
  refine WC.region ?_
  refine WL.val (V.assign (OV.p rfl)) rfl ?_
  refine WL.nil ?_
  refine WC.seq ?_
  refine WC.region ?_
  refine WL.val (V.move (OV.p rfl)) rfl ?_
  refine WL.call (vs := [_]) Try.call43 ⟨OV.p rfl, trivial⟩ (chip_ready (C := C) (by repeat (first | exact Rds.all | apply Rds.up))) rfl ?_
  rintro _ H0 ⟨rfl, h0⟩
  subst H0
  refine WL.val (V.eql (OV.p rfl) (OV.p rfl)) rfl ?_
  refine WL.val (V.move (OV.p rfl)) rfl ?_
  refine WL.valG (oj := _) rfl rfl rfl GC.t (V.move (OV.p rfl)) rfl ?_
  refine WL.valG (oj := _) rfl rfl rfl GC.t (V.nilCheck (OV.g rfl id)) rfl ?_
  refine WL.valG (oj := _) rfl rfl rfl GC.t (V.fieldAddr fo77_5 (OV.g rfl id)) rfl ?_
  refine WL.valG (oj := _) rfl rfl rfl GC.t (V.load Try.isAgg75 (OV.g rfl id) (fun _ => by repeat (first | exact Rd.here rfl | apply Rd.up))) rfl ?_
  refine WL.valG (oj := _) rfl rfl rfl GC.t (V.move (OV.p rfl)) rfl ?_
  refine WL.valG (oj := _) rfl rfl rfl GC.t (V.val_eq (v' := .bool _) (V.lookup (k := _) Try.underlying75 Try.zeroValue4 kl3 (OV.g rfl id) (OV.g rfl id) (fun _ => by repeat (first | exact RdM.here | apply RdM.up))) (fun _ => boolF_get _ _)) rfl ?_
  refine WL.val (V.pickAnd (OV.p rfl) (OV.g rfl id)) rfl ?_
  refine WL.val (V.assign (OV.p rfl)) rfl ?_
  refine WL.nil ?_
  refine WC.ret ?_
  refine BodyQ.ret (H' := C.A bc :: F) (Res.tmp rfl rfl) (fun w h => Sat.all (l := C.parts bc) h) ⟨?_, rfl⟩
  show Value.bool (decide ((if C.up then (0 : Int) else 70) = 0) && C.marked b) = Value.bool (C.up && C.marked b)
  cases C.up <;> rfl
theorem chip_Weak (b : Int) : Does Try.prog 26 #[ptr bc 0, .int .i64 b] K (C.A bc :: F) (fun v H' => H' = (if C.sem.block b then C.weaken b else C).A bc :: F) := by
  refine Does.openC ?_
  dsimp only [Cw.parts, List.cons_append, List.nil_append]
  refine Does.enter Try.func26 rfl Try.ntmps26 rfl ?_
  simp only [env0, Nat.reduceAdd]
  refine WC.seq ?_
  refine WC.region ?_
  refine WL.val (V.move (OV.p rfl)) rfl ?_
  refine WL.val (V.neqP Try.underlying25 (OV.p rfl) (OV.p rfl)) rfl ?_
  refine WL.val (V.move (OV.p rfl)) rfl ?_
  refine WL.valG (oj := _) rfl rfl rfl GC.t (V.move (OV.p rfl)) rfl ?_
  refine WL.valG (oj := _) rfl rfl rfl GC.t (V.move (OV.p rfl)) rfl ?_
  refine WL.callG (oj := _) (vs := [_, _]) rfl rfl rfl GC.t Try.call41 ⟨OV.g rfl id, OV.g rfl id, trivial⟩ (fun hg => chip_block (C := C) b (by repeat (first | exact Rds.all | apply Rds.up))) rfl ?_
  refine WL.val (V.pickAnd (OV.p rfl) (OV.g rfl id)) rfl ?_
  refine WL.nil ?_
  refine WC.cond rfl (fun hc0 => ?_) (fun hc0 => ?_)
  · simp at hc0
    rw [if_pos (by simpa using hc0)]
    refine WC.region ?_
    refine WL.val (V.move (OV.p rfl)) rfl ?_
    refine WL.val (V.nilCheck (OV.p rfl)) rfl ?_
    refine WL.val (V.fieldAddr fo77_6 (OV.p rfl)) rfl ?_
    refine WL.val (V.load Try.isAgg75 (OV.p rfl) (fun _ => by repeat (first | exact Rd.here rfl | apply Rd.up))) rfl ?_
    refine WL.val (V.move (OV.p rfl)) rfl ?_
    refine WL.mapUpdateR (k := _) Try.underlying75 kl3 (OV.p rfl) (OV.p rfl) (OV.p rfl) (by repeat (first | exact Repl.here | apply Repl.up)) ?_
    refine WL.nil ?_
    first
    | exact BodyQ.ret (H' := C.A bc :: F) (Res.none rfl) (fun w h => Sat.all (l := C.parts bc) h) rfl
    | exact BodyQ.ret (H' := (C.weaken b).A bc :: F) (Res.none rfl) (fun w h => Sat.all (l := (C.weaken b).parts bc) (by rw [boolF_upd] at h; exact h)) rfl
  · simp at hc0
    rw [if_neg (by simpa using hc0)]
    refine WC.skip ?_
    first
    | exact BodyQ.ret (H' := C.A bc :: F) (Res.none rfl) (fun w h => Sat.all (l := C.parts bc) h) rfl
    | exact BodyQ.ret (H' := (C.weaken b).A bc :: F) (Res.none rfl) (fun w h => Sat.all (l := (C.weaken b).parts bc) (by rw [boolF_upd] at h; exact h)) rfl
theorem chip_Geometry : Tells Try.prog 38 #[ptr bc 0] K (C.A bc :: F) C.g.v := by
  refine Does.openC ?_
  dsimp only [Cw.parts, List.cons_append, List.nil_append]
  refine Does.enter Try.func38 rfl Try.ntmps38 rfl ?_
  simp only [env0, Nat.reduceAdd]
  refine WC.seq ?_
  refine WC.region ?_
  refine WL.alloc (cs := [(.int .i64 0), (.int .i64 0), (.int .i64 0), (.int .i64 0), (.int .i64 0)]) Try.zeroValue23 rfl rfl (fun b2 => ?_)
  refine WL.nil ?_
  refine WC.seq ?_
  refine WC.seq ?_
  refine WC.region ?_
  refine WL.val (V.move (OV.p rfl)) rfl ?_
  refine WL.val (V.eqlP Try.underlying25 (OV.p rfl) (OV.p rfl)) rfl ?_
  refine WL.nil ?_
  refine WC.condF' rfl (by first | rfl | (simp; done) | (simp; omega)) ?_
  refine WC.skip ?_
  refine WC.seq ?_
  refine WC.region ?_
  refine WL.val (V.move (OV.p rfl)) rfl ?_
  refine WL.val (V.nilCheck (OV.p rfl)) rfl ?_
  refine WL.val (V.fieldAddr fo77_0 (OV.p rfl)) rfl ?_
  refine WL.val (V.loadA (vs := [_, _, _, _, _]) ⟨Try.isAgg23, Try.sizeOf23⟩ (OV.p rfl) rfl (fun _ => by repeat (first | exact Rds.gets ⟨rfl, rfl, rfl, rfl, rfl, trivial⟩ | apply Rds.up))) rfl ?_
  refine WL.store (cs := [_, _, _, _, _]) Try.sizeOf23 (OV.p rfl) (OV.p rfl) rfl rfl rfl (by repeat (first | exact Upd.here (cs' := [_, _, _, _, _]) rfl rfl | apply Upd.up)) ?_
  refine WL.nil ?_
  refine WC.ret ?_
  exact BodyQ.ret (H' := C.A bc :: F) (Res.one rfl (R1.cellA (vs := [_, _, _, _, _]) rfl ⟨Try.isAgg23, Try.sizeOf23⟩ rfl (by repeat (first | exact Rds.gets ⟨rfl, rfl, rfl, rfl, rfl, trivial⟩ | apply Rds.up)))) (fun w h => Sat.all (l := C.parts bc) h.tail) ⟨rfl, rfl⟩
end
end Go.Proofs.Ytgmdagjnigkaaaa
