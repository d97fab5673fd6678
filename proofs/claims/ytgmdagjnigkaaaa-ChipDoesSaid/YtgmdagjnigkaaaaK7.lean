/- casematelaw07: same. -/
import Derived.Test.YtgmdagjnigkaaaaK5
import Derived.Test.YtgmdagjnigkaaaaU5
import Derived.Test.YtgmdagjnigkaaaaU6
namespace Go.Proofs.Ytgmdagjnigkaaaa
open Go.Sl Go.RowKit
set_option linter.unusedVariables false
set_option linter.unusedSimpArgs false
set_option maxRecDepth 20000

/-- Only blocks that are there are marked. -/
def Chip.MarkIn (S : Chip) : Prop := ∀ k, S.marked k = true → 0 ≤ k ∧ k < S.g.bl
theorem RW.rds {K : World} {F : List Assn} {a : Nat} {R : RW} : Rds K (R.A a :: F) a 0 R.cells := fun i v hi => by
  show Rd K (AllA (R.parts a) :: F) _ v
  refine Rd.inA (A := Cells a 68 R.cells) (.head _) (Rd.here ?_)
  rw [Nat.zero_add]; exact hi
theorem RW.rdb {K : World} {F : List Assn} {a : Nat} {R : RW} {b : Nat} {x : RBlock} (hx : R.blocks[b]? = some x) {i : Nat} {v : Value} (hi : x.cells[i]? = some v) : Rd K (R.A a :: F) (some ⟨R.bb, b * 4 + i, none⟩) v := by
  show Rd K (AllA (R.parts a) :: F) _ v
  exact Rd.inA (A := Cells R.bb 103 (R.blocks.flatMap RBlock.cells ++ R.rest)) (.tail _ (.head _)) (Rd.here (RW.blk_get hx hi))
section
variable {bc a : Nat} {C : Cw} {R : RW} {K : World} {F : List Assn}
theorem law07_same (hC : C.Ok) (hR : R.Ok) (hI : R.Is C.sem) (hM : C.sem.MarkIn) : Tells Try.prog 35 #[ptr bc 0, ptr a 0] K (C.A bc :: R.A a :: F) (.bool true) := by
  have hup : R.up = C.up := hI.up
  have hfu : R.fuse = C.fuse := hI.fuse
  have hg : R.g = C.g := hI.g
  have hgb := hC.mays
  unfold Geo.mays at hgb
  have hRd : ∀ i v, R.cells[i]? = some v → Rd K (C.A bc :: R.A a :: F) (some ⟨a, 0 + i, none⟩) v := fun i v hi => Rd.up (RW.rds i v hi)
  refine Does.enter Try.func35 rfl Try.ntmps35 rfl ?_
  simp only [env0, Nat.reduceAdd]
  refine WC.seq ?_
  refine WC.region ?_
  refine WL.val (V.assign (OV.p rfl)) rfl ?_
  refine WL.nil ?_
  refine WC.seq ?_
  refine WC.region ?_
  refine WL.val (V.move (OV.p rfl)) rfl ?_
  refine WL.val (V.nilCheck (OV.p rfl)) rfl ?_
  refine WL.val (V.fieldAddr fo68_2 (OV.p rfl)) rfl ?_
  refine WL.val (V.load Try.isAgg3 (OV.p rfl) (fun _ => hRd 6 _ rfl)) rfl ?_
  refine WL.val (V.assign (OV.p rfl)) rfl ?_
  refine WL.nil ?_
  refine WC.seq ?_
  refine WC.seq ?_
  refine WC.region ?_
  refine WL.val (V.move (OV.p rfl)) rfl ?_
  refine WL.val (V.nilCheck (OV.p rfl)) rfl ?_
  refine WL.val (V.fieldAddr fo68_3 (OV.p rfl)) rfl ?_
  refine WL.val (V.load Try.isAgg4 (OV.p rfl) (fun _ => hRd 7 _ rfl)) rfl ?_
  refine WL.val (V.not (OV.p rfl)) rfl ?_
  refine WL.nil ?_
  refine WC.cond rfl (fun hc0 => ?_) (fun hc0 => ?_)
  · skip
    have h0 := hc0
    have hfv : C.sem.fused = 0 := by show (if C.up then C.fuse else 0) = 0; rw [← hup]; simp at h0; rw [h0]; rfl
    refine WC.region ?_
    refine WL.val (V.assign (OV.p rfl)) rfl ?_
    refine WL.nil ?_
    refine WC.seq ?_
    refine WC.seq ?_
    refine WC.regionQ (by kernel_rfl) (by kernel_rfl) ?_
    refine WQ.val (V.move (OV.p rfl)) rfl ?_
    refine WQ.call (vs := [_]) Try.call18 ⟨OV.p rfl, trivial⟩ (chip_Up) rfl ?_
    refine WQ.val (V.move (OV.p rfl)) rfl ?_
    refine WQ.val (V.nilCheck (OV.p rfl)) rfl ?_
    refine WQ.val (V.fieldAddr fo68_3 (OV.p rfl)) rfl ?_
    refine WQ.val (V.load Try.isAgg4 (OV.p rfl) (fun _ => hRd 7 _ rfl)) rfl ?_
    refine WQ.val (V.neqB Try.underlying4 (OV.p rfl) (OV.p rfl)) rfl ?_
    refine WQ.val (V.move (OV.p rfl)) rfl ?_
    refine WQ.valG (oj := _) rfl rfl rfl GC.f (V.move (OV.p rfl)) rfl ?_
    refine WQ.callG (oj := _) (vs := [_]) rfl rfl rfl GC.f Try.call28 ⟨OV.g rfl id, trivial⟩ (fun hg => chip_Fuse) rfl ?_
    refine WQ.valG (oj := _) rfl rfl rfl GC.f (V.move (OV.p rfl)) rfl ?_
    refine WQ.valG (oj := _) rfl rfl rfl GC.f (V.neq (OV.g rfl id) (OV.g rfl id)) rfl ?_
    refine WQ.val (V.pickOr (OV.p rfl) (OV.g rfl id)) rfl ?_
    refine WQ.val (V.move (OV.p rfl)) rfl ?_
    refine WQ.valG (oj := _) rfl rfl rfl GC.f (V.move (OV.p rfl)) rfl ?_
    refine WQ.callG (oj := _) (vs := [_]) rfl rfl rfl GC.f Try.call38 ⟨OV.g rfl id, trivial⟩ (fun hg => chip_Geometry) rfl ?_
    refine WQ.valG (oj := _) rfl rfl rfl GC.f (V.move (OV.p rfl)) rfl ?_
    refine WQ.valG (oj := _) rfl rfl rfl GC.f (V.nilCheck (OV.g rfl id)) rfl ?_
    refine WQ.valG (oj := _) rfl rfl rfl GC.f (V.fieldAddr fo68_0 (OV.g rfl id)) rfl ?_
    refine WQ.valG (oj := _) rfl rfl rfl GC.f (V.loadA (vs := [.int .i64 R.g.bl, .int .i64 R.g.pg, .int .i64 R.g.se, .int .i64 R.g.sb, .int .i64 R.g.fl]) ⟨Try.isAgg23, Try.sizeOf23⟩ (OV.g rfl id) rfl (fun _ => fun i v hi => by
      match i, hi with
      | 0, hi => exact hRd 0 v hi
      | 1, hi => exact hRd 1 v hi
      | 2, hi => exact hRd 2 v hi
      | 3, hi => exact hRd 3 v hi
      | 4, hi => exact hRd 4 v hi)) rfl ?_
    refine WQ.valG (oj := _) rfl rfl rfl GC.f (V.neqA (by kernel_rfl) (OV.g rfl id) (OV.g rfl id) (eqt23 _ _ _ _ _ _ _ _ _ _)) rfl ?_
    refine WQ.val (V.pickOr (OV.p rfl) (OV.g rfl id)) rfl ?_
    refine WQ.nil ?_
    refine WC.condF' rfl ((by rw [hup, hfv, hg]; simp)) ?_
    refine WC.skip ?_
    refine WC.seq ?_
    refine WC.seq ?_
    refine WC.region ?_
    refine WL.val (V.assign (OV.p rfl)) rfl ?_
    refine WL.nil ?_
    refine WC.block ?_
    refine WC.loop (σ := Int) (fun b => [(0, ptr bc 0), (1, ptr a 0), (6, .int .i64 b)]) (fun _ => C.A bc :: R.A a :: F) (fun b => -1 ≤ b ∧ b ≤ C.g.bl + 1) (fun b => (C.g.bl + 1 - b).toNat) (-1) (by show -1 ≤ -1 ∧ -1 ≤ C.g.bl + 1; omega) (.cons rfl (.cons rfl (.cons rfl (.nil _)))) (fun w h => h) ?_
    rintro b ⟨hb1, hb2⟩
    refine WC.seq ?_
    refine WC.seq ?_
    refine WC.region ?_
    refine WL.val (V.move (OV.p rfl)) rfl ?_
    refine WL.val (V.move (OV.p rfl)) rfl ?_
    refine WL.val (V.nilCheck (OV.p rfl)) rfl ?_
    refine WL.val (V.fieldAddr fo68_0 (OV.p rfl)) rfl ?_
    refine WL.val (V.fieldAddr fo23_0 (OV.p rfl)) rfl ?_
    refine WL.val (V.load Try.isAgg3 (OV.p rfl) (fun _ => hRd 0 _ rfl)) rfl ?_
    refine WL.val (V.leq (OV.p rfl) (OV.p rfl)) rfl ?_
    refine WL.nil ?_
    refine WC.cond rfl (fun hc2 => ?_) (fun hc2 => ?_)
    · simp only [decide_eq_true_eq, decide_eq_false_iff_not] at hc2
      rw [hg] at hc2
      refine WC.skip ?_
      refine WC.seq ?_
      refine WC.block ?_
      refine WC.seq ?_
      refine WC.region ?_
      refine WL.val (V.move (OV.p rfl)) rfl ?_
      refine WL.val (V.geq (OV.p rfl) (OV.p rfl)) rfl ?_
      refine WL.val (V.move (OV.p rfl)) rfl ?_
      refine WL.valG (oj := _) rfl rfl rfl GC.t (V.move (OV.p rfl)) rfl ?_
      refine WL.valG (oj := _) rfl rfl rfl GC.t (V.move (OV.p rfl)) rfl ?_
      refine WL.valG (oj := _) rfl rfl rfl GC.t (V.nilCheck (OV.g rfl id)) rfl ?_
      refine WL.valG (oj := _) rfl rfl rfl GC.t (V.fieldAddr fo68_0 (OV.g rfl id)) rfl ?_
      refine WL.valG (oj := _) rfl rfl rfl GC.t (V.fieldAddr fo23_0 (OV.g rfl id)) rfl ?_
      refine WL.valG (oj := _) rfl rfl rfl GC.t (V.load Try.isAgg3 (OV.g rfl id) (fun _ => hRd 0 _ rfl)) rfl ?_
      refine WL.valG (oj := _) rfl rfl rfl GC.t (V.lss (OV.g rfl id) (OV.g rfl id)) rfl ?_
      refine WL.val (V.pickAnd (OV.p rfl) (OV.g rfl id)) rfl ?_
      refine WL.val (V.move (OV.p rfl)) rfl ?_
      refine WL.valG (oj := _) rfl rfl rfl GC.t (V.move (OV.p rfl)) rfl ?_
      refine WL.valG (oj := _) rfl rfl rfl GC.t (V.nilCheck (OV.g rfl id)) rfl ?_
      refine WL.valG (oj := _) rfl rfl rfl GC.t (V.fieldAddr fo68_3 (OV.g rfl id)) rfl ?_
      refine WL.valG (oj := _) rfl rfl rfl GC.t (V.load Try.isAgg4 (OV.g rfl id) (fun _ => hRd 7 _ rfl)) rfl ?_
      refine WL.val (V.pickAnd (OV.p rfl) (OV.g rfl id)) rfl ?_
      refine WL.val (V.move (OV.p rfl)) rfl ?_
      refine WL.valG (oj := _) rfl rfl rfl GC.t (V.move (OV.p rfl)) rfl ?_
      refine WL.valG (oj := _) rfl rfl rfl GC.t (V.nilCheck (OV.g rfl id)) rfl ?_
      refine WL.valG (oj := _) rfl rfl rfl GC.t (V.fieldAddr fo68_1 (OV.g rfl id)) rfl ?_
      refine WL.valG (oj := _) rfl rfl rfl GC.t (V.load Try.isAgg66 (OV.g rfl id) (fun _ => hRd 5 _ rfl)) rfl ?_
      refine WL.valG (oj := _) rfl rfl rfl GC.t (V.move (OV.p rfl)) rfl ?_
      refine WL.valG (oj := _) rfl rfl rfl GC.t (V.idxB st66 (OV.g rfl id) (OV.g rfl id) (fun hc => by have := hI.len; rw [← hI.g] at this; simp at hc; omega)) rfl ?_
      refine WL.valG (oj := _) rfl rfl rfl GC.t (V.fieldAddr fo103_2 (OV.g rfl id)) rfl ?_
      refine WL.valG (oj := _) rfl rfl rfl GC.t (V.load (v := .bool (C.sem.marked b)) Try.isAgg4 (OV.g rfl id) (fun hc => by
        have := hI.len
        rw [← hI.g] at this
        simp at hc
        obtain ⟨bn, rfl⟩ : ∃ bn : Nat, b = (bn : Int) := ⟨b.toNat, by omega⟩
        obtain ⟨x, hx⟩ : ∃ x, R.blocks[bn]? = some x := ⟨_, List.getElem?_eq_getElem (by omega)⟩
        have h9 := RW.rdb (K := K) (F := F) (a := a) hx (i := 2) (v := .bool x.bad) rfl
        rw [(hI.blk bn x hx).bad] at h9
        rw [show 0 + (bn : Int).toNat * 4 + 2 = bn * 4 + 2 by omega]
        exact Rd.up h9)) rfl ?_
      refine WL.val (V.pickAnd (OV.p rfl) (OV.g rfl id)) rfl ?_
      refine WL.val (V.assign (OV.p rfl)) rfl ?_
      refine WL.nil ?_
      refine WC.seq ?_
      refine WC.region ?_
      refine WL.val (V.move (OV.p rfl)) rfl ?_
      refine WL.val (V.move (OV.p rfl)) rfl ?_
      refine WL.call (vs := [_, _]) Try.call29 ⟨OV.p rfl, OV.p rfl, trivial⟩ (chip_Bad b) rfl ?_
      rintro _ H0 ⟨rfl, h0⟩
      subst H0
      refine WL.val (V.move (OV.p rfl)) rfl ?_
      refine WL.val (V.neqB Try.underlying4 (OV.p rfl) (OV.p rfl)) rfl ?_
      refine WL.nil ?_
      refine WC.condF' rfl ((by
        rw [hup, hg]
        show (!((C.up && C.sem.marked b) == _)) = false
        cases hm : C.sem.marked b with
        | false => simp
        | true =>
          have := hM b hm
          have e1 : (0 : Int) ≤ b := this.1
          have e2 : b < C.g.bl := this.2
          simp [e1, e2])) ?_
      refine WC.skip ?_
      refine WC.region ?_
      refine WL.val (V.move (OV.p rfl)) rfl ?_
      refine WL.val (V.addI (OV.p rfl) (OV.p rfl) (fun hc => by first | omega | (simp at hc; omega))) rfl ?_
      refine WL.val (V.assign (OV.p rfl)) rfl ?_
      refine WL.nil ?_
      refine ⟨rfl, ?_⟩
      exact ⟨b + 1, (by show -1 ≤ b + 1 ∧ b + 1 ≤ C.g.bl + 1; omega), (by show (C.g.bl + 1 - (b + 1)).toNat < (C.g.bl + 1 - b).toNat; omega), .cons rfl (.cons rfl (.cons rfl (.nil _))), fun w h => h⟩
    · simp only [decide_eq_true_eq, decide_eq_false_iff_not] at hc2
      rw [hg] at hc2
      refine WC.exit ?_
      refine WC.seq ?_
      refine WC.region ?_
      refine WL.val (V.assign (OV.p rfl)) rfl ?_
      refine WL.nil ?_
      refine WC.ret ?_
      exact BodyQ.ret (H' := C.A bc :: R.A a :: F) (Res.tmp rfl rfl) (fun w h => h) ⟨rfl, rfl⟩
  · skip
    have h0 := hc0
    have hfv : C.sem.fused = R.fuse := by show (if C.up then C.fuse else 0) = _; rw [← hup, hfu]; simp at h0; rw [h0]; rfl
    refine WC.skip ?_
    refine WC.seq ?_
    refine WC.seq ?_
    refine WC.regionQ (by kernel_rfl) (by kernel_rfl) ?_
    refine WQ.val (V.move (OV.p rfl)) rfl ?_
    refine WQ.call (vs := [_]) Try.call18 ⟨OV.p rfl, trivial⟩ (chip_Up) rfl ?_
    refine WQ.val (V.move (OV.p rfl)) rfl ?_
    refine WQ.val (V.nilCheck (OV.p rfl)) rfl ?_
    refine WQ.val (V.fieldAddr fo68_3 (OV.p rfl)) rfl ?_
    refine WQ.val (V.load Try.isAgg4 (OV.p rfl) (fun _ => hRd 7 _ rfl)) rfl ?_
    refine WQ.val (V.neqB Try.underlying4 (OV.p rfl) (OV.p rfl)) rfl ?_
    refine WQ.val (V.move (OV.p rfl)) rfl ?_
    refine WQ.valG (oj := _) rfl rfl rfl GC.f (V.move (OV.p rfl)) rfl ?_
    refine WQ.callG (oj := _) (vs := [_]) rfl rfl rfl GC.f Try.call28 ⟨OV.g rfl id, trivial⟩ (fun hg => chip_Fuse) rfl ?_
    refine WQ.valG (oj := _) rfl rfl rfl GC.f (V.move (OV.p rfl)) rfl ?_
    refine WQ.valG (oj := _) rfl rfl rfl GC.f (V.neq (OV.g rfl id) (OV.g rfl id)) rfl ?_
    refine WQ.val (V.pickOr (OV.p rfl) (OV.g rfl id)) rfl ?_
    refine WQ.val (V.move (OV.p rfl)) rfl ?_
    refine WQ.valG (oj := _) rfl rfl rfl GC.f (V.move (OV.p rfl)) rfl ?_
    refine WQ.callG (oj := _) (vs := [_]) rfl rfl rfl GC.f Try.call38 ⟨OV.g rfl id, trivial⟩ (fun hg => chip_Geometry) rfl ?_
    refine WQ.valG (oj := _) rfl rfl rfl GC.f (V.move (OV.p rfl)) rfl ?_
    refine WQ.valG (oj := _) rfl rfl rfl GC.f (V.nilCheck (OV.g rfl id)) rfl ?_
    refine WQ.valG (oj := _) rfl rfl rfl GC.f (V.fieldAddr fo68_0 (OV.g rfl id)) rfl ?_
    refine WQ.valG (oj := _) rfl rfl rfl GC.f (V.loadA (vs := [.int .i64 R.g.bl, .int .i64 R.g.pg, .int .i64 R.g.se, .int .i64 R.g.sb, .int .i64 R.g.fl]) ⟨Try.isAgg23, Try.sizeOf23⟩ (OV.g rfl id) rfl (fun _ => fun i v hi => by
      match i, hi with
      | 0, hi => exact hRd 0 v hi
      | 1, hi => exact hRd 1 v hi
      | 2, hi => exact hRd 2 v hi
      | 3, hi => exact hRd 3 v hi
      | 4, hi => exact hRd 4 v hi)) rfl ?_
    refine WQ.valG (oj := _) rfl rfl rfl GC.f (V.neqA (by kernel_rfl) (OV.g rfl id) (OV.g rfl id) (eqt23 _ _ _ _ _ _ _ _ _ _)) rfl ?_
    refine WQ.val (V.pickOr (OV.p rfl) (OV.g rfl id)) rfl ?_
    refine WQ.nil ?_
    refine WC.condF' rfl ((by rw [hup, hfv, hg]; simp)) ?_
    refine WC.skip ?_
    refine WC.seq ?_
    refine WC.seq ?_
    refine WC.region ?_
    refine WL.val (V.assign (OV.p rfl)) rfl ?_
    refine WL.nil ?_
    refine WC.block ?_
    refine WC.loop (σ := Int) (fun b => [(0, ptr bc 0), (1, ptr a 0), (6, .int .i64 b)]) (fun _ => C.A bc :: R.A a :: F) (fun b => -1 ≤ b ∧ b ≤ C.g.bl + 1) (fun b => (C.g.bl + 1 - b).toNat) (-1) (by show -1 ≤ -1 ∧ -1 ≤ C.g.bl + 1; omega) (.cons rfl (.cons rfl (.cons rfl (.nil _)))) (fun w h => h) ?_
    rintro b ⟨hb1, hb2⟩
    refine WC.seq ?_
    refine WC.seq ?_
    refine WC.region ?_
    refine WL.val (V.move (OV.p rfl)) rfl ?_
    refine WL.val (V.move (OV.p rfl)) rfl ?_
    refine WL.val (V.nilCheck (OV.p rfl)) rfl ?_
    refine WL.val (V.fieldAddr fo68_0 (OV.p rfl)) rfl ?_
    refine WL.val (V.fieldAddr fo23_0 (OV.p rfl)) rfl ?_
    refine WL.val (V.load Try.isAgg3 (OV.p rfl) (fun _ => hRd 0 _ rfl)) rfl ?_
    refine WL.val (V.leq (OV.p rfl) (OV.p rfl)) rfl ?_
    refine WL.nil ?_
    refine WC.cond rfl (fun hc2 => ?_) (fun hc2 => ?_)
    · simp only [decide_eq_true_eq, decide_eq_false_iff_not] at hc2
      rw [hg] at hc2
      refine WC.skip ?_
      refine WC.seq ?_
      refine WC.block ?_
      refine WC.seq ?_
      refine WC.region ?_
      refine WL.val (V.move (OV.p rfl)) rfl ?_
      refine WL.val (V.geq (OV.p rfl) (OV.p rfl)) rfl ?_
      refine WL.val (V.move (OV.p rfl)) rfl ?_
      refine WL.valG (oj := _) rfl rfl rfl GC.t (V.move (OV.p rfl)) rfl ?_
      refine WL.valG (oj := _) rfl rfl rfl GC.t (V.move (OV.p rfl)) rfl ?_
      refine WL.valG (oj := _) rfl rfl rfl GC.t (V.nilCheck (OV.g rfl id)) rfl ?_
      refine WL.valG (oj := _) rfl rfl rfl GC.t (V.fieldAddr fo68_0 (OV.g rfl id)) rfl ?_
      refine WL.valG (oj := _) rfl rfl rfl GC.t (V.fieldAddr fo23_0 (OV.g rfl id)) rfl ?_
      refine WL.valG (oj := _) rfl rfl rfl GC.t (V.load Try.isAgg3 (OV.g rfl id) (fun _ => hRd 0 _ rfl)) rfl ?_
      refine WL.valG (oj := _) rfl rfl rfl GC.t (V.lss (OV.g rfl id) (OV.g rfl id)) rfl ?_
      refine WL.val (V.pickAnd (OV.p rfl) (OV.g rfl id)) rfl ?_
      refine WL.val (V.move (OV.p rfl)) rfl ?_
      refine WL.valG (oj := _) rfl rfl rfl GC.t (V.move (OV.p rfl)) rfl ?_
      refine WL.valG (oj := _) rfl rfl rfl GC.t (V.nilCheck (OV.g rfl id)) rfl ?_
      refine WL.valG (oj := _) rfl rfl rfl GC.t (V.fieldAddr fo68_3 (OV.g rfl id)) rfl ?_
      refine WL.valG (oj := _) rfl rfl rfl GC.t (V.load Try.isAgg4 (OV.g rfl id) (fun _ => hRd 7 _ rfl)) rfl ?_
      refine WL.val (V.pickAnd (OV.p rfl) (OV.g rfl id)) rfl ?_
      refine WL.val (V.move (OV.p rfl)) rfl ?_
      refine WL.valG (oj := _) rfl rfl rfl GC.t (V.move (OV.p rfl)) rfl ?_
      refine WL.valG (oj := _) rfl rfl rfl GC.t (V.nilCheck (OV.g rfl id)) rfl ?_
      refine WL.valG (oj := _) rfl rfl rfl GC.t (V.fieldAddr fo68_1 (OV.g rfl id)) rfl ?_
      refine WL.valG (oj := _) rfl rfl rfl GC.t (V.load Try.isAgg66 (OV.g rfl id) (fun _ => hRd 5 _ rfl)) rfl ?_
      refine WL.valG (oj := _) rfl rfl rfl GC.t (V.move (OV.p rfl)) rfl ?_
      refine WL.valG (oj := _) rfl rfl rfl GC.t (V.idxB st66 (OV.g rfl id) (OV.g rfl id) (fun hc => by have := hI.len; rw [← hI.g] at this; simp at hc; omega)) rfl ?_
      refine WL.valG (oj := _) rfl rfl rfl GC.t (V.fieldAddr fo103_2 (OV.g rfl id)) rfl ?_
      refine WL.valG (oj := _) rfl rfl rfl GC.t (V.load (v := .bool (C.sem.marked b)) Try.isAgg4 (OV.g rfl id) (fun hc => by
        have := hI.len
        rw [← hI.g] at this
        simp at hc
        obtain ⟨bn, rfl⟩ : ∃ bn : Nat, b = (bn : Int) := ⟨b.toNat, by omega⟩
        obtain ⟨x, hx⟩ : ∃ x, R.blocks[bn]? = some x := ⟨_, List.getElem?_eq_getElem (by omega)⟩
        have h9 := RW.rdb (K := K) (F := F) (a := a) hx (i := 2) (v := .bool x.bad) rfl
        rw [(hI.blk bn x hx).bad] at h9
        rw [show 0 + (bn : Int).toNat * 4 + 2 = bn * 4 + 2 by omega]
        exact Rd.up h9)) rfl ?_
      refine WL.val (V.pickAnd (OV.p rfl) (OV.g rfl id)) rfl ?_
      refine WL.val (V.assign (OV.p rfl)) rfl ?_
      refine WL.nil ?_
      refine WC.seq ?_
      refine WC.region ?_
      refine WL.val (V.move (OV.p rfl)) rfl ?_
      refine WL.val (V.move (OV.p rfl)) rfl ?_
      refine WL.call (vs := [_, _]) Try.call29 ⟨OV.p rfl, OV.p rfl, trivial⟩ (chip_Bad b) rfl ?_
      rintro _ H0 ⟨rfl, h0⟩
      subst H0
      refine WL.val (V.move (OV.p rfl)) rfl ?_
      refine WL.val (V.neqB Try.underlying4 (OV.p rfl) (OV.p rfl)) rfl ?_
      refine WL.nil ?_
      refine WC.condF' rfl ((by
        rw [hup, hg]
        show (!((C.up && C.sem.marked b) == _)) = false
        cases hm : C.sem.marked b with
        | false => simp
        | true =>
          have := hM b hm
          have e1 : (0 : Int) ≤ b := this.1
          have e2 : b < C.g.bl := this.2
          simp [e1, e2])) ?_
      refine WC.skip ?_
      refine WC.region ?_
      refine WL.val (V.move (OV.p rfl)) rfl ?_
      refine WL.val (V.addI (OV.p rfl) (OV.p rfl) (fun hc => by first | omega | (simp at hc; omega))) rfl ?_
      refine WL.val (V.assign (OV.p rfl)) rfl ?_
      refine WL.nil ?_
      refine ⟨rfl, ?_⟩
      exact ⟨b + 1, (by show -1 ≤ b + 1 ∧ b + 1 ≤ C.g.bl + 1; omega), (by show (C.g.bl + 1 - (b + 1)).toNat < (C.g.bl + 1 - b).toNat; omega), .cons rfl (.cons rfl (.cons rfl (.nil _))), fun w h => h⟩
    · simp only [decide_eq_true_eq, decide_eq_false_iff_not] at hc2
      rw [hg] at hc2
      refine WC.exit ?_
      refine WC.seq ?_
      refine WC.region ?_
      refine WL.val (V.assign (OV.p rfl)) rfl ?_
      refine WL.nil ?_
      refine WC.ret ?_
      exact BodyQ.ret (H' := C.A bc :: R.A a :: F) (Res.tmp rfl rfl) (fun w h => h) ⟨rfl, rfl⟩
end
end Go.Proofs.Ytgmdagjnigkaaaa
