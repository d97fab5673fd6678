import Derived.Test.YtohkefolnmcjnaaGreatP20
import Derived.Test.YtohkefolnmcjnaaGreatP24
import Derived.Test.YtohkefolnmcjnaaGreatP26
/- casemateref08: the reference's drive. -/
namespace Go.Proofs.YtohkefolnmcjnaaGreat
open Go.Sl Go.RowKit
set_option linter.unusedVariables false
set_option linter.unusedSimpArgs false
set_option maxRecDepth 20000

theorem RW.rds {K : World} {F : List Assn} {a : Nat} {R : RW} : Rds K (R.A a :: F) a 0 R.cells := fun i v hi => by
  show Rd K (AllA (R.parts a) :: F) _ v
  refine Rd.inA (A := Cells a 97 R.cells) (.head _) (Rd.here ?_)
  rw [Nat.zero_add]; exact hi
theorem RW.rdb {K : World} {F : List Assn} {a : Nat} {R : RW} {b : Nat} {x : RBlock} (hx : R.blocks[b]? = some x) {i : Nat} {v : Value} (hi : x.cells[i]? = some v) : Rd K (R.A a :: F) (some ⟨R.bb, b * 4 + i, none⟩) v := by
  show Rd K (AllA (R.parts a) :: F) _ v
  exact Rd.inA (A := Cells R.bb 100 (R.blocks.flatMap RBlock.cells ++ R.rest)) (.tail _ (.head _)) (Rd.here (RW.blk_get hx hi))
theorem RW.rdg {K : World} {F : List Assn} {a : Nat} {R : RW} : Rds K (R.A a :: F) a 0 [.int .i64 R.g.bl, .int .i64 R.g.pg, .int .i64 R.g.se, .int .i64 R.g.sb, .int .i64 R.g.fl] := fun i v hi => by
  match i, hi with
  | 0, hi => exact RW.rds 0 v hi
  | 1, hi => exact RW.rds 1 v hi
  | 2, hi => exact RW.rds 2 v hi
  | 3, hi => exact RW.rds 3 v hi
  | 4, hi => exact RW.rds 4 v hi
def RW.badAt (R : RW) (b : Int) : Bool := ((R.blocks[b.toNat]?).map RBlock.bad).getD false
theorem RW.rd_bad {K : World} {F : List Assn} {a : Nat} {R : RW} {b : Int} (h : 0 ≤ b ∧ b < R.blocks.length) : Rd K (R.A a :: F) (some ⟨R.bb, 0 + b.toNat * 4 + 2, none⟩) (.bool (R.badAt b)) := by
  obtain ⟨x, hx⟩ : ∃ x, R.blocks[b.toNat]? = some x := ⟨_, List.getElem?_eq_getElem (by omega)⟩
  have e : R.badAt b = x.bad := by unfold RW.badAt; rw [hx]; rfl
  rw [e, Nat.zero_add]
  exact RW.rdb hx (i := 2) rfl
theorem RW.Is.bad {R : RW} {S : Chip} (h : R.Is S) {b : Int} (hb : 0 ≤ b ∧ b < S.g.bl) : R.badAt b = S.marked b := by
  have hl := h.len
  obtain ⟨x, hx⟩ : ∃ x, R.blocks[b.toNat]? = some x := ⟨_, List.getElem?_eq_getElem (by omega)⟩
  have e : R.badAt b = x.bad := by unfold RW.badAt; rw [hx]; rfl
  rw [e, (h.blk _ x hx).bad, show ((b.toNat : Nat) : Int) = b by omega]
/-- All pages are bytes of the right number. -/
def Chip.Reads (S : Chip) : Prop := ∀ b p, ints .u8 (S.reads b p) = nats .u8 (S.rawN b p) ∧ Small 256 (S.rawN b p) ∧ (S.rawN b p).length = S.g.raw.toNat
section
variable {a : Nat} {R : RW} {S : Chip} {K : World} {F : List Assn}
theorem ref_ReadZ {b p : Int} (hR : R.Ok) (hS : R.Is S) (hrd : S.Reads) (h0 : S.readErr b p = 0) : Does Tryz.prog 69 #[ptr a 0, .int .i64 b, .int .i64 p] K (R.A a :: F)
    (fun v H' => ∃ g, v = .tuple #[.slice (some ⟨g, 0, none⟩) R.g.raw.toNat R.g.raw.toNat, .int .i64 0] ∧ H' = Cells g 5 (nats .u8 (S.rawN b p)) :: R.A a :: F) := by
  refine (ref_Read hR hS b p).mono (fun v H' h => ?_)
  rcases h with ⟨e, bo, rfl, rfl⟩ | ⟨e, rfl, rfl⟩
  · exact ⟨bo, rfl, by rw [(hrd b p).1]⟩
  · exact absurd h0 e
theorem ref06_PackG {g : Geo} {A : Option Addr} {m cap : Nat} {d : List Nat} (hg : g.mays) (hd : Seq K F A m 1 (nats .u8 d)) (h8 : Small 256 d) (hm : m = g.se.toNat * g.sb.toNat) (hmc : m ≤ cap) :
    Does Tryz.prog 106 #[g.v, .slice A m cap] K F
      (fun v H' => ∃ A' cap', v = .slice A' g.raw.toNat cap' ∧ H' = SlA (.slice A' g.raw.toNat cap') 5 1 g.raw.toNat (nats .u8 (Chip.packG g d)) :: F) := by
  have h := ref06_Pack (bl := g.bl) (pg := g.pg) (S := g.se.toNat) (B := g.sb.toNat) (t := g.fl.toNat) (by rw [← geo_nat hg]; exact hg) hd h8 hm hmc
  rw [← geo_nat hg] at h
  rw [Geo.raw_nat hg, Int.toNat_natCast]
  exact h
theorem ref06_MarkedG {g : Geo} {A : Option Addr} {m cap : Nat} {raw : List Nat} (hg : g.mays) (hr : Seq K F A m 1 (nats .u8 raw)) (h8 : Small 256 raw) (hm : m = g.raw.toNat) (hmc : m ≤ cap) :
    Tells Tryz.prog 109 #[g.v, .slice A m cap] K F (.int .i64 (stateF g.fl.toNat g.se.toNat (g.sb.toNat + moreLen g.fl.toNat) raw : Nat)) := by
  have h := ref06_Marked (bl := g.bl) (pg := g.pg) (S := g.se.toNat) (B := g.sb.toNat) (t := g.fl.toNat) (by rw [← geo_nat hg]; exact hg) hr h8 (by rw [hm, Geo.raw_nat hg, Int.toNat_natCast]) hmc
  rw [← geo_nat hg] at h
  exact h
theorem ref08_Ahead (hS : R.Is S) (b p : Int) (ok : Bool) : Tells Tryz.prog 68 #[ptr a 0, .int .i64 b, .int .i64 p, .bool ok] K (R.A a :: F) (.int .i64 (S.ahead b p ok)) := by
  have hg := hS.g
  have hu := hS.up
  have hl := hS.len
  obtain ⟨X, hX⟩ : ∃ X, X = S.ahead b p ok := ⟨_, rfl⟩
  rw [← hX]
  unfold Chip.ahead Chip.bad at hX
  refine Does.enter Tryz.func68 rfl Tryz.ntmps68 rfl ?_
  simp only [env0, Nat.reduceAdd]
  refine WC.sr ?_
  refine WL.val (V.assign (OV.p rfl)) rfl ?_
  refine WL.nil ?_
  refine WC.seq ?_
  refine WC.sr ?_
  refine WL.val (V.move (OV.p rfl)) rfl ?_
  refine WL.val (V.nilCheck (OV.p rfl)) rfl ?_
  refine WL.val (V.fieldAddr fo97_3 (OV.p rfl)) rfl ?_
  refine WL.val (V.load Tryz.isAgg4 (OV.p rfl) (fun _ => RW.rds 7 _ rfl)) rfl ?_
  refine WL.val (V.not (OV.p rfl)) rfl ?_
  refine WL.nil ?_
  refine WC.cond rfl (fun hc0 => ?_) (fun hc0 => ?_)
  ·skip
   have h0 := hc0
   have hX1 : X = 70 := by rw [hX, if_pos (by rw [← hu]; simpa using h0)]
   refine WC.sr ?_
   refine WL.val (V.assign (OV.p rfl)) rfl ?_
   refine WL.nil ?_
   refine WC.ret ?_
   exact BodyQ.ret (H' := R.A a :: F) (Res.tmp rfl rfl) (fun w h => h) ⟨by rw [hX1], rfl⟩
  ·skip
   have h0 := hc0
   have hu1 : S.up = true := by rw [← hu]; simpa using h0
   rw [if_neg (by rw [hu1]; decide)] at hX
   refine WC.skip ?_
   refine WC.seq ?_
   refine WC.sr ?_
   refine WL.val (V.move (OV.p rfl)) rfl ?_
   refine WL.val (V.lss (OV.p rfl) (OV.p rfl)) rfl ?_
   refine WL.val (V.move (OV.p rfl)) rfl ?_
   refine WL.valG (oj := _) rfl rfl rfl GC.f (V.move (OV.p rfl)) rfl ?_
   refine WL.valG (oj := _) rfl rfl rfl GC.f (V.move (OV.p rfl)) rfl ?_
   refine WL.valG (oj := _) rfl rfl rfl GC.f (V.nilCheck (OV.g rfl id)) rfl ?_
   refine WL.valG (oj := _) rfl rfl rfl GC.f (V.fieldAddr fo97_0 (OV.g rfl id)) rfl ?_
   refine WL.valG (oj := _) rfl rfl rfl GC.f (V.fieldAddr fo23_0 (OV.g rfl id)) rfl ?_
   refine WL.valG (oj := _) rfl rfl rfl GC.f (V.load Tryz.isAgg3 (OV.g rfl id) (fun _ => RW.rds 0 _ rfl)) rfl ?_
   refine WL.valG (oj := _) rfl rfl rfl GC.f (V.geq (OV.g rfl id) (OV.g rfl id)) rfl ?_
   refine WL.val (V.pickOr (OV.p rfl) (OV.g rfl id)) rfl ?_
   refine WL.val (V.move (OV.p rfl)) rfl ?_
   refine WL.valG (oj := _) rfl rfl rfl GC.f (V.move (OV.p rfl)) rfl ?_
   refine WL.valG (oj := _) rfl rfl rfl GC.f (V.lss (OV.g rfl id) (OV.p rfl)) rfl ?_
   refine WL.val (V.pickOr (OV.p rfl) (OV.g rfl id)) rfl ?_
   refine WL.val (V.move (OV.p rfl)) rfl ?_
   refine WL.valG (oj := _) rfl rfl rfl GC.f (V.move (OV.p rfl)) rfl ?_
   refine WL.valG (oj := _) rfl rfl rfl GC.f (V.move (OV.p rfl)) rfl ?_
   refine WL.valG (oj := _) rfl rfl rfl GC.f (V.nilCheck (OV.g rfl id)) rfl ?_
   refine WL.valG (oj := _) rfl rfl rfl GC.f (V.fieldAddr fo97_0 (OV.g rfl id)) rfl ?_
   refine WL.valG (oj := _) rfl rfl rfl GC.f (V.fieldAddr fo23_1 (OV.g rfl id)) rfl ?_
   refine WL.valG (oj := _) rfl rfl rfl GC.f (V.load Tryz.isAgg3 (OV.g rfl id) (fun _ => RW.rds 1 _ rfl)) rfl ?_
   refine WL.valG (oj := _) rfl rfl rfl GC.f (V.geq (OV.g rfl id) (OV.g rfl id)) rfl ?_
   refine WL.val (V.pickOr (OV.p rfl) (OV.g rfl id)) rfl ?_
   refine WL.val (V.move (OV.p rfl)) rfl ?_
   refine WL.valG (oj := _) rfl rfl rfl GC.f (V.move (OV.p rfl)) rfl ?_
   refine WL.valG (oj := _) rfl rfl rfl GC.f (V.not (OV.g rfl id)) rfl ?_
   refine WL.val (V.pickOr (OV.p rfl) (OV.g rfl id)) rfl ?_
   refine WL.nil ?_
   refine WC.cond rfl (fun hc1 => ?_) (fun hc1 => ?_)
   ·simp only [Bool.or_eq_true, Bool.or_eq_false_iff, Bool.not_eq_true', Bool.not_eq_false', decide_eq_true_eq, decide_eq_false_iff_not] at hc1
    have h1 := hc1
    rw [hg] at h1
    have hX1 : X = 1 := by rw [hX, if_pos (by rcases h1 with (((h | h) | h) | h) | h <;> first | exact .inl h | exact .inr (.inl h) | exact .inr (.inr (.inl h)) | exact .inr (.inr (.inr (.inl h))) | exact .inr (.inr (.inr (.inr h))))]
    refine WC.sr ?_
    refine WL.val (V.assign (OV.p rfl)) rfl ?_
    refine WL.nil ?_
    refine WC.ret ?_
    exact BodyQ.ret (H' := R.A a :: F) (Res.tmp rfl rfl) (fun w h => h) ⟨by rw [hX1], rfl⟩
   ·simp only [Bool.or_eq_true, Bool.or_eq_false_iff, Bool.not_eq_true', Bool.not_eq_false', decide_eq_true_eq, decide_eq_false_iff_not] at hc1
    have h1 := hc1
    rw [hg] at h1
    obtain ⟨⟨⟨⟨k1, k2⟩, k3⟩, k4⟩, k5⟩ := h1
    rw [if_neg (by rintro (h | h | h | h | h) <;> first | omega | (rw [k5] at h; cases h))] at hX
    have hbd := hS.bad (b := b) (by omega)
    have hbl : 0 ≤ b ∧ b < R.blocks.length := by omega
    rw [hu1, Bool.true_and, ← hbd] at hX
    refine WC.skip ?_
    refine WC.seq ?_
    refine WC.sr ?_
    refine WL.val (V.move (OV.p rfl)) rfl ?_
    refine WL.val (V.nilCheck (OV.p rfl)) rfl ?_
    refine WL.val (V.fieldAddr fo97_1 (OV.p rfl)) rfl ?_
    refine WL.val (V.load Tryz.isAgg95 (OV.p rfl) (fun _ => RW.rds 5 _ rfl)) rfl ?_
    refine WL.val (V.move (OV.p rfl)) rfl ?_
    refine WL.val (V.idxB st95 (OV.p rfl) (OV.p rfl) (fun hc => by omega)) rfl ?_
    refine WL.val (V.fieldAddr fo100_2 (OV.p rfl)) rfl ?_
    refine WL.val (V.load Tryz.isAgg4 (OV.p rfl) (fun _ => RW.rd_bad hbl)) rfl ?_
    refine WL.nil ?_
    refine WC.cond rfl (fun hc2 => ?_) (fun hc2 => ?_)
    ·skip
     have h2 := hc2
     rw [h2] at hX
     refine WC.sr ?_
     refine WL.val (V.assign (OV.p rfl)) rfl ?_
     refine WL.nil ?_
     refine WC.ret ?_
     exact BodyQ.ret (H' := R.A a :: F) (Res.tmp rfl rfl) (fun w h => h) ⟨by rw [hX]; rfl, rfl⟩
    ·skip
     have h2 := hc2
     rw [h2] at hX
     refine WC.skip ?_
     refine WC.sr ?_
     refine WL.val (V.assign (OV.p rfl)) rfl ?_
     refine WL.nil ?_
     refine WC.ret ?_
     exact BodyQ.ret (H' := R.A a :: F) (Res.tmp rfl rfl) (fun w h => h) ⟨by rw [hX]; rfl, rfl⟩
theorem ref08_after (hR : R.Ok) (hS : R.Is S) (b e : Int) : Does Tryz.prog 104 #[ptr a 0, .int .i64 b, .int .i64 e] K (R.A a :: F)
    (fun v H' => ∃ R' : RW, R'.Ok ∧ R'.Is (Chip.done b (S, e)).1 ∧ H' = R'.A a :: F ∧ v = .int .i64 (Chip.done b (S, e)).2) := by
  refine Does.enter Tryz.func104 rfl Tryz.ntmps104 rfl ?_
  simp only [env0, Nat.reduceAdd]
  refine WC.sr ?_
  refine WL.val (V.assign (OV.p rfl)) rfl ?_
  refine WL.nil ?_
  refine WC.seq ?_
  refine WC.sr ?_
  refine WL.val (V.move (OV.p rfl)) rfl ?_
  refine WL.val (V.neq (OV.p rfl) (OV.p rfl)) rfl ?_
  refine WL.nil ?_
  refine WC.cond rfl (fun hc0 => ?_) (fun hc0 => ?_)
  ·simp only [Bool.not_eq_true', Bool.not_eq_false', decide_eq_true_eq, decide_eq_false_iff_not] at hc0
   have h0 := hc0
   have hd : Chip.done b (S, e) = (S, e) := by unfold Chip.done; rw [if_pos h0]
   rw [hd]
   refine WC.sr ?_
   refine WL.val (V.move (OV.p rfl)) rfl ?_
   refine WL.val (V.assign (OV.p rfl)) rfl ?_
   refine WL.nil ?_
   refine WC.ret ?_
   exact BodyQ.ret (H' := R.A a :: F) (Res.tmp rfl rfl) (fun w h => h) ⟨R, hR, hS, rfl, rfl⟩
  ·simp only [Bool.not_eq_true', Bool.not_eq_false', decide_eq_true_eq, decide_eq_false_iff_not] at hc0
   have h0 := hc0
   have hd : Chip.done b (S, e) = if (S.mark b).2 ≠ 0 then S.mark b else ((S.mark b).1, 72) := by unfold Chip.done; rw [if_neg (fun h => h (by omega))]
   rw [hd]
   refine WC.skip ?_
   refine WC.sr ?_
   refine WL.val (V.move (OV.p rfl)) rfl ?_
   refine WL.val (V.move (OV.p rfl)) rfl ?_
   refine WL.call (vs := [_, _]) Tryz.call141 ⟨OV.p rfl, OV.p rfl, trivial⟩ (ref_Mark hR hS b) rfl ?_
   rintro v1 _ ⟨R1, hR1, hS1, rfl, rfl⟩
   refine WL.val (V.assign (OV.p rfl)) rfl ?_
   refine WL.nil ?_
   refine WC.seq ?_
   refine WC.sr ?_
   refine WL.val (V.move (OV.p rfl)) rfl ?_
   refine WL.val (V.neq (OV.p rfl) (OV.p rfl)) rfl ?_
   refine WL.nil ?_
   refine WC.cond rfl (fun hc1 => ?_) (fun hc1 => ?_)
   ·simp only [Bool.not_eq_true', Bool.not_eq_false', decide_eq_true_eq, decide_eq_false_iff_not] at hc1
    have h1 := hc1
    rw [if_pos h1]
    refine WC.sr ?_
    refine WL.val (V.move (OV.p rfl)) rfl ?_
    refine WL.val (V.assign (OV.p rfl)) rfl ?_
    refine WL.nil ?_
    refine WC.ret ?_
    exact BodyQ.ret (H' := R1.A a :: F) (Res.tmp rfl rfl) (fun w h => h) ⟨R1, hR1, hS1, rfl, rfl⟩
   ·simp only [Bool.not_eq_true', Bool.not_eq_false', decide_eq_true_eq, decide_eq_false_iff_not] at hc1
    have h1 := hc1
    rw [if_neg (fun h => h (by omega))]
    refine WC.skip ?_
    refine WC.sr ?_
    refine WL.val (V.assign (OV.p rfl)) rfl ?_
    refine WL.nil ?_
    refine WC.ret ?_
    exact BodyQ.ret (H' := R1.A a :: F) (Res.tmp rfl rfl) (fun w h => h) ⟨R1, hR1, hS1, rfl, rfl⟩
theorem ref08_Write (hR : R.Ok) (hS : R.Is S) (b p : Int) {A : Option Addr} {m cap : Nat} {d : List Nat} (hd : Seq K F A m 1 (nats .u8 d)) (h8 : Small 256 d) (hmc : m ≤ cap) (hm : m ≤ 1000000) :
    Does Tryz.prog 60 #[ptr a 0, .int .i64 b, .int .i64 p, .slice A m cap] K (R.A a :: F)
      (fun v H' => ∃ R' : RW, R'.Ok ∧ R'.Is (S.dWrite b p d).1 ∧ H' = R'.A a :: F ∧ v = .int .i64 (S.dWrite b p d).2) := by
  have hl : d.length = m := by simpa [nats] using hd.len
  have hg := hR.mays
  have hrm := Geo.room_nat hg
  have hok : decide ((m : Int) = R.g.room) = decide (d.length = S.room) := by
    apply decide_eq_decide.2
    unfold Chip.room
    rw [← hS.g]
    omega
  obtain ⟨X, hX⟩ : ∃ X, X = S.dWrite b p d := ⟨_, rfl⟩
  rw [← hX]
  unfold Chip.dWrite at hX
  have hrb := Geo.raw_bd hg
  refine Does.enter Tryz.func60 rfl Tryz.ntmps60 rfl ?_
  simp only [env0, Nat.reduceAdd]
  refine WC.sr ?_
  refine WL.val (V.assign (OV.p rfl)) rfl ?_
  refine WL.nil ?_
  refine WC.sr ?_
  refine WL.val (V.move (OV.p rfl)) rfl ?_
  refine WL.val (V.move (OV.p rfl)) rfl ?_
  refine WL.val (V.move (OV.p rfl)) rfl ?_
  refine WL.val (V.move (OV.p rfl)) rfl ?_
  refine WL.val (V.len (t := 38) Tryz.runUnderlying38 (OV.p rfl)) rfl ?_
  refine WL.val (V.move (OV.p rfl)) rfl ?_
  refine WL.val (V.nilCheck (OV.p rfl)) rfl ?_
  refine WL.val (V.fieldAddr fo97_0 (OV.p rfl)) rfl ?_
  refine WL.val (V.loadA (vs := [.int .i64 R.g.bl, .int .i64 R.g.pg, .int .i64 R.g.se, .int .i64 R.g.sb, .int .i64 R.g.fl]) ⟨Tryz.isAgg23, Tryz.sizeOf23⟩ (OV.p rfl) rfl (fun _ => RW.rdg)) rfl ?_
  refine WL.call (vs := [_]) Tryz.call22 ⟨OV.p rfl, trivial⟩ (ref06_Room R.g hg _ _) rfl ?_
  rintro _ H0 ⟨rfl, h0⟩
  subst H0
  refine WL.val (V.val_eq (v' := .bool (decide (d.length = S.room))) (V.eql (OV.p rfl) (OV.p rfl)) (fun _ => by rw [hok])) rfl ?_
  refine WL.call (vs := [_, _, _, _]) Tryz.call68 ⟨OV.p rfl, OV.p rfl, OV.p rfl, OV.p rfl, trivial⟩ (ref08_Ahead hS b p (decide (d.length = S.room))) rfl ?_
  rintro _ H0 ⟨rfl, h0⟩
  subst H0
  refine WL.val (V.assign (OV.p rfl)) rfl ?_
  refine WL.nil ?_
  refine WC.seq ?_
  refine WC.sr ?_
  refine WL.val (V.move (OV.p rfl)) rfl ?_
  refine WL.val (V.neq (OV.p rfl) (OV.p rfl)) rfl ?_
  refine WL.nil ?_
  refine WC.cond rfl (fun hc0 => ?_) (fun hc0 => ?_)
  ·simp only [Bool.not_eq_true', Bool.not_eq_false', decide_eq_true_eq, decide_eq_false_iff_not] at hc0
   have h0 := hc0
   rw [if_pos h0] at hX
   refine WC.sr ?_
   refine WL.val (V.move (OV.p rfl)) rfl ?_
   refine WL.val (V.assign (OV.p rfl)) rfl ?_
   refine WL.nil ?_
   refine WC.ret ?_
   exact BodyQ.ret (H' := R.A a :: F) (Res.tmp rfl rfl) (fun w h => h) ⟨R, hR, by rw [hX]; exact hS, rfl, by rw [hX]⟩
  ·simp only [Bool.not_eq_true', Bool.not_eq_false', decide_eq_true_eq, decide_eq_false_iff_not] at hc0
   have h0 := hc0
   have h0' : S.ahead b p (decide (d.length = S.room)) = 0 := by omega
   rw [if_neg (fun h => h h0')] at hX
   have hdl : m = R.g.se.toNat * R.g.sb.toNat := by
     have := (Chip.ahead_zero h0').2.2.1
     have := of_decide_eq_true this
     unfold Chip.room at this
     rw [← hS.g] at this
     omega
   have hpk : Chip.packG R.g d = Chip.packG S.g d := by rw [hS.g]
   have hN := NGood.of (bl := R.g.bl) (pg := R.g.pg) (by rw [← geo_nat hg]; exact hg)
   have hp8 : Small 256 (Chip.packG R.g d) := packF_small hN.t h8
   have hpl : (Chip.packG R.g d).length = R.g.raw.toNat := by unfold Chip.packG; rw [packF_length hN.t h8 (hl.trans hdl), Geo.raw_nat hg, Int.toNat_natCast]
   refine WC.skip ?_
   refine WC.sr ?_
   refine WL.val (V.move (OV.p rfl)) rfl ?_
   refine WL.val (V.move (OV.p rfl)) rfl ?_
   refine WL.val (V.move (OV.p rfl)) rfl ?_
   refine WL.val (V.move (OV.p rfl)) rfl ?_
   refine WL.val (V.move (OV.p rfl)) rfl ?_
   refine WL.val (V.move (OV.p rfl)) rfl ?_
   refine WL.val (V.nilCheck (OV.p rfl)) rfl ?_
   refine WL.val (V.fieldAddr fo97_0 (OV.p rfl)) rfl ?_
   refine WL.val (V.loadA (vs := [.int .i64 R.g.bl, .int .i64 R.g.pg, .int .i64 R.g.se, .int .i64 R.g.sb, .int .i64 R.g.fl]) ⟨Tryz.isAgg23, Tryz.sizeOf23⟩ (OV.p rfl) rfl (fun _ => RW.rdg)) rfl ?_
   refine WL.val (V.move (OV.p rfl)) rfl ?_
   refine WL.call (vs := [_, _]) Tryz.call106 ⟨OV.p rfl, OV.p rfl, trivial⟩ (ref06_PackG hg (hd.up) h8 hdl hmc) rfl ?_
   rintro _ _ ⟨Ap, cp, rfl, rfl⟩
   refine WL.sub (Sub.refl _) (fun w h => h.p1) ?_
   refine WL.call (vs := [_, _, _, _]) Tryz.call105 ⟨OV.p rfl, OV.p rfl, OV.p rfl, OV.p rfl, trivial⟩ (ref_Program hR hS b p (xs := intsOf (Chip.packG R.g d)) (intsOf_bytes hp8) (by rw [← nats_intsOf]; exact SlA.seq (by rw [nats_length, hpl, Nat.mul_one])) (by omega)) rfl ?_
   rintro v1 _ ⟨R1, hR1, hS1, rfl, rfl⟩
   refine WL.call (vs := [_, _, _]) Tryz.call104 ⟨OV.p rfl, OV.p rfl, OV.p rfl, trivial⟩ (ref08_after hR1 hS1 b _) rfl ?_
   rintro v2 _ ⟨R2, hR2, hS2, rfl, rfl⟩
   refine WL.val (V.assign (OV.p rfl)) rfl ?_
   refine WL.nil ?_
   refine WC.ret ?_
   refine BodyQ.ret (H' := R2.A a :: F) (Res.tmp rfl rfl) (fun w h => h.sel 2 [0] rfl) ⟨R2, hR2, ?_, rfl, ?_⟩
   · rw [hX, ← hpk]; exact hS2
   · rw [hX, ← hpk]
theorem ref08_Erase (hR : R.Ok) (hS : R.Is S) (b : Int) : Does Tryz.prog 62 #[ptr a 0, .int .i64 b] K (R.A a :: F)
      (fun v H' => ∃ R' : RW, R'.Ok ∧ R'.Is (S.dErase b).1 ∧ H' = R'.A a :: F ∧ v = .int .i64 (S.dErase b).2) := by
  obtain ⟨X, hX⟩ : ∃ X, X = S.dErase b := ⟨_, rfl⟩
  rw [← hX]
  unfold Chip.dErase at hX
  refine Does.enter Tryz.func62 rfl Tryz.ntmps62 rfl ?_
  simp only [env0, Nat.reduceAdd]
  refine WC.sr ?_
  refine WL.val (V.assign (OV.p rfl)) rfl ?_
  refine WL.nil ?_
  refine WC.sr ?_
  refine WL.val (V.move (OV.p rfl)) rfl ?_
  refine WL.val (V.move (OV.p rfl)) rfl ?_
  refine WL.call (vs := [_, _, _, _]) Tryz.call68 ⟨OV.p rfl, OV.p rfl, OV.p rfl, OV.p rfl, trivial⟩ (ref08_Ahead hS b 0 true) rfl ?_
  rintro _ H0 ⟨rfl, h0⟩
  subst H0
  refine WL.val (V.assign (OV.p rfl)) rfl ?_
  refine WL.nil ?_
  refine WC.seq ?_
  refine WC.sr ?_
  refine WL.val (V.move (OV.p rfl)) rfl ?_
  refine WL.val (V.neq (OV.p rfl) (OV.p rfl)) rfl ?_
  refine WL.nil ?_
  refine WC.cond rfl (fun hc0 => ?_) (fun hc0 => ?_)
  ·simp only [Bool.not_eq_true', Bool.not_eq_false', decide_eq_true_eq, decide_eq_false_iff_not] at hc0
   have h0 := hc0
   rw [if_pos h0] at hX
   refine WC.sr ?_
   refine WL.val (V.move (OV.p rfl)) rfl ?_
   refine WL.val (V.assign (OV.p rfl)) rfl ?_
   refine WL.nil ?_
   refine WC.ret ?_
   exact BodyQ.ret (H' := R.A a :: F) (Res.tmp rfl rfl) (fun w h => h) ⟨R, hR, by rw [hX]; exact hS, rfl, by rw [hX]⟩
  ·simp only [Bool.not_eq_true', Bool.not_eq_false', decide_eq_true_eq, decide_eq_false_iff_not] at hc0
   have h0 := hc0
   rw [if_neg (fun h => h (by omega))] at hX
   refine WC.skip ?_
   refine WC.sr ?_
   refine WL.val (V.move (OV.p rfl)) rfl ?_
   refine WL.val (V.move (OV.p rfl)) rfl ?_
   refine WL.val (V.move (OV.p rfl)) rfl ?_
   refine WL.val (V.move (OV.p rfl)) rfl ?_
   refine WL.call (vs := [_, _]) Tryz.call108 ⟨OV.p rfl, OV.p rfl, trivial⟩ (ref_Erase hR hS b) rfl ?_
   rintro v1 _ ⟨R1, hR1, hS1, rfl, rfl⟩
   refine WL.call (vs := [_, _, _]) Tryz.call104 ⟨OV.p rfl, OV.p rfl, OV.p rfl, trivial⟩ (ref08_after hR1 hS1 b _) rfl ?_
   rintro v2 _ ⟨R2, hR2, hS2, rfl, rfl⟩
   refine WL.val (V.assign (OV.p rfl)) rfl ?_
   refine WL.nil ?_
   refine WC.ret ?_
   exact BodyQ.ret (H' := R2.A a :: F) (Res.tmp rfl rfl) (fun w h => h) ⟨R2, hR2, by rw [hX]; exact hS2, rfl, by rw [hX]⟩
theorem ref08_Good (hS : R.Is S) (hg : S.g.mays) : Does Tryz.prog 19 #[ptr a 0] K (R.A a :: F)
    (fun v H' => ∃ A' c', v = .slice A' S.good.length c' ∧ H' = SlA (.slice A' S.good.length c') 3 1 S.good.length (ints .i64 S.good) :: R.A a :: F) := by
  have hgb := hg
  unfold Geo.mays at hgb
  have hge := hS.g
  have hu := hS.up
  have hlen := hS.len
  obtain ⟨n, hn⟩ : ∃ n : Nat, S.g.bl = (n : Int) := ⟨S.g.bl.toNat, by omega⟩
  have hgd : S.good = S.goodTo n := by unfold Chip.good; rw [hn, Int.toNat_natCast]
  rw [hgd]
  cases hup : R.up with
  | false =>
    have hz : ∀ k, S.goodTo k = [] := fun k => by
      induction k with
      | zero => rfl
      | succ k ih => rw [Chip.goodTo, ← hu, hup, if_neg (by simp), ih]
    rw [hz n]
    have hcell : R.cells[7]? = some (.bool false) := by show some (Value.bool R.up) = _; rw [hup]
    refine Does.enter Tryz.func19 rfl Tryz.ntmps19 rfl ?_
    simp only [env0, Nat.reduceAdd]
    refine WC.sr ?_
    refine WL.val (V.assign (OV.p rfl)) rfl ?_
    refine WL.nil ?_
    refine WC.sr ?_
    refine WL.val (V.assign (OV.p rfl)) rfl ?_
    refine WL.nil ?_
    refine WC.seq ?_
    refine WC.sr ?_
    refine WL.val (V.assign (OV.p rfl)) rfl ?_
    refine WL.nil ?_
    refine WC.block ?_
    refine WC.rounds 1 ?_
    refine WC.seq ?_
    refine WC.sr ?_
    refine WL.val (V.move (OV.p rfl)) rfl ?_
    refine WL.val (V.move (OV.p rfl)) rfl ?_
    refine WL.val (V.nilCheck (OV.p rfl)) rfl ?_
    refine WL.val (V.fieldAddr fo97_0 (OV.p rfl)) rfl ?_
    refine WL.val (V.fieldAddr fo23_0 (OV.p rfl)) rfl ?_
    refine WL.val (V.load Tryz.isAgg3 (OV.p rfl) (fun _ => RW.rds 0 _ rfl)) rfl ?_
    refine WL.val (V.lss (OV.p rfl) (OV.p rfl)) rfl ?_
    refine WL.val (V.move (OV.p rfl)) rfl ?_
    refine WL.valG (oj := _) rfl rfl rfl GC.t (V.move (OV.p rfl)) rfl ?_
    refine WL.valG (oj := _) rfl rfl rfl GC.t (V.nilCheck (OV.g rfl id)) rfl ?_
    refine WL.valG (oj := _) rfl rfl rfl GC.t (V.fieldAddr fo97_3 (OV.g rfl id)) rfl ?_
    refine WL.valG (oj := _) rfl rfl rfl GC.t (V.load Tryz.isAgg4 (OV.g rfl id) (fun _ => RW.rds 7 _ hcell)) rfl ?_
    refine WL.val (V.pickAnd (OV.p rfl) (OV.g rfl id)) rfl ?_
    refine WL.nil ?_
    refine WC.condF' rfl ((by simp)) ?_
    refine WC.exit ?_
    refine WC.sr ?_
    refine WL.val (V.move (OV.p rfl)) rfl ?_
    refine WL.val (V.assign (OV.p rfl)) rfl ?_
    refine WL.nil ?_
    refine WC.ret ?_
    exact BodyQ.ret (H' := SlA (.slice none 0 0) 3 1 0 [] :: R.A a :: F) (Res.tmp rfl rfl) (fun w h => Sat.slNil h _ _) ⟨none, 0, rfl, rfl⟩
  | true =>
    have hcell : R.cells[7]? = some (.bool true) := by show some (Value.bool R.up) = _; rw [hup]
    refine Does.enter Tryz.func19 rfl Tryz.ntmps19 rfl ?_
    simp only [env0, Nat.reduceAdd]
    refine WC.sr ?_
    refine WL.val (V.assign (OV.p rfl)) rfl ?_
    refine WL.nil ?_
    refine WC.sr ?_
    refine WL.val (V.assign (OV.p rfl)) rfl ?_
    refine WL.nil ?_
    refine WC.seq ?_
    refine WC.sr ?_
    refine WL.val (V.assign (OV.p rfl)) rfl ?_
    refine WL.nil ?_
    refine WC.block ?_
    refine WC.loop (σ := Nat × Option Addr × Nat) (fun x => [(0, ptr a 0), (3, .slice x.2.1 (S.goodTo x.1).length x.2.2), (4, .int .i64 (x.1 : Int))]) (fun x => SlA (.slice x.2.1 (S.goodTo x.1).length x.2.2) 3 1 (S.goodTo x.1).length (ints .i64 (S.goodTo x.1)) :: R.A a :: F) (fun x => x.1 ≤ n) (fun x => n - x.1) (0, none, 0) (Nat.zero_le _) (.cons rfl (.cons rfl (.cons rfl (.nil _)))) (fun w h => Sat.slNil h _ _) ?_
    rintro ⟨k, Ao, co⟩ hk
    dsimp only at hk ⊢
    have hgl := Chip.goodTo_length S k
    refine WC.seq ?_
    refine WC.sr ?_
    refine WL.val (V.move (OV.p rfl)) rfl ?_
    refine WL.val (V.move (OV.p rfl)) rfl ?_
    refine WL.val (V.nilCheck (OV.p rfl)) rfl ?_
    refine WL.val (V.fieldAddr fo97_0 (OV.p rfl)) rfl ?_
    refine WL.val (V.fieldAddr fo23_0 (OV.p rfl)) rfl ?_
    refine WL.val (V.load Tryz.isAgg3 (OV.p rfl) (fun _ => Rd.up (RW.rds 0 _ rfl))) rfl ?_
    refine WL.val (V.lss (OV.p rfl) (OV.p rfl)) rfl ?_
    refine WL.val (V.move (OV.p rfl)) rfl ?_
    refine WL.valG (oj := _) rfl rfl rfl GC.t (V.move (OV.p rfl)) rfl ?_
    refine WL.valG (oj := _) rfl rfl rfl GC.t (V.nilCheck (OV.g rfl id)) rfl ?_
    refine WL.valG (oj := _) rfl rfl rfl GC.t (V.fieldAddr fo97_3 (OV.g rfl id)) rfl ?_
    refine WL.valG (oj := _) rfl rfl rfl GC.t (V.load Tryz.isAgg4 (OV.g rfl id) (fun _ => Rd.up (RW.rds 7 _ hcell))) rfl ?_
    refine WL.val (V.pickAnd (OV.p rfl) (OV.g rfl id)) rfl ?_
    refine WL.nil ?_
    refine WC.cond rfl (fun hc0 => ?_) (fun hc0 => ?_)
    ·simp only [Bool.and_true, decide_eq_true_eq, decide_eq_false_iff_not] at hc0
     rw [hge, hn] at hc0
     have hkn : k < n := by omega
     have hbk : 0 ≤ (k : Int) ∧ (k : Int) < R.blocks.length := by omega
     have hbd := hS.bad (b := (k : Int)) (by omega)
     have hgs : S.goodTo (k + 1) = if R.badAt (k : Int) then S.goodTo k else S.goodTo k ++ [(k : Int)] := by rw [Chip.goodTo]; unfold Chip.bad; rw [← hu, hup, hbd]; cases S.marked (k : Int) <;> rfl
     refine WC.skip ?_
     refine WC.seq ?_
     refine WC.block ?_
     refine WC.sr ?_
     refine WL.val (V.move (OV.p rfl)) rfl ?_
     refine WL.val (V.nilCheck (OV.p rfl)) rfl ?_
     refine WL.val (V.fieldAddr fo97_1 (OV.p rfl)) rfl ?_
     refine WL.val (V.load Tryz.isAgg95 (OV.p rfl) (fun _ => Rd.up (RW.rds 5 _ rfl))) rfl ?_
     refine WL.val (V.move (OV.p rfl)) rfl ?_
     refine WL.val (V.idxB st95 (OV.p rfl) (OV.p rfl) (fun hc => by omega)) rfl ?_
     refine WL.val (V.fieldAddr fo100_2 (OV.p rfl)) rfl ?_
     refine WL.val (V.load Tryz.isAgg4 (OV.p rfl) (fun _ => Rd.up (RW.rd_bad hbk))) rfl ?_
     refine WL.val (V.not (OV.p rfl)) rfl ?_
     refine WL.nil ?_
     refine WC.cond rfl (fun hc1 => ?_) (fun hc1 => ?_)
     ·skip
      have h1 := hc1
      simp only [Bool.not_eq_true', Bool.not_eq_false'] at h1
      rw [h1] at hgs
      refine WC.region ?_
      refine WL.val (V.move (OV.p rfl)) rfl ?_
      refine WL.val (V.move (OV.p rfl)) rfl ?_
      refine WL.buildSlice (E := 3) (cs := [_]) (vs := [(0, _)]) ⟨OV.p rfl, trivial⟩ rfl (bsl42_1_0 _) rfl (fun b31 => ?_)
      refine WL.sub (Sub.refl _) (fun w h => h.p1) ?_
      refine WL.append (m := (S.goodTo k).length) (q := 1) (news := [.int .i64 (k : Int)]) Tryz.underlying42 el3 (OV.p rfl) (OV.p rfl) (Seq.all rfl) (by intro u hu; rw [List.mem_singleton.1 hu]; rfl) (by omega) rfl rfl (fun A' c' hA' hc' => ?_)
      refine WL.val (V.assign (OV.p rfl)) rfl ?_
      refine WL.nil ?_
      refine WC.region ?_
      refine WL.val (V.move (OV.p rfl)) rfl ?_
      refine WL.val (V.addI (OV.p rfl) (OV.p rfl) (fun hc => by first | omega | (simp at hc; omega))) rfl ?_
      refine WL.val (V.assign (OV.p rfl)) rfl ?_
      refine WL.nil ?_
      refine ⟨rfl, ?_⟩
      first
      | (refine ⟨(k + 1, A', c'), hkn, (by show n - (k + 1) < n - k; omega), .cons rfl (.cons (look_eq rfl (by dsimp only; rw [hgs]; simp)) (.cons (look_eq rfl (by simp)) (.nil _))), fun w h => ?_⟩
         have h' := h.sel 3 [0, 2] rfl
         dsimp only
         rw [hgs, if_neg Bool.false_ne_true, ints_append, List.length_append]
         exact h')
      | (refine ⟨(k + 1, Ao, co), hkn, (by show n - (k + 1) < n - k; omega), .cons rfl (.cons (look_eq rfl (by dsimp only; rw [hgs]; simp)) (.cons (look_eq rfl (by simp)) (.nil _))), fun w h => ?_⟩
         dsimp only
         rw [hgs, if_pos rfl]
         exact h)
     ·skip
      have h1 := hc1
      simp only [Bool.not_eq_true', Bool.not_eq_false'] at h1
      rw [h1] at hgs
      refine WC.skip ?_
      refine WC.region ?_
      refine WL.val (V.move (OV.p rfl)) rfl ?_
      refine WL.val (V.addI (OV.p rfl) (OV.p rfl) (fun hc => by first | omega | (simp at hc; omega))) rfl ?_
      refine WL.val (V.assign (OV.p rfl)) rfl ?_
      refine WL.nil ?_
      refine ⟨rfl, ?_⟩
      first
      | (refine ⟨(k + 1, A', c'), hkn, (by show n - (k + 1) < n - k; omega), .cons rfl (.cons (look_eq rfl (by dsimp only; rw [hgs]; simp)) (.cons (look_eq rfl (by simp)) (.nil _))), fun w h => ?_⟩
         have h' := h.sel 3 [0, 2] rfl
         dsimp only
         rw [hgs, if_neg Bool.false_ne_true, ints_append, List.length_append]
         exact h')
      | (refine ⟨(k + 1, Ao, co), hkn, (by show n - (k + 1) < n - k; omega), .cons rfl (.cons (look_eq rfl (by dsimp only; rw [hgs]; simp)) (.cons (look_eq rfl (by simp)) (.nil _))), fun w h => ?_⟩
         dsimp only
         rw [hgs, if_pos rfl]
         exact h)
    ·simp only [Bool.and_true, decide_eq_true_eq, decide_eq_false_iff_not] at hc0
     rw [hge, hn] at hc0
     refine WC.exit ?_
     refine WC.sr ?_
     refine WL.val (V.move (OV.p rfl)) rfl ?_
     refine WL.val (V.assign (OV.p rfl)) rfl ?_
     refine WL.nil ?_
     refine WC.ret ?_
     obtain rfl : k = n := by omega
     exact BodyQ.ret (H' := SlA (.slice Ao (S.goodTo k).length co) 3 1 (S.goodTo k).length (ints .i64 (S.goodTo k)) :: R.A a :: F) (Res.tmp rfl rfl) (fun w h => h) ⟨Ao, co, rfl, rfl⟩
theorem ref08_Whole (hR : R.Ok) (hS : R.Is S) (hrd : S.Reads) (b n : Int) : Tells Tryz.prog 63 #[ptr a 0, .int .i64 b, .int .i64 n] K (R.A a :: F) (.tuple #[.bool (S.dWhole b n).1, .int .i64 (S.dWhole b n).2]) := by
  have hg := hS.g
  have hu := hS.up
  have hlen := hS.len
  have hgm := hR.mays
  have hgb := hgm
  unfold Geo.mays at hgb
  obtain ⟨X, hX⟩ : ∃ X, X = S.dWhole b n := ⟨_, rfl⟩
  rw [← hX]
  obtain ⟨ok, hok⟩ : ∃ ok, ok = (decide (0 ≤ n) && decide (n ≤ S.g.pg)) := ⟨_, rfl⟩
  unfold Chip.dWhole at hX
  rw [← hok] at hX
  refine Does.enter Tryz.func63 rfl Tryz.ntmps63 rfl ?_
  simp only [env0, Nat.reduceAdd]
  refine WC.sr ?_
  refine WL.val (V.assign (OV.p rfl)) rfl ?_
  refine WL.val (V.assign (OV.p rfl)) rfl ?_
  refine WL.nil ?_
  refine WC.seq ?_
  refine WC.sr ?_
  refine WL.val (V.move (OV.p rfl)) rfl ?_
  refine WL.val (V.nilCheck (OV.p rfl)) rfl ?_
  refine WL.val (V.fieldAddr fo97_3 (OV.p rfl)) rfl ?_
  refine WL.val (V.load Tryz.isAgg4 (OV.p rfl) (fun _ => RW.rds 7 _ rfl)) rfl ?_
  refine WL.val (V.not (OV.p rfl)) rfl ?_
  refine WL.nil ?_
  refine WC.cond rfl (fun hc0 => ?_) (fun hc0 => ?_)
  ·skip
   have h0 := hc0
   have ha : S.ahead b 0 ok = 70 := by unfold Chip.ahead; rw [if_pos (by rw [← hu]; simpa using h0)]
   rw [ha, if_neg (by decide), if_pos (by decide)] at hX
   refine WC.sr ?_
   refine WL.val (V.assign (OV.p rfl)) rfl ?_
   refine WL.val (V.assign (OV.p rfl)) rfl ?_
   refine WL.nil ?_
   refine WC.ret ?_
   exact BodyQ.ret (H' := R.A a :: F) (Res.tmp2 rfl rfl rfl) (fun w h => h) ⟨by rw [hX], rfl⟩
  ·skip
   have h0 := hc0
   have hu1 : S.up = true := by rw [← hu]; simpa using h0
   refine WC.skip ?_
   refine WC.seq ?_
   refine WC.sr ?_
   refine WL.val (V.move (OV.p rfl)) rfl ?_
   refine WL.val (V.lss (OV.p rfl) (OV.p rfl)) rfl ?_
   refine WL.val (V.move (OV.p rfl)) rfl ?_
   refine WL.valG (oj := _) rfl rfl rfl GC.f (V.move (OV.p rfl)) rfl ?_
   refine WL.valG (oj := _) rfl rfl rfl GC.f (V.move (OV.p rfl)) rfl ?_
   refine WL.valG (oj := _) rfl rfl rfl GC.f (V.nilCheck (OV.g rfl id)) rfl ?_
   refine WL.valG (oj := _) rfl rfl rfl GC.f (V.fieldAddr fo97_0 (OV.g rfl id)) rfl ?_
   refine WL.valG (oj := _) rfl rfl rfl GC.f (V.fieldAddr fo23_0 (OV.g rfl id)) rfl ?_
   refine WL.valG (oj := _) rfl rfl rfl GC.f (V.load Tryz.isAgg3 (OV.g rfl id) (fun _ => RW.rds 0 _ rfl)) rfl ?_
   refine WL.valG (oj := _) rfl rfl rfl GC.f (V.geq (OV.g rfl id) (OV.g rfl id)) rfl ?_
   refine WL.val (V.pickOr (OV.p rfl) (OV.g rfl id)) rfl ?_
   refine WL.val (V.move (OV.p rfl)) rfl ?_
   refine WL.valG (oj := _) rfl rfl rfl GC.f (V.move (OV.p rfl)) rfl ?_
   refine WL.valG (oj := _) rfl rfl rfl GC.f (V.lss (OV.g rfl id) (OV.p rfl)) rfl ?_
   refine WL.val (V.pickOr (OV.p rfl) (OV.g rfl id)) rfl ?_
   refine WL.val (V.move (OV.p rfl)) rfl ?_
   refine WL.valG (oj := _) rfl rfl rfl GC.f (V.move (OV.p rfl)) rfl ?_
   refine WL.valG (oj := _) rfl rfl rfl GC.f (V.move (OV.p rfl)) rfl ?_
   refine WL.valG (oj := _) rfl rfl rfl GC.f (V.nilCheck (OV.g rfl id)) rfl ?_
   refine WL.valG (oj := _) rfl rfl rfl GC.f (V.fieldAddr fo97_0 (OV.g rfl id)) rfl ?_
   refine WL.valG (oj := _) rfl rfl rfl GC.f (V.fieldAddr fo23_1 (OV.g rfl id)) rfl ?_
   refine WL.valG (oj := _) rfl rfl rfl GC.f (V.load Tryz.isAgg3 (OV.g rfl id) (fun _ => RW.rds 1 _ rfl)) rfl ?_
   refine WL.valG (oj := _) rfl rfl rfl GC.f (V.gtr (OV.g rfl id) (OV.g rfl id)) rfl ?_
   refine WL.val (V.pickOr (OV.p rfl) (OV.g rfl id)) rfl ?_
   refine WL.nil ?_
   refine WC.cond rfl (fun hc1 => ?_) (fun hc1 => ?_)
   ·simp only [Bool.or_eq_true, Bool.or_eq_false_iff, Bool.not_eq_true', Bool.not_eq_false', decide_eq_true_eq, decide_eq_false_iff_not] at hc1
    have h1 := hc1
    rw [hg] at h1
    have ha : S.ahead b 0 ok = 1 := by
      unfold Chip.ahead
      rw [if_neg (by rw [hu1]; decide), if_pos]
      rcases h1 with ((h | h) | h) | h
      · exact .inl h
      · exact .inr (.inl h)
      · exact .inr (.inr (.inr (.inr (by rw [hok, decide_eq_false (by omega)]; rfl))))
      · exact .inr (.inr (.inr (.inr (by rw [hok, decide_eq_false (show ¬ n ≤ S.g.pg by omega), Bool.and_false]))))
    rw [ha, if_neg (by decide), if_pos (by decide)] at hX
    refine WC.sr ?_
    refine WL.val (V.assign (OV.p rfl)) rfl ?_
    refine WL.val (V.assign (OV.p rfl)) rfl ?_
    refine WL.nil ?_
    refine WC.ret ?_
    exact BodyQ.ret (H' := R.A a :: F) (Res.tmp2 rfl rfl rfl) (fun w h => h) ⟨by rw [hX], rfl⟩
   ·simp only [Bool.or_eq_true, Bool.or_eq_false_iff, Bool.not_eq_true', Bool.not_eq_false', decide_eq_true_eq, decide_eq_false_iff_not] at hc1
    have h1 := hc1
    rw [hg] at h1
    obtain ⟨⟨⟨k1, k2⟩, k3⟩, k4⟩ := h1
    have hbd := hS.bad (b := b) (by omega)
    have hbl : 0 ≤ b ∧ b < R.blocks.length := by omega
    have ha : S.ahead b 0 ok = if S.marked b then 73 else 0 := by
      unfold Chip.ahead Chip.bad
      rw [if_neg (by rw [hu1]; decide), if_neg, hu1, Bool.true_and]
      rintro (h | h | h | h | h) <;> first | omega | (rw [hg] at hgb; omega) | (rw [hok, decide_eq_true (by omega), decide_eq_true (by omega)] at h; cases h)
    obtain ⟨N, hN⟩ : ∃ N : Nat, n = (N : Int) := ⟨n.toNat, by omega⟩
    rw [ha] at hX
    have hXw : S.wholeTo b N = false → X = (false, 0) := fun hw => by
      rw [hX]
      cases hm : S.marked b with
      | true => rfl
      | false => rw [if_neg Bool.false_ne_true, if_neg (by decide), if_neg (fun h => h rfl), hN, Int.toNat_natCast, hw]
    have hXe : S.wholeTo b N = true → X = (!S.marked b, 0) := fun hw => by
      rw [hX]
      cases hm : S.marked b with
      | true => rfl
      | false => rw [if_neg Bool.false_ne_true, if_neg (by decide), if_neg (fun h => h rfl), hN, Int.toNat_natCast, hw]; rfl
    refine WC.skip ?_
    refine WC.seq ?_
    refine WC.sr ?_
    refine WL.val (V.assign (OV.p rfl)) rfl ?_
    refine WL.nil ?_
    refine WC.block ?_
    refine WC.loop (σ := Nat) (fun p => [(0, ptr a 0), (1, .int .i64 b), (2, .int .i64 n), (8, .int .i64 (p : Int))]) (fun _ => R.A a :: F) (fun p => p ≤ N ∧ S.wholeTo b p = true) (fun p => N - p) 0 ⟨Nat.zero_le _, rfl⟩ (.cons rfl (.cons rfl (.cons rfl (.cons rfl (.nil _))))) (fun w h => h) ?_
    rintro p ⟨hp, hpw⟩
    refine WC.seq ?_
    refine WC.sr ?_
    refine WL.val (V.move (OV.p rfl)) rfl ?_
    refine WL.val (V.move (OV.p rfl)) rfl ?_
    refine WL.val (V.lss (OV.p rfl) (OV.p rfl)) rfl ?_
    refine WL.nil ?_
    refine WC.cond rfl (fun hc2 => ?_) (fun hc2 => ?_)
    ·simp only [decide_eq_true_eq, decide_eq_false_iff_not] at hc2
     have hpN : p < N := by omega
     have hre : S.readErr b (p : Int) = 0 := by
       unfold Chip.readErr
       rw [if_neg (by rw [hu1]; decide), if_neg (by rw [Chip.page_ok (by omega)]; decide)]
     have hrl := (hrd b (p : Int)).2.2
     rw [← hg] at hrl
     refine WC.skip ?_
     refine WC.seq ?_
     refine WC.block ?_
     refine WC.sr ?_
     refine WL.val (V.move (OV.p rfl)) rfl ?_
     refine WL.val (V.move (OV.p rfl)) rfl ?_
     refine WL.val (V.move (OV.p rfl)) rfl ?_
     refine WL.call (vs := [_, _, _]) Tryz.call69 ⟨OV.p rfl, OV.p rfl, OV.p rfl, trivial⟩ (ref_ReadZ hR hS hrd hre) rfl ?_
     rintro _ _ ⟨gr, rfl, rfl⟩
     refine WL.val (V.move (OV.p rfl)) rfl ?_
     refine WL.val (V.extract (OV.p rfl) rfl) rfl ?_
     refine WL.val (V.extract (OV.p rfl) rfl) rfl ?_
     refine WL.val (V.assign (OV.p rfl)) rfl ?_
     refine WL.val (V.assign (OV.p rfl)) rfl ?_
     refine WL.nil ?_
     refine WC.sr ?_
     refine WL.val (V.move (OV.p rfl)) rfl ?_
     refine WL.val (V.nilCheck (OV.p rfl)) rfl ?_
     refine WL.val (V.fieldAddr fo97_0 (OV.p rfl)) rfl ?_
     refine WL.val (V.loadA (vs := [.int .i64 R.g.bl, .int .i64 R.g.pg, .int .i64 R.g.se, .int .i64 R.g.sb, .int .i64 R.g.fl]) ⟨Tryz.isAgg23, Tryz.sizeOf23⟩ (OV.p rfl) rfl (fun _ => RW.rdg.up)) rfl ?_
     refine WL.val (V.move (OV.p rfl)) rfl ?_
     refine WL.call (vs := [_, _]) Tryz.call109 ⟨OV.p rfl, OV.p rfl, trivial⟩ (ref06_MarkedG (raw := S.rawN b (p : Int)) hgm (Seq.allN hrl) (hrd b (p : Int)).2.1 rfl (Nat.le_refl _)) rfl ?_
     rintro _ H0 ⟨rfl, h0⟩
     subst H0
     refine WL.val (V.neq (OV.p rfl) (OV.p rfl)) rfl ?_
     refine WL.nil ?_
     refine WC.cond rfl (fun hc3 => ?_) (fun hc3 => ?_)
     ·simp only [Bool.not_eq_true', Bool.not_eq_false', decide_eq_true_eq, decide_eq_false_iff_not] at hc3
      have h3 := hc3
      rw [hg] at h3
      have hst : S.stateG b (p : Int) ≠ 0 := fun h => h3 (by show ((S.stateG b (p : Int) : Nat) : Int) = 0; rw [h]; rfl)
      have hwN : S.wholeTo b N = false := by
        have key : ∀ k, p + 1 ≤ k → S.wholeTo b k = false := fun k => by
          induction k with
          | zero => intro h; omega
          | succ k ih =>
            intro h
            rw [Chip.wholeTo]
            rcases Nat.lt_or_ge p k with h4 | h4
            · rw [ih h4, Bool.false_and]
            · obtain rfl : k = p := by omega
              rw [decide_eq_false hst, Bool.and_false]
        exact key N hpN
      refine WC.sr ?_
      refine WL.val (V.assign (OV.p rfl)) rfl ?_
      refine WL.val (V.assign (OV.p rfl)) rfl ?_
      refine WL.nil ?_
      refine WC.ret ?_
      exact BodyQ.ret (H' := R.A a :: F) (Res.tmp2 rfl rfl rfl) (fun w h => h.drop 1) ⟨by rw [hXw hwN], rfl⟩
     ·simp only [Bool.not_eq_true', Bool.not_eq_false', decide_eq_true_eq, decide_eq_false_iff_not] at hc3
      have h3 := hc3
      rw [hg] at h3
      have hst : S.stateG b (p : Int) = 0 := by
        have h4 : ((S.stateG b (p : Int) : Nat) : Int) = 0 := h3
        omega
      refine WC.skip ?_
      refine WC.region ?_
      refine WL.val (V.move (OV.p rfl)) rfl ?_
      refine WL.val (V.addI (OV.p rfl) (OV.p rfl) (fun hc => by first | omega | (simp at hc; omega))) rfl ?_
      refine WL.val (V.assign (OV.p rfl)) rfl ?_
      refine WL.nil ?_
      refine ⟨rfl, ?_⟩
      exact ⟨p + 1, ⟨hpN, by rw [Chip.wholeTo, hpw, decide_eq_true hst]; rfl⟩, (by show N - (p + 1) < N - p; omega), .cons rfl (.cons rfl (.cons rfl (.cons (look_eq rfl (by simp)) (.nil _)))), fun w h => h.drop 1⟩
    ·simp only [decide_eq_true_eq, decide_eq_false_iff_not] at hc2
     refine WC.exit ?_
     refine WC.seq ?_
     obtain rfl : p = N := by omega
     refine WC.region ?_
     refine WL.val (V.move (OV.p rfl)) rfl ?_
     refine WL.val (V.nilCheck (OV.p rfl)) rfl ?_
     refine WL.val (V.fieldAddr fo97_1 (OV.p rfl)) rfl ?_
     refine WL.val (V.load Tryz.isAgg95 (OV.p rfl) (fun _ => RW.rds 5 _ rfl)) rfl ?_
     refine WL.val (V.move (OV.p rfl)) rfl ?_
     refine WL.val (V.idxB st95 (OV.p rfl) (OV.p rfl) (fun hc => by omega)) rfl ?_
     refine WL.val (V.fieldAddr fo100_2 (OV.p rfl)) rfl ?_
     refine WL.val (V.load Tryz.isAgg4 (OV.p rfl) (fun _ => RW.rd_bad hbl)) rfl ?_
     refine WL.val (V.not (OV.p rfl)) rfl ?_
     refine WL.val (V.assign (OV.p rfl)) rfl ?_
     refine WL.val (V.assign (OV.p rfl)) rfl ?_
     refine WL.nil ?_
     refine WC.ret ?_
     exact BodyQ.ret (H' := R.A a :: F) (Res.tmp2 rfl rfl rfl) (fun w h => h) ⟨by rw [hXe hpw, hbd], rfl⟩
end
end Go.Proofs.YtohkefolnmcjnaaGreat
