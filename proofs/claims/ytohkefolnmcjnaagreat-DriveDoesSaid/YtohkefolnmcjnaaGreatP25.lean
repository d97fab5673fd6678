import Derived.Test.YtohkefolnmcjnaaGreatP18
import Derived.Test.YtohkefolnmcjnaaGreatP4
import Derived.Test.YtohkefolnmcjnaaGreatP16
import Derived.Test.YtohkefolnmcjnaaGreatP17
/- The drive: Read, Whole, Good. -/
namespace Go.Proofs.YtohkefolnmcjnaaGreat
open Go.Sl Go.RowKit
set_option linter.unusedVariables false
set_option linter.unusedSimpArgs false
set_option maxRecDepth 20000

theorem Cw.Ok.reads_isb {C : Cw} (hC : C.Ok) (b p : Int) : IsBytes (C.sem.reads b p) := by
  have hr := Geo.raw_bd hC.mays
  have hl := hC.reads_len b p
  unfold Chip.reads at hl ⊢
  rw [turn_length] at hl
  refine turn_isb (hC.base_isb b p) (fun i hi => ?_)
  obtain ⟨A, c, l, h1, h2, h3, h4, h5⟩ := hC.wrong_at b p
  rw [← h4] at hi
  have := h3 i hi
  rw [hl]; omega
theorem Cw.Ok.rawN_facts {C : Cw} (hC : C.Ok) (b p : Int) : ints .u8 (C.sem.reads b p) = nats .u8 (C.sem.rawN b p) ∧ Small 256 (C.sem.rawN b p) ∧ (C.sem.rawN b p).length = C.g.raw.toNat := by
  have h := hC.reads_isb b p
  exact ⟨ints_natsOf h, natsOf_small h, by unfold Chip.rawN; rw [natsOf_length, hC.reads_len]⟩
section
variable {bc bd : Nat} {C : Cw} {K : World} {F : List Assn}
theorem drive_Read (hC : C.Ok) (b p : Int) : Does Tryz.prog 26 #[ptr bd 0, .int .i64 b, .int .i64 p] K (C.A bc :: DvA bd bc C.g :: F)
    (fun v H' => ∃ A' c', v = .tuple #[.slice A' (C.sem.dRead b p).d.length c', .int .i64 ((C.sem.dRead b p).n : Nat), .int .i64 (C.sem.dRead b p).err] ∧
      H' = SlA (.slice A' (C.sem.dRead b p).d.length c') 5 1 (C.sem.dRead b p).d.length (nats .u8 (C.sem.dRead b p).d) :: C.A bc :: DvA bd bc C.g :: F) := by
  obtain ⟨G, hG⟩ : ∃ G, G = C.sem.dRead b p := ⟨_, rfl⟩
  rw [← hG]
  obtain ⟨r1, r2, r3⟩ := hC.rawN_facts b p
  have hrb := Geo.raw_bd hC.mays
  refine Does.enter Tryz.func26 rfl Tryz.ntmps26 rfl ?_
  simp only [env0, Nat.reduceAdd]
  refine WC.sr ?_
  refine WL.val (V.assign (OV.p rfl)) rfl ?_
  refine WL.val (V.assign (OV.p rfl)) rfl ?_
  refine WL.val (V.assign (OV.p rfl)) rfl ?_
  refine WL.nil ?_
  refine WC.seq ?_
  refine WC.sr ?_
  refine WL.val (V.move (OV.p rfl)) rfl ?_
  refine WL.val (V.move (OV.p rfl)) rfl ?_
  refine WL.val (V.move (OV.p rfl)) rfl ?_
  refine WL.call (vs := [_, _, _, _]) Tryz.call74 ⟨OV.p rfl, OV.p rfl, OV.p rfl, OV.p rfl, trivial⟩ (drive_ahead b p true) rfl ?_
  rintro _ H0 ⟨rfl, h0⟩
  subst H0
  refine WL.val (V.assign (OV.p rfl)) rfl ?_
  refine WL.nil ?_
  refine WC.sr ?_
  refine WL.val (V.move (OV.p rfl)) rfl ?_
  refine WL.val (V.neq (OV.p rfl) (OV.p rfl)) rfl ?_
  refine WL.nil ?_
  refine WC.cond rfl (fun hc0 => ?_) (fun hc0 => ?_)
  ·simp only [decide_eq_true_eq, decide_eq_false_iff_not, Bool.not_eq_true', Bool.not_eq_false'] at hc0
   have h0 := hc0
   have hG2 : G = ⟨C.sem.ahead b p true, [], 0⟩ := by rw [hG]; unfold Chip.dRead; rw [if_pos h0]
   refine WC.sr ?_
   refine WL.val (V.move (OV.p rfl)) rfl ?_
   refine WL.val (V.assign (OV.p rfl)) rfl ?_
   refine WL.val (V.assign (OV.p rfl)) rfl ?_
   refine WL.val (V.assign (OV.p rfl)) rfl ?_
   refine WL.nil ?_
   refine WC.ret ?_
   exact BodyQ.ret (H' := SlA (.slice none 0 0) 5 1 0 [] :: C.A bc :: DvA bd bc C.g :: F) (Res.tmp3 rfl rfl rfl rfl) (fun w h => Sat.slNil h _ _) ⟨none, 0, by rw [hG2]; rfl, by rw [hG2]; rfl⟩
  ·simp only [decide_eq_true_eq, decide_eq_false_iff_not, Bool.not_eq_true', Bool.not_eq_false'] at hc0
   have h0 := hc0
   have h0 : C.sem.ahead b p true = 0 := by simpa using h0
   have hG2 : G = ⟨(readF C.g.fl.toNat C.g.se.toNat C.g.sb.toNat (C.sem.rawN b p)).err, (readF C.g.fl.toNat C.g.se.toNat C.g.sb.toNat (C.sem.rawN b p)).d, (readF C.g.fl.toNat C.g.se.toNat C.g.sb.toNat (C.sem.rawN b p)).n⟩ := by rw [hG]; unfold Chip.dRead; rw [if_neg (by rw [h0]; decide)]; rfl
   refine WC.skip ?_
   refine WC.sr ?_
   refine WL.val (V.move (OV.p rfl)) rfl ?_
   refine WL.val (V.nilCheck (OV.p rfl)) rfl ?_
   refine WL.val (V.fieldAddr fo94_0 (OV.p rfl)) rfl ?_
   refine WL.val (V.load Tryz.isAgg27 (OV.p rfl) (fun _ => by repeat (first | exact Rd.here rfl | apply Rd.up))) rfl ?_
   refine WL.val (V.move (OV.p rfl)) rfl ?_
   refine WL.val (V.move (OV.p rfl)) rfl ?_
   refine WL.call (vs := [_, _, _]) Tryz.call86 ⟨OV.p rfl, OV.p rfl, OV.p rfl, trivial⟩ (chip_Read hC b p) rfl ?_
   rintro _ _ (⟨_, bo, rfl, rfl⟩ | ⟨hno, rfl, rfl⟩)
   rotate_left
   · exact (hno (Chip.read_zero h0)).elim
   rw [r1]
   refine WL.val (V.move (OV.p rfl)) rfl ?_
   refine WL.val (V.extract (OV.p rfl) rfl) rfl ?_
   refine WL.val (V.extract (OV.p rfl) rfl) rfl ?_
   refine WL.val (V.assign (OV.p rfl)) rfl ?_
   refine WL.val (V.assign (OV.p rfl)) rfl ?_
   refine WL.nil ?_
   refine WC.seq ?_
   refine WC.sr ?_
   refine WL.val (V.move (OV.p rfl)) rfl ?_
   refine WL.val (V.neq (OV.p rfl) (OV.p rfl)) rfl ?_
   refine WL.nil ?_
   refine WC.condF' rfl (by first | rfl | (simp; done) | (simp; omega)) ?_
   refine WC.skip ?_
   refine WC.sr ?_
   refine WL.val (V.move (OV.p rfl)) rfl ?_
   refine WL.val (V.nilCheck (OV.p rfl)) rfl ?_
   refine WL.val (V.fieldAddr fo94_1 (OV.p rfl)) rfl ?_
   refine WL.val (V.loadA (vs := [_, _, _, _, _]) ⟨Tryz.isAgg23, Tryz.sizeOf23⟩ (OV.p rfl) rfl (fun _ => by repeat (first | exact Rds.gets ⟨rfl, rfl, rfl, rfl, rfl, trivial⟩ | apply Rds.up))) rfl ?_
   refine WL.val (V.move (OV.p rfl)) rfl ?_
   refine WL.call (vs := [_, _]) Tryz.call70 ⟨OV.p rfl, OV.p rfl, trivial⟩ (ecc_ReadG hC.mays (Seq.allN r3) r2 rfl (Nat.le_refl _)) rfl ?_
   rintro _ _ ⟨A', c', rfl, rfl⟩
   refine WL.val (V.extract (OV.p rfl) rfl) rfl ?_
   refine WL.val (V.extract (OV.p rfl) rfl) rfl ?_
   refine WL.val (V.extract (OV.p rfl) rfl) rfl ?_
   refine WL.val (V.assign (OV.p rfl)) rfl ?_
   refine WL.val (V.assign (OV.p rfl)) rfl ?_
   refine WL.val (V.assign (OV.p rfl)) rfl ?_
   refine WL.nil ?_
   refine WC.ret ?_
   refine BodyQ.ret (H' := SlA (.slice A' G.d.length c') 5 1 G.d.length (nats .u8 G.d) :: C.A bc :: DvA bd bc C.g :: F) (Res.tmp3 rfl rfl rfl rfl) (fun w h => ?_) ⟨A', c', by rw [hG2], rfl⟩
   rw [hG2]
   exact h.sel 2 [0] rfl
theorem drive_Whole (hC : C.Ok) (b n : Int) (hn : -9223372036854775808 ≤ n ∧ n ≤ 9223372036854775807) : Tells Tryz.prog 27 #[ptr bd 0, .int .i64 b, .int .i64 n] K (C.A bc :: DvA bd bc C.g :: F) (.tuple #[.bool (C.sem.dWhole b n).1, .int .i64 (C.sem.dWhole b n).2]) := by
  have hrb := Geo.raw_bd hC.mays
  have hpg := hC.mays
  unfold Geo.mays at hpg
  refine Does.enter Tryz.func27 rfl Tryz.ntmps27 rfl ?_
  simp only [env0, Nat.reduceAdd]
  refine WC.sr ?_
  refine WL.val (V.assign (OV.p rfl)) rfl ?_
  refine WL.val (V.assign (OV.p rfl)) rfl ?_
  refine WL.nil ?_
  refine WC.sr ?_
  refine WL.val (V.move (OV.p rfl)) rfl ?_
  refine WL.val (V.move (OV.p rfl)) rfl ?_
  refine WL.val (V.move (OV.p rfl)) rfl ?_
  refine WL.val (V.geq (OV.p rfl) (OV.p rfl)) rfl ?_
  refine WL.val (V.move (OV.p rfl)) rfl ?_
  refine WL.valG (oj := _) rfl rfl rfl GC.t (V.move (OV.p rfl)) rfl ?_
  refine WL.valG (oj := _) rfl rfl rfl GC.t (V.move (OV.p rfl)) rfl ?_
  refine WL.callG (oj := _) (vs := [_]) rfl rfl rfl GC.t Tryz.call20 ⟨OV.g rfl id, trivial⟩ (fun hg => drive_Geometry) rfl ?_
  refine WL.valG (oj := _) rfl rfl rfl GC.t (V.field (OV.g rfl id) (fld23_1 _ _ _ _ _)) rfl ?_
  refine WL.valG (oj := _) rfl rfl rfl GC.t (V.leq (OV.g rfl id) (OV.g rfl id)) rfl ?_
  refine WL.val (V.pickAnd (OV.p rfl) (OV.g rfl id)) rfl ?_
  refine WL.call (vs := [_, _, _, _]) Tryz.call74 ⟨OV.p rfl, OV.p rfl, OV.p rfl, OV.p rfl, trivial⟩ (drive_ahead b 0 _) rfl ?_
  rintro _ H0 ⟨rfl, h0⟩
  subst H0
  refine WL.val (V.assign (OV.p rfl)) rfl ?_
  refine WL.nil ?_
  refine WC.seq ?_
  refine WC.seq ?_
  obtain ⟨e, he⟩ : ∃ e, e = C.sem.ahead b 0 (decide (0 ≤ n) && decide (n ≤ C.g.pg)) := ⟨_, rfl⟩
  rw [← he]
  have hW : C.sem.dWhole b n = if e = 73 then (false, 0) else if e ≠ 0 then (false, e) else (C.sem.wholeTo b n.toNat, 0) := by unfold Chip.dWhole; rw [he]; rfl
  rw [hW]
  refine WC.region ?_
  refine WL.val (V.move (OV.p rfl)) rfl ?_
  refine WL.val (V.eql (OV.p rfl) (OV.p rfl)) rfl ?_
  refine WL.nil ?_
  refine WC.cond rfl (fun hc0 => ?_) (fun hc0 => ?_)
  ·simp only [decide_eq_true_eq, decide_eq_false_iff_not, Bool.not_eq_true', Bool.not_eq_false'] at hc0
   rw [if_pos hc0]
   refine WC.sr ?_
   refine WL.val (V.assign (OV.p rfl)) rfl ?_
   refine WL.val (V.assign (OV.p rfl)) rfl ?_
   refine WL.nil ?_
   refine WC.ret ?_
   exact BodyQ.ret (H' := C.A bc :: DvA bd bc C.g :: F) (Res.tmp2 rfl rfl rfl) (fun w h => h) ⟨rfl, rfl⟩
  ·simp only [decide_eq_true_eq, decide_eq_false_iff_not, Bool.not_eq_true', Bool.not_eq_false'] at hc0
   rw [if_neg hc0]
   refine WC.skip ?_
   refine WC.seq ?_
   refine WC.sr ?_
   refine WL.val (V.move (OV.p rfl)) rfl ?_
   refine WL.val (V.neq (OV.p rfl) (OV.p rfl)) rfl ?_
   refine WL.nil ?_
   refine WC.cond rfl (fun hc1 => ?_) (fun hc1 => ?_)
   ·simp only [decide_eq_true_eq, decide_eq_false_iff_not, Bool.not_eq_true', Bool.not_eq_false'] at hc1
    rw [if_pos hc1]
    refine WC.sr ?_
    refine WL.val (V.move (OV.p rfl)) rfl ?_
    refine WL.val (V.assign (OV.p rfl)) rfl ?_
    refine WL.val (V.assign (OV.p rfl)) rfl ?_
    refine WL.nil ?_
    refine WC.ret ?_
    exact BodyQ.ret (H' := C.A bc :: DvA bd bc C.g :: F) (Res.tmp2 rfl rfl rfl) (fun w h => h) ⟨rfl, rfl⟩
   ·simp only [decide_eq_true_eq, decide_eq_false_iff_not, Bool.not_eq_true', Bool.not_eq_false'] at hc1
    have he0 : e = 0 := by simpa using hc1
    rw [if_neg (by rw [he0]; decide)]
    obtain ⟨q1, q2, q3, q4⟩ := Chip.ahead_zero (he ▸ he0 : C.sem.ahead b 0 (decide (0 ≤ n) && decide (n ≤ C.g.pg)) = 0)
    simp only [Bool.and_eq_true, decide_eq_true_eq] at q3
    obtain ⟨k, hk⟩ : ∃ k : Nat, n = (k : Int) := ⟨n.toNat, by omega⟩
    subst hk
    rw [Int.toNat_natCast]
    refine WC.skip ?_
    refine WC.seq ?_
    refine WC.sr ?_
    refine WL.val (V.move (OV.p rfl)) rfl ?_
    refine WL.val (V.move (OV.p rfl)) rfl ?_
    refine WL.nil ?_
    refine WC.block ?_
    refine WC.loop (σ := Nat) (fun j => [(0, ptr bd 0), (1, .int .i64 b), (31, .int .i64 (k : Int)), (32, .int .i64 (j : Int))]) (fun _ => C.A bc :: DvA bd bc C.g :: F) (fun j => j ≤ k ∧ C.sem.wholeTo b j = true) (fun j => k - j) 0 ⟨Nat.zero_le _, rfl⟩ (.cons rfl (.cons rfl (.cons rfl (.cons rfl (.nil _))))) (fun w h => h) ?_
    rintro j ⟨hj, hjw⟩
    refine WC.sr ?_
    refine WL.val (V.lss (OV.p rfl) (OV.p rfl)) rfl ?_
    refine WL.nil ?_
    refine WC.seq ?_
    refine WC.cond rfl (fun hc2 => ?_) (fun hc2 => ?_)
    ·simp only [decide_eq_true_eq, decide_eq_false_iff_not] at hc2
     refine WC.skip ?_
     refine WC.seq ?_
     refine WC.block ?_
     refine WC.sr ?_
     refine WL.val (V.move (OV.p rfl)) rfl ?_
     refine WL.val (V.assign (OV.p rfl)) rfl ?_
     refine WL.nil ?_
     refine WC.seq ?_
     have hjk : j < k := by omega
     obtain ⟨r1, r2, r3⟩ := hC.rawN_facts b (j : Int)
     have hre : C.sem.readErr b (j : Int) = 0 := by
       unfold Chip.readErr Chip.page Chip.block
       rw [if_neg (by rw [q1]; decide), if_neg]
       have e1 : C.sem.g = C.g := rfl
       simp only [e1] at q2 ⊢
       simp; omega
     refine WC.region ?_
     refine WL.val (V.move (OV.p rfl)) rfl ?_
     refine WL.val (V.nilCheck (OV.p rfl)) rfl ?_
     refine WL.val (V.fieldAddr fo94_0 (OV.p rfl)) rfl ?_
     refine WL.val (V.load Tryz.isAgg27 (OV.p rfl) (fun _ => by repeat (first | exact Rd.here rfl | apply Rd.up))) rfl ?_
     refine WL.val (V.move (OV.p rfl)) rfl ?_
     refine WL.val (V.move (OV.p rfl)) rfl ?_
     refine WL.call (vs := [_, _, _]) Tryz.call86 ⟨OV.p rfl, OV.p rfl, OV.p rfl, trivial⟩ (chip_Read hC b (j : Int)) rfl ?_
     rintro _ _ (⟨_, bo, rfl, rfl⟩ | ⟨hno, rfl, rfl⟩)
     rotate_left
     · exact (hno hre).elim
     rw [r1]
     refine WL.val (V.move (OV.p rfl)) rfl ?_
     refine WL.val (V.extract (OV.p rfl) rfl) rfl ?_
     refine WL.val (V.extract (OV.p rfl) rfl) rfl ?_
     refine WL.val (V.assign (OV.p rfl)) rfl ?_
     refine WL.val (V.assign (OV.p rfl)) rfl ?_
     refine WL.nil ?_
     refine WC.sr ?_
     refine WL.val (V.move (OV.p rfl)) rfl ?_
     refine WL.val (V.nilCheck (OV.p rfl)) rfl ?_
     refine WL.val (V.fieldAddr fo94_1 (OV.p rfl)) rfl ?_
     refine WL.val (V.loadA (vs := [_, _, _, _, _]) ⟨Tryz.isAgg23, Tryz.sizeOf23⟩ (OV.p rfl) rfl (fun _ => by repeat (first | exact Rds.gets ⟨rfl, rfl, rfl, rfl, rfl, trivial⟩ | apply Rds.up))) rfl ?_
     refine WL.val (V.move (OV.p rfl)) rfl ?_
     refine WL.call (vs := [_, _]) Tryz.call87 ⟨OV.p rfl, OV.p rfl, trivial⟩ (ecc_UnpackG hC.mays (Seq.allN r3) r2 rfl (Nat.le_refl _)) rfl ?_
     rintro _ _ ⟨A', n', c', rfl, rfl⟩
     refine WL.val (V.move (OV.p rfl)) rfl ?_
     refine WL.val (V.extract (OV.p rfl) rfl) rfl ?_
     refine WL.val (V.extract (OV.p rfl) rfl) rfl ?_
     refine WL.val (V.assign (OV.p rfl)) rfl ?_
     refine WL.val (V.assign (OV.p rfl)) rfl ?_
     refine WL.nil ?_
     refine WC.sr ?_
     refine WL.val (V.move (OV.p rfl)) rfl ?_
     refine WL.val (V.neq (OV.p rfl) (OV.p rfl)) rfl ?_
     refine WL.nil ?_
     refine WC.cond rfl (fun hc3 => ?_) (fun hc3 => ?_)
     ·simp only [decide_eq_true_eq, decide_eq_false_iff_not, Bool.not_eq_true', Bool.not_eq_false'] at hc3
      have hst : decide (C.sem.stateG b (j : Nat) = 0) = false := decide_eq_false (by intro h; exact hc3 (by show ((C.sem.stateG b (j : Nat) : Nat) : Int) = 0; rw [h]; rfl))
      refine WC.sr ?_
      refine WL.val (V.assign (OV.p rfl)) rfl ?_
      refine WL.val (V.assign (OV.p rfl)) rfl ?_
      refine WL.nil ?_
      refine WC.ret ?_
      refine BodyQ.ret (H' := C.A bc :: DvA bd bc C.g :: F) (Res.tmp2 rfl rfl rfl) (fun w h => h.drop 1) ⟨?_, rfl⟩
      have hno : ∀ i, j < i → C.sem.wholeTo b i = false := fun i hi => by
        induction i with
        | zero => omega
        | succ i ih =>
          rw [Chip.wholeTo]
          rcases Nat.lt_or_ge j i with h | h
          · rw [ih h]; rfl
          · obtain rfl : j = i := by omega
            rw [hst, Bool.and_false]
      rw [hno k hjk]
     ·simp only [decide_eq_true_eq, decide_eq_false_iff_not, Bool.not_eq_true', Bool.not_eq_false'] at hc3
      have hst : decide (C.sem.stateG b (j : Nat) = 0) = true := decide_eq_true (by have h9 := hc3; simp at h9; exact h9)
      refine WC.skip ?_
      refine WC.region ?_
      refine WL.val (V.addI (OV.p rfl) (OV.p rfl) (fun hc => by first | omega | (simp at hc; omega))) rfl ?_
      refine WL.val (V.move (OV.p rfl)) rfl ?_
      refine WL.nil ?_
      refine ⟨rfl, ?_⟩
      exact ⟨j + 1, ⟨by omega, by rw [Chip.wholeTo, hjw, hst]; rfl⟩, (by show k - (j + 1) < k - j; omega), .cons rfl (.cons rfl (.cons rfl (.cons (look_eq rfl (by simp)) (.nil _)))), fun w h => h.drop 1⟩
    ·simp only [decide_eq_true_eq, decide_eq_false_iff_not] at hc2
     refine WC.exit ?_
     refine WC.sr ?_
     refine WL.val (V.assign (OV.p rfl)) rfl ?_
     refine WL.val (V.assign (OV.p rfl)) rfl ?_
     refine WL.nil ?_
     refine WC.ret ?_
     obtain rfl : j = k := by omega
     exact BodyQ.ret (H' := C.A bc :: DvA bd bc C.g :: F) (Res.tmp2 rfl rfl rfl) (fun w h => h) ⟨by rw [hjw], rfl⟩
theorem drive_Good (hC : C.Ok) : Does Tryz.prog 18 #[ptr bd 0] K (C.A bc :: DvA bd bc C.g :: F)
    (fun v H' => ∃ A' c', v = .slice A' C.sem.good.length c' ∧ H' = SlA (.slice A' C.sem.good.length c') 3 1 C.sem.good.length (ints .i64 C.sem.good) :: C.A bc :: DvA bd bc C.g :: F) := by
  have hbl := hC.mays
  unfold Geo.mays at hbl
  obtain ⟨n, hn⟩ : ∃ n : Nat, C.g.bl = (n : Int) := ⟨C.g.bl.toNat, by omega⟩
  have hgd : C.sem.good = C.sem.goodTo n := by unfold Chip.good; rw [show C.sem.g.bl = (n : Int) from hn, Int.toNat_natCast]
  rw [hgd]
  refine Does.enter Tryz.func18 rfl Tryz.ntmps18 rfl ?_
  simp only [env0, Nat.reduceAdd]
  refine WC.sr ?_
  refine WL.val (V.assign (OV.p rfl)) rfl ?_
  refine WL.nil ?_
  refine WC.sr ?_
  refine WL.val (V.assign (OV.p rfl)) rfl ?_
  refine WL.nil ?_
  refine WC.seq ?_
  refine WC.sr ?_
  refine WL.val (V.move (OV.p rfl)) rfl ?_
  refine WL.call (vs := [_]) Tryz.call20 ⟨OV.p rfl, trivial⟩ (drive_Geometry) rfl ?_
  rintro _ H0 ⟨rfl, h0⟩
  subst H0
  refine WL.val (V.field (OV.p rfl) (fld23_0 _ _ _ _ _)) rfl ?_
  refine WL.val (V.move (OV.p rfl)) rfl ?_
  refine WL.nil ?_
  refine WC.block ?_
  refine WC.loop (σ := Nat × Option Addr × Nat) (fun x => [(0, ptr bd 0), (3, .slice x.2.1 (C.sem.goodTo x.1).length x.2.2), (7, .int .i64 C.g.bl), (8, .int .i64 (x.1 : Int))]) (fun x => C.A bc :: SlA (.slice x.2.1 (C.sem.goodTo x.1).length x.2.2) 3 1 (C.sem.goodTo x.1).length (ints .i64 (C.sem.goodTo x.1)) :: DvA bd bc C.g :: F) (fun x => x.1 ≤ n) (fun x => n - x.1) (0, none, 0) (Nat.zero_le _) (.cons rfl (.cons rfl (.cons rfl (.cons rfl (.nil _))))) (fun w h => (Sat.slNil h 3 1).p1) ?_
  rintro ⟨k, Ao, co⟩ hk
  dsimp only at hk ⊢
  have hkl := C.sem.goodTo_length k
  refine WC.sr ?_
  refine WL.val (V.lss (OV.p rfl) (OV.p rfl)) rfl ?_
  refine WL.nil ?_
  refine WC.seq ?_
  refine WC.cond rfl (fun hc0 => ?_) (fun hc0 => ?_)
  ·simp only [decide_eq_true_eq, decide_eq_false_iff_not] at hc0
   refine WC.skip ?_
   refine WC.seq ?_
   refine WC.block ?_
   refine WC.sr ?_
   refine WL.val (V.move (OV.p rfl)) rfl ?_
   refine WL.val (V.assign (OV.p rfl)) rfl ?_
   refine WL.nil ?_
   refine WC.sr ?_
   refine WL.val (V.move (OV.p rfl)) rfl ?_
   refine WL.val (V.nilCheck (OV.p rfl)) rfl ?_
   refine WL.val (V.fieldAddr fo94_0 (OV.p rfl)) rfl ?_
   refine WL.val (V.load Tryz.isAgg27 (OV.p rfl) (fun _ => by repeat (first | exact Rd.here rfl | apply Rd.up))) rfl ?_
   refine WL.call (vs := [_]) Tryz.call71 ⟨OV.p rfl, trivial⟩ (chip_Up) rfl ?_
   rintro _ H0 ⟨rfl, h0⟩
   subst H0
   refine WL.val (V.move (OV.p rfl)) rfl ?_
   refine WL.valG (oj := _) rfl rfl rfl GC.t (V.move (OV.p rfl)) rfl ?_
   refine WL.valG (oj := _) rfl rfl rfl GC.t (V.nilCheck (OV.g rfl id)) rfl ?_
   refine WL.valG (oj := _) rfl rfl rfl GC.t (V.fieldAddr fo94_0 (OV.g rfl id)) rfl ?_
   refine WL.valG (oj := _) rfl rfl rfl GC.t (V.load Tryz.isAgg27 (OV.g rfl id) (fun _ => by repeat (first | exact Rd.here rfl | apply Rd.up))) rfl ?_
   refine WL.valG (oj := _) rfl rfl rfl GC.t (V.move (OV.p rfl)) rfl ?_
   refine WL.callG (oj := _) (vs := [_, _]) rfl rfl rfl GC.t Tryz.call48 ⟨OV.g rfl id, OV.g rfl id, trivial⟩ (fun hg => chip_Bad (k : Int)) rfl ?_
   refine WL.valG (oj := _) rfl rfl rfl GC.t (V.not (OV.g rfl id)) rfl ?_
   refine WL.val (V.pickAnd (OV.p rfl) (OV.g rfl id)) rfl ?_
   refine WL.nil ?_
   refine WC.cond rfl (fun hc1 => ?_) (fun hc1 => ?_)
   ·skip
    have h1 := hc1
    have hgk : C.sem.goodTo (k + 1) = C.sem.goodTo k ++ [(k : Int)] := by rw [Chip.goodTo, if_pos (show (C.sem.up && !C.sem.bad (k : Int)) = true from h1)]
    refine WC.region ?_
    refine WL.val (V.move (OV.p rfl)) rfl ?_
    refine WL.val (V.move (OV.p rfl)) rfl ?_
    refine WL.buildSlice (E := 3) (cs := [_]) (vs := [(0, _)]) ⟨OV.p rfl, trivial⟩ rfl (bsl42_1_0 _) rfl (fun b27 => ?_)
    refine WL.sub (Sub.refl _) (fun w h => h.sel 4 [2, 0, 1, 3] rfl) ?_
    refine WL.append (m := (C.sem.goodTo k).length) (q := 1) (news := [.int .i64 (k : Int)]) Tryz.underlying42 el3 (OV.p rfl) (OV.p rfl) (Seq.all rfl) (by intro u hu; rw [List.mem_singleton.1 hu]; rfl) (by omega) rfl rfl (fun A' c' hA' hc' => ?_)
    refine WL.val (V.assign (OV.p rfl)) rfl ?_
    refine WL.nil ?_
    refine WC.region ?_
    refine WL.val (V.addI (OV.p rfl) (OV.p rfl) (fun hc => by first | omega | (simp at hc; omega))) rfl ?_
    refine WL.val (V.move (OV.p rfl)) rfl ?_
    refine WL.nil ?_
    refine ⟨rfl, ?_⟩
    first
    | exact ⟨(k + 1, A', c'), (by show k + 1 ≤ n; omega), (by show n - (k + 1) < n - k; omega), .cons rfl (.cons (look_eq rfl (by dsimp only; rw [hgk, List.length_append]; rfl)) (.cons rfl (.cons (look_eq rfl (by simp)) (.nil _)))), fun w h => by
        dsimp only
        rw [hgk, List.length_append, ints_append]
        exact h.sel 4 [2, 0, 3] rfl⟩
    | exact ⟨(k + 1, Ao, co), (by show k + 1 ≤ n; omega), (by show n - (k + 1) < n - k; omega), .cons rfl (.cons (look_eq rfl (by dsimp only; rw [hgk])) (.cons rfl (.cons (look_eq rfl (by simp)) (.nil _)))), fun w h => by
        dsimp only
        rw [hgk]
        exact h⟩
   ·skip
    have h1 := hc1
    have hgk : C.sem.goodTo (k + 1) = C.sem.goodTo k := by rw [Chip.goodTo, if_neg (by rw [show (C.sem.up && !C.sem.bad (k : Int)) = false from h1]; decide)]
    refine WC.skip ?_
    refine WC.region ?_
    refine WL.val (V.addI (OV.p rfl) (OV.p rfl) (fun hc => by first | omega | (simp at hc; omega))) rfl ?_
    refine WL.val (V.move (OV.p rfl)) rfl ?_
    refine WL.nil ?_
    refine ⟨rfl, ?_⟩
    first
    | exact ⟨(k + 1, A', c'), (by show k + 1 ≤ n; omega), (by show n - (k + 1) < n - k; omega), .cons rfl (.cons (look_eq rfl (by dsimp only; rw [hgk, List.length_append]; rfl)) (.cons rfl (.cons (look_eq rfl (by simp)) (.nil _)))), fun w h => by
        dsimp only
        rw [hgk, List.length_append, ints_append]
        exact h.sel 4 [2, 0, 3] rfl⟩
    | exact ⟨(k + 1, Ao, co), (by show k + 1 ≤ n; omega), (by show n - (k + 1) < n - k; omega), .cons rfl (.cons (look_eq rfl (by dsimp only; rw [hgk])) (.cons rfl (.cons (look_eq rfl (by simp)) (.nil _)))), fun w h => by
        dsimp only
        rw [hgk]
        exact h⟩
  ·simp only [decide_eq_true_eq, decide_eq_false_iff_not] at hc0
   refine WC.exit ?_
   refine WC.sr ?_
   refine WL.val (V.move (OV.p rfl)) rfl ?_
   refine WL.val (V.assign (OV.p rfl)) rfl ?_
   refine WL.nil ?_
   refine WC.ret ?_
   obtain rfl : k = n := by omega
   exact BodyQ.ret (H' := SlA (.slice Ao (C.sem.goodTo k).length co) 3 1 (C.sem.goodTo k).length (ints .i64 (C.sem.goodTo k)) :: C.A bc :: DvA bd bc C.g :: F) (Res.tmp rfl rfl) (fun w h => h.p1) ⟨Ao, co, rfl, rfl⟩
end
end Go.Proofs.YtohkefolnmcjnaaGreat
/- casemateref01.Ints; slices of bytes as strings. -/
namespace Go.Proofs.YtohkefolnmcjnaaGreat
open Go.Sl Go.RowKit
set_option linter.unusedVariables false
set_option linter.unusedSimpArgs false
set_option maxRecDepth 20000
/-- Two lists of numbers: are they one? -/
theorem ref01_Ints {A B : Option Addr} {m q cap cap' : Nat} {xs ys : List Int} (K : World) (F : List Assn) (ha : Seq K F A m 1 (ints .i64 xs)) (hb : Seq K F B q 1 (ints .i64 ys)) (hm : (m : Int) ≤ 9223372036854775807) :
    Tells Tryz.prog 17 #[.slice A m cap, .slice B q cap'] K F (.bool (decide (xs = ys))) := by
  have hl : xs.length = m := by simpa [ints] using ha.len
  have hl' : ys.length = q := by simpa [ints] using hb.len
  refine Does.enter Tryz.func17 rfl Tryz.ntmps17 rfl ?_
  simp only [env0, Nat.reduceAdd]
  refine WC.sr ?_
  refine WL.val (V.assign (OV.p rfl)) rfl ?_
  refine WL.nil ?_
  refine WC.seq ?_
  refine WC.sr ?_
  refine WL.val (V.move (OV.p rfl)) rfl ?_
  refine WL.val (V.len (t := 42) Tryz.runUnderlying42 (OV.p rfl)) rfl ?_
  refine WL.val (V.move (OV.p rfl)) rfl ?_
  refine WL.val (V.len (t := 42) Tryz.runUnderlying42 (OV.p rfl)) rfl ?_
  refine WL.val (V.neq (OV.p rfl) (OV.p rfl)) rfl ?_
  refine WL.nil ?_
  refine WC.cond rfl (fun hc0 => ?_) (fun hc0 => ?_)
  ·simp only [decide_eq_true_eq, decide_eq_false_iff_not, Bool.and_eq_true, Bool.or_eq_true, Bool.and_eq_false_iff, Bool.or_eq_false_iff, Bool.not_eq_true', Bool.not_eq_false', Bool.not_eq_true, Bool.not_eq_false, Int.not_lt, Int.not_le] at hc0
   refine WC.sr ?_
   refine WL.val (V.assign (OV.p rfl)) rfl ?_
   refine WL.nil ?_
   refine WC.ret ?_
   refine BodyQ.ret (H' := F) (Res.tmp rfl rfl) (fun w h => by repeat (first | exact h | replace h := h.tail)) ⟨?_, rfl⟩
   rw [decide_eq_false]; intro h; subst h; omega
  ·simp only [decide_eq_true_eq, decide_eq_false_iff_not, Bool.and_eq_true, Bool.or_eq_true, Bool.and_eq_false_iff, Bool.or_eq_false_iff, Bool.not_eq_true', Bool.not_eq_false', Bool.not_eq_true, Bool.not_eq_false, Int.not_lt, Int.not_le] at hc0
   obtain rfl : m = q := by omega
   refine WC.skip ?_
   refine WC.seq ?_
   refine WC.sr ?_
   refine WL.val (V.assign (OV.p rfl)) rfl ?_
   refine WL.nil ?_
   refine WC.block ?_
   refine WC.loop (σ := Nat) (fun k => [(0, .slice A m cap), (1, .slice B m cap'), (5, .int .i64 (k : Int))]) (fun _ => F) (fun k => k ≤ m ∧ ∀ i, i < k → xs.getD i 0 = ys.getD i 0) (fun k => m - k) 0 ⟨Nat.zero_le _, fun i hi => absurd hi (Nat.not_lt_zero i)⟩ (.cons rfl (.cons rfl (.cons rfl (.nil _)))) (fun w h => h) ?_
   rintro k ⟨hk, heq⟩
   refine WC.seq ?_
   refine WC.sr ?_
   refine WL.val (V.move (OV.p rfl)) rfl ?_
   refine WL.val (V.move (OV.p rfl)) rfl ?_
   refine WL.val (V.len (t := 42) Tryz.runUnderlying42 (OV.p rfl)) rfl ?_
   refine WL.val (V.lss (OV.p rfl) (OV.p rfl)) rfl ?_
   refine WL.nil ?_
   refine WC.cond rfl (fun hc1 => ?_) (fun hc1 => ?_)
   ·try simp only [decide_eq_true_eq, decide_eq_false_iff_not, Bool.and_eq_true, Bool.or_eq_true, Bool.and_eq_false_iff, Bool.or_eq_false_iff, Bool.not_eq_true', Bool.not_eq_false', Bool.not_eq_true, Bool.not_eq_false, Int.not_lt, Int.not_le] at hc1
    refine WC.skip ?_
    refine WC.seq ?_
    refine WC.block ?_
    refine WC.seq ?_
    refine WC.regionQ (by kernel_rfl) (by kernel_rfl) ?_
    refine WQ.val (V.move (OV.p rfl)) rfl ?_
    refine WQ.val (V.move (OV.p rfl)) rfl ?_
    refine WQ.val (V.idxS st42 (OV.p rfl) (OV.p rfl) (fun hc => by first | omega | (simp at hc; omega)) (fun hc => by repeat (first | exact Seq.int_rd ha (by first | omega | (simp at hc; omega)) | apply Rd.up))) rfl ?_
    refine WQ.val (V.load Tryz.isAgg3 (OV.p rfl) (fun hc => by repeat (first | exact Seq.int_rd ha (by first | omega | (simp at hc; omega)) | apply Rd.up))) rfl ?_
    refine WQ.val (V.move (OV.p rfl)) rfl ?_
    refine WQ.val (V.move (OV.p rfl)) rfl ?_
    refine WQ.val (V.idxS st42 (OV.p rfl) (OV.p rfl) (fun hc => by first | omega | (simp at hc; omega)) (fun hc => by repeat (first | exact Seq.int_rd hb (by first | omega | (simp at hc; omega)) | apply Rd.up))) rfl ?_
    refine WQ.val (V.load Tryz.isAgg3 (OV.p rfl) (fun hc => by repeat (first | exact Seq.int_rd hb (by first | omega | (simp at hc; omega)) | apply Rd.up))) rfl ?_
    refine WQ.val (V.neq (OV.p rfl) (OV.p rfl)) rfl ?_
    refine WQ.nil ?_
    refine WC.cond rfl (fun hc2 => ?_) (fun hc2 => ?_)
    ·try simp only [decide_eq_true_eq, decide_eq_false_iff_not, Bool.and_eq_true, Bool.or_eq_true, Bool.and_eq_false_iff, Bool.or_eq_false_iff, Bool.not_eq_true', Bool.not_eq_false', Bool.not_eq_true, Bool.not_eq_false, Int.not_lt, Int.not_le] at hc2
     refine WC.sr ?_
     refine WL.val (V.assign (OV.p rfl)) rfl ?_
     refine WL.nil ?_
     refine WC.ret ?_
     refine BodyQ.ret (H' := F) (Res.tmp rfl rfl) (fun w h => by repeat (first | exact h | replace h := h.tail)) ⟨?_, rfl⟩
     rw [decide_eq_false]; intro h; subst h; exact hc2 rfl
    ·try simp only [decide_eq_true_eq, decide_eq_false_iff_not, Bool.and_eq_true, Bool.or_eq_true, Bool.and_eq_false_iff, Bool.or_eq_false_iff, Bool.not_eq_true', Bool.not_eq_false', Bool.not_eq_true, Bool.not_eq_false, Int.not_lt, Int.not_le] at hc2
     refine WC.skip ?_
     refine WC.region ?_
     refine WL.val (V.move (OV.p rfl)) rfl ?_
     refine WL.val (V.addI (OV.p rfl) (OV.p rfl) (fun hc => by first | omega | (simp at hc; omega))) rfl ?_
     refine WL.val (V.assign (OV.p rfl)) rfl ?_
     refine WL.nil ?_
     refine ⟨rfl, ?_⟩
     refine ⟨k + 1, ⟨by omega, fun i hi => ?_⟩, (by show m - (k + 1) < m - k; omega), .cons rfl (.cons rfl (.cons (look_eq rfl (by simp)) (.nil _))), fun w h => h⟩
     rcases Nat.lt_succ_iff_lt_or_eq.1 hi with h | h
     · exact heq i h
     · subst h; simpa using hc2
   ·try simp only [decide_eq_true_eq, decide_eq_false_iff_not, Bool.and_eq_true, Bool.or_eq_true, Bool.and_eq_false_iff, Bool.or_eq_false_iff, Bool.not_eq_true', Bool.not_eq_false', Bool.not_eq_true, Bool.not_eq_false, Int.not_lt, Int.not_le] at hc1
    refine WC.exit ?_
    refine WC.sr ?_
    refine WL.val (V.assign (OV.p rfl)) rfl ?_
    refine WL.nil ?_
    refine WC.ret ?_
    refine BodyQ.ret (H' := F) (Res.tmp rfl rfl) (fun w h => by repeat (first | exact h | replace h := h.tail)) ⟨?_, rfl⟩
    rw [decide_eq_true]
    apply List.ext_getElem (by omega)
    intro i h1 h2
    have := heq i (by omega)
    simpa [List.getD, h1, h2] using this
end Go.Proofs.YtohkefolnmcjnaaGreat
/- The drive's functions at any geometry; a nil drive; casematelaw08: small, tiny, awake. -/
namespace Go.Proofs.YtohkefolnmcjnaaGreat
open Go.Sl Go.RowKit
set_option linter.unusedVariables false
set_option linter.unusedSimpArgs false
set_option maxRecDepth 20000

namespace Chip
theorem program_g (S : Chip) (b p : Int) (xs : List Int) : (S.program b p xs).1.g = S.g := by unfold program; repeat (first | rfl | split)
theorem erase_g (S : Chip) (b : Int) : (S.erase b).1.g = S.g := by unfold erase; repeat (first | rfl | split)
theorem mark_g (S : Chip) (b : Int) : (S.mark b).1.g = S.g := by
  unfold mark all
  repeat (first | rfl | split)
theorem done_g (b : Int) (x : Chip × Int) : (done b x).1.g = x.1.g := by
  unfold done
  split
  · rfl
  · split
    · exact mark_g _ _
    · exact mark_g _ _
theorem dWrite_g (S : Chip) (b p : Int) (d : List Nat) : (S.dWrite b p d).1.g = S.g := by
  unfold dWrite
  split
  · rfl
  · rw [done_g, program_g]
theorem dErase_g (S : Chip) (b : Int) : (S.dErase b).1.g = S.g := by
  unfold dErase
  split
  · rfl
  · rw [done_g, erase_g]
end Chip
theorem Cw.g_sem {C C' : Cw} {S : Chip} (h : C'.sem = S) (hg : S.g = C.sem.g) : C'.g = C.g := by
  have : C'.sem.g = C.sem.g := by rw [h, hg]
  exact this
section
variable {bc bd : Nat} {C : Cw} {g : Geo} {K : World} {F : List Assn}
theorem drive_WriteG (hC : C.Ok) (hg : C.g = g) (b p : Int) {A : Option Addr} {m cap : Nat} {d : List Nat} (hd : Seq K F A m 1 (nats .u8 d)) (h8 : Small 256 d) (hmc : m ≤ cap) (hm : m ≤ 1000000) :
    Does Tryz.prog 23 #[ptr bd 0, .int .i64 b, .int .i64 p, .slice A m cap] K (C.A bc :: DvA bd bc g :: F)
    (fun v H' => ∃ C' : Cw, C'.Ok ∧ C'.g = g ∧ H' = C'.A bc :: DvA bd bc g :: F ∧ C'.sem = (C.sem.dWrite b p d).1 ∧ v = .int .i64 (C.sem.dWrite b p d).2) := by
  subst hg
  exact (drive_Write hC b p hd h8 hmc hm).mono fun v H' ⟨C', h1, h2, h3, h4⟩ => ⟨C', h1, Cw.g_sem h3 (Chip.dWrite_g _ _ _ _), h2, h3, h4⟩
theorem drive_EraseG (hC : C.Ok) (hg : C.g = g) (b : Int) : Does Tryz.prog 61 #[ptr bd 0, .int .i64 b] K (C.A bc :: DvA bd bc g :: F)
    (fun v H' => ∃ C' : Cw, C'.Ok ∧ C'.g = g ∧ H' = C'.A bc :: DvA bd bc g :: F ∧ C'.sem = (C.sem.dErase b).1 ∧ v = .int .i64 (C.sem.dErase b).2) := by
  subst hg
  exact (drive_Erase hC b).mono fun v H' ⟨C', h1, h2, h3, h4⟩ => ⟨C', h1, Cw.g_sem h3 (Chip.dErase_g _ _), h2, h3, h4⟩
theorem drive_ReadG (hC : C.Ok) (hg : C.g = g) (b p : Int) : Does Tryz.prog 26 #[ptr bd 0, .int .i64 b, .int .i64 p] K (C.A bc :: DvA bd bc g :: F)
    (fun v H' => ∃ A' c', v = .tuple #[.slice A' (C.sem.dRead b p).d.length c', .int .i64 ((C.sem.dRead b p).n : Nat), .int .i64 (C.sem.dRead b p).err] ∧
      H' = SlA (.slice A' (C.sem.dRead b p).d.length c') 5 1 (C.sem.dRead b p).d.length (nats .u8 (C.sem.dRead b p).d) :: C.A bc :: DvA bd bc g :: F) := by
  subst hg
  exact drive_Read hC b p
theorem drive_WholeG (hC : C.Ok) (hg : C.g = g) (b n : Int) (hn : -9223372036854775808 ≤ n ∧ n ≤ 9223372036854775807) : Tells Tryz.prog 27 #[ptr bd 0, .int .i64 b, .int .i64 n] K (C.A bc :: DvA bd bc g :: F) (.tuple #[.bool (C.sem.dWhole b n).1, .int .i64 (C.sem.dWhole b n).2]) := by
  subst hg
  exact drive_Whole hC b n hn
theorem drive_GoodG (hC : C.Ok) (hg : C.g = g) : Does Tryz.prog 18 #[ptr bd 0] K (C.A bc :: DvA bd bc g :: F)
    (fun v H' => ∃ A' c', v = .slice A' C.sem.good.length c' ∧ H' = SlA (.slice A' C.sem.good.length c') 3 1 C.sem.good.length (ints .i64 C.sem.good) :: C.A bc :: DvA bd bc g :: F) := by
  subst hg
  exact drive_Good hC
theorem drive_NewG (hC : C.Ok) (hg : C.g = g) : Does Tryz.prog 14 #[ptr bc 0] K (C.A bc :: F) (fun v H' => ∃ bd, v = .tuple #[ptr bd 0, .int .i64 0] ∧ H' = C.A bc :: DvA bd bc g :: F) := by
  subst hg
  exact drive_New hC
theorem chip_WeakG (hC : C.Ok) (hg : C.g = g) (b : Int) : Does Tryz.prog 43 #[ptr bc 0, .int .i64 b] K (C.A bc :: F) (fun v H' => ∃ C' : Cw, C'.Ok ∧ C'.g = g ∧ H' = C'.A bc :: F ∧ C'.sem = C.sem.weaken b) := by
  refine (chip_Weak (C := C) b).mono fun v H' h => ?_
  subst h
  cases hb : C.sem.block b with
  | true => exact ⟨C.weaken b, hC.weaken, hg, rfl, by unfold Chip.weaken; rw [if_pos hb]; rfl⟩
  | false => exact ⟨C, hC, hg, rfl, by unfold Chip.weaken; rw [if_neg (by rw [hb]; decide)]⟩
/-! ### A nil drive -/
theorem nil_New : Tells Tryz.prog 14 #[.pointer none] K F (.tuple #[.pointer none, .int .i64 3]) := by
  refine Does.enter Tryz.func14 rfl Tryz.ntmps14 rfl ?_
  simp only [env0, Nat.reduceAdd]
  refine WC.sr ?_
  refine WL.val (V.assign (OV.p rfl)) rfl ?_
  refine WL.val (V.assign (OV.p rfl)) rfl ?_
  refine WL.nil ?_
  refine WC.seq ?_
  refine WC.sr ?_
  refine WL.val (V.move (OV.p rfl)) rfl ?_
  refine WL.val (V.eqlP Tryz.underlying27 (OV.p rfl) (OV.p rfl)) rfl ?_
  refine WL.nil ?_
  refine WC.condT' rfl (by first | rfl | (simp; done) | (simp; omega)) ?_
  refine WC.sr ?_
  refine WL.val (V.assign (OV.p rfl)) rfl ?_
  refine WL.val (V.assign (OV.p rfl)) rfl ?_
  refine WL.nil ?_
  refine WC.ret ?_
  exact BodyQ.ret (H' := F) (Res.tmp2 rfl rfl rfl) (fun w h => h) ⟨rfl, rfl⟩
theorem nilD_Geometry : Tells Tryz.prog 20 #[.pointer none] K F (Geo.mk 0 0 0 0 0).v := by
  refine Does.enter Tryz.func20 rfl Tryz.ntmps20 rfl ?_
  simp only [env0, Nat.reduceAdd]
  refine WC.sr ?_
  refine WL.alloc (cs := [(.int .i64 0), (.int .i64 0), (.int .i64 0), (.int .i64 0), (.int .i64 0)]) Tryz.zeroValue23 rfl rfl (fun b2 => ?_)
  refine WL.nil ?_
  refine WC.seq ?_
  refine WC.sr ?_
  refine WL.val (V.move (OV.p rfl)) rfl ?_
  refine WL.val (V.eqlP Tryz.underlying31 (OV.p rfl) (OV.p rfl)) rfl ?_
  refine WL.nil ?_
  refine WC.condT' rfl (by first | rfl | (simp; done) | (simp; omega)) ?_
  refine WC.sr ?_
  refine WL.val (V.build (vs := []) trivial rfl (bld23 )) rfl ?_
  refine WL.store (cs := [_, _, _, _, _]) Tryz.sizeOf23 (OV.p rfl) (OV.p rfl) rfl rfl rfl (by repeat (first | exact Upd.here (cs' := [_, _, _, _, _]) rfl rfl | apply Upd.up)) ?_
  refine WL.nil ?_
  refine WC.ret ?_
  exact BodyQ.ret (H' := F) (Res.one rfl (R1.cellA (vs := [_, _, _, _, _]) rfl ⟨Tryz.isAgg23, Tryz.sizeOf23⟩ rfl (by repeat (first | exact Rds.gets ⟨rfl, rfl, rfl, rfl, rfl, trivial⟩ | apply Rds.up)))) (fun w h => h.drop 1) ⟨rfl, rfl⟩
theorem nilD_ahead (b p : Int) (ok : Bool) : Tells Tryz.prog 74 #[.pointer none, .int .i64 b, .int .i64 p, .bool ok] K F (.int .i64 3) := by
  refine Does.enter Tryz.func74 rfl Tryz.ntmps74 rfl ?_
  simp only [env0, Nat.reduceAdd]
  refine WC.sr ?_
  refine WL.val (V.assign (OV.p rfl)) rfl ?_
  refine WL.nil ?_
  refine WC.seq ?_
  refine WC.block ?_
  refine WC.sr ?_
  refine WL.val (V.move (OV.p rfl)) rfl ?_
  refine WL.val (V.eqlP Tryz.underlying31 (OV.p rfl) (OV.p rfl)) rfl ?_
  refine WL.val (V.assign (OV.p rfl)) rfl ?_
  refine WL.nil ?_
  refine WC.condT' rfl (by first | rfl | (simp; done) | (simp; omega)) ?_
  refine WC.sr ?_
  refine WL.val (V.assign (OV.p rfl)) rfl ?_
  refine WL.nil ?_
  refine WC.ret ?_
  exact BodyQ.ret (H' := F) (Res.tmp rfl rfl) (fun w h => h) ⟨rfl, rfl⟩
theorem nilD_Read (b p : Int) : Tells Tryz.prog 26 #[.pointer none, .int .i64 b, .int .i64 p] K F (.tuple #[.slice none 0 0, .int .i64 0, .int .i64 3]) := by
  refine Does.enter Tryz.func26 rfl Tryz.ntmps26 rfl ?_
  simp only [env0, Nat.reduceAdd]
  refine WC.sr ?_
  refine WL.val (V.assign (OV.p rfl)) rfl ?_
  refine WL.val (V.assign (OV.p rfl)) rfl ?_
  refine WL.val (V.assign (OV.p rfl)) rfl ?_
  refine WL.nil ?_
  refine WC.seq ?_
  refine WC.sr ?_
  refine WL.val (V.move (OV.p rfl)) rfl ?_
  refine WL.val (V.move (OV.p rfl)) rfl ?_
  refine WL.val (V.move (OV.p rfl)) rfl ?_
  refine WL.call (vs := [_, _, _, _]) Tryz.call74 ⟨OV.p rfl, OV.p rfl, OV.p rfl, OV.p rfl, trivial⟩ (nilD_ahead b p true) rfl ?_
  rintro _ H0 ⟨rfl, h0⟩
  subst H0
  refine WL.val (V.assign (OV.p rfl)) rfl ?_
  refine WL.nil ?_
  refine WC.sr ?_
  refine WL.val (V.move (OV.p rfl)) rfl ?_
  refine WL.val (V.neq (OV.p rfl) (OV.p rfl)) rfl ?_
  refine WL.nil ?_
  refine WC.condT' rfl (by first | rfl | (simp; done) | (simp; omega)) ?_
  refine WC.sr ?_
  refine WL.val (V.move (OV.p rfl)) rfl ?_
  refine WL.val (V.assign (OV.p rfl)) rfl ?_
  refine WL.val (V.assign (OV.p rfl)) rfl ?_
  refine WL.val (V.assign (OV.p rfl)) rfl ?_
  refine WL.nil ?_
  refine WC.ret ?_
  exact BodyQ.ret (H' := F) (Res.tmp3 rfl rfl rfl rfl) (fun w h => h) ⟨rfl, rfl⟩
theorem nilD_Erase (b : Int) : Tells Tryz.prog 61 #[.pointer none, .int .i64 b] K F (.int .i64 3) := by
  refine Does.enter Tryz.func61 rfl Tryz.ntmps61 rfl ?_
  simp only [env0, Nat.reduceAdd]
  refine WC.sr ?_
  refine WL.val (V.assign (OV.p rfl)) rfl ?_
  refine WL.nil ?_
  refine WC.seq ?_
  refine WC.sr ?_
  refine WL.val (V.move (OV.p rfl)) rfl ?_
  refine WL.val (V.move (OV.p rfl)) rfl ?_
  refine WL.call (vs := [_, _, _, _]) Tryz.call74 ⟨OV.p rfl, OV.p rfl, OV.p rfl, OV.p rfl, trivial⟩ (nilD_ahead b 0 true) rfl ?_
  rintro _ H0 ⟨rfl, h0⟩
  subst H0
  refine WL.val (V.assign (OV.p rfl)) rfl ?_
  refine WL.nil ?_
  refine WC.sr ?_
  refine WL.val (V.move (OV.p rfl)) rfl ?_
  refine WL.val (V.neq (OV.p rfl) (OV.p rfl)) rfl ?_
  refine WL.nil ?_
  refine WC.condT' rfl (by first | rfl | (simp; done) | (simp; omega)) ?_
  refine WC.sr ?_
  refine WL.val (V.move (OV.p rfl)) rfl ?_
  refine WL.val (V.assign (OV.p rfl)) rfl ?_
  refine WL.nil ?_
  refine WC.ret ?_
  exact BodyQ.ret (H' := F) (Res.tmp rfl rfl) (fun w h => h) ⟨rfl, rfl⟩
theorem nilD_Whole (b n : Int) : Tells Tryz.prog 27 #[.pointer none, .int .i64 b, .int .i64 n] K F (.tuple #[.bool false, .int .i64 3]) := by
  refine Does.enter Tryz.func27 rfl Tryz.ntmps27 rfl ?_
  simp only [env0, Nat.reduceAdd]
  refine WC.sr ?_
  refine WL.val (V.assign (OV.p rfl)) rfl ?_
  refine WL.val (V.assign (OV.p rfl)) rfl ?_
  refine WL.nil ?_
  refine WC.sr ?_
  refine WL.val (V.move (OV.p rfl)) rfl ?_
  refine WL.val (V.move (OV.p rfl)) rfl ?_
  refine WL.val (V.move (OV.p rfl)) rfl ?_
  refine WL.val (V.geq (OV.p rfl) (OV.p rfl)) rfl ?_
  refine WL.val (V.move (OV.p rfl)) rfl ?_
  refine WL.valG (oj := _) rfl rfl rfl GC.t (V.move (OV.p rfl)) rfl ?_
  refine WL.valG (oj := _) rfl rfl rfl GC.t (V.move (OV.p rfl)) rfl ?_
  refine WL.callG (oj := _) (vs := [_]) rfl rfl rfl GC.t Tryz.call20 ⟨OV.g rfl id, trivial⟩ (fun hg => nilD_Geometry) rfl ?_
  refine WL.valG (oj := _) rfl rfl rfl GC.t (V.field (OV.g rfl id) (fld23_1 _ _ _ _ _)) rfl ?_
  refine WL.valG (oj := _) rfl rfl rfl GC.t (V.leq (OV.g rfl id) (OV.g rfl id)) rfl ?_
  refine WL.val (V.pickAnd (OV.p rfl) (OV.g rfl id)) rfl ?_
  refine WL.call (vs := [_, _, _, _]) Tryz.call74 ⟨OV.p rfl, OV.p rfl, OV.p rfl, OV.p rfl, trivial⟩ (nilD_ahead b 0 _) rfl ?_
  rintro _ H0 ⟨rfl, h0⟩
  subst H0
  refine WL.val (V.assign (OV.p rfl)) rfl ?_
  refine WL.nil ?_
  refine WC.seq ?_
  refine WC.sr ?_
  refine WL.val (V.move (OV.p rfl)) rfl ?_
  refine WL.val (V.eql (OV.p rfl) (OV.p rfl)) rfl ?_
  refine WL.nil ?_
  refine WC.condF' rfl (by first | rfl | (simp; done) | (simp; omega)) ?_
  refine WC.skip ?_
  refine WC.seq ?_
  refine WC.sr ?_
  refine WL.val (V.move (OV.p rfl)) rfl ?_
  refine WL.val (V.neq (OV.p rfl) (OV.p rfl)) rfl ?_
  refine WL.nil ?_
  refine WC.condT' rfl (by first | rfl | (simp; done) | (simp; omega)) ?_
  refine WC.sr ?_
  refine WL.val (V.move (OV.p rfl)) rfl ?_
  refine WL.val (V.assign (OV.p rfl)) rfl ?_
  refine WL.val (V.assign (OV.p rfl)) rfl ?_
  refine WL.nil ?_
  refine WC.ret ?_
  exact BodyQ.ret (H' := F) (Res.tmp2 rfl rfl rfl) (fun w h => h) ⟨rfl, rfl⟩
theorem nilD_Write (b p : Int) {A : Option Addr} {m cap : Nat} : Tells Tryz.prog 23 #[.pointer none, .int .i64 b, .int .i64 p, .slice A m cap] K F (.int .i64 3) := by
  refine Does.enter Tryz.func23 rfl Tryz.ntmps23 rfl ?_
  simp only [env0, Nat.reduceAdd]
  refine WC.sr ?_
  refine WL.val (V.assign (OV.p rfl)) rfl ?_
  refine WL.nil ?_
  refine WC.sr ?_
  refine WL.val (V.move (OV.p rfl)) rfl ?_
  refine WL.call (vs := [_]) Tryz.call20 ⟨OV.p rfl, trivial⟩ (nilD_Geometry) rfl ?_
  rintro _ H0 ⟨rfl, h0⟩
  subst H0
  refine WL.call (vs := [_]) Tryz.call73 ⟨OV.p rfl, trivial⟩ (Tells.eq (v' := .tuple #[.int .i64 0, .int .i64 1]) (ecc_Room ⟨0, 0, 0, 0, 0⟩) (by rfl)) rfl ?_
  rintro _ H0 ⟨rfl, h0⟩
  subst H0
  refine WL.val (V.move (OV.p rfl)) rfl ?_
  refine WL.val (V.extract (OV.p rfl) rfl) rfl ?_
  refine WL.val (V.extract (OV.p rfl) rfl) rfl ?_
  refine WL.val (V.assign (OV.p rfl)) rfl ?_
  refine WL.val (V.assign (OV.p rfl)) rfl ?_
  refine WL.nil ?_
  refine WC.seq ?_
  refine WC.sr ?_
  refine WL.val (V.move (OV.p rfl)) rfl ?_
  refine WL.val (V.move (OV.p rfl)) rfl ?_
  refine WL.val (V.move (OV.p rfl)) rfl ?_
  refine WL.val (V.move (OV.p rfl)) rfl ?_
  refine WL.val (V.len (t := 38) Tryz.runUnderlying38 (OV.p rfl)) rfl ?_
  refine WL.val (V.move (OV.p rfl)) rfl ?_
  refine WL.val (V.eql (OV.p rfl) (OV.p rfl)) rfl ?_
  refine WL.call (vs := [_, _, _, _]) Tryz.call74 ⟨OV.p rfl, OV.p rfl, OV.p rfl, OV.p rfl, trivial⟩ (nilD_ahead b p _) rfl ?_
  rintro _ H0 ⟨rfl, h0⟩
  subst H0
  refine WL.val (V.assign (OV.p rfl)) rfl ?_
  refine WL.nil ?_
  refine WC.sr ?_
  refine WL.val (V.move (OV.p rfl)) rfl ?_
  refine WL.val (V.neq (OV.p rfl) (OV.p rfl)) rfl ?_
  refine WL.nil ?_
  refine WC.condT' rfl (by first | rfl | (simp; done) | (simp; omega)) ?_
  refine WC.sr ?_
  refine WL.val (V.move (OV.p rfl)) rfl ?_
  refine WL.val (V.assign (OV.p rfl)) rfl ?_
  refine WL.nil ?_
  refine WC.ret ?_
  exact BodyQ.ret (H' := F) (Res.tmp rfl rfl) (fun w h => h) ⟨rfl, rfl⟩
theorem nilD_Good : Tells Tryz.prog 18 #[.pointer none] K F (.slice none 0 0) := by
  refine Does.enter Tryz.func18 rfl Tryz.ntmps18 rfl ?_
  simp only [env0, Nat.reduceAdd]
  refine WC.sr ?_
  refine WL.val (V.assign (OV.p rfl)) rfl ?_
  refine WL.nil ?_
  refine WC.sr ?_
  refine WL.val (V.assign (OV.p rfl)) rfl ?_
  refine WL.nil ?_
  refine WC.seq ?_
  refine WC.sr ?_
  refine WL.val (V.move (OV.p rfl)) rfl ?_
  refine WL.call (vs := [_]) Tryz.call20 ⟨OV.p rfl, trivial⟩ (nilD_Geometry) rfl ?_
  rintro _ H0 ⟨rfl, h0⟩
  subst H0
  refine WL.val (V.field (OV.p rfl) (fld23_0 _ _ _ _ _)) rfl ?_
  refine WL.val (V.move (OV.p rfl)) rfl ?_
  refine WL.nil ?_
  refine WC.block ?_
  refine WC.loop (σ := Unit) (fun _ => [(3, .slice none 0 0), (7, .int .i64 0), (8, .int .i64 0)]) (fun _ => F) (fun _ => True) (fun _ => 0) () trivial (.cons rfl (.cons rfl (.cons rfl (.nil _)))) (fun w h => h) ?_
  rintro _ _
  refine WC.sr ?_
  refine WL.val (V.lss (OV.p rfl) (OV.p rfl)) rfl ?_
  refine WL.nil ?_
  refine WC.seq ?_
  refine WC.condF' rfl (by first | rfl | (simp; done) | (simp; omega)) ?_
  refine WC.exit ?_
  refine WC.sr ?_
  refine WL.val (V.move (OV.p rfl)) rfl ?_
  refine WL.val (V.assign (OV.p rfl)) rfl ?_
  refine WL.nil ?_
  refine WC.ret ?_
  exact BodyQ.ret (H' := F) (Res.tmp rfl rfl) (fun w h => h) ⟨rfl, rfl⟩
end
end Go.Proofs.YtohkefolnmcjnaaGreat
/- What is packed is read. -/
namespace Go.Proofs.YtohkefolnmcjnaaGreat
open Go.Sl Go.RowKit
set_option linter.unusedVariables false
set_option linter.unusedSimpArgs false
set_option maxRecDepth 20000

theorem pkTo_split {t B : Nat} {d : List Nat} : ∀ (S j : Nat), j < S → ∃ rest, pkTo t B d S = pkTo t B d j ++ ((sect B d j ++ encB t (sect B d j)) ++ rest)
  | 0, j, h => absurd h (Nat.not_lt_zero _)
  | S + 1, j, h => by
    rw [pkTo]
    rcases Nat.lt_or_ge j S with h1 | h1
    · obtain ⟨r, hr⟩ := pkTo_split S j h1
      exact ⟨r ++ (sect B d S ++ encB t (sect B d S)), by rw [hr]; simp only [List.append_assoc]⟩
    · have : j = S := by omega
      subst this
      exact ⟨[], by simp only [List.append_assoc, List.append_nil]⟩
section
variable {t B S : Nat} {d : List Nat}
theorem packF_split (ht : 1 ≤ t ∧ t ≤ 8) (h8 : Small 256 d) (hl : d.length = S * B) {j : Nat} (hj : j < S) :
    secD B (B + moreLen t) (packF t S B d) j = sect B d j ∧ secM B (B + moreLen t) (packF t S B d) j = encB t (sect B d j) := by
  obtain ⟨r, hr⟩ := pkTo_split (t := t) (B := B) (d := d) S j hj
  have h1 := pkTo_length ht h8 hl j (by omega)
  have h2 := sect_length hl hj
  have h3 := encB_length ht (sect_small h8 j (B := B))
  have hdrop : (packF t S B d).drop (j * (B + moreLen t)) = sect B d j ++ (encB t (sect B d j) ++ (r ++ [0])) := by
    unfold packF
    rw [hr, List.append_assoc, List.drop_left' h1]
    simp only [List.append_assoc]
  unfold secD secM
  rw [hdrop]
  refine ⟨List.take_left' h2, ?_⟩
  rw [List.drop_left' h2, Nat.add_sub_cancel_left]
  exact List.take_left' h3
theorem packF_state (ht : 1 ≤ t ∧ t ≤ 8) (h8 : Small 256 d) (hl : d.length = S * B) : stateF t S (B + moreLen t) (packF t S B d) = 0 := by
  have h1 := pkTo_length ht h8 hl S (Nat.le_refl _)
  unfold stateF packF
  rw [if_pos]
  rw [List.getD, List.getElem?_append_right (by omega), h1, Nat.sub_self]; rfl
theorem readTo_secs (ht : 1 ≤ t ∧ t ≤ 8) (h8 : Small 256 d) : ∀ (k j : Nat) (acc : List Nat), readTo ((List.range' j k).map fun i => some ((sect B d i, encB t (sect B d i)), 0)) acc 0 = ⟨0, acc ++ (d.drop (j * B)).take (k * B), 0⟩
  | 0, j, acc => by simp [readTo]
  | k + 1, j, acc => by
    rw [List.range'_succ, List.map_cons, readTo, Nat.max_self, readTo_secs ht h8 k (j + 1) _]
    congr 1
    rw [List.append_assoc]
    congr 1
    unfold sect
    rw [show (k + 1) * B = B + k * B by rw [Nat.succ_mul, Nat.add_comm], List.take_add, List.drop_drop, Nat.succ_mul]
/-- What is packed is read, no bit is turned. -/
theorem read_pack (ht : 1 ≤ t ∧ t ≤ 8) (h8 : Small 256 d) (hl : d.length = S * B) : readF t S B (packF t S B d) = ⟨0, d, 0⟩ := by
  unfold readF
  rw [if_neg (fun h => h (packF_state ht h8 hl))]
  have h1 : (List.range S).map (uSec t B (B + moreLen t) (packF t S B d)) = (List.range' 0 S).map fun i => some ((sect B d i, encB t (sect B d i)), 0) := by
    rw [← List.range_eq_range']
    apply List.map_congr_left
    intro j hj
    have hj := List.mem_range.1 hj
    unfold uSec
    obtain ⟨e1, e2⟩ := packF_split ht h8 hl hj
    rw [e1, e2, dec_enc ht (sect_small h8 j)]
  rw [h1, readTo_secs ht h8 S 0 []]
  rw [Nat.zero_mul, List.drop_zero, List.nil_append, ← hl, List.take_length]
end
end Go.Proofs.YtohkefolnmcjnaaGreat
