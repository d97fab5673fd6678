/- The drive: Read, Whole, Good. -/
import Derived.Test.YtohkefolnmcjnaaD4
namespace Go.Proofs.Ytohkefolnmcjnaa
open Go.Sl Go.RowKit
set_option linter.unusedVariables false
set_option linter.unusedSimpArgs false
set_option maxRecDepth 20000

theorem Cw.Ok.reads_isb {C : Cw} (hC : C.Ok) (b p : Int) : IsBytes (C.sem.reads b p) := by
  have hr := Geo.raw_bd hC.mays
  have hl := hC.reads_len b p
  unfold Chip.reads at hl ⊢
  rw [turn_length] at hl
  refine turn_isb (hC.base_isb b p) (fun i hi => ?_)
  obtain ⟨A, c, l, h1, h2, h3, h4, h5⟩ := hC.wrong_at b p
  rw [← h4] at hi
  have := h3 i hi
  rw [hl]; omega
theorem Cw.Ok.rawN_facts {C : Cw} (hC : C.Ok) (b p : Int) : ints .u8 (C.sem.reads b p) = nats .u8 (C.sem.rawN b p) ∧ Small 256 (C.sem.rawN b p) ∧ (C.sem.rawN b p).length = C.g.raw.toNat := by
  have h := hC.reads_isb b p
  exact ⟨ints_natsOf h, natsOf_small h, by unfold Chip.rawN; rw [natsOf_length, hC.reads_len]⟩
section
variable {bc bd : Nat} {C : Cw} {K : World} {F : List Assn}
theorem drive_Read (hC : C.Ok) (b p : Int) : Does Try.prog 14 #[ptr bd 0, .int .i64 b, .int .i64 p] K (C.A bc :: DvA bd bc C.g :: F)
    (fun v H' => ∃ A' c', v = .tuple #[.slice A' (C.sem.dRead b p).d.length c', .int .i64 ((C.sem.dRead b p).n : Nat), .int .i64 (C.sem.dRead b p).err] ∧
      H' = SlA (.slice A' (C.sem.dRead b p).d.length c') 5 1 (C.sem.dRead b p).d.length (nats .u8 (C.sem.dRead b p).d) :: C.A bc :: DvA bd bc C.g :: F) := by
  obtain ⟨G, hG⟩ : ∃ G, G = C.sem.dRead b p := ⟨_, rfl⟩
  rw [← hG]
  obtain ⟨r1, r2, r3⟩ := hC.rawN_facts b p
  have hrb := Geo.raw_bd hC.mays
  refine Does.enter Try.func14 rfl Try.ntmps14 rfl ?_
  simp only [env0, Nat.reduceAdd]
  refine WC.seq ?_
  refine WC.region ?_
  refine WL.val (V.assign (OV.p rfl)) rfl ?_
  refine WL.val (V.assign (OV.p rfl)) rfl ?_
  refine WL.val (V.assign (OV.p rfl)) rfl ?_
  refine WL.nil ?_
  refine WC.seq ?_
  refine WC.seq ?_
  refine WC.region ?_
  refine WL.val (V.move (OV.p rfl)) rfl ?_
  refine WL.val (V.move (OV.p rfl)) rfl ?_
  refine WL.val (V.move (OV.p rfl)) rfl ?_
  refine WL.call (vs := [_, _, _, _]) Try.call27 ⟨OV.p rfl, OV.p rfl, OV.p rfl, OV.p rfl, trivial⟩ (drive_ahead b p true) rfl ?_
  rintro _ H0 ⟨rfl, h0⟩
  subst H0
  refine WL.val (V.assign (OV.p rfl)) rfl ?_
  refine WL.nil ?_
  refine WC.seq ?_
  refine WC.region ?_
  refine WL.val (V.move (OV.p rfl)) rfl ?_
  refine WL.val (V.neq (OV.p rfl) (OV.p rfl)) rfl ?_
  refine WL.nil ?_
  refine WC.cond rfl (fun hc0 => ?_) (fun hc0 => ?_)
  · simp only [decide_eq_true_eq, decide_eq_false_iff_not, Bool.not_eq_true', Bool.not_eq_false'] at hc0
    have h0 := hc0
    have hG2 : G = ⟨C.sem.ahead b p true, [], 0⟩ := by rw [hG]; unfold Chip.dRead; rw [if_pos h0]
    refine WC.seq ?_
    refine WC.region ?_
    refine WL.val (V.move (OV.p rfl)) rfl ?_
    refine WL.val (V.assign (OV.p rfl)) rfl ?_
    refine WL.val (V.assign (OV.p rfl)) rfl ?_
    refine WL.val (V.assign (OV.p rfl)) rfl ?_
    refine WL.nil ?_
    refine WC.ret ?_
    exact BodyQ.ret (H' := SlA (.slice none 0 0) 5 1 0 [] :: C.A bc :: DvA bd bc C.g :: F) (Res.tmp3 rfl rfl rfl rfl) (fun w h => Sat.slNil h _ _) ⟨none, 0, by rw [hG2]; rfl, by rw [hG2]; rfl⟩
  · simp only [decide_eq_true_eq, decide_eq_false_iff_not, Bool.not_eq_true', Bool.not_eq_false'] at hc0
    have h0 := hc0
    have h0 : C.sem.ahead b p true = 0 := by simpa using h0
    have hG2 : G = ⟨(readF C.g.fl.toNat C.g.se.toNat C.g.sb.toNat (C.sem.rawN b p)).err, (readF C.g.fl.toNat C.g.se.toNat C.g.sb.toNat (C.sem.rawN b p)).d, (readF C.g.fl.toNat C.g.se.toNat C.g.sb.toNat (C.sem.rawN b p)).n⟩ := by rw [hG]; unfold Chip.dRead; rw [if_neg (by rw [h0]; decide)]; rfl
    refine WC.skip ?_
    refine WC.seq ?_
    refine WC.region ?_
    refine WL.val (V.move (OV.p rfl)) rfl ?_
    refine WL.val (V.nilCheck (OV.p rfl)) rfl ?_
    refine WL.val (V.fieldAddr fo59_0 (OV.p rfl)) rfl ?_
    refine WL.val (V.load Try.isAgg27 (OV.p rfl) (fun _ => by repeat (first | exact Rd.here rfl | apply Rd.up))) rfl ?_
    refine WL.val (V.move (OV.p rfl)) rfl ?_
    refine WL.val (V.move (OV.p rfl)) rfl ?_
    refine WL.call (vs := [_, _, _]) Try.call33 ⟨OV.p rfl, OV.p rfl, OV.p rfl, trivial⟩ (chip_Read hC b p) rfl ?_
    rintro _ _ (⟨_, bo, rfl, rfl⟩ | ⟨hno, rfl, rfl⟩)
    rotate_left
    · exact (hno (Chip.read_zero h0)).elim
    rw [r1]
    refine WL.val (V.move (OV.p rfl)) rfl ?_
    refine WL.val (V.extract (OV.p rfl) rfl) rfl ?_
    refine WL.val (V.extract (OV.p rfl) rfl) rfl ?_
    refine WL.val (V.assign (OV.p rfl)) rfl ?_
    refine WL.val (V.assign (OV.p rfl)) rfl ?_
    refine WL.nil ?_
    refine WC.seq ?_
    refine WC.seq ?_
    refine WC.region ?_
    refine WL.val (V.move (OV.p rfl)) rfl ?_
    refine WL.val (V.neq (OV.p rfl) (OV.p rfl)) rfl ?_
    refine WL.nil ?_
    refine WC.condF' rfl (by first | rfl | (simp; done) | (simp; omega)) ?_
    refine WC.skip ?_
    refine WC.seq ?_
    refine WC.region ?_
    refine WL.val (V.move (OV.p rfl)) rfl ?_
    refine WL.val (V.nilCheck (OV.p rfl)) rfl ?_
    refine WL.val (V.fieldAddr fo59_1 (OV.p rfl)) rfl ?_
    refine WL.val (V.loadA (vs := [_, _, _, _, _]) ⟨Try.isAgg23, Try.sizeOf23⟩ (OV.p rfl) rfl (fun _ => by repeat (first | exact Rds.gets ⟨rfl, rfl, rfl, rfl, rfl, trivial⟩ | apply Rds.up))) rfl ?_
    refine WL.val (V.move (OV.p rfl)) rfl ?_
    refine WL.call (vs := [_, _]) Try.call34 ⟨OV.p rfl, OV.p rfl, trivial⟩ (ecc_ReadG hC.mays (Seq.allN r3) r2 rfl (Nat.le_refl _)) rfl ?_
    rintro _ _ ⟨A', c', rfl, rfl⟩
    refine WL.val (V.extract (OV.p rfl) rfl) rfl ?_
    refine WL.val (V.extract (OV.p rfl) rfl) rfl ?_
    refine WL.val (V.extract (OV.p rfl) rfl) rfl ?_
    refine WL.val (V.assign (OV.p rfl)) rfl ?_
    refine WL.val (V.assign (OV.p rfl)) rfl ?_
    refine WL.val (V.assign (OV.p rfl)) rfl ?_
    refine WL.nil ?_
    refine WC.ret ?_
    refine BodyQ.ret (H' := SlA (.slice A' G.d.length c') 5 1 G.d.length (nats .u8 G.d) :: C.A bc :: DvA bd bc C.g :: F) (Res.tmp3 rfl rfl rfl rfl) (fun w h => ?_) ⟨A', c', by rw [hG2], rfl⟩
    rw [hG2]
    exact h.sel 2 [0] rfl
theorem drive_Whole (hC : C.Ok) (b n : Int) (hn : -9223372036854775808 ≤ n ∧ n ≤ 9223372036854775807) : Tells Try.prog 17 #[ptr bd 0, .int .i64 b, .int .i64 n] K (C.A bc :: DvA bd bc C.g :: F) (.tuple #[.bool (C.sem.dWhole b n).1, .int .i64 (C.sem.dWhole b n).2]) := by
  have hrb := Geo.raw_bd hC.mays
  have hpg := hC.mays
  unfold Geo.mays at hpg
  refine Does.enter Try.func17 rfl Try.ntmps17 rfl ?_
  simp only [env0, Nat.reduceAdd]
  refine WC.seq ?_
  refine WC.region ?_
  refine WL.val (V.assign (OV.p rfl)) rfl ?_
  refine WL.val (V.assign (OV.p rfl)) rfl ?_
  refine WL.nil ?_
  refine WC.seq ?_
  refine WC.region ?_
  refine WL.val (V.move (OV.p rfl)) rfl ?_
  refine WL.val (V.move (OV.p rfl)) rfl ?_
  refine WL.val (V.move (OV.p rfl)) rfl ?_
  refine WL.val (V.geq (OV.p rfl) (OV.p rfl)) rfl ?_
  refine WL.val (V.move (OV.p rfl)) rfl ?_
  refine WL.valG (oj := _) rfl rfl rfl GC.t (V.move (OV.p rfl)) rfl ?_
  refine WL.valG (oj := _) rfl rfl rfl GC.t (V.move (OV.p rfl)) rfl ?_
  refine WL.callG (oj := _) (vs := [_]) rfl rfl rfl GC.t Try.call18 ⟨OV.g rfl id, trivial⟩ (fun hg => drive_Geometry) rfl ?_
  refine WL.valG (oj := _) rfl rfl rfl GC.t (V.field (OV.g rfl id) (fld23_1 _ _ _ _ _)) rfl ?_
  refine WL.valG (oj := _) rfl rfl rfl GC.t (V.leq (OV.g rfl id) (OV.g rfl id)) rfl ?_
  refine WL.val (V.pickAnd (OV.p rfl) (OV.g rfl id)) rfl ?_
  refine WL.call (vs := [_, _, _, _]) Try.call27 ⟨OV.p rfl, OV.p rfl, OV.p rfl, OV.p rfl, trivial⟩ (drive_ahead b 0 _) rfl ?_
  rintro _ H0 ⟨rfl, h0⟩
  subst H0
  refine WL.val (V.assign (OV.p rfl)) rfl ?_
  refine WL.nil ?_
  refine WC.seq ?_
  refine WC.seq ?_
  obtain ⟨e, he⟩ : ∃ e, e = C.sem.ahead b 0 (decide (0 ≤ n) && decide (n ≤ C.g.pg)) := ⟨_, rfl⟩
  rw [← he]
  have hW : C.sem.dWhole b n = if e = 73 then (false, 0) else if e ≠ 0 then (false, e) else (C.sem.wholeTo b n.toNat, 0) := by unfold Chip.dWhole; rw [he]; rfl
  rw [hW]
  refine WC.region ?_
  refine WL.val (V.move (OV.p rfl)) rfl ?_
  refine WL.val (V.eql (OV.p rfl) (OV.p rfl)) rfl ?_
  refine WL.nil ?_
  refine WC.cond rfl (fun hc0 => ?_) (fun hc0 => ?_)
  · simp only [decide_eq_true_eq, decide_eq_false_iff_not, Bool.not_eq_true', Bool.not_eq_false'] at hc0
    rw [if_pos hc0]
    refine WC.seq ?_
    refine WC.region ?_
    refine WL.val (V.assign (OV.p rfl)) rfl ?_
    refine WL.val (V.assign (OV.p rfl)) rfl ?_
    refine WL.nil ?_
    refine WC.ret ?_
    exact BodyQ.ret (H' := C.A bc :: DvA bd bc C.g :: F) (Res.tmp2 rfl rfl rfl) (fun w h => h) ⟨rfl, rfl⟩
  · simp only [decide_eq_true_eq, decide_eq_false_iff_not, Bool.not_eq_true', Bool.not_eq_false'] at hc0
    rw [if_neg hc0]
    refine WC.skip ?_
    refine WC.seq ?_
    refine WC.seq ?_
    refine WC.region ?_
    refine WL.val (V.move (OV.p rfl)) rfl ?_
    refine WL.val (V.neq (OV.p rfl) (OV.p rfl)) rfl ?_
    refine WL.nil ?_
    refine WC.cond rfl (fun hc1 => ?_) (fun hc1 => ?_)
    · simp only [decide_eq_true_eq, decide_eq_false_iff_not, Bool.not_eq_true', Bool.not_eq_false'] at hc1
      rw [if_pos hc1]
      refine WC.seq ?_
      refine WC.region ?_
      refine WL.val (V.move (OV.p rfl)) rfl ?_
      refine WL.val (V.assign (OV.p rfl)) rfl ?_
      refine WL.val (V.assign (OV.p rfl)) rfl ?_
      refine WL.nil ?_
      refine WC.ret ?_
      exact BodyQ.ret (H' := C.A bc :: DvA bd bc C.g :: F) (Res.tmp2 rfl rfl rfl) (fun w h => h) ⟨rfl, rfl⟩
    · simp only [decide_eq_true_eq, decide_eq_false_iff_not, Bool.not_eq_true', Bool.not_eq_false'] at hc1
      have he0 : e = 0 := by simpa using hc1
      rw [if_neg (by rw [he0]; decide)]
      obtain ⟨q1, q2, q3, q4⟩ := Chip.ahead_zero (he ▸ he0 : C.sem.ahead b 0 (decide (0 ≤ n) && decide (n ≤ C.g.pg)) = 0)
      simp only [Bool.and_eq_true, decide_eq_true_eq] at q3
      obtain ⟨k, hk⟩ : ∃ k : Nat, n = (k : Int) := ⟨n.toNat, by omega⟩
      subst hk
      rw [Int.toNat_natCast]
      refine WC.skip ?_
      refine WC.seq ?_
      refine WC.seq ?_
      refine WC.region ?_
      refine WL.val (V.move (OV.p rfl)) rfl ?_
      refine WL.val (V.move (OV.p rfl)) rfl ?_
      refine WL.nil ?_
      refine WC.block ?_
      refine WC.loop (σ := Nat) (fun j => [(0, ptr bd 0), (1, .int .i64 b), (31, .int .i64 (k : Int)), (32, .int .i64 (j : Int))]) (fun _ => C.A bc :: DvA bd bc C.g :: F) (fun j => j ≤ k ∧ C.sem.wholeTo b j = true) (fun j => k - j) 0 ⟨Nat.zero_le _, rfl⟩ (.cons rfl (.cons rfl (.cons rfl (.cons rfl (.nil _))))) (fun w h => h) ?_
      rintro j ⟨hj, hjw⟩
      refine WC.seq ?_
      refine WC.region ?_
      refine WL.val (V.lss (OV.p rfl) (OV.p rfl)) rfl ?_
      refine WL.nil ?_
      refine WC.seq ?_
      refine WC.cond rfl (fun hc2 => ?_) (fun hc2 => ?_)
      · simp only [decide_eq_true_eq, decide_eq_false_iff_not] at hc2
        refine WC.skip ?_
        refine WC.seq ?_
        refine WC.block ?_
        refine WC.seq ?_
        refine WC.region ?_
        refine WL.val (V.move (OV.p rfl)) rfl ?_
        refine WL.val (V.assign (OV.p rfl)) rfl ?_
        refine WL.nil ?_
        refine WC.seq ?_
        have hjk : j < k := by omega
        obtain ⟨r1, r2, r3⟩ := hC.rawN_facts b (j : Int)
        have hre : C.sem.readErr b (j : Int) = 0 := by
          unfold Chip.readErr Chip.page Chip.block
          rw [if_neg (by rw [q1]; decide), if_neg]
          have e1 : C.sem.g = C.g := rfl
          simp only [e1] at q2 ⊢
          simp; omega
        refine WC.region ?_
        refine WL.val (V.move (OV.p rfl)) rfl ?_
        refine WL.val (V.nilCheck (OV.p rfl)) rfl ?_
        refine WL.val (V.fieldAddr fo59_0 (OV.p rfl)) rfl ?_
        refine WL.val (V.load Try.isAgg27 (OV.p rfl) (fun _ => by repeat (first | exact Rd.here rfl | apply Rd.up))) rfl ?_
        refine WL.val (V.move (OV.p rfl)) rfl ?_
        refine WL.val (V.move (OV.p rfl)) rfl ?_
        refine WL.call (vs := [_, _, _]) Try.call33 ⟨OV.p rfl, OV.p rfl, OV.p rfl, trivial⟩ (chip_Read hC b (j : Int)) rfl ?_
        rintro _ _ (⟨_, bo, rfl, rfl⟩ | ⟨hno, rfl, rfl⟩)
        rotate_left
        · exact (hno hre).elim
        rw [r1]
        refine WL.val (V.move (OV.p rfl)) rfl ?_
        refine WL.val (V.extract (OV.p rfl) rfl) rfl ?_
        refine WL.val (V.extract (OV.p rfl) rfl) rfl ?_
        refine WL.val (V.assign (OV.p rfl)) rfl ?_
        refine WL.val (V.assign (OV.p rfl)) rfl ?_
        refine WL.nil ?_
        refine WC.seq ?_
        refine WC.region ?_
        refine WL.val (V.move (OV.p rfl)) rfl ?_
        refine WL.val (V.nilCheck (OV.p rfl)) rfl ?_
        refine WL.val (V.fieldAddr fo59_1 (OV.p rfl)) rfl ?_
        refine WL.val (V.loadA (vs := [_, _, _, _, _]) ⟨Try.isAgg23, Try.sizeOf23⟩ (OV.p rfl) rfl (fun _ => by repeat (first | exact Rds.gets ⟨rfl, rfl, rfl, rfl, rfl, trivial⟩ | apply Rds.up))) rfl ?_
        refine WL.val (V.move (OV.p rfl)) rfl ?_
        refine WL.call (vs := [_, _]) Try.call39 ⟨OV.p rfl, OV.p rfl, trivial⟩ (ecc_UnpackG hC.mays (Seq.allN r3) r2 rfl (Nat.le_refl _)) rfl ?_
        rintro _ _ ⟨A', n', c', rfl, rfl⟩
        refine WL.val (V.move (OV.p rfl)) rfl ?_
        refine WL.val (V.extract (OV.p rfl) rfl) rfl ?_
        refine WL.val (V.extract (OV.p rfl) rfl) rfl ?_
        refine WL.val (V.assign (OV.p rfl)) rfl ?_
        refine WL.val (V.assign (OV.p rfl)) rfl ?_
        refine WL.nil ?_
        refine WC.seq ?_
        refine WC.region ?_
        refine WL.val (V.move (OV.p rfl)) rfl ?_
        refine WL.val (V.neq (OV.p rfl) (OV.p rfl)) rfl ?_
        refine WL.nil ?_
        refine WC.cond rfl (fun hc3 => ?_) (fun hc3 => ?_)
        · simp only [decide_eq_true_eq, decide_eq_false_iff_not, Bool.not_eq_true', Bool.not_eq_false'] at hc3
          have hst : decide (C.sem.stateG b (j : Nat) = 0) = false := decide_eq_false (by intro h; exact hc3 (by show ((C.sem.stateG b (j : Nat) : Nat) : Int) = 0; rw [h]; rfl))
          refine WC.seq ?_
          refine WC.region ?_
          refine WL.val (V.assign (OV.p rfl)) rfl ?_
          refine WL.val (V.assign (OV.p rfl)) rfl ?_
          refine WL.nil ?_
          refine WC.ret ?_
          refine BodyQ.ret (H' := C.A bc :: DvA bd bc C.g :: F) (Res.tmp2 rfl rfl rfl) (fun w h => h.drop 1) ⟨?_, rfl⟩
          have hno : ∀ i, j < i → C.sem.wholeTo b i = false := fun i hi => by
            induction i with
            | zero => omega
            | succ i ih =>
              rw [Chip.wholeTo]
              rcases Nat.lt_or_ge j i with h | h
              · rw [ih h]; rfl
              · obtain rfl : j = i := by omega
                rw [hst, Bool.and_false]
          rw [hno k hjk]
        · simp only [decide_eq_true_eq, decide_eq_false_iff_not, Bool.not_eq_true', Bool.not_eq_false'] at hc3
          have hst : decide (C.sem.stateG b (j : Nat) = 0) = true := decide_eq_true (by have h9 := hc3; simp at h9; exact h9)
          refine WC.skip ?_
          refine WC.region ?_
          refine WL.val (V.addI (OV.p rfl) (OV.p rfl) (fun hc => by first | omega | (simp at hc; omega))) rfl ?_
          refine WL.val (V.move (OV.p rfl)) rfl ?_
          refine WL.nil ?_
          refine ⟨rfl, ?_⟩
          exact ⟨j + 1, ⟨by omega, by rw [Chip.wholeTo, hjw, hst]; rfl⟩, (by show k - (j + 1) < k - j; omega), .cons rfl (.cons rfl (.cons rfl (.cons (look_eq rfl (by simp)) (.nil _)))), fun w h => h.drop 1⟩
      · simp only [decide_eq_true_eq, decide_eq_false_iff_not] at hc2
        refine WC.exit ?_
        refine WC.seq ?_
        refine WC.region ?_
        refine WL.val (V.assign (OV.p rfl)) rfl ?_
        refine WL.val (V.assign (OV.p rfl)) rfl ?_
        refine WL.nil ?_
        refine WC.ret ?_
        obtain rfl : j = k := by omega
        exact BodyQ.ret (H' := C.A bc :: DvA bd bc C.g :: F) (Res.tmp2 rfl rfl rfl) (fun w h => h) ⟨by rw [hjw], rfl⟩
theorem drive_Good (hC : C.Ok) : Does Try.prog 15 #[ptr bd 0] K (C.A bc :: DvA bd bc C.g :: F)
    (fun v H' => ∃ A' c', v = .slice A' C.sem.good.length c' ∧ H' = SlA (.slice A' C.sem.good.length c') 3 1 C.sem.good.length (ints .i64 C.sem.good) :: C.A bc :: DvA bd bc C.g :: F) := by
  have hbl := hC.mays
  unfold Geo.mays at hbl
  obtain ⟨n, hn⟩ : ∃ n : Nat, C.g.bl = (n : Int) := ⟨C.g.bl.toNat, by omega⟩
  have hgd : C.sem.good = C.sem.goodTo n := by unfold Chip.good; rw [show C.sem.g.bl = (n : Int) from hn, Int.toNat_natCast]
  rw [hgd]
  refine Does.enter Try.func15 rfl Try.ntmps15 rfl ?_
  simp only [env0, Nat.reduceAdd]
  refine WC.seq ?_
  refine WC.region ?_
  refine WL.val (V.assign (OV.p rfl)) rfl ?_
  refine WL.nil ?_
  refine WC.seq ?_
  refine WC.region ?_
  refine WL.val (V.assign (OV.p rfl)) rfl ?_
  refine WL.nil ?_
  refine WC.seq ?_
  refine WC.seq ?_
  refine WC.region ?_
  refine WL.val (V.move (OV.p rfl)) rfl ?_
  refine WL.call (vs := [_]) Try.call18 ⟨OV.p rfl, trivial⟩ (drive_Geometry) rfl ?_
  rintro _ H0 ⟨rfl, h0⟩
  subst H0
  refine WL.val (V.field (OV.p rfl) (fld23_0 _ _ _ _ _)) rfl ?_
  refine WL.val (V.move (OV.p rfl)) rfl ?_
  refine WL.nil ?_
  refine WC.block ?_
  refine WC.loop (σ := Nat × Option Addr × Nat) (fun x => [(0, ptr bd 0), (3, .slice x.2.1 (C.sem.goodTo x.1).length x.2.2), (7, .int .i64 C.g.bl), (8, .int .i64 (x.1 : Int))]) (fun x => C.A bc :: SlA (.slice x.2.1 (C.sem.goodTo x.1).length x.2.2) 3 1 (C.sem.goodTo x.1).length (ints .i64 (C.sem.goodTo x.1)) :: DvA bd bc C.g :: F) (fun x => x.1 ≤ n) (fun x => n - x.1) (0, none, 0) (Nat.zero_le _) (.cons rfl (.cons rfl (.cons rfl (.cons rfl (.nil _))))) (fun w h => (Sat.slNil h 3 1).p1) ?_
  rintro ⟨k, Ao, co⟩ hk
  dsimp only at hk ⊢
  have hkl := C.sem.goodTo_length k
  refine WC.seq ?_
  refine WC.region ?_
  refine WL.val (V.lss (OV.p rfl) (OV.p rfl)) rfl ?_
  refine WL.nil ?_
  refine WC.seq ?_
  refine WC.cond rfl (fun hc0 => ?_) (fun hc0 => ?_)
  · simp only [decide_eq_true_eq, decide_eq_false_iff_not] at hc0
    refine WC.skip ?_
    refine WC.seq ?_
    refine WC.block ?_
    refine WC.seq ?_
    refine WC.region ?_
    refine WL.val (V.move (OV.p rfl)) rfl ?_
    refine WL.val (V.assign (OV.p rfl)) rfl ?_
    refine WL.nil ?_
    refine WC.seq ?_
    refine WC.region ?_
    refine WL.val (V.move (OV.p rfl)) rfl ?_
    refine WL.val (V.nilCheck (OV.p rfl)) rfl ?_
    refine WL.val (V.fieldAddr fo59_0 (OV.p rfl)) rfl ?_
    refine WL.val (V.load Try.isAgg27 (OV.p rfl) (fun _ => by repeat (first | exact Rd.here rfl | apply Rd.up))) rfl ?_
    refine WL.call (vs := [_]) Try.call35 ⟨OV.p rfl, trivial⟩ (chip_Up) rfl ?_
    rintro _ H0 ⟨rfl, h0⟩
    subst H0
    refine WL.val (V.move (OV.p rfl)) rfl ?_
    refine WL.valG (oj := _) rfl rfl rfl GC.t (V.move (OV.p rfl)) rfl ?_
    refine WL.valG (oj := _) rfl rfl rfl GC.t (V.nilCheck (OV.g rfl id)) rfl ?_
    refine WL.valG (oj := _) rfl rfl rfl GC.t (V.fieldAddr fo59_0 (OV.g rfl id)) rfl ?_
    refine WL.valG (oj := _) rfl rfl rfl GC.t (V.load Try.isAgg27 (OV.g rfl id) (fun _ => by repeat (first | exact Rd.here rfl | apply Rd.up))) rfl ?_
    refine WL.valG (oj := _) rfl rfl rfl GC.t (V.move (OV.p rfl)) rfl ?_
    refine WL.callG (oj := _) (vs := [_, _]) rfl rfl rfl GC.t Try.call36 ⟨OV.g rfl id, OV.g rfl id, trivial⟩ (fun hg => chip_Bad (k : Int)) rfl ?_
    refine WL.valG (oj := _) rfl rfl rfl GC.t (V.not (OV.g rfl id)) rfl ?_
    refine WL.val (V.pickAnd (OV.p rfl) (OV.g rfl id)) rfl ?_
    refine WL.nil ?_
    refine WC.cond rfl (fun hc1 => ?_) (fun hc1 => ?_)
    · skip
      have h1 := hc1
      have hgk : C.sem.goodTo (k + 1) = C.sem.goodTo k ++ [(k : Int)] := by rw [Chip.goodTo, if_pos (show (C.sem.up && !C.sem.bad (k : Int)) = true from h1)]
      refine WC.region ?_
      refine WL.val (V.move (OV.p rfl)) rfl ?_
      refine WL.val (V.move (OV.p rfl)) rfl ?_
      refine WL.buildSlice (E := 3) (cs := [_]) (vs := [(0, _)]) ⟨OV.p rfl, trivial⟩ rfl (bsl39_1_0 _) rfl (fun b27 => ?_)
      refine WL.sub (Sub.refl _) (fun w h => h.sel 4 [2, 0, 1, 3] rfl) ?_
      refine WL.append (m := (C.sem.goodTo k).length) (q := 1) (news := [.int .i64 (k : Int)]) Try.underlying39 el3 (OV.p rfl) (OV.p rfl) (Seq.all rfl) (by intro u hu; rw [List.mem_singleton.1 hu]; rfl) (by omega) rfl rfl (fun A' c' hA' hc' => ?_)
      refine WL.val (V.assign (OV.p rfl)) rfl ?_
      refine WL.nil ?_
      refine WC.region ?_
      refine WL.val (V.addI (OV.p rfl) (OV.p rfl) (fun hc => by first | omega | (simp at hc; omega))) rfl ?_
      refine WL.val (V.move (OV.p rfl)) rfl ?_
      refine WL.nil ?_
      refine ⟨rfl, ?_⟩
      first
      | exact ⟨(k + 1, A', c'), (by show k + 1 ≤ n; omega), (by show n - (k + 1) < n - k; omega), .cons rfl (.cons (look_eq rfl (by dsimp only; rw [hgk, List.length_append]; rfl)) (.cons rfl (.cons (look_eq rfl (by simp)) (.nil _)))), fun w h => by
          dsimp only
          rw [hgk, List.length_append, ints_append]
          exact h.sel 4 [2, 0, 3] rfl⟩
      | exact ⟨(k + 1, Ao, co), (by show k + 1 ≤ n; omega), (by show n - (k + 1) < n - k; omega), .cons rfl (.cons (look_eq rfl (by dsimp only; rw [hgk])) (.cons rfl (.cons (look_eq rfl (by simp)) (.nil _)))), fun w h => by
          dsimp only
          rw [hgk]
          exact h⟩
    · skip
      have h1 := hc1
      have hgk : C.sem.goodTo (k + 1) = C.sem.goodTo k := by rw [Chip.goodTo, if_neg (by rw [show (C.sem.up && !C.sem.bad (k : Int)) = false from h1]; decide)]
      refine WC.skip ?_
      refine WC.region ?_
      refine WL.val (V.addI (OV.p rfl) (OV.p rfl) (fun hc => by first | omega | (simp at hc; omega))) rfl ?_
      refine WL.val (V.move (OV.p rfl)) rfl ?_
      refine WL.nil ?_
      refine ⟨rfl, ?_⟩
      first
      | exact ⟨(k + 1, A', c'), (by show k + 1 ≤ n; omega), (by show n - (k + 1) < n - k; omega), .cons rfl (.cons (look_eq rfl (by dsimp only; rw [hgk, List.length_append]; rfl)) (.cons rfl (.cons (look_eq rfl (by simp)) (.nil _)))), fun w h => by
          dsimp only
          rw [hgk, List.length_append, ints_append]
          exact h.sel 4 [2, 0, 3] rfl⟩
      | exact ⟨(k + 1, Ao, co), (by show k + 1 ≤ n; omega), (by show n - (k + 1) < n - k; omega), .cons rfl (.cons (look_eq rfl (by dsimp only; rw [hgk])) (.cons rfl (.cons (look_eq rfl (by simp)) (.nil _)))), fun w h => by
          dsimp only
          rw [hgk]
          exact h⟩
  · simp only [decide_eq_true_eq, decide_eq_false_iff_not] at hc0
    refine WC.exit ?_
    refine WC.seq ?_
    refine WC.region ?_
    refine WL.val (V.move (OV.p rfl)) rfl ?_
    refine WL.val (V.assign (OV.p rfl)) rfl ?_
    refine WL.nil ?_
    refine WC.ret ?_
    obtain rfl : k = n := by omega
    exact BodyQ.ret (H' := SlA (.slice Ao (C.sem.goodTo k).length co) 3 1 (C.sem.goodTo k).length (ints .i64 (C.sem.goodTo k)) :: C.A bc :: DvA bd bc C.g :: F) (Res.tmp rfl rfl) (fun w h => h.p1) ⟨Ao, co, rfl, rfl⟩
end
end Go.Proofs.Ytohkefolnmcjnaa
