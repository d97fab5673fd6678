import Derived.Test.YtohkefolnmcjnaaGreatP19
import Derived.Test.YtohkefolnmcjnaaGreatP20
/- The law DriveReads of casematelaw08. -/
namespace Go.Proofs.YtohkefolnmcjnaaGreat
open Go.Sl Go.RowKit
set_option linter.unusedVariables false
set_option linter.unusedSimpArgs false
set_option maxRecDepth 20000

def cntTo (n S : Nat) (qs : List Nat) : Nat → List Nat
  | 0 => List.replicate S 0
  | k + 1 => (cntTo n S qs k).set (qs.getD k 0 / 8 / n) ((cntTo n S qs k).getD (qs.getD k 0 / 8 / n) 0 + 1)
theorem cntTo_length (n S : Nat) (qs : List Nat) : ∀ k, (cntTo n S qs k).length = S
  | 0 => List.length_replicate
  | k + 1 => by rw [cntTo, List.length_set, cntTo_length]
theorem cntTo_get {n S : Nat} {qs : List Nat} : ∀ k, k ≤ qs.length → (∀ i, i < k → qs.getD i 0 / 8 / n < S) → ∀ j, (cntTo n S qs k).getD j 0 = if j < S then ((qs.take k).filter fun x => decide (x / 8 / n = j)).length else 0
  | 0, _, _, j => by
    rw [cntTo, List.getD, List.getElem?_replicate]
    split <;> simp
  | k + 1, hk, h, j => by
    have ih := cntTo_get k (by omega) (fun i hi => h i (by omega))
    have hx := h k (by omega)
    rw [cntTo, getD_set, cntTo_length, ih j, ih]
    have e : qs.take (k + 1) = qs.take k ++ [qs.getD k 0] := by rw [List.take_add_one, List.getElem?_eq_getElem (by omega)]; simp [List.getD, show k < qs.length by omega]
    rw [e, List.filter_append, List.length_append]
    by_cases hj : qs.getD k 0 / 8 / n = j
    · subst hj
      rw [if_pos ⟨rfl, hx⟩, if_pos hx, if_pos hx]
      simp
    · rw [if_neg (fun hh => hj hh.1)]
      have : ([qs.getD k 0].filter fun x => decide (x / 8 / n = j)) = [] := by
        rw [List.filter_cons, if_neg (by rw [decide_eq_false hj]; decide)]; rfl
      rw [this]; rfl
theorem cntTo_le {n S : Nat} {qs : List Nat} {k : Nat} (hk : k ≤ qs.length) (h : ∀ i, i < k → qs.getD i 0 / 8 / n < S) (j : Nat) : (cntTo n S qs k).getD j 0 ≤ k := by
  rw [cntTo_get k hk h]
  split
  · exact Nat.le_trans (List.length_filter_le _ _) (by rw [List.length_take]; omega)
  · exact Nat.zero_le _
theorem nodup_of_lt : ∀ {l : List Int}, l.Pairwise (· < ·) → (∀ x ∈ l, 0 ≤ x) → (natsOf l).Nodup
  | l, h, h0 => by
    unfold natsOf List.Nodup
    rw [List.pairwise_map]
    refine List.Pairwise.imp_of_mem ?_ h
    intro a b ha hb hab e
    have := h0 a ha
    have := h0 b hb
    omega
namespace Chip
/-- Read and Whole of a page that was written, with few bits turned. -/
theorem reads_flip {S : Chip} {b : Int} {d : List Nat} {ps : List Int} (hg : S.g.mays) (hu : S.up = true) (h : 0 ≤ b ∧ b < S.g.bl ∧ (0 : Int) ≤ 0 ∧ 0 < S.g.pg) (hm : S.marked b = false) (h8 : Small 256 d) (hl : d.length = S.room)
    (hp : S.pages (b, 0) = some (intsOf (packG S.g d))) {n : Nat} (hn : n = S.g.sb.toNat + moreLen S.g.fl.toNat) (hps : ∀ x ∈ ps, 0 ≤ x ∧ x < (8 * (n * S.g.se.toNat) : Nat))
    (hc : ∀ j, j < S.g.se.toNat → (cntTo n S.g.se.toNat (natsOf ps) ps.length).getD j 0 ≤ S.g.fl.toNat) :
    ∃ N : Nat, (N : Int) ≤ S.g.fl ∧ (S.flip b 0 ps).dRead b 0 = ⟨0, d, N⟩ ∧ (S.flip b 0 ps).dWhole b 1 = (true, 0) := by
  have hN := NGood.of (bl := S.g.bl) (pg := S.g.pg) (by rw [← geo_nat hg]; exact hg)
  obtain ⟨hs1, hb1, ht1⟩ := hN
  obtain ⟨se, hse⟩ : ∃ se, se = S.g.se.toNat := ⟨_, rfl⟩
  obtain ⟨fl, hfl⟩ : ∃ fl, fl = S.g.fl.toNat := ⟨_, rfl⟩
  obtain ⟨sb, hsb⟩ : ∃ sb, sb = S.g.sb.toNat := ⟨_, rfl⟩
  have hn0 : 0 < n := by omega
  have hraw := Geo.raw_nat hg
  have hgb := hg
  unfold Geo.mays at hgb
  have hfe : S.flip b 0 ps = { S with wrong := upds S.wrong (b, 0) (some (flipL S.raw ps)) } := by unfold flip; rw [if_pos (page_ok h)]
  obtain ⟨T, hT⟩ : ∃ T, T = S.flip b 0 ps := ⟨_, rfl⟩
  have hTg : T.g = S.g := by rw [hT, hfe]
  have hTu : T.up = true := by rw [hT, hfe]; exact hu
  have hTm : T.marked b = false := by rw [hT, hfe]; exact hm
  obtain ⟨ks, hks⟩ : ∃ ks, ks = natsOf (flipL S.raw ps) := ⟨_, rfl⟩
  have hf0 : ∀ x ∈ flipL S.raw ps, 0 ≤ x := fun x hx => (mem_flipL.1 hx).2.1
  have hraw2 : T.rawN b 0 = flipAll (packG S.g d) ks := by
    unfold rawN reads
    rw [show T.pages (b, 0) = some (intsOf (packG S.g d)) by rw [hT, hfe]; exact hp, show T.wrong (b, 0) = some (flipL S.raw ps) by rw [hT, hfe]; show upds _ _ _ _ = _; unfold upds; exact if_pos rfl]
    show natsOf (turn (intsOf (packG S.g d)) (flipL S.raw ps)) = _
    rw [natsOf_turn _ _ hf0, natsOf_intsOf, hks]
  have hkn : ks.Nodup := by rw [hks]; exact nodup_of_lt (flipL_sorted _ _) hf0
  have hkm : ∀ k ∈ ks, k ∈ natsOf ps := fun k hk => by
    rw [hks] at hk
    obtain ⟨x, hx, rfl⟩ := List.mem_map.1 hk
    exact List.mem_map.2 ⟨x, (mem_flipL.1 hx).1, rfl⟩
  have hkb : ∀ k ∈ natsOf ps, k < 8 * (n * se) := fun k hk => by
    obtain ⟨x, hx, rfl⟩ := List.mem_map.1 hk
    have := hps x hx
    rw [← hse] at this
    omega
  have hdiv : ∀ k, k < 8 * (n * se) → k / 8 / n < se := fun k hk => by
    rw [Nat.div_lt_iff_lt_mul hn0]
    rw [Nat.mul_comm se n]; omega
  obtain ⟨N, hN1, hN2⟩ := read_flip (t := fl) (B := sb) (S := se) (d := d) (by rw [hfl]; exact ht1) (by omega) h8 (by rw [hl]; unfold room; rw [hse, hsb]) hkn (fun k hk => by
      have := hkb k (hkm k hk)
      rw [hfl, hsb, ← hn, Nat.mul_comm se n]; exact this) (fun j => by
      rw [hfl, hsb, ← hn, ← hfl]
      by_cases hj : j < se
      · have h1 := hc j (by omega)
        rw [cntTo_get ps.length (by rw [natsOf_length]; exact Nat.le_refl _) (fun i hi => by
          rw [← hse]
          refine hdiv _ (hkb _ ?_)
          rw [List.getD, List.getElem?_eq_getElem (by rw [natsOf_length]; exact hi)]
          exact List.getElem_mem _), ← hse, if_pos hj, List.take_of_length_le (by rw [natsOf_length]; exact Nat.le_refl _), ← hfl] at h1
        refine Nat.le_trans (nodup_le (List.Pairwise.filter _ hkn) (fun x hx => ?_)) h1
        obtain ⟨h2, h3⟩ := List.mem_filter.1 hx
        exact List.mem_filter.2 ⟨hkm x h2, h3⟩
      · have : (ks.filter fun k => decide (k / 8 / n = j)) = [] := by
          rw [List.filter_eq_nil_iff]
          intro k hk h2
          have h3 := hdiv k (hkb k (hkm k hk))
          have h4 := of_decide_eq_true h2
          omega
        rw [this]; exact Nat.zero_le _)
  have hread : readF T.g.fl.toNat T.g.se.toNat T.g.sb.toNat (T.rawN b 0) = ⟨0, d, N⟩ := by
    rw [hTg, hraw2, ← hfl, ← hse, ← hsb]
    unfold packG
    rw [← hfl, ← hse, ← hsb]
    exact hN2
  have hahd : T.ahead b 0 true = 0 := ahead_ok hTu (by rw [hTg]; exact h) hTm
  refine ⟨N, by omega, ?_, ?_⟩
  · rw [← hT]
    unfold dRead
    rw [if_neg (by rw [hahd]; decide), hread]
    rfl
  · rw [← hT]
    have hst : T.stateG b 0 = 0 := by
      unfold stateG
      rw [show stateF T.g.fl.toNat T.g.se.toNat (T.g.sb.toNat + moreLen T.g.fl.toNat) (T.rawN b 0) = 0 from ?_]
      rcases Nat.eq_zero_or_pos (stateF T.g.fl.toNat T.g.se.toNat (T.g.sb.toNat + moreLen T.g.fl.toNat) (T.rawN b 0)) with h1 | h1
      · exact h1
      · unfold readF at hread
        rw [if_pos (by omega)] at hread
        injection hread
    have e1 : (decide ((0 : Int) ≤ 1) && decide (1 ≤ T.g.pg)) = true := by rw [hTg, decide_eq_true (by omega), decide_eq_true (by omega)]; rfl
    unfold dWhole
    rw [e1, hahd, if_neg (by decide), if_neg (fun h => h rfl)]
    show (wholeTo T b 1, (0 : Int)) = (true, 0)
    rw [wholeTo, wholeTo, show T.stateG b ((0 : Nat) : Int) = 0 from hst]; rfl
end Chip
theorem law08_DriveReads (g : Geo) (b : Int) {A B : Option Addr} {m cap q cap' : Nat} {xs ps : List Int} {K : World} {F : List Assn} (hs : Seq K F A m 1 (ints .u8 xs)) (hx : IsBytes xs) (hmc : m ≤ cap) (hps : Seq K F B q 1 (ints .i64 ps)) :
    Tells Tryz.prog 4 #[g.v, .int .i64 b, .slice A m cap, .slice B q cap'] K F (.bool true) := by
  have hl : xs.length = m := by simpa [ints] using hs.len
  have hpl : ps.length = q := by simpa [ints] using hps.len
  obtain ⟨d, hd⟩ : ∃ d, d = natsOf xs := ⟨_, rfl⟩
  have hd8 : Small 256 d := by rw [hd]; exact natsOf_small hx
  have hdl : d.length = m := by rw [hd, natsOf_length]; exact hl
  have hsd : Seq K F A m 1 (nats .u8 d) := by rw [hd, ← ints_natsOf hx]; exact hs
  have hdx : nats .u8 d = ints .u8 xs := by rw [hd, ← ints_natsOf hx]
  obtain ⟨qs, hqs⟩ : ∃ qs, qs = natsOf ps := ⟨_, rfl⟩
  have hql : qs.length = q := by rw [hqs, natsOf_length]; exact hpl
  refine Does.enter Tryz.func4 rfl Tryz.ntmps4 rfl ?_
  simp only [env0, Nat.reduceAdd]
  refine WC.seq ?_
  refine WC.region ?_
  refine WL.box (cs := [_, _, _, _, _]) (OV.p rfl) rfl rfl (fun b4 => ?_)
  refine WL.val (V.assign (OV.p rfl)) rfl ?_
  refine WL.nil ?_
  refine WC.seq ?_
  refine WC.seq ?_
  refine WC.region ?_
  refine WL.val (V.loadA (vs := [_, _, _, _, _]) ⟨Tryz.isAgg23, Tryz.sizeOf23⟩ (OV.p rfl) rfl (fun _ => by repeat (first | exact Rds.gets ⟨rfl, rfl, rfl, rfl, rfl, trivial⟩ | apply Rds.up))) rfl ?_
  refine WL.call (vs := [_]) Tryz.call11 ⟨OV.p rfl, trivial⟩ (law08_small g _ _) rfl ?_
  rintro _ H0 ⟨rfl, h0⟩
  subst H0
  refine WL.val (V.not (OV.p rfl)) rfl ?_
  refine WL.val (V.move (OV.p rfl)) rfl ?_
  refine WL.valG (oj := _) rfl rfl rfl GC.f (V.move (OV.p rfl)) rfl ?_
  refine WL.valG (oj := _) rfl rfl rfl GC.f (V.lss (OV.g rfl id) (OV.p rfl)) rfl ?_
  refine WL.val (V.pickOr (OV.p rfl) (OV.g rfl id)) rfl ?_
  refine WL.val (V.move (OV.p rfl)) rfl ?_
  refine WL.valG (oj := _) rfl rfl rfl GC.f (V.move (OV.p rfl)) rfl ?_
  refine WL.valG (oj := _) rfl rfl rfl GC.f (V.fieldAddr fo23_0 (OV.p rfl)) rfl ?_
  refine WL.valG (oj := _) rfl rfl rfl GC.f (V.load Tryz.isAgg3 (OV.g rfl id) (fun _ => by repeat (first | exact Rd.here rfl | apply Rd.up))) rfl ?_
  refine WL.valG (oj := _) rfl rfl rfl GC.f (V.geq (OV.g rfl id) (OV.g rfl id)) rfl ?_
  refine WL.val (V.pickOr (OV.p rfl) (OV.g rfl id)) rfl ?_
  refine WL.val (V.move (OV.p rfl)) rfl ?_
  refine WL.valG (oj := _) rfl rfl rfl GC.f (V.move (OV.p rfl)) rfl ?_
  refine WL.valG (oj := _) rfl rfl rfl GC.f (V.len (t := 38) Tryz.runUnderlying38 (OV.g rfl id)) rfl ?_
  refine WL.valG (oj := _) rfl rfl rfl GC.f (V.loadA (vs := [_, _, _, _, _]) ⟨Tryz.isAgg23, Tryz.sizeOf23⟩ (OV.p rfl) rfl (fun _ => by repeat (first | exact Rds.gets ⟨rfl, rfl, rfl, rfl, rfl, trivial⟩ | apply Rds.up))) rfl ?_
  refine WL.callG (oj := _) (vs := [_]) rfl rfl rfl GC.f Tryz.call22 ⟨OV.g rfl id, trivial⟩ (fun hg => ref06_Room g (Geo.mays_of (by revert hg; cases h : g.may <;> simp)) _ _) rfl ?_
  refine WL.valG (oj := _) rfl rfl rfl GC.f (V.neq (OV.g rfl id) (OV.g rfl id)) rfl ?_
  refine WL.val (V.pickOr (OV.p rfl) (OV.g rfl id)) rfl ?_
  refine WL.val (V.move (OV.p rfl)) rfl ?_
  refine WL.valG (oj := _) rfl rfl rfl GC.f (V.move (OV.p rfl)) rfl ?_
  refine WL.valG (oj := _) rfl rfl rfl GC.f (V.len (t := 42) Tryz.runUnderlying42 (OV.g rfl id)) rfl ?_
  refine WL.valG (oj := _) rfl rfl rfl GC.f (V.gtr (OV.g rfl id) (OV.p rfl)) rfl ?_
  refine WL.val (V.pickOr (OV.p rfl) (OV.g rfl id)) rfl ?_
  refine WL.nil ?_
  refine WC.cond rfl (fun hc0 => ?_) (fun hc0 => ?_)
  · simp only [Bool.or_eq_true, Bool.or_eq_false_iff, Bool.and_eq_true, decide_eq_true_eq, decide_eq_false_iff_not, Bool.not_eq_true', Bool.not_eq_false'] at hc0
    refine WC.seq ?_
    refine WC.region ?_
    refine WL.val (V.assign (OV.p rfl)) rfl ?_
    refine WL.nil ?_
    refine WC.ret ?_
    exact BodyQ.ret (H' := F) (Res.tmp rfl rfl) (fun w h => h.drop 1) ⟨rfl, rfl⟩
  · simp only [Bool.or_eq_true, Bool.or_eq_false_iff, Bool.and_eq_true, decide_eq_true_eq, decide_eq_false_iff_not, Bool.not_eq_true', Bool.not_eq_false'] at hc0
    obtain ⟨⟨⟨⟨⟨⟨⟨hmay, h32⟩, h16⟩, hp8⟩, hb1⟩, hb2⟩, hm1⟩, hq60⟩ := hc0
    have hg := Geo.mays_of hmay
    have hgb := hg
    unfold Geo.mays at hgb
    have hrm := Geo.room_nat hg
    have hrn := Geo.raw_nat hg
    have hwb := Geo.whole_bd hg
    have hin : 0 ≤ b ∧ b < g.bl ∧ (0 : Int) ≤ 0 ∧ 0 < g.pg := by omega
    have hroom : d.length = g.se.toNat * g.sb.toNat := by omega
    obtain ⟨n, hn⟩ : ∃ n, n = g.sb.toNat + moreLen g.fl.toNat := ⟨_, rfl⟩
    have hwn : g.whole = (n : Int) := by unfold Geo.whole Geo.more; rw [hn]; unfold moreLen; omega
    obtain ⟨se, hse⟩ : ∃ se, se = g.se.toNat := ⟨_, rfl⟩
    have hse2 : g.se = (se : Int) := by omega
    obtain ⟨N8, hN8⟩ : ∃ N8, N8 = 8 * (n * se) := ⟨_, rfl⟩
    have hN8b : N8 ≤ 8 * (525 * 8) := by rw [hN8]; exact Nat.mul_le_mul_left _ (Nat.mul_le_mul (by omega) (by omega))
    have hN8i : 8 * (n : Int) * (se : Int) = (N8 : Int) := by rw [hN8, Int.natCast_mul, Int.natCast_mul, Int.mul_assoc]; rfl
    obtain ⟨P, hP⟩ : ∃ P, P = intsOf (Chip.packG g d) := ⟨_, rfl⟩
    obtain ⟨S0, hS0⟩ : ∃ S, S = Chip.new g [] := ⟨_, rfl⟩
    obtain ⟨S1, hS1⟩ : ∃ S : Chip, S = { S0 with pages := Chip.upds S0.pages (b, 0) (some P), next := S0.setNext b (0 + 1) } := ⟨_, rfl⟩
    have w1 : S0.dWrite b 0 d = (S1, 0) := by rw [hS1, hP]; rw [show g = S0.g by rw [hS0]; rfl]; exact Chip.dWrite_ok (by rw [hS0]; exact hg) (by rw [hS0]; rfl) (by rw [hS0]; exact hin) (by rw [hS0]; rfl) hd8 (by rw [hS0]; exact hroom) (by rw [hS0]; exact Chip.next_new) (by rw [hS0]; rfl) (by rw [hS0]; rfl)
    have hg1 : S1.g = g := by rw [hS1, hS0]; rfl
    refine WC.skip ?_
    refine WC.seq ?_
    refine WC.region ?_
    refine WL.val (V.loadA (vs := [_, _, _, _, _]) ⟨Tryz.isAgg23, Tryz.sizeOf23⟩ (OV.p rfl) rfl (fun _ => by repeat (first | exact Rds.gets ⟨rfl, rfl, rfl, rfl, rfl, trivial⟩ | apply Rds.up))) rfl ?_
    refine WL.call (vs := [_, _]) Tryz.call13 ⟨OV.p rfl, OV.p rfl, trivial⟩ (chip_New g (l := []) Seq.nil (by decide)) rfl ?_
    rintro _ _ (⟨hm, hin0, bc, C0, hC0, s0, rfl, rfl⟩ | ⟨hno, rfl, rfl⟩)
    rotate_left
    · exact (hno ⟨hmay, fun x hx => by simp at hx⟩).elim
    have g0 : C0.g = g := by rw [show C0.g = C0.sem.g from rfl, s0]; rfl
    rw [← hS0] at s0
    refine WL.val (V.move (OV.p rfl)) rfl ?_
    refine WL.val (V.extract (OV.p rfl) rfl) rfl ?_
    refine WL.val (V.extract (OV.p rfl) rfl) rfl ?_
    refine WL.val (V.assign (OV.p rfl)) rfl ?_
    refine WL.val (V.assign (OV.p rfl)) rfl ?_
    refine WL.nil ?_
    refine WC.seq ?_
    refine WC.region ?_
    refine WL.val (V.move (OV.p rfl)) rfl ?_
    refine WL.call (vs := [_]) Tryz.call14 ⟨OV.p rfl, trivial⟩ (drive_NewG hC0 g0) rfl ?_
    rintro _ _ ⟨bd, rfl, rfl⟩
    refine WL.val (V.move (OV.p rfl)) rfl ?_
    refine WL.val (V.extract (OV.p rfl) rfl) rfl ?_
    refine WL.val (V.extract (OV.p rfl) rfl) rfl ?_
    refine WL.val (V.assign (OV.p rfl)) rfl ?_
    refine WL.val (V.assign (OV.p rfl)) rfl ?_
    refine WL.nil ?_
    refine WC.seq ?_
    refine WC.seq ?_
    refine WC.region ?_
    refine WL.val (V.move (OV.p rfl)) rfl ?_
    refine WL.val (V.neq (OV.p rfl) (OV.p rfl)) rfl ?_
    refine WL.val (V.move (OV.p rfl)) rfl ?_
    refine WL.known (oj := _) rfl rfl rfl rfl ?_
    refine WL.val (V.move (OV.p rfl)) rfl ?_
    refine WL.known (oj := _) rfl rfl rfl rfl ?_
    refine WL.val (V.neq (OV.p rfl) (OV.p rfl)) rfl ?_
    refine WL.val (V.pickOr (OV.p rfl) (OV.p rfl)) rfl ?_
    refine WL.val (V.move (OV.p rfl)) rfl ?_
    refine WL.known (oj := _) rfl rfl rfl rfl ?_
    refine WL.val (V.move (OV.p rfl)) rfl ?_
    refine WL.known (oj := _) rfl rfl rfl rfl ?_
    refine WL.val (V.eqlP Tryz.underlying31 (OV.p rfl) (OV.p rfl)) rfl ?_
    refine WL.val (V.pickOr (OV.p rfl) (OV.p rfl)) rfl ?_
    refine WL.val (V.move (OV.p rfl)) rfl ?_
    refine WL.known (oj := _) rfl rfl rfl rfl ?_
    refine WL.val (V.move (OV.p rfl)) rfl ?_
    refine WL.known (oj := _) rfl rfl rfl rfl ?_
    refine WL.val (V.move (OV.p rfl)) rfl ?_
    refine WL.known (oj := _) rfl rfl rfl rfl ?_
    refine WL.val (V.move (OV.p rfl)) rfl ?_
    refine WL.known (oj := _) rfl rfl rfl rfl ?_
    refine WL.call (vs := [_, _, _, _]) Tryz.call23 ⟨OV.p rfl, OV.p rfl, OV.p rfl, OV.p rfl, trivial⟩ (drive_WriteG hC0 g0 b 0 (by repeat (first | exact hsd | apply Seq.up)) hd8 hmc (by omega)) rfl ?_
    rintro v1 _ ⟨C1, hC1, g1', rfl, s1, hv1⟩
    rw [s0, w1] at s1 hv1
    subst hv1
    refine WL.known (oj := _) rfl rfl rfl rfl ?_
    refine WL.val (V.neq (OV.p rfl) (OV.p rfl)) rfl ?_
    refine WL.val (V.pickOr (OV.p rfl) (OV.p rfl)) rfl ?_
    refine WL.nil ?_
    refine WC.condF' rfl (by first | rfl | (simp; done) | (simp; omega)) ?_
    refine WC.skip ?_
    refine WC.seq ?_
    refine WC.region ?_
    refine WL.val (V.loadA (vs := [_, _, _, _, _]) ⟨Tryz.isAgg23, Tryz.sizeOf23⟩ (OV.p rfl) rfl (fun _ => by repeat (first | exact Rds.gets ⟨rfl, rfl, rfl, rfl, rfl, trivial⟩ | apply Rds.up))) rfl ?_
    refine WL.call (vs := [_]) Tryz.call24 ⟨OV.p rfl, trivial⟩ (ref06_Whole g hg _ _) rfl ?_
    rintro _ H0 ⟨rfl, h0⟩
    subst H0
    refine WL.val (V.assign (OV.p rfl)) rfl ?_
    refine WL.nil ?_
    refine WC.seq ?_
    refine WC.region ?_
    refine WL.val (V.fieldAddr fo23_2 (OV.p rfl)) rfl ?_
    refine WL.val (V.load Tryz.isAgg3 (OV.p rfl) (fun _ => by repeat (first | exact Rd.here rfl | apply Rd.up))) rfl ?_
    refine WL.make1 (m := se) Tryz.underlying42 el3 (OV.p rfl) (OV.p rfl) (by omega) (by omega) (by omega) rfl rfl rfl (fun b78 => ?_)
    rw [hwn]
    refine WL.val (V.assign (OV.p rfl)) rfl ?_
    refine WL.nil ?_
    refine WC.seq ?_
    refine WC.seq ?_
    refine WC.region ?_
    refine WL.val (V.assign (OV.p rfl)) rfl ?_
    refine WL.nil ?_
    refine WC.block ?_
    refine WC.loop (σ := Nat) (fun k => [(1, .int .i64 b), (2, .slice A m cap), (3, .slice B q cap'), (4, ptr b4 0), (9, ptr bc 0), (11, ptr bd 0), (13, .int .i64 (n : Int)), (14, .slice (some ⟨b78, 0, none⟩) se se), (15, .int .i64 (k : Int))]) (fun k => Cells b78 3 (nats .i64 (cntTo n se qs k)) :: C1.A bc :: DvA bd bc g :: Cells b4 23 [.int .i64 g.bl, .int .i64 g.pg, .int .i64 g.se, .int .i64 g.sb, .int .i64 g.fl] :: F) (fun k => k ≤ q ∧ ∀ i, i < k → 0 ≤ ps.getD i 0 ∧ ps.getD i 0 < (N8 : Int)) (fun k => q - k) 0 ⟨Nat.zero_le _, fun i hi => absurd hi (Nat.not_lt_zero _)⟩ (.cons rfl (.cons rfl (.cons rfl (.cons rfl (.cons rfl (.cons rfl (.cons rfl (.cons rfl (.cons rfl (.nil _)))))))))) (fun w h => Sat.cells_eq h (by rw [cntTo, nats_replicate]; rfl)) ?_
    rintro k ⟨hk, hki⟩
    refine WC.seq ?_
    refine WC.seq ?_
    refine WC.region ?_
    refine WL.val (V.move (OV.p rfl)) rfl ?_
    refine WL.val (V.move (OV.p rfl)) rfl ?_
    refine WL.val (V.len (t := 42) Tryz.runUnderlying42 (OV.p rfl)) rfl ?_
    refine WL.val (V.lss (OV.p rfl) (OV.p rfl)) rfl ?_
    refine WL.nil ?_
    refine WC.cond rfl (fun hc2 => ?_) (fun hc2 => ?_)
    · simp only [decide_eq_true_eq, decide_eq_false_iff_not] at hc2
      have hkq : k < q := by omega
      refine WC.skip ?_
      refine WC.seq ?_
      refine WC.block ?_
      refine WC.seq ?_
      refine WC.seq ?_
      refine WC.regionQ (by kernel_rfl) (by kernel_rfl) ?_
      refine WQ.val (V.move (OV.p rfl)) rfl ?_
      refine WQ.val (V.move (OV.p rfl)) rfl ?_
      refine WQ.val (V.idxS st42 (OV.p rfl) (OV.p rfl) (fun hc => by first | omega | (simp at hc; omega)) (fun hc => by repeat (first | exact Seq.int_rd hps (by first | omega | (simp at hc; omega)) | apply Rd.up))) rfl ?_
      refine WQ.val (V.load Tryz.isAgg3 (OV.p rfl) (fun hc => by repeat (first | exact Seq.int_rd hps (by first | omega | (simp at hc; omega)) | apply Rd.up))) rfl ?_
      refine WQ.val (V.lss (OV.p rfl) (OV.p rfl)) rfl ?_
      refine WQ.val (V.move (OV.p rfl)) rfl ?_
      refine WQ.valG (oj := _) rfl rfl rfl GC.f (V.move (OV.p rfl)) rfl ?_
      refine WQ.valG (oj := _) rfl rfl rfl GC.f (V.move (OV.p rfl)) rfl ?_
      refine WQ.valG (oj := _) rfl rfl rfl GC.f (V.idxS st42 (OV.g rfl id) (OV.g rfl id) (fun hc => by first | omega | (simp at hc; omega)) (fun hc => by repeat (first | exact Seq.int_rd hps (by first | omega | (simp at hc; omega)) | apply Rd.up))) rfl ?_
      refine WQ.valG (oj := _) rfl rfl rfl GC.f (V.load Tryz.isAgg3 (OV.g rfl id) (fun hc => by repeat (first | exact Seq.int_rd hps (by first | omega | (simp at hc; omega)) | apply Rd.up))) rfl ?_
      refine WQ.valG (oj := _) rfl rfl rfl GC.f (V.move (OV.p rfl)) rfl ?_
      refine WQ.valG (oj := _) rfl rfl rfl GC.f (V.val_eq (v' := .int .i64 (8 * (n : Int))) (V.mulI (OV.p rfl) (OV.g rfl id) (fun _ => by omega)) (fun _ => rfl)) rfl ?_
      refine WQ.valG (oj := _) rfl rfl rfl GC.f (V.fieldAddr fo23_2 (OV.p rfl)) rfl ?_
      refine WQ.valG (oj := _) rfl rfl rfl GC.f (V.load Tryz.isAgg3 (OV.g rfl id) (fun _ => by repeat (first | exact Rd.here rfl | apply Rd.up))) rfl ?_
      refine WQ.valG (oj := _) rfl rfl rfl GC.f (V.val_eq (v' := .int .i64 (N8 : Int)) (V.mulI (OV.g rfl id) (OV.g rfl id) (fun _ => by rw [hse2, hN8i]; omega)) (fun _ => by rw [hse2, hN8i])) rfl ?_
      refine WQ.valG (oj := _) rfl rfl rfl GC.f (V.geq (OV.g rfl id) (OV.g rfl id)) rfl ?_
      refine WQ.val (V.pickOr (OV.p rfl) (OV.g rfl id)) rfl ?_
      refine WQ.nil ?_
      refine WC.cond rfl (fun hc3 => ?_) (fun hc3 => ?_)
      · simp only [Bool.or_eq_true, Bool.or_eq_false_iff, decide_eq_true_eq, decide_eq_false_iff_not] at hc3
        refine WC.seq ?_
        refine WC.region ?_
        refine WL.val (V.assign (OV.p rfl)) rfl ?_
        refine WL.nil ?_
        refine WC.ret ?_
        exact BodyQ.ret (H' := F) (Res.tmp rfl rfl) (fun w h => h.drop 4) ⟨rfl, rfl⟩
      · simp only [Bool.or_eq_true, Bool.or_eq_false_iff, decide_eq_true_eq, decide_eq_false_iff_not] at hc3
        have hpk : 0 ≤ ps.getD k 0 ∧ ps.getD k 0 < (N8 : Int) := by have := hc3; simp [-List.getD_eq_getElem?_getD] at this; omega
        obtain ⟨x, hxq⟩ : ∃ x, x = qs.getD k 0 := ⟨_, rfl⟩
        have hxp : ps.getD k 0 = (x : Int) := by rw [hxq, hqs, natsOf_getD]; omega
        have hki2 : ∀ i, i < k + 1 → 0 ≤ ps.getD i 0 ∧ ps.getD i 0 < (N8 : Int) := fun i hi => by
          rcases Nat.lt_or_ge i k with h | h
          · exact hki i h
          · obtain rfl : i = k := by omega
            exact hpk
        have hdiv : ∀ i, i < k + 1 → qs.getD i 0 / 8 / n < se := fun i hi => by
          have h1 := hki2 i hi
          rw [Nat.div_lt_iff_lt_mul (by omega), Nat.mul_comm se n, hqs, natsOf_getD]
          omega
        have hxs := hdiv k (by omega)
        rw [← hxq] at hxs
        obtain ⟨cn, hcn⟩ : ∃ cn, cn = cntTo n se qs k := ⟨_, rfl⟩
        have hcnl : cn.length = se := by rw [hcn, cntTo_length]
        obtain ⟨y, hy⟩ : ∃ y, y = x / 8 / n := ⟨_, rfl⟩
        rw [← hy] at hxs
        have hcle : cn.getD y 0 ≤ 60 := by
          have := cntTo_le (n := n) (S := se) (qs := qs) (k := k) (by omega) (fun i hi => hdiv i (by omega)) y
          rw [hcn]; omega
        rw [← hcn]
        refine WC.skip ?_
        refine WC.region ?_
        refine WL.val (V.move (OV.p rfl)) rfl ?_
        refine WL.val (V.move (OV.p rfl)) rfl ?_
        refine WL.val (V.move (OV.p rfl)) rfl ?_
        refine WL.val (V.idxS st42 (OV.p rfl) (OV.p rfl) (fun hc => by first | omega | (simp at hc; omega)) (fun hc => by repeat (first | exact Seq.int_rd hps (by first | omega | (simp at hc; omega)) | apply Rd.up))) rfl ?_
        refine WL.val (V.load Tryz.isAgg3 (OV.p rfl) (fun hc => by repeat (first | exact Seq.int_rd hps (by first | omega | (simp at hc; omega)) | apply Rd.up))) rfl ?_
        refine WL.val (V.val_eq (v' := .int .i64 ((x / 8 : Nat) : Int)) (V.quoI (OV.p rfl) (OV.p rfl) (fun _ => by rw [Int.toNat_natCast, hxp]; omega)) (fun _ => by rw [Int.toNat_natCast, hxp]; rfl)) rfl ?_
        refine WL.val (V.move (OV.p rfl)) rfl ?_
        refine WL.val (V.val_eq (v' := .int .i64 ((y : Nat) : Int)) (V.quoI (OV.p rfl) (OV.p rfl) (fun _ => by omega)) (fun _ => by rw [hy]; rfl)) rfl ?_
        refine WL.val (V.idxB st42 (OV.p rfl) (OV.p rfl) (fun hc => by omega)) rfl ?_
        refine WL.val (V.load Tryz.isAgg3 (OV.p rfl) (fun hc => Rd.here (v := .int .i64 (cn.getD (y) 0 : Nat)) (by rw [show 0 + ((y : Nat) : Int).toNat * 1 = y by omega]; exact nats_get _ _ (by omega)))) rfl ?_
        refine WL.val (V.addI (OV.p rfl) (OV.p rfl) (fun hc => by first | omega | (simp at hc; omega))) rfl ?_
        refine WL.val (V.idxB st42 (OV.p rfl) (OV.p rfl) (fun hc => by omega)) rfl ?_
        refine WL.store (cs := [_]) Tryz.sizeOf3 (OV.p rfl) (OV.p rfl) rfl rfl rfl (Upd.at_ (by rw [nats_length]; omega)) ?_
        refine WL.nil ?_
        refine WC.region ?_
        refine WL.val (V.move (OV.p rfl)) rfl ?_
        refine WL.val (V.addI (OV.p rfl) (OV.p rfl) (fun hc => by first | omega | (simp at hc; omega))) rfl ?_
        refine WL.val (V.assign (OV.p rfl)) rfl ?_
        refine WL.nil ?_
        refine ⟨rfl, ?_⟩
        refine ⟨k + 1, ⟨hkq, hki2⟩, (by show q - (k + 1) < q - k; omega), .cons rfl (.cons rfl (.cons rfl (.cons rfl (.cons rfl (.cons rfl (.cons rfl (.cons rfl (.cons (look_eq rfl (by simp)) (.nil _))))))))), fun w h => Sat.cells_eq h ?_⟩
        rw [show 0 + ((y : Nat) : Int).toNat * 1 = y by omega, show ((cn.getD (y) 0 : Nat) : Int) + 1 = ((cn.getD (y) 0 + 1 : Nat) : Int) from rfl, nats_set, cntTo, ← hxq, ← hy, ← hcn]
    · simp only [decide_eq_true_eq, decide_eq_false_iff_not] at hc2
      refine WC.exit ?_
      refine WC.seq ?_
      refine WC.seq ?_
      obtain rfl : k = q := by omega
      obtain ⟨cn, hcn⟩ : ∃ cn, cn = cntTo n se qs k := ⟨_, rfl⟩
      have hcnl : cn.length = se := by rw [hcn, cntTo_length]
      rw [← hcn]
      refine WC.region ?_
      refine WL.val (V.assign (OV.p rfl)) rfl ?_
      refine WL.nil ?_
      refine WC.block ?_
      refine WC.loop (σ := Nat) (fun j => [(1, .int .i64 b), (2, .slice A m cap), (3, .slice B k cap'), (4, ptr b4 0), (9, ptr bc 0), (11, ptr bd 0), (14, .slice (some ⟨b78, 0, none⟩) se se), (16, .int .i64 (j : Int))]) (fun _ => Cells b78 3 (nats .i64 cn) :: C1.A bc :: DvA bd bc g :: Cells b4 23 [.int .i64 g.bl, .int .i64 g.pg, .int .i64 g.se, .int .i64 g.sb, .int .i64 g.fl] :: F) (fun j => j ≤ se ∧ ∀ i, i < j → (cn.getD i 0 : Int) ≤ g.fl) (fun j => se - j) 0 ⟨Nat.zero_le _, fun i hi => absurd hi (Nat.not_lt_zero _)⟩ (.cons rfl (.cons rfl (.cons rfl (.cons rfl (.cons rfl (.cons rfl (.cons rfl (.cons rfl (.nil _))))))))) (fun w h => h) ?_
      rintro j ⟨hj, hji⟩
      refine WC.seq ?_
      refine WC.seq ?_
      refine WC.region ?_
      refine WL.val (V.move (OV.p rfl)) rfl ?_
      refine WL.val (V.move (OV.p rfl)) rfl ?_
      refine WL.val (V.len (t := 42) Tryz.runUnderlying42 (OV.p rfl)) rfl ?_
      refine WL.val (V.lss (OV.p rfl) (OV.p rfl)) rfl ?_
      refine WL.nil ?_
      refine WC.cond rfl (fun hc4 => ?_) (fun hc4 => ?_)
      · simp only [decide_eq_true_eq, decide_eq_false_iff_not] at hc4
        have hjs : j < se := by omega
        refine WC.skip ?_
        refine WC.seq ?_
        refine WC.block ?_
        refine WC.seq ?_
        refine WC.regionQ (by kernel_rfl) (by kernel_rfl) ?_
        refine WQ.val (V.move (OV.p rfl)) rfl ?_
        refine WQ.val (V.move (OV.p rfl)) rfl ?_
        refine WQ.val (V.idxB st42 (OV.p rfl) (OV.p rfl) (fun hc => by omega)) rfl ?_
        refine WQ.val (V.load Tryz.isAgg3 (OV.p rfl) (fun hc => Rd.here (v := .int .i64 (cn.getD j 0 : Nat)) (by rw [show 0 + (j : Int).toNat * 1 = j by omega]; exact nats_get _ _ (by omega)))) rfl ?_
        refine WQ.val (V.fieldAddr fo23_4 (OV.p rfl)) rfl ?_
        refine WQ.val (V.load Tryz.isAgg3 (OV.p rfl) (fun _ => by repeat (first | exact Rd.here rfl | apply Rd.up))) rfl ?_
        refine WQ.val (V.gtr (OV.p rfl) (OV.p rfl)) rfl ?_
        refine WQ.nil ?_
        refine WC.cond rfl (fun hc5 => ?_) (fun hc5 => ?_)
        · simp only [decide_eq_true_eq, decide_eq_false_iff_not] at hc5
          have h5 := hc5
          refine WC.seq ?_
          refine WC.region ?_
          refine WL.val (V.assign (OV.p rfl)) rfl ?_
          refine WL.nil ?_
          refine WC.ret ?_
          exact BodyQ.ret (H' := F) (Res.tmp rfl rfl) (fun w h => h.drop 4) ⟨rfl, rfl⟩
        · simp only [decide_eq_true_eq, decide_eq_false_iff_not] at hc5
          have h5 := hc5
          refine WC.skip ?_
          refine WC.region ?_
          refine WL.val (V.move (OV.p rfl)) rfl ?_
          refine WL.val (V.addI (OV.p rfl) (OV.p rfl) (fun hc => by first | omega | (simp at hc; omega))) rfl ?_
          refine WL.val (V.assign (OV.p rfl)) rfl ?_
          refine WL.nil ?_
          refine ⟨rfl, ?_⟩
          refine ⟨j + 1, ⟨hjs, fun i hi => ?_⟩, (by show se - (j + 1) < se - j; omega), .cons rfl (.cons rfl (.cons rfl (.cons rfl (.cons rfl (.cons rfl (.cons rfl (.cons (look_eq rfl (by simp)) (.nil _)))))))), fun w h => h⟩
          rcases Nat.lt_or_ge i j with h | h
          · exact hji i h
          · obtain rfl : i = j := by omega
            omega
      · simp only [decide_eq_true_eq, decide_eq_false_iff_not] at hc4
        refine WC.exit ?_
        refine WC.seq ?_
        obtain rfl : j = se := by omega
        obtain ⟨N, hN, hrd, hwh⟩ := Chip.reads_flip (S := S1) (b := b) (d := d) (ps := ps) (n := n) (by rw [hg1]; exact hg) (by rw [hS1, hS0]; rfl) (by rw [hg1]; exact hin) (by rw [hS1, hS0]; rfl) hd8 (by unfold Chip.room; rw [hg1]; exact hroom) (by rw [hg1, ← hP, hS1]; show Chip.upds _ _ _ _ = _; unfold Chip.upds; exact if_pos rfl) (by rw [hg1]; exact hn) (fun x hx => by
          obtain ⟨i, hi, rfl⟩ := List.getElem_of_mem hx
          have h1 := hki i (by omega)
          rw [List.getD, List.getElem?_eq_getElem hi] at h1
          rw [hg1, ← hse, ← hN8]; exact h1) (fun i hi => by
          rw [hg1, ← hse] at hi
          have h1 := hji i hi
          rw [hg1, ← hse, ← hqs, hpl, ← hcn]
          omega)
        rw [hg1] at hN
        refine WC.sub (Sub.refl _) (fun w h => h.drop 1) ?_
        refine WC.region ?_
        refine WL.val (V.move (OV.p rfl)) rfl ?_
        refine WL.val (V.move (OV.p rfl)) rfl ?_
        refine WL.val (V.move (OV.p rfl)) rfl ?_
        refine WL.call (vs := [_, _, _, _]) Tryz.call25 ⟨OV.p rfl, OV.p rfl, OV.p rfl, OV.p rfl, trivial⟩ (chip_Flip (C := C1) hC1 b 0 (by repeat (first | exact hps | apply Seq.up)) (by omega)) rfl ?_
        rintro v2 _ ⟨C2, hC2, rfl, s2⟩
        rw [s1] at s2
        have g2' : C2.g = g := by rw [show C2.g = C2.sem.g from rfl, s2]; unfold Chip.flip; split; exact hg1; exact hg1
        refine WL.nil ?_
        refine WC.seq ?_
        refine WC.region ?_
        refine WL.val (V.move (OV.p rfl)) rfl ?_
        refine WL.val (V.move (OV.p rfl)) rfl ?_
        refine WL.call (vs := [_, _, _]) Tryz.call26 ⟨OV.p rfl, OV.p rfl, OV.p rfl, trivial⟩ (drive_ReadG hC2 g2' b 0) rfl ?_
        rintro _ _ ⟨A4, c4, rfl, rfl⟩
        rw [s2, hrd]
        refine WL.sub (Sub.refl _) (fun w h => h.sel 3 [1, 2, 0] rfl) ?_
        refine WL.val (V.move (OV.p rfl)) rfl ?_
        refine WL.val (V.extract (OV.p rfl) rfl) rfl ?_
        refine WL.val (V.extract (OV.p rfl) rfl) rfl ?_
        refine WL.val (V.extract (OV.p rfl) rfl) rfl ?_
        refine WL.val (V.assign (OV.p rfl)) rfl ?_
        refine WL.val (V.assign (OV.p rfl)) rfl ?_
        refine WL.val (V.assign (OV.p rfl)) rfl ?_
        refine WL.nil ?_
        refine WC.seq ?_
        refine WC.region ?_
        refine WL.val (V.move (OV.p rfl)) rfl ?_
        refine WL.val (V.move (OV.p rfl)) rfl ?_
        refine WL.call (vs := [_, _, _]) Tryz.call27 ⟨OV.p rfl, OV.p rfl, OV.p rfl, trivial⟩ (Tells.eq (v' := .tuple #[.bool true, .int .i64 0]) (drive_WholeG hC2 g2' b 1 (by decide)) (by rw [s2, hwh])) rfl ?_
        rintro _ H0 ⟨rfl, h0⟩
        subst H0
        refine WL.val (V.move (OV.p rfl)) rfl ?_
        refine WL.val (V.extract (OV.p rfl) rfl) rfl ?_
        refine WL.val (V.extract (OV.p rfl) rfl) rfl ?_
        refine WL.val (V.assign (OV.p rfl)) rfl ?_
        refine WL.val (V.assign (OV.p rfl)) rfl ?_
        refine WL.nil ?_
        refine WC.seq ?_
        refine WC.region ?_
        refine WL.call (vs := []) Tryz.call21 trivial (law08_awake _ _) rfl ?_
        rintro _ H0 ⟨rfl, h0⟩
        subst H0
        refine WL.val (V.move (OV.p rfl)) rfl ?_
        refine WL.known (oj := _) rfl rfl rfl rfl ?_
        refine WL.val (V.move (OV.p rfl)) rfl ?_
        refine WL.known (oj := _) rfl rfl rfl rfl ?_
        refine WL.val (V.eql (OV.p rfl) (OV.p rfl)) rfl ?_
        refine WL.val (V.pickAnd (OV.p rfl) (OV.p rfl)) rfl ?_
        refine WL.val (V.move (OV.p rfl)) rfl ?_
        refine WL.known (oj := _) rfl rfl rfl rfl ?_
        refine WL.val (V.move (OV.p rfl)) rfl ?_
        refine WL.known (oj := _) rfl rfl rfl rfl ?_
        refine WL.val (V.bytesStr (xs := xs) Tryz.underlying38 Tryz.underlying5 Tryz.underlying9 (OV.p rfl) (fun _ => by rw [← hdx]; exact Seq.up (Seq.up (SlA.seq (by rw [nats_length, Nat.mul_one]))))) rfl ?_
        refine WL.known (oj := _) rfl rfl rfl rfl ?_
        refine WL.val (V.move (OV.p rfl)) rfl ?_
        refine WL.known (oj := _) rfl rfl rfl rfl ?_
        refine WL.val (V.bytesStr (xs := xs) Tryz.underlying38 Tryz.underlying5 Tryz.underlying9 (OV.p rfl) (fun _ => by repeat (first | exact hs | apply Seq.up))) rfl ?_
        refine WL.known (oj := _) rfl rfl rfl rfl ?_
        refine WL.val (V.val_eq (v' := .bool true) (V.eqlS (OV.p rfl) (OV.p rfl)) (fun _ => by simp)) rfl ?_
        refine WL.val (V.pickAnd (OV.p rfl) (OV.p rfl)) rfl ?_
        refine WL.val (V.move (OV.p rfl)) rfl ?_
        refine WL.known (oj := _) rfl rfl rfl rfl ?_
        refine WL.val (V.move (OV.p rfl)) rfl ?_
        refine WL.known (oj := _) rfl rfl rfl rfl ?_
        refine WL.val (V.fieldAddr fo23_4 (OV.p rfl)) rfl ?_
        refine WL.known (oj := _) rfl rfl rfl rfl ?_
        refine WL.val (V.load Tryz.isAgg3 (OV.p rfl) (fun _ => by repeat (first | exact Rd.here rfl | apply Rd.up))) rfl ?_
        refine WL.known (oj := _) rfl rfl rfl rfl ?_
        refine WL.val (V.val_eq (v' := .bool true) (V.leq (OV.p rfl) (OV.p rfl)) (fun _ => by rw [decide_eq_true hN])) rfl ?_
        refine WL.val (V.pickAnd (OV.p rfl) (OV.p rfl)) rfl ?_
        refine WL.val (V.move (OV.p rfl)) rfl ?_
        refine WL.known (oj := _) rfl rfl rfl rfl ?_
        refine WL.val (V.move (OV.p rfl)) rfl ?_
        refine WL.val (V.pickAnd (OV.p rfl) (OV.p rfl)) rfl ?_
        refine WL.val (V.move (OV.p rfl)) rfl ?_
        refine WL.known (oj := _) rfl rfl rfl rfl ?_
        refine WL.val (V.move (OV.p rfl)) rfl ?_
        refine WL.known (oj := _) rfl rfl rfl rfl ?_
        refine WL.val (V.eql (OV.p rfl) (OV.p rfl)) rfl ?_
        refine WL.val (V.pickAnd (OV.p rfl) (OV.p rfl)) rfl ?_
        refine WL.val (V.assign (OV.p rfl)) rfl ?_
        refine WL.nil ?_
        refine WC.ret ?_
        exact BodyQ.ret (H' := F) (Res.tmp rfl rfl) (fun w h => h.drop 4) ⟨rfl, rfl⟩
end Go.Proofs.YtohkefolnmcjnaaGreat
