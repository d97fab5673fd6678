/- ecc: Read. -/
import Derived.Test.YtohkefolnmcjnaaD2
namespace Go.Proofs.Ytohkefolnmcjnaa
open Go.Sl Go.RowKit
set_option linter.unusedVariables false
set_option linter.unusedSimpArgs false
set_option maxRecDepth 20000

structure RR where
  err : Nat
  d : List Nat
  n : Nat
def readTo : List (Option (LL × Nat)) → List Nat → Nat → RR
  | [], d, n => ⟨0, d, n⟩
  | none :: _, _, _ => ⟨50, [], 0⟩
  | some (p, k) :: rest, d, n => readTo rest (d ++ p.1) (max n k)
def readF (t S B : Nat) (raw : List Nat) : RR :=
  if stateF t S (B + moreLen t) raw ≠ 0 then ⟨stateF t S (B + moreLen t) raw, [], 0⟩ else readTo ((List.range S).map (uSec t B (B + moreLen t) raw)) [] 0
theorem decTo_n (t : Nat) (d m : List Nat) (h : d.length ≤ 512) (ht : t ≤ 8) : (decD (decF t d m)).length ≤ d.length ∧ decN (decF t d m) ≤ 5000 := by
  cases ho : decF t d m with
  | none => exact ⟨Nat.zero_le _, Nat.zero_le _⟩
  | some r =>
    unfold decF at ho
    split at ho
    · cases ho
    · split at ho
      · cases ho
      · split at ho
        · cases ho
        · injection ho with ho
          subst ho
          refine ⟨Nat.le_of_eq (decTo_len _ _ _ _ _).1, ?_⟩
          have := decTo_le t (locC (sums2 t (d, maskM t m))) (locL (sums2 t (d, maskM t m))) (d, maskM t m) (13 * t + 8 * d.length)
          show (decTo _ _ _ _ _).2 ≤ 5000
          omega
theorem slA_rows {K : World} {F : List Assn} {A : Option Addr} {m cap E s : Nat} {cs : List Value} (hm : 0 < m) : ∀ w, Sat K w (SlA (.slice A m cap) E s m cs :: F) → ∃ x : Nat × List Value, (A = some ⟨x.1, 0, none⟩) ∧ Sat K w (Cells x.1 E (cs ++ x.2) :: F) := fun w hw => by
  cases A with
  | none => have := (SlA.nilCs hw).1; omega
  | some a =>
    obtain ⟨g, rfl⟩ := SlA.addr hw
    obtain ⟨r, _, h5⟩ := Sat.slCells hw
    exact ⟨(g, r), rfl, h5⟩
section
variable {K : World} {F : List Assn}
theorem ecc_Read {bl pg : Int} {S B t : Nat} {A : Option Addr} {m cap : Nat} {raw : List Nat} (hg : (NG bl pg S B t).mays) (hr : Seq K F A m 1 (nats .u8 raw)) (h8 : Small 256 raw) (hm : m = rawN S B t) (hmc : m ≤ cap) :
    Does Try.prog 34 #[(NG bl pg S B t).v, .slice A m cap] K F
      (fun v H' => ∃ A' cap', v = .tuple #[.slice A' (readF t S B raw).d.length cap', .int .i64 ((readF t S B raw).n : Nat), .int .i64 ((readF t S B raw).err : Nat)] ∧
        H' = SlA (.slice A' (readF t S B raw).d.length cap') 5 1 (readF t S B raw).d.length (nats .u8 (readF t S B raw).d) :: F) := by
  have hl : raw.length = m := by simpa [nats] using hr.len
  have hN := NGood.of hg
  obtain ⟨hs, hb, ht⟩ := hN
  obtain ⟨R, hR⟩ : ∃ R, R = readF t S B raw := ⟨_, rfl⟩
  rw [← hR]
  unfold readF at hR
  refine Does.enter Try.func34 rfl Try.ntmps34 rfl ?_
  simp only [env0, Nat.reduceAdd]
  refine WC.seq ?_
  refine WC.region ?_
  refine WL.box (cs := [_, _, _, _, _]) (OV.p rfl) rfl rfl (fun b2 => ?_)
  refine WL.val (V.assign (OV.p rfl)) rfl ?_
  refine WL.val (V.assign (OV.p rfl)) rfl ?_
  refine WL.val (V.assign (OV.p rfl)) rfl ?_
  refine WL.nil ?_
  refine WC.seq ?_
  refine WC.region ?_
  refine WL.val (V.loadA (vs := [_, _, _, _, _]) ⟨Try.isAgg23, Try.sizeOf23⟩ (OV.p rfl) rfl (fun _ => by repeat (first | exact Rds.gets ⟨rfl, rfl, rfl, rfl, rfl, trivial⟩ | apply Rds.up))) rfl ?_
  refine WL.val (V.move (OV.p rfl)) rfl ?_
  refine WL.call (vs := [_, _]) Try.call39 ⟨OV.p rfl, OV.p rfl, trivial⟩ (ecc_Unpack hg hr.up h8 hm hmc) rfl ?_
  rintro _ _ (⟨hst, rfl, rfl⟩ | ⟨hst, A1, c1, la, rs, rfl, hrs, hin, rfl⟩)
  · rw [if_pos hst] at hR
    obtain ⟨st, hstv⟩ : ∃ st, st = stateF t S (B + moreLen t) raw := ⟨_, rfl⟩
    rw [← hstv] at hst hR ⊢
    refine WL.val (V.move (OV.p rfl)) rfl ?_
    refine WL.val (V.extract (OV.p rfl) rfl) rfl ?_
    refine WL.val (V.extract (OV.p rfl) rfl) rfl ?_
    refine WL.val (V.assign (OV.p rfl)) rfl ?_
    refine WL.val (V.assign (OV.p rfl)) rfl ?_
    refine WL.nil ?_
    refine WC.seq ?_
    refine WC.seq ?_
    refine WC.region ?_
    refine WL.val (V.move (OV.p rfl)) rfl ?_
    refine WL.val (V.neq (OV.p rfl) (OV.p rfl)) rfl ?_
    refine WL.nil ?_
    refine WC.condT' rfl (by simp; omega) ?_
    refine WC.seq ?_
    refine WC.region ?_
    refine WL.val (V.move (OV.p rfl)) rfl ?_
    refine WL.val (V.assign (OV.p rfl)) rfl ?_
    refine WL.val (V.assign (OV.p rfl)) rfl ?_
    refine WL.val (V.assign (OV.p rfl)) rfl ?_
    refine WL.nil ?_
    refine WC.ret ?_
    exact BodyQ.ret (H' := SlA (.slice none 0 0) 5 1 0 [] :: F) (Res.tmp3 rfl rfl rfl rfl) (fun w h => Sat.slNil (h.drop 1) _ _) ⟨none, 0, by rw [hR]; rfl, by rw [hR]; rfl⟩
  rw [if_neg (fun h => h hst)] at hR
  refine WL.ex (slA_rows (by omega)) (fun ⟨g1, r1⟩ e1 => ?_)
  dsimp only at e1 ⊢
  subst e1
  refine WL.val (V.move (OV.p rfl)) rfl ?_
  refine WL.val (V.extract (OV.p rfl) rfl) rfl ?_
  refine WL.val (V.extract (OV.p rfl) rfl) rfl ?_
  refine WL.val (V.assign (OV.p rfl)) rfl ?_
  refine WL.val (V.assign (OV.p rfl)) rfl ?_
  refine WL.nil ?_
  refine WC.seq ?_
  refine WC.seq ?_
  refine WC.region ?_
  refine WL.val (V.move (OV.p rfl)) rfl ?_
  refine WL.val (V.neq (OV.p rfl) (OV.p rfl)) rfl ?_
  refine WL.nil ?_
  refine WC.condF' rfl (by first | rfl | (simp; done) | (simp; omega)) ?_
  refine WC.skip ?_
  refine WC.seq ?_
  refine WC.region ?_
  refine WL.val (V.assign (OV.p rfl)) rfl ?_
  refine WL.nil ?_
  refine WC.seq ?_
  refine WC.region ?_
  refine WL.val (V.assign (OV.p rfl)) rfl ?_
  refine WL.nil ?_
  refine WC.seq ?_
  refine WC.seq ?_
  obtain ⟨os, hos⟩ : ∃ os, os = (List.range S).map (uSec t B (B + moreLen t) raw) := ⟨_, rfl⟩
  rw [← hos] at hrs hR
  have hol : os.length = S := by rw [hos]; simp
  have hrl : rs.length = S := by rw [← hol, ← hrs, List.length_map]
  have hob : ∀ o ∈ os, (decD o).length ≤ 512 ∧ decN o ≤ 5000 := fun o ho => by
    rw [hos] at ho
    obtain ⟨j, hj, rfl⟩ := List.mem_map.1 ho
    have := decTo_n t (secD B (B + moreLen t) raw j) (secM B (B + moreLen t) raw j) (by unfold secD; rw [List.length_take]; omega) ht.2
    have h2 : (secD B (B + moreLen t) raw j).length ≤ 512 := by unfold secD; rw [List.length_take]; omega
    exact ⟨Nat.le_trans this.1 h2, this.2⟩
  refine WC.region ?_
  refine WL.val (V.move (OV.p rfl)) rfl ?_
  refine WL.val (V.len (t := 67) Try.runUnderlying67 (OV.p rfl)) rfl ?_
  refine WL.val (V.move (OV.p rfl)) rfl ?_
  refine WL.nil ?_
  refine WC.block ?_
  refine WC.loop (σ := Nat × Option Addr × Nat × List Nat × Nat) (fun x => [(22, .slice (some ⟨g1, 0, none⟩) S c1), (23, .int .i64 (S : Int)), (24, .int .i64 (x.1 : Int)), (9, .slice x.2.1 x.2.2.2.1.length x.2.2.1), (10, .int .i64 (x.2.2.2.2 : Int))]) (fun x => SlA (.slice x.2.1 x.2.2.2.1.length x.2.2.1) 5 1 x.2.2.2.1.length (nats .u8 x.2.2.2.1) :: Cells g1 82 (recCells rs ++ r1) :: AllA la :: Cells b2 23 [.int .i64 bl, .int .i64 pg, .int .i64 (S : Int), .int .i64 (B : Int), .int .i64 (t : Int)] :: F) (fun x => x.1 ≤ S ∧ x.2.2.2.1.length ≤ x.1 * 512 ∧ x.2.2.2.2 ≤ 5000 ∧ readTo (os.drop x.1) x.2.2.2.1 x.2.2.2.2 = readTo os [] 0) (fun x => S - x.1) (0, none, 0, [], 0) ⟨Nat.zero_le _, Nat.zero_le _, Nat.zero_le _, rfl⟩ (.cons rfl (.cons rfl (.cons rfl (.cons rfl (.cons rfl (.nil _)))))) (fun w h => Sat.slNil h 5 1) ?_
  rintro ⟨k, Ao, co, d, mx⟩ ⟨hk, hdl, hmx, hto⟩
  dsimp only at hk hdl hmx hto ⊢
  refine WC.seq ?_
  refine WC.region ?_
  refine WL.val (V.lss (OV.p rfl) (OV.p rfl)) rfl ?_
  refine WL.nil ?_
  refine WC.seq ?_
  refine WC.cond rfl (fun hc1 => ?_) (fun hc1 => ?_)
  · simp only [decide_eq_true_eq, decide_eq_false_iff_not] at hc1
    refine WC.skip ?_
    refine WC.seq ?_
    refine WC.block ?_
    refine WC.seq ?_
    have hkS : k < S := by omega
    obtain ⟨r, hr1⟩ : ∃ r, rs[k]? = some r := ⟨_, List.getElem?_eq_getElem (by omega)⟩
    have hro : os[k]? = some r.o := by rw [← hrs, List.getElem?_map, hr1]; rfl
    have hdr : os.drop k = r.o :: os.drop (k + 1) := by
      rw [List.drop_eq_getElem_cons (by omega)]
      congr 1
      rw [List.getElem?_eq_getElem (by omega)] at hro
      exact Option.some.inj hro
    have hrin := hin r (List.mem_of_getElem? hr1)
    have hrb := hob r.o (List.mem_of_getElem? hro)
    rw [hdr] at hto
    have hsec : ∀ {X : Assn} {H : List Assn}, Rds K (X :: Cells g1 82 (recCells rs ++ r1) :: H) g1 (0 + (k : Int).toNat * 3) r.cells := fun {X H} i v hi => by
      refine Rd.up (Rd.here ?_)
      have h1 := recCells_get rs k r hr1 i v hi
      rw [show 0 + (k : Int).toNat * 3 = k * 3 by omega, List.getElem?_append_left (List.getElem?_eq_some_iff.1 h1).1]
      exact h1
    refine WC.region ?_
    refine WL.val (V.idxB st67 (OV.p rfl) (OV.p rfl) (fun hc => by first | omega | (simp at hc; omega))) rfl ?_
    refine WL.val (V.loadA (vs := r.cells) ⟨Try.isAgg82, Try.sizeOf82⟩ (OV.p rfl) rfl (fun _ => hsec)) rfl ?_
    refine WL.alloc (cs := [(.slice none 0 0), (.int .i64 0), (.int .i64 0)]) Try.zeroValue82 rfl rfl (fun b12 => ?_)
    refine WL.store (cs := [_, _, _]) Try.sizeOf82 (OV.p rfl) (OV.p rfl) rfl rfl rfl (by repeat (first | exact Upd.here (cs' := [_, _, _]) rfl rfl | apply Upd.up)) ?_
    refine WL.nil ?_
    refine WC.seq ?_
    refine WC.seq ?_
    refine WC.region ?_
    refine WL.val (V.fieldAddr fo82_2 (OV.p rfl)) rfl ?_
    refine WL.val (V.load Try.isAgg28 (OV.p rfl) (fun _ => by repeat (first | exact Rd.here rfl | apply Rd.up))) rfl ?_
    refine WL.val (V.neq (OV.p rfl) (OV.p rfl)) rfl ?_
    refine WL.nil ?_
    refine WC.cond rfl (fun hc2 => ?_) (fun hc2 => ?_)
    · simp only [decide_eq_true_eq, decide_eq_false_iff_not, Bool.not_eq_true', Bool.not_eq_false'] at hc2
      have h2 := hc2
      refine WC.seq ?_
      refine WC.regionQ (by kernel_rfl) (by kernel_rfl) ?_
      refine WQ.val (V.fieldAddr fo82_2 (OV.p rfl)) rfl ?_
      refine WQ.val (V.load Try.isAgg28 (OV.p rfl) (fun _ => by repeat (first | exact Rd.here rfl | apply Rd.up))) rfl ?_
      refine WQ.val (V.assign (OV.p rfl)) rfl ?_
      refine WQ.val (V.assign (OV.p rfl)) rfl ?_
      refine WQ.val (V.assign (OV.p rfl)) rfl ?_
      refine WQ.nil ?_
      refine WC.ret ?_
      have hno : r.o = none := by
        cases ho : r.o with
        | none => rfl
        | some q => rw [ho] at h2; exact absurd rfl h2
      have hR2 : R = ⟨50, [], 0⟩ := by rw [hR, ← hto, hno]; rfl
      exact BodyQ.ret (H' := SlA (.slice none 0 0) 5 1 0 [] :: F) (Res.tmp3 rfl rfl rfl (look_eq rfl (by rw [hno]))) (fun w h => Sat.slNil (h.drop 5) _ _) ⟨none, 0, by rw [hR2]; rfl, by rw [hR2]; rfl⟩
    · simp only [decide_eq_true_eq, decide_eq_false_iff_not, Bool.not_eq_true', Bool.not_eq_false'] at hc2
      have h2 := hc2
      refine WC.skip ?_
      refine WC.seq ?_
      refine WC.region ?_
      refine WL.val (V.move (OV.p rfl)) rfl ?_
      refine WL.val (V.fieldAddr fo82_0 (OV.p rfl)) rfl ?_
      refine WL.val (V.load Try.isAgg24 (OV.p rfl) (fun _ => by repeat (first | exact Rd.here rfl | apply Rd.up))) rfl ?_
      obtain ⟨q, hq⟩ : ∃ q, r.o = some q := by
        cases ho : r.o with
        | none => rw [ho] at h2; exact absurd h2 (by decide)
        | some q => exact ⟨q, rfl⟩
      refine WL.sub (Sub.refl _) (fun w h => h.p1) ?_
      refine WL.append (m := d.length) (q := (decD r.o).length) (news := nats .u8 (decD r.o)) Try.underlying24 el5 (OV.p rfl) (OV.p rfl) (by repeat (first | exact SeqIn.seq hrin | apply Seq.up)) (nats_one _ _) (by omega) rfl rfl (fun A36 c36 hn36 hc36 => ?_)
      refine WL.val (V.assign (OV.p rfl)) rfl ?_
      refine WL.nil ?_
      refine WC.region ?_
      refine WL.val (V.move (OV.p rfl)) rfl ?_
      refine WL.val (V.fieldAddr fo82_1 (OV.p rfl)) rfl ?_
      refine WL.val (V.load Try.isAgg3 (OV.p rfl) (fun _ => by repeat (first | exact Rd.here rfl | apply Rd.up))) rfl ?_
      refine WL.val (V.max (OV.p rfl) (OV.p rfl)) rfl ?_
      refine WL.val (V.assign (OV.p rfl)) rfl ?_
      refine WL.nil ?_
      refine WC.region ?_
      refine WL.val (V.addI (OV.p rfl) (OV.p rfl) (fun hc => by first | omega | (simp at hc; omega))) rfl ?_
      refine WL.val (V.move (OV.p rfl)) rfl ?_
      refine WL.nil ?_
      refine ⟨rfl, ?_⟩
      obtain ⟨⟨p1, p2⟩, nq⟩ := q
      rw [hq] at hrb hto
      have hdq : decD r.o = p1 := by rw [hq]; rfl
      have hnq : decN r.o = nq := by rw [hq]; rfl
      refine ⟨(k + 1, A36, c36, d ++ p1, max mx nq), ⟨hkS, by show (d ++ p1).length ≤ (k + 1) * 512; have := hrb.1; rw [List.length_append]; simp only [decD] at this; omega, by show max mx nq ≤ 5000; have := hrb.2; simp only [decN] at this; omega, by dsimp only; rw [← hto]; rfl⟩, (by show S - (k + 1) < S - k; omega), .cons rfl (.cons rfl (.cons (look_eq rfl (by simp)) (.cons (look_eq rfl (by dsimp only; rw [List.length_append, hdq])) (.cons (look_eq rfl (by dsimp only; rw [hnq]; congr 1; omega)) (.nil _))))), fun w h => ?_⟩
      have h' := h.sel 5 [0, 2, 3, 4] rfl
      rw [hdq, ← nats_append, ← List.length_append] at h'
      exact h'
  · simp only [decide_eq_true_eq, decide_eq_false_iff_not] at hc1
    refine WC.exit ?_
    refine WC.seq ?_
    refine WC.region ?_
    refine WL.val (V.move (OV.p rfl)) rfl ?_
    refine WL.val (V.move (OV.p rfl)) rfl ?_
    refine WL.val (V.assign (OV.p rfl)) rfl ?_
    refine WL.val (V.assign (OV.p rfl)) rfl ?_
    refine WL.val (V.assign (OV.p rfl)) rfl ?_
    refine WL.nil ?_
    refine WC.ret ?_
    obtain rfl : k = S := by omega
    have hR2 : R = ⟨0, d, mx⟩ := by rw [hR, ← hto, List.drop_of_length_le (by omega)]; rfl
    exact BodyQ.ret (H' := SlA (.slice Ao d.length co) 5 1 d.length (nats .u8 d) :: F) (Res.tmp3 rfl rfl rfl rfl) (fun w h => h.sel 4 [0] rfl) ⟨Ao, co, by rw [hR2]; rfl, by rw [hR2]⟩
end
end Go.Proofs.Ytohkefolnmcjnaa
