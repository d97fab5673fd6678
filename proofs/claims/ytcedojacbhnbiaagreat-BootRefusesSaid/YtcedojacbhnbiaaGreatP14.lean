import Derived.Test.YtcedojacbhnbiaaGreatP11
import Derived.Test.YtcedojacbhnbiaaGreatP13
import Derived.Test.YtcedojacbhnbiaaGreatP10
import Derived.Test.YtcedojacbhnbiaaGreatP8
import Derived.Lib.AppendZeros
namespace Go.Proofs.YtcedojacbhnbiaaGreat
open Go.Sl Go.RowKit
set_option linter.unusedVariables false
set_option linter.unusedSimpArgs false
set_option maxRecDepth 20000
theorem uZ (k : IntKind) (xs : List Nat) : aB k xs = ints k (xs.map fun x : Nat => (x : Int)) := by simp [aB, ints]
section
variable {K : World} {F : List au}
theorem rP {A : Option Addr} {m cap : Nat} {xs : List Nat} (hs : Seq K F A m 1 (aB .u8 xs)) (hm : m ≤ 1000000) :
    Does Tryz.prog 125 #[.slice A m cap] K F (fun v H' => ∃ A' cap', v = .slice A' m cap' ∧ H' = bC (.slice A' m cap') 5 1 m (aB .u8 xs) :: F) := by
  rw [uZ] at hs ⊢
  exact Dk hs hm
theorem tZ {A : Option Addr} {m cap E : Nat} {cs : List Value} (hm : 0 < m) : ∀ w, Sat K w (bC (.slice A m cap) E 1 m cs :: F) → ∃ x : Nat × List Value, (A = some ⟨x.1, 0, none⟩ ∧ (cs ++ x.2).length = cap ∧ cap ≤ maxLen) ∧ Sat K w (Cells x.1 E (cs ++ x.2) :: F) := fun w hw => by
  cases A with
  | none => have := (bC.vQ hw).1; omega
  | some a =>
    obtain ⟨g, rfl⟩ := bC.addr hw
    obtain ⟨r, ⟨h1, h2, h3, h4⟩, h5⟩ := Sat.lg hw
    exact ⟨(g, r), ⟨rfl, by show (cs ++ r).length = cap; omega, h4⟩, h5⟩
theorem DY {t : Nat} {A B : Option Addr} {m q cap cap' : Nat} {d mo : List Nat} (ht : 1 ≤ t ∧ t ≤ 8) (hd : Seq K F A m 1 (aB .u8 d)) (hm : Seq K F B q 1 (aB .u8 mo)) (Gr : Small 256 d) (MV : Small 256 mo) (hdl : 1 ≤ m ∧ m ≤ 512) (hml : q = ay t) :
    Does Tryz.prog 283 #[.int .i64 (t : Int), .slice A m cap, .slice B q cap'] K F
      (fun v H' => ∃ bw, ∃ W : Wd, W.Ok ∧ W.t = t ∧ W.d = d ∧ W.m = dF t mo ∧ (W.d.length ≤ W.c1 ∧ W.m.length ≤ W.c2) ∧ v = .tuple #[ptr bw 0, .int .i64 0] ∧ H' = W.parts bw ++ F) := by
  have hl : d.length = m := by simpa [aB] using hd.len
  have zN : mo.length = q := by simpa [aB] using hm.len
  have RJ : q ≤ 13 := by rw [hml]; unfold ay; omega
  have hq0 : 0 < q := by rw [hml]; unfold ay; omega
  have Sg : 13 * t ≤ 8 * q := by rw [hml]; unfold ay; omega
  refine Does.enter Tryz.func283 rfl Tryz.ntmps283 rfl ?_
  simp only [aJ, Nat.reduceAdd]
  refine WC.sr (WL.sg rfl rfl (WL.sg rfl rfl (WL.nil (WC.sr (WL.mv rfl rfl (WL.mv rfl rfl (WL.call (vs := [_, _]) Tryz.call278 ⟨OV.p rfl, OV.p rfl, trivial⟩ (DF ht hdl) rfl ?_)))))))
  rintro _ H0 ⟨rfl, h0⟩
  subst H0
  refine WL.mv rfl rfl (WL.xt rfl rfl rfl (WL.xt rfl rfl rfl (WL.sg rfl rfl (WL.sg rfl rfl (WL.nil (WC.seq (WC.sr (WL.mv rfl rfl (WL.val (V.neq (OV.p rfl) (OV.p rfl)) rfl (WL.mv rfl rfl (WL.ah (oj := _) rfl rfl rfl GC.f (V.move (OV.p rfl)) rfl (WL.ah (oj := _) rfl rfl rfl GC.f (V.len (t := 34) Tryz.runUnderlying34 (OV.g rfl id)) rfl (WL.ah (oj := _) rfl rfl rfl GC.f (V.move (OV.p rfl)) rfl (WL.ah (oj := _) rfl rfl rfl GC.f (V.neq (OV.g rfl id) (OV.g rfl id)) rfl (WL.val (V.aS (OV.p rfl) (OV.g rfl id)) rfl (WL.nil ?_))))))))))))))))
  refine WC.aM rfl ((by simp; rw [hml])) ?_
  refine WC.skip (WC.sr (WL.mv rfl rfl (WL.mv rfl rfl ?_)))
  refine WL.call (vs := [_]) Tryz.call125 ⟨OV.p rfl, trivial⟩ (rP hd (by omega)) rfl ?_
  rintro _ _ ⟨A1, c1, rfl, rfl⟩
  refine WL.ex (tZ (by omega)) (fun ⟨g1, r1⟩ ⟨e1, hr1, hc1⟩ => ?_)
  dsimp only at e1 hr1 ⊢
  subst e1
  refine WL.mv rfl rfl ?_
  refine WL.call (vs := [_]) Tryz.call125 ⟨OV.p rfl, trivial⟩ (rP hm.up (by omega)) rfl ?_
  rintro _ _ ⟨A2, c2, rfl, rfl⟩
  refine WL.ex (tZ hq0) (fun ⟨g2, r2⟩ ⟨e2, hr2, hc2⟩ => ?_)
  dsimp only at e2 hr2 ⊢
  subst e2
  have hr1' : d.length ≤ c1 := by rw [← hr1, List.length_append, aH]; omega
  have hr2' : mo.length ≤ c2 := by rw [← hr2, List.length_append, aH]; omega
  refine WL.val (V.build (vs := [(0, _), (1, _), (2, _)]) ⟨OV.p rfl, OV.p rfl, OV.p rfl, trivial⟩ rfl (Ch _ _ _ _ _ _ _)) rfl ?_
  refine WL.box (cs := [_, _, _]) (OV.p rfl) rfl rfl (fun b32 => ?_)
  refine WL.sg rfl rfl (WL.nil (WC.seq (WC.sr (WL.mv rfl rfl ?_))))
  refine WL.val (V.jQ (OV.p rfl) (OV.p rfl) (fun hc => by first | omega | (simp at hc; omega))) rfl ?_
  refine WL.sg rfl rfl (WL.nil (WC.block ?_))
  refine WC.loop (σ := Nat) (fun k => [(10, ptr b32 0), (8, .int .i64 (q : Int)), (11, .int .i64 ((13 * t + k : Nat) : Int))]) (fun k => Cells g2 5 (aB .u8 (dZ mo (13 * t) k) ++ r2) :: Cells b32 370 [.int .i64 (t : Int), .slice (some ⟨g1, 0, none⟩) m c1, .slice (some ⟨g2, 0, none⟩) q c2] :: Cells g1 5 (aB .u8 d ++ r1) :: F) (fun k => 13 * t + k ≤ 8 * q) (fun k => 8 * q - k) 0 (by simpa using Sg) (.cons rfl (.cons (look_eq rfl (by rw [hml])) (.cons (look_eq rfl (by simp)) (.nil _)))) (fun w h => h.p1) ?_
  rintro k hk
  refine WC.seq (WC.sr (WL.mv rfl rfl (WL.mv rfl rfl ?_)))
  refine WL.val (V.jQ (OV.p rfl) (OV.p rfl) (fun hc => by first | omega | (simp at hc; omega))) rfl ?_
  refine WL.val (V.lss (OV.p rfl) (OV.p rfl)) rfl (WL.nil ?_)
  refine WC.cond rfl (fun hc1 => ?_) (fun hc1 => ?_)
  ·simp only [decide_eq_true_eq, decide_eq_false_iff_not] at hc1
   obtain ⟨o, ho⟩ : ∃ o, o = dZ mo (13 * t) k := ⟨_, rfl⟩
   have hol : o.length = q := by rw [ho, iy, zN]
   have hos : Small 256 o := by rw [ho]; exact jc MV k
   rw [← ho]
   obtain ⟨i, hi⟩ : ∃ i, i = 13 * t + k := ⟨_, rfl⟩
   rw [← hi]
   have hg1 : (aB .u8 o ++ r2)[0 + ((i : Int) / 8).toNat * 1]? = some (.int .u8 (o.getD (i / 8) 0 : Nat)) := by rw [show 0 + ((i : Int) / 8).toNat * 1 = i / 8 by omega]; exact iL _ _ _ (by omega)
   have hcl := AZ (hos.at_ (by decide) (i / 8)) (Nat.mod_lt i (show 0 < 8 by decide))
   refine WC.skip (WC.seq (WC.block ?_))
   refine WC.dY (Cells b32 370 [.int .i64 (t : Int), .slice (some ⟨g1, 0, none⟩) m c1, .slice (some ⟨g2, 0, none⟩) q c2] :: Cells g1 5 (aB .u8 d ++ r1) :: F) (by kernel_rfl) ?_
   refine WA.t 0 rfl (V.move (OV.p rfl)) (WA.t 1 rfl (V.nilCheck (OV.p rfl)) (WA.t 2 rfl (V.fieldAddr wZ (OV.p rfl)) ?_))
   refine WA.t 3 rfl (V.load Tryz.isAgg34 (OV.p rfl) (fun _ => by repeat (first | exact Rd.here rfl | apply Rd.up))) ?_
   refine WA.t 4 rfl (V.move (OV.p rfl)) ?_
   refine WA.t 5 rfl (V.rR (OV.p rfl) (OV.p rfl) (fun hc => by first | omega | (simp at hc; omega))) ?_
   refine WA.t 6 rfl (V.bP dB (OV.p rfl) (OV.p rfl) (fun hc => by omega)) ?_
   refine WA.t 8 rfl (V.move (OV.p rfl)) ?_
   refine WA.t 9 rfl (V.aA (v' := .int .i64 ((i % 8 : Nat) : Int)) (V.qH (OV.p rfl) (OV.p rfl) (fun _ => by omega)) (fun _ => by simp)) ?_
   refine WA.t 10 rfl (V.shl (OV.p rfl) (OV.p rfl) (by omega)) ?_
   refine WA.o 7 rfl ?_
   refine WL.val (V.load Tryz.isAgg5 (OV.p rfl) (fun hc => Rd.here hg1)) rfl ?_
   refine WL.nil ?_
   refine WA.t 11 rfl (V.aA (v' := .int .u8 ((yU (o.getD (i / 8) 0) (i % 8) : Nat) : Int)) (V.andNot (OV.p rfl) (OV.p rfl)) (fun _ => by rw [hcl.1])) ?_
   refine WA.t 12 rfl (V.bP dB (OV.p rfl) (OV.p rfl) (fun hc => by omega)) ?_
   refine WA.o 13 rfl ?_
   refine WL.store (cs := [_]) Tryz.sizeOf5 (OV.p rfl) (OV.p rfl) rfl rfl rfl (aQ.at_ (by rw [List.length_append, aH]; omega)) ?_
   refine WL.nil (WA.fin (WC.region (WL.mv rfl rfl (WL.ad rfl rfl rfl ?_))))
   refine WL.sg rfl rfl (WL.nil ?_)
   refine ⟨rfl, ?_⟩
   refine ⟨k + 1, (by show 13 * t + (k + 1) ≤ 8 * q; omega), (by show 8 * q - (k + 1) < 8 * q - k; omega), .cons rfl (.cons rfl (.cons (look_eq rfl (by rw [hi]; simp; omega)) (.nil _))), fun w h => Sat.aV h ?_⟩
   rw [show 0 + ((i : Int) / 8).toNat * 1 = i / 8 by omega, jm _ _ _ (by omega), dZ, ← ho, ← hi]
  ·simp only [decide_eq_true_eq, decide_eq_false_iff_not] at hc1
   refine WC.exit (WC.seq ?_)
   have hke : k = 8 * ay t - 13 * t := by omega
   have hmm : dZ mo (13 * t) k = dF t mo := by unfold dF; rw [hke]
   rw [hmm]
   have Qm : (dF t mo).length = q := by unfold dF; rw [iy, zN]
   refine WC.region (WL.mv rfl rfl (WL.sg rfl rfl (WL.sg rfl rfl (WL.nil (WC.ret ?_)))))
   refine aj.ret (H' := Wd.parts b32 ⟨t, d, dF t mo, g1, c1, g2, c2, r1, r2⟩ ++ F) (aL.dJ rfl rfl rfl) (fun w h => ?_) ⟨b32, ⟨t, d, dF t mo, g1, c1, g2, c2, r1, r2⟩, ⟨ht, by show 1 ≤ d.length ∧ d.length ≤ 512; omega, by show (dF t mo).length = ay t; omega, Gr, jc MV _⟩, rfl, rfl, rfl, ⟨hr1', by show (dF t mo).length ≤ c2; omega⟩, rfl, rfl⟩
   have h' := h.sel 3 [1, 2, 0] rfl
   dsimp only [Wd.parts, Wd.cells, List.cons_append, List.nil_append]
   rw [hl, Qm]
   exact h'
end
theorem kL {xs : List Nat} {i j x : Nat} : (xs.set i x).getD j 0 = if i = j ∧ j < xs.length then x else xs.getD j 0 := by
  simp only [List.getD, List.getElem?_set]
  by_cases h : i = j
  · subst h
    by_cases hl : i < xs.length
    · simp [hl]
    · simp [hl, List.getElem?_eq_none (Nat.le_of_not_lt hl)]
  · simp [h]
theorem iD {x s i : Nat} : (x * 2 ^ s).testBit i = (decide (s ≤ i) && x.testBit (i - s)) := by
  rw [← Nat.shiftLeft_eq, Nat.testBit_shiftLeft]
theorem oZ {x i : Nat} (h : i < 8) : (x % 256).testBit i = x.testBit i := by
  rw [show (256 : Nat) = 2 ^ 8 from rfl, Nat.testBit_mod_two_pow]; simp [h]
theorem o8 {x i : Nat} : (x / 256).testBit i = x.testBit (8 + i) := by
  rw [show (256 : Nat) = 2 ^ 8 from rfl, Nat.testBit_div_two_pow, Nat.add_comm]
theorem gU {x i : Nat} (hx : x < 256) (hi : 8 ≤ i) : x.testBit i = false := Nat.testBit_lt_two_pow (Nat.lt_of_lt_of_le hx (Nat.pow_le_pow_right (n := 2) (by decide) hi))
theorem gM {xs : List Nat} {k : Nat} (h : 8 * xs.length ≤ k) : aR xs k = false := by
  unfold aR
  rw [show xs.getD (k / 8) 0 = 0 by rw [List.getD, List.getElem?_eq_none (by omega)]; rfl]
  exact Nat.zero_testBit _
theorem oD {out p : List Nat} {at_ : Nat} (ho : Small 256 out) (hp : Small 256 p) : ∀ (j : Nat), j + at_ / 8 < out.length → ∀ k, aR (iT out p at_ j) k = (aR out k ^^ (decide (at_ ≤ k) && decide (k - at_ < 8 * j) && aR p (k - at_)))
  | 0, _, k => by simp [-List.getD_eq_getElem?_getD, iT]
  | j + 1, hj, k => by
    have ih := oD (at_ := at_) ho hp j (by omega) k
    have hlen := jd out p at_ j
    have Ob := hp.at_ (by decide) j
    have hw : ∀ i, (p.getD j 0 * 2 ^ (at_ % 8)).testBit i = (decide (at_ % 8 ≤ i) && (p.getD j 0).testBit (i - at_ % 8)) := fun i => iD
    have Ph : ¬ 255 < p.getD j 0 * 2 ^ (at_ % 8) → p.getD j 0 * 2 ^ (at_ % 8) / 256 = 0 := fun h => by omega
    have hbit : ∀ o : List Nat, o = iT out p at_ j → aR (iT out p at_ (j + 1)) k = (aR o k ^^ ((decide (k / 8 = j + at_ / 8) && (p.getD j 0 * 2 ^ (at_ % 8)).testBit (k % 8)) || (decide (k / 8 = j + at_ / 8 + 1) && (p.getD j 0 * 2 ^ (at_ % 8)).testBit (8 + k % 8)))) := by
      intro o hoe
      have Oy : k % 8 < 8 := Nat.mod_lt _ (by decide)
      have hol : o.length = out.length := by rw [hoe]; exact hlen
      rw [iT, ← hoe]
      split
      · unfold aR
        simp only [kL, List.length_set]
        by_cases h1 : j + at_ / 8 + 1 = k / 8
        · rw [if_pos ⟨h1, by omega⟩, if_neg (by omega), Nat.testBit_xor, o8]
          have e1 : ¬ k / 8 = j + at_ / 8 := by omega
          simp [-List.getD_eq_getElem?_getD, e1, ← h1]
        · rw [if_neg (by omega)]
          by_cases h2 : j + at_ / 8 = k / 8
          · rw [if_pos ⟨h2, by omega⟩, Nat.testBit_xor, oZ Oy]
            have e1 : ¬ k / 8 = j + at_ / 8 + 1 := by omega
            simp [-List.getD_eq_getElem?_getD, e1, ← h2]
          · rw [if_neg (by omega)]
            have e1 : ¬ k / 8 = j + at_ / 8 + 1 := by omega
            have e2 : ¬ k / 8 = j + at_ / 8 := by omega
            simp [-List.getD_eq_getElem?_getD, e1, e2]
      · rename_i hs
        unfold aR
        rw [kL]
        have hz : (p.getD j 0 * 2 ^ (at_ % 8)).testBit (8 + k % 8) = false := by rw [← o8, Ph hs]; exact Nat.zero_testBit _
        by_cases h2 : j + at_ / 8 = k / 8
        · rw [if_pos ⟨h2, by omega⟩, Nat.testBit_xor, oZ Oy]
          simp [-List.getD_eq_getElem?_getD, hz, ← h2]
        · rw [if_neg (by omega)]
          have e2 : ¬ k / 8 = j + at_ / 8 := by omega
          simp [-List.getD_eq_getElem?_getD, hz, e2]
    rw [hbit _ rfl, ih, Bool.xor_assoc]
    congr 1
    rw [hw, hw]
    by_cases hka : at_ ≤ k
    · obtain ⟨r, hr⟩ : ∃ r, r = k - at_ := ⟨_, rfl⟩
      rw [← hr]
      by_cases h1 : k / 8 = j + at_ / 8
      · have e1 : ¬ k / 8 = j + at_ / 8 + 1 := by omega
        by_cases h2 : at_ % 8 ≤ k % 8
        · have Oc : r / 8 = j := by omega
          have hrm : r % 8 = k % 8 - at_ % 8 := by omega
          have hbp : aR p r = (p.getD j 0).testBit (k % 8 - at_ % 8) := by unfold aR; rw [Oc, hrm]
          have e3 : ¬ r < 8 * j := by omega
          have e4 : r < 8 * (j + 1) := by omega
          simp [-List.getD_eq_getElem?_getD, h1, e1, h2, hka, hbp, e3, e4]
        · have e3 : (r < 8 * j ↔ r < 8 * (j + 1)) := by omega
          have e5 : decide (r < 8 * (j + 1)) = decide (r < 8 * j) := decide_eq_decide.2 e3.symm
          simp [-List.getD_eq_getElem?_getD, h1, e1, h2, hka, e5]
      · by_cases h3 : k / 8 = j + at_ / 8 + 1
        · have h8 : at_ % 8 ≤ 8 + k % 8 := by omega
          by_cases h4 : 8 + k % 8 - at_ % 8 < 8
          · have Oc : r / 8 = j := by omega
            have hrm : r % 8 = 8 + k % 8 - at_ % 8 := by omega
            have hbp : aR p r = (p.getD j 0).testBit (8 + k % 8 - at_ % 8) := by unfold aR; rw [Oc, hrm]
            have e3 : ¬ r < 8 * j := by omega
            have e4 : r < 8 * (j + 1) := by omega
            simp [-List.getD_eq_getElem?_getD, h1, h3, h8, hka, hbp, e3, e4]
          · have hz := gU Ob (i := 8 + k % 8 - at_ % 8) (by omega)
            have e3 : ¬ r < 8 * j := by omega
            have e4 : ¬ r < 8 * (j + 1) := by omega
            simp [-List.getD_eq_getElem?_getD, h1, h3, hz, e3, e4]
        · have e5 : decide (r < 8 * (j + 1)) = decide (r < 8 * j) := decide_eq_decide.2 (by omega)
          simp [-List.getD_eq_getElem?_getD, h1, h3, e5]
    · have e1 : (decide (k / 8 = j + at_ / 8) && (decide (at_ % 8 ≤ k % 8) && (p.getD j 0).testBit (k % 8 - at_ % 8))) = false := by
        by_cases h1 : k / 8 = j + at_ / 8
        · have : ¬ at_ % 8 ≤ k % 8 := by omega
          simp [-List.getD_eq_getElem?_getD, this]
        · simp [-List.getD_eq_getElem?_getD, h1]
      have e2 : ¬ k / 8 = j + at_ / 8 + 1 := by omega
      simp [-List.getD_eq_getElem?_getD, hka, e1, e2]
def FH (q : List Nat) (d : Nat) : Prop := aR q d = true ∧ ∀ k, d < k → aR q k = false
theorem u6 {p q : List Nat} {lq d : Nat} (hp : Small 256 p) (hq : Small 256 q) (hlq : q.length = lq) (hld : lq = d / 8 + 1) (hd : FH q d) : ∀ k, k ≤ 8 * p.length - d → ∀ b, 8 * p.length - k ≤ b → aR (dS p q lq d k) b = false
  | 0, _, b, hb => by
    rw [dS]
    unfold aR
    by_cases h : b / 8 = p.length
    · have e : (p ++ [0]).getD (b / 8) 0 = (0 : Nat) := by rw [h]; simp [List.getD]
      rw [e]; exact Nat.zero_testBit _
    · have e : (p ++ [0]).getD (b / 8) 0 = (0 : Nat) := by rw [List.getD, List.getElem?_eq_none (by simp; omega)]; rfl
      rw [e]; exact Nat.zero_testBit _
  | k + 1, hk, b, hb => by
    have ih := u6 hp hq hlq hld hd k (by omega)
    subst hlq
    rw [dS]
    split
    · rename_i hbit
      rw [oD (fI hp hq k) hq _ (by rw [dG]; omega)]
      obtain ⟨i, hi⟩ : ∃ i, i = 8 * p.length - 1 - k := ⟨_, rfl⟩
      rw [← hi] at hbit ⊢
      by_cases h1 : b = i
      · subst h1
        have e1 : b - (b - d) = d := by omega
        rw [hbit, e1, hd.1]
        have e2 : b - d ≤ b := by omega
        have e3 : d < 8 * q.length := by omega
        simp [e2, e3]
      · rw [ih b (by omega), hd.2 (b - (i - d)) (by omega)]
        simp
    · rename_i hbit
      by_cases h1 : b = 8 * p.length - 1 - k
      · subst h1; simpa using hbit
      · exact ih b (by omega)
theorem Bb {p q : List Nat} {lq d : Nat} (hp : Small 256 p) (hq : Small 256 q) (hlq : q.length = lq) (hld : lq = d / 8 + 1) (hd : FH q d) {b : Nat} (hb : d ≤ b) : aR (dS p q lq d (8 * p.length - d)) b = false := by
  by_cases h : d ≤ 8 * p.length
  · exact u6 hp hq hlq hld hd _ (Nat.le_refl _) b (by omega)
  · have := u6 hp hq hlq hld hd 0 (Nat.zero_le _) b (by omega)
    rwa [show 8 * p.length - d = 0 by omega]
theorem sK {xs : List Nat} {b : Nat} (hx : Small 256 xs) (h : ∀ k, b ≤ k → aR xs k = false) : ∀ n, aC xs n ≤ (b + 7) / 8
  | 0 => Nat.zero_le _
  | n + 1 => by
    rw [aC]
    split
    · exact sK hx h n
    · rename_i hne
      rcases Nat.lt_or_ge n ((b + 7) / 8) with h1 | h1
      · omega
      · exfalso
        apply hne
        apply Nat.eq_of_testBit_eq
        intro i
        rw [Nat.zero_testBit]
        by_cases hi : i < 8
        · have := h (8 * n + i) (by omega)
          unfold aR at this
          rwa [show (8 * n + i) / 8 = n by omega, show (8 * n + i) % 8 = i by omega] at this
        · exact gU (hx.at_ (by decide) _) (by omega)
def C8 (t : Nat) : Bool := decide (Gd (dA t) (dA t).length = ((13 * t : Nat) : Int)) && decide (aC (dA t) (dA t).length = 13 * t / 8 + 1) && decide ((dA t).length = 13 * t / 8 + 1) && aR (dA t) (13 * t) && (List.range (8 * (dA t).length)).all (fun k => decide (k ≤ 13 * t) || !aR (dA t) k) && (dA t).all (fun x => decide (x < 256))
theorem L9 : [1, 2, 3, 4, 5, 6, 7, 8].all C8 = true := by kernel_rfl
theorem mJ {t : Nat} (ht : 1 ≤ t ∧ t ≤ 8) : Gd (dA t) (dA t).length = ((13 * t : Nat) : Int) ∧ aC (dA t) (dA t).length = 13 * t / 8 + 1 ∧ (dA t).length = 13 * t / 8 + 1 ∧ FH (dA t) (13 * t) ∧ Small 256 (dA t) := by
  have h := List.all_eq_true.1 L9 t (by simp only [List.mem_cons, List.not_mem_nil, or_false]; omega)
  simp only [C8, Bool.and_eq_true, decide_eq_true_eq, List.all_eq_true, List.mem_range, Bool.or_eq_true, Bool.not_eq_true'] at h
  obtain ⟨⟨⟨⟨⟨h1, h2⟩, h3⟩, h4⟩, h5⟩, h6⟩ := h
  refine ⟨h1, h2, h3, ⟨h4, fun k hk => ?_⟩, h6⟩
  rcases Nat.lt_or_ge k (8 * (dA t).length) with h | h
  · rcases h5 k h with h' | h'
    · omega
    · exact h'
  · exact gM h
end Go.Proofs.YtcedojacbhnbiaaGreat
namespace Go.Sl
open Go.RowKit Go.BigFrame
set_option linter.unusedVariables false
set_option linter.unusedSimpArgs false
theorem qL {z : Value} (hz : z.cells = #[z]) (n : Nat) : Builtin.zeroCells z.cells n = (List.replicate n z).toArray := by
  rw [hz]
  apply Array.ext'
  apply List.ext_getElem
  · simp [Builtin.zeroCells]
  · intro i h1 h2
    simp [Builtin.zeroCells, Nat.mod_one]
section
variable {P : Program} (w : World) (t tn ty e : TypeId) (i : TypeInfo) (z : Value) (k kn : IntKind)
theorem uY (ht : P.underlying t = some (.slice e)) (htn : P.underlying tn = some (.int kn)) (hi : P.info? e = some i) (hz : i.zero = some z) (hz1 : z.cells = #[z]) (h1 : z.oneCell' = true) (hsz : i.size = 1)
    (b sLen sCap n : Nat) (hroom : sLen + n ≤ sCap) (hc : ∀ j, j < n → (w.cell? ⟨b, sLen + j, none⟩).isSome = true) (hf : ∀ j, j < n → w.frozen? ⟨b, sLen + j, none⟩ = false) (hn63 : (n : Int) ≤ 1000000000) (h48 : n * i.bytes ≤ 281474976710656) :
    (Builtin.append_ #[t, tn] ty #[.slice (some ⟨b, 0, none⟩) sLen sCap, .int k n]).run P w = .ok (.slice (some ⟨b, 0, none⟩) (sLen + n) sCap) (w.setCells b sLen (List.replicate n z)) := by
  have hw : IntKind.i64.wrap (n : Int) = n := by rw [IntKind.wrap_i64]; omega
  have h48i : ¬ (281474976710656 < (n : Int) * (i.bytes : Int)) := by rw [← Int.natCast_mul]; omega
  have hneg : ¬ ((n : Int) < 0) := by omega
  have hw0 : IntKind.i64.wrap 0 = 0 := by decide
  have hst := run_storeCells_cells (P := P) b sLen (List.replicate n z) 0 w (by simpa using hc) (by simpa using hf) (by intro v hv; rw [List.eq_of_mem_replicate hv]; exact h1)
  simp only [Nat.add_zero] at hst
  have hzc := qL hz1 n
  by_cases h0 : n = 0
  · subst h0
    simp [Builtin.append_, run_underlying ht, run_underlying htn, sizeOf, typeInfo, zeroValue, hi, hz, asInt, asIntOf, hw0, hsz, storeCells, World.setCells, show sLen ≤ sCap by omega, gZ]
  · simp [Builtin.append_, run_underlying ht, run_underlying htn, sizeOf, typeInfo, zeroValue, hi, hz, asInt, asIntOf, hw, hneg, h0, hsz, h48i, hroom, hzc, gZ, hst]
theorem l6 (ht : P.underlying t = some (.slice e)) (htn : P.underlying tn = some (.int kn)) (hi : P.info? e = some i) (hz : i.zero = some z) (hz1 : z.cells = #[z]) (hsz : i.size = 1)
    (base : Option Addr) (sLen sCap n : Nat) (olds : List Value) (hold : (Builtin.firstCells 1 sLen (.slice base sLen sCap)).run P w.drew = .ok olds.toArray w.drew) (hg : sCap < sLen + n) (hn63 : (sLen + n : Int) ≤ 1000000000) (h48 : (sLen + n) * i.bytes ≤ 140737488355328) :
    (Builtin.append_ #[t, tn] ty #[.slice base sLen sCap, .int k n]).run P w = .ok (.slice (some ⟨w.heap.size, 0, none⟩) (sLen + n) (grownCap w (sLen + n) sCap e))
      (w.drew.alloc (.cells ((olds ++ List.replicate n z).toArray ++ Builtin.zeroCells z.cells (grownCap w (sLen + n) sCap e - (sLen + n))) e)) := by
  have hw : IntKind.i64.wrap (n : Int) = n := by rw [IntKind.wrap_i64]; omega
  have hnb : n * i.bytes ≤ (sLen + n) * i.bytes := Nat.mul_le_mul_right _ (by omega)
  have h48i : ¬ (281474976710656 < (n : Int) * (i.bytes : Int)) := by rw [← Int.natCast_mul]; omega
  have hneg : ¬ ((n : Int) < 0) := by omega
  have hw0 : IntKind.i64.wrap 0 = 0 := by decide
  have hfit := growslice_fits hg h48
  have h48' : ¬ (281474976710656 < Builtin.nextslicecap (sLen + n) sCap * i.bytes) := by omega
  have hnr : ¬ (sLen + n ≤ sCap) := by omega
  have h63' : ¬ (9223372036854775807 < ((sLen : Int) + (n : Int))) := by omega
  have hzc := qL hz1 n
  by_cases h0 : n = 0
  · subst h0
    simp only [Nat.add_zero] at hnr h48' ⊢
    simp [Builtin.append_, run_underlying ht, run_underlying htn, sizeOf, typeInfo, zeroValue, hi, hz, asInt, asIntOf, hw0, hsz, h48', hnr, hold, Question.forced, newRow, grownCap, show ¬ (9223372036854775807 < (sLen : Int)) by omega]
  · simp [Builtin.append_, run_underlying ht, run_underlying htn, sizeOf, typeInfo, zeroValue, hi, hz, asInt, asIntOf, hw, hneg, h0, hsz, h48i, h48', h63', hnr, hzc, hold, Question.forced, newRow, grownCap]
    congr 2
    apply Array.ext'
    simp [List.append_assoc]
end
section
variable {Mo : Mode} {P : Program} {K : World} {n : Nat} {Q : Post} {e : Env} {H : List au} {ty : TypeId} {pos : String} {af : Array Edge} {ops : Array Oper} {rest : List Oper}
theorem WL.Cv {d : Nat} {x y : Operand} {T Tn E bytes m q : Nat} {kn k : IntKind} {z v : Value} {cs : List Value} {l : Int} (hT : P.underlying T = some (.slice E)) (Pn : P.underlying Tn = some (.int kn)) (hE : fO P E 1 bytes z) (hz1 : z.cells = #[z]) (h1 : z.oneCell' = true)
    (hx : OV true e x v) (hy : OV true e y (.int k l)) (hl : l = (q : Int)) (hb : (m + q) * bytes ≤ 140737488355328) (SC : m + q ≤ 1000000000) (hd : Nat.blt d n = true)
    (h : ∀ A cap, (A = none → m + q = 0 ∧ cap = 0) → m + q ≤ cap → WL Mo P K n ops rest Q ((d, .slice A (m + q) cap) :: e) (bC (.slice A (m + q) cap) E 1 (m + q) (cs ++ List.replicate q z) :: H)) :
    WL Mo P K n ops (⟨some d, .call ⟨.builtin .append, #[x, y], #[T, Tn]⟩, ty, pos, af, none⟩ :: rest) Q e (bC v E 1 m cs :: H) := by
  refine WL.Jr (R := fun u H' => ∃ A cap, u = .slice A (m + q) cap ∧ (A = none → m + q = 0 ∧ cap = 0) ∧ m + q ≤ cap ∧ H' = bC (.slice A (m + q) cap) E 1 (m + q) (cs ++ List.replicate q z) :: H) (fun a w ha hw => ?_) hd (fun u H' ⟨A, cap, e1, e2, e3, e4⟩ => by subst e1 e4; exact h A cap e2 e3)
  obtain ⟨i, hi, hz, hs, J6, hzs, h0⟩ := hE
  subst hl J6
  have hfin : ∀ v' w', (execOp a.eval ⟨some d, .call ⟨.builtin .append, #[x, y], #[T, Tn]⟩, ty, pos, af, none⟩).run P w = .ok (.value v') w' → w'.ownsRow 0 E 1 v' (m + q) (cs ++ List.replicate q z) → w.grownBy w' v.ownBlock →
      (v'.ownBlock = none ∨ v'.ownBlock = v.ownBlock ∨ v'.ownBlock = some w.heap.size) → ∃ u w'' H', (execOp a.eval ⟨some d, .call ⟨.builtin .append, #[x, y], #[T, Tn]⟩, ty, pos, af, none⟩).run P w = .ok (.value u) w'' ∧ Sat K w'' H' ∧
        ∃ A cap, u = .slice A (m + q) cap ∧ (A = none → m + q = 0 ∧ cap = 0) ∧ m + q ≤ cap ∧ H' = bC (.slice A (m + q) cap) E 1 (m + q) (cs ++ List.replicate q z) :: H := fun v' w' hrun hown hg hat => by
    obtain ⟨A, cap, rfl, k1, _, k2⟩ := bC.shape hown
    refine ⟨_, w', _, hrun, ⟨hw.1.grow hg.os hg.tape hg.output hg.size, ?_⟩, A, cap, rfl, k2, k1, rfl⟩
    refine hw.2.set (A' := bC (.slice A (m + q) cap) E 1 (m + q) (cs ++ List.replicate q z)) hg.size (fun b hb' hlt => hg.block b hlt (fun e => hb' e.symm)) hown (fun b hb' => ?_)
    have hb2 : (Value.slice A (m + q) cap).ownBlock = some b := hb'
    rcases hat with h' | h' | h'
    · rw [h'] at hb2; cases hb2
    · exact .inl (h'.symm.trans hb2)
    · rw [h'] at hb2
      injection hb2 with hb2
      subst hb2
      exact .inr ⟨Nat.le_refl _, (hown.lt _ h').2⟩
  have hown : w.ownsRow 0 E 1 v m cs := hw.head
  have Ey := hx.ev rfl ha
  have Ij := hy.ev rfl ha
  have xY : ∀ r w', (Builtin.append_ #[T, Tn] ty #[v, .int k q]).run P w = .ok r w' → (execOp a.eval ⟨some d, .call ⟨.builtin .append, #[x, y], #[T, Tn]⟩, ty, pos, af, none⟩).run P w = .ok (.value r) w' := fun r w' hr => by
    rw [execOp_builtin, builtin_append]
    simp [Ey, Ij, hr]
  have hcl : cs.length = m := by have := hown.1; omega
  have hmax : (1000000000 : Nat) ≤ maxLen := by simp only [maxLen]; decide
  have grown : ∀ (old : Nat), old < m + q → ∀ (row : Option Nat),
      (w.drew.alloc (.cells ((cs ++ List.replicate q z).toArray ++ Builtin.zeroCells z.cells (grownCap w (m + q) old E - (m + q))) E)).ownsRow 0 E 1 (.slice (some ⟨w.heap.size, 0, none⟩) (m + q) (grownCap w (m + q) old E)) (m + q) (cs ++ List.replicate q z) ∧
      w.grownBy (w.drew.alloc (.cells ((cs ++ List.replicate q z).toArray ++ Builtin.zeroCells z.cells (grownCap w (m + q) old E - (m + q))) E)) row := by
    intro old ho row
    have hge := grownCap_ge w (m + q) old E
    have hcm : grownCap w (m + q) old E ≤ maxLen := grownCap_le_maxLen w (m + q) old E (by omega)
    refine ⟨⟨by simp [hcl], .inr ⟨w.heap.size, _, _, rfl, Nat.zero_le _, heap_alloc_new w.drew _, hge, hcm, ?_, ?_⟩⟩, ⟨rfl, rfl, rfl, by simp, fun k hk _ => heap_alloc_old w.drew _ hk⟩⟩
    · simp only [Array.size_append, List.size_toArray, size_zeroCells, hzs, List.length_append, List.length_replicate, hcl, Nat.mul_one]
      omega
    · have hlen : (m + q) * 1 = (cs ++ List.replicate q z).length := by simp [hcl]
      rw [hlen]
      simp only [Array.toList_append]
      exact List.take_left
  rcases hown.2 with ⟨rfl, rfl⟩ | ⟨g, cap, cur, rfl, hbg, hg, hnc, hcm, hcs, htake⟩
  · have hx : cs = [] := List.eq_nil_of_length_eq_zero hcl
    subst hx
    by_cases hm : q = 0
    · subst hm
      refine hfin (.slice none 0 0) w (xY _ w ?_) (by simpa using World.ownsRow_nil w 0 E 1) ⟨rfl, rfl, rfl, Nat.le_refl _, fun _ _ _ => rfl⟩ (.inr (.inl rfl))
      simp [Builtin.append_, run_underlying hT, run_underlying Pn, sizeOf, typeInfo, hi, asInt, asIntOf, IntKind.wrap_i64, storeCells, hs]
    · have hr := l6 (P := P) w T Tn ty E i z k kn hT Pn hi hz hz1 hs none 0 0 q [] (by simp [Builtin.firstCells]) (by omega) (by omega) (by simpa using hb)
      have hgr := grown 0 (by omega) (Value.ownBlock (.slice none 0 0))
      simp only [Nat.zero_add] at hr hgr
      exact hfin _ _ (xY _ _ hr) (by simpa using hgr.1) hgr.2 (.inr (.inr rfl))
  · by_cases hroom : m + q ≤ cap
    · have hsz : cur.size = cap := by omega
      have hcell : ∀ j (hj : j < q), w.cell? ⟨g, m + j, none⟩ = some (cur[m + j]'(by omega)) := fun j hj => by simp [World.cell?, hg, show m + j < cur.size by omega]
      have hr := uY (P := P) w T Tn ty E i z k kn hT Pn hi hz hz1 h1 hs g m cap q hroom (fun j hj => by rw [hcell j hj]; rfl) (fun j hj => by simp [World.frozen?, hg]) (by omega) (by have := Nat.mul_le_mul_right i.bytes (show q ≤ m + q by omega); omega)
      obtain ⟨e1, e2, e3, e4⟩ := iB g (List.replicate q z) m w
      have hh := lW g E (0, 0) (List.replicate q z) m w cur.toList (by simpa using hg)
      have hss := kW cur.toList (List.replicate q z) m (by simp; omega)
      refine hfin _ _ (xY _ _ hr) ⟨by simp [hcl], .inr ⟨g, cap, (kP cur.toList m (List.replicate q z)).toArray, rfl, Nat.zero_le _, hh, hroom, hcm, ?_, ?_⟩⟩ ⟨e1, e2, e3, Nat.le_of_eq e4.symm, fun k hk hne => gN g k (fun e => hne (by simp [Value.ownBlock, e])) _ _ _⟩ (.inr (.inl rfl))
      · simp [wz]; omega
      · rw [List.toList_toArray] 
        rw [hss, Nat.mul_one, show cur.toList.take m = cs by rw [← htake, Nat.mul_one], List.take_left' (by simp [hcl])]
    · have hold : (Builtin.firstCells 1 m (.slice (some ⟨g, 0, none⟩) m cap)).run P w.drew = .ok cs.toArray w.drew := by
        have hc := hown.cells (g := g) rfl
        have := run_loadCells_list (P := P) w.drew ⟨g, 0, none⟩ cs (fun j v hj => hc j v hj)
        rw [hcl] at this
        simpa [Builtin.firstCells] using this
      have hr := l6 (P := P) w T Tn ty E i z k kn hT Pn hi hz hz1 hs (some ⟨g, 0, none⟩) m cap q cs hold (by omega) (by omega) hb
      have hgr := grown cap (by omega) (Value.ownBlock (.slice (some ⟨g, 0, none⟩) m cap))
      exact hfin _ _ (xY _ _ hr) hgr.1 hgr.2 (.inr (.inr rfl))
end
section
variable {Mo : Mode} {P : Program} {K : World} {n : Nat} {e : Env} {H : List au} {c : Bool} {dst : Option Tmp} {ty : TypeId} {pos : String} {af : Array Edge} {gd : Option (Nat × Bool)}
theorem V.P8 {x : Operand} {t : TypeId} {i : Int} (hx : OV c e x (.int .i64 i)) (h : c = true → -9223372036854775807 ≤ i ∧ i ≤ 9223372036854775807) : Val Mo P K n c e H ⟨dst, .unOp .neg t x, ty, pos, af, gd⟩ (.int .i64 (-i)) := fun hc a w ha _ => by
  show ((do pure (Next.value (← Op.unary .neg (a.eval x)))) : Sem Next).run P w = _
  rw [hx.ev hc ha]
  have h1 := h hc
  have h2 : IntKind.i64.wrap (-i) = -i := by rw [IntKind.wrap_i64]; omega
  simp [Op.unary, Op.intArith, h2]
end
end Go.Sl
namespace Go.Proofs.YtcedojacbhnbiaaGreat
open Go.Sl Go.RowKit
set_option linter.unusedVariables false
set_option linter.unusedSimpArgs false
set_option maxRecDepth 20000
def bS (t : Nat) : List Nat := (List.replicate (ay t + 1) 0).set (13 * t / 8) (2 ^ (13 * t % 8))
def fP (t : Nat) (d : List Nat) : List Nat := (fD (bS t) d).take (aC (fD (bS t) d) ((bS t).length + d.length + 1))
def pK (t : Nat) (d : List Nat) : List Nat := dS (fP t d) (dA t) (dA t).length (13 * t) (8 * (fP t d).length - 13 * t)
def gD (t : Nat) (d : List Nat) : Nat := aC (pK t d) ((fP t d).length + 1)
def fA (t : Nat) (d : List Nat) : List Nat := (pK t d).take (gD t d) ++ List.replicate (ay t - gD t d) 0
theorem iw (t : Nat) : (bS t).length = ay t + 1 := by simp [bS]
theorem BH (t : Nat) : Small 256 (bS t) := (Small.uQ (by decide)).set (xB (Nat.mod_lt _ (by decide)))
theorem jJ {t : Nat} {d : List Nat} (h : Small 256 d) : Small 256 (fP t d) := Small.take (kr h _)
theorem kC (t : Nat) (d : List Nat) : (pK t d).length = (fP t d).length + 1 := dG _ _ _ _ _
theorem vS {t : Nat} {d : List Nat} (ht : 1 ≤ t ∧ t ≤ 8) (h : Small 256 d) : Small 256 (pK t d) := fI (jJ h) (mJ ht).2.2.2.2 _
theorem yX {t : Nat} {d : List Nat} (ht : 1 ≤ t ∧ t ≤ 8) (h : Small 256 d) : gD t d ≤ ay t ∧ gD t d ≤ (fP t d).length + 1 := by
  obtain ⟨g1, g2, g3, g4, g5⟩ := mJ ht
  refine ⟨sK (vS ht h) (fun k hk => Bb (jJ h) g5 rfl g3 g4 hk) _, dV _ _⟩
theorem kY {t : Nat} {d : List Nat} (ht : 1 ≤ t ∧ t ≤ 8) (h : Small 256 d) : (fA t d).length = ay t := by
  have h1 := yX ht h
  unfold fA
  rw [List.length_append, List.length_take, List.length_replicate, kC]; omega
theorem ru {t : Nat} {d : List Nat} (ht : 1 ≤ t ∧ t ≤ 8) (h : Small 256 d) : Small 256 (fA t d) := (Small.take (vS ht h)).append (Small.uQ (by decide))
section
variable {K : World} {F : List au}
theorem Gi {t : Nat} {A : Option Addr} {m cap : Nat} {d : List Nat} (ht : 1 ≤ t ∧ t ≤ 8) (hd : Seq K F A m 1 (aB .u8 d)) (Gr : Small 256 d) (hdl : 1 ≤ m ∧ m ≤ 512) :
    Does Tryz.prog 242 #[.int .i64 (t : Int), .slice A m cap] K F
      (fun v H' => ∃ A' cap', v = .tuple #[.slice A' (ay t) cap', .int .i64 0] ∧ H' = bC (.slice A' (ay t) cap') 5 1 (ay t) (aB .u8 (fA t d)) :: F) := by
  have hl : d.length = m := by simpa [aB] using hd.len
  have Qo : 2 ≤ ay t ∧ ay t ≤ 13 ∧ 13 * t / 8 ≤ ay t := by unfold ay; omega
  obtain ⟨n, hn⟩ : ∃ n, n = ay t := ⟨_, rfl⟩
  obtain ⟨g1, g2, g3, g4, g5⟩ := mJ ht
  have hrl := yX ht Gr
  have hpl : (fP t d).length = aC (fD (bS t) d) ((bS t).length + d.length + 1) := by
    unfold fP fD
    have := dV (gY (bS t) d (8 * (bS t).length)) ((bS t).length + d.length + 1)
    rw [List.length_take, eX]; omega
  have RO : (fP t d).length ≤ n + 1 + m + 1 := by rw [hpl, iw, hl, ← hn]; exact dV _ _
  rw [← hn] at Qo hrl ⊢
  refine Does.enter Tryz.func242 rfl Tryz.ntmps242 rfl ?_
  simp only [aJ, Nat.reduceAdd]
  refine WC.sr (WL.sg rfl rfl (WL.sg rfl rfl (WL.nil (WC.sr (WL.mv rfl rfl (WL.mv rfl rfl ?_))))))
  refine WL.call (vs := [_, _]) Tryz.call278 ⟨OV.p rfl, OV.p rfl, trivial⟩ (aG.eq (v' := .tuple #[.int .i64 (n : Int), .int .i64 0]) (DF ht hdl) (by rw [hn])) rfl ?_
  rintro _ H0 ⟨rfl, h0⟩
  subst H0
  refine WL.mv rfl rfl (WL.xt rfl rfl rfl (WL.xt rfl rfl rfl (WL.sg rfl rfl (WL.sg rfl rfl (WL.nil (WC.seq (WC.sr (WL.mv rfl rfl (WL.val (V.neq (OV.p rfl) (OV.p rfl)) rfl (WL.nil ?_))))))))))
  refine WC.aM rfl (by first | rfl | (simp; done) | (simp; omega)) ?_
  refine WC.skip (WC.sr (WL.mv rfl rfl (WL.call (vs := [_]) Tryz.call279 ⟨OV.p rfl, trivial⟩ (wR ht) rfl ?_)))
  rintro _ _ ⟨gg, OZ, Sn, rfl, hgc, hgf, rfl⟩
  have hgs : ∀ {H : List au}, Seq K (Cells gg 5 (aB .u8 OZ) :: H) (some ⟨gg, 0, none⟩) (dA t).length 1 (aB .u8 (dA t)) := fun {H} => Seq.here (by rw [aH]; omega) (by rw [List.drop_zero]; exact lu (by rw [hgf]; exact List.take_prefix _ _))
  refine WL.mv rfl rfl (WL.xt rfl rfl rfl (WL.xt rfl rfl rfl (WL.sg rfl rfl (WL.sg rfl rfl (WL.nil (WC.sr (WL.mv rfl rfl (WL.ad rfl rfl rfl ?_))))))))
  refine WL.l7 (m := n + 1) Tryz.underlying34 vP (OV.p rfl) (OV.p rfl) (by omega) (by omega) (by omega) rfl rfl rfl (fun I8 => ?_)
  refine WL.sg rfl rfl (WL.nil (WC.sr (WL.mv rfl rfl (WL.mv rfl rfl ?_))))
  refine WL.val (V.jQ (OV.p rfl) (OV.p rfl) (fun hc => by first | omega | (simp at hc; omega))) rfl ?_
  refine WL.val (V.rR (OV.p rfl) (OV.p rfl) (fun hc => by first | omega | (simp at hc; omega))) rfl ?_
  refine WL.mv rfl rfl ?_
  refine WL.val (V.jQ (OV.p rfl) (OV.p rfl) (fun hc => by first | omega | (simp at hc; omega))) rfl ?_
  refine WL.val (V.aA (v' := .int .i64 ((13 * t % 8 : Nat) : Int)) (V.qH (OV.p rfl) (OV.p rfl) (fun _ => by omega)) (fun _ => by simp)) rfl ?_
  refine WL.val (V.aA (v' := .int .u8 ((2 ^ (13 * t % 8) : Nat) : Int)) (V.shl (OV.p rfl) (OV.p rfl) (by omega)) (fun _ => by rw [yS (by omega)])) rfl ?_
  refine WL.val (V.bP dB (OV.p rfl) (OV.p rfl) (fun hc => by omega)) rfl ?_
  refine WL.store (cs := [_]) Tryz.sizeOf5 (OV.p rfl) (OV.p rfl) rfl rfl rfl (aQ.at_ (by rw [List.length_replicate]; omega)) ?_
  have hsh : (List.replicate (n + 1) (Value.int .u8 0)).set (0 + (13 * (t : Int) / 8).toNat * 1) (.int .u8 ((2 ^ (13 * t % 8) : Nat) : Int)) = aB .u8 (bS t) := by
    unfold bS
    rw [← iZ, dh, ← hn, show 0 + (13 * (t : Int) / 8).toNat * 1 = 13 * t / 8 by omega]; rfl
  rw [hsh]
  refine WL.nil (WC.sr (WL.mv rfl rfl (WL.mv rfl rfl ?_)))
  refine WL.call (vs := [_, _]) Tryz.call281 ⟨OV.p rfl, OV.p rfl, trivial⟩ (AO (ps := bS t) (qs := d) (Seq.wL (by rw [iw, hn])) hd.up.up (BH t) Gr (by rw [iw, hl, ← hn]; omega)) rfl ?_
  rintro _ _ ⟨gp, rfl, rfl⟩
  have hps : ∀ {H : List au}, Seq K (Cells gp 5 (aB .u8 (fD (bS t) d)) :: H) (some ⟨gp, 0, none⟩) (aC (fD (bS t) d) ((bS t).length + d.length + 1)) 1 (aB .u8 (fP t d)) := fun {H} => Seq.here (by rw [aH, hpl]; omega) (by rw [List.drop_zero]; exact lu (List.take_prefix _ _))
  refine WL.mv rfl rfl ?_
  refine WL.call (vs := [_, _]) Tryz.call280 ⟨OV.p rfl, OV.p rfl, trivial⟩ (Ib (ps := fP t d) (qs := dA t) (d := 13 * t) hps (by repeat (first | exact hgs | apply Seq.up)) (jJ Gr) g5 hgc (by rw [g3]; omega) g1 (by rw [g2, List.take_of_length_le (by omega), ← g3]; exact g1) (by rw [g2])) rfl ?_
  rintro _ _ ⟨gr, rfl, rfl⟩
  have hrb : dS (fP t d) ((dA t).take (aC (dA t) (dA t).length)) (aC (dA t) (dA t).length) (13 * t) (8 * aC (fD (bS t) d) ((bS t).length + d.length + 1) - 13 * t) = pK t d := by
    unfold pK
    rw [g2, List.take_of_length_le (by omega), ← hpl, g3]
  rw [hrb]
  have hrl2 : aC (pK t d) (aC (fD (bS t) d) ((bS t).length + d.length + 1) + 1) = gD t d := by unfold gD; rw [hpl]
  rw [hrl2, ← hpl]
  refine WL.mv rfl rfl (WL.xt rfl rfl rfl (WL.xt rfl rfl rfl (WL.sg rfl rfl (WL.sg rfl rfl (WL.nil (WC.sr (WL.mv rfl rfl (WL.mv rfl rfl (WL.mv rfl rfl (WL.val (V.len (t := 34) Tryz.runUnderlying34 (OV.p rfl)) rfl (WL.sb rfl rfl rfl ?_)))))))))))
  refine WL.sub (Sub.refl _) (fun w h => Sat.Dc (m := gD t d) (cap := (fP t d).length + 1) (s := 1) h (by rw [aH, kC, Nat.mul_one]) hrl.2 (by simp only [maxLen]; omega)) ?_
  refine WL.Cv (m := gD t d) (q := n - gD t d) Tryz.underlying34 Tryz.underlying3 vP rfl rfl (OV.p rfl) (OV.p rfl) (by omega) (by omega) (by omega) rfl (fun A' c' hn' hc' => ?_)
  refine WL.sg rfl rfl (WL.sg rfl rfl (WL.nil (WC.ret ?_)))
  have he : (aB .u8 (pK t d)).take (gD t d * 1) ++ List.replicate (n - gD t d) (.int .u8 0) = aB .u8 (fA t d) := by
    unfold fA
    rw [dx, Nat.mul_one, fZ, ← hn, dh]; rfl
  have hnn : gD t d + (n - gD t d) = n := by omega
  refine aj.ret (H' := bC (.slice A' n c') 5 1 n (aB .u8 (fA t d)) :: F) (aL.dJ rfl (look_eq rfl (by rw [hnn])) rfl) (fun w h => ?_) ⟨A', c', rfl, rfl⟩
  have h' := h.sel 4 [0] rfl
  rw [he, hnn] at h'
  exact h'
end
end Go.Proofs.YtcedojacbhnbiaaGreat
