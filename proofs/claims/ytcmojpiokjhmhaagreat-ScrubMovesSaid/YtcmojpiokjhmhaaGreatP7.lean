import Derived.Test.YtcmojpiokjhmhaaGreatP6
namespace Go.Proofs.YtcmojpiokjhmhaaGreat
open Go.Sl Go.RowKit
set_option linter.unusedVariables false
set_option linter.unusedSimpArgs false
set_option maxRecDepth 20000
theorem Dt {a b : Nat} (ha : a < 256) (hb : b < 256) : bitsOf .xor .u8 (a : Int) (b : Int) = ((a ^^^ b : Nat) : Int) := by
  have h : a ^^^ b < 2 ^ 8 := Nat.xor_lt_two_pow ha hb
  unfold bitsOf
  dsimp only
  rw [fq, fq, BitVec.toNat_xor, BitVec.toNat_ofNat, BitVec.toNat_ofNat]
  have e1 : a % 2 ^ IntKind.u8.bits = a := Nat.mod_eq_of_lt (by show a < 2 ^ 8; omega)
  have e2 : b % 2 ^ IntKind.u8.bits = b := Nat.mod_eq_of_lt (by show b < 2 ^ 8; omega)
  rw [e1, e2]
  show IntKind.u8.wrap _ = _
  rw [vJ]
  omega
theorem tq {a : Nat} (ha : a < 256) : bitsOf .and .u8 (a : Int) 1 = ((a % 2 : Nat) : Int) := by
  unfold bitsOf
  dsimp only
  rw [show (1 : Int) = ((1 : Nat) : Int) from rfl, fq, fq, BitVec.toNat_and, BitVec.toNat_ofNat, BitVec.toNat_ofNat]
  have e1 : a % 2 ^ IntKind.u8.bits = a := Nat.mod_eq_of_lt (by show a < 2 ^ 8; omega)
  have e2 : 1 % 2 ^ IntKind.u8.bits = 1 := rfl
  rw [e1, e2, Nat.and_one_is_mod]
  show IntKind.u8.wrap _ = _
  rw [vJ]
  omega
theorem yQ {a j k : Nat} (hj : j ≤ k) : (a : Int).fdiv (2 ^ (min (j : Int).toNat k)) = ((a / 2 ^ j : Nat) : Int) := by
  have e : min (j : Int).toNat k = j := by omega
  rw [e, Int.fdiv_eq_ediv_of_nonneg _ (by have : (0 : Int) ≤ 2 ^ j := Int.pow_nonneg (by decide); exact this)]
  simp
theorem M8 {a j : Nat} (ha : a < 256) (hj : j < 8) : IntKind.u16.wrap ((a : Int) * 2 ^ (min (j : Int).toNat IntKind.u16.bits)) = ((a * 2 ^ j : Nat) : Int) := by
  have e1 : min (j : Int).toNat IntKind.u16.bits = j := by show min _ 16 = _; omega
  have h1 : 2 ^ j ≤ 2 ^ 7 := Nat.pow_le_pow_right (by decide) (by omega)
  have h2 : a * 2 ^ j ≤ 255 * 128 := Nat.mul_le_mul (by omega) h1
  have e2 : (a : Int) * 2 ^ j = ((a * 2 ^ j : Nat) : Int) := by simp
  rw [e1, e2]
  simp only [IntKind.wrap, IntKind.bits, IntKind.signed]
  simp
  omega
theorem lW {k : IntKind} {xs ys : List Nat} (h : xs <+: ys) : aA k xs <+: aA k ys := h.map _
def aS (p : List Nat) (i : Nat) : Bool := (p.getD (i / 8) 0).testBit (i % 8)
def jk (out p : List Nat) (at_ : Nat) : Nat → List Nat
  | 0 => out
  | j + 1 =>
    let o := jk out p at_ j
    let w := p.getD j 0 * 2 ^ (at_ % 8)
    let o1 := o.set (j + at_ / 8) (o.getD (j + at_ / 8) 0 ^^^ w % 256)
    if 255 < w then o1.set (j + at_ / 8 + 1) (o1.getD (j + at_ / 8 + 1) 0 ^^^ w / 256) else o1
theorem jA (out p : List Nat) (at_ : Nat) : ∀ j, (jk out p at_ j).length = out.length
  | 0 => rfl
  | j + 1 => by
    rw [jk]
    split <;> simp [jA out p at_ j]
theorem lX {out p : List Nat} {at_ : Nat} (h : Small 256 out) (hp : Small 256 p) : ∀ j, Small 256 (jk out p at_ j)
  | 0 => h
  | j + 1 => by
    have ih := lX (at_ := at_) h hp j
    have h1 := ih.set (i := j + at_ / 8) (dB (k := 8) (ih.at_ (by decide) (j + at_ / 8)) (Nat.mod_lt (p.getD j 0 * 2 ^ (at_ % 8)) (y := 256) (by decide)))
    rw [jk]
    split
    · refine h1.set (dB (k := 8) (h1.at_ (by decide) _) ?_)
      have h2 : 2 ^ (at_ % 8) ≤ 2 ^ 7 := Nat.pow_le_pow_right (by decide) (by omega)
      have h3 : p.getD j 0 * 2 ^ (at_ % 8) ≤ 255 * 128 := Nat.mul_le_mul (by have := hp.at_ (by decide) j; omega) h2
      omega
    · exact h1
def iJ (p q : List Nat) : Nat → List Nat
  | 0 => List.replicate (p.length + q.length + 1) 0
  | i + 1 => if aS p i then jk (iJ p q i) q i q.length else iJ p q i
def fM (p q : List Nat) : List Nat := iJ p q (8 * p.length)
theorem fG (p q : List Nat) : ∀ i, (iJ p q i).length = p.length + q.length + 1
  | 0 => List.length_replicate
  | i + 1 => by rw [iJ]; split; rw [jA, fG]; exact fG p q i
theorem kM {p q : List Nat} (hq : Small 256 q) : ∀ i, Small 256 (iJ p q i)
  | 0 => Small.vZ (by decide)
  | i + 1 => by rw [iJ]; split; exact lX (kM hq i) hq _; exact kM hq i
section
variable {K : World} {F : List ak}
theorem Co {A : Option Addr} {m cap i : Nat} {xs : List Nat} (hs : Seq K F A m 1 (aA .u8 xs)) (hx : Small 256 xs) (hi : i < 8 * m) (hm : m ≤ 1000000) : aL Tryz.prog 164 #[.slice A m cap, .int .i64 (i : Int)] K F (.bool (aS xs i)) := by
  have qh : Rd K F (A.map (·.add (((i : Int) / 8).toNat * 1))) (.int .u8 (xs.getD (i / 8) 0 : Nat)) := by
    rw [show ((i : Int) / 8).toNat = i / 8 by omega]; exact hs.gU (by omega)
  have hb := hx.at_ (by decide) (i / 8)
  refine Does.enter Tryz.func164 rfl Tryz.ntmps164 rfl ?_
  simp only [aI, Nat.reduceAdd]
  refine WC.sr (WL.sg rfl rfl (WL.nil (WC.sr (WL.mv rfl rfl (WL.mv rfl rfl ?_)))))
  refine WL.val (V.sV (OV.p rfl) (OV.p rfl) (fun hc => by first | omega | (simp at hc; omega))) rfl ?_
  refine WL.val (V.dS fE (OV.p rfl) (OV.p rfl) (fun hc => by omega) (fun hc => qh)) rfl ?_
  refine WL.val (V.load Tryz.isAgg5 (OV.p rfl) (fun hc => qh)) rfl ?_
  refine WL.mv rfl rfl ?_
  refine WL.val (V.aC (v' := .int .i64 ((i % 8 : Nat) : Int)) (V.o8 (OV.p rfl) (OV.p rfl) (fun _ => by omega)) (fun _ => by simp)) rfl ?_
  refine WL.val (V.aC (v' := .int .u8 ((xs.getD (i / 8) 0 / 2 ^ (i % 8) : Nat) : Int)) (V.shr (OV.p rfl) (OV.p rfl) (by omega)) (fun _ => by rw [yQ (by show i % 8 ≤ 8; omega)])) rfl ?_
  refine WL.val (V.aC (v' := .int .u8 ((xs.getD (i / 8) 0 / 2 ^ (i % 8) % 2 : Nat) : Int)) (V.and (OV.p rfl) (OV.p rfl)) (fun _ => by rw [tq (Nat.lt_of_le_of_lt (Nat.div_le_self _ _) hb)])) rfl ?_
  refine WL.val (V.eql (OV.p rfl) (OV.p rfl)) rfl (WL.sg rfl rfl (WL.nil (WC.ret ?_)))
  refine au.ret (H' := F) (aO.tmp rfl rfl) (fun w h => h) ⟨?_, rfl⟩
  congr 1
  unfold aS
  rw [Nat.testBit_eq_decide_div_mod_eq]
  apply decide_eq_decide.2
  omega
theorem BQ {g N cap : Nat} {out : List Nat} {B : Option Addr} {m cap' : Nat} {p : List Nat} {at_ : Nat} (hN : out.length = N) (ho : Small 256 out) (hs : Seq K F B m 1 (aA .u8 p)) (hp : Small 256 p) (hat : m + at_ / 8 < N) (hcap : N ≤ 1000000) :
    Does Tryz.prog 165 #[.slice (some ⟨g, 0, none⟩) N cap, .slice B m cap', .int .i64 (at_ : Int)] K (Cells g 5 (aA .u8 out) :: F)
      (fun v H' => H' = Cells g 5 (aA .u8 (jk out p at_ m)) :: F) := by
  have hl : p.length = m := by simpa [aA] using hs.len
  have Uh : at_ < 8000008 := by omega
  refine Does.enter Tryz.func165 rfl Tryz.ntmps165 rfl ?_
  simp only [aI, Nat.reduceAdd]
  refine WC.sr (WL.mv rfl rfl (WL.val (V.len (t := 43) Tryz.runUnderlying43 (OV.p rfl)) rfl (WL.mv rfl rfl (WL.nil (WC.block ?_)))))
  refine WC.loop (σ := Nat) (fun j => [(0, .slice (some ⟨g, 0, none⟩) N cap), (2, .int .i64 (at_ : Int)), (9, .slice B m cap'), (10, .int .i64 (m : Int)), (11, .int .i64 (j : Int))]) (fun j => Cells g 5 (aA .u8 (jk out p at_ j)) :: F) (fun j => j ≤ m) (fun j => m - j) 0 (Nat.zero_le _) (.cons rfl (.cons rfl (.cons rfl (.cons rfl (.cons rfl (.nil _)))))) (fun w h => h) ?_
  rintro j hj
  refine WC.sr (WL.val (V.lss (OV.p rfl) (OV.p rfl)) rfl (WL.nil (WC.seq ?_)))
  refine WC.cond rfl (fun hc0 => ?_) (fun hc0 => ?_)
  ·simp only [decide_eq_true_eq, decide_eq_false_iff_not] at hc0
   refine WC.skip (WC.seq (WC.block (WC.seq ?_)))
   have hjm : j < m := by omega
   obtain ⟨o, ho1⟩ : ∃ o, o = jk out p at_ j := ⟨_, rfl⟩
   have hol : o.length = N := by rw [ho1, jA]; exact hN
   have hos : Small 256 o := by rw [ho1]; exact lX ho hp j
   rw [← ho1]
   obtain ⟨x, hx⟩ : ∃ x, x = p.getD j 0 := ⟨_, rfl⟩
   have QI : x < 256 := by rw [hx]; exact hp.at_ (by decide) j
   have qh : Rd K (Cells g 5 (aA .u8 o) :: F) (B.map (·.add ((j : Int).toNat * 1))) (.int .u8 (x : Nat)) := by
     rw [show (j : Int).toNat = j by omega, hx]; exact (hs.gU (by omega)).up
   obtain ⟨wv, hwv⟩ : ∃ wv, wv = x * 2 ^ (at_ % 8) := ⟨_, rfl⟩
   have hw16 : wv < 32768 := by
     have h2 : 2 ^ (at_ % 8) ≤ 2 ^ 7 := Nat.pow_le_pow_right (by decide) (by omega)
     have h3 : x * 2 ^ (at_ % 8) ≤ 255 * 128 := Nat.mul_le_mul (by omega) h2
     omega
   obtain ⟨o1, ho2⟩ : ∃ o1, o1 = o.set (j + at_ / 8) (o.getD (j + at_ / 8) 0 ^^^ wv % 256) := ⟨_, rfl⟩
   have Ul : o1.length = N := by rw [ho2, List.length_set]; exact hol
   have RN : Small 256 o1 := by rw [ho2]; exact hos.set (dB (k := 8) (hos.at_ (by decide) _) (Nat.mod_lt _ (by decide)))
   have hstep : jk out p at_ (j + 1) = if 255 < wv then o1.set (j + at_ / 8 + 1) (o1.getD (j + at_ / 8 + 1) 0 ^^^ wv / 256) else o1 := by rw [jk, ← ho1, ← hx, ← hwv, ← ho2]
   have hg1 : (aA .u8 o)[0 + (((j : Int) + (at_ : Int) / 8)).toNat * 1]? = some (.int .u8 (o.getD (j + at_ / 8) 0 : Nat)) := by rw [show 0 + (((j : Int) + (at_ : Int) / 8)).toNat * 1 = j + at_ / 8 by omega]; exact nJ _ _ (by omega)
   have hg2 : (aA .u8 o1)[0 + (((j : Int) + (at_ : Int) / 8 + 1)).toNat * 1]? = some (.int .u8 (o1.getD (j + at_ / 8 + 1) 0 : Nat)) := by rw [show 0 + (((j : Int) + (at_ : Int) / 8 + 1)).toNat * 1 = j + at_ / 8 + 1 by omega]; exact nJ _ _ (by omega)
   refine WC.region (WL.mv rfl rfl ?_)
   refine WL.val (V.dS fE (OV.p rfl) (OV.p rfl) (fun hc => by omega) (fun hc => qh)) rfl ?_
   refine WL.val (V.load Tryz.isAgg5 (OV.p rfl) (fun hc => qh)) rfl ?_
   refine WL.sg rfl rfl (WL.sg rfl rfl (WL.nil (WC.sr (WL.mv rfl rfl ?_))))
   refine WL.val (V.u6 Tryz.runUnderlying5 Tryz.runUnderlying210 (OV.p rfl) (fun _ => by simp only [IntKind.wrap, IntKind.bits, IntKind.signed]; simp; omega)) rfl ?_
   refine WL.mv rfl rfl ?_
   refine WL.val (V.aC (v' := .int .i64 ((at_ % 8 : Nat) : Int)) (V.o8 (OV.p rfl) (OV.p rfl) (fun _ => by omega)) (fun _ => by simp)) rfl ?_
   refine WL.val (V.aC (v' := .int .u16 (wv : Int)) (V.shl (OV.p rfl) (OV.p rfl) (by omega)) (fun _ => by rw [M8 QI (by omega), hwv])) rfl ?_
   refine WL.sg rfl rfl (WL.nil (WC.sr (WL.mv rfl rfl (WL.mv rfl rfl (WL.mv rfl rfl ?_)))))
   refine WL.val (V.sV (OV.p rfl) (OV.p rfl) (fun hc => by first | omega | (simp at hc; omega))) rfl ?_
   refine WL.ad rfl rfl rfl ?_
   refine WL.val (V.bR fE (OV.p rfl) (OV.p rfl) (fun hc => by omega)) rfl ?_
   refine WL.val (V.load Tryz.isAgg5 (OV.p rfl) (fun hc => Rd.here hg1)) rfl ?_
   refine WL.mv rfl rfl ?_
   refine WL.val (V.aC (v' := .int .u8 ((wv % 256 : Nat) : Int)) (V.kF Tryz.runUnderlying210 Tryz.runUnderlying5 (OV.p rfl)) (fun _ => by rw [vJ])) rfl ?_
   refine WL.val (V.aC (v' := .int .u8 ((o.getD (j + at_ / 8) 0 ^^^ wv % 256 : Nat) : Int)) (V.xor (OV.p rfl) (OV.p rfl)) (fun _ => by rw [Dt (hos.at_ (by decide) _) (Nat.mod_lt _ (by decide))])) rfl ?_
   refine WL.val (V.bR fE (OV.p rfl) (OV.p rfl) (fun hc => by omega)) rfl ?_
   refine WL.store (cs := [_]) Tryz.sizeOf5 (OV.p rfl) (OV.p rfl) rfl rfl rfl (bA.at_ (by rw [aH]; omega)) ?_
   rw [show 0 + (((j : Int) + (at_ : Int) / 8)).toNat * 1 = j + at_ / 8 by omega, jB, ← ho2]
   refine WL.nil (WC.sr (WL.mv rfl rfl (WL.val (V.gtr (OV.p rfl) (OV.p rfl)) rfl (WL.nil ?_))))
   refine WC.cond rfl (fun hc1 => ?_) (fun hc1 => ?_)
   ·simp only [decide_eq_true_eq, decide_eq_false_iff_not] at hc1
    rw [if_pos (by omega)] at hstep
    refine WC.region (WL.mv rfl rfl (WL.mv rfl rfl (WL.mv rfl rfl ?_)))
    refine WL.val (V.sV (OV.p rfl) (OV.p rfl) (fun hc => by first | omega | (simp at hc; omega))) rfl ?_
    refine WL.ad rfl rfl rfl ?_
    refine WL.ad rfl rfl rfl ?_
    refine WL.val (V.bR fE (OV.p rfl) (OV.p rfl) (fun hc => by omega)) rfl ?_
    refine WL.val (V.load Tryz.isAgg5 (OV.p rfl) (fun hc => Rd.here hg2)) rfl ?_
    refine WL.mv rfl rfl ?_
    refine WL.val (V.aC (v' := .int .u16 ((wv / 256 : Nat) : Int)) (V.shr (OV.p rfl) (OV.p rfl) (by decide)) (fun _ => by rw [show (8 : Int) = ((8 : Nat) : Int) from rfl, yQ (by show 8 ≤ 16; decide)])) rfl ?_
    refine WL.val (V.aC (v' := .int .u8 ((wv / 256 : Nat) : Int)) (V.kF Tryz.runUnderlying210 Tryz.runUnderlying5 (OV.p rfl)) (fun _ => by rw [vJ]; congr 2; omega)) rfl ?_
    refine WL.val (V.aC (v' := .int .u8 ((o1.getD (j + at_ / 8 + 1) 0 ^^^ wv / 256 : Nat) : Int)) (V.xor (OV.p rfl) (OV.p rfl)) (fun _ => by rw [Dt (RN.at_ (by decide) _) (by omega)])) rfl ?_
    refine WL.val (V.bR fE (OV.p rfl) (OV.p rfl) (fun hc => by omega)) rfl ?_
    refine WL.store (cs := [_]) Tryz.sizeOf5 (OV.p rfl) (OV.p rfl) rfl rfl rfl (bA.at_ (by rw [aH]; omega)) ?_
    rw [show 0 + (((j : Int) + (at_ : Int) / 8 + 1)).toNat * 1 = j + at_ / 8 + 1 by omega, jB]
    refine WL.nil (WC.region (WL.ad rfl rfl rfl ?_))
    refine WL.mv rfl rfl (WL.nil ?_)
    refine ⟨rfl, ?_⟩
    exact ⟨j + 1, (by show j + 1 ≤ m; omega), (by show m - (j + 1) < m - j; omega), .cons rfl (.cons rfl (.cons rfl (.cons rfl (.cons (look_eq rfl (by simp)) (.nil _))))), fun w h => Sat.aV h (by rw [hstep])⟩
   ·simp only [decide_eq_true_eq, decide_eq_false_iff_not] at hc1
    rw [if_neg (by omega)] at hstep
    refine WC.skip (WC.region (WL.ad rfl rfl rfl ?_))
    refine WL.mv rfl rfl (WL.nil ?_)
    refine ⟨rfl, ?_⟩
    exact ⟨j + 1, (by show j + 1 ≤ m; omega), (by show m - (j + 1) < m - j; omega), .cons rfl (.cons rfl (.cons rfl (.cons rfl (.cons (look_eq rfl (by simp)) (.nil _))))), fun w h => Sat.aV h (by rw [hstep])⟩
  ·simp only [decide_eq_true_eq, decide_eq_false_iff_not] at hc0
   refine WC.exit ?_
   obtain rfl : j = m := by omega
   exact au.normal (H' := Cells g _ _ :: F) (aO.none rfl) (fun w h => h) rfl
theorem Cu {q cap' m vL : Nat} {A B : Option Addr} {ps qs : List Nat} (hs : Seq K F A m 1 (aA .u8 ps)) (hq : Seq K F B q 1 (aA .u8 qs)) (Kq : Small 256 ps) (hq8 : Small 256 qs) (hcap : ps.length + qs.length ≤ 100000) :
    Does Tryz.prog 149 #[.slice A m vL, .slice B q cap'] K F
      (fun v H' => ∃ g, v = .slice (some ⟨g, 0, none⟩) (aF (fM ps qs) (ps.length + qs.length + 1)) (ps.length + qs.length + 1) ∧ H' = Cells g 5 (aA .u8 (fM ps qs)) :: F) := by
  have hl : ps.length = m := by simpa [aA] using hs.len
  have Bq : qs.length = q := by simpa [aA] using hq.len
  refine Does.enter Tryz.func149 rfl Tryz.ntmps149 rfl ?_
  simp only [aI, Nat.reduceAdd]
  refine WC.sr (WL.sg rfl rfl (WL.nil (WC.sr (WL.mv rfl rfl (WL.val (V.len (t := 43) Tryz.runUnderlying43 (OV.p rfl)) rfl (WL.mv rfl rfl (WL.val (V.len (t := 43) Tryz.runUnderlying43 (OV.p rfl)) rfl (WL.ad rfl rfl rfl ?_))))))))
  refine WL.ad rfl rfl rfl ?_
  refine WL.oW (m := m + q + 1) Tryz.underlying43 yD (OV.p rfl) (OV.p rfl) (by omega) (by omega) (by omega) rfl rfl rfl (fun b13 => ?_)
  refine WL.sg rfl rfl (WL.nil (WC.seq (WC.sr (WL.mv rfl rfl (WL.val (V.len (t := 43) Tryz.runUnderlying43 (OV.p rfl)) rfl ?_)))))
  refine WL.val (V.jF (OV.p rfl) (OV.p rfl) (fun hc => by first | omega | (simp at hc; omega))) rfl ?_
  refine WL.mv rfl rfl (WL.nil (WC.block ?_))
  refine WC.loop (σ := Nat) (fun j => [(0, .slice A m vL), (1, .slice B q cap'), (5, .slice (some ⟨b13, 0, none⟩) (m + q + 1) (m + q + 1)), (16, .int .i64 (8 * (m : Int))), (17, .int .i64 (j : Int))]) (fun j => Cells b13 5 (aA .u8 (iJ ps qs j)) :: F) (fun j => j ≤ 8 * m) (fun j => 8 * m - j) 0 (Nat.zero_le _) (.cons rfl (.cons rfl (.cons rfl (.cons rfl (.cons rfl (.nil _)))))) (fun w h => Sat.aV h (by rw [iJ, hl, Bq, dF]; rfl)) ?_
  rintro j hj
  refine WC.sr (WL.val (V.lss (OV.p rfl) (OV.p rfl)) rfl (WL.nil (WC.seq ?_)))
  refine WC.cond rfl (fun hc0 => ?_) (fun hc0 => ?_)
  ·simp only [decide_eq_true_eq, decide_eq_false_iff_not] at hc0
   refine WC.skip (WC.seq (WC.block (WC.sr (WL.mv rfl rfl (WL.sg rfl rfl (WL.nil (WC.sr (WL.mv rfl rfl (WL.mv rfl rfl ?_)))))))))
   refine WL.call (vs := [_, _]) Tryz.call164 ⟨OV.p rfl, OV.p rfl, trivial⟩ (Co (by repeat (first | exact hs | apply Seq.up)) Kq (by omega) (by omega)) rfl ?_
   rintro _ H0 ⟨rfl, h0⟩
   subst H0
   refine WL.nil ?_
   refine WC.cond rfl (fun hc1 => ?_) (fun hc1 => ?_)
   ·skip
    have h1 := hc1
    refine WC.region (WL.mv rfl rfl (WL.mv rfl rfl (WL.mv rfl rfl ?_)))
    refine WL.call (vs := [_, _, _]) Tryz.call165 ⟨OV.p rfl, OV.p rfl, OV.p rfl, trivial⟩ (BQ (N := m + q + 1) (by rw [fG, hl, Bq]) (kM hq8 j) hq hq8 (by omega) (by omega)) rfl ?_
    rintro v1 _ rfl
    refine WL.nil (WC.region (WL.ad rfl rfl rfl ?_))
    refine WL.mv rfl rfl (WL.nil ?_)
    refine ⟨rfl, ?_⟩
    refine ⟨j + 1, (by show j + 1 ≤ 8 * m; omega), (by show 8 * m - (j + 1) < 8 * m - j; omega), .cons rfl (.cons rfl (.cons rfl (.cons rfl (.cons (look_eq rfl (by simp)) (.nil _))))), fun w h => Sat.aV h ?_⟩
    rw [iJ, h1]
    simp [Bq]
   ·skip
    have h1 := hc1
    refine WC.skip (WC.region (WL.ad rfl rfl rfl ?_))
    refine WL.mv rfl rfl (WL.nil ?_)
    refine ⟨rfl, ?_⟩
    refine ⟨j + 1, (by show j + 1 ≤ 8 * m; omega), (by show 8 * m - (j + 1) < 8 * m - j; omega), .cons rfl (.cons rfl (.cons rfl (.cons rfl (.cons (look_eq rfl (by simp)) (.nil _))))), fun w h => Sat.aV h ?_⟩
    rw [iJ, h1]
    simp [Bq]
  ·simp only [decide_eq_true_eq, decide_eq_false_iff_not] at hc0
   refine WC.exit (WC.seq ?_)
   obtain rfl : j = 8 * m := by omega
   have Ri : iJ ps qs (8 * m) = fM ps qs := by unfold fM; rw [hl]
   rw [Ri]
   have hbl : (fM ps qs).length = m + q + 1 := by unfold fM; rw [fG, hl, Bq]
   refine WC.region (WL.mv rfl rfl ?_)
   refine WL.call (vs := [_]) Tryz.call162 ⟨OV.p rfl, trivial⟩ (lC (xs := fM ps qs) (Seq.yG hbl) (Nat.le_refl _) (by omega)) rfl ?_
   rintro _ H0 ⟨rfl, h0⟩
   subst H0
   refine WL.sg rfl rfl (WL.nil (WC.ret ?_))
   exact au.ret (H' := Cells b13 _ _ :: F) (aO.tmp rfl rfl) (fun w h => h) ⟨b13, by rw [hl, Bq], rfl⟩
end
def len8 (x : Nat) : Nat := if x = 0 then 0 else Nat.log2 x + 1
theorem ND {s : ByteArray} (h : ((List.range 256).all fun x => decide (s[x]? = some (UInt8.ofNat (len8 x)))) = true) {x : Nat} (hx : x < 256) : s[x]? = some (UInt8.ofNat (len8 x)) := by
  have := List.all_eq_true.1 h x (List.mem_range.2 hx)
  exact of_decide_eq_true this
theorem Iz {x : Nat} (h : x < 256) : len8 x ≤ 8 := by
  unfold len8
  split
  · omega
  · rename_i h0
    have := (Nat.log2_lt h0 (k := 8)).2 h
    omega
def Ht (xs : List Nat) (m : Nat) : Int := if aF xs m = 0 then -1 else 8 * (aF xs m : Int) - 8 + (len8 (xs.getD (aF xs m - 1) 0) : Nat) - 1
def eB (p q : List Nat) (lq d : Nat) : Nat → List Nat
  | 0 => p ++ [0]
  | k + 1 => if aS (eB p q lq d k) (8 * p.length - 1 - k) then jk (eB p q lq d k) q (8 * p.length - 1 - k - d) lq else eB p q lq d k
theorem dO (p q : List Nat) (lq d : Nat) : ∀ k, (eB p q lq d k).length = p.length + 1
  | 0 => by simp [eB]
  | k + 1 => by rw [eB]; split; rw [jA, dO]; exact dO p q lq d k
theorem gu {p q : List Nat} {lq d : Nat} (hp : Small 256 p) (hq : Small 256 q) : ∀ k, Small 256 (eB p q lq d k)
  | 0 => hp.append (fun x hx => by simp at hx; omega)
  | k + 1 => by rw [eB]; split; exact lX (gu hp hq k) hq _; exact gu hp hq k
section
variable {K : World} {F : List ak}
theorem bits_Len8 {x : Nat} (hx : x < 256) : aL Tryz.prog 174 #[.int .u8 (x : Int)] K F (.int .i64 (len8 x : Nat)) := by
  have hl := Iz hx
  have h8 : (UInt8.ofNat (len8 x)).toNat = len8 x := by rw [UInt8.toNat_ofNat']; omega
  refine Does.enter Tryz.func174 rfl Tryz.ntmps174 rfl ?_
  simp only [aI, Nat.reduceAdd]
  refine WC.sr (WL.sg rfl rfl (WL.nil (WC.sr (WL.mv rfl rfl ?_))))
  refine WL.val (V.Lp (b := UInt8.ofNat (len8 x)) Tryz.underlying9 (OV.p rfl) (OV.p rfl) (fun _ => ⟨by omega, by rw [show ((x : Nat) : Int).toNat = x by omega]; exact ND (by kernel_rfl) hx⟩)) rfl ?_
  refine WL.val (V.u6 Tryz.runUnderlying5 Tryz.runUnderlying3 (OV.p rfl) (fun _ => wrap_i64 (by omega))) rfl ?_
  refine WL.sg rfl rfl (WL.nil (WC.ret ?_))
  exact au.ret (H' := F) (aO.tmp rfl rfl) (fun w h => h) ⟨by rw [h8], rfl⟩
theorem D5 {A : Option Addr} {m cap : Nat} {xs : List Nat} (hs : Seq K F A m 1 (aA .u8 xs)) (hx : Small 256 xs) (hcap : m ≤ cap) (hm : m ≤ 100000) : aL Tryz.prog 163 #[.slice A m cap] K F (.int .i64 (Ht xs m)) := by
  have hn := eX xs m
  refine Does.enter Tryz.func163 rfl Tryz.ntmps163 rfl ?_
  simp only [aI, Nat.reduceAdd]
  refine WC.sr (WL.sg rfl rfl (WL.nil (WC.sr (WL.mv rfl rfl ?_))))
  refine WL.call (vs := [_]) Tryz.call162 ⟨OV.p rfl, trivial⟩ (lC hs hcap (by omega)) rfl ?_
  rintro _ H0 ⟨rfl, h0⟩
  subst H0
  refine WL.sg rfl rfl (WL.nil (WC.seq (WC.sr (WL.mv rfl rfl (WL.val (V.len (t := 43) Tryz.runUnderlying43 (OV.p rfl)) rfl (WL.val (V.eql (OV.p rfl) (OV.p rfl)) rfl (WL.nil ?_)))))))
  refine WC.cond rfl (fun hc0 => ?_) (fun hc0 => ?_)
  ·simp only [decide_eq_true_eq, decide_eq_false_iff_not] at hc0
   refine WC.sr (WL.sg rfl rfl (WL.nil (WC.ret ?_)))
   refine au.ret (H' := F) (aO.tmp rfl rfl) (fun w h => h) ⟨?_, rfl⟩
   unfold Ht; rw [if_pos (by omega)]
  ·simp only [decide_eq_true_eq, decide_eq_false_iff_not] at hc0
   refine WC.skip (WC.seq ?_)
   have hrd : Rd K F (A.map (·.add (((aF xs m : Int) - 1).toNat * 1))) (.int .u8 (xs.getD (aF xs m - 1) 0 : Nat)) := by
     rw [show ((aF xs m : Int) - 1).toNat = aF xs m - 1 by omega]; exact hs.gU (by omega)
   have hb := hx.at_ (by decide) (aF xs m - 1)
   have Vm := Iz hb
   refine WC.region (WL.mv rfl rfl (WL.val (V.len (t := 43) Tryz.runUnderlying43 (OV.p rfl)) rfl ?_))
   refine WL.val (V.jF (OV.p rfl) (OV.p rfl) (fun hc => by first | omega | (simp at hc; omega))) rfl ?_
   refine WL.sb rfl rfl rfl ?_
   refine WL.mv rfl rfl (WL.mv rfl rfl (WL.val (V.len (t := 43) Tryz.runUnderlying43 (OV.p rfl)) rfl (WL.sb rfl rfl rfl ?_)))
   refine WL.val (V.dS fE (OV.p rfl) (OV.p rfl) (fun hc => by omega) (fun hc => hrd)) rfl ?_
   refine WL.val (V.load Tryz.isAgg5 (OV.p rfl) (fun hc => hrd)) rfl ?_
   refine WL.call (vs := [_]) Tryz.call174 ⟨OV.p rfl, trivial⟩ (bits_Len8 hb) rfl ?_
   rintro _ H0 ⟨rfl, h0⟩
   subst H0
   refine WL.ad rfl rfl rfl ?_
   refine WL.sb rfl rfl rfl ?_
   refine WL.sg rfl rfl (WL.nil (WC.ret ?_))
   refine au.ret (H' := F) (aO.tmp rfl rfl) (fun w h => h) ⟨?_, rfl⟩
   unfold Ht; rw [if_neg (by omega)]
theorem JX {q cap' m vL : Nat} {A B : Option Addr} {ps qs : List Nat} {d : Nat} (hs : Seq K F A m 1 (aA .u8 ps)) (hq : Seq K F B q 1 (aA .u8 qs)) (Kq : Small 256 ps) (hq8 : Small 256 qs) (hqc : q ≤ cap') (hcap : ps.length + qs.length ≤ 100000)
    (hd : Ht qs q = (d : Int)) (hdd : Ht (qs.take (aF qs q)) (aF qs q) = (d : Int)) (hld : aF qs q = d / 8 + 1) :
    Does Tryz.prog 148 #[.slice A m vL, .slice B q cap'] K F
      (fun v H' => ∃ g, v = .tuple #[.slice (some ⟨g, 0, none⟩) (aF (eB ps (qs.take (aF qs q)) (aF qs q) d (8 * m - d)) (m + 1)) (m + 1), .int .i64 0] ∧ H' = Cells g 5 (aA .u8 (eB ps (qs.take (aF qs q)) (aF qs q) d (8 * m - d))) :: F) := by
  have hl : ps.length = m := by simpa [aA] using hs.len
  have Bq : qs.length = q := by simpa [aA] using hq.len
  have hnl := eX qs q
  obtain ⟨lq, hlq⟩ : ∃ lq, lq = aF qs q := ⟨_, rfl⟩
  obtain ⟨Q0, Rm⟩ : ∃ Q0, Q0 = qs.take (aF qs q) := ⟨_, rfl⟩
  have Vh : Q0.length = lq := by rw [Rm, List.length_take, hlq]; omega
  have Rk : Small 256 Q0 := by rw [Rm]; exact hq8.take
  have SV : Seq K F B lq 1 (aA .u8 Q0) := by rw [Rm, hlq, ← gG]; exact Seq.take hq hnl
  rw [← Rm, ← hlq] at hdd ⊢
  rw [← hlq] at hld hnl
  obtain ⟨kk, hkk⟩ : ∃ kk, kk = 8 * m - d := ⟨_, rfl⟩
  rw [← hkk]
  refine Does.enter Tryz.func148 rfl Tryz.ntmps148 rfl ?_
  simp only [aI, Nat.reduceAdd]
  refine WC.sr (WL.sg rfl rfl (WL.sg rfl rfl (WL.nil (WC.sr (WL.mv rfl rfl ?_)))))
  refine WL.call (vs := [_]) Tryz.call162 ⟨OV.p rfl, trivial⟩ (aL.eq (v' := .slice B lq cap') (lC hq hqc (by omega)) (by rw [hlq])) rfl ?_
  rintro _ H0 ⟨rfl, h0⟩
  subst H0
  refine WL.sg rfl rfl (WL.nil (WC.sr (WL.mv rfl rfl ?_)))
  refine WL.call (vs := [_]) Tryz.call163 ⟨OV.p rfl, trivial⟩ (aL.eq (v' := .int .i64 (d : Int)) (D5 SV Rk (by omega) (by omega)) (by rw [hdd])) rfl ?_
  rintro _ H0 ⟨rfl, h0⟩
  subst H0
  refine WL.sg rfl rfl (WL.nil (WC.seq (WC.sr (WL.mv rfl rfl (WL.val (V.lss (OV.p rfl) (OV.p rfl)) rfl (WL.nil ?_))))))
  refine WC.aQ rfl ((by simp)) ?_
  refine WC.skip (WC.sr (WL.mv rfl rfl (WL.val (V.len (t := 43) Tryz.runUnderlying43 (OV.p rfl)) rfl (WL.ad rfl rfl rfl ?_))))
  refine WL.oW (m := m + 1) Tryz.underlying43 yD (OV.p rfl) (OV.p rfl) (by omega) (by omega) (by omega) rfl rfl rfl (fun b18 => ?_)
  refine WL.sg rfl rfl (WL.nil (WC.sr (WL.mv rfl rfl (WL.mv rfl rfl ?_))))
  refine WL.yV fE (OV.p rfl) (OV.p rfl) (by repeat (first | exact hs | apply Seq.up)) (by omega) (qz _ _) (bA.front (by simp [aA]; omega)) rfl ?_
  refine WL.nil (WC.seq (WC.sr (WL.mv rfl rfl (WL.val (V.len (t := 43) Tryz.runUnderlying43 (OV.p rfl)) rfl ?_))))
  refine WL.val (V.jF (OV.p rfl) (OV.p rfl) (fun hc => by first | omega | (simp at hc; omega))) rfl ?_
  refine WL.sb rfl rfl rfl ?_
  refine WL.sg rfl rfl (WL.nil (WC.block ?_))
  refine WC.loop (σ := Nat) (fun k => [(1, .slice B lq cap'), (6, .int .i64 (d : Int)), (7, .slice (some ⟨b18, 0, none⟩) (m + 1) (m + 1)), (8, .int .i64 (8 * (m : Int) - 1 - (k : Int)))]) (fun k => Cells b18 5 (aA .u8 (eB ps Q0 lq d k)) :: F) (fun k => k ≤ kk) (fun k => kk - k) 0 (Nat.zero_le _) (.cons rfl (.cons rfl (.cons rfl (.cons (look_eq rfl (by simp)) (.nil _))))) (fun w h => Sat.aV h (by rw [eB, dI, aH, hl, List.drop_replicate, show m + 1 - m = 1 by omega]; rfl)) ?_
  rintro k hk
  refine WC.seq (WC.sr (WL.mv rfl rfl (WL.mv rfl rfl (WL.val (V.geq (OV.p rfl) (OV.p rfl)) rfl (WL.nil ?_)))))
  refine WC.cond rfl (fun hc1 => ?_) (fun hc1 => ?_)
  ·simp only [decide_eq_true_eq, decide_eq_false_iff_not] at hc1
   have hkd : k < kk := by omega
   have TQ : 8 * (m : Int) - 1 - (k : Int) = ((8 * m - 1 - k : Nat) : Int) := by omega
   rw [TQ]
   refine WC.skip (WC.seq (WC.block (WC.sr (WL.mv rfl rfl (WL.mv rfl rfl ?_)))))
   refine WL.call (vs := [_, _]) Tryz.call164 ⟨OV.p rfl, OV.p rfl, trivial⟩ (Co (Seq.yG (by rw [dO, hl])) (gu Kq Rk k) (by omega) (by omega)) rfl ?_
   rintro _ H0 ⟨rfl, h0⟩
   subst H0
   refine WL.nil ?_
   refine WC.cond rfl (fun hc2 => ?_) (fun hc2 => ?_)
   ·skip
    have h2 := hc2
    refine WC.region (WL.mv rfl rfl (WL.mv rfl rfl (WL.mv rfl rfl (WL.mv rfl rfl ?_))))
    refine WL.val (V.aC (v' := .int .i64 ((8 * m - 1 - k - d : Nat) : Int)) (V.tu (OV.p rfl) (OV.p rfl) (fun _ => by omega)) (fun _ => by congr 1; omega)) rfl ?_
    refine WL.call (vs := [_, _, _]) Tryz.call165 ⟨OV.p rfl, OV.p rfl, OV.p rfl, trivial⟩ (BQ (N := m + 1) (by rw [dO, hl]) (gu Kq Rk k) SV Rk (by omega) (by omega)) rfl ?_
    rintro v1 _ rfl
    refine WL.nil (WC.region (WL.mv rfl rfl (WL.sb rfl rfl rfl ?_)))
    refine WL.sg rfl rfl (WL.nil ?_)
    refine ⟨rfl, ?_⟩
    refine ⟨k + 1, (by show k + 1 ≤ kk; omega), (by show kk - (k + 1) < kk - k; omega), .cons rfl (.cons rfl (.cons rfl (.cons (look_eq rfl (by simp; omega)) (.nil _)))), fun w h => Sat.aV h ?_⟩
    rw [eB, hl, h2]
    simp
   ·skip
    have h2 := hc2
    refine WC.skip (WC.region (WL.mv rfl rfl (WL.sb rfl rfl rfl ?_)))
    refine WL.sg rfl rfl (WL.nil ?_)
    refine ⟨rfl, ?_⟩
    refine ⟨k + 1, (by show k + 1 ≤ kk; omega), (by show kk - (k + 1) < kk - k; omega), .cons rfl (.cons rfl (.cons rfl (.cons (look_eq rfl (by simp; omega)) (.nil _)))), fun w h => Sat.aV h ?_⟩
    rw [eB, hl, h2]
    simp
  ·simp only [decide_eq_true_eq, decide_eq_false_iff_not] at hc1
   refine WC.exit (WC.seq ?_)
   obtain rfl : k = kk := by omega
   refine WC.region (WL.mv rfl rfl ?_)
   refine WL.call (vs := [_]) Tryz.call162 ⟨OV.p rfl, trivial⟩ (lC (xs := eB ps Q0 lq d k) (Seq.yG (by rw [dO, hl])) (Nat.le_refl _) (by omega)) rfl ?_
   rintro _ H0 ⟨rfl, h0⟩
   subst H0
   refine WL.sg rfl rfl (WL.sg rfl rfl (WL.nil (WC.ret ?_)))
   exact au.ret (H' := Cells b18 _ _ :: F) (aO.fD rfl rfl rfl) (fun w h => h) ⟨b18, rfl, rfl⟩
end
def dJ : Nat → List Nat
  | 0 => [1]
  | k + 1 => (fM (dJ k) (nG (2 * k + 1 : Nat))).take (aF (fM (dJ k) (nG (2 * k + 1 : Nat))) ((dJ k).length + (nG (2 * k + 1 : Nat)).length + 1))
def MJ (k : Nat) : Bool := decide ((dJ k).length ≤ 1000) && decide ((nG (2 * k + 1 : Nat)).length ≤ 1000) && (dJ k).all (fun x => decide (x < 256)) && (nG (2 * k + 1 : Nat)).all (fun x => decide (x < 256))
theorem O9 : (List.range 8).all MJ = true := by kernel_rfl
section
variable {K : World} {F : List ak}
theorem yx {t : Nat} (ht : 1 ≤ t ∧ t ≤ 8) :
    Does Tryz.prog 147 #[.int .i64 (t : Int)] K F (fun v H' => ∃ g full cap, v = .tuple #[.slice (some ⟨g, 0, none⟩) (dJ t).length cap, .int .i64 0] ∧ (dJ t).length ≤ cap ∧ (dJ t) = full.take (dJ t).length ∧ H' = Cells g 5 (aA .u8 full) :: F) := by
  have hok : ∀ k, k < 8 → MJ k = true := fun k hk => List.all_eq_true.1 O9 k (List.mem_range.2 hk)
  have hcy : ∀ k, k < 8 → y5 ((2 * k + 1 : Nat) : Int) = true := fun k hk => by
    have h := List.all_eq_true.1 Lc
    have : ((2 * k + 1 : Nat) : Int) ∈ [1, 3, 5, 7, 9, 11, 13, (15 : Int)] := by
      simp only [List.mem_cons, List.not_mem_nil, or_false]; omega
    exact h _ this
  refine Does.enter Tryz.func147 rfl Tryz.ntmps147 rfl ?_
  simp only [aI, Nat.reduceAdd]
  refine WC.sr (WL.sg rfl rfl (WL.sg rfl rfl (WL.nil (WC.seq (WC.sr (WL.mv rfl rfl (WL.val (V.lss (OV.p rfl) (OV.p rfl)) rfl (WL.mv rfl rfl (WL.av (oj := _) rfl rfl rfl GC.f (V.move (OV.p rfl)) rfl (WL.av (oj := _) rfl rfl rfl GC.f (V.gtr (OV.g rfl id) (OV.p rfl)) rfl (WL.val (V.bH (OV.p rfl) (OV.g rfl id)) rfl (WL.nil ?_))))))))))))
  refine WC.aQ rfl ((by simp; omega)) ?_
  refine WC.skip (WC.sr ?_)
  refine WL.buildSlice (E := 5) (cs := [_]) (vs := [(0, _)]) ⟨OV.p rfl, trivial⟩ rfl (Cb _) rfl (fun b12 => ?_)
  refine WL.sg rfl rfl (WL.nil (WC.seq (WC.sr (WL.sg rfl rfl (WL.nil (WC.block ?_))))))
  refine WC.loop (σ := Nat × Nat × List Nat × Nat) (fun x => [(0, .int .i64 (t : Int)), (4, .slice (some ⟨x.2.1, 0, none⟩) (dJ x.1).length x.2.2.2), (5, .int .i64 ((2 * x.1 + 1 : Nat) : Int))]) (fun x => Cells x.2.1 5 (aA .u8 x.2.2.1) :: F) (fun x => x.1 ≤ t ∧ (dJ x.1).length ≤ x.2.2.2 ∧ dJ x.1 = x.2.2.1.take (dJ x.1).length) (fun x => t - x.1) (0, b12, [1], 1) ⟨Nat.zero_le _, Nat.le_refl _, rfl⟩ (.cons rfl (.cons rfl (.cons rfl (.nil _)))) (fun w h => h) ?_
  rintro ⟨k, g, full, cp⟩ ⟨hk, hcp, hfu⟩
  dsimp only at hk hcp hfu ⊢
  refine WC.seq (WC.sr (WL.mv rfl rfl (WL.mv rfl rfl ?_)))
  refine WL.val (V.jF (OV.p rfl) (OV.p rfl) (fun hc => by first | omega | (simp at hc; omega))) rfl ?_
  refine WL.val (V.lss (OV.p rfl) (OV.p rfl)) rfl (WL.nil ?_)
  refine WC.cond rfl (fun hc1 => ?_) (fun hc1 => ?_)
  ·simp only [decide_eq_true_eq, decide_eq_false_iff_not] at hc1
   have Qy : k < 8 := by omega
   have ho := hok k Qy
   simp only [MJ, Bool.and_eq_true, decide_eq_true_eq, List.all_eq_true] at ho
   obtain ⟨⟨⟨ho1, ho2⟩, ho3⟩, Uj⟩ := ho
   have hgs : ∀ {H : List ak}, Seq K (Cells g 5 (aA .u8 full) :: H) (some ⟨g, 0, none⟩) (dJ k).length 1 (aA .u8 (dJ k)) := fun {H} => Seq.here (by rw [aH]; omega) (by rw [List.drop_zero]; exact lW (by rw [hfu]; exact List.take_prefix _ _))
   refine WC.skip (WC.seq (WC.block (WC.region (WL.mv rfl rfl (WL.mv rfl rfl ?_)))))
   refine WL.call (vs := [_]) Tryz.call161 ⟨OV.p rfl, trivial⟩ (BG (by omega) (hcy k Qy)) rfl ?_
   rintro _ _ ⟨g2, c2, hm1, hm2, rfl, rfl⟩
   have hms : ∀ {H : List ak}, Seq K (Cells g2 5 (aA .u8 (oZ (pk ((2 * k + 1 : Nat) : Int) 13))) :: H) (some ⟨g2, 0, none⟩) (nG ((2 * k + 1 : Nat) : Int)).length 1 (aA .u8 (nG ((2 * k + 1 : Nat) : Int))) := fun {H} => Seq.here (by rw [aH]; omega) (by rw [List.drop_zero]; exact lW (List.take_prefix _ _))
   refine WL.call (vs := [_, _]) Tryz.call149 ⟨OV.p rfl, OV.p rfl, trivial⟩ (Cu (ps := dJ k) (qs := nG ((2 * k + 1 : Nat) : Int)) (by repeat (first | exact hgs | apply Seq.up)) hms ho3 Uj (by omega)) rfl ?_
   rintro _ _ ⟨g3, rfl, rfl⟩
   refine WL.sg rfl rfl (WL.nil (WC.region (WL.mv rfl rfl (WL.ad rfl rfl rfl ?_))))
   refine WL.sg rfl rfl (WL.nil ?_)
   refine ⟨rfl, ?_⟩
   have hnl := eX (fM (dJ k) (nG ((2 * k + 1 : Nat) : Int))) ((dJ k).length + (nG ((2 * k + 1 : Nat) : Int)).length + 1)
   have hbl : (fM (dJ k) (nG ((2 * k + 1 : Nat) : Int))).length = (dJ k).length + (nG ((2 * k + 1 : Nat) : Int)).length + 1 := by unfold fM; rw [fG]
   have hgl : (dJ (k + 1)).length = aF (fM (dJ k) (nG ((2 * k + 1 : Nat) : Int))) ((dJ k).length + (nG ((2 * k + 1 : Nat) : Int)).length + 1) := by rw [dJ, List.length_take, hbl]; omega
   exact ⟨(k + 1, g3, fM (dJ k) (nG ((2 * k + 1 : Nat) : Int)), (dJ k).length + (nG ((2 * k + 1 : Nat) : Int)).length + 1), ⟨by show k + 1 ≤ t; omega, by rw [hgl]; exact hnl, by rw [hgl]; rfl⟩, (by show t - (k + 1) < t - k; omega), .cons rfl (.cons (look_eq rfl (by rw [hgl])) (.cons (look_eq rfl (by simp; omega)) (.nil _))), fun w h => h.sel 3 [0] rfl⟩
  ·simp only [decide_eq_true_eq, decide_eq_false_iff_not] at hc1
   refine WC.exit (WC.sr (WL.mv rfl rfl (WL.sg rfl rfl (WL.sg rfl rfl (WL.nil (WC.ret ?_))))))
   obtain rfl : k = t := by omega
   exact au.ret (H' := Cells g _ _ :: F) (aO.fD rfl rfl rfl) (fun w h => h) ⟨g, full, cp, rfl, hcp, hfu, rfl⟩
end
end Go.Proofs.YtcmojpiokjhmhaaGreat
