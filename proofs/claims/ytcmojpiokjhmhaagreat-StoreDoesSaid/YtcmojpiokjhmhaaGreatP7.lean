import Derived.Test.YtcmojpiokjhmhaaGreatP6
namespace Go.Proofs.YtcmojpiokjhmhaaGreat
open Go.Sl Go.RowKit
set_option linter.unusedVariables false
set_option linter.unusedSimpArgs false
set_option maxRecDepth 20000
theorem Dq {a b : Nat} (ha : a < 256) (hb : b < 256) : bitsOf .xor .u8 (a : Int) (b : Int) = ((a ^^^ b : Nat) : Int) := by
  have h : a ^^^ b < 2 ^ 8 := Nat.xor_lt_two_pow ha hb
  unfold bitsOf
  dsimp only
  rw [eX, eX, BitVec.toNat_xor, BitVec.toNat_ofNat, BitVec.toNat_ofNat]
  have e1 : a % 2 ^ IntKind.u8.bits = a := Nat.mod_eq_of_lt (by show a < 2 ^ 8; omega)
  have e2 : b % 2 ^ IntKind.u8.bits = b := Nat.mod_eq_of_lt (by show b < 2 ^ 8; omega)
  rw [e1, e2]
  show IntKind.u8.wrap _ = _
  rw [uM]
  omega
theorem tC {a : Nat} (ha : a < 256) : bitsOf .and .u8 (a : Int) 1 = ((a % 2 : Nat) : Int) := by
  unfold bitsOf
  dsimp only
  rw [show (1 : Int) = ((1 : Nat) : Int) from rfl, eX, eX, BitVec.toNat_and, BitVec.toNat_ofNat, BitVec.toNat_ofNat]
  have e1 : a % 2 ^ IntKind.u8.bits = a := Nat.mod_eq_of_lt (by show a < 2 ^ 8; omega)
  have e2 : 1 % 2 ^ IntKind.u8.bits = 1 := rfl
  rw [e1, e2, Nat.and_one_is_mod]
  show IntKind.u8.wrap _ = _
  rw [uM]
  omega
theorem xV {a j k : Nat} (hj : j ≤ k) : (a : Int).fdiv (2 ^ (min (j : Int).toNat k)) = ((a / 2 ^ j : Nat) : Int) := by
  have e : min (j : Int).toNat k = j := by omega
  rw [e, Int.fdiv_eq_ediv_of_nonneg _ (by have : (0 : Int) ≤ 2 ^ j := Int.pow_nonneg (by decide); exact this)]
  simp
theorem MH {a j : Nat} (ha : a < 256) (hj : j < 8) : IntKind.u16.wrap ((a : Int) * 2 ^ (min (j : Int).toNat IntKind.u16.bits)) = ((a * 2 ^ j : Nat) : Int) := by
  have e1 : min (j : Int).toNat IntKind.u16.bits = j := by show min _ 16 = _; omega
  have h1 : 2 ^ j ≤ 2 ^ 7 := Nat.pow_le_pow_right (by decide) (by omega)
  have h2 : a * 2 ^ j ≤ 255 * 128 := Nat.mul_le_mul (by omega) h1
  have e2 : (a : Int) * 2 ^ j = ((a * 2 ^ j : Nat) : Int) := by simp
  rw [e1, e2]
  simp only [IntKind.wrap, IntKind.bits, IntKind.signed]
  simp
  omega
theorem lN {k : IntKind} {xs ys : List Nat} (h : xs <+: ys) : aA k xs <+: aA k ys := h.map _
def aR (p : List Nat) (i : Nat) : Bool := (p.getD (i / 8) 0).testBit (i % 8)
def jh (out p : List Nat) (at_ : Nat) : Nat → List Nat
  | 0 => out
  | j + 1 =>
    let o := jh out p at_ j
    let w := p.getD j 0 * 2 ^ (at_ % 8)
    let o1 := o.set (j + at_ / 8) (o.getD (j + at_ / 8) 0 ^^^ w % 256)
    if 255 < w then o1.set (j + at_ / 8 + 1) (o1.getD (j + at_ / 8 + 1) 0 ^^^ w / 256) else o1
theorem jq (out p : List Nat) (at_ : Nat) : ∀ j, (jh out p at_ j).length = out.length
  | 0 => rfl
  | j + 1 => by
    rw [jh]
    split <;> simp [jq out p at_ j]
theorem mg {out p : List Nat} {at_ : Nat} (h : Small 256 out) (hp : Small 256 p) : ∀ j, Small 256 (jh out p at_ j)
  | 0 => h
  | j + 1 => by
    have ih := mg (at_ := at_) h hp j
    have h1 := ih.set (i := j + at_ / 8) (dh (k := 8) (ih.at_ (by decide) (j + at_ / 8)) (Nat.mod_lt (p.getD j 0 * 2 ^ (at_ % 8)) (y := 256) (by decide)))
    rw [jh]
    split
    · refine h1.set (dh (k := 8) (h1.at_ (by decide) _) ?_)
      have h2 : 2 ^ (at_ % 8) ≤ 2 ^ 7 := Nat.pow_le_pow_right (by decide) (by omega)
      have h3 : p.getD j 0 * 2 ^ (at_ % 8) ≤ 255 * 128 := Nat.mul_le_mul (by have := hp.at_ (by decide) j; omega) h2
      omega
    · exact h1
def iF (p q : List Nat) : Nat → List Nat
  | 0 => List.replicate (p.length + q.length + 1) 0
  | i + 1 => if aR p i then jh (iF p q i) q i q.length else iF p q i
def fF (p q : List Nat) : List Nat := iF p q (8 * p.length)
theorem fC (p q : List Nat) : ∀ i, (iF p q i).length = p.length + q.length + 1
  | 0 => List.length_replicate
  | i + 1 => by rw [iF]; split; rw [jq, fC]; exact fC p q i
theorem kK {p q : List Nat} (hq : Small 256 q) : ∀ i, Small 256 (iF p q i)
  | 0 => Small.vN (by decide)
  | i + 1 => by rw [iF]; split; exact mg (kK hq i) hq _; exact kK hq i
section
variable {K : World} {F : List aj}
theorem BF {A : Option Addr} {m cap i : Nat} {xs : List Nat} (hs : Seq K F A m 1 (aA .u8 xs)) (hx : Small 256 xs) (hi : i < 8 * m) (hm : m ≤ 1000000) : aJ Tryz.prog 164 #[.slice A m cap, .int .i64 (i : Int)] K F (.bool (aR xs i)) := by
  have qC : Rd K F (A.map (·.add (((i : Int) / 8).toNat * 1))) (.int .u8 (xs.getD (i / 8) 0 : Nat)) := by
    rw [show ((i : Int) / 8).toNat = i / 8 by omega]; exact hs.gQ (by omega)
  have hb := hx.at_ (by decide) (i / 8)
  refine Does.enter Tryz.func164 rfl Tryz.ntmps164 rfl ?_
  simp only [aH, Nat.reduceAdd]
  refine WC.sr (WL.sg rfl rfl (WL.nil (WC.sr (WL.mv rfl rfl (WL.mv rfl rfl ?_)))))
  refine WL.val (V.r9 (OV.p rfl) (OV.p rfl) (fun hc => by first | omega | (simp at hc; omega))) rfl ?_
  refine WL.val (V.eP eZ (OV.p rfl) (OV.p rfl) (fun hc => by omega) (fun hc => qC)) rfl ?_
  refine WL.val (V.load Tryz.isAgg5 (OV.p rfl) (fun hc => qC)) rfl ?_
  refine WL.mv rfl rfl ?_
  refine WL.val (V.aB (v' := .int .i64 ((i % 8 : Nat) : Int)) (V.mY (OV.p rfl) (OV.p rfl) (fun _ => by omega)) (fun _ => by simp)) rfl ?_
  refine WL.val (V.aB (v' := .int .u8 ((xs.getD (i / 8) 0 / 2 ^ (i % 8) : Nat) : Int)) (V.shr (OV.p rfl) (OV.p rfl) (by omega)) (fun _ => by rw [xV (by show i % 8 ≤ 8; omega)])) rfl ?_
  refine WL.val (V.aB (v' := .int .u8 ((xs.getD (i / 8) 0 / 2 ^ (i % 8) % 2 : Nat) : Int)) (V.and (OV.p rfl) (OV.p rfl)) (fun _ => by rw [tC (Nat.lt_of_le_of_lt (Nat.div_le_self _ _) hb)])) rfl ?_
  refine WL.val (V.eql (OV.p rfl) (OV.p rfl)) rfl (WL.sg rfl rfl (WL.nil (WC.ret ?_)))
  refine ak.ret (H' := F) (aQ.tmp rfl rfl) (fun w h => h) ⟨?_, rfl⟩
  congr 1
  unfold aR
  rw [Nat.testBit_eq_decide_div_mod_eq]
  apply decide_eq_decide.2
  omega
theorem Bz {g N cap : Nat} {out : List Nat} {B : Option Addr} {m cap' : Nat} {p : List Nat} {at_ : Nat} (hN : out.length = N) (ho : Small 256 out) (hs : Seq K F B m 1 (aA .u8 p)) (hp : Small 256 p) (hat : m + at_ / 8 < N) (hcap : N ≤ 1000000) :
    Does Tryz.prog 165 #[.slice (some ⟨g, 0, none⟩) N cap, .slice B m cap', .int .i64 (at_ : Int)] K (Cells g 5 (aA .u8 out) :: F)
      (fun v H' => H' = Cells g 5 (aA .u8 (jh out p at_ m)) :: F) := by
  have hl : p.length = m := by simpa [aA] using hs.len
  have TG : at_ < 8000008 := by omega
  refine Does.enter Tryz.func165 rfl Tryz.ntmps165 rfl ?_
  simp only [aH, Nat.reduceAdd]
  refine WC.sr (WL.mv rfl rfl (WL.val (V.len (t := 43) Tryz.runUnderlying43 (OV.p rfl)) rfl (WL.mv rfl rfl (WL.nil (WC.block ?_)))))
  refine WC.loop (σ := Nat) (fun j => [(0, .slice (some ⟨g, 0, none⟩) N cap), (2, .int .i64 (at_ : Int)), (9, .slice B m cap'), (10, .int .i64 (m : Int)), (11, .int .i64 (j : Int))]) (fun j => Cells g 5 (aA .u8 (jh out p at_ j)) :: F) (fun j => j ≤ m) (fun j => m - j) 0 (Nat.zero_le _) (.cons rfl (.cons rfl (.cons rfl (.cons rfl (.cons rfl (.nil _)))))) (fun w h => h) ?_
  rintro j hj
  refine WC.sr (WL.val (V.lss (OV.p rfl) (OV.p rfl)) rfl (WL.nil (WC.seq ?_)))
  refine WC.cond rfl (fun hc0 => ?_) (fun hc0 => ?_)
  ·simp only [decide_eq_true_eq, decide_eq_false_iff_not] at hc0
   refine WC.skip (WC.seq (WC.block (WC.seq ?_)))
   have hjm : j < m := by omega
   obtain ⟨o, ho1⟩ : ∃ o, o = jh out p at_ j := ⟨_, rfl⟩
   have hol : o.length = N := by rw [ho1, jq]; exact hN
   have hos : Small 256 o := by rw [ho1]; exact mg ho hp j
   rw [← ho1]
   obtain ⟨x, hx⟩ : ∃ x, x = p.getD j 0 := ⟨_, rfl⟩
   have QG : x < 256 := by rw [hx]; exact hp.at_ (by decide) j
   have qC : Rd K (Cells g 5 (aA .u8 o) :: F) (B.map (·.add ((j : Int).toNat * 1))) (.int .u8 (x : Nat)) := by
     rw [show (j : Int).toNat = j by omega, hx]; exact (hs.gQ (by omega)).up
   obtain ⟨wv, hwv⟩ : ∃ wv, wv = x * 2 ^ (at_ % 8) := ⟨_, rfl⟩
   have hw16 : wv < 32768 := by
     have h2 : 2 ^ (at_ % 8) ≤ 2 ^ 7 := Nat.pow_le_pow_right (by decide) (by omega)
     have h3 : x * 2 ^ (at_ % 8) ≤ 255 * 128 := Nat.mul_le_mul (by omega) h2
     omega
   obtain ⟨o1, ho2⟩ : ∃ o1, o1 = o.set (j + at_ / 8) (o.getD (j + at_ / 8) 0 ^^^ wv % 256) := ⟨_, rfl⟩
   have TV : o1.length = N := by rw [ho2, List.length_set]; exact hol
   have Ri : Small 256 o1 := by rw [ho2]; exact hos.set (dh (k := 8) (hos.at_ (by decide) _) (Nat.mod_lt _ (by decide)))
   have hstep : jh out p at_ (j + 1) = if 255 < wv then o1.set (j + at_ / 8 + 1) (o1.getD (j + at_ / 8 + 1) 0 ^^^ wv / 256) else o1 := by rw [jh, ← ho1, ← hx, ← hwv, ← ho2]
   have hg1 : (aA .u8 o)[0 + (((j : Int) + (at_ : Int) / 8)).toNat * 1]? = some (.int .u8 (o.getD (j + at_ / 8) 0 : Nat)) := by rw [show 0 + (((j : Int) + (at_ : Int) / 8)).toNat * 1 = j + at_ / 8 by omega]; exact mU _ _ (by omega)
   have hg2 : (aA .u8 o1)[0 + (((j : Int) + (at_ : Int) / 8 + 1)).toNat * 1]? = some (.int .u8 (o1.getD (j + at_ / 8 + 1) 0 : Nat)) := by rw [show 0 + (((j : Int) + (at_ : Int) / 8 + 1)).toNat * 1 = j + at_ / 8 + 1 by omega]; exact mU _ _ (by omega)
   refine WC.region (WL.mv rfl rfl ?_)
   refine WL.val (V.eP eZ (OV.p rfl) (OV.p rfl) (fun hc => by omega) (fun hc => qC)) rfl ?_
   refine WL.val (V.load Tryz.isAgg5 (OV.p rfl) (fun hc => qC)) rfl ?_
   refine WL.sg rfl rfl (WL.sg rfl rfl (WL.nil (WC.sr (WL.mv rfl rfl ?_))))
   refine WL.val (V.uZ Tryz.runUnderlying5 Tryz.runUnderlying210 (OV.p rfl) (fun _ => by simp only [IntKind.wrap, IntKind.bits, IntKind.signed]; simp; omega)) rfl ?_
   refine WL.mv rfl rfl ?_
   refine WL.val (V.aB (v' := .int .i64 ((at_ % 8 : Nat) : Int)) (V.mY (OV.p rfl) (OV.p rfl) (fun _ => by omega)) (fun _ => by simp)) rfl ?_
   refine WL.val (V.aB (v' := .int .u16 (wv : Int)) (V.shl (OV.p rfl) (OV.p rfl) (by omega)) (fun _ => by rw [MH QG (by omega), hwv])) rfl ?_
   refine WL.sg rfl rfl (WL.nil (WC.sr (WL.mv rfl rfl (WL.mv rfl rfl (WL.mv rfl rfl ?_)))))
   refine WL.val (V.r9 (OV.p rfl) (OV.p rfl) (fun hc => by first | omega | (simp at hc; omega))) rfl ?_
   refine WL.ad rfl rfl rfl ?_
   refine WL.val (V.bM eZ (OV.p rfl) (OV.p rfl) (fun hc => by omega)) rfl ?_
   refine WL.val (V.load Tryz.isAgg5 (OV.p rfl) (fun hc => Rd.here hg1)) rfl ?_
   refine WL.mv rfl rfl ?_
   refine WL.val (V.aB (v' := .int .u8 ((wv % 256 : Nat) : Int)) (V.kF Tryz.runUnderlying210 Tryz.runUnderlying5 (OV.p rfl)) (fun _ => by rw [uM])) rfl ?_
   refine WL.val (V.aB (v' := .int .u8 ((o.getD (j + at_ / 8) 0 ^^^ wv % 256 : Nat) : Int)) (V.xor (OV.p rfl) (OV.p rfl)) (fun _ => by rw [Dq (hos.at_ (by decide) _) (Nat.mod_lt _ (by decide))])) rfl ?_
   refine WL.val (V.bM eZ (OV.p rfl) (OV.p rfl) (fun hc => by omega)) rfl ?_
   refine WL.store (cs := [_]) Tryz.sizeOf5 (OV.p rfl) (OV.p rfl) rfl rfl rfl (bD.at_ (by rw [aG]; omega)) ?_
   rw [show 0 + (((j : Int) + (at_ : Int) / 8)).toNat * 1 = j + at_ / 8 by omega, jC, ← ho2]
   refine WL.nil (WC.sr (WL.mv rfl rfl (WL.val (V.gtr (OV.p rfl) (OV.p rfl)) rfl (WL.nil ?_))))
   refine WC.cond rfl (fun hc1 => ?_) (fun hc1 => ?_)
   ·simp only [decide_eq_true_eq, decide_eq_false_iff_not] at hc1
    rw [if_pos (by omega)] at hstep
    refine WC.region (WL.mv rfl rfl (WL.mv rfl rfl (WL.mv rfl rfl ?_)))
    refine WL.val (V.r9 (OV.p rfl) (OV.p rfl) (fun hc => by first | omega | (simp at hc; omega))) rfl ?_
    refine WL.ad rfl rfl rfl ?_
    refine WL.ad rfl rfl rfl ?_
    refine WL.val (V.bM eZ (OV.p rfl) (OV.p rfl) (fun hc => by omega)) rfl ?_
    refine WL.val (V.load Tryz.isAgg5 (OV.p rfl) (fun hc => Rd.here hg2)) rfl ?_
    refine WL.mv rfl rfl ?_
    refine WL.val (V.aB (v' := .int .u16 ((wv / 256 : Nat) : Int)) (V.shr (OV.p rfl) (OV.p rfl) (by decide)) (fun _ => by rw [show (8 : Int) = ((8 : Nat) : Int) from rfl, xV (by show 8 ≤ 16; decide)])) rfl ?_
    refine WL.val (V.aB (v' := .int .u8 ((wv / 256 : Nat) : Int)) (V.kF Tryz.runUnderlying210 Tryz.runUnderlying5 (OV.p rfl)) (fun _ => by rw [uM]; congr 2; omega)) rfl ?_
    refine WL.val (V.aB (v' := .int .u8 ((o1.getD (j + at_ / 8 + 1) 0 ^^^ wv / 256 : Nat) : Int)) (V.xor (OV.p rfl) (OV.p rfl)) (fun _ => by rw [Dq (Ri.at_ (by decide) _) (by omega)])) rfl ?_
    refine WL.val (V.bM eZ (OV.p rfl) (OV.p rfl) (fun hc => by omega)) rfl ?_
    refine WL.store (cs := [_]) Tryz.sizeOf5 (OV.p rfl) (OV.p rfl) rfl rfl rfl (bD.at_ (by rw [aG]; omega)) ?_
    rw [show 0 + (((j : Int) + (at_ : Int) / 8 + 1)).toNat * 1 = j + at_ / 8 + 1 by omega, jC]
    refine WL.nil (WC.region (WL.ad rfl rfl rfl ?_))
    refine WL.mv rfl rfl (WL.nil ?_)
    refine ⟨rfl, ?_⟩
    exact ⟨j + 1, (by show j + 1 ≤ m; omega), (by show m - (j + 1) < m - j; omega), .cons rfl (.cons rfl (.cons rfl (.cons rfl (.cons (look_eq rfl (by simp)) (.nil _))))), fun w h => Sat.aV h (by rw [hstep])⟩
   ·simp only [decide_eq_true_eq, decide_eq_false_iff_not] at hc1
    rw [if_neg (by omega)] at hstep
    refine WC.skip (WC.region (WL.ad rfl rfl rfl ?_))
    refine WL.mv rfl rfl (WL.nil ?_)
    refine ⟨rfl, ?_⟩
    exact ⟨j + 1, (by show j + 1 ≤ m; omega), (by show m - (j + 1) < m - j; omega), .cons rfl (.cons rfl (.cons rfl (.cons rfl (.cons (look_eq rfl (by simp)) (.nil _))))), fun w h => Sat.aV h (by rw [hstep])⟩
  ·simp only [decide_eq_true_eq, decide_eq_false_iff_not] at hc0
   refine WC.exit ?_
   obtain rfl : j = m := by omega
   exact ak.normal (H' := Cells g _ _ :: F) (aQ.none rfl) (fun w h => h) rfl
theorem Cb {q cap' m uF : Nat} {A B : Option Addr} {ps qs : List Nat} (hs : Seq K F A m 1 (aA .u8 ps)) (hq : Seq K F B q 1 (aA .u8 qs)) (JW : Small 256 ps) (hq8 : Small 256 qs) (hcap : ps.length + qs.length ≤ 100000) :
    Does Tryz.prog 149 #[.slice A m uF, .slice B q cap'] K F
      (fun v H' => ∃ g, v = .slice (some ⟨g, 0, none⟩) (aF (fF ps qs) (ps.length + qs.length + 1)) (ps.length + qs.length + 1) ∧ H' = Cells g 5 (aA .u8 (fF ps qs)) :: F) := by
  have hl : ps.length = m := by simpa [aA] using hs.len
  have Ay : qs.length = q := by simpa [aA] using hq.len
  refine Does.enter Tryz.func149 rfl Tryz.ntmps149 rfl ?_
  simp only [aH, Nat.reduceAdd]
  refine WC.sr (WL.sg rfl rfl (WL.nil (WC.sr (WL.mv rfl rfl (WL.val (V.len (t := 43) Tryz.runUnderlying43 (OV.p rfl)) rfl (WL.mv rfl rfl (WL.val (V.len (t := 43) Tryz.runUnderlying43 (OV.p rfl)) rfl (WL.ad rfl rfl rfl ?_))))))))
  refine WL.ad rfl rfl rfl ?_
  refine WL.jV (m := m + q + 1) Tryz.underlying43 wX (OV.p rfl) (OV.p rfl) (by omega) (by omega) (by omega) rfl rfl rfl (fun b13 => ?_)
  refine WL.sg rfl rfl (WL.nil (WC.seq (WC.sr (WL.mv rfl rfl (WL.val (V.len (t := 43) Tryz.runUnderlying43 (OV.p rfl)) rfl ?_)))))
  refine WL.val (V.jI (OV.p rfl) (OV.p rfl) (fun hc => by first | omega | (simp at hc; omega))) rfl ?_
  refine WL.mv rfl rfl (WL.nil (WC.block ?_))
  refine WC.loop (σ := Nat) (fun j => [(0, .slice A m uF), (1, .slice B q cap'), (5, .slice (some ⟨b13, 0, none⟩) (m + q + 1) (m + q + 1)), (16, .int .i64 (8 * (m : Int))), (17, .int .i64 (j : Int))]) (fun j => Cells b13 5 (aA .u8 (iF ps qs j)) :: F) (fun j => j ≤ 8 * m) (fun j => 8 * m - j) 0 (Nat.zero_le _) (.cons rfl (.cons rfl (.cons rfl (.cons rfl (.cons rfl (.nil _)))))) (fun w h => Sat.aV h (by rw [iF, hl, Ay, dw]; rfl)) ?_
  rintro j hj
  refine WC.sr (WL.val (V.lss (OV.p rfl) (OV.p rfl)) rfl (WL.nil (WC.seq ?_)))
  refine WC.cond rfl (fun hc0 => ?_) (fun hc0 => ?_)
  ·simp only [decide_eq_true_eq, decide_eq_false_iff_not] at hc0
   refine WC.skip (WC.seq (WC.block (WC.sr (WL.mv rfl rfl (WL.sg rfl rfl (WL.nil (WC.sr (WL.mv rfl rfl (WL.mv rfl rfl ?_)))))))))
   refine WL.call (vs := [_, _]) Tryz.call164 ⟨OV.p rfl, OV.p rfl, trivial⟩ (BF (by repeat (first | exact hs | apply Seq.up)) JW (by omega) (by omega)) rfl ?_
   rintro _ H0 ⟨rfl, h0⟩
   subst H0
   refine WL.nil ?_
   refine WC.cond rfl (fun hc1 => ?_) (fun hc1 => ?_)
   ·skip
    have h1 := hc1
    refine WC.region (WL.mv rfl rfl (WL.mv rfl rfl (WL.mv rfl rfl ?_)))
    refine WL.call (vs := [_, _, _]) Tryz.call165 ⟨OV.p rfl, OV.p rfl, OV.p rfl, trivial⟩ (Bz (N := m + q + 1) (by rw [fC, hl, Ay]) (kK hq8 j) hq hq8 (by omega) (by omega)) rfl ?_
    rintro v1 _ rfl
    refine WL.nil (WC.region (WL.ad rfl rfl rfl ?_))
    refine WL.mv rfl rfl (WL.nil ?_)
    refine ⟨rfl, ?_⟩
    refine ⟨j + 1, (by show j + 1 ≤ 8 * m; omega), (by show 8 * m - (j + 1) < 8 * m - j; omega), .cons rfl (.cons rfl (.cons rfl (.cons rfl (.cons (look_eq rfl (by simp)) (.nil _))))), fun w h => Sat.aV h ?_⟩
    rw [iF, h1]
    simp [Ay]
   ·skip
    have h1 := hc1
    refine WC.skip (WC.region (WL.ad rfl rfl rfl ?_))
    refine WL.mv rfl rfl (WL.nil ?_)
    refine ⟨rfl, ?_⟩
    refine ⟨j + 1, (by show j + 1 ≤ 8 * m; omega), (by show 8 * m - (j + 1) < 8 * m - j; omega), .cons rfl (.cons rfl (.cons rfl (.cons rfl (.cons (look_eq rfl (by simp)) (.nil _))))), fun w h => Sat.aV h ?_⟩
    rw [iF, h1]
    simp [Ay]
  ·simp only [decide_eq_true_eq, decide_eq_false_iff_not] at hc0
   refine WC.exit (WC.seq ?_)
   obtain rfl : j = 8 * m := by omega
   have QW : iF ps qs (8 * m) = fF ps qs := by unfold fF; rw [hl]
   rw [QW]
   have hbl : (fF ps qs).length = m + q + 1 := by unfold fF; rw [fC, hl, Ay]
   refine WC.region (WL.mv rfl rfl ?_)
   refine WL.call (vs := [_]) Tryz.call162 ⟨OV.p rfl, trivial⟩ (kU (xs := fF ps qs) (Seq.xK hbl) (Nat.le_refl _) (by omega)) rfl ?_
   rintro _ H0 ⟨rfl, h0⟩
   subst H0
   refine WL.sg rfl rfl (WL.nil (WC.ret ?_))
   exact ak.ret (H' := Cells b13 _ _ :: F) (aQ.tmp rfl rfl) (fun w h => h) ⟨b13, by rw [hl, Ay], rfl⟩
end
def len8 (x : Nat) : Nat := if x = 0 then 0 else Nat.log2 x + 1
theorem Mx {s : ByteArray} (h : ((List.range 256).all fun x => decide (s[x]? = some (UInt8.ofNat (len8 x)))) = true) {x : Nat} (hx : x < 256) : s[x]? = some (UInt8.ofNat (len8 x)) := by
  have := List.all_eq_true.1 h x (List.mem_range.2 hx)
  exact of_decide_eq_true this
theorem Im {x : Nat} (h : x < 256) : len8 x ≤ 8 := by
  unfold len8
  split
  · omega
  · rename_i h0
    have := (Nat.log2_lt h0 (k := 8)).2 h
    omega
def FU (xs : List Nat) (m : Nat) : Int := if aF xs m = 0 then -1 else 8 * (aF xs m : Int) - 8 + (len8 (xs.getD (aF xs m - 1) 0) : Nat) - 1
def dU (p q : List Nat) (lq d : Nat) : Nat → List Nat
  | 0 => p ++ [0]
  | k + 1 => if aR (dU p q lq d k) (8 * p.length - 1 - k) then jh (dU p q lq d k) q (8 * p.length - 1 - k - d) lq else dU p q lq d k
theorem dJ (p q : List Nat) (lq d : Nat) : ∀ k, (dU p q lq d k).length = p.length + 1
  | 0 => by simp [dU]
  | k + 1 => by rw [dU]; split; rw [jq, dJ]; exact dJ p q lq d k
theorem fI {p q : List Nat} {lq d : Nat} (hp : Small 256 p) (hq : Small 256 q) : ∀ k, Small 256 (dU p q lq d k)
  | 0 => hp.append (fun x hx => by simp at hx; omega)
  | k + 1 => by rw [dU]; split; exact mg (fI hp hq k) hq _; exact fI hp hq k
section
variable {K : World} {F : List aj}
theorem bits_Len8 {x : Nat} (hx : x < 256) : aJ Tryz.prog 174 #[.int .u8 (x : Int)] K F (.int .i64 (len8 x : Nat)) := by
  have hl := Im hx
  have h8 : (UInt8.ofNat (len8 x)).toNat = len8 x := by rw [UInt8.toNat_ofNat']; omega
  refine Does.enter Tryz.func174 rfl Tryz.ntmps174 rfl ?_
  simp only [aH, Nat.reduceAdd]
  refine WC.sr (WL.sg rfl rfl (WL.nil (WC.sr (WL.mv rfl rfl ?_))))
  refine WL.val (V.KJ (b := UInt8.ofNat (len8 x)) Tryz.underlying9 (OV.p rfl) (OV.p rfl) (fun _ => ⟨by omega, by rw [show ((x : Nat) : Int).toNat = x by omega]; exact Mx (by kernel_rfl) hx⟩)) rfl ?_
  refine WL.val (V.uZ Tryz.runUnderlying5 Tryz.runUnderlying3 (OV.p rfl) (fun _ => wrap_i64 (by omega))) rfl ?_
  refine WL.sg rfl rfl (WL.nil (WC.ret ?_))
  exact ak.ret (H' := F) (aQ.tmp rfl rfl) (fun w h => h) ⟨by rw [h8], rfl⟩
theorem Cy {A : Option Addr} {m cap : Nat} {xs : List Nat} (hs : Seq K F A m 1 (aA .u8 xs)) (hx : Small 256 xs) (hcap : m ≤ cap) (hm : m ≤ 100000) : aJ Tryz.prog 163 #[.slice A m cap] K F (.int .i64 (FU xs m)) := by
  have hn := eF xs m
  refine Does.enter Tryz.func163 rfl Tryz.ntmps163 rfl ?_
  simp only [aH, Nat.reduceAdd]
  refine WC.sr (WL.sg rfl rfl (WL.nil (WC.sr (WL.mv rfl rfl ?_))))
  refine WL.call (vs := [_]) Tryz.call162 ⟨OV.p rfl, trivial⟩ (kU hs hcap (by omega)) rfl ?_
  rintro _ H0 ⟨rfl, h0⟩
  subst H0
  refine WL.sg rfl rfl (WL.nil (WC.seq (WC.sr (WL.mv rfl rfl (WL.val (V.len (t := 43) Tryz.runUnderlying43 (OV.p rfl)) rfl (WL.val (V.eql (OV.p rfl) (OV.p rfl)) rfl (WL.nil ?_)))))))
  refine WC.cond rfl (fun hc0 => ?_) (fun hc0 => ?_)
  ·simp only [decide_eq_true_eq, decide_eq_false_iff_not] at hc0
   refine WC.sr (WL.sg rfl rfl (WL.nil (WC.ret ?_)))
   refine ak.ret (H' := F) (aQ.tmp rfl rfl) (fun w h => h) ⟨?_, rfl⟩
   unfold FU; rw [if_pos (by omega)]
  ·simp only [decide_eq_true_eq, decide_eq_false_iff_not] at hc0
   refine WC.skip (WC.seq ?_)
   have hrd : Rd K F (A.map (·.add (((aF xs m : Int) - 1).toNat * 1))) (.int .u8 (xs.getD (aF xs m - 1) 0 : Nat)) := by
     rw [show ((aF xs m : Int) - 1).toNat = aF xs m - 1 by omega]; exact hs.gQ (by omega)
   have hb := hx.at_ (by decide) (aF xs m - 1)
   have UL := Im hb
   refine WC.region (WL.mv rfl rfl (WL.val (V.len (t := 43) Tryz.runUnderlying43 (OV.p rfl)) rfl ?_))
   refine WL.val (V.jI (OV.p rfl) (OV.p rfl) (fun hc => by first | omega | (simp at hc; omega))) rfl ?_
   refine WL.sb rfl rfl rfl ?_
   refine WL.mv rfl rfl (WL.mv rfl rfl (WL.val (V.len (t := 43) Tryz.runUnderlying43 (OV.p rfl)) rfl (WL.sb rfl rfl rfl ?_)))
   refine WL.val (V.eP eZ (OV.p rfl) (OV.p rfl) (fun hc => by omega) (fun hc => hrd)) rfl ?_
   refine WL.val (V.load Tryz.isAgg5 (OV.p rfl) (fun hc => hrd)) rfl ?_
   refine WL.call (vs := [_]) Tryz.call174 ⟨OV.p rfl, trivial⟩ (bits_Len8 hb) rfl ?_
   rintro _ H0 ⟨rfl, h0⟩
   subst H0
   refine WL.ad rfl rfl rfl ?_
   refine WL.sb rfl rfl rfl ?_
   refine WL.sg rfl rfl (WL.nil (WC.ret ?_))
   refine ak.ret (H' := F) (aQ.tmp rfl rfl) (fun w h => h) ⟨?_, rfl⟩
   unfold FU; rw [if_neg (by omega)]
theorem IG {q cap' m uF : Nat} {A B : Option Addr} {ps qs : List Nat} {d : Nat} (hs : Seq K F A m 1 (aA .u8 ps)) (hq : Seq K F B q 1 (aA .u8 qs)) (JW : Small 256 ps) (hq8 : Small 256 qs) (hqc : q ≤ cap') (hcap : ps.length + qs.length ≤ 100000)
    (hd : FU qs q = (d : Int)) (hdd : FU (qs.take (aF qs q)) (aF qs q) = (d : Int)) (hld : aF qs q = d / 8 + 1) :
    Does Tryz.prog 148 #[.slice A m uF, .slice B q cap'] K F
      (fun v H' => ∃ g, v = .tuple #[.slice (some ⟨g, 0, none⟩) (aF (dU ps (qs.take (aF qs q)) (aF qs q) d (8 * m - d)) (m + 1)) (m + 1), .int .i64 0] ∧ H' = Cells g 5 (aA .u8 (dU ps (qs.take (aF qs q)) (aF qs q) d (8 * m - d))) :: F) := by
  have hl : ps.length = m := by simpa [aA] using hs.len
  have Ay : qs.length = q := by simpa [aA] using hq.len
  have hnl := eF qs q
  obtain ⟨lq, hlq⟩ : ∃ lq, lq = aF qs q := ⟨_, rfl⟩
  obtain ⟨Q0, QZ⟩ : ∃ Q0, Q0 = qs.take (aF qs q) := ⟨_, rfl⟩
  have UD : Q0.length = lq := by rw [QZ, List.length_take, hlq]; omega
  have QO : Small 256 Q0 := by rw [QZ]; exact hq8.take
  have Sd : Seq K F B lq 1 (aA .u8 Q0) := by rw [QZ, hlq, ← gy]; exact Seq.take hq hnl
  rw [← QZ, ← hlq] at hdd ⊢
  rw [← hlq] at hld hnl
  obtain ⟨kk, hkk⟩ : ∃ kk, kk = 8 * m - d := ⟨_, rfl⟩
  rw [← hkk]
  refine Does.enter Tryz.func148 rfl Tryz.ntmps148 rfl ?_
  simp only [aH, Nat.reduceAdd]
  refine WC.sr (WL.sg rfl rfl (WL.sg rfl rfl (WL.nil (WC.sr (WL.mv rfl rfl ?_)))))
  refine WL.call (vs := [_]) Tryz.call162 ⟨OV.p rfl, trivial⟩ (aJ.eq (v' := .slice B lq cap') (kU hq hqc (by omega)) (by rw [hlq])) rfl ?_
  rintro _ H0 ⟨rfl, h0⟩
  subst H0
  refine WL.sg rfl rfl (WL.nil (WC.sr (WL.mv rfl rfl ?_)))
  refine WL.call (vs := [_]) Tryz.call163 ⟨OV.p rfl, trivial⟩ (aJ.eq (v' := .int .i64 (d : Int)) (Cy Sd QO (by omega) (by omega)) (by rw [hdd])) rfl ?_
  rintro _ H0 ⟨rfl, h0⟩
  subst H0
  refine WL.sg rfl rfl (WL.nil (WC.seq (WC.sr (WL.mv rfl rfl (WL.val (V.lss (OV.p rfl) (OV.p rfl)) rfl (WL.nil ?_))))))
  refine WC.aS rfl ((by simp)) ?_
  refine WC.skip (WC.sr (WL.mv rfl rfl (WL.val (V.len (t := 43) Tryz.runUnderlying43 (OV.p rfl)) rfl (WL.ad rfl rfl rfl ?_))))
  refine WL.jV (m := m + 1) Tryz.underlying43 wX (OV.p rfl) (OV.p rfl) (by omega) (by omega) (by omega) rfl rfl rfl (fun b18 => ?_)
  refine WL.sg rfl rfl (WL.nil (WC.sr (WL.mv rfl rfl (WL.mv rfl rfl ?_))))
  refine WL.x9 eZ (OV.p rfl) (OV.p rfl) (by repeat (first | exact hs | apply Seq.up)) (by omega) (ny _ _) (bD.front (by simp [aA]; omega)) rfl ?_
  refine WL.nil (WC.seq (WC.sr (WL.mv rfl rfl (WL.val (V.len (t := 43) Tryz.runUnderlying43 (OV.p rfl)) rfl ?_))))
  refine WL.val (V.jI (OV.p rfl) (OV.p rfl) (fun hc => by first | omega | (simp at hc; omega))) rfl ?_
  refine WL.sb rfl rfl rfl ?_
  refine WL.sg rfl rfl (WL.nil (WC.block ?_))
  refine WC.loop (σ := Nat) (fun k => [(1, .slice B lq cap'), (6, .int .i64 (d : Int)), (7, .slice (some ⟨b18, 0, none⟩) (m + 1) (m + 1)), (8, .int .i64 (8 * (m : Int) - 1 - (k : Int)))]) (fun k => Cells b18 5 (aA .u8 (dU ps Q0 lq d k)) :: F) (fun k => k ≤ kk) (fun k => kk - k) 0 (Nat.zero_le _) (.cons rfl (.cons rfl (.cons rfl (.cons (look_eq rfl (by simp)) (.nil _))))) (fun w h => Sat.aV h (by rw [dU, dz, aG, hl, List.drop_replicate, show m + 1 - m = 1 by omega]; rfl)) ?_
  rintro k hk
  refine WC.seq (WC.sr (WL.mv rfl rfl (WL.mv rfl rfl (WL.val (V.geq (OV.p rfl) (OV.p rfl)) rfl (WL.nil ?_)))))
  refine WC.cond rfl (fun hc1 => ?_) (fun hc1 => ?_)
  ·simp only [decide_eq_true_eq, decide_eq_false_iff_not] at hc1
   have hkd : k < kk := by omega
   have TL : 8 * (m : Int) - 1 - (k : Int) = ((8 * m - 1 - k : Nat) : Int) := by omega
   rw [TL]
   refine WC.skip (WC.seq (WC.block (WC.sr (WL.mv rfl rfl (WL.mv rfl rfl ?_)))))
   refine WL.call (vs := [_, _]) Tryz.call164 ⟨OV.p rfl, OV.p rfl, trivial⟩ (BF (Seq.xK (by rw [dJ, hl])) (fI JW QO k) (by omega) (by omega)) rfl ?_
   rintro _ H0 ⟨rfl, h0⟩
   subst H0
   refine WL.nil ?_
   refine WC.cond rfl (fun hc2 => ?_) (fun hc2 => ?_)
   ·skip
    have h2 := hc2
    refine WC.region (WL.mv rfl rfl (WL.mv rfl rfl (WL.mv rfl rfl (WL.mv rfl rfl ?_))))
    refine WL.val (V.aB (v' := .int .i64 ((8 * m - 1 - k - d : Nat) : Int)) (V.sZ (OV.p rfl) (OV.p rfl) (fun _ => by omega)) (fun _ => by congr 1; omega)) rfl ?_
    refine WL.call (vs := [_, _, _]) Tryz.call165 ⟨OV.p rfl, OV.p rfl, OV.p rfl, trivial⟩ (Bz (N := m + 1) (by rw [dJ, hl]) (fI JW QO k) Sd QO (by omega) (by omega)) rfl ?_
    rintro v1 _ rfl
    refine WL.nil (WC.region (WL.mv rfl rfl (WL.sb rfl rfl rfl ?_)))
    refine WL.sg rfl rfl (WL.nil ?_)
    refine ⟨rfl, ?_⟩
    refine ⟨k + 1, (by show k + 1 ≤ kk; omega), (by show kk - (k + 1) < kk - k; omega), .cons rfl (.cons rfl (.cons rfl (.cons (look_eq rfl (by simp; omega)) (.nil _)))), fun w h => Sat.aV h ?_⟩
    rw [dU, hl, h2]
    simp
   ·skip
    have h2 := hc2
    refine WC.skip (WC.region (WL.mv rfl rfl (WL.sb rfl rfl rfl ?_)))
    refine WL.sg rfl rfl (WL.nil ?_)
    refine ⟨rfl, ?_⟩
    refine ⟨k + 1, (by show k + 1 ≤ kk; omega), (by show kk - (k + 1) < kk - k; omega), .cons rfl (.cons rfl (.cons rfl (.cons (look_eq rfl (by simp; omega)) (.nil _)))), fun w h => Sat.aV h ?_⟩
    rw [dU, hl, h2]
    simp
  ·simp only [decide_eq_true_eq, decide_eq_false_iff_not] at hc1
   refine WC.exit (WC.seq ?_)
   obtain rfl : k = kk := by omega
   refine WC.region (WL.mv rfl rfl ?_)
   refine WL.call (vs := [_]) Tryz.call162 ⟨OV.p rfl, trivial⟩ (kU (xs := dU ps Q0 lq d k) (Seq.xK (by rw [dJ, hl])) (Nat.le_refl _) (by omega)) rfl ?_
   rintro _ H0 ⟨rfl, h0⟩
   subst H0
   refine WL.sg rfl rfl (WL.sg rfl rfl (WL.nil (WC.ret ?_)))
   exact ak.ret (H' := Cells b18 _ _ :: F) (aQ.fG rfl rfl rfl) (fun w h => h) ⟨b18, rfl, rfl⟩
end
def dF : Nat → List Nat
  | 0 => [1]
  | k + 1 => (fF (dF k) (mQ (2 * k + 1 : Nat))).take (aF (fF (dF k) (mQ (2 * k + 1 : Nat))) ((dF k).length + (mQ (2 * k + 1 : Nat)).length + 1))
def Kn (k : Nat) : Bool := decide ((dF k).length ≤ 1000) && decide ((mQ (2 * k + 1 : Nat)).length ≤ 1000) && (dF k).all (fun x => decide (x < 256)) && (mQ (2 * k + 1 : Nat)).all (fun x => decide (x < 256))
theorem Pb : (List.range 8).all Kn = true := by kernel_rfl
section
variable {K : World} {F : List aj}
theorem xI {t : Nat} (ht : 1 ≤ t ∧ t ≤ 8) :
    Does Tryz.prog 147 #[.int .i64 (t : Int)] K F (fun v H' => ∃ g full cap, v = .tuple #[.slice (some ⟨g, 0, none⟩) (dF t).length cap, .int .i64 0] ∧ (dF t).length ≤ cap ∧ (dF t) = full.take (dF t).length ∧ H' = Cells g 5 (aA .u8 full) :: F) := by
  have hok : ∀ k, k < 8 → Kn k = true := fun k hk => List.all_eq_true.1 Pb k (List.mem_range.2 hk)
  have hcy : ∀ k, k < 8 → yx ((2 * k + 1 : Nat) : Int) = true := fun k hk => by
    have h := List.all_eq_true.1 Md
    have : ((2 * k + 1 : Nat) : Int) ∈ [1, 3, 5, 7, 9, 11, 13, (15 : Int)] := by
      simp only [List.mem_cons, List.not_mem_nil, or_false]; omega
    exact h _ this
  refine Does.enter Tryz.func147 rfl Tryz.ntmps147 rfl ?_
  simp only [aH, Nat.reduceAdd]
  refine WC.sr (WL.sg rfl rfl (WL.sg rfl rfl (WL.nil (WC.seq (WC.sr (WL.mv rfl rfl (WL.val (V.lss (OV.p rfl) (OV.p rfl)) rfl (WL.mv rfl rfl (WL.av (oj := _) rfl rfl rfl GC.f (V.move (OV.p rfl)) rfl (WL.av (oj := _) rfl rfl rfl GC.f (V.gtr (OV.g rfl id) (OV.p rfl)) rfl (WL.val (V.bK (OV.p rfl) (OV.g rfl id)) rfl (WL.nil ?_))))))))))))
  refine WC.aS rfl ((by simp; omega)) ?_
  refine WC.skip (WC.sr ?_)
  refine WL.buildSlice (E := 5) (cs := [_]) (vs := [(0, _)]) ⟨OV.p rfl, trivial⟩ rfl (BJ _) rfl (fun b12 => ?_)
  refine WL.sg rfl rfl (WL.nil (WC.seq (WC.sr (WL.sg rfl rfl (WL.nil (WC.block ?_))))))
  refine WC.loop (σ := Nat × Nat × List Nat × Nat) (fun x => [(0, .int .i64 (t : Int)), (4, .slice (some ⟨x.2.1, 0, none⟩) (dF x.1).length x.2.2.2), (5, .int .i64 ((2 * x.1 + 1 : Nat) : Int))]) (fun x => Cells x.2.1 5 (aA .u8 x.2.2.1) :: F) (fun x => x.1 ≤ t ∧ (dF x.1).length ≤ x.2.2.2 ∧ dF x.1 = x.2.2.1.take (dF x.1).length) (fun x => t - x.1) (0, b12, [1], 1) ⟨Nat.zero_le _, Nat.le_refl _, rfl⟩ (.cons rfl (.cons rfl (.cons rfl (.nil _)))) (fun w h => h) ?_
  rintro ⟨k, g, full, cp⟩ ⟨hk, hcp, hfu⟩
  dsimp only at hk hcp hfu ⊢
  refine WC.seq (WC.sr (WL.mv rfl rfl (WL.mv rfl rfl ?_)))
  refine WL.val (V.jI (OV.p rfl) (OV.p rfl) (fun hc => by first | omega | (simp at hc; omega))) rfl ?_
  refine WL.val (V.lss (OV.p rfl) (OV.p rfl)) rfl (WL.nil ?_)
  refine WC.cond rfl (fun hc1 => ?_) (fun hc1 => ?_)
  ·simp only [decide_eq_true_eq, decide_eq_false_iff_not] at hc1
   have Qq : k < 8 := by omega
   have ho := hok k Qq
   simp only [Kn, Bool.and_eq_true, decide_eq_true_eq, List.all_eq_true] at ho
   obtain ⟨⟨⟨ho1, ho2⟩, ho3⟩, TN⟩ := ho
   have hgs : ∀ {H : List aj}, Seq K (Cells g 5 (aA .u8 full) :: H) (some ⟨g, 0, none⟩) (dF k).length 1 (aA .u8 (dF k)) := fun {H} => Seq.here (by rw [aG]; omega) (by rw [List.drop_zero]; exact lN (by rw [hfu]; exact List.take_prefix _ _))
   refine WC.skip (WC.seq (WC.block (WC.region (WL.mv rfl rfl (WL.mv rfl rfl ?_)))))
   refine WL.call (vs := [_]) Tryz.call161 ⟨OV.p rfl, trivial⟩ (AU (by omega) (hcy k Qq)) rfl ?_
   rintro _ _ ⟨g2, c2, hm1, hm2, rfl, rfl⟩
   have hms : ∀ {H : List aj}, Seq K (Cells g2 5 (aA .u8 (oG (pk ((2 * k + 1 : Nat) : Int) 13))) :: H) (some ⟨g2, 0, none⟩) (mQ ((2 * k + 1 : Nat) : Int)).length 1 (aA .u8 (mQ ((2 * k + 1 : Nat) : Int))) := fun {H} => Seq.here (by rw [aG]; omega) (by rw [List.drop_zero]; exact lN (List.take_prefix _ _))
   refine WL.call (vs := [_, _]) Tryz.call149 ⟨OV.p rfl, OV.p rfl, trivial⟩ (Cb (ps := dF k) (qs := mQ ((2 * k + 1 : Nat) : Int)) (by repeat (first | exact hgs | apply Seq.up)) hms ho3 TN (by omega)) rfl ?_
   rintro _ _ ⟨g3, rfl, rfl⟩
   refine WL.sg rfl rfl (WL.nil (WC.region (WL.mv rfl rfl (WL.ad rfl rfl rfl ?_))))
   refine WL.sg rfl rfl (WL.nil ?_)
   refine ⟨rfl, ?_⟩
   have hnl := eF (fF (dF k) (mQ ((2 * k + 1 : Nat) : Int))) ((dF k).length + (mQ ((2 * k + 1 : Nat) : Int)).length + 1)
   have hbl : (fF (dF k) (mQ ((2 * k + 1 : Nat) : Int))).length = (dF k).length + (mQ ((2 * k + 1 : Nat) : Int)).length + 1 := by unfold fF; rw [fC]
   have hgl : (dF (k + 1)).length = aF (fF (dF k) (mQ ((2 * k + 1 : Nat) : Int))) ((dF k).length + (mQ ((2 * k + 1 : Nat) : Int)).length + 1) := by rw [dF, List.length_take, hbl]; omega
   exact ⟨(k + 1, g3, fF (dF k) (mQ ((2 * k + 1 : Nat) : Int)), (dF k).length + (mQ ((2 * k + 1 : Nat) : Int)).length + 1), ⟨by show k + 1 ≤ t; omega, by rw [hgl]; exact hnl, by rw [hgl]; rfl⟩, (by show t - (k + 1) < t - k; omega), .cons rfl (.cons (look_eq rfl (by rw [hgl])) (.cons (look_eq rfl (by simp; omega)) (.nil _))), fun w h => h.sel 3 [0] rfl⟩
  ·simp only [decide_eq_true_eq, decide_eq_false_iff_not] at hc1
   refine WC.exit (WC.sr (WL.mv rfl rfl (WL.sg rfl rfl (WL.sg rfl rfl (WL.nil (WC.ret ?_))))))
   obtain rfl : k = t := by omega
   exact ak.ret (H' := Cells g _ _ :: F) (aQ.fG rfl rfl rfl) (fun w h => h) ⟨g, full, cp, rfl, hcp, hfu, rfl⟩
end
end Go.Proofs.YtcmojpiokjhmhaaGreat
