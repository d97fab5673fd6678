import Derived.Test.YtcedojacbhnbiaaGreatP9
namespace Go.Proofs.YtcedojacbhnbiaaGreat
open Go.Sl Go.RowKit
set_option linter.unusedVariables false
set_option linter.unusedSimpArgs false
set_option maxRecDepth 20000
theorem BJ {a b : Nat} (ha : a < 256) (hb : b < 256) : bitsOf .xor .u8 (a : Int) (b : Int) = ((a ^^^ b : Nat) : Int) := by
  have h : a ^^^ b < 2 ^ 8 := Nat.xor_lt_two_pow ha hb
  unfold bitsOf
  dsimp only
  rw [eu, eu, BitVec.toNat_xor, BitVec.toNat_ofNat, BitVec.toNat_ofNat]
  have e1 : a % 2 ^ IntKind.u8.bits = a := Nat.mod_eq_of_lt (by show a < 2 ^ 8; omega)
  have e2 : b % 2 ^ IntKind.u8.bits = b := Nat.mod_eq_of_lt (by show b < 2 ^ 8; omega)
  rw [e1, e2]
  show IntKind.u8.wrap _ = _
  rw [sP]
  omega
theorem sD {a : Nat} (ha : a < 256) : bitsOf .and .u8 (a : Int) 1 = ((a % 2 : Nat) : Int) := by
  unfold bitsOf
  dsimp only
  rw [show (1 : Int) = ((1 : Nat) : Int) from rfl, eu, eu, BitVec.toNat_and, BitVec.toNat_ofNat, BitVec.toNat_ofNat]
  have e1 : a % 2 ^ IntKind.u8.bits = a := Nat.mod_eq_of_lt (by show a < 2 ^ 8; omega)
  have e2 : 1 % 2 ^ IntKind.u8.bits = 1 := rfl
  rw [e1, e2, Nat.and_one_is_mod]
  show IntKind.u8.wrap _ = _
  rw [sP]
  omega
theorem wU {a j k : Nat} (hj : j ≤ k) : (a : Int).fdiv (2 ^ (min (j : Int).toNat k)) = ((a / 2 ^ j : Nat) : Int) := by
  have e : min (j : Int).toNat k = j := by omega
  rw [e, Int.fdiv_eq_ediv_of_nonneg _ (by have : (0 : Int) ≤ 2 ^ j := Int.pow_nonneg (by decide); exact this)]
  simp
theorem MC {a j : Nat} (ha : a < 256) (hj : j < 8) : IntKind.u16.wrap ((a : Int) * 2 ^ (min (j : Int).toNat IntKind.u16.bits)) = ((a * 2 ^ j : Nat) : Int) := by
  have e1 : min (j : Int).toNat IntKind.u16.bits = j := by show min _ 16 = _; omega
  have h1 : 2 ^ j ≤ 2 ^ 7 := Nat.pow_le_pow_right (by decide) (by omega)
  have h2 : a * 2 ^ j ≤ 255 * 128 := Nat.mul_le_mul (by omega) h1
  have e2 : (a : Int) * 2 ^ j = ((a * 2 ^ j : Nat) : Int) := by simp
  rw [e1, e2]
  simp only [IntKind.wrap, IntKind.bits, IntKind.signed]
  simp
  omega
theorem lu {k : IntKind} {xs ys : List Nat} (h : xs <+: ys) : aB k xs <+: aB k ys := h.map _
def aR (p : List Nat) (i : Nat) : Bool := (p.getD (i / 8) 0).testBit (i % 8)
def iT (out p : List Nat) (at_ : Nat) : Nat → List Nat
  | 0 => out
  | j + 1 =>
    let o := iT out p at_ j
    let w := p.getD j 0 * 2 ^ (at_ % 8)
    let o1 := o.set (j + at_ / 8) (o.getD (j + at_ / 8) 0 ^^^ w % 256)
    if 255 < w then o1.set (j + at_ / 8 + 1) (o1.getD (j + at_ / 8 + 1) 0 ^^^ w / 256) else o1
theorem jd (out p : List Nat) (at_ : Nat) : ∀ j, (iT out p at_ j).length = out.length
  | 0 => rfl
  | j + 1 => by
    rw [iT]
    split <;> simp [jd out p at_ j]
theorem kS {out p : List Nat} {at_ : Nat} (h : Small 256 out) (hp : Small 256 p) : ∀ j, Small 256 (iT out p at_ j)
  | 0 => h
  | j + 1 => by
    have ih := kS (at_ := at_) h hp j
    have h1 := ih.set (i := j + at_ / 8) (cB (k := 8) (ih.at_ (by decide) (j + at_ / 8)) (Nat.mod_lt (p.getD j 0 * 2 ^ (at_ % 8)) (y := 256) (by decide)))
    rw [iT]
    split
    · refine h1.set (cB (k := 8) (h1.at_ (by decide) _) ?_)
      have h2 : 2 ^ (at_ % 8) ≤ 2 ^ 7 := Nat.pow_le_pow_right (by decide) (by omega)
      have h3 : p.getD j 0 * 2 ^ (at_ % 8) ≤ 255 * 128 := Nat.mul_le_mul (by have := hp.at_ (by decide) j; omega) h2
      omega
    · exact h1
def gY (p q : List Nat) : Nat → List Nat
  | 0 => List.replicate (p.length + q.length + 1) 0
  | i + 1 => if aR p i then iT (gY p q i) q i q.length else gY p q i
def fD (p q : List Nat) : List Nat := gY p q (8 * p.length)
theorem eX (p q : List Nat) : ∀ i, (gY p q i).length = p.length + q.length + 1
  | 0 => List.length_replicate
  | i + 1 => by rw [gY]; split; rw [jd, eX]; exact eX p q i
theorem kr {p q : List Nat} (hq : Small 256 q) : ∀ i, Small 256 (gY p q i)
  | 0 => Small.uQ (by decide)
  | i + 1 => by rw [gY]; split; exact kS (kr hq i) hq _; exact kr hq i
section
variable {K : World} {F : List au}
theorem AP {A : Option Addr} {m cap i : Nat} {xs : List Nat} (hs : Seq K F A m 1 (aB .u8 xs)) (hx : Small 256 xs) (hi : i < 8 * m) (hm : m ≤ 1000000) : aG Tryz.prog 322 #[.slice A m cap, .int .i64 (i : Int)] K F (.bool (aR xs i)) := by
  have nZ : Rd K F (A.map (·.add (((i : Int) / 8).toNat * 1))) (.int .u8 (xs.getD (i / 8) 0 : Nat)) := by
    rw [show ((i : Int) / 8).toNat = i / 8 by omega]; exact hs.gK (by omega)
  have hb := hx.at_ (by decide) (i / 8)
  refine Does.enter Tryz.func322 rfl Tryz.ntmps322 rfl ?_
  simp only [aJ, Nat.reduceAdd]
  refine WC.sr (WL.sg rfl rfl (WL.nil (WC.sr (WL.mv rfl rfl (WL.mv rfl rfl ?_)))))
  refine WL.val (V.rR (OV.p rfl) (OV.p rfl) (fun hc => by first | omega | (simp at hc; omega))) rfl ?_
  refine WL.val (V.fu dB (OV.p rfl) (OV.p rfl) (fun hc => by omega) (fun hc => nZ)) rfl ?_
  refine WL.val (V.load Tryz.isAgg5 (OV.p rfl) (fun hc => nZ)) rfl ?_
  refine WL.mv rfl rfl ?_
  refine WL.val (V.aA (v' := .int .i64 ((i % 8 : Nat) : Int)) (V.qH (OV.p rfl) (OV.p rfl) (fun _ => by omega)) (fun _ => by simp)) rfl ?_
  refine WL.val (V.aA (v' := .int .u8 ((xs.getD (i / 8) 0 / 2 ^ (i % 8) : Nat) : Int)) (V.shr (OV.p rfl) (OV.p rfl) (by omega)) (fun _ => by rw [wU (by show i % 8 ≤ 8; omega)])) rfl ?_
  refine WL.val (V.aA (v' := .int .u8 ((xs.getD (i / 8) 0 / 2 ^ (i % 8) % 2 : Nat) : Int)) (V.and (OV.p rfl) (OV.p rfl)) (fun _ => by rw [sD (Nat.lt_of_le_of_lt (Nat.div_le_self _ _) hb)])) rfl ?_
  refine WL.val (V.eql (OV.p rfl) (OV.p rfl)) rfl (WL.sg rfl rfl (WL.nil (WC.ret ?_)))
  refine aj.ret (H' := F) (aL.tmp rfl rfl) (fun w h => h) ⟨?_, rfl⟩
  congr 1
  unfold aR
  rw [Nat.testBit_eq_decide_div_mod_eq]
  apply decide_eq_decide.2
  omega
theorem AB {g N cap : Nat} {out : List Nat} {B : Option Addr} {m cap' : Nat} {p : List Nat} {at_ : Nat} (hN : out.length = N) (ho : Small 256 out) (hs : Seq K F B m 1 (aB .u8 p)) (hp : Small 256 p) (hat : m + at_ / 8 < N) (hcap : N ≤ 1000000) :
    Does Tryz.prog 323 #[.slice (some ⟨g, 0, none⟩) N cap, .slice B m cap', .int .i64 (at_ : Int)] K (Cells g 5 (aB .u8 out) :: F)
      (fun v H' => H' = Cells g 5 (aB .u8 (iT out p at_ m)) :: F) := by
  have hl : p.length = m := by simpa [aB] using hs.len
  have RN : at_ < 8000008 := by omega
  refine Does.enter Tryz.func323 rfl Tryz.ntmps323 rfl ?_
  simp only [aJ, Nat.reduceAdd]
  refine WC.sr (WL.mv rfl rfl (WL.val (V.len (t := 34) Tryz.runUnderlying34 (OV.p rfl)) rfl (WL.mv rfl rfl (WL.nil (WC.block ?_)))))
  refine WC.loop (σ := Nat) (fun j => [(0, .slice (some ⟨g, 0, none⟩) N cap), (2, .int .i64 (at_ : Int)), (9, .slice B m cap'), (10, .int .i64 (m : Int)), (11, .int .i64 (j : Int))]) (fun j => Cells g 5 (aB .u8 (iT out p at_ j)) :: F) (fun j => j ≤ m) (fun j => m - j) 0 (Nat.zero_le _) (.cons rfl (.cons rfl (.cons rfl (.cons rfl (.cons rfl (.nil _)))))) (fun w h => h) ?_
  rintro j hj
  refine WC.sr (WL.val (V.lss (OV.p rfl) (OV.p rfl)) rfl (WL.nil (WC.seq ?_)))
  refine WC.cond rfl (fun hc0 => ?_) (fun hc0 => ?_)
  ·simp only [decide_eq_true_eq, decide_eq_false_iff_not] at hc0
   refine WC.skip (WC.seq (WC.block (WC.seq ?_)))
   have hjm : j < m := by omega
   obtain ⟨o, ho1⟩ : ∃ o, o = iT out p at_ j := ⟨_, rfl⟩
   have hol : o.length = N := by rw [ho1, jd]; exact hN
   have hos : Small 256 o := by rw [ho1]; exact kS ho hp j
   rw [← ho1]
   obtain ⟨x, hx⟩ : ∃ x, x = p.getD j 0 := ⟨_, rfl⟩
   have Oi : x < 256 := by rw [hx]; exact hp.at_ (by decide) j
   have nZ : Rd K (Cells g 5 (aB .u8 o) :: F) (B.map (·.add ((j : Int).toNat * 1))) (.int .u8 (x : Nat)) := by
     rw [show (j : Int).toNat = j by omega, hx]; exact (hs.gK (by omega)).up
   obtain ⟨wv, hwv⟩ : ∃ wv, wv = x * 2 ^ (at_ % 8) := ⟨_, rfl⟩
   have hw16 : wv < 32768 := by
     have h2 : 2 ^ (at_ % 8) ≤ 2 ^ 7 := Nat.pow_le_pow_right (by decide) (by omega)
     have h3 : x * 2 ^ (at_ % 8) ≤ 255 * 128 := Nat.mul_le_mul (by omega) h2
     omega
   obtain ⟨o1, ho2⟩ : ∃ o1, o1 = o.set (j + at_ / 8) (o.getD (j + at_ / 8) 0 ^^^ wv % 256) := ⟨_, rfl⟩
   have RP : o1.length = N := by rw [ho2, List.length_set]; exact hol
   have PO : Small 256 o1 := by rw [ho2]; exact hos.set (cB (k := 8) (hos.at_ (by decide) _) (Nat.mod_lt _ (by decide)))
   have hstep : iT out p at_ (j + 1) = if 255 < wv then o1.set (j + at_ / 8 + 1) (o1.getD (j + at_ / 8 + 1) 0 ^^^ wv / 256) else o1 := by rw [iT, ← ho1, ← hx, ← hwv, ← ho2]
   have hg1 : (aB .u8 o)[0 + (((j : Int) + (at_ : Int) / 8)).toNat * 1]? = some (.int .u8 (o.getD (j + at_ / 8) 0 : Nat)) := by rw [show 0 + (((j : Int) + (at_ : Int) / 8)).toNat * 1 = j + at_ / 8 by omega]; exact l8 _ _ (by omega)
   have hg2 : (aB .u8 o1)[0 + (((j : Int) + (at_ : Int) / 8 + 1)).toNat * 1]? = some (.int .u8 (o1.getD (j + at_ / 8 + 1) 0 : Nat)) := by rw [show 0 + (((j : Int) + (at_ : Int) / 8 + 1)).toNat * 1 = j + at_ / 8 + 1 by omega]; exact l8 _ _ (by omega)
   refine WC.region (WL.mv rfl rfl ?_)
   refine WL.val (V.fu dB (OV.p rfl) (OV.p rfl) (fun hc => by omega) (fun hc => nZ)) rfl ?_
   refine WL.val (V.load Tryz.isAgg5 (OV.p rfl) (fun hc => nZ)) rfl ?_
   refine WL.sg rfl rfl (WL.sg rfl rfl (WL.nil (WC.sr (WL.mv rfl rfl ?_))))
   refine WL.val (V.tX Tryz.runUnderlying5 Tryz.runUnderlying401 (OV.p rfl) (fun _ => by simp only [IntKind.wrap, IntKind.bits, IntKind.signed]; simp; omega)) rfl ?_
   refine WL.mv rfl rfl ?_
   refine WL.val (V.aA (v' := .int .i64 ((at_ % 8 : Nat) : Int)) (V.qH (OV.p rfl) (OV.p rfl) (fun _ => by omega)) (fun _ => by simp)) rfl ?_
   refine WL.val (V.aA (v' := .int .u16 (wv : Int)) (V.shl (OV.p rfl) (OV.p rfl) (by omega)) (fun _ => by rw [MC Oi (by omega), hwv])) rfl ?_
   refine WL.sg rfl rfl (WL.nil (WC.sr (WL.mv rfl rfl (WL.mv rfl rfl (WL.mv rfl rfl ?_)))))
   refine WL.val (V.rR (OV.p rfl) (OV.p rfl) (fun hc => by first | omega | (simp at hc; omega))) rfl ?_
   refine WL.ad rfl rfl rfl ?_
   refine WL.val (V.bP dB (OV.p rfl) (OV.p rfl) (fun hc => by omega)) rfl ?_
   refine WL.val (V.load Tryz.isAgg5 (OV.p rfl) (fun hc => Rd.here hg1)) rfl ?_
   refine WL.mv rfl rfl ?_
   refine WL.val (V.aA (v' := .int .u8 ((wv % 256 : Nat) : Int)) (V.iM Tryz.runUnderlying401 Tryz.runUnderlying5 (OV.p rfl)) (fun _ => by rw [sP])) rfl ?_
   refine WL.val (V.aA (v' := .int .u8 ((o.getD (j + at_ / 8) 0 ^^^ wv % 256 : Nat) : Int)) (V.xor (OV.p rfl) (OV.p rfl)) (fun _ => by rw [BJ (hos.at_ (by decide) _) (Nat.mod_lt _ (by decide))])) rfl ?_
   refine WL.val (V.bP dB (OV.p rfl) (OV.p rfl) (fun hc => by omega)) rfl ?_
   refine WL.store (cs := [_]) Tryz.sizeOf5 (OV.p rfl) (OV.p rfl) rfl rfl rfl (aQ.at_ (by rw [aH]; omega)) ?_
   rw [show 0 + (((j : Int) + (at_ : Int) / 8)).toNat * 1 = j + at_ / 8 by omega, iZ, ← ho2]
   refine WL.nil (WC.sr (WL.mv rfl rfl (WL.val (V.gtr (OV.p rfl) (OV.p rfl)) rfl (WL.nil ?_))))
   refine WC.cond rfl (fun hc1 => ?_) (fun hc1 => ?_)
   ·simp only [decide_eq_true_eq, decide_eq_false_iff_not] at hc1
    rw [if_pos (by omega)] at hstep
    refine WC.region (WL.mv rfl rfl (WL.mv rfl rfl (WL.mv rfl rfl ?_)))
    refine WL.val (V.rR (OV.p rfl) (OV.p rfl) (fun hc => by first | omega | (simp at hc; omega))) rfl ?_
    refine WL.ad rfl rfl rfl ?_
    refine WL.ad rfl rfl rfl ?_
    refine WL.val (V.bP dB (OV.p rfl) (OV.p rfl) (fun hc => by omega)) rfl ?_
    refine WL.val (V.load Tryz.isAgg5 (OV.p rfl) (fun hc => Rd.here hg2)) rfl ?_
    refine WL.mv rfl rfl ?_
    refine WL.val (V.aA (v' := .int .u16 ((wv / 256 : Nat) : Int)) (V.shr (OV.p rfl) (OV.p rfl) (by decide)) (fun _ => by rw [show (8 : Int) = ((8 : Nat) : Int) from rfl, wU (by show 8 ≤ 16; decide)])) rfl ?_
    refine WL.val (V.aA (v' := .int .u8 ((wv / 256 : Nat) : Int)) (V.iM Tryz.runUnderlying401 Tryz.runUnderlying5 (OV.p rfl)) (fun _ => by rw [sP]; congr 2; omega)) rfl ?_
    refine WL.val (V.aA (v' := .int .u8 ((o1.getD (j + at_ / 8 + 1) 0 ^^^ wv / 256 : Nat) : Int)) (V.xor (OV.p rfl) (OV.p rfl)) (fun _ => by rw [BJ (PO.at_ (by decide) _) (by omega)])) rfl ?_
    refine WL.val (V.bP dB (OV.p rfl) (OV.p rfl) (fun hc => by omega)) rfl ?_
    refine WL.store (cs := [_]) Tryz.sizeOf5 (OV.p rfl) (OV.p rfl) rfl rfl rfl (aQ.at_ (by rw [aH]; omega)) ?_
    rw [show 0 + (((j : Int) + (at_ : Int) / 8 + 1)).toNat * 1 = j + at_ / 8 + 1 by omega, iZ]
    refine WL.nil (WC.region (WL.ad rfl rfl rfl ?_))
    refine WL.mv rfl rfl (WL.nil ?_)
    refine ⟨rfl, ?_⟩
    exact ⟨j + 1, (by show j + 1 ≤ m; omega), (by show m - (j + 1) < m - j; omega), .cons rfl (.cons rfl (.cons rfl (.cons rfl (.cons (look_eq rfl (by simp)) (.nil _))))), fun w h => Sat.aV h (by rw [hstep])⟩
   ·simp only [decide_eq_true_eq, decide_eq_false_iff_not] at hc1
    rw [if_neg (by omega)] at hstep
    refine WC.skip (WC.region (WL.ad rfl rfl rfl ?_))
    refine WL.mv rfl rfl (WL.nil ?_)
    refine ⟨rfl, ?_⟩
    exact ⟨j + 1, (by show j + 1 ≤ m; omega), (by show m - (j + 1) < m - j; omega), .cons rfl (.cons rfl (.cons rfl (.cons rfl (.cons (look_eq rfl (by simp)) (.nil _))))), fun w h => Sat.aV h (by rw [hstep])⟩
  ·simp only [decide_eq_true_eq, decide_eq_false_iff_not] at hc0
   refine WC.exit ?_
   obtain rfl : j = m := by omega
   exact aj.normal (H' := Cells g _ _ :: F) (aL.none rfl) (fun w h => h) rfl
theorem AO {q cap' m tH : Nat} {A B : Option Addr} {ps qs : List Nat} (hs : Seq K F A m 1 (aB .u8 ps)) (hq : Seq K F B q 1 (aB .u8 qs)) (Jq : Small 256 ps) (hq8 : Small 256 qs) (hcap : ps.length + qs.length ≤ 100000) :
    Does Tryz.prog 281 #[.slice A m tH, .slice B q cap'] K F
      (fun v H' => ∃ g, v = .slice (some ⟨g, 0, none⟩) (aC (fD ps qs) (ps.length + qs.length + 1)) (ps.length + qs.length + 1) ∧ H' = Cells g 5 (aB .u8 (fD ps qs)) :: F) := by
  have hl : ps.length = m := by simpa [aB] using hs.len
  have zN : qs.length = q := by simpa [aB] using hq.len
  refine Does.enter Tryz.func281 rfl Tryz.ntmps281 rfl ?_
  simp only [aJ, Nat.reduceAdd]
  refine WC.sr (WL.sg rfl rfl (WL.nil (WC.sr (WL.mv rfl rfl (WL.val (V.len (t := 34) Tryz.runUnderlying34 (OV.p rfl)) rfl (WL.mv rfl rfl (WL.val (V.len (t := 34) Tryz.runUnderlying34 (OV.p rfl)) rfl (WL.ad rfl rfl rfl ?_))))))))
  refine WL.ad rfl rfl rfl ?_
  refine WL.l7 (m := m + q + 1) Tryz.underlying34 vP (OV.p rfl) (OV.p rfl) (by omega) (by omega) (by omega) rfl rfl rfl (fun b13 => ?_)
  refine WL.sg rfl rfl (WL.nil (WC.seq (WC.sr (WL.mv rfl rfl (WL.val (V.len (t := 34) Tryz.runUnderlying34 (OV.p rfl)) rfl ?_)))))
  refine WL.val (V.jQ (OV.p rfl) (OV.p rfl) (fun hc => by first | omega | (simp at hc; omega))) rfl ?_
  refine WL.mv rfl rfl (WL.nil (WC.block ?_))
  refine WC.loop (σ := Nat) (fun j => [(0, .slice A m tH), (1, .slice B q cap'), (5, .slice (some ⟨b13, 0, none⟩) (m + q + 1) (m + q + 1)), (16, .int .i64 (8 * (m : Int))), (17, .int .i64 (j : Int))]) (fun j => Cells b13 5 (aB .u8 (gY ps qs j)) :: F) (fun j => j ≤ 8 * m) (fun j => 8 * m - j) 0 (Nat.zero_le _) (.cons rfl (.cons rfl (.cons rfl (.cons rfl (.cons rfl (.nil _)))))) (fun w h => Sat.aV h (by rw [gY, hl, zN, dh]; rfl)) ?_
  rintro j hj
  refine WC.sr (WL.val (V.lss (OV.p rfl) (OV.p rfl)) rfl (WL.nil (WC.seq ?_)))
  refine WC.cond rfl (fun hc0 => ?_) (fun hc0 => ?_)
  ·simp only [decide_eq_true_eq, decide_eq_false_iff_not] at hc0
   refine WC.skip (WC.seq (WC.block (WC.sr (WL.mv rfl rfl (WL.sg rfl rfl (WL.nil (WC.sr (WL.mv rfl rfl (WL.mv rfl rfl ?_)))))))))
   refine WL.call (vs := [_, _]) Tryz.call322 ⟨OV.p rfl, OV.p rfl, trivial⟩ (AP (by repeat (first | exact hs | apply Seq.up)) Jq (by omega) (by omega)) rfl ?_
   rintro _ H0 ⟨rfl, h0⟩
   subst H0
   refine WL.nil ?_
   refine WC.cond rfl (fun hc1 => ?_) (fun hc1 => ?_)
   ·skip
    have h1 := hc1
    refine WC.region (WL.mv rfl rfl (WL.mv rfl rfl (WL.mv rfl rfl ?_)))
    refine WL.call (vs := [_, _, _]) Tryz.call323 ⟨OV.p rfl, OV.p rfl, OV.p rfl, trivial⟩ (AB (N := m + q + 1) (by rw [eX, hl, zN]) (kr hq8 j) hq hq8 (by omega) (by omega)) rfl ?_
    rintro v1 _ rfl
    refine WL.nil (WC.region (WL.ad rfl rfl rfl ?_))
    refine WL.mv rfl rfl (WL.nil ?_)
    refine ⟨rfl, ?_⟩
    refine ⟨j + 1, (by show j + 1 ≤ 8 * m; omega), (by show 8 * m - (j + 1) < 8 * m - j; omega), .cons rfl (.cons rfl (.cons rfl (.cons rfl (.cons (look_eq rfl (by simp)) (.nil _))))), fun w h => Sat.aV h ?_⟩
    rw [gY, h1]
    simp [zN]
   ·skip
    have h1 := hc1
    refine WC.skip (WC.region (WL.ad rfl rfl rfl ?_))
    refine WL.mv rfl rfl (WL.nil ?_)
    refine ⟨rfl, ?_⟩
    refine ⟨j + 1, (by show j + 1 ≤ 8 * m; omega), (by show 8 * m - (j + 1) < 8 * m - j; omega), .cons rfl (.cons rfl (.cons rfl (.cons rfl (.cons (look_eq rfl (by simp)) (.nil _))))), fun w h => Sat.aV h ?_⟩
    rw [gY, h1]
    simp [zN]
  ·simp only [decide_eq_true_eq, decide_eq_false_iff_not] at hc0
   refine WC.exit (WC.seq ?_)
   obtain rfl : j = 8 * m := by omega
   have Qu : gY ps qs (8 * m) = fD ps qs := by unfold fD; rw [hl]
   rw [Qu]
   have hbl : (fD ps qs).length = m + q + 1 := by unfold fD; rw [eX, hl, zN]
   refine WC.region (WL.mv rfl rfl ?_)
   refine WL.call (vs := [_]) Tryz.call320 ⟨OV.p rfl, trivial⟩ (kE (xs := fD ps qs) (Seq.wL hbl) (Nat.le_refl _) (by omega)) rfl ?_
   rintro _ H0 ⟨rfl, h0⟩
   subst H0
   refine WL.sg rfl rfl (WL.nil (WC.ret ?_))
   exact aj.ret (H' := Cells b13 _ _ :: F) (aL.tmp rfl rfl) (fun w h => h) ⟨b13, by rw [hl, zN], rfl⟩
end
def len8 (x : Nat) : Nat := if x = 0 then 0 else Nat.log2 x + 1
theorem Mi {s : ByteArray} (h : ((List.range 256).all fun x => decide (s[x]? = some (UInt8.ofNat (len8 x)))) = true) {x : Nat} (hx : x < 256) : s[x]? = some (UInt8.ofNat (len8 x)) := by
  have := List.all_eq_true.1 h x (List.mem_range.2 hx)
  exact of_decide_eq_true this
theorem G7 {x : Nat} (h : x < 256) : len8 x ≤ 8 := by
  unfold len8
  split
  · omega
  · rename_i h0
    have := (Nat.log2_lt h0 (k := 8)).2 h
    omega
def Gd (xs : List Nat) (m : Nat) : Int := if aC xs m = 0 then -1 else 8 * (aC xs m : Int) - 8 + (len8 (xs.getD (aC xs m - 1) 0) : Nat) - 1
def dS (p q : List Nat) (lq d : Nat) : Nat → List Nat
  | 0 => p ++ [0]
  | k + 1 => if aR (dS p q lq d k) (8 * p.length - 1 - k) then iT (dS p q lq d k) q (8 * p.length - 1 - k - d) lq else dS p q lq d k
theorem dG (p q : List Nat) (lq d : Nat) : ∀ k, (dS p q lq d k).length = p.length + 1
  | 0 => by simp [dS]
  | k + 1 => by rw [dS]; split; rw [jd, dG]; exact dG p q lq d k
theorem fI {p q : List Nat} {lq d : Nat} (hp : Small 256 p) (hq : Small 256 q) : ∀ k, Small 256 (dS p q lq d k)
  | 0 => hp.append (fun x hx => by simp at hx; omega)
  | k + 1 => by rw [dS]; split; exact kS (fI hp hq k) hq _; exact fI hp hq k
section
variable {K : World} {F : List au}
theorem bits_Len8 {x : Nat} (hx : x < 256) : aG Tryz.prog 337 #[.int .u8 (x : Int)] K F (.int .i64 (len8 x : Nat)) := by
  have hl := G7 hx
  have h8 : (UInt8.ofNat (len8 x)).toNat = len8 x := by rw [UInt8.toNat_ofNat']; omega
  refine Does.enter Tryz.func337 rfl Tryz.ntmps337 rfl ?_
  simp only [aJ, Nat.reduceAdd]
  refine WC.sr (WL.sg rfl rfl (WL.nil (WC.sr (WL.mv rfl rfl ?_))))
  refine WL.val (V.NW (b := UInt8.ofNat (len8 x)) Tryz.underlying9 (OV.p rfl) (OV.p rfl) (fun _ => ⟨by omega, by rw [show ((x : Nat) : Int).toNat = x by omega]; exact Mi (by kernel_rfl) hx⟩)) rfl ?_
  refine WL.val (V.tX Tryz.runUnderlying5 Tryz.runUnderlying3 (OV.p rfl) (fun _ => wrap_i64 (by omega))) rfl ?_
  refine WL.sg rfl rfl (WL.nil (WC.ret ?_))
  exact aj.ret (H' := F) (aL.tmp rfl rfl) (fun w h => h) ⟨by rw [h8], rfl⟩
theorem Cm {A : Option Addr} {m cap : Nat} {xs : List Nat} (hs : Seq K F A m 1 (aB .u8 xs)) (hx : Small 256 xs) (hcap : m ≤ cap) (hm : m ≤ 100000) : aG Tryz.prog 321 #[.slice A m cap] K F (.int .i64 (Gd xs m)) := by
  have hn := dV xs m
  refine Does.enter Tryz.func321 rfl Tryz.ntmps321 rfl ?_
  simp only [aJ, Nat.reduceAdd]
  refine WC.sr (WL.sg rfl rfl (WL.nil (WC.sr (WL.mv rfl rfl ?_))))
  refine WL.call (vs := [_]) Tryz.call320 ⟨OV.p rfl, trivial⟩ (kE hs hcap (by omega)) rfl ?_
  rintro _ H0 ⟨rfl, h0⟩
  subst H0
  refine WL.sg rfl rfl (WL.nil (WC.seq (WC.sr (WL.mv rfl rfl (WL.val (V.len (t := 34) Tryz.runUnderlying34 (OV.p rfl)) rfl (WL.val (V.eql (OV.p rfl) (OV.p rfl)) rfl (WL.nil ?_)))))))
  refine WC.cond rfl (fun hc0 => ?_) (fun hc0 => ?_)
  ·simp only [decide_eq_true_eq, decide_eq_false_iff_not] at hc0
   refine WC.sr (WL.sg rfl rfl (WL.nil (WC.ret ?_)))
   refine aj.ret (H' := F) (aL.tmp rfl rfl) (fun w h => h) ⟨?_, rfl⟩
   unfold Gd; rw [if_pos (by omega)]
  ·simp only [decide_eq_true_eq, decide_eq_false_iff_not] at hc0
   refine WC.skip (WC.seq ?_)
   have hrd : Rd K F (A.map (·.add (((aC xs m : Int) - 1).toNat * 1))) (.int .u8 (xs.getD (aC xs m - 1) 0 : Nat)) := by
     rw [show ((aC xs m : Int) - 1).toNat = aC xs m - 1 by omega]; exact hs.gK (by omega)
   have hb := hx.at_ (by decide) (aC xs m - 1)
   have SV := G7 hb
   refine WC.region (WL.mv rfl rfl (WL.val (V.len (t := 34) Tryz.runUnderlying34 (OV.p rfl)) rfl ?_))
   refine WL.val (V.jQ (OV.p rfl) (OV.p rfl) (fun hc => by first | omega | (simp at hc; omega))) rfl ?_
   refine WL.sb rfl rfl rfl ?_
   refine WL.mv rfl rfl (WL.mv rfl rfl (WL.val (V.len (t := 34) Tryz.runUnderlying34 (OV.p rfl)) rfl (WL.sb rfl rfl rfl ?_)))
   refine WL.val (V.fu dB (OV.p rfl) (OV.p rfl) (fun hc => by omega) (fun hc => hrd)) rfl ?_
   refine WL.val (V.load Tryz.isAgg5 (OV.p rfl) (fun hc => hrd)) rfl ?_
   refine WL.call (vs := [_]) Tryz.call337 ⟨OV.p rfl, trivial⟩ (bits_Len8 hb) rfl ?_
   rintro _ H0 ⟨rfl, h0⟩
   subst H0
   refine WL.ad rfl rfl rfl ?_
   refine WL.sb rfl rfl rfl ?_
   refine WL.sg rfl rfl (WL.nil (WC.ret ?_))
   refine aj.ret (H' := F) (aL.tmp rfl rfl) (fun w h => h) ⟨?_, rfl⟩
   unfold Gd; rw [if_neg (by omega)]
theorem Ib {q cap' m tH : Nat} {A B : Option Addr} {ps qs : List Nat} {d : Nat} (hs : Seq K F A m 1 (aB .u8 ps)) (hq : Seq K F B q 1 (aB .u8 qs)) (Jq : Small 256 ps) (hq8 : Small 256 qs) (hqc : q ≤ cap') (hcap : ps.length + qs.length ≤ 100000)
    (hd : Gd qs q = (d : Int)) (hdd : Gd (qs.take (aC qs q)) (aC qs q) = (d : Int)) (hld : aC qs q = d / 8 + 1) :
    Does Tryz.prog 280 #[.slice A m tH, .slice B q cap'] K F
      (fun v H' => ∃ g, v = .tuple #[.slice (some ⟨g, 0, none⟩) (aC (dS ps (qs.take (aC qs q)) (aC qs q) d (8 * m - d)) (m + 1)) (m + 1), .int .i64 0] ∧ H' = Cells g 5 (aB .u8 (dS ps (qs.take (aC qs q)) (aC qs q) d (8 * m - d))) :: F) := by
  have hl : ps.length = m := by simpa [aB] using hs.len
  have zN : qs.length = q := by simpa [aB] using hq.len
  have hnl := dV qs q
  obtain ⟨lq, hlq⟩ : ∃ lq, lq = aC qs q := ⟨_, rfl⟩
  obtain ⟨Q0, Po⟩ : ∃ Q0, Q0 = qs.take (aC qs q) := ⟨_, rfl⟩
  have Sy : Q0.length = lq := by rw [Po, List.length_take, hlq]; omega
  have Pk : Small 256 Q0 := by rw [Po]; exact hq8.take
  have QL : Seq K F B lq 1 (aB .u8 Q0) := by rw [Po, hlq, ← fZ]; exact Seq.take hq hnl
  rw [← Po, ← hlq] at hdd ⊢
  rw [← hlq] at hld hnl
  obtain ⟨kk, hkk⟩ : ∃ kk, kk = 8 * m - d := ⟨_, rfl⟩
  rw [← hkk]
  refine Does.enter Tryz.func280 rfl Tryz.ntmps280 rfl ?_
  simp only [aJ, Nat.reduceAdd]
  refine WC.sr (WL.sg rfl rfl (WL.sg rfl rfl (WL.nil (WC.sr (WL.mv rfl rfl ?_)))))
  refine WL.call (vs := [_]) Tryz.call320 ⟨OV.p rfl, trivial⟩ (aG.eq (v' := .slice B lq cap') (kE hq hqc (by omega)) (by rw [hlq])) rfl ?_
  rintro _ H0 ⟨rfl, h0⟩
  subst H0
  refine WL.sg rfl rfl (WL.nil (WC.sr (WL.mv rfl rfl ?_)))
  refine WL.call (vs := [_]) Tryz.call321 ⟨OV.p rfl, trivial⟩ (aG.eq (v' := .int .i64 (d : Int)) (Cm QL Pk (by omega) (by omega)) (by rw [hdd])) rfl ?_
  rintro _ H0 ⟨rfl, h0⟩
  subst H0
  refine WL.sg rfl rfl (WL.nil (WC.seq (WC.sr (WL.mv rfl rfl (WL.val (V.lss (OV.p rfl) (OV.p rfl)) rfl (WL.nil ?_))))))
  refine WC.aM rfl ((by simp)) ?_
  refine WC.skip (WC.sr (WL.mv rfl rfl (WL.val (V.len (t := 34) Tryz.runUnderlying34 (OV.p rfl)) rfl (WL.ad rfl rfl rfl ?_))))
  refine WL.l7 (m := m + 1) Tryz.underlying34 vP (OV.p rfl) (OV.p rfl) (by omega) (by omega) (by omega) rfl rfl rfl (fun b18 => ?_)
  refine WL.sg rfl rfl (WL.nil (WC.sr (WL.mv rfl rfl (WL.mv rfl rfl ?_))))
  refine WL.wY dB (OV.p rfl) (OV.p rfl) (by repeat (first | exact hs | apply Seq.up)) (by omega) (o9 _ _) (aQ.front (by simp [aB]; omega)) rfl ?_
  refine WL.nil (WC.seq (WC.sr (WL.mv rfl rfl (WL.val (V.len (t := 34) Tryz.runUnderlying34 (OV.p rfl)) rfl ?_))))
  refine WL.val (V.jQ (OV.p rfl) (OV.p rfl) (fun hc => by first | omega | (simp at hc; omega))) rfl ?_
  refine WL.sb rfl rfl rfl ?_
  refine WL.sg rfl rfl (WL.nil (WC.block ?_))
  refine WC.loop (σ := Nat) (fun k => [(1, .slice B lq cap'), (6, .int .i64 (d : Int)), (7, .slice (some ⟨b18, 0, none⟩) (m + 1) (m + 1)), (8, .int .i64 (8 * (m : Int) - 1 - (k : Int)))]) (fun k => Cells b18 5 (aB .u8 (dS ps Q0 lq d k)) :: F) (fun k => k ≤ kk) (fun k => kk - k) 0 (Nat.zero_le _) (.cons rfl (.cons rfl (.cons rfl (.cons (look_eq rfl (by simp)) (.nil _))))) (fun w h => Sat.aV h (by rw [dS, dx, aH, hl, List.drop_replicate, show m + 1 - m = 1 by omega]; rfl)) ?_
  rintro k hk
  refine WC.seq (WC.sr (WL.mv rfl rfl (WL.mv rfl rfl (WL.val (V.geq (OV.p rfl) (OV.p rfl)) rfl (WL.nil ?_)))))
  refine WC.cond rfl (fun hc1 => ?_) (fun hc1 => ?_)
  ·simp only [decide_eq_true_eq, decide_eq_false_iff_not] at hc1
   have hkd : k < kk := by omega
   have Rf : 8 * (m : Int) - 1 - (k : Int) = ((8 * m - 1 - k : Nat) : Int) := by omega
   rw [Rf]
   refine WC.skip (WC.seq (WC.block (WC.sr (WL.mv rfl rfl (WL.mv rfl rfl ?_)))))
   refine WL.call (vs := [_, _]) Tryz.call322 ⟨OV.p rfl, OV.p rfl, trivial⟩ (AP (Seq.wL (by rw [dG, hl])) (fI Jq Pk k) (by omega) (by omega)) rfl ?_
   rintro _ H0 ⟨rfl, h0⟩
   subst H0
   refine WL.nil ?_
   refine WC.cond rfl (fun hc2 => ?_) (fun hc2 => ?_)
   ·skip
    have h2 := hc2
    refine WC.region (WL.mv rfl rfl (WL.mv rfl rfl (WL.mv rfl rfl (WL.mv rfl rfl ?_))))
    refine WL.val (V.aA (v' := .int .i64 ((8 * m - 1 - k - d : Nat) : Int)) (V.wM (OV.p rfl) (OV.p rfl) (fun _ => by omega)) (fun _ => by congr 1; omega)) rfl ?_
    refine WL.call (vs := [_, _, _]) Tryz.call323 ⟨OV.p rfl, OV.p rfl, OV.p rfl, trivial⟩ (AB (N := m + 1) (by rw [dG, hl]) (fI Jq Pk k) QL Pk (by omega) (by omega)) rfl ?_
    rintro v1 _ rfl
    refine WL.nil (WC.region (WL.mv rfl rfl (WL.sb rfl rfl rfl ?_)))
    refine WL.sg rfl rfl (WL.nil ?_)
    refine ⟨rfl, ?_⟩
    refine ⟨k + 1, (by show k + 1 ≤ kk; omega), (by show kk - (k + 1) < kk - k; omega), .cons rfl (.cons rfl (.cons rfl (.cons (look_eq rfl (by simp; omega)) (.nil _)))), fun w h => Sat.aV h ?_⟩
    rw [dS, hl, h2]
    simp
   ·skip
    have h2 := hc2
    refine WC.skip (WC.region (WL.mv rfl rfl (WL.sb rfl rfl rfl ?_)))
    refine WL.sg rfl rfl (WL.nil ?_)
    refine ⟨rfl, ?_⟩
    refine ⟨k + 1, (by show k + 1 ≤ kk; omega), (by show kk - (k + 1) < kk - k; omega), .cons rfl (.cons rfl (.cons rfl (.cons (look_eq rfl (by simp; omega)) (.nil _)))), fun w h => Sat.aV h ?_⟩
    rw [dS, hl, h2]
    simp
  ·simp only [decide_eq_true_eq, decide_eq_false_iff_not] at hc1
   refine WC.exit (WC.seq ?_)
   obtain rfl : k = kk := by omega
   refine WC.region (WL.mv rfl rfl ?_)
   refine WL.call (vs := [_]) Tryz.call320 ⟨OV.p rfl, trivial⟩ (kE (xs := dS ps Q0 lq d k) (Seq.wL (by rw [dG, hl])) (Nat.le_refl _) (by omega)) rfl ?_
   rintro _ H0 ⟨rfl, h0⟩
   subst H0
   refine WL.sg rfl rfl (WL.sg rfl rfl (WL.nil (WC.ret ?_)))
   exact aj.ret (H' := Cells b18 _ _ :: F) (aL.dJ rfl rfl rfl) (fun w h => h) ⟨b18, rfl, rfl⟩
end
def dA : Nat → List Nat
  | 0 => [1]
  | k + 1 => (fD (dA k) (mG (2 * k + 1 : Nat))).take (aC (fD (dA k) (mG (2 * k + 1 : Nat))) ((dA k).length + (mG (2 * k + 1 : Nat)).length + 1))
def KX (k : Nat) : Bool := decide ((dA k).length ≤ 1000) && decide ((mG (2 * k + 1 : Nat)).length ≤ 1000) && (dA k).all (fun x => decide (x < 256)) && (mG (2 * k + 1 : Nat)).all (fun x => decide (x < 256))
theorem Nr : (List.range 8).all KX = true := by kernel_rfl
section
variable {K : World} {F : List au}
theorem wR {t : Nat} (ht : 1 ≤ t ∧ t ≤ 8) :
    Does Tryz.prog 279 #[.int .i64 (t : Int)] K F (fun v H' => ∃ g full cap, v = .tuple #[.slice (some ⟨g, 0, none⟩) (dA t).length cap, .int .i64 0] ∧ (dA t).length ≤ cap ∧ (dA t) = full.take (dA t).length ∧ H' = Cells g 5 (aB .u8 full) :: F) := by
  have hok : ∀ k, k < 8 → KX k = true := fun k hk => List.all_eq_true.1 Nr k (List.mem_range.2 hk)
  have hcy : ∀ k, k < 8 → wV ((2 * k + 1 : Nat) : Int) = true := fun k hk => by
    have h := List.all_eq_true.1 JY
    have : ((2 * k + 1 : Nat) : Int) ∈ [1, 3, 5, 7, 9, 11, 13, (15 : Int)] := by
      simp only [List.mem_cons, List.not_mem_nil, or_false]; omega
    exact h _ this
  refine Does.enter Tryz.func279 rfl Tryz.ntmps279 rfl ?_
  simp only [aJ, Nat.reduceAdd]
  refine WC.sr (WL.sg rfl rfl (WL.sg rfl rfl (WL.nil (WC.seq (WC.sr (WL.mv rfl rfl (WL.val (V.lss (OV.p rfl) (OV.p rfl)) rfl (WL.mv rfl rfl (WL.ah (oj := _) rfl rfl rfl GC.f (V.move (OV.p rfl)) rfl (WL.ah (oj := _) rfl rfl rfl GC.f (V.gtr (OV.g rfl id) (OV.p rfl)) rfl (WL.val (V.aS (OV.p rfl) (OV.g rfl id)) rfl (WL.nil ?_))))))))))))
  refine WC.aM rfl ((by simp; omega)) ?_
  refine WC.skip (WC.sr ?_)
  refine WL.buildSlice (E := 5) (cs := [_]) (vs := [(0, _)]) ⟨OV.p rfl, trivial⟩ rfl (Bf _) rfl (fun b12 => ?_)
  refine WL.sg rfl rfl (WL.nil (WC.seq (WC.sr (WL.sg rfl rfl (WL.nil (WC.block ?_))))))
  refine WC.loop (σ := Nat × Nat × List Nat × Nat) (fun x => [(0, .int .i64 (t : Int)), (4, .slice (some ⟨x.2.1, 0, none⟩) (dA x.1).length x.2.2.2), (5, .int .i64 ((2 * x.1 + 1 : Nat) : Int))]) (fun x => Cells x.2.1 5 (aB .u8 x.2.2.1) :: F) (fun x => x.1 ≤ t ∧ (dA x.1).length ≤ x.2.2.2 ∧ dA x.1 = x.2.2.1.take (dA x.1).length) (fun x => t - x.1) (0, b12, [1], 1) ⟨Nat.zero_le _, Nat.le_refl _, rfl⟩ (.cons rfl (.cons rfl (.cons rfl (.nil _)))) (fun w h => h) ?_
  rintro ⟨k, g, full, cp⟩ ⟨hk, hcp, hfu⟩
  dsimp only at hk hcp hfu ⊢
  refine WC.seq (WC.sr (WL.mv rfl rfl (WL.mv rfl rfl ?_)))
  refine WL.val (V.jQ (OV.p rfl) (OV.p rfl) (fun hc => by first | omega | (simp at hc; omega))) rfl ?_
  refine WL.val (V.lss (OV.p rfl) (OV.p rfl)) rfl (WL.nil ?_)
  refine WC.cond rfl (fun hc1 => ?_) (fun hc1 => ?_)
  ·simp only [decide_eq_true_eq, decide_eq_false_iff_not] at hc1
   have Oy : k < 8 := by omega
   have ho := hok k Oy
   simp only [KX, Bool.and_eq_true, decide_eq_true_eq, List.all_eq_true] at ho
   obtain ⟨⟨⟨ho1, ho2⟩, ho3⟩, Rx⟩ := ho
   have hgs : ∀ {H : List au}, Seq K (Cells g 5 (aB .u8 full) :: H) (some ⟨g, 0, none⟩) (dA k).length 1 (aB .u8 (dA k)) := fun {H} => Seq.here (by rw [aH]; omega) (by rw [List.drop_zero]; exact lu (by rw [hfu]; exact List.take_prefix _ _))
   refine WC.skip (WC.seq (WC.block (WC.region (WL.mv rfl rfl (WL.mv rfl rfl ?_)))))
   refine WL.call (vs := [_]) Tryz.call319 ⟨OV.p rfl, trivial⟩ (Ab (by omega) (hcy k Oy)) rfl ?_
   rintro _ _ ⟨g2, c2, hm1, hm2, rfl, rfl⟩
   have hms : ∀ {H : List au}, Seq K (Cells g2 5 (aB .u8 (nT (pk ((2 * k + 1 : Nat) : Int) 13))) :: H) (some ⟨g2, 0, none⟩) (mG ((2 * k + 1 : Nat) : Int)).length 1 (aB .u8 (mG ((2 * k + 1 : Nat) : Int))) := fun {H} => Seq.here (by rw [aH]; omega) (by rw [List.drop_zero]; exact lu (List.take_prefix _ _))
   refine WL.call (vs := [_, _]) Tryz.call281 ⟨OV.p rfl, OV.p rfl, trivial⟩ (AO (ps := dA k) (qs := mG ((2 * k + 1 : Nat) : Int)) (by repeat (first | exact hgs | apply Seq.up)) hms ho3 Rx (by omega)) rfl ?_
   rintro _ _ ⟨g3, rfl, rfl⟩
   refine WL.sg rfl rfl (WL.nil (WC.region (WL.mv rfl rfl (WL.ad rfl rfl rfl ?_))))
   refine WL.sg rfl rfl (WL.nil ?_)
   refine ⟨rfl, ?_⟩
   have hnl := dV (fD (dA k) (mG ((2 * k + 1 : Nat) : Int))) ((dA k).length + (mG ((2 * k + 1 : Nat) : Int)).length + 1)
   have hbl : (fD (dA k) (mG ((2 * k + 1 : Nat) : Int))).length = (dA k).length + (mG ((2 * k + 1 : Nat) : Int)).length + 1 := by unfold fD; rw [eX]
   have hgl : (dA (k + 1)).length = aC (fD (dA k) (mG ((2 * k + 1 : Nat) : Int))) ((dA k).length + (mG ((2 * k + 1 : Nat) : Int)).length + 1) := by rw [dA, List.length_take, hbl]; omega
   exact ⟨(k + 1, g3, fD (dA k) (mG ((2 * k + 1 : Nat) : Int)), (dA k).length + (mG ((2 * k + 1 : Nat) : Int)).length + 1), ⟨by show k + 1 ≤ t; omega, by rw [hgl]; exact hnl, by rw [hgl]; rfl⟩, (by show t - (k + 1) < t - k; omega), .cons rfl (.cons (look_eq rfl (by rw [hgl])) (.cons (look_eq rfl (by simp; omega)) (.nil _))), fun w h => h.sel 3 [0] rfl⟩
  ·simp only [decide_eq_true_eq, decide_eq_false_iff_not] at hc1
   refine WC.exit (WC.sr (WL.mv rfl rfl (WL.sg rfl rfl (WL.sg rfl rfl (WL.nil (WC.ret ?_))))))
   obtain rfl : k = t := by omega
   exact aj.ret (H' := Cells g _ _ :: F) (aL.dJ rfl rfl rfl) (fun w h => h) ⟨g, full, cp, rfl, hcp, hfu, rfl⟩
end
end Go.Proofs.YtcedojacbhnbiaaGreat
