import Derived.Test.YtohkefolnmcjnaaGreatP6
namespace Go.Proofs.YtohkefolnmcjnaaGreat
open Go.Sl Go.RowKit
set_option linter.unusedVariables false
set_option linter.unusedSimpArgs false
set_option maxRecDepth 20000
theorem xor_u8 {a b : Nat} (ha : a < 256) (hb : b < 256) : bitsOf .xor .u8 (a : Int) (b : Int) = ((a ^^^ b : Nat) : Int) := by
  have h : a ^^^ b < 2 ^ 8 := Nat.xor_lt_two_pow ha hb
  unfold bitsOf
  dsimp only
  rw [ofInt_nat, ofInt_nat, BitVec.toNat_xor, BitVec.toNat_ofNat, BitVec.toNat_ofNat]
  have e1 : a % 2 ^ IntKind.u8.bits = a := Nat.mod_eq_of_lt (by show a < 2 ^ 8; omega)
  have e2 : b % 2 ^ IntKind.u8.bits = b := Nat.mod_eq_of_lt (by show b < 2 ^ 8; omega)
  rw [e1, e2]
  show IntKind.u8.wrap _ = _
  rw [u8_wrap]
  omega
theorem and_u8_one {a : Nat} (ha : a < 256) : bitsOf .and .u8 (a : Int) 1 = ((a % 2 : Nat) : Int) := by
  unfold bitsOf
  dsimp only
  rw [show (1 : Int) = ((1 : Nat) : Int) from rfl, ofInt_nat, ofInt_nat, BitVec.toNat_and, BitVec.toNat_ofNat, BitVec.toNat_ofNat]
  have e1 : a % 2 ^ IntKind.u8.bits = a := Nat.mod_eq_of_lt (by show a < 2 ^ 8; omega)
  have e2 : 1 % 2 ^ IntKind.u8.bits = 1 := rfl
  rw [e1, e2, Nat.and_one_is_mod]
  show IntKind.u8.wrap _ = _
  rw [u8_wrap]
  omega
theorem shr_nat {a j k : Nat} (hj : j ≤ k) : (a : Int).fdiv (2 ^ (min (j : Int).toNat k)) = ((a / 2 ^ j : Nat) : Int) := by
  have e : min (j : Int).toNat k = j := by omega
  rw [e, Int.fdiv_eq_ediv_of_nonneg _ (by have : (0 : Int) ≤ 2 ^ j := Int.pow_nonneg (by decide); exact this)]
  simp
theorem u16_shl {a j : Nat} (ha : a < 256) (hj : j < 8) : IntKind.u16.wrap ((a : Int) * 2 ^ (min (j : Int).toNat IntKind.u16.bits)) = ((a * 2 ^ j : Nat) : Int) := by
  have e1 : min (j : Int).toNat IntKind.u16.bits = j := by show min _ 16 = _; omega
  have h1 : 2 ^ j ≤ 2 ^ 7 := Nat.pow_le_pow_right (by decide) (by omega)
  have h2 : a * 2 ^ j ≤ 255 * 128 := Nat.mul_le_mul (by omega) h1
  have e2 : (a : Int) * 2 ^ j = ((a * 2 ^ j : Nat) : Int) := by simp
  rw [e1, e2]
  simp only [IntKind.wrap, IntKind.bits, IntKind.signed]
  simp
  omega
theorem nats_prefix {k : IntKind} {xs ys : List Nat} (h : xs <+: ys) : nats k xs <+: nats k ys := h.map _
def bitAt (p : List Nat) (i : Nat) : Bool := (p.getD (i / 8) 0).testBit (i % 8)
def addTo (out p : List Nat) (at_ : Nat) : Nat → List Nat
  | 0 => out
  | j + 1 =>
    let o := addTo out p at_ j
    let w := p.getD j 0 * 2 ^ (at_ % 8)
    let o1 := o.set (j + at_ / 8) (o.getD (j + at_ / 8) 0 ^^^ w % 256)
    if 255 < w then o1.set (j + at_ / 8 + 1) (o1.getD (j + at_ / 8 + 1) 0 ^^^ w / 256) else o1
theorem addTo_length (out p : List Nat) (at_ : Nat) : ∀ j, (addTo out p at_ j).length = out.length
  | 0 => rfl
  | j + 1 => by
    rw [addTo]
    split <;> simp [addTo_length out p at_ j]
theorem addTo_small {out p : List Nat} {at_ : Nat} (h : Small 256 out) (hp : Small 256 p) : ∀ j, Small 256 (addTo out p at_ j)
  | 0 => h
  | j + 1 => by
    have ih := addTo_small (at_ := at_) h hp j
    have h1 := ih.set (i := j + at_ / 8) (xor_lt (k := 8) (ih.at_ (by decide) (j + at_ / 8)) (Nat.mod_lt (p.getD j 0 * 2 ^ (at_ % 8)) (y := 256) (by decide)))
    rw [addTo]
    split
    · refine h1.set (xor_lt (k := 8) (h1.at_ (by decide) _) ?_)
      have h2 : 2 ^ (at_ % 8) ≤ 2 ^ 7 := Nat.pow_le_pow_right (by decide) (by omega)
      have h3 : p.getD j 0 * 2 ^ (at_ % 8) ≤ 255 * 128 := Nat.mul_le_mul (by have := hp.at_ (by decide) j; omega) h2
      omega
    · exact h1
def bmulTo (p q : List Nat) : Nat → List Nat
  | 0 => List.replicate (p.length + q.length + 1) 0
  | i + 1 => if bitAt p i then addTo (bmulTo p q i) q i q.length else bmulTo p q i
def bmulF (p q : List Nat) : List Nat := bmulTo p q (8 * p.length)
theorem bmulTo_length (p q : List Nat) : ∀ i, (bmulTo p q i).length = p.length + q.length + 1
  | 0 => List.length_replicate
  | i + 1 => by rw [bmulTo]; split; rw [addTo_length, bmulTo_length]; exact bmulTo_length p q i
theorem bmulTo_small {p q : List Nat} (hq : Small 256 q) : ∀ i, Small 256 (bmulTo p q i)
  | 0 => Small.repl (by decide)
  | i + 1 => by rw [bmulTo]; split; exact addTo_small (bmulTo_small hq i) hq _; exact bmulTo_small hq i
section
variable {K : World} {F : List Assn}
theorem bpoly_one {A : Option Addr} {m cap i : Nat} {xs : List Nat} (hs : Seq K F A m 1 (nats .u8 xs)) (hx : Small 256 xs) (hi : i < 8 * m) (hm : m ≤ 1000000) : Tells Tryz.prog 185 #[.slice A m cap, .int .i64 (i : Int)] K F (.bool (bitAt xs i)) := by
  have hrd2 : Rd K F (A.map (·.add (((i : Int) / 8).toNat * 1))) (.int .u8 (xs.getD (i / 8) 0 : Nat)) := by
    rw [show ((i : Int) / 8).toNat = i / 8 by omega]; exact hs.nat_rd (by omega)
  have hb := hx.at_ (by decide) (i / 8)
  refine Does.enter Tryz.func185 rfl Tryz.ntmps185 rfl ?_
  simp only [env0, Nat.reduceAdd]
  refine WC.sr ?_
  refine WL.sg rfl rfl ?_
  refine WL.nil ?_
  refine WC.sr ?_
  refine WL.mv rfl rfl ?_
  refine WL.mv rfl rfl ?_
  refine WL.val (V.quoI (OV.p rfl) (OV.p rfl) (fun hc => by first | omega | (simp at hc; omega))) rfl ?_
  refine WL.val (V.idxS st38 (OV.p rfl) (OV.p rfl) (fun hc => by omega) (fun hc => hrd2)) rfl ?_
  refine WL.val (V.load Tryz.isAgg5 (OV.p rfl) (fun hc => hrd2)) rfl ?_
  refine WL.mv rfl rfl ?_
  refine WL.val (V.val_eq (v' := .int .i64 ((i % 8 : Nat) : Int)) (V.remI (OV.p rfl) (OV.p rfl) (fun _ => by omega)) (fun _ => by simp)) rfl ?_
  refine WL.val (V.val_eq (v' := .int .u8 ((xs.getD (i / 8) 0 / 2 ^ (i % 8) : Nat) : Int)) (V.shr (OV.p rfl) (OV.p rfl) (by omega)) (fun _ => by rw [shr_nat (by show i % 8 ≤ 8; omega)])) rfl ?_
  refine WL.val (V.val_eq (v' := .int .u8 ((xs.getD (i / 8) 0 / 2 ^ (i % 8) % 2 : Nat) : Int)) (V.and (OV.p rfl) (OV.p rfl)) (fun _ => by rw [and_u8_one (Nat.lt_of_le_of_lt (Nat.div_le_self _ _) hb)])) rfl ?_
  refine WL.val (V.eql (OV.p rfl) (OV.p rfl)) rfl ?_
  refine WL.sg rfl rfl ?_
  refine WL.nil ?_
  refine WC.ret ?_
  refine BodyQ.ret (H' := F) (Res.tmp rfl rfl) (fun w h => h) ⟨?_, rfl⟩
  congr 1
  unfold bitAt
  rw [Nat.testBit_eq_decide_div_mod_eq]
  apply decide_eq_decide.2
  omega
theorem bpoly_add {g N cap : Nat} {out : List Nat} {B : Option Addr} {m cap' : Nat} {p : List Nat} {at_ : Nat} (hN : out.length = N) (ho : Small 256 out) (hs : Seq K F B m 1 (nats .u8 p)) (hp : Small 256 p) (hat : m + at_ / 8 < N) (hcap : N ≤ 1000000) :
    Does Tryz.prog 186 #[.slice (some ⟨g, 0, none⟩) N cap, .slice B m cap', .int .i64 (at_ : Int)] K (Cells g 5 (nats .u8 out) :: F)
      (fun v H' => H' = Cells g 5 (nats .u8 (addTo out p at_ m)) :: F) := by
  have hl : p.length = m := by simpa [nats] using hs.len
  have hatb : at_ < 8000008 := by omega
  refine Does.enter Tryz.func186 rfl Tryz.ntmps186 rfl ?_
  simp only [env0, Nat.reduceAdd]
  refine WC.sr ?_
  refine WL.mv rfl rfl ?_
  refine WL.val (V.len (t := 38) Tryz.runUnderlying38 (OV.p rfl)) rfl ?_
  refine WL.mv rfl rfl ?_
  refine WL.nil ?_
  refine WC.block ?_
  refine WC.loop (σ := Nat) (fun j => [(0, .slice (some ⟨g, 0, none⟩) N cap), (2, .int .i64 (at_ : Int)), (9, .slice B m cap'), (10, .int .i64 (m : Int)), (11, .int .i64 (j : Int))]) (fun j => Cells g 5 (nats .u8 (addTo out p at_ j)) :: F) (fun j => j ≤ m) (fun j => m - j) 0 (Nat.zero_le _) (.cons rfl (.cons rfl (.cons rfl (.cons rfl (.cons rfl (.nil _)))))) (fun w h => h) ?_
  rintro j hj
  refine WC.sr ?_
  refine WL.val (V.lss (OV.p rfl) (OV.p rfl)) rfl ?_
  refine WL.nil ?_
  refine WC.seq ?_
  refine WC.cond rfl (fun hc0 => ?_) (fun hc0 => ?_)
  ·simp only [decide_eq_true_eq, decide_eq_false_iff_not] at hc0
   refine WC.skip ?_
   refine WC.seq ?_
   refine WC.block ?_
   refine WC.seq ?_
   have hjm : j < m := by omega
   obtain ⟨o, ho1⟩ : ∃ o, o = addTo out p at_ j := ⟨_, rfl⟩
   have hol : o.length = N := by rw [ho1, addTo_length]; exact hN
   have hos : Small 256 o := by rw [ho1]; exact addTo_small ho hp j
   rw [← ho1]
   obtain ⟨x, hx⟩ : ∃ x, x = p.getD j 0 := ⟨_, rfl⟩
   have hx8 : x < 256 := by rw [hx]; exact hp.at_ (by decide) j
   have hrd2 : Rd K (Cells g 5 (nats .u8 o) :: F) (B.map (·.add ((j : Int).toNat * 1))) (.int .u8 (x : Nat)) := by
     rw [show (j : Int).toNat = j by omega, hx]; exact (hs.nat_rd (by omega)).up
   obtain ⟨wv, hwv⟩ : ∃ wv, wv = x * 2 ^ (at_ % 8) := ⟨_, rfl⟩
   have hw16 : wv < 32768 := by
     have h2 : 2 ^ (at_ % 8) ≤ 2 ^ 7 := Nat.pow_le_pow_right (by decide) (by omega)
     have h3 : x * 2 ^ (at_ % 8) ≤ 255 * 128 := Nat.mul_le_mul (by omega) h2
     omega
   obtain ⟨o1, ho2⟩ : ∃ o1, o1 = o.set (j + at_ / 8) (o.getD (j + at_ / 8) 0 ^^^ wv % 256) := ⟨_, rfl⟩
   have ho1l : o1.length = N := by rw [ho2, List.length_set]; exact hol
   have ho1s : Small 256 o1 := by rw [ho2]; exact hos.set (xor_lt (k := 8) (hos.at_ (by decide) _) (Nat.mod_lt _ (by decide)))
   have hstep : addTo out p at_ (j + 1) = if 255 < wv then o1.set (j + at_ / 8 + 1) (o1.getD (j + at_ / 8 + 1) 0 ^^^ wv / 256) else o1 := by rw [addTo, ← ho1, ← hx, ← hwv, ← ho2]
   have hg1 : (nats .u8 o)[0 + (((j : Int) + (at_ : Int) / 8)).toNat * 1]? = some (.int .u8 (o.getD (j + at_ / 8) 0 : Nat)) := by rw [show 0 + (((j : Int) + (at_ : Int) / 8)).toNat * 1 = j + at_ / 8 by omega]; exact nats_get _ _ (by omega)
   have hg2 : (nats .u8 o1)[0 + (((j : Int) + (at_ : Int) / 8 + 1)).toNat * 1]? = some (.int .u8 (o1.getD (j + at_ / 8 + 1) 0 : Nat)) := by rw [show 0 + (((j : Int) + (at_ : Int) / 8 + 1)).toNat * 1 = j + at_ / 8 + 1 by omega]; exact nats_get _ _ (by omega)
   refine WC.region ?_
   refine WL.mv rfl rfl ?_
   refine WL.val (V.idxS st38 (OV.p rfl) (OV.p rfl) (fun hc => by omega) (fun hc => hrd2)) rfl ?_
   refine WL.val (V.load Tryz.isAgg5 (OV.p rfl) (fun hc => hrd2)) rfl ?_
   refine WL.sg rfl rfl ?_
   refine WL.sg rfl rfl ?_
   refine WL.nil ?_
   refine WC.sr ?_
   refine WL.mv rfl rfl ?_
   refine WL.val (V.convW Tryz.runUnderlying5 Tryz.runUnderlying231 (OV.p rfl) (fun _ => by simp only [IntKind.wrap, IntKind.bits, IntKind.signed]; simp; omega)) rfl ?_
   refine WL.mv rfl rfl ?_
   refine WL.val (V.val_eq (v' := .int .i64 ((at_ % 8 : Nat) : Int)) (V.remI (OV.p rfl) (OV.p rfl) (fun _ => by omega)) (fun _ => by simp)) rfl ?_
   refine WL.val (V.val_eq (v' := .int .u16 (wv : Int)) (V.shl (OV.p rfl) (OV.p rfl) (by omega)) (fun _ => by rw [u16_shl hx8 (by omega), hwv])) rfl ?_
   refine WL.sg rfl rfl ?_
   refine WL.nil ?_
   refine WC.sr ?_
   refine WL.mv rfl rfl ?_
   refine WL.mv rfl rfl ?_
   refine WL.mv rfl rfl ?_
   refine WL.val (V.quoI (OV.p rfl) (OV.p rfl) (fun hc => by first | omega | (simp at hc; omega))) rfl ?_
   refine WL.ad rfl rfl rfl ?_
   refine WL.val (V.idxB st38 (OV.p rfl) (OV.p rfl) (fun hc => by omega)) rfl ?_
   refine WL.val (V.load Tryz.isAgg5 (OV.p rfl) (fun hc => Rd.here hg1)) rfl ?_
   refine WL.mv rfl rfl ?_
   refine WL.val (V.val_eq (v' := .int .u8 ((wv % 256 : Nat) : Int)) (V.convI Tryz.runUnderlying231 Tryz.runUnderlying5 (OV.p rfl)) (fun _ => by rw [u8_wrap])) rfl ?_
   refine WL.val (V.val_eq (v' := .int .u8 ((o.getD (j + at_ / 8) 0 ^^^ wv % 256 : Nat) : Int)) (V.xor (OV.p rfl) (OV.p rfl)) (fun _ => by rw [xor_u8 (hos.at_ (by decide) _) (Nat.mod_lt _ (by decide))])) rfl ?_
   refine WL.val (V.idxB st38 (OV.p rfl) (OV.p rfl) (fun hc => by omega)) rfl ?_
   refine WL.store (cs := [_]) Tryz.sizeOf5 (OV.p rfl) (OV.p rfl) rfl rfl rfl (Upd.at_ (by rw [nats_length]; omega)) ?_
   rw [show 0 + (((j : Int) + (at_ : Int) / 8)).toNat * 1 = j + at_ / 8 by omega, nats_set, ← ho2]
   refine WL.nil ?_
   refine WC.sr ?_
   refine WL.mv rfl rfl ?_
   refine WL.val (V.gtr (OV.p rfl) (OV.p rfl)) rfl ?_
   refine WL.nil ?_
   refine WC.cond rfl (fun hc1 => ?_) (fun hc1 => ?_)
   ·simp only [decide_eq_true_eq, decide_eq_false_iff_not] at hc1
    rw [if_pos (by omega)] at hstep
    refine WC.region ?_
    refine WL.mv rfl rfl ?_
    refine WL.mv rfl rfl ?_
    refine WL.mv rfl rfl ?_
    refine WL.val (V.quoI (OV.p rfl) (OV.p rfl) (fun hc => by first | omega | (simp at hc; omega))) rfl ?_
    refine WL.ad rfl rfl rfl ?_
    refine WL.ad rfl rfl rfl ?_
    refine WL.val (V.idxB st38 (OV.p rfl) (OV.p rfl) (fun hc => by omega)) rfl ?_
    refine WL.val (V.load Tryz.isAgg5 (OV.p rfl) (fun hc => Rd.here hg2)) rfl ?_
    refine WL.mv rfl rfl ?_
    refine WL.val (V.val_eq (v' := .int .u16 ((wv / 256 : Nat) : Int)) (V.shr (OV.p rfl) (OV.p rfl) (by decide)) (fun _ => by rw [show (8 : Int) = ((8 : Nat) : Int) from rfl, shr_nat (by show 8 ≤ 16; decide)])) rfl ?_
    refine WL.val (V.val_eq (v' := .int .u8 ((wv / 256 : Nat) : Int)) (V.convI Tryz.runUnderlying231 Tryz.runUnderlying5 (OV.p rfl)) (fun _ => by rw [u8_wrap]; congr 2; omega)) rfl ?_
    refine WL.val (V.val_eq (v' := .int .u8 ((o1.getD (j + at_ / 8 + 1) 0 ^^^ wv / 256 : Nat) : Int)) (V.xor (OV.p rfl) (OV.p rfl)) (fun _ => by rw [xor_u8 (ho1s.at_ (by decide) _) (by omega)])) rfl ?_
    refine WL.val (V.idxB st38 (OV.p rfl) (OV.p rfl) (fun hc => by omega)) rfl ?_
    refine WL.store (cs := [_]) Tryz.sizeOf5 (OV.p rfl) (OV.p rfl) rfl rfl rfl (Upd.at_ (by rw [nats_length]; omega)) ?_
    rw [show 0 + (((j : Int) + (at_ : Int) / 8 + 1)).toNat * 1 = j + at_ / 8 + 1 by omega, nats_set]
    refine WL.nil ?_
    refine WC.region ?_
    refine WL.ad rfl rfl rfl ?_
    refine WL.mv rfl rfl ?_
    refine WL.nil ?_
    refine ⟨rfl, ?_⟩
    exact ⟨j + 1, (by show j + 1 ≤ m; omega), (by show m - (j + 1) < m - j; omega), .cons rfl (.cons rfl (.cons rfl (.cons rfl (.cons (look_eq rfl (by simp)) (.nil _))))), fun w h => Sat.cells_eq h (by rw [hstep])⟩
   ·simp only [decide_eq_true_eq, decide_eq_false_iff_not] at hc1
    rw [if_neg (by omega)] at hstep
    refine WC.skip ?_
    refine WC.region ?_
    refine WL.ad rfl rfl rfl ?_
    refine WL.mv rfl rfl ?_
    refine WL.nil ?_
    refine ⟨rfl, ?_⟩
    exact ⟨j + 1, (by show j + 1 ≤ m; omega), (by show m - (j + 1) < m - j; omega), .cons rfl (.cons rfl (.cons rfl (.cons rfl (.cons (look_eq rfl (by simp)) (.nil _))))), fun w h => Sat.cells_eq h (by rw [hstep])⟩
  ·simp only [decide_eq_true_eq, decide_eq_false_iff_not] at hc0
   refine WC.exit ?_
   obtain rfl : j = m := by omega
   exact BodyQ.normal (H' := Cells g _ _ :: F) (Res.none rfl) (fun w h => h) rfl
theorem bpoly_Mul {q cap' m capp : Nat} {A B : Option Addr} {ps qs : List Nat} (hs : Seq K F A m 1 (nats .u8 ps)) (hq : Seq K F B q 1 (nats .u8 qs)) (hp8 : Small 256 ps) (hq8 : Small 256 qs) (hcap : ps.length + qs.length ≤ 100000) :
    Does Tryz.prog 151 #[.slice A m capp, .slice B q cap'] K F
      (fun v H' => ∃ g, v = .slice (some ⟨g, 0, none⟩) (normLen (bmulF ps qs) (ps.length + qs.length + 1)) (ps.length + qs.length + 1) ∧ H' = Cells g 5 (nats .u8 (bmulF ps qs)) :: F) := by
  have hl : ps.length = m := by simpa [nats] using hs.len
  have hql : qs.length = q := by simpa [nats] using hq.len
  refine Does.enter Tryz.func151 rfl Tryz.ntmps151 rfl ?_
  simp only [env0, Nat.reduceAdd]
  refine WC.sr ?_
  refine WL.sg rfl rfl ?_
  refine WL.nil ?_
  refine WC.sr ?_
  refine WL.mv rfl rfl ?_
  refine WL.val (V.len (t := 38) Tryz.runUnderlying38 (OV.p rfl)) rfl ?_
  refine WL.mv rfl rfl ?_
  refine WL.val (V.len (t := 38) Tryz.runUnderlying38 (OV.p rfl)) rfl ?_
  refine WL.ad rfl rfl rfl ?_
  refine WL.ad rfl rfl rfl ?_
  refine WL.make1 (m := m + q + 1) Tryz.underlying38 el5 (OV.p rfl) (OV.p rfl) (by omega) (by omega) (by omega) rfl rfl rfl (fun b13 => ?_)
  refine WL.sg rfl rfl ?_
  refine WL.nil ?_
  refine WC.seq ?_
  refine WC.sr ?_
  refine WL.mv rfl rfl ?_
  refine WL.val (V.len (t := 38) Tryz.runUnderlying38 (OV.p rfl)) rfl ?_
  refine WL.val (V.mulI (OV.p rfl) (OV.p rfl) (fun hc => by first | omega | (simp at hc; omega))) rfl ?_
  refine WL.mv rfl rfl ?_
  refine WL.nil ?_
  refine WC.block ?_
  refine WC.loop (σ := Nat) (fun j => [(0, .slice A m capp), (1, .slice B q cap'), (5, .slice (some ⟨b13, 0, none⟩) (m + q + 1) (m + q + 1)), (16, .int .i64 (8 * (m : Int))), (17, .int .i64 (j : Int))]) (fun j => Cells b13 5 (nats .u8 (bmulTo ps qs j)) :: F) (fun j => j ≤ 8 * m) (fun j => 8 * m - j) 0 (Nat.zero_le _) (.cons rfl (.cons rfl (.cons rfl (.cons rfl (.cons rfl (.nil _)))))) (fun w h => Sat.cells_eq h (by rw [bmulTo, hl, hql, nats_replicate]; rfl)) ?_
  rintro j hj
  refine WC.sr ?_
  refine WL.val (V.lss (OV.p rfl) (OV.p rfl)) rfl ?_
  refine WL.nil ?_
  refine WC.seq ?_
  refine WC.cond rfl (fun hc0 => ?_) (fun hc0 => ?_)
  ·simp only [decide_eq_true_eq, decide_eq_false_iff_not] at hc0
   refine WC.skip ?_
   refine WC.seq ?_
   refine WC.block ?_
   refine WC.sr ?_
   refine WL.mv rfl rfl ?_
   refine WL.sg rfl rfl ?_
   refine WL.nil ?_
   refine WC.sr ?_
   refine WL.mv rfl rfl ?_
   refine WL.mv rfl rfl ?_
   refine WL.call (vs := [_, _]) Tryz.call185 ⟨OV.p rfl, OV.p rfl, trivial⟩ (bpoly_one (by repeat (first | exact hs | apply Seq.up)) hp8 (by omega) (by omega)) rfl ?_
   rintro _ H0 ⟨rfl, h0⟩
   subst H0
   refine WL.nil ?_
   refine WC.cond rfl (fun hc1 => ?_) (fun hc1 => ?_)
   ·skip
    have h1 := hc1
    refine WC.region ?_
    refine WL.mv rfl rfl ?_
    refine WL.mv rfl rfl ?_
    refine WL.mv rfl rfl ?_
    refine WL.call (vs := [_, _, _]) Tryz.call186 ⟨OV.p rfl, OV.p rfl, OV.p rfl, trivial⟩ (bpoly_add (N := m + q + 1) (by rw [bmulTo_length, hl, hql]) (bmulTo_small hq8 j) hq hq8 (by omega) (by omega)) rfl ?_
    rintro v1 _ rfl
    refine WL.nil ?_
    refine WC.region ?_
    refine WL.ad rfl rfl rfl ?_
    refine WL.mv rfl rfl ?_
    refine WL.nil ?_
    refine ⟨rfl, ?_⟩
    refine ⟨j + 1, (by show j + 1 ≤ 8 * m; omega), (by show 8 * m - (j + 1) < 8 * m - j; omega), .cons rfl (.cons rfl (.cons rfl (.cons rfl (.cons (look_eq rfl (by simp)) (.nil _))))), fun w h => Sat.cells_eq h ?_⟩
    rw [bmulTo, h1]
    simp [hql]
   ·skip
    have h1 := hc1
    refine WC.skip ?_
    refine WC.region ?_
    refine WL.ad rfl rfl rfl ?_
    refine WL.mv rfl rfl ?_
    refine WL.nil ?_
    refine ⟨rfl, ?_⟩
    refine ⟨j + 1, (by show j + 1 ≤ 8 * m; omega), (by show 8 * m - (j + 1) < 8 * m - j; omega), .cons rfl (.cons rfl (.cons rfl (.cons rfl (.cons (look_eq rfl (by simp)) (.nil _))))), fun w h => Sat.cells_eq h ?_⟩
    rw [bmulTo, h1]
    simp [hql]
  ·simp only [decide_eq_true_eq, decide_eq_false_iff_not] at hc0
   refine WC.exit ?_
   refine WC.seq ?_
   obtain rfl : j = 8 * m := by omega
   have hbm : bmulTo ps qs (8 * m) = bmulF ps qs := by unfold bmulF; rw [hl]
   rw [hbm]
   have hbl : (bmulF ps qs).length = m + q + 1 := by unfold bmulF; rw [bmulTo_length, hl, hql]
   refine WC.region ?_
   refine WL.mv rfl rfl ?_
   refine WL.call (vs := [_]) Tryz.call183 ⟨OV.p rfl, trivial⟩ (bpoly_norm (xs := bmulF ps qs) (Seq.allN hbl) (Nat.le_refl _) (by omega)) rfl ?_
   rintro _ H0 ⟨rfl, h0⟩
   subst H0
   refine WL.sg rfl rfl ?_
   refine WL.nil ?_
   refine WC.ret ?_
   exact BodyQ.ret (H' := Cells b13 _ _ :: F) (Res.tmp rfl rfl) (fun w h => h) ⟨b13, by rw [hl, hql], rfl⟩
end
def len8 (x : Nat) : Nat := if x = 0 then 0 else Nat.log2 x + 1
theorem tab_get {s : ByteArray} (h : ((List.range 256).all fun x => decide (s[x]? = some (UInt8.ofNat (len8 x)))) = true) {x : Nat} (hx : x < 256) : s[x]? = some (UInt8.ofNat (len8 x)) := by
  have := List.all_eq_true.1 h x (List.mem_range.2 hx)
  exact of_decide_eq_true this
theorem len8_le {x : Nat} (h : x < 256) : len8 x ≤ 8 := by
  unfold len8
  split
  · omega
  · rename_i h0
    have := (Nat.log2_lt h0 (k := 8)).2 h
    omega
def degB (xs : List Nat) (m : Nat) : Int := if normLen xs m = 0 then -1 else 8 * (normLen xs m : Int) - 8 + (len8 (xs.getD (normLen xs m - 1) 0) : Nat) - 1
def bmodTo (p q : List Nat) (lq d : Nat) : Nat → List Nat
  | 0 => p ++ [0]
  | k + 1 => if bitAt (bmodTo p q lq d k) (8 * p.length - 1 - k) then addTo (bmodTo p q lq d k) q (8 * p.length - 1 - k - d) lq else bmodTo p q lq d k
theorem bmodTo_length (p q : List Nat) (lq d : Nat) : ∀ k, (bmodTo p q lq d k).length = p.length + 1
  | 0 => by simp [bmodTo]
  | k + 1 => by rw [bmodTo]; split; rw [addTo_length, bmodTo_length]; exact bmodTo_length p q lq d k
theorem bmodTo_small {p q : List Nat} {lq d : Nat} (hp : Small 256 p) (hq : Small 256 q) : ∀ k, Small 256 (bmodTo p q lq d k)
  | 0 => hp.append (fun x hx => by simp at hx; omega)
  | k + 1 => by rw [bmodTo]; split; exact addTo_small (bmodTo_small hp hq k) hq _; exact bmodTo_small hp hq k
section
variable {K : World} {F : List Assn}
theorem bits_Len8 {x : Nat} (hx : x < 256) : Tells Tryz.prog 206 #[.int .u8 (x : Int)] K F (.int .i64 (len8 x : Nat)) := by
  have hl := len8_le hx
  have h8 : (UInt8.ofNat (len8 x)).toNat = len8 x := by rw [UInt8.toNat_ofNat']; omega
  refine Does.enter Tryz.func206 rfl Tryz.ntmps206 rfl ?_
  simp only [env0, Nat.reduceAdd]
  refine WC.sr ?_
  refine WL.sg rfl rfl ?_
  refine WL.nil ?_
  refine WC.sr ?_
  refine WL.mv rfl rfl ?_
  refine WL.val (V.idxStr (b := UInt8.ofNat (len8 x)) Tryz.underlying9 (OV.p rfl) (OV.p rfl) (fun _ => ⟨by omega, by rw [show ((x : Nat) : Int).toNat = x by omega]; exact tab_get (by kernel_rfl) hx⟩)) rfl ?_
  refine WL.val (V.convW Tryz.runUnderlying5 Tryz.runUnderlying3 (OV.p rfl) (fun _ => wrap_i64 (by omega))) rfl ?_
  refine WL.sg rfl rfl ?_
  refine WL.nil ?_
  refine WC.ret ?_
  exact BodyQ.ret (H' := F) (Res.tmp rfl rfl) (fun w h => h) ⟨by rw [h8], rfl⟩
theorem bpoly_Degree {A : Option Addr} {m cap : Nat} {xs : List Nat} (hs : Seq K F A m 1 (nats .u8 xs)) (hx : Small 256 xs) (hcap : m ≤ cap) (hm : m ≤ 100000) : Tells Tryz.prog 184 #[.slice A m cap] K F (.int .i64 (degB xs m)) := by
  have hn := normLen_le xs m
  refine Does.enter Tryz.func184 rfl Tryz.ntmps184 rfl ?_
  simp only [env0, Nat.reduceAdd]
  refine WC.sr ?_
  refine WL.sg rfl rfl ?_
  refine WL.nil ?_
  refine WC.sr ?_
  refine WL.mv rfl rfl ?_
  refine WL.call (vs := [_]) Tryz.call183 ⟨OV.p rfl, trivial⟩ (bpoly_norm hs hcap (by omega)) rfl ?_
  rintro _ H0 ⟨rfl, h0⟩
  subst H0
  refine WL.sg rfl rfl ?_
  refine WL.nil ?_
  refine WC.seq ?_
  refine WC.sr ?_
  refine WL.mv rfl rfl ?_
  refine WL.val (V.len (t := 38) Tryz.runUnderlying38 (OV.p rfl)) rfl ?_
  refine WL.val (V.eql (OV.p rfl) (OV.p rfl)) rfl ?_
  refine WL.nil ?_
  refine WC.cond rfl (fun hc0 => ?_) (fun hc0 => ?_)
  ·simp only [decide_eq_true_eq, decide_eq_false_iff_not] at hc0
   refine WC.sr ?_
   refine WL.sg rfl rfl ?_
   refine WL.nil ?_
   refine WC.ret ?_
   refine BodyQ.ret (H' := F) (Res.tmp rfl rfl) (fun w h => h) ⟨?_, rfl⟩
   unfold degB; rw [if_pos (by omega)]
  ·simp only [decide_eq_true_eq, decide_eq_false_iff_not] at hc0
   refine WC.skip ?_
   refine WC.seq ?_
   have hrd : Rd K F (A.map (·.add (((normLen xs m : Int) - 1).toNat * 1))) (.int .u8 (xs.getD (normLen xs m - 1) 0 : Nat)) := by
     rw [show ((normLen xs m : Int) - 1).toNat = normLen xs m - 1 by omega]; exact hs.nat_rd (by omega)
   have hb := hx.at_ (by decide) (normLen xs m - 1)
   have hl8 := len8_le hb
   refine WC.region ?_
   refine WL.mv rfl rfl ?_
   refine WL.val (V.len (t := 38) Tryz.runUnderlying38 (OV.p rfl)) rfl ?_
   refine WL.val (V.mulI (OV.p rfl) (OV.p rfl) (fun hc => by first | omega | (simp at hc; omega))) rfl ?_
   refine WL.sb rfl rfl rfl ?_
   refine WL.mv rfl rfl ?_
   refine WL.mv rfl rfl ?_
   refine WL.val (V.len (t := 38) Tryz.runUnderlying38 (OV.p rfl)) rfl ?_
   refine WL.sb rfl rfl rfl ?_
   refine WL.val (V.idxS st38 (OV.p rfl) (OV.p rfl) (fun hc => by omega) (fun hc => hrd)) rfl ?_
   refine WL.val (V.load Tryz.isAgg5 (OV.p rfl) (fun hc => hrd)) rfl ?_
   refine WL.call (vs := [_]) Tryz.call206 ⟨OV.p rfl, trivial⟩ (bits_Len8 hb) rfl ?_
   rintro _ H0 ⟨rfl, h0⟩
   subst H0
   refine WL.ad rfl rfl rfl ?_
   refine WL.sb rfl rfl rfl ?_
   refine WL.sg rfl rfl ?_
   refine WL.nil ?_
   refine WC.ret ?_
   refine BodyQ.ret (H' := F) (Res.tmp rfl rfl) (fun w h => h) ⟨?_, rfl⟩
   unfold degB; rw [if_neg (by omega)]
theorem bpoly_Mod {q cap' m capp : Nat} {A B : Option Addr} {ps qs : List Nat} {d : Nat} (hs : Seq K F A m 1 (nats .u8 ps)) (hq : Seq K F B q 1 (nats .u8 qs)) (hp8 : Small 256 ps) (hq8 : Small 256 qs) (hqc : q ≤ cap') (hcap : ps.length + qs.length ≤ 100000)
    (hd : degB qs q = (d : Int)) (hdd : degB (qs.take (normLen qs q)) (normLen qs q) = (d : Int)) (hld : normLen qs q = d / 8 + 1) :
    Does Tryz.prog 150 #[.slice A m capp, .slice B q cap'] K F
      (fun v H' => ∃ g, v = .tuple #[.slice (some ⟨g, 0, none⟩) (normLen (bmodTo ps (qs.take (normLen qs q)) (normLen qs q) d (8 * m - d)) (m + 1)) (m + 1), .int .i64 0] ∧ H' = Cells g 5 (nats .u8 (bmodTo ps (qs.take (normLen qs q)) (normLen qs q) d (8 * m - d))) :: F) := by
  have hl : ps.length = m := by simpa [nats] using hs.len
  have hql : qs.length = q := by simpa [nats] using hq.len
  have hnl := normLen_le qs q
  obtain ⟨lq, hlq⟩ : ∃ lq, lq = normLen qs q := ⟨_, rfl⟩
  obtain ⟨Q0, hQ0⟩ : ∃ Q0, Q0 = qs.take (normLen qs q) := ⟨_, rfl⟩
  have hQl : Q0.length = lq := by rw [hQ0, List.length_take, hlq]; omega
  have hQ8 : Small 256 Q0 := by rw [hQ0]; exact hq8.take
  have hsQ : Seq K F B lq 1 (nats .u8 Q0) := by rw [hQ0, hlq, ← nats_take]; exact Seq.take hq hnl
  rw [← hQ0, ← hlq] at hdd ⊢
  rw [← hlq] at hld hnl
  obtain ⟨kk, hkk⟩ : ∃ kk, kk = 8 * m - d := ⟨_, rfl⟩
  rw [← hkk]
  refine Does.enter Tryz.func150 rfl Tryz.ntmps150 rfl ?_
  simp only [env0, Nat.reduceAdd]
  refine WC.sr ?_
  refine WL.sg rfl rfl ?_
  refine WL.sg rfl rfl ?_
  refine WL.nil ?_
  refine WC.sr ?_
  refine WL.mv rfl rfl ?_
  refine WL.call (vs := [_]) Tryz.call183 ⟨OV.p rfl, trivial⟩ (Tells.eq (v' := .slice B lq cap') (bpoly_norm hq hqc (by omega)) (by rw [hlq])) rfl ?_
  rintro _ H0 ⟨rfl, h0⟩
  subst H0
  refine WL.sg rfl rfl ?_
  refine WL.nil ?_
  refine WC.sr ?_
  refine WL.mv rfl rfl ?_
  refine WL.call (vs := [_]) Tryz.call184 ⟨OV.p rfl, trivial⟩ (Tells.eq (v' := .int .i64 (d : Int)) (bpoly_Degree hsQ hQ8 (by omega) (by omega)) (by rw [hdd])) rfl ?_
  rintro _ H0 ⟨rfl, h0⟩
  subst H0
  refine WL.sg rfl rfl ?_
  refine WL.nil ?_
  refine WC.seq ?_
  refine WC.sr ?_
  refine WL.mv rfl rfl ?_
  refine WL.val (V.lss (OV.p rfl) (OV.p rfl)) rfl ?_
  refine WL.nil ?_
  refine WC.condF' rfl ((by simp)) ?_
  refine WC.skip ?_
  refine WC.sr ?_
  refine WL.mv rfl rfl ?_
  refine WL.val (V.len (t := 38) Tryz.runUnderlying38 (OV.p rfl)) rfl ?_
  refine WL.ad rfl rfl rfl ?_
  refine WL.make1 (m := m + 1) Tryz.underlying38 el5 (OV.p rfl) (OV.p rfl) (by omega) (by omega) (by omega) rfl rfl rfl (fun b18 => ?_)
  refine WL.sg rfl rfl ?_
  refine WL.nil ?_
  refine WC.sr ?_
  refine WL.mv rfl rfl ?_
  refine WL.mv rfl rfl ?_
  refine WL.copySeq st38 (OV.p rfl) (OV.p rfl) (by repeat (first | exact hs | apply Seq.up)) (by omega) (nats_one _ _) (Upd.front (by simp [nats]; omega)) rfl ?_
  refine WL.nil ?_
  refine WC.seq ?_
  refine WC.sr ?_
  refine WL.mv rfl rfl ?_
  refine WL.val (V.len (t := 38) Tryz.runUnderlying38 (OV.p rfl)) rfl ?_
  refine WL.val (V.mulI (OV.p rfl) (OV.p rfl) (fun hc => by first | omega | (simp at hc; omega))) rfl ?_
  refine WL.sb rfl rfl rfl ?_
  refine WL.sg rfl rfl ?_
  refine WL.nil ?_
  refine WC.block ?_
  refine WC.loop (σ := Nat) (fun k => [(1, .slice B lq cap'), (6, .int .i64 (d : Int)), (7, .slice (some ⟨b18, 0, none⟩) (m + 1) (m + 1)), (8, .int .i64 (8 * (m : Int) - 1 - (k : Int)))]) (fun k => Cells b18 5 (nats .u8 (bmodTo ps Q0 lq d k)) :: F) (fun k => k ≤ kk) (fun k => kk - k) 0 (Nat.zero_le _) (.cons rfl (.cons rfl (.cons rfl (.cons (look_eq rfl (by simp)) (.nil _))))) (fun w h => Sat.cells_eq h (by rw [bmodTo, nats_append, nats_length, hl, List.drop_replicate, show m + 1 - m = 1 by omega]; rfl)) ?_
  rintro k hk
  refine WC.seq ?_
  refine WC.sr ?_
  refine WL.mv rfl rfl ?_
  refine WL.mv rfl rfl ?_
  refine WL.val (V.geq (OV.p rfl) (OV.p rfl)) rfl ?_
  refine WL.nil ?_
  refine WC.cond rfl (fun hc1 => ?_) (fun hc1 => ?_)
  ·simp only [decide_eq_true_eq, decide_eq_false_iff_not] at hc1
   have hkd : k < kk := by omega
   have hi8 : 8 * (m : Int) - 1 - (k : Int) = ((8 * m - 1 - k : Nat) : Int) := by omega
   rw [hi8]
   refine WC.skip ?_
   refine WC.seq ?_
   refine WC.block ?_
   refine WC.sr ?_
   refine WL.mv rfl rfl ?_
   refine WL.mv rfl rfl ?_
   refine WL.call (vs := [_, _]) Tryz.call185 ⟨OV.p rfl, OV.p rfl, trivial⟩ (bpoly_one (Seq.allN (by rw [bmodTo_length, hl])) (bmodTo_small hp8 hQ8 k) (by omega) (by omega)) rfl ?_
   rintro _ H0 ⟨rfl, h0⟩
   subst H0
   refine WL.nil ?_
   refine WC.cond rfl (fun hc2 => ?_) (fun hc2 => ?_)
   ·skip
    have h2 := hc2
    refine WC.region ?_
    refine WL.mv rfl rfl ?_
    refine WL.mv rfl rfl ?_
    refine WL.mv rfl rfl ?_
    refine WL.mv rfl rfl ?_
    refine WL.val (V.val_eq (v' := .int .i64 ((8 * m - 1 - k - d : Nat) : Int)) (V.subI (OV.p rfl) (OV.p rfl) (fun _ => by omega)) (fun _ => by congr 1; omega)) rfl ?_
    refine WL.call (vs := [_, _, _]) Tryz.call186 ⟨OV.p rfl, OV.p rfl, OV.p rfl, trivial⟩ (bpoly_add (N := m + 1) (by rw [bmodTo_length, hl]) (bmodTo_small hp8 hQ8 k) hsQ hQ8 (by omega) (by omega)) rfl ?_
    rintro v1 _ rfl
    refine WL.nil ?_
    refine WC.region ?_
    refine WL.mv rfl rfl ?_
    refine WL.sb rfl rfl rfl ?_
    refine WL.sg rfl rfl ?_
    refine WL.nil ?_
    refine ⟨rfl, ?_⟩
    refine ⟨k + 1, (by show k + 1 ≤ kk; omega), (by show kk - (k + 1) < kk - k; omega), .cons rfl (.cons rfl (.cons rfl (.cons (look_eq rfl (by simp; omega)) (.nil _)))), fun w h => Sat.cells_eq h ?_⟩
    rw [bmodTo, hl, h2]
    simp
   ·skip
    have h2 := hc2
    refine WC.skip ?_
    refine WC.region ?_
    refine WL.mv rfl rfl ?_
    refine WL.sb rfl rfl rfl ?_
    refine WL.sg rfl rfl ?_
    refine WL.nil ?_
    refine ⟨rfl, ?_⟩
    refine ⟨k + 1, (by show k + 1 ≤ kk; omega), (by show kk - (k + 1) < kk - k; omega), .cons rfl (.cons rfl (.cons rfl (.cons (look_eq rfl (by simp; omega)) (.nil _)))), fun w h => Sat.cells_eq h ?_⟩
    rw [bmodTo, hl, h2]
    simp
  ·simp only [decide_eq_true_eq, decide_eq_false_iff_not] at hc1
   refine WC.exit ?_
   refine WC.seq ?_
   obtain rfl : k = kk := by omega
   refine WC.region ?_
   refine WL.mv rfl rfl ?_
   refine WL.call (vs := [_]) Tryz.call183 ⟨OV.p rfl, trivial⟩ (bpoly_norm (xs := bmodTo ps Q0 lq d k) (Seq.allN (by rw [bmodTo_length, hl])) (Nat.le_refl _) (by omega)) rfl ?_
   rintro _ H0 ⟨rfl, h0⟩
   subst H0
   refine WL.sg rfl rfl ?_
   refine WL.sg rfl rfl ?_
   refine WL.nil ?_
   refine WC.ret ?_
   exact BodyQ.ret (H' := Cells b18 _ _ :: F) (Res.tmp2 rfl rfl rfl) (fun w h => h) ⟨b18, rfl, rfl⟩
end
def genB : Nat → List Nat
  | 0 => [1]
  | k + 1 => (bmulF (genB k) (minB (2 * k + 1 : Nat))).take (normLen (bmulF (genB k) (minB (2 * k + 1 : Nat))) ((genB k).length + (minB (2 * k + 1 : Nat)).length + 1))
def genOk (k : Nat) : Bool := decide ((genB k).length ≤ 1000) && decide ((minB (2 * k + 1 : Nat)).length ≤ 1000) && (genB k).all (fun x => decide (x < 256)) && (minB (2 * k + 1 : Nat)).all (fun x => decide (x < 256))
theorem gen_ok : (List.range 8).all genOk = true := by kernel_rfl
section
variable {K : World} {F : List Assn}
theorem bpoly_Generator {t : Nat} (ht : 1 ≤ t ∧ t ≤ 8) :
    Does Tryz.prog 149 #[.int .i64 (t : Int)] K F (fun v H' => ∃ g full cap, v = .tuple #[.slice (some ⟨g, 0, none⟩) (genB t).length cap, .int .i64 0] ∧ (genB t).length ≤ cap ∧ (genB t) = full.take (genB t).length ∧ H' = Cells g 5 (nats .u8 full) :: F) := by
  have hok : ∀ k, k < 8 → genOk k = true := fun k hk => List.all_eq_true.1 gen_ok k (List.mem_range.2 hk)
  have hcy : ∀ k, k < 8 → cycleOk ((2 * k + 1 : Nat) : Int) = true := fun k hk => by
    have h := List.all_eq_true.1 cycle_ok
    have : ((2 * k + 1 : Nat) : Int) ∈ [1, 3, 5, 7, 9, 11, 13, (15 : Int)] := by
      simp only [List.mem_cons, List.not_mem_nil, or_false]; omega
    exact h _ this
  refine Does.enter Tryz.func149 rfl Tryz.ntmps149 rfl ?_
  simp only [env0, Nat.reduceAdd]
  refine WC.sr ?_
  refine WL.sg rfl rfl ?_
  refine WL.sg rfl rfl ?_
  refine WL.nil ?_
  refine WC.seq ?_
  refine WC.sr ?_
  refine WL.mv rfl rfl ?_
  refine WL.val (V.lss (OV.p rfl) (OV.p rfl)) rfl ?_
  refine WL.mv rfl rfl ?_
  refine WL.valG (oj := _) rfl rfl rfl GC.f (V.move (OV.p rfl)) rfl ?_
  refine WL.valG (oj := _) rfl rfl rfl GC.f (V.gtr (OV.g rfl id) (OV.p rfl)) rfl ?_
  refine WL.val (V.pickOr (OV.p rfl) (OV.g rfl id)) rfl ?_
  refine WL.nil ?_
  refine WC.condF' rfl ((by simp; omega)) ?_
  refine WC.skip ?_
  refine WC.sr ?_
  refine WL.buildSlice (E := 5) (cs := [_]) (vs := [(0, _)]) ⟨OV.p rfl, trivial⟩ rfl (bsl38_1_0 _) rfl (fun b12 => ?_)
  refine WL.sg rfl rfl ?_
  refine WL.nil ?_
  refine WC.seq ?_
  refine WC.sr ?_
  refine WL.sg rfl rfl ?_
  refine WL.nil ?_
  refine WC.block ?_
  refine WC.loop (σ := Nat × Nat × List Nat × Nat) (fun x => [(0, .int .i64 (t : Int)), (4, .slice (some ⟨x.2.1, 0, none⟩) (genB x.1).length x.2.2.2), (5, .int .i64 ((2 * x.1 + 1 : Nat) : Int))]) (fun x => Cells x.2.1 5 (nats .u8 x.2.2.1) :: F) (fun x => x.1 ≤ t ∧ (genB x.1).length ≤ x.2.2.2 ∧ genB x.1 = x.2.2.1.take (genB x.1).length) (fun x => t - x.1) (0, b12, [1], 1) ⟨Nat.zero_le _, Nat.le_refl _, rfl⟩ (.cons rfl (.cons rfl (.cons rfl (.nil _)))) (fun w h => h) ?_
  rintro ⟨k, g, full, cp⟩ ⟨hk, hcp, hfu⟩
  dsimp only at hk hcp hfu ⊢
  refine WC.seq ?_
  refine WC.sr ?_
  refine WL.mv rfl rfl ?_
  refine WL.mv rfl rfl ?_
  refine WL.val (V.mulI (OV.p rfl) (OV.p rfl) (fun hc => by first | omega | (simp at hc; omega))) rfl ?_
  refine WL.val (V.lss (OV.p rfl) (OV.p rfl)) rfl ?_
  refine WL.nil ?_
  refine WC.cond rfl (fun hc1 => ?_) (fun hc1 => ?_)
  ·simp only [decide_eq_true_eq, decide_eq_false_iff_not] at hc1
   have hk8 : k < 8 := by omega
   have ho := hok k hk8
   simp only [genOk, Bool.and_eq_true, decide_eq_true_eq, List.all_eq_true] at ho
   obtain ⟨⟨⟨ho1, ho2⟩, ho3⟩, ho4⟩ := ho
   have hgs : ∀ {H : List Assn}, Seq K (Cells g 5 (nats .u8 full) :: H) (some ⟨g, 0, none⟩) (genB k).length 1 (nats .u8 (genB k)) := fun {H} => Seq.here (by rw [nats_length]; omega) (by rw [List.drop_zero]; exact nats_prefix (by rw [hfu]; exact List.take_prefix _ _))
   refine WC.skip ?_
   refine WC.seq ?_
   refine WC.block ?_
   refine WC.region ?_
   refine WL.mv rfl rfl ?_
   refine WL.mv rfl rfl ?_
   refine WL.call (vs := [_]) Tryz.call182 ⟨OV.p rfl, trivial⟩ (bpoly_Minimal (by omega) (hcy k hk8)) rfl ?_
   rintro _ _ ⟨g2, c2, hm1, hm2, rfl, rfl⟩
   have hms : ∀ {H : List Assn}, Seq K (Cells g2 5 (nats .u8 (packP (pk ((2 * k + 1 : Nat) : Int) 13))) :: H) (some ⟨g2, 0, none⟩) (minB ((2 * k + 1 : Nat) : Int)).length 1 (nats .u8 (minB ((2 * k + 1 : Nat) : Int))) := fun {H} => Seq.here (by rw [nats_length]; omega) (by rw [List.drop_zero]; exact nats_prefix (List.take_prefix _ _))
   refine WL.call (vs := [_, _]) Tryz.call151 ⟨OV.p rfl, OV.p rfl, trivial⟩ (bpoly_Mul (ps := genB k) (qs := minB ((2 * k + 1 : Nat) : Int)) (by repeat (first | exact hgs | apply Seq.up)) hms ho3 ho4 (by omega)) rfl ?_
   rintro _ _ ⟨g3, rfl, rfl⟩
   refine WL.sg rfl rfl ?_
   refine WL.nil ?_
   refine WC.region ?_
   refine WL.mv rfl rfl ?_
   refine WL.ad rfl rfl rfl ?_
   refine WL.sg rfl rfl ?_
   refine WL.nil ?_
   refine ⟨rfl, ?_⟩
   have hnl := normLen_le (bmulF (genB k) (minB ((2 * k + 1 : Nat) : Int))) ((genB k).length + (minB ((2 * k + 1 : Nat) : Int)).length + 1)
   have hbl : (bmulF (genB k) (minB ((2 * k + 1 : Nat) : Int))).length = (genB k).length + (minB ((2 * k + 1 : Nat) : Int)).length + 1 := by unfold bmulF; rw [bmulTo_length]
   have hgl : (genB (k + 1)).length = normLen (bmulF (genB k) (minB ((2 * k + 1 : Nat) : Int))) ((genB k).length + (minB ((2 * k + 1 : Nat) : Int)).length + 1) := by rw [genB, List.length_take, hbl]; omega
   exact ⟨(k + 1, g3, bmulF (genB k) (minB ((2 * k + 1 : Nat) : Int)), (genB k).length + (minB ((2 * k + 1 : Nat) : Int)).length + 1), ⟨by show k + 1 ≤ t; omega, by rw [hgl]; exact hnl, by rw [hgl]; rfl⟩, (by show t - (k + 1) < t - k; omega), .cons rfl (.cons (look_eq rfl (by rw [hgl])) (.cons (look_eq rfl (by simp; omega)) (.nil _))), fun w h => h.sel 3 [0] rfl⟩
  ·simp only [decide_eq_true_eq, decide_eq_false_iff_not] at hc1
   refine WC.exit ?_
   refine WC.sr ?_
   refine WL.mv rfl rfl ?_
   refine WL.sg rfl rfl ?_
   refine WL.sg rfl rfl ?_
   refine WL.nil ?_
   refine WC.ret ?_
   obtain rfl : k = t := by omega
   exact BodyQ.ret (H' := Cells g _ _ :: F) (Res.tmp2 rfl rfl rfl) (fun w h => h) ⟨g, full, cp, rfl, hcp, hfu, rfl⟩
end
end Go.Proofs.YtohkefolnmcjnaaGreat
