/- The field of 8192 elements (gf): what its functions tell. -/
import Derived.Test.YtohkefolnmcjnaaSlR
import Derived.Test.YtohkefolnmcjnaaTy
import Derived.KernelRfl
namespace Go.Proofs.Ytohkefolnmcjnaa
open Go.Sl Go.RowKit
set_option linter.unusedVariables false
set_option linter.unusedSimpArgs false
set_option maxRecDepth 20000

/-! ### Bits of numbers that are not negative -/
theorem ofInt_nat (n a : Nat) : BitVec.ofInt n (a : Int) = BitVec.ofNat n a := by
  apply BitVec.eq_of_toNat_eq
  rw [BitVec.toNat_ofInt, BitVec.toNat_ofNat]
  omega
theorem xor_lt {a b k : Nat} (ha : a < 2 ^ k) (hb : b < 2 ^ k) : a ^^^ b < 2 ^ k := Nat.xor_lt_two_pow ha hb
theorem bits_xor {a b : Nat} (ha : a < 4611686018427387904) (hb : b < 4611686018427387904) : bitsOf .xor .i64 (a : Int) (b : Int) = ((a ^^^ b : Nat) : Int) := by
  have h := xor_lt (k := 62) ha hb
  unfold bitsOf
  dsimp only
  rw [ofInt_nat, ofInt_nat, BitVec.toNat_xor, BitVec.toNat_ofNat, BitVec.toNat_ofNat]
  have e1 : a % 2 ^ IntKind.i64.bits = a := Nat.mod_eq_of_lt (by show a < 2 ^ 64; omega)
  have e2 : b % 2 ^ IntKind.i64.bits = b := Nat.mod_eq_of_lt (by show b < 2 ^ 64; omega)
  rw [e1, e2]
  exact wrap_i64 (by omega)
theorem and_one {a : Nat} (ha : a < 4611686018427387904) : bitsOf .and .i64 (a : Int) 1 = ((a % 2 : Nat) : Int) := by
  unfold bitsOf
  dsimp only
  rw [show (1 : Int) = ((1 : Nat) : Int) from rfl, ofInt_nat, ofInt_nat, BitVec.toNat_and, BitVec.toNat_ofNat, BitVec.toNat_ofNat]
  have e1 : a % 2 ^ IntKind.i64.bits = a := Nat.mod_eq_of_lt (by show a < 2 ^ 64; omega)
  have e2 : 1 % 2 ^ IntKind.i64.bits = 1 := rfl
  rw [e1, e2, Nat.and_one_is_mod]
  exact wrap_i64 (by omega)
theorem shl_one {a : Nat} (ha : a < 4611686018427387904) : IntKind.i64.wrap ((a : Int) * 2 ^ (min (1 : Int).toNat IntKind.i64.bits)) = ((2 * a : Nat) : Int) := by
  rw [show min (1 : Int).toNat IntKind.i64.bits = 1 from rfl, wrap_i64 (by omega)]
  omega
theorem shr_one {a : Nat} : (a : Int).fdiv (2 ^ (min (1 : Int).toNat IntKind.i64.bits)) = ((a / 2 : Nat) : Int) := by
  rw [show min (1 : Int).toNat IntKind.i64.bits = 1 from rfl, Int.fdiv_eq_ediv_of_nonneg _ (by decide)]
  omega

/-! ### The field -/
def red (a : Nat) : Nat := if 8192 ≤ a then a ^^^ 8219 else a
def gmulF : Nat → Nat → Nat → Nat → Nat
  | 0, out, _, _ => out
  | k + 1, out, a, b => if b = 0 then out else gmulF k (if b % 2 = 1 then out ^^^ a else out) (red (2 * a)) (b / 2)
def gmul (a b : Nat) : Nat := gmulF 13 0 a b
def gpowF : Nat → Nat → Nat → Nat → Nat
  | 0, out, _, _ => out
  | k + 1, out, a, n => if n = 0 then out else gpowF k (if n % 2 = 1 then gmul out a else out) (gmul a a) (n / 2)
def gpow (a n : Nat) : Nat := gpowF 13 1 a n
/-- w's power i. -/
def gexp (i : Int) : Nat := gpow 2 (i % 8191).toNat
def ginv (a : Nat) : Nat := gpow a 8190

theorem red_lt {a : Nat} (h : a < 8192) : red (2 * a) < 8192 := by
  unfold red
  split
  · rename_i h1
    obtain ⟨c, hc⟩ : ∃ c, 2 * a = 8192 + c := ⟨2 * a - 8192, by omega⟩
    have hc2 : c < 8192 := by omega
    have e1 : 2 * a = 8192 ^^^ c := by
      rw [hc]
      have := Nat.two_pow_add_eq_or_of_lt (i := 13) (b := c) hc2 1
      have e : (8192 : Nat) ||| c = 8192 ^^^ c := by
        apply Nat.eq_of_testBit_eq
        intro i
        rw [Nat.testBit_or, Nat.testBit_xor, show (8192 : Nat) = 2 ^ 13 from rfl, Nat.testBit_two_pow]
        by_cases hi : 13 = i
        · subst hi
          rw [Nat.testBit_lt_two_pow hc2]; simp
        · simp [hi]
      rw [← e]
      simpa using this
    rw [e1, Nat.xor_comm 8192 c, Nat.xor_assoc, show (8192 : Nat) ^^^ 8219 = 27 from rfl]
    exact xor_lt (k := 13) hc2 (by decide)
  · omega
theorem gmulF_lt : ∀ (k out a b : Nat), out < 8192 → a < 8192 → gmulF k out a b < 8192
  | 0, _, _, _, h, _ => h
  | k + 1, out, a, b, h, h' => by
    rw [gmulF]
    split
    · exact h
    · refine gmulF_lt k _ _ _ ?_ (red_lt h')
      split
      · exact xor_lt (k := 13) h h'
      · exact h
theorem gmul_lt {a b : Nat} (ha : a < 8192) : gmul a b < 8192 := gmulF_lt _ _ _ _ (by decide) ha
theorem gpowF_lt : ∀ (k out a n : Nat), out < 8192 → a < 8192 → gpowF k out a n < 8192
  | 0, _, _, _, h, _ => h
  | k + 1, out, a, n, h, h' => by
    rw [gpowF]
    split
    · exact h
    · refine gpowF_lt k _ _ _ ?_ (gmul_lt h')
      split
      · exact gmul_lt h
      · exact h
theorem gpow_lt {a n : Nat} (ha : a < 8192) : gpow a n < 8192 := gpowF_lt _ _ _ _ (by decide) ha
theorem gexp_lt (i : Int) : gexp i < 8192 := gpow_lt (by decide)

section
variable {K : World} {F : List Assn}
theorem gf_mul {a b : Nat} (ha : a < 8192) (hb : b < 8192) : Tells Try.prog 86 #[.int .i64 (a : Int), .int .i64 (b : Int)] K F (.int .i64 (gmul a b : Nat)) := by
  refine Does.enter Try.func86 rfl Try.ntmps86 rfl ?_
  simp only [env0, Nat.reduceAdd]
  refine WC.seq ?_
  refine WC.region ?_
  refine WL.val (V.assign (OV.p rfl)) rfl ?_
  refine WL.nil ?_
  refine WC.seq ?_
  refine WC.region ?_
  refine WL.val (V.assign (OV.p rfl)) rfl ?_
  refine WL.nil ?_
  refine WC.seq ?_
  refine WC.block ?_
  refine WC.loop (σ := Nat × Nat × Nat × Nat) (fun x => [(5, .int .i64 (x.2.1 : Int)), (0, .int .i64 (x.2.2.1 : Int)), (1, .int .i64 (x.2.2.2 : Int))]) (fun _ => F) (fun x => x.2.1 < 8192 ∧ x.2.2.1 < 8192 ∧ x.2.2.2 < 2 ^ x.1 ∧ x.1 ≤ 13 ∧ gmulF x.1 x.2.1 x.2.2.1 x.2.2.2 = gmul a b) (fun x => x.1) (13, 0, a, b) ⟨by show 0 < 8192; decide, ha, hb, Nat.le_refl _, rfl⟩ (.cons rfl (.cons rfl (.cons rfl (.nil _)))) (fun w h => h) ?_
  rintro ⟨k, o, x, y⟩ ⟨h1, h2, h3, h3', h4⟩
  dsimp only at h1 h2 h3 h3' h4 ⊢
  have h13 : (2 : Nat) ^ k ≤ 2 ^ 13 := Nat.pow_le_pow_right (by decide) h3'
  have hy : y < 8192 := by omega
  refine WC.seq ?_
  refine WC.seq ?_
  refine WC.region ?_
  refine WL.val (V.move (OV.p rfl)) rfl ?_
  refine WL.val (V.neq (OV.p rfl) (OV.p rfl)) rfl ?_
  refine WL.nil ?_
  refine WC.cond rfl (fun hc0 => ?_) (fun hc0 => ?_)
  · simp only [Bool.not_eq_true', Bool.not_eq_false', decide_eq_true_eq, decide_eq_false_iff_not] at hc0
    have hy0 : y ≠ 0 := by omega
    obtain ⟨k', rfl⟩ : ∃ k', k = k' + 1 := ⟨k - 1, by rcases Nat.eq_zero_or_pos k with h | h; subst h; simp at h3; omega; omega⟩
    rw [gmulF, if_neg hy0] at h4
    have hy2 : y / 2 < 2 ^ k' := by rw [Nat.pow_succ] at h3; omega
    refine WC.skip ?_
    refine WC.seq ?_
    refine WC.block ?_
    refine WC.seq ?_
    refine WC.seq ?_
    refine WC.region ?_
    refine WL.val (V.move (OV.p rfl)) rfl ?_
    refine WL.val (V.val_eq (v' := .int .i64 ((y % 2 : Nat) : Int)) (V.and (OV.p rfl) (OV.p rfl)) (fun _ => by rw [and_one (by omega)])) rfl ?_
    refine WL.val (V.eql (OV.p rfl) (OV.p rfl)) rfl ?_
    refine WL.nil ?_
    refine WC.cond rfl (fun hc1 => ?_) (fun hc1 => ?_)
    · simp only [decide_eq_true_eq, decide_eq_false_iff_not] at hc1
      rw [if_pos (show y % 2 = 1 by omega)] at h4
      refine WC.region ?_
      refine WL.val (V.move (OV.p rfl)) rfl ?_
      refine WL.val (V.move (OV.p rfl)) rfl ?_
      refine WL.val (V.val_eq (v' := .int .i64 ((o ^^^ x : Nat) : Int)) (V.xor (OV.p rfl) (OV.p rfl)) (fun _ => by rw [bits_xor (by omega) (by omega)])) rfl ?_
      refine WL.val (V.assign (OV.p rfl)) rfl ?_
      refine WL.nil ?_
      refine WC.seq ?_
      refine WC.region ?_
      refine WL.val (V.move (OV.p rfl)) rfl ?_
      refine WL.val (V.val_eq (v' := .int .i64 ((2 * x : Nat) : Int)) (V.shl (OV.p rfl) (OV.p rfl) (by decide)) (fun _ => by rw [shl_one (by omega)])) rfl ?_
      refine WL.val (V.assign (OV.p rfl)) rfl ?_
      refine WL.nil ?_
      refine WC.seq ?_
      refine WC.region ?_
      refine WL.val (V.move (OV.p rfl)) rfl ?_
      refine WL.val (V.geq (OV.p rfl) (OV.p rfl)) rfl ?_
      refine WL.nil ?_
      refine WC.cond rfl (fun hc2 => ?_) (fun hc2 => ?_)
      · simp only [decide_eq_true_eq, decide_eq_false_iff_not] at hc2
        have hr : red (2 * x) = 2 * x ^^^ 8219 := by unfold red; rw [if_pos (by omega)]
        refine WC.region ?_
        refine WL.val (V.move (OV.p rfl)) rfl ?_
        refine WL.val (V.val_eq (v' := .int .i64 ((2 * x ^^^ 8219 : Nat) : Int)) (V.xor (OV.p rfl) (OV.p rfl)) (fun _ => by rw [show (8219 : Int) = ((8219 : Nat) : Int) from rfl, bits_xor (by omega) (by omega)])) rfl ?_
        refine WL.val (V.assign (OV.p rfl)) rfl ?_
        refine WL.nil ?_
        refine WC.region ?_
        refine WL.val (V.move (OV.p rfl)) rfl ?_
        refine WL.val (V.val_eq (v' := .int .i64 ((y / 2 : Nat) : Int)) (V.shr (OV.p rfl) (OV.p rfl) (by decide)) (fun _ => by rw [shr_one])) rfl ?_
        refine WL.val (V.assign (OV.p rfl)) rfl ?_
        refine WL.nil ?_
        refine ⟨rfl, ?_⟩
        have hrl := red_lt h2
        have hxo : o ^^^ x < 8192 := xor_lt (k := 13) h1 h2
        rw [hr] at h4 hrl
        first
          | exact ⟨(k', o ^^^ x, _, y / 2), ⟨hxo, hrl, hy2, by show k' ≤ 13; omega, h4⟩, Nat.lt_succ_self _, .cons rfl (.cons rfl (.cons rfl (.nil _))), fun w h => h⟩
          | exact ⟨(k', o, _, y / 2), ⟨h1, hrl, hy2, by show k' ≤ 13; omega, h4⟩, Nat.lt_succ_self _, .cons rfl (.cons rfl (.cons rfl (.nil _))), fun w h => h⟩
      · simp only [decide_eq_true_eq, decide_eq_false_iff_not] at hc2
        have hr : red (2 * x) = 2 * x := by unfold red; rw [if_neg (by omega)]
        refine WC.skip ?_
        refine WC.region ?_
        refine WL.val (V.move (OV.p rfl)) rfl ?_
        refine WL.val (V.val_eq (v' := .int .i64 ((y / 2 : Nat) : Int)) (V.shr (OV.p rfl) (OV.p rfl) (by decide)) (fun _ => by rw [shr_one])) rfl ?_
        refine WL.val (V.assign (OV.p rfl)) rfl ?_
        refine WL.nil ?_
        refine ⟨rfl, ?_⟩
        have hrl := red_lt h2
        have hxo : o ^^^ x < 8192 := xor_lt (k := 13) h1 h2
        rw [hr] at h4 hrl
        first
          | exact ⟨(k', o ^^^ x, _, y / 2), ⟨hxo, hrl, hy2, by show k' ≤ 13; omega, h4⟩, Nat.lt_succ_self _, .cons rfl (.cons rfl (.cons rfl (.nil _))), fun w h => h⟩
          | exact ⟨(k', o, _, y / 2), ⟨h1, hrl, hy2, by show k' ≤ 13; omega, h4⟩, Nat.lt_succ_self _, .cons rfl (.cons rfl (.cons rfl (.nil _))), fun w h => h⟩
    · simp only [decide_eq_true_eq, decide_eq_false_iff_not] at hc1
      rw [if_neg (show ¬ y % 2 = 1 by omega)] at h4
      refine WC.skip ?_
      refine WC.seq ?_
      refine WC.region ?_
      refine WL.val (V.move (OV.p rfl)) rfl ?_
      refine WL.val (V.val_eq (v' := .int .i64 ((2 * x : Nat) : Int)) (V.shl (OV.p rfl) (OV.p rfl) (by decide)) (fun _ => by rw [shl_one (by omega)])) rfl ?_
      refine WL.val (V.assign (OV.p rfl)) rfl ?_
      refine WL.nil ?_
      refine WC.seq ?_
      refine WC.region ?_
      refine WL.val (V.move (OV.p rfl)) rfl ?_
      refine WL.val (V.geq (OV.p rfl) (OV.p rfl)) rfl ?_
      refine WL.nil ?_
      refine WC.cond rfl (fun hc2 => ?_) (fun hc2 => ?_)
      · simp only [decide_eq_true_eq, decide_eq_false_iff_not] at hc2
        have hr : red (2 * x) = 2 * x ^^^ 8219 := by unfold red; rw [if_pos (by omega)]
        refine WC.region ?_
        refine WL.val (V.move (OV.p rfl)) rfl ?_
        refine WL.val (V.val_eq (v' := .int .i64 ((2 * x ^^^ 8219 : Nat) : Int)) (V.xor (OV.p rfl) (OV.p rfl)) (fun _ => by rw [show (8219 : Int) = ((8219 : Nat) : Int) from rfl, bits_xor (by omega) (by omega)])) rfl ?_
        refine WL.val (V.assign (OV.p rfl)) rfl ?_
        refine WL.nil ?_
        refine WC.region ?_
        refine WL.val (V.move (OV.p rfl)) rfl ?_
        refine WL.val (V.val_eq (v' := .int .i64 ((y / 2 : Nat) : Int)) (V.shr (OV.p rfl) (OV.p rfl) (by decide)) (fun _ => by rw [shr_one])) rfl ?_
        refine WL.val (V.assign (OV.p rfl)) rfl ?_
        refine WL.nil ?_
        refine ⟨rfl, ?_⟩
        have hrl := red_lt h2
        have hxo : o ^^^ x < 8192 := xor_lt (k := 13) h1 h2
        rw [hr] at h4 hrl
        first
          | exact ⟨(k', o ^^^ x, _, y / 2), ⟨hxo, hrl, hy2, by show k' ≤ 13; omega, h4⟩, Nat.lt_succ_self _, .cons rfl (.cons rfl (.cons rfl (.nil _))), fun w h => h⟩
          | exact ⟨(k', o, _, y / 2), ⟨h1, hrl, hy2, by show k' ≤ 13; omega, h4⟩, Nat.lt_succ_self _, .cons rfl (.cons rfl (.cons rfl (.nil _))), fun w h => h⟩
      · simp only [decide_eq_true_eq, decide_eq_false_iff_not] at hc2
        have hr : red (2 * x) = 2 * x := by unfold red; rw [if_neg (by omega)]
        refine WC.skip ?_
        refine WC.region ?_
        refine WL.val (V.move (OV.p rfl)) rfl ?_
        refine WL.val (V.val_eq (v' := .int .i64 ((y / 2 : Nat) : Int)) (V.shr (OV.p rfl) (OV.p rfl) (by decide)) (fun _ => by rw [shr_one])) rfl ?_
        refine WL.val (V.assign (OV.p rfl)) rfl ?_
        refine WL.nil ?_
        refine ⟨rfl, ?_⟩
        have hrl := red_lt h2
        have hxo : o ^^^ x < 8192 := xor_lt (k := 13) h1 h2
        rw [hr] at h4 hrl
        first
          | exact ⟨(k', o ^^^ x, _, y / 2), ⟨hxo, hrl, hy2, by show k' ≤ 13; omega, h4⟩, Nat.lt_succ_self _, .cons rfl (.cons rfl (.cons rfl (.nil _))), fun w h => h⟩
          | exact ⟨(k', o, _, y / 2), ⟨h1, hrl, hy2, by show k' ≤ 13; omega, h4⟩, Nat.lt_succ_self _, .cons rfl (.cons rfl (.cons rfl (.nil _))), fun w h => h⟩
  · simp only [Bool.not_eq_true', Bool.not_eq_false', decide_eq_true_eq, decide_eq_false_iff_not] at hc0
    have hy0 : y = 0 := by omega
    refine WC.exit ?_
    refine WC.seq ?_
    refine WC.region ?_
    refine WL.val (V.move (OV.p rfl)) rfl ?_
    refine WL.val (V.assign (OV.p rfl)) rfl ?_
    refine WL.nil ?_
    refine WC.ret ?_
    refine BodyQ.ret (H' := F) (Res.tmp rfl rfl) (fun w h => h) ⟨?_, rfl⟩
    have : o = gmul a b := by
      rw [← h4, hy0]
      cases k <;> simp [gmulF]
    rw [this]
theorem gf_is (a : Int) : Tells Try.prog 85 #[.int .i64 a] K F (.bool (decide (0 ≤ a) && decide (a < 8192))) := by
  refine Does.enter Try.func85 rfl Try.ntmps85 rfl ?_
  simp only [env0, Nat.reduceAdd]
  refine WC.seq ?_
  refine WC.region ?_
  refine WL.val (V.assign (OV.p rfl)) rfl ?_
  refine WL.nil ?_
  refine WC.seq ?_
  refine WC.region ?_
  refine WL.val (V.move (OV.p rfl)) rfl ?_
  refine WL.val (V.geq (OV.p rfl) (OV.p rfl)) rfl ?_
  refine WL.val (V.move (OV.p rfl)) rfl ?_
  refine WL.valG (oj := _) rfl rfl rfl GC.t (V.move (OV.p rfl)) rfl ?_
  refine WL.valG (oj := _) rfl rfl rfl GC.t (V.lss (OV.g rfl id) (OV.p rfl)) rfl ?_
  refine WL.val (V.pickAnd (OV.p rfl) (OV.g rfl id)) rfl ?_
  refine WL.val (V.assign (OV.p rfl)) rfl ?_
  refine WL.nil ?_
  refine WC.ret ?_
  exact BodyQ.ret (H' := F) (Res.tmp rfl rfl) (fun w h => h) ⟨rfl, rfl⟩
theorem gf_is_lt {a : Nat} (h : a < 8192) : Tells Try.prog 85 #[.int .i64 (a : Int)] K F (.bool true) := (gf_is (a : Int)).eq (by rw [decide_eq_true (show (0 : Int) ≤ (a : Int) by omega), decide_eq_true (show (a : Int) < 8192 by omega)]; rfl)
theorem gf_Mul {a b : Nat} (ha : a < 8192) (hb : b < 8192) : Tells Try.prog 81 #[.int .i64 (a : Int), .int .i64 (b : Int)] K F (.tuple #[.int .i64 (gmul a b : Nat), .int .i64 0]) := by
  refine Does.enter Try.func81 rfl Try.ntmps81 rfl ?_
  simp only [env0, Nat.reduceAdd]
  refine WC.seq ?_
  refine WC.region ?_
  refine WL.val (V.assign (OV.p rfl)) rfl ?_
  refine WL.val (V.assign (OV.p rfl)) rfl ?_
  refine WL.nil ?_
  refine WC.seq ?_
  refine WC.seq ?_
  refine WC.region ?_
  refine WL.val (V.move (OV.p rfl)) rfl ?_
  refine WL.call (vs := [_]) Try.call85 ⟨OV.p rfl, trivial⟩ (gf_is_lt ha) rfl ?_
  rintro _ H0 ⟨rfl, h0⟩
  subst H0
  refine WL.val (V.not (OV.p rfl)) rfl ?_
  refine WL.val (V.move (OV.p rfl)) rfl ?_
  refine WL.valG (oj := _) rfl rfl rfl GC.f (V.move (OV.p rfl)) rfl ?_
  refine WL.callG (oj := _) (vs := [_]) rfl rfl rfl GC.f Try.call85 ⟨OV.g rfl id, trivial⟩ (fun hg => gf_is_lt hb) rfl ?_
  refine WL.valG (oj := _) rfl rfl rfl GC.f (V.not (OV.g rfl id)) rfl ?_
  refine WL.val (V.pickOr (OV.p rfl) (OV.g rfl id)) rfl ?_
  refine WL.nil ?_
  refine WC.condF' rfl (by first | rfl | (simp; done) | (simp; omega)) ?_
  refine WC.skip ?_
  refine WC.seq ?_
  refine WC.region ?_
  refine WL.val (V.move (OV.p rfl)) rfl ?_
  refine WL.val (V.move (OV.p rfl)) rfl ?_
  refine WL.call (vs := [_, _]) Try.call86 ⟨OV.p rfl, OV.p rfl, trivial⟩ (gf_mul ha hb) rfl ?_
  rintro _ H0 ⟨rfl, h0⟩
  subst H0
  refine WL.val (V.assign (OV.p rfl)) rfl ?_
  refine WL.val (V.assign (OV.p rfl)) rfl ?_
  refine WL.nil ?_
  refine WC.ret ?_
  exact BodyQ.ret (H' := F) (Res.tmp2 rfl rfl rfl) (fun w h => h) ⟨rfl, rfl⟩
theorem bch_mul {a b : Nat} (ha : a < 8192) (hb : b < 8192) : Tells Try.prog 67 #[.int .i64 (a : Int), .int .i64 (b : Int)] K F (.int .i64 (gmul a b : Nat)) := by
  refine Does.enter Try.func67 rfl Try.ntmps67 rfl ?_
  simp only [env0, Nat.reduceAdd]
  refine WC.seq ?_
  refine WC.region ?_
  refine WL.val (V.assign (OV.p rfl)) rfl ?_
  refine WL.nil ?_
  refine WC.seq ?_
  refine WC.region ?_
  refine WL.val (V.move (OV.p rfl)) rfl ?_
  refine WL.val (V.move (OV.p rfl)) rfl ?_
  refine WL.call (vs := [_, _]) Try.call81 ⟨OV.p rfl, OV.p rfl, trivial⟩ (gf_Mul ha hb) rfl ?_
  rintro _ H0 ⟨rfl, h0⟩
  subst H0
  refine WL.val (V.move (OV.p rfl)) rfl ?_
  refine WL.val (V.extract (OV.p rfl) rfl) rfl ?_
  refine WL.val (V.extract (OV.p rfl) rfl) rfl ?_
  refine WL.val (V.assign (OV.p rfl)) rfl ?_
  refine WL.val (V.assign (OV.p rfl)) rfl ?_
  refine WL.nil ?_
  refine WC.seq ?_
  refine WC.region ?_
  refine WL.val (V.move (OV.p rfl)) rfl ?_
  refine WL.val (V.assign (OV.p rfl)) rfl ?_
  refine WL.nil ?_
  refine WC.ret ?_
  exact BodyQ.ret (H' := F) (Res.tmp rfl rfl) (fun w h => h) ⟨rfl, rfl⟩
theorem poly_mul {a b : Nat} (ha : a < 8192) (hb : b < 8192) : Tells Try.prog 94 #[.int .i64 (a : Int), .int .i64 (b : Int)] K F (.int .i64 (gmul a b : Nat)) := by
  refine Does.enter Try.func94 rfl Try.ntmps94 rfl ?_
  simp only [env0, Nat.reduceAdd]
  refine WC.seq ?_
  refine WC.region ?_
  refine WL.val (V.assign (OV.p rfl)) rfl ?_
  refine WL.nil ?_
  refine WC.seq ?_
  refine WC.region ?_
  refine WL.val (V.move (OV.p rfl)) rfl ?_
  refine WL.val (V.move (OV.p rfl)) rfl ?_
  refine WL.call (vs := [_, _]) Try.call81 ⟨OV.p rfl, OV.p rfl, trivial⟩ (gf_Mul ha hb) rfl ?_
  rintro _ H0 ⟨rfl, h0⟩
  subst H0
  refine WL.val (V.move (OV.p rfl)) rfl ?_
  refine WL.val (V.extract (OV.p rfl) rfl) rfl ?_
  refine WL.val (V.extract (OV.p rfl) rfl) rfl ?_
  refine WL.val (V.assign (OV.p rfl)) rfl ?_
  refine WL.val (V.assign (OV.p rfl)) rfl ?_
  refine WL.nil ?_
  refine WC.seq ?_
  refine WC.region ?_
  refine WL.val (V.move (OV.p rfl)) rfl ?_
  refine WL.val (V.assign (OV.p rfl)) rfl ?_
  refine WL.nil ?_
  refine WC.ret ?_
  exact BodyQ.ret (H' := F) (Res.tmp rfl rfl) (fun w h => h) ⟨rfl, rfl⟩
theorem gf_pow {a m : Nat} (ha : a < 8192) (hm : m < 8192) : Tells Try.prog 79 #[.int .i64 (a : Int), .int .i64 (m : Int)] K F (.int .i64 (gpow a m : Nat)) := by
  refine Does.enter Try.func79 rfl Try.ntmps79 rfl ?_
  simp only [env0, Nat.reduceAdd]
  refine WC.seq ?_
  refine WC.region ?_
  refine WL.val (V.assign (OV.p rfl)) rfl ?_
  refine WL.nil ?_
  refine WC.seq ?_
  refine WC.region ?_
  refine WL.val (V.assign (OV.p rfl)) rfl ?_
  refine WL.nil ?_
  refine WC.seq ?_
  refine WC.block ?_
  refine WC.loop (σ := Nat × Nat × Nat × Nat) (fun x => [(5, .int .i64 (x.2.1 : Int)), (0, .int .i64 (x.2.2.1 : Int)), (1, .int .i64 (x.2.2.2 : Int))]) (fun _ => F) (fun x => x.2.1 < 8192 ∧ x.2.2.1 < 8192 ∧ x.2.2.2 < 2 ^ x.1 ∧ x.1 ≤ 13 ∧ gpowF x.1 x.2.1 x.2.2.1 x.2.2.2 = gpow a m) (fun x => x.1) (13, 1, a, m) ⟨by show 1 < 8192; decide, ha, hm, Nat.le_refl _, rfl⟩ (.cons rfl (.cons rfl (.cons rfl (.nil _)))) (fun w h => h) ?_
  rintro ⟨k, o, x, y⟩ ⟨h1, h2, h3, h3', h4⟩
  dsimp only at h1 h2 h3 h3' h4 ⊢
  have h13 : (2 : Nat) ^ k ≤ 2 ^ 13 := Nat.pow_le_pow_right (by decide) h3'
  have hy : y < 8192 := by omega
  refine WC.seq ?_
  refine WC.seq ?_
  refine WC.region ?_
  refine WL.val (V.move (OV.p rfl)) rfl ?_
  refine WL.val (V.gtr (OV.p rfl) (OV.p rfl)) rfl ?_
  refine WL.nil ?_
  refine WC.cond rfl (fun hc0 => ?_) (fun hc0 => ?_)
  · simp only [decide_eq_true_eq, decide_eq_false_iff_not] at hc0
    have hy0 : y ≠ 0 := by omega
    obtain ⟨k', rfl⟩ : ∃ k', k = k' + 1 := ⟨k - 1, by rcases Nat.eq_zero_or_pos k with h | h; subst h; simp at h3; omega; omega⟩
    rw [gpowF, if_neg hy0] at h4
    have hy2 : y / 2 < 2 ^ k' := by rw [Nat.pow_succ] at h3; omega
    refine WC.skip ?_
    refine WC.seq ?_
    refine WC.block ?_
    refine WC.seq ?_
    refine WC.seq ?_
    refine WC.region ?_
    refine WL.val (V.move (OV.p rfl)) rfl ?_
    refine WL.val (V.val_eq (v' := .int .i64 ((y % 2 : Nat) : Int)) (V.and (OV.p rfl) (OV.p rfl)) (fun _ => by rw [and_one (by omega)])) rfl ?_
    refine WL.val (V.eql (OV.p rfl) (OV.p rfl)) rfl ?_
    refine WL.nil ?_
    refine WC.cond rfl (fun hc1 => ?_) (fun hc1 => ?_)
    · simp only [decide_eq_true_eq, decide_eq_false_iff_not] at hc1
      rw [if_pos (show y % 2 = 1 by omega)] at h4
      refine WC.region ?_
      refine WL.val (V.move (OV.p rfl)) rfl ?_
      refine WL.val (V.move (OV.p rfl)) rfl ?_
      refine WL.call (vs := [_, _]) Try.call86 ⟨OV.p rfl, OV.p rfl, trivial⟩ (gf_mul h1 h2) rfl ?_
      rintro _ H0 ⟨rfl, h0⟩
      subst H0
      refine WL.val (V.assign (OV.p rfl)) rfl ?_
      refine WL.nil ?_
      refine WC.region ?_
      refine WL.val (V.move (OV.p rfl)) rfl ?_
      refine WL.val (V.move (OV.p rfl)) rfl ?_
      refine WL.call (vs := [_, _]) Try.call86 ⟨OV.p rfl, OV.p rfl, trivial⟩ (gf_mul h2 h2) rfl ?_
      rintro _ H0 ⟨rfl, h0⟩
      subst H0
      refine WL.val (V.assign (OV.p rfl)) rfl ?_
      refine WL.nil ?_
      refine WC.region ?_
      refine WL.val (V.move (OV.p rfl)) rfl ?_
      refine WL.val (V.val_eq (v' := .int .i64 ((y / 2 : Nat) : Int)) (V.shr (OV.p rfl) (OV.p rfl) (by decide)) (fun _ => by rw [shr_one])) rfl ?_
      refine WL.val (V.assign (OV.p rfl)) rfl ?_
      refine WL.nil ?_
      refine ⟨rfl, ?_⟩
      first
        | exact ⟨(k', gmul o x, gmul x x, y / 2), ⟨gmul_lt h1, gmul_lt h2, hy2, by show k' ≤ 13; omega, h4⟩, Nat.lt_succ_self _, .cons rfl (.cons rfl (.cons rfl (.nil _))), fun w h => h⟩
        | exact ⟨(k', o, gmul x x, y / 2), ⟨h1, gmul_lt h2, hy2, by show k' ≤ 13; omega, h4⟩, Nat.lt_succ_self _, .cons rfl (.cons rfl (.cons rfl (.nil _))), fun w h => h⟩
    · simp only [decide_eq_true_eq, decide_eq_false_iff_not] at hc1
      rw [if_neg (show ¬ y % 2 = 1 by omega)] at h4
      refine WC.skip ?_
      refine WC.region ?_
      refine WL.val (V.move (OV.p rfl)) rfl ?_
      refine WL.val (V.move (OV.p rfl)) rfl ?_
      refine WL.call (vs := [_, _]) Try.call86 ⟨OV.p rfl, OV.p rfl, trivial⟩ (gf_mul h2 h2) rfl ?_
      rintro _ H0 ⟨rfl, h0⟩
      subst H0
      refine WL.val (V.assign (OV.p rfl)) rfl ?_
      refine WL.nil ?_
      refine WC.region ?_
      refine WL.val (V.move (OV.p rfl)) rfl ?_
      refine WL.val (V.val_eq (v' := .int .i64 ((y / 2 : Nat) : Int)) (V.shr (OV.p rfl) (OV.p rfl) (by decide)) (fun _ => by rw [shr_one])) rfl ?_
      refine WL.val (V.assign (OV.p rfl)) rfl ?_
      refine WL.nil ?_
      refine ⟨rfl, ?_⟩
      first
        | exact ⟨(k', gmul o x, gmul x x, y / 2), ⟨gmul_lt h1, gmul_lt h2, hy2, by show k' ≤ 13; omega, h4⟩, Nat.lt_succ_self _, .cons rfl (.cons rfl (.cons rfl (.nil _))), fun w h => h⟩
        | exact ⟨(k', o, gmul x x, y / 2), ⟨h1, gmul_lt h2, hy2, by show k' ≤ 13; omega, h4⟩, Nat.lt_succ_self _, .cons rfl (.cons rfl (.cons rfl (.nil _))), fun w h => h⟩
  · simp only [decide_eq_true_eq, decide_eq_false_iff_not] at hc0
    have hy0 : y = 0 := by omega
    refine WC.exit ?_
    refine WC.seq ?_
    refine WC.region ?_
    refine WL.val (V.move (OV.p rfl)) rfl ?_
    refine WL.val (V.assign (OV.p rfl)) rfl ?_
    refine WL.nil ?_
    refine WC.ret ?_
    refine BodyQ.ret (H' := F) (Res.tmp rfl rfl) (fun w h => h) ⟨?_, rfl⟩
    have : o = gpow a m := by
      rw [← h4, hy0]
      cases k <;> simp [gpowF]
    rw [this]
theorem gf_around (i : Int) (hi : -9223372036854775808 ≤ i ∧ i ≤ 9223372036854775807) : Tells Try.prog 80 #[.int .i64 i] K F (.int .i64 (i % 8191)) := by
  have hb : -8191 < i.tmod 8191 ∧ i.tmod 8191 < 8191 := by
    rcases Int.le_total 0 i with h | h
    · rw [Int.tmod_eq_emod_of_nonneg h]; omega
    · have h1 : i.tmod 8191 = -((-i).tmod 8191) := by rw [Int.neg_tmod, Int.neg_neg]
      rw [Int.tmod_eq_emod_of_nonneg (a := -i) (by omega)] at h1
      omega
  have he := Int.tmod_def i 8191
  refine Does.enter Try.func80 rfl Try.ntmps80 rfl ?_
  simp only [env0, Nat.reduceAdd]
  refine WC.seq ?_
  refine WC.region ?_
  refine WL.val (V.assign (OV.p rfl)) rfl ?_
  refine WL.nil ?_
  refine WC.seq ?_
  refine WC.seq ?_
  refine WC.region ?_
  refine WL.val (V.move (OV.p rfl)) rfl ?_
  refine WL.val (V.rem (OV.p rfl) (OV.p rfl) (by decide)) rfl ?_
  refine WL.val (V.assign (OV.p rfl)) rfl ?_
  refine WL.nil ?_
  refine WC.seq ?_
  refine WC.region ?_
  refine WL.val (V.move (OV.p rfl)) rfl ?_
  refine WL.val (V.lss (OV.p rfl) (OV.p rfl)) rfl ?_
  refine WL.nil ?_
  refine WC.cond rfl (fun hc0 => ?_) (fun hc0 => ?_)
  · simp only [decide_eq_true_eq, decide_eq_false_iff_not] at hc0
    have h0 := hc0
    refine WC.region ?_
    refine WL.val (V.move (OV.p rfl)) rfl ?_
    refine WL.val (V.addI (OV.p rfl) (OV.p rfl) (fun hc => by first | omega | (simp at hc; omega))) rfl ?_
    refine WL.val (V.assign (OV.p rfl)) rfl ?_
    refine WL.nil ?_
    refine WC.seq ?_
    refine WC.region ?_
    refine WL.val (V.move (OV.p rfl)) rfl ?_
    refine WL.val (V.assign (OV.p rfl)) rfl ?_
    refine WL.nil ?_
    refine WC.ret ?_
    first
    | (refine BodyQ.ret (H' := F) (Res.tmp rfl rfl) (fun w h => h) ⟨?_, rfl⟩
       have : i.tmod 8191 + 8191 = i % 8191 := by rw [he] at h0 ⊢; omega
       rw [this])
    | (refine BodyQ.ret (H' := F) (Res.tmp rfl rfl) (fun w h => h) ⟨?_, rfl⟩
       have : i.tmod 8191 = i % 8191 := by rw [he] at h0 ⊢; omega
       rw [this])
  · simp only [decide_eq_true_eq, decide_eq_false_iff_not] at hc0
    have h0 := hc0
    refine WC.skip ?_
    refine WC.seq ?_
    refine WC.region ?_
    refine WL.val (V.move (OV.p rfl)) rfl ?_
    refine WL.val (V.assign (OV.p rfl)) rfl ?_
    refine WL.nil ?_
    refine WC.ret ?_
    first
    | (refine BodyQ.ret (H' := F) (Res.tmp rfl rfl) (fun w h => h) ⟨?_, rfl⟩
       have : i.tmod 8191 + 8191 = i % 8191 := by rw [he] at h0 ⊢; omega
       rw [this])
    | (refine BodyQ.ret (H' := F) (Res.tmp rfl rfl) (fun w h => h) ⟨?_, rfl⟩
       have : i.tmod 8191 = i % 8191 := by rw [he] at h0 ⊢; omega
       rw [this])
theorem gf_Exp (i : Int) (hi : -9223372036854775808 ≤ i ∧ i ≤ 9223372036854775807) : Tells Try.prog 66 #[.int .i64 i] K F (.int .i64 (gexp i : Nat)) := by
  have e1 : i % 8191 = (((i % 8191).toNat : Nat) : Int) := by omega
  refine Does.enter Try.func66 rfl Try.ntmps66 rfl ?_
  simp only [env0, Nat.reduceAdd]
  refine WC.seq ?_
  refine WC.region ?_
  refine WL.val (V.assign (OV.p rfl)) rfl ?_
  refine WL.nil ?_
  refine WC.seq ?_
  refine WC.region ?_
  refine WL.val (V.move (OV.p rfl)) rfl ?_
  refine WL.call (vs := [_]) Try.call80 ⟨OV.p rfl, trivial⟩ (Tells.eq (gf_around i hi) (by rw [e1])) rfl ?_
  rintro _ H0 ⟨rfl, h0⟩
  subst H0
  refine WL.call (vs := [_, _]) Try.call79 ⟨OV.p rfl, OV.p rfl, trivial⟩ (gf_pow (a := 2) (m := (i % 8191).toNat) (by decide) (by omega)) rfl ?_
  rintro _ H0 ⟨rfl, h0⟩
  subst H0
  refine WL.val (V.assign (OV.p rfl)) rfl ?_
  refine WL.nil ?_
  refine WC.ret ?_
  exact BodyQ.ret (H' := F) (Res.tmp rfl rfl) (fun w h => h) ⟨rfl, rfl⟩
theorem gf_Inv {a : Nat} (ha : a < 8192) (h0 : a ≠ 0) : Tells Try.prog 76 #[.int .i64 (a : Int)] K F (.tuple #[.int .i64 (ginv a : Nat), .int .i64 0]) := by
  refine Does.enter Try.func76 rfl Try.ntmps76 rfl ?_
  simp only [env0, Nat.reduceAdd]
  refine WC.seq ?_
  refine WC.region ?_
  refine WL.val (V.assign (OV.p rfl)) rfl ?_
  refine WL.val (V.assign (OV.p rfl)) rfl ?_
  refine WL.nil ?_
  refine WC.seq ?_
  refine WC.block ?_
  refine WC.seq ?_
  refine WC.region ?_
  refine WL.val (V.move (OV.p rfl)) rfl ?_
  refine WL.call (vs := [_]) Try.call85 ⟨OV.p rfl, trivial⟩ (gf_is_lt ha) rfl ?_
  rintro _ H0 ⟨rfl, h0⟩
  subst H0
  refine WL.val (V.not (OV.p rfl)) rfl ?_
  refine WL.val (V.assign (OV.p rfl)) rfl ?_
  refine WL.nil ?_
  refine WC.condF' rfl (by first | rfl | (simp; done) | (simp; omega)) ?_
  refine WC.seq ?_
  refine WC.region ?_
  refine WL.val (V.move (OV.p rfl)) rfl ?_
  refine WL.val (V.eql (OV.p rfl) (OV.p rfl)) rfl ?_
  refine WL.val (V.assign (OV.p rfl)) rfl ?_
  refine WL.nil ?_
  refine WC.condF' rfl ((by simp only [decide_eq_false_iff_not]; omega)) ?_
  refine WC.skip ?_
  refine WC.seq ?_
  refine WC.region ?_
  refine WL.val (V.move (OV.p rfl)) rfl ?_
  refine WL.call (vs := [_, _]) Try.call79 ⟨OV.p rfl, OV.p rfl, trivial⟩ (gf_pow (a := a) (m := 8190) ha (by decide)) rfl ?_
  rintro _ H0 ⟨rfl, h0⟩
  subst H0
  refine WL.val (V.assign (OV.p rfl)) rfl ?_
  refine WL.val (V.assign (OV.p rfl)) rfl ?_
  refine WL.nil ?_
  refine WC.ret ?_
  exact BodyQ.ret (H' := F) (Res.tmp2 rfl rfl rfl) (fun w h => h) ⟨rfl, rfl⟩
end
end Go.Proofs.Ytohkefolnmcjnaa
