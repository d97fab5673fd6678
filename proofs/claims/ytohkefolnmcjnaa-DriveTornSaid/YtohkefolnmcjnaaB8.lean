/- Bytes as rows of bits: what laying over, products and rests turn. -/
import Derived.Test.YtohkefolnmcjnaaB5
namespace Go.Proofs.Ytohkefolnmcjnaa
open Go.Sl Go.RowKit
set_option linter.unusedVariables false
set_option linter.unusedSimpArgs false
set_option maxRecDepth 20000

theorem getD_set {xs : List Nat} {i j x : Nat} : (xs.set i x).getD j 0 = if i = j ∧ j < xs.length then x else xs.getD j 0 := by
  simp only [List.getD, List.getElem?_set]
  by_cases h : i = j
  · subst h
    by_cases hl : i < xs.length
    · simp [hl]
    · simp [hl, List.getElem?_eq_none (Nat.le_of_not_lt hl)]
  · simp [h]
theorem testBit_mul_pow {x s i : Nat} : (x * 2 ^ s).testBit i = (decide (s ≤ i) && x.testBit (i - s)) := by
  rw [← Nat.shiftLeft_eq, Nat.testBit_shiftLeft]
theorem testBit_mod256 {x i : Nat} (h : i < 8) : (x % 256).testBit i = x.testBit i := by
  rw [show (256 : Nat) = 2 ^ 8 from rfl, Nat.testBit_mod_two_pow]; simp [h]
theorem testBit_div256 {x i : Nat} : (x / 256).testBit i = x.testBit (8 + i) := by
  rw [show (256 : Nat) = 2 ^ 8 from rfl, Nat.testBit_div_two_pow, Nat.add_comm]
theorem testBit_byte {x i : Nat} (hx : x < 256) (hi : 8 ≤ i) : x.testBit i = false := Nat.testBit_lt_two_pow (Nat.lt_of_lt_of_le hx (Nat.pow_le_pow_right (n := 2) (by decide) hi))
theorem bitAt_none {xs : List Nat} {k : Nat} (h : 8 * xs.length ≤ k) : bitAt xs k = false := by
  unfold bitAt
  rw [show xs.getD (k / 8) 0 = 0 by rw [List.getD, List.getElem?_eq_none (by omega)]; rfl]
  exact Nat.zero_testBit _
theorem bitAt_addTo {out p : List Nat} {at_ : Nat} (ho : Small 256 out) (hp : Small 256 p) : ∀ (j : Nat), j + at_ / 8 < out.length → ∀ k, bitAt (addTo out p at_ j) k = (bitAt out k ^^ (decide (at_ ≤ k) && decide (k - at_ < 8 * j) && bitAt p (k - at_)))
  | 0, _, k => by simp [-List.getD_eq_getElem?_getD, addTo]
  | j + 1, hj, k => by
    have ih := bitAt_addTo (at_ := at_) ho hp j (by omega) k
    have hlen := addTo_length out p at_ j
    have hpj := hp.at_ (by decide) j
    -- the byte's bits
    have hw : ∀ i, (p.getD j 0 * 2 ^ (at_ % 8)).testBit i = (decide (at_ % 8 ≤ i) && (p.getD j 0).testBit (i - at_ % 8)) := fun i => testBit_mul_pow
    have hw255 : ¬ 255 < p.getD j 0 * 2 ^ (at_ % 8) → p.getD j 0 * 2 ^ (at_ % 8) / 256 = 0 := fun h => by omega
    have hbit : ∀ o : List Nat, o = addTo out p at_ j → bitAt (addTo out p at_ (j + 1)) k = (bitAt o k ^^ ((decide (k / 8 = j + at_ / 8) && (p.getD j 0 * 2 ^ (at_ % 8)).testBit (k % 8)) || (decide (k / 8 = j + at_ / 8 + 1) && (p.getD j 0 * 2 ^ (at_ % 8)).testBit (8 + k % 8)))) := by
      intro o hoe
      have hk8 : k % 8 < 8 := Nat.mod_lt _ (by decide)
      have hol : o.length = out.length := by rw [hoe]; exact hlen
      rw [addTo, ← hoe]
      split
      · unfold bitAt
        simp only [getD_set, List.length_set]
        by_cases h1 : j + at_ / 8 + 1 = k / 8
        · rw [if_pos ⟨h1, by omega⟩, if_neg (by omega), Nat.testBit_xor, testBit_div256]
          have e1 : ¬ k / 8 = j + at_ / 8 := by omega
          simp [-List.getD_eq_getElem?_getD, e1, ← h1]
        · rw [if_neg (by omega)]
          by_cases h2 : j + at_ / 8 = k / 8
          · rw [if_pos ⟨h2, by omega⟩, Nat.testBit_xor, testBit_mod256 hk8]
            have e1 : ¬ k / 8 = j + at_ / 8 + 1 := by omega
            simp [-List.getD_eq_getElem?_getD, e1, ← h2]
          · rw [if_neg (by omega)]
            have e1 : ¬ k / 8 = j + at_ / 8 + 1 := by omega
            have e2 : ¬ k / 8 = j + at_ / 8 := by omega
            simp [-List.getD_eq_getElem?_getD, e1, e2]
      · rename_i hs
        unfold bitAt
        rw [getD_set]
        have hz : (p.getD j 0 * 2 ^ (at_ % 8)).testBit (8 + k % 8) = false := by rw [← testBit_div256, hw255 hs]; exact Nat.zero_testBit _
        by_cases h2 : j + at_ / 8 = k / 8
        · rw [if_pos ⟨h2, by omega⟩, Nat.testBit_xor, testBit_mod256 hk8]
          simp [-List.getD_eq_getElem?_getD, hz, ← h2]
        · rw [if_neg (by omega)]
          have e2 : ¬ k / 8 = j + at_ / 8 := by omega
          simp [-List.getD_eq_getElem?_getD, hz, e2]
    rw [hbit _ rfl, ih, Bool.xor_assoc]
    congr 1
    rw [hw, hw]
    -- where k stands
    by_cases hka : at_ ≤ k
    · obtain ⟨r, hr⟩ : ∃ r, r = k - at_ := ⟨_, rfl⟩
      rw [← hr]
      by_cases h1 : k / 8 = j + at_ / 8
      · have e1 : ¬ k / 8 = j + at_ / 8 + 1 := by omega
        by_cases h2 : at_ % 8 ≤ k % 8
        · have hrj : r / 8 = j := by omega
          have hrm : r % 8 = k % 8 - at_ % 8 := by omega
          have hbp : bitAt p r = (p.getD j 0).testBit (k % 8 - at_ % 8) := by unfold bitAt; rw [hrj, hrm]
          have e3 : ¬ r < 8 * j := by omega
          have e4 : r < 8 * (j + 1) := by omega
          simp [-List.getD_eq_getElem?_getD, h1, e1, h2, hka, hbp, e3, e4]
        · have e3 : (r < 8 * j ↔ r < 8 * (j + 1)) := by omega
          have e5 : decide (r < 8 * (j + 1)) = decide (r < 8 * j) := decide_eq_decide.2 e3.symm
          simp [-List.getD_eq_getElem?_getD, h1, e1, h2, hka, e5]
      · by_cases h3 : k / 8 = j + at_ / 8 + 1
        · have h8 : at_ % 8 ≤ 8 + k % 8 := by omega
          by_cases h4 : 8 + k % 8 - at_ % 8 < 8
          · have hrj : r / 8 = j := by omega
            have hrm : r % 8 = 8 + k % 8 - at_ % 8 := by omega
            have hbp : bitAt p r = (p.getD j 0).testBit (8 + k % 8 - at_ % 8) := by unfold bitAt; rw [hrj, hrm]
            have e3 : ¬ r < 8 * j := by omega
            have e4 : r < 8 * (j + 1) := by omega
            simp [-List.getD_eq_getElem?_getD, h1, h3, h8, hka, hbp, e3, e4]
          · have hz := testBit_byte hpj (i := 8 + k % 8 - at_ % 8) (by omega)
            have e3 : ¬ r < 8 * j := by omega
            have e4 : ¬ r < 8 * (j + 1) := by omega
            simp [-List.getD_eq_getElem?_getD, h1, h3, hz, e3, e4]
        · have e5 : decide (r < 8 * (j + 1)) = decide (r < 8 * j) := decide_eq_decide.2 (by omega)
          simp [-List.getD_eq_getElem?_getD, h1, h3, e5]
    · have e1 : (decide (k / 8 = j + at_ / 8) && (decide (at_ % 8 ≤ k % 8) && (p.getD j 0).testBit (k % 8 - at_ % 8))) = false := by
        by_cases h1 : k / 8 = j + at_ / 8
        · have : ¬ at_ % 8 ≤ k % 8 := by omega
          simp [-List.getD_eq_getElem?_getD, this]
        · simp [-List.getD_eq_getElem?_getD, h1]
      have e2 : ¬ k / 8 = j + at_ / 8 + 1 := by omega
      simp [-List.getD_eq_getElem?_getD, hka, e1, e2]
/-- q has degree d. -/
def HasDeg (q : List Nat) (d : Nat) : Prop := bitAt q d = true ∧ ∀ k, d < k → bitAt q k = false
theorem bmod_high {p q : List Nat} {lq d : Nat} (hp : Small 256 p) (hq : Small 256 q) (hlq : q.length = lq) (hld : lq = d / 8 + 1) (hd : HasDeg q d) : ∀ k, k ≤ 8 * p.length - d → ∀ b, 8 * p.length - k ≤ b → bitAt (bmodTo p q lq d k) b = false
  | 0, _, b, hb => by
    rw [bmodTo]
    unfold bitAt
    by_cases h : b / 8 = p.length
    · have e : (p ++ [0]).getD (b / 8) 0 = (0 : Nat) := by rw [h]; simp [List.getD]
      rw [e]; exact Nat.zero_testBit _
    · have e : (p ++ [0]).getD (b / 8) 0 = (0 : Nat) := by rw [List.getD, List.getElem?_eq_none (by simp; omega)]; rfl
      rw [e]; exact Nat.zero_testBit _
  | k + 1, hk, b, hb => by
    have ih := bmod_high hp hq hlq hld hd k (by omega)
    subst hlq
    rw [bmodTo]
    split
    · rename_i hbit
      rw [bitAt_addTo (bmodTo_small hp hq k) hq _ (by rw [bmodTo_length]; omega)]
      obtain ⟨i, hi⟩ : ∃ i, i = 8 * p.length - 1 - k := ⟨_, rfl⟩
      rw [← hi] at hbit ⊢
      by_cases h1 : b = i
      · subst h1
        have e1 : b - (b - d) = d := by omega
        rw [hbit, e1, hd.1]
        have e2 : b - d ≤ b := by omega
        have e3 : d < 8 * q.length := by omega
        simp [e2, e3]
      · rw [ih b (by omega), hd.2 (b - (i - d)) (by omega)]
        simp
    · rename_i hbit
      by_cases h1 : b = 8 * p.length - 1 - k
      · subst h1; simpa using hbit
      · exact ih b (by omega)
theorem bmod_rest {p q : List Nat} {lq d : Nat} (hp : Small 256 p) (hq : Small 256 q) (hlq : q.length = lq) (hld : lq = d / 8 + 1) (hd : HasDeg q d) {b : Nat} (hb : d ≤ b) : bitAt (bmodTo p q lq d (8 * p.length - d)) b = false := by
  by_cases h : d ≤ 8 * p.length
  · exact bmod_high hp hq hlq hld hd _ (Nat.le_refl _) b (by omega)
  · have := bmod_high hp hq hlq hld hd 0 (Nat.zero_le _) b (by omega)
    rwa [show 8 * p.length - d = 0 by omega]
/-- Of bytes whose bits from b on are nought just the first ones count. -/
theorem normLen_bits {xs : List Nat} {b : Nat} (hx : Small 256 xs) (h : ∀ k, b ≤ k → bitAt xs k = false) : ∀ n, normLen xs n ≤ (b + 7) / 8
  | 0 => Nat.zero_le _
  | n + 1 => by
    rw [normLen]
    split
    · exact normLen_bits hx h n
    · rename_i hne
      rcases Nat.lt_or_ge n ((b + 7) / 8) with h1 | h1
      · omega
      · exfalso
        apply hne
        apply Nat.eq_of_testBit_eq
        intro i
        rw [Nat.zero_testBit]
        by_cases hi : i < 8
        · have := h (8 * n + i) (by omega)
          unfold bitAt at this
          rwa [show (8 * n + i) / 8 = n by omega, show (8 * n + i) % 8 = i by omega] at this
        · exact testBit_byte (hx.at_ (by decide) _) (by omega)
/-- What was asked of the generators. -/
def genDegOk (t : Nat) : Bool := decide (degB (genB t) (genB t).length = ((13 * t : Nat) : Int)) && decide (normLen (genB t) (genB t).length = 13 * t / 8 + 1) && decide ((genB t).length = 13 * t / 8 + 1) && bitAt (genB t) (13 * t) && (List.range (8 * (genB t).length)).all (fun k => decide (k ≤ 13 * t) || !bitAt (genB t) k) && (genB t).all (fun x => decide (x < 256))
theorem gen_deg : [1, 2, 3, 4, 5, 6, 7, 8].all genDegOk = true := by kernel_rfl
theorem gen_facts {t : Nat} (ht : 1 ≤ t ∧ t ≤ 8) : degB (genB t) (genB t).length = ((13 * t : Nat) : Int) ∧ normLen (genB t) (genB t).length = 13 * t / 8 + 1 ∧ (genB t).length = 13 * t / 8 + 1 ∧ HasDeg (genB t) (13 * t) ∧ Small 256 (genB t) := by
  have h := List.all_eq_true.1 gen_deg t (by simp only [List.mem_cons, List.not_mem_nil, or_false]; omega)
  simp only [genDegOk, Bool.and_eq_true, decide_eq_true_eq, List.all_eq_true, List.mem_range, Bool.or_eq_true, Bool.not_eq_true'] at h
  obtain ⟨⟨⟨⟨⟨h1, h2⟩, h3⟩, h4⟩, h5⟩, h6⟩ := h
  refine ⟨h1, h2, h3, ⟨h4, fun k hk => ?_⟩, h6⟩
  rcases Nat.lt_or_ge k (8 * (genB t).length) with h | h
  · rcases h5 k h with h' | h'
    · omega
    · exact h'
  · exact bitAt_none h
end Go.Proofs.Ytohkefolnmcjnaa
