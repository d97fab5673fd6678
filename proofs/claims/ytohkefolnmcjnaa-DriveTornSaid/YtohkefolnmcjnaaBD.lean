/- A word of Encode has no sums: what Decode tells of it. -/
import Derived.Test.YtohkefolnmcjnaaD1
namespace Go.Proofs.Ytohkefolnmcjnaa
open Go.Sl Go.RowKit
set_option linter.unusedVariables false
set_option linter.unusedSimpArgs false
set_option maxRecDepth 20000

theorem xor4 (a b c d : Nat) : (a ^^^ b) ^^^ (c ^^^ d) = (a ^^^ c) ^^^ (b ^^^ d) := by
  rw [Nat.xor_assoc, Nat.xor_assoc, ← Nat.xor_assoc b, ← Nat.xor_assoc c, Nat.xor_comm b c]
theorem red_bit {a : Nat} (h : a < 8192) : red (2 * a) = 2 * a ^^^ (if a.testBit 12 = true then 8219 else 0) := by
  have h1 : a.testBit 12 = decide (8192 ≤ 2 * a) := by
    rw [Nat.testBit_eq_decide_div_mod_eq]
    apply decide_eq_decide.2
    omega
  unfold red
  rw [h1]
  by_cases h2 : 8192 ≤ 2 * a
  · simp [h2]
  · simp [h2]
theorem two_xor (a b : Nat) : 2 * (a ^^^ b) = 2 * a ^^^ 2 * b := by
  apply Nat.eq_of_testBit_eq
  intro i
  rw [Nat.testBit_xor, Nat.mul_comm 2, Nat.mul_comm 2, Nat.mul_comm 2, ← Nat.pow_one 2]
  rw [testBit_mul_pow, testBit_mul_pow, testBit_mul_pow, Nat.testBit_xor]
  cases decide (1 ≤ i) <;> simp
theorem red_xor {a b : Nat} (ha : a < 8192) (hb : b < 8192) : red (2 * (a ^^^ b)) = red (2 * a) ^^^ red (2 * b) := by
  rw [red_bit ha, red_bit hb, red_bit (xor_lt (k := 13) ha hb), two_xor, xor4, Nat.testBit_xor]
  congr 1
  cases a.testBit 12 <;> cases b.testBit 12 <;> simp
theorem gmulF_xor : ∀ (k o1 o2 a1 a2 b : Nat), a1 < 8192 → a2 < 8192 → gmulF k (o1 ^^^ o2) (a1 ^^^ a2) b = gmulF k o1 a1 b ^^^ gmulF k o2 a2 b
  | 0, _, _, _, _, _, _, _ => rfl
  | k + 1, o1, o2, a1, a2, b, h1, h2 => by
    rw [gmulF, gmulF, gmulF]
    by_cases hb : b = 0
    · rw [if_pos hb, if_pos hb, if_pos hb]
    · rw [if_neg hb, if_neg hb, if_neg hb, red_xor h1 h2]
      by_cases h3 : b % 2 = 1
      · rw [if_pos h3, if_pos h3, if_pos h3, xor4]
        exact gmulF_xor k _ _ _ _ _ (red_lt h1) (red_lt h2)
      · rw [if_neg h3, if_neg h3, if_neg h3]
        exact gmulF_xor k _ _ _ _ _ (red_lt h1) (red_lt h2)
theorem gmul_xor {a b : Nat} (x : Nat) (ha : a < 8192) (hb : b < 8192) : gmul (a ^^^ b) x = gmul a x ^^^ gmul b x := by
  have h := gmulF_xor 13 0 0 a b x ha hb
  rwa [Nat.xor_self] at h
theorem gmul_zero (x : Nat) : gmul 0 x = 0 := by
  have h := gmul_xor (a := 0) (b := 0) x (by decide) (by decide)
  rwa [Nat.xor_self, Nat.xor_self] at h
/-- x times itself so often, times v. -/
def it (x : Nat) : Nat → Nat → Nat
  | 0, v => v
  | n + 1, v => it x n (gmul v x)
theorem it_lt {x : Nat} : ∀ (n v : Nat), v < 8192 → it x n v < 8192
  | 0, v, h => h
  | n + 1, v, h => it_lt n _ (gmul_lt h)
theorem it_xor {x : Nat} : ∀ (n v u : Nat), v < 8192 → u < 8192 → it x n (v ^^^ u) = it x n v ^^^ it x n u
  | 0, _, _, _, _ => rfl
  | n + 1, v, u, h1, h2 => by
    rw [it, it, it, gmul_xor x h1 h2]
    exact it_xor n _ _ (gmul_lt h1) (gmul_lt h2)
theorem it_zero (x : Nat) : ∀ n, it x n 0 = 0
  | 0 => rfl
  | n + 1 => by rw [it, gmul_zero]; exact it_zero x n
theorem it_add (x : Nat) : ∀ (m n v : Nat), it x (m + n) v = it x n (it x m v)
  | 0, n, v => by rw [Nat.zero_add]; rfl
  | m + 1, n, v => by rw [Nat.succ_add_eq_add_succ, Nat.add_succ, it, it]; exact it_add x m n _
/-- The value at x of the polynomial that has these bits below n. -/
def ev (x : Nat) (f : Nat → Bool) : Nat → Nat
  | 0 => 0
  | n + 1 => it x n (bit1 (f n)) ^^^ ev x f n
theorem bit1_lt (b : Bool) : bit1 b < 8192 := by cases b <;> decide
theorem ev_lt {x : Nat} {f : Nat → Bool} : ∀ n, ev x f n < 8192
  | 0 => (by decide : 0 < 8192)
  | n + 1 => xor_lt (k := 13) (it_lt _ _ (bit1_lt _)) (ev_lt n)
theorem hor_ev {x : Nat} {f : Nat → Bool} : ∀ (n v : Nat), v < 8192 → hor f x n v = it x n v ^^^ ev x f n
  | 0, v, _ => by rw [hor, it, ev, Nat.xor_zero]
  | n + 1, v, h => by
    rw [hor, hor_ev n _ (xor_lt (k := 13) (gmul_lt h) (bit1_lt _)), it_xor n _ _ (gmul_lt h) (bit1_lt _), it, ev, Nat.xor_assoc]
theorem ev_congr {x : Nat} {f g : Nat → Bool} : ∀ n, (∀ i, i < n → f i = g i) → ev x f n = ev x g n
  | 0, _ => rfl
  | n + 1, h => by rw [ev, ev, h n (Nat.lt_succ_self _), ev_congr n (fun i hi => h i (Nat.lt_succ_of_lt hi))]
theorem ev_xor {x : Nat} {f g : Nat → Bool} : ∀ n, ev x (fun i => f i ^^ g i) n = ev x f n ^^^ ev x g n
  | 0 => (Nat.xor_self 0).symm
  | n + 1 => by
    have h : bit1 (f n ^^ g n) = bit1 (f n) ^^^ bit1 (g n) := by cases f n <;> cases g n <;> rfl
    rw [ev, ev, ev, ev_xor n, h, it_xor _ _ _ (bit1_lt _) (bit1_lt _), xor4]
theorem ev_ext {x : Nat} {f : Nat → Bool} {n : Nat} (h : ∀ i, n ≤ i → f i = false) : ∀ m, ev x f (n + m) = ev x f n
  | 0 => rfl
  | m + 1 => by
    rw [Nat.add_succ, ev, h _ (Nat.le_add_right _ _), show bit1 false = 0 from rfl, it_zero, Nat.zero_xor, ev_ext h m]
theorem ev_ext' {x : Nat} {f : Nat → Bool} {n m : Nat} (h : ∀ i, n ≤ i → f i = false) (hm : n ≤ m) : ev x f m = ev x f n := by
  have := ev_ext (x := x) h (m - n)
  rwa [Nat.add_sub_cancel' hm] at this
theorem ev_none {x : Nat} {f : Nat → Bool} : ∀ n, (∀ i, i < n → f i = false) → ev x f n = 0
  | 0, _ => rfl
  | n + 1, h => by rw [ev, h n (Nat.lt_succ_self _), show bit1 false = 0 from rfl, it_zero, Nat.zero_xor, ev_none n (fun i hi => h i (Nat.lt_succ_of_lt hi))]
theorem ev_shift {x m : Nat} {f : Nat → Bool} : ∀ n, ev x (fun i => decide (m ≤ i) && f (i - m)) (n + m) = it x m (ev x f n)
  | 0 => by
    rw [Nat.zero_add, ev_none m (fun i hi => by rw [decide_eq_false (by omega)]; rfl), ev, it_zero]
  | n + 1 => by
    rw [Nat.succ_add, ev, ev, it_xor _ _ _ (it_lt _ _ (bit1_lt _)) (ev_lt _), ev_shift n, decide_eq_true (by omega), Bool.true_and, Nat.add_sub_cancel, it_add]
theorem ev_shift' {x m n N : Nat} {f : Nat → Bool} (hf : ∀ i, n ≤ i → f i = false) (hN : n + m ≤ N) : ev x (fun i => decide (m ≤ i) && f (i - m)) N = it x m (ev x f n) := by
  rw [← ev_shift n]
  refine ev_ext' (fun i hi => ?_) hN
  rw [hf _ (by omega), Bool.and_false]
theorem ev_addTo {x at_ : Nat} {out p : List Nat} (ho : Small 256 out) (hp : Small 256 p) (hl : p.length + at_ / 8 < out.length) :
    ev x (bitAt (addTo out p at_ p.length)) (8 * out.length) = ev x (bitAt out) (8 * out.length) ^^^ it x at_ (ev x (bitAt p) (8 * p.length)) := by
  rw [← ev_shift' (x := x) (m := at_) (N := 8 * out.length) (fun i hi => bitAt_none hi) (by omega), ← ev_xor]
  refine ev_congr _ (fun i _ => ?_)
  rw [bitAt_addTo ho hp _ hl]
  congr 1
  by_cases h : i - at_ < 8 * p.length
  · rw [decide_eq_true h, Bool.and_true]
  · rw [decide_eq_false h, Bool.and_false, Bool.false_and, bitAt_none (by omega), Bool.and_false]
theorem ev_mod {x lq d : Nat} {p q : List Nat} (hp : Small 256 p) (hq : Small 256 q) (hlq : q.length = lq) (hld : lq = d / 8 + 1) (hx : ev x (bitAt q) (8 * q.length) = 0) : ∀ k, k ≤ 8 * p.length - d →
    ev x (bitAt (bmodTo p q lq d k)) (8 * (p.length + 1)) = ev x (bitAt p) (8 * p.length)
  | 0, _ => by
    rw [bmodTo]
    have h1 : ∀ i, bitAt (p ++ [0]) i = bitAt p i := fun i => by
      unfold bitAt
      congr 1
      by_cases h : i / 8 < p.length
      · simp [List.getD, List.getElem?_append_left h]
      · simp only [List.getD]
        rw [List.getElem?_append_right (by omega), List.getElem?_eq_none (by omega : p.length ≤ i / 8)]
        rcases Nat.eq_zero_or_pos (i / 8 - p.length) with h2 | h2
        · rw [h2]; rfl
        · rw [List.getElem?_eq_none (by simp; omega)]
    rw [ev_congr _ (fun i _ => h1 i)]
    exact ev_ext' (fun i hi => bitAt_none hi) (by omega)
  | k + 1, hk => by
    have ih := ev_mod hp hq hlq hld hx k (by omega)
    rw [bmodTo]
    split
    · have h := ev_addTo (x := x) (at_ := 8 * p.length - 1 - k - d) (bmodTo_small (lq := lq) (d := d) hp hq k) hq (by rw [bmodTo_length, hlq]; omega)
      rw [bmodTo_length, hx, it_zero, Nat.xor_zero, ih, hlq] at h
      exact h
    · exact ih
theorem normLen_zero {xs : List Nat} : ∀ n j, normLen xs n ≤ j → j < n → xs.getD j 0 = 0
  | 0, _, _, h => absurd h (Nat.not_lt_zero _)
  | n + 1, j, h1, h2 => by
    rw [normLen] at h1
    split at h1
    · rename_i h3
      rcases Nat.lt_or_ge j n with h | h
      · exact normLen_zero n j h1 h
      · have : j = n := by omega
        subst this; exact h3
    · omega
theorem bitAt_norm {xs : List Nat} {n : Nat} (hn : n = xs.length) (k : Nat) : bitAt (xs.take (normLen xs n)) k = bitAt xs k := by
  unfold bitAt
  congr 1
  by_cases h : k / 8 < normLen xs n
  · simp [List.getD, List.getElem?_take, h]
  · have h0 : (xs.take (normLen xs n)).getD (k / 8) 0 = 0 := by simp [List.getD, List.getElem?_take, h]
    rw [h0]
    by_cases h2 : k / 8 < n
    · exact (normLen_zero n _ (by omega) h2).symm
    · rw [List.getD, List.getElem?_eq_none (by omega)]; rfl
theorem bitAt_zeros (n k : Nat) : bitAt (List.replicate n 0) k = false := by
  unfold bitAt
  by_cases h : k / 8 < n
  · simp [List.getD, List.getElem?_replicate, h]
  · simp [List.getD, List.getElem?_replicate, h]
theorem bitAt_appZ (xs : List Nat) (n k : Nat) : bitAt (xs ++ List.replicate n 0) k = bitAt xs k := by
  unfold bitAt
  congr 1
  by_cases h : k / 8 < xs.length
  · simp [List.getD, List.getElem?_append_left h]
  · have h0 : xs.getD (k / 8) 0 = 0 := by rw [List.getD, List.getElem?_eq_none (by omega)]; rfl
    rw [h0, List.getD, List.getElem?_append_right (by omega), List.getElem?_replicate]
    split <;> rfl
theorem shiftB_bit (t i : Nat) : bitAt (shiftB t) i = decide (i = 13 * t) := by
  unfold bitAt shiftB
  rw [getD_set, List.length_replicate]
  have hm : 13 * t / 8 < moreLen t + 1 := by unfold moreLen; omega
  by_cases h : 13 * t / 8 = i / 8
  · rw [if_pos ⟨h, by omega⟩, Nat.testBit_two_pow]
    apply decide_eq_decide.2
    omega
  · rw [if_neg (by omega)]
    have h0 : (List.replicate (moreLen t + 1) 0).getD (i / 8) 0 = 0 := by
      by_cases h : i / 8 < moreLen t + 1 <;> simp [List.getD, List.getElem?_replicate, h]
    rw [h0, Nat.zero_testBit, decide_eq_false (by omega)]
theorem shift_mul {t : Nat} {d : List Nat} : ∀ i, bmulTo (shiftB t) d i = if i ≤ 13 * t then List.replicate ((shiftB t).length + d.length + 1) 0 else addTo (List.replicate ((shiftB t).length + d.length + 1) 0) d (13 * t) d.length
  | 0 => by rw [bmulTo, if_pos (Nat.zero_le _)]
  | i + 1 => by
    rw [bmulTo, shift_mul i, shiftB_bit]
    by_cases h : i = 13 * t
    · rw [decide_eq_true h, if_pos rfl, if_pos (by omega), if_neg (by omega), h]
    · rw [decide_eq_false h]
      by_cases h2 : i ≤ 13 * t
      · rw [if_neg Bool.false_ne_true, if_pos h2, if_pos (by omega)]
      · rw [if_neg Bool.false_ne_true, if_neg h2, if_neg (by omega)]
/-- What was asked of the generators' roots. -/
def genRootOk (t : Nat) : Bool := (List.range (2 * t)).all fun k => decide (hor (bitAt (genB t)) (gexp ((k + 1 : Nat) : Int)) (8 * (genB t).length) 0 = 0)
theorem gen_roots : [1, 2, 3, 4, 5, 6, 7, 8].all genRootOk = true := by kernel_rfl
theorem gen_root {t k : Nat} (ht : 1 ≤ t ∧ t ≤ 8) (hk : k < 2 * t) : ev (gexp ((k + 1 : Nat) : Int)) (bitAt (genB t)) (8 * (genB t).length) = 0 := by
  have h := List.all_eq_true.1 gen_roots t (by simp only [List.mem_cons, List.not_mem_nil, or_false]; omega)
  have h1 := of_decide_eq_true (List.all_eq_true.1 h k (List.mem_range.2 hk))
  rw [hor_ev _ _ (by decide), it_zero, Nat.zero_xor] at h1
  exact h1
theorem shift_full (t : Nat) (d : List Nat) : bmulF (shiftB t) d = addTo (List.replicate ((shiftB t).length + d.length + 1) 0) d (13 * t) d.length := by
  unfold bmulF
  rw [shift_mul, if_neg]
  rw [shiftB_length]; unfold moreLen; omega
theorem ev_prod {x t : Nat} {d : List Nat} (hd : Small 256 d) : ev x (bitAt (prodB t d)) (8 * (prodB t d).length) = it x (13 * t) (ev x (bitAt d) (8 * d.length)) := by
  have hl : (bmulF (shiftB t) d).length = (shiftB t).length + d.length + 1 := bmulTo_length _ _ _
  have h1 : ∀ k, bitAt (prodB t d) k = bitAt (bmulF (shiftB t) d) k := fun k => by unfold prodB; exact bitAt_norm hl.symm k
  have h2 := ev_addTo (x := x) (at_ := 13 * t) (out := List.replicate ((shiftB t).length + d.length + 1) 0) (p := d) (Small.repl (by decide)) hd (by rw [List.length_replicate, shiftB_length]; unfold moreLen; omega)
  rw [← shift_full, ev_none _ (fun i _ => bitAt_zeros _ i), Nat.zero_xor, List.length_replicate, ← hl] at h2
  rw [← h2, ← ev_ext' (x := x) (f := bitAt (prodB t d)) (n := 8 * (prodB t d).length) (m := 8 * (bmulF (shiftB t) d).length) (fun i hi => bitAt_none hi) (by unfold prodB; rw [List.length_take]; omega)]
  exact ev_congr _ (fun i _ => h1 i)
theorem encB_bit {t : Nat} {d : List Nat} (k : Nat) : bitAt (encB t d) k = bitAt (restB t d) k := by
  unfold encB
  rw [bitAt_appZ]
  unfold restLen
  exact bitAt_norm (restB_length t d).symm k
theorem encB_high {t : Nat} {d : List Nat} (ht : 1 ≤ t ∧ t ≤ 8) (hd : Small 256 d) {k : Nat} (hk : 13 * t ≤ k) : bitAt (encB t d) k = false := by
  obtain ⟨g1, g2, g3, g4, g5⟩ := gen_facts ht
  rw [encB_bit]
  exact bmod_rest (prodB_small hd) g5 rfl g3 g4 hk
/-- The sums of a code word are nought. -/
theorem enc_sum {t k : Nat} {d : List Nat} (ht : 1 ≤ t ∧ t ≤ 8) (hd : Small 256 d) (hk : k < 2 * t) :
    hor (wAt t d (encB t d)) (gexp ((k + 1 : Nat) : Int)) (13 * t + 8 * d.length) 0 = 0 := by
  obtain ⟨g1, g2, g3, g4, g5⟩ := gen_facts ht
  obtain ⟨x, hx⟩ : ∃ x, x = gexp ((k + 1 : Nat) : Int) := ⟨_, rfl⟩
  have hr := gen_root ht hk
  rw [← hx] at hr ⊢
  rw [hor_ev _ _ (by decide), it_zero, Nat.zero_xor]
  have h1 : ∀ i, wAt t d (encB t d) i = ((decide (13 * t ≤ i) && bitAt d (i - 13 * t)) ^^ bitAt (encB t d) i) := fun i => by
    unfold wAt
    by_cases h : 13 * t ≤ i
    · rw [if_pos h, decide_eq_true h, Bool.true_and, encB_high ht hd h, Bool.xor_false]
    · rw [if_neg h, decide_eq_false h, Bool.false_and, Bool.false_xor]
  rw [ev_congr _ (fun i _ => h1 i), ev_xor, ev_shift' (n := 8 * d.length) (fun i hi => bitAt_none hi) (by omega)]
  have h2 : ev x (bitAt (encB t d)) (13 * t + 8 * d.length) = ev x (bitAt (encB t d)) (13 * t) := ev_ext' (fun i hi => encB_high ht hd hi) (by omega)
  have h3 : ev x (bitAt (restB t d)) (8 * ((prodB t d).length + 1)) = ev x (bitAt (prodB t d)) (8 * (prodB t d).length) := ev_mod (prodB_small hd) g5 rfl g3 hr _ (Nat.le_refl _)
  have h4 : ev x (bitAt (restB t d)) (8 * ((prodB t d).length + 1)) = ev x (bitAt (encB t d)) (13 * t) := by
    rw [← ev_congr _ (fun i _ => encB_bit (t := t) (d := d) i)]
    rcases Nat.le_total (13 * t) (8 * ((prodB t d).length + 1)) with h | h
    · exact ev_ext' (fun i hi => encB_high ht hd hi) h
    · refine (ev_ext' (fun i hi => ?_) h).symm
      rw [encB_bit]
      exact bitAt_none (by rw [restB_length]; exact hi)
  rw [h2, ← h4, h3, ev_prod hd, Nat.xor_self]
theorem clr8_same {x j : Nat} (hx : x < 256) (hj : x.testBit j = false) : clr8 x j = x := by
  unfold clr8
  apply Nat.eq_of_testBit_eq
  intro i
  rw [Nat.testBit_and, Nat.testBit_xor, Nat.testBit_two_pow]
  by_cases h8 : i < 8
  · have : (255 : Nat).testBit i = true := by
      have : ∀ i, i < 8 → (255 : Nat).testBit i = true := by decide
      exact this i h8
    rw [this]
    by_cases h : j = i
    · subst h; rw [hj]; rfl
    · rw [decide_eq_false h]; simp
  · rw [testBit_byte hx (by omega), Bool.false_and]
theorem set_same {xs : List Nat} {i : Nat} : xs.set i (xs.getD i 0) = xs := by
  apply List.ext_getElem?
  intro k
  rw [List.getElem?_set]
  by_cases h : i = k
  · subst h
    by_cases hl : i < xs.length
    · simp [List.getD, hl]
    · simp [List.getElem?_eq_none (Nat.le_of_not_lt hl), hl]
  · simp [h]
theorem maskTo_same {m : List Nat} {i0 : Nat} (hm : Small 256 m) (h : ∀ k, i0 ≤ k → bitAt m k = false) : ∀ k, maskTo m i0 k = m
  | 0 => rfl
  | k + 1 => by
    rw [maskTo, maskTo_same hm h k, clr8_same (hm.at_ (by decide) _) (h (i0 + k) (by omega)), set_same]
theorem maskM_enc {t : Nat} {d : List Nat} (ht : 1 ≤ t ∧ t ≤ 8) (hd : Small 256 d) : maskM t (encB t d) = encB t d := maskTo_same (encB_small ht hd) (fun k hk => encB_high ht hd hk) _
theorem enc_sums {t : Nat} {d : List Nat} (ht : 1 ≤ t ∧ t ≤ 8) (hd : Small 256 d) : sums2 t (d, encB t d) = List.replicate (2 * t) 0 := by
  unfold sums2 sumsW
  apply List.ext_getElem
  · simp
  · intro i h1 h2
    simp only [List.getElem_map, List.getElem_range, List.getElem_replicate]
    exact enc_sum ht hd (by simpa using h1)
theorem bmTo_zeros (m : Nat) : ∀ n, bmTo (List.replicate m 0) n = ⟨[1], [1], 0, n + 1, 1⟩
  | 0 => rfl
  | n + 1 => by
    have h0 : (List.replicate m 0).getD n 0 = 0 := by
      by_cases h : n < m <;> simp [List.getD, List.getElem?_replicate, h]
    rw [bmTo, bmTo_zeros m n]
    unfold bmStep
    rw [if_pos]
    show bmSum _ _ _ (min 0 _) = 0
    rw [Nat.zero_min]
    exact h0
theorem loc_zeros (m : Nat) : locC (List.replicate m 0) = [1] ∧ locL (List.replicate m 0) = 1 := by
  have h : locC (List.replicate m 0) = [1] := by unfold locC; rw [bmTo_zeros]
  refine ⟨h, ?_⟩
  unfold locL
  rw [h]; rfl
theorem decTo_one (t : Nat) (p : LL) : ∀ k, decTo t [1] 1 p k = (p, 0)
  | 0 => rfl
  | k + 1 => by
    rw [decTo, if_neg, decTo_one t p k]
    unfold rootAt
    rw [evalC_code, gmul_zero]
    show ¬ decide ((0 ^^^ 1 : Nat) = 0) = true
    decide
theorem ones_zeros : ∀ m, ones (List.replicate m 0) = 0
  | 0 => rfl
  | m + 1 => by rw [List.replicate_succ, ones, ones_zeros m]; rfl
/-- Decode tells a code word back. -/
theorem dec_enc {t : Nat} {d : List Nat} (ht : 1 ≤ t ∧ t ≤ 8) (hd : Small 256 d) : decF t d (encB t d) = some ((d, encB t d), 0) := by
  obtain ⟨l1, l2⟩ := loc_zeros (2 * t)
  unfold decF
  rw [maskM_enc ht hd, enc_sums ht hd, l1, l2, decTo_one, if_neg (by omega), if_neg (fun h => h rfl), if_neg]
  show ¬ 0 < ones (nozero (sums2 t (d, encB t d)))
  rw [enc_sums ht hd]
  unfold nozero
  rw [List.map_replicate, show nz 0 = 0 from rfl, ones_zeros]
  decide
end Go.Proofs.Ytohkefolnmcjnaa
