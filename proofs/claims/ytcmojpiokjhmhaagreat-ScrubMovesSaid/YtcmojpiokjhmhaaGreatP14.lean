import Derived.Test.YtcmojpiokjhmhaaGreatP13
namespace Go.Proofs.YtcmojpiokjhmhaaGreat
set_option linter.unusedVariables false
set_option linter.unusedSimpArgs false
set_option maxRecDepth 20000
--BEGIN
theorem Bv (a b : Nat) : a ^^^ (a ^^^ b) = b := by rw [← Nat.xor_assoc, Nat.xor_self, Nat.zero_xor]
theorem qw {a b : Nat} (h : a ^^^ b = 0) : a = b := by
  have := Bv a b
  rw [h, Nat.xor_zero] at this; exact this
theorem rF {f g : Nat → Nat} (hf : ∀ a b, a < 8192 → b < 8192 → f (a ^^^ b) = f a ^^^ f b) (hg : ∀ a b, a < 8192 → b < 8192 → g (a ^^^ b) = g a ^^^ g b)
    (h : ∀ i, i < 13 → f (2 ^ i) = g (2 ^ i)) : ∀ a, a < 8192 → f a = g a := by
  have h0 : ∀ {k : Nat → Nat}, (∀ a b, a < 8192 → b < 8192 → k (a ^^^ b) = k a ^^^ k b) → k 0 = 0 := fun {k} hk => by
    have := hk 0 0 (by decide) (by decide)
    rw [Nat.xor_self, Nat.xor_self] at this; exact this
  have key : ∀ n, n ≤ 13 → ∀ a, a < 2 ^ n → f a = g a := by
    intro n
    induction n with
    | zero => intro _ a ha; obtain rfl : a = 0 := by omega
              rw [h0 hf, h0 hg]
    | succ n ih =>
      intro hn a ha
      by_cases hb : a < 2 ^ n
      · exact ih (by omega) a hb
      · have hp : (2 : Nat) ^ (n + 1) ≤ 2 ^ 13 := Nat.pow_le_pow_right (by decide) hn
        have hp2 : (2 : Nat) ^ n ≤ 2 ^ 12 := Nat.pow_le_pow_right (by decide) (by omega)
        have e : a = 2 ^ n ^^^ (a - 2 ^ n) := by
          obtain ⟨c, hc⟩ : ∃ c, a = 2 ^ n + c := ⟨a - 2 ^ n, by omega⟩
          have hc2 : c < 2 ^ n := by rw [Nat.pow_succ] at ha; omega
          rw [hc, Nat.add_sub_cancel_left]
          apply Nat.eq_of_testBit_eq
          intro i
          rw [Nat.testBit_xor, Nat.testBit_two_pow]
          by_cases hi : n = i
          · subst hi
            rw [Nat.testBit_two_pow_add_eq, Nat.testBit_lt_two_pow hc2]; simp
          · rcases Nat.lt_or_ge i n with h1 | h1
            · rw [Nat.testBit_two_pow_add_gt h1]; simp [hi]
            · have h2 : 2 ^ (n + 1) ≤ 2 ^ i := Nat.pow_le_pow_right (by decide) (by omega)
              rw [Nat.testBit_lt_two_pow (by omega), Nat.testBit_lt_two_pow (by omega)]; simp [hi]
        have h1 : (2 : Nat) ^ n < 8192 := by omega
        have h2 : a - 2 ^ n < 8192 := by omega
        rw [e, hf _ _ h1 h2, hg _ _ h1 h2, h n (by omega), ih (by omega) (a - 2 ^ n) (by rw [Nat.pow_succ] at ha; omega)]
  exact key 13 (Nat.le_refl _)
def yI : Nat → Nat → Nat → Nat
  | 0, _, _ => 0
  | k + 1, a, b => (if b.testBit 0 then a else 0) ^^^ yI k (red (2 * a)) (b / 2)
theorem qW : ∀ (k o a b : Nat), jZ k o a b = o ^^^ yI k a b
  | 0, o, a, b => by rw [jZ, yI, Nat.xor_zero]
  | k + 1, o, a, b => by
    have hz : ∀ (k a : Nat), yI k a 0 = 0 := by
      intro k
      induction k with
      | zero => intro a; rfl
      | succ k ih => intro a; rw [yI, Nat.zero_testBit, Nat.zero_div, ih]; simp
    rw [jZ, yI, Nat.testBit_zero]
    by_cases hb : b = 0
    · subst hb
      rw [if_pos rfl, Nat.zero_div, hz]
      simp
    · rw [if_neg hb, qW k]
      by_cases h : b % 2 = 1
      · rw [if_pos h, decide_eq_true h, if_pos rfl, Nat.xor_assoc]
      · rw [if_neg h, decide_eq_false h, if_neg Bool.false_ne_true, Nat.zero_xor]
theorem Fp : ∀ (k a b c : Nat), yI k a (b ^^^ c) = yI k a b ^^^ yI k a c
  | 0, _, _, _ => (Nat.xor_self 0).symm
  | k + 1, a, b, c => by
    have h1 : (b ^^^ c) / 2 = (b / 2) ^^^ (c / 2) := by
      have := Nat.shiftRight_xor_distrib (a := b) (b := c) (i := 1)
      simpa [Nat.shiftRight_eq_div_pow] using this
    rw [yI, yI, yI, h1, Fp k, FH, Nat.testBit_xor]
    congr 1
    cases b.testBit 0 <;> cases c.testBit 0 <;> simp
theorem bI (a b c : Nat) : aN a (b ^^^ c) = aN a b ^^^ aN a c := by
  unfold aN
  rw [qW, qW, qW, Fp, Nat.zero_xor, Nat.zero_xor, Nat.zero_xor]
theorem dH (a : Nat) : aN a 0 = 0 := by
  have h := bI a 0 0
  rwa [Nat.xor_self, Nat.xor_self] at h
theorem MH : ((List.range 13).all fun i => (List.range 13).all fun j => Nat.beq (aN (2 ^ i) (2 ^ j)) (aN (2 ^ j) (2 ^ i))) = true := by kernel_rfl
theorem Jo : ((List.range 13).all fun i => (List.range 13).all fun j => (List.range 13).all fun k => Nat.beq (aN (aN (2 ^ i) (2 ^ j)) (2 ^ k)) (aN (2 ^ i) (aN (2 ^ j) (2 ^ k)))) = true := by kernel_rfl
theorem IK {i : Nat} (h : i < 13) : 2 ^ i < 8192 := by
  have : (2 : Nat) ^ i ≤ 2 ^ 12 := Nat.pow_le_pow_right (by decide) (by omega)
  omega
theorem eZ {a b : Nat} (ha : a < 8192) (hb : b < 8192) : aN a b = aN b a := by
  refine rF (f := fun a => aN a b) (g := fun a => aN b a) (fun x y hx hy => cZ b hx hy) (fun x y _ _ => bI b x y) (fun i hi => ?_) a ha
  refine rF (f := fun b => aN (2 ^ i) b) (g := fun b => aN b (2 ^ i)) (fun x y _ _ => bI _ x y) (fun x y hx hy => cZ _ hx hy) (fun j hj => ?_) b hb
  exact Nat.eq_of_beq_eq_true (List.all_eq_true.1 (List.all_eq_true.1 MH i (List.mem_range.2 hi)) j (List.mem_range.2 hj))
theorem bL {a b c : Nat} (ha : a < 8192) (hb : b < 8192) (hc : c < 8192) : aN (aN a b) c = aN a (aN b c) := by
  refine rF (f := fun a => aN (aN a b) c) (g := fun a => aN a (aN b c)) (fun x y hx hy => by rw [cZ b hx hy, cZ c (aR hx) (aR hy)]) (fun x y hx hy => cZ _ hx hy) (fun i hi => ?_) a ha
  refine rF (f := fun b => aN (aN (2 ^ i) b) c) (g := fun b => aN (2 ^ i) (aN b c)) (fun x y hx hy => by rw [bI, cZ c (aR (IK hi)) (aR (IK hi))]) (fun x y hx hy => by rw [cZ c hx hy, bI]) (fun j hj => ?_) b hb
  refine rF (f := fun c => aN (aN (2 ^ i) (2 ^ j)) c) (g := fun c => aN (2 ^ i) (aN (2 ^ j) c)) (fun x y hx hy => bI _ _ _) (fun x y hx hy => by rw [bI, bI]) (fun k hk => ?_) c hc
  exact Nat.eq_of_beq_eq_true (List.all_eq_true.1 (List.all_eq_true.1 (List.all_eq_true.1 Jo i (List.mem_range.2 hi)) j (List.mem_range.2 hj)) k (List.mem_range.2 hk))
theorem dP {a : Nat} : aN a 1 = a := by
  unfold aN
  rw [jZ, if_neg (by decide), if_pos (by decide), Nat.zero_xor]
  rfl
theorem nH {a : Nat} (h : a < 8192) : aN 1 a = a := by rw [eZ (by decide) h, dP]
def npow (a : Nat) : Nat → Nat
  | 0 => 1
  | n + 1 => aN (npow a n) a
theorem bg {a : Nat} : ∀ n, npow a n < 8192
  | 0 => (by decide : 1 < 8192)
  | n + 1 => aR (bg n)
theorem gZ {a : Nat} (h : a < 8192) (m : Nat) : ∀ n, npow a (m + n) = aN (npow a m) (npow a n)
  | 0 => dP.symm
  | n + 1 => by rw [← Nat.add_assoc, npow, gZ h m n, npow, bL (bg _) (bg _) h]
theorem qp {a : Nat} (h : a < 8192) : npow a 1 = a := by rw [npow, npow, nH h]
theorem nC {a : Nat} (h : a < 8192) (m : Nat) : ∀ n, npow a (m * n) = npow (npow a m) n
  | 0 => rfl
  | n + 1 => by rw [Nat.mul_succ, gZ h, nC h m n, npow]
theorem FY {a : Nat} (h : a < 8192) : npow a 2 = aN a a := by rw [npow, qp h]
theorem tH : ∀ (k o a n : Nat), n < 2 ^ k → o < 8192 → a < 8192 → sH k o a n = aN o (npow a n)
  | 0, o, a, n, hn, ho, ha => by
    obtain rfl : n = 0 := by omega
    rw [sH, npow, dP]
  | k + 1, o, a, n, hn, ho, ha => by
    rw [sH]
    by_cases h : n = 0
    · subst h; rw [if_pos rfl, npow, dP]
    · rw [if_neg h]
      have hn2 : n / 2 < 2 ^ k := by rw [Nat.pow_succ] at hn; omega
      have h2 : npow (aN a a) (n / 2) = npow a (2 * (n / 2)) := by rw [nC ha, FY ha]
      by_cases h1 : n % 2 = 1
      · rw [if_pos h1, tH k _ _ _ hn2 (aR ho) (aR ha), h2, bL ho ha (bg _)]
        congr 1
        have h3 : n = 1 + 2 * (n / 2) := by omega
        have h4 := gZ ha 1 (2 * (n / 2))
        rw [← h3, qp ha] at h4
        exact h4.symm
      · rw [if_neg h1, tH k _ _ _ hn2 ho (aR ha), h2]
        have h3 : n = 2 * (n / 2) := by omega
        rw [← h3]
theorem vY {a n : Nat} (ha : a < 8192) (hn : n < 8192) : FI a n = npow a n := by
  unfold FI
  rw [tH 13 1 a n hn (by decide) ha, nH (bg _)]
theorem OX {a b : Nat} (ha : a < 8192) (hb : b < 8192) : aN (a ^^^ b) (a ^^^ b) = aN a a ^^^ aN b b := by
  rw [bI, cZ a ha hb, cZ b ha hb, eZ hb ha, FH, Nat.xor_comm (aN a b) (aN b b), ← FH, Nat.xor_assoc, Nat.xor_self, Nat.xor_zero]
def zf : Nat → Nat → Nat
  | 0, a => a
  | n + 1, a => zf n (aN a a)
theorem FL : ∀ n a b, a < 8192 → b < 8192 → zf n (a ^^^ b) = zf n a ^^^ zf n b
  | 0, _, _, _, _ => rfl
  | n + 1, a, b, ha, hb => by rw [zf, zf, zf, OX ha hb]; exact FL n _ _ (aR ha) (aR hb)
theorem BU : ∀ n a, a < 8192 → zf n a = npow a (2 ^ n)
  | 0, a, h => (qp h).symm
  | n + 1, a, h => by rw [zf, BU n _ (aR h), ← FY h, ← nC h, Nat.pow_succ, Nat.mul_comm]
theorem Ng : ((List.range 13).all fun i => Nat.beq (zf 13 (2 ^ i)) (2 ^ i)) = true := by kernel_rfl
theorem BX {a : Nat} (h : a < 8192) : npow a 8192 = a := by
  have h1 := BU 13 a h
  have h2 := rF (f := zf 13) (g := fun a => a) (fun x y hx hy => FL 13 x y hx hy) (fun x y _ _ => rfl) (fun i hi => Nat.eq_of_beq_eq_true (List.all_eq_true.1 Ng i (List.mem_range.2 hi))) a h
  rw [h2] at h1
  exact h1.symm
theorem NJ : ((List.range 8192).all fun e => !(Nat.beq (aN e e) e) || Nat.ble e 1) = true := by kernel_rfl
theorem wu {a : Nat} (h : a < 8192) (h0 : a ≠ 0) : npow a 8191 = 1 := by
  have h1 : aN (npow a 8191) (npow a 8191) = npow a 8191 := by
    have e : npow a (8191 + 8191) = npow a 8191 := by
      rw [show 8191 + 8191 = 8192 + 8190 from rfl, gZ h, BX h]
      have e2 := gZ h 1 8190
      rw [qp h] at e2
      exact e2.symm
    rw [gZ h] at e; exact e
  have h2 := List.all_eq_true.1 NJ (npow a 8191) (List.mem_range.2 (bg _))
  rw [h1, show Nat.beq (npow a 8191) (npow a 8191) = true from Nat.beq_refl _, Bool.not_true, Bool.false_or] at h2
  have h3 := Nat.le_of_ble_eq_true h2
  rcases Nat.lt_or_ge (npow a 8191) 1 with h4 | h4
  · exfalso
    apply h0
    have e := BX h
    rw [show 8192 = 8191 + 1 from rfl, gZ h, show npow a 8191 = 0 by omega, cu] at e
    exact e.symm
  · omega
theorem E5 {a : Nat} (h : a < 8192) (h0 : a ≠ 0) : aN a (Er a) = 1 := by
  have e := gZ h 1 8190
  rw [qp h, show 1 + 8190 = 8191 from rfl, wu h h0] at e
  unfold Er
  rw [vY h (by decide)]
  exact e.symm
theorem vI {a : Nat} (h : a < 8192) : Er a < 8192 := Ed h
theorem q8 {a b : Nat} (ha : a < 8192) (hb : b < 8192) (h : aN a b = 0) : a = 0 ∨ b = 0 := by
  by_cases h0 : a = 0
  · exact .inl h0
  · right
    have h1 := E5 ha h0
    have h2 : aN (aN a (Er a)) b = 0 := by
      rw [bL ha (vI ha) hb, eZ (vI ha) hb, ← bL ha hb (vI ha), h, cu]
    rw [h1, nH hb] at h2
    exact h2
--END
--BEGIN
def jY (f : Nat → Nat) : List Nat → Nat
  | [] => 0
  | e :: E => f e ^^^ jY f E
theorem oP {f g : Nat → Nat} : ∀ {E : List Nat}, (∀ e ∈ E, f e = g e) → jY f E = jY g E
  | [], _ => rfl
  | e :: E, h => by rw [jY, jY, h e (.head _), oP fun x hx => h x (.tail _ hx)]
theorem zi (f g : Nat → Nat) : ∀ E : List Nat, jY (fun e => f e ^^^ g e) E = jY f E ^^^ jY g E
  | [] => (Nat.xor_self 0).symm
  | e :: E => by rw [jY, jY, jY, zi f g E, FH]
theorem uT (a : Nat) (f : Nat → Nat) : ∀ E : List Nat, aN a (jY f E) = jY (fun e => aN a (f e)) E
  | [] => dH a
  | e :: E => by rw [jY, jY, bI, uT a f E]
theorem wZ {f : Nat → Nat} : ∀ {E : List Nat}, (∀ e ∈ E, f e = 0) → jY f E = 0
  | [], _ => rfl
  | e :: E, h => by rw [jY, h e (.head _), wZ fun x hx => h x (.tail _ hx)]; rfl
theorem zF {a b c : Nat} (ha : a < 8192) (hb : b < 8192) (hc : c < 8192) : aN (aN a b) c = aN (aN a c) b := by
  rw [bL ha hb hc, eZ hb hc, ← bL ha hc hb]
theorem yN {a : Nat} (h : a < 8192) (h0 : a ≠ 0) : ∀ n, npow a n ≠ 0
  | 0 => (by decide : (1 : Nat) ≠ 0)
  | n + 1 => fun hz => by
    rcases q8 (bg n) h hz with h1 | h1
    · exact yN h h0 n h1
    · exact h0 h1
theorem LY : ∀ (E : List Nat) (X Y : Nat → Nat), (∀ e ∈ E, X e < 8192 ∧ X e ≠ 0 ∧ Y e < 8192) → E.Pairwise (fun a b => X a ≠ X b) → ∀ j0,
    (∀ j, j0 ≤ j → j < j0 + E.length → jY (fun e => aN (Y e) (npow (X e) j)) E = 0) → ∀ e ∈ E, Y e = 0
  | [], _, _, _, _, _, _, e, he => by cases he
  | x :: E, X, Y, hX, hp, j0, hs, e, he => by
    have hx := hX x (.head _)
    have hE : ∀ e ∈ E, X e < 8192 ∧ X e ≠ 0 ∧ Y e < 8192 := fun e he => hX e (.tail _ he)
    have hpx := List.pairwise_cons.1 hp
    have key := LY E X (fun e => aN (Y e) (X e ^^^ X x)) (fun e he => ⟨(hE e he).1, (hE e he).2.1, aR (hE e he).2.2⟩) hpx.2 j0 (fun j h1 h2 => by
      have e1 := hs j h1 (by rw [List.length_cons]; omega)
      have e2 := hs (j + 1) (by omega) (by rw [List.length_cons]; omega)
      have e3 : aN (X x) (jY (fun e => aN (Y e) (npow (X e) j)) (x :: E)) = 0 := by rw [e1, dH]
      rw [uT] at e3
      have e4 : jY (fun e => aN (Y e) (npow (X e) (j + 1)) ^^^ aN (X x) (aN (Y e) (npow (X e) j))) (x :: E) = 0 := by rw [zi, e2, e3]; rfl
      have e5 : ∀ e ∈ x :: E, (aN (Y e) (npow (X e) (j + 1)) ^^^ aN (X x) (aN (Y e) (npow (X e) j))) = aN (aN (Y e) (X e ^^^ X x)) (npow (X e) j) := fun e he => by
        obtain ⟨k1, k2, k3⟩ := hX e he
        rw [bI, cZ _ (aR k3) (aR k3), npow, eZ hx.1 (aR k3), zF k3 (bg _) hx.1, zF k3 k1 (bg _), bL k3 (bg _) k1]
      rw [oP e5, jY, Nat.xor_self, dH, cu, Nat.zero_xor] at e4
      exact e4)
    have hY : ∀ e ∈ E, Y e = 0 := fun e he => by
      obtain ⟨k1, k2, k3⟩ := hE e he
      rcases q8 k3 (dB (k := 13) k1 hx.1) (key e he) with h | h
      · exact h
      · exact absurd (qw h).symm (hpx.1 e he)
    rcases List.mem_cons.1 he with rfl | he
    · have e1 := hs j0 (Nat.le_refl _) (by rw [List.length_cons]; omega)
      rw [jY, wZ (fun e he => by rw [hY e he, cu]), Nat.xor_zero] at e1
      rcases q8 hx.2.2 (bg _) e1 with h | h
      · exact h
      · exact absurd h (yN hx.1 hx.2.1 _)
    · exact hY e he
def pv : List Nat → Nat → Nat
  | [], _ => 0
  | c :: l, x => c ^^^ aN (pv l x) x
def quo (a : Nat) : List Nat → List Nat
  | [] => []
  | [_] => []
  | _ :: d :: l => pv (d :: l) a :: quo a (d :: l)
theorem Bf (a : Nat) : ∀ l : List Nat, (quo a l).length = l.length - 1
  | [] => rfl
  | [_] => rfl
  | _ :: d :: l => by rw [quo, List.length_cons, Bf a (d :: l)]; simp
theorem Cr {x : Nat} : ∀ {l : List Nat}, (∀ c ∈ l, c < 8192) → pv l x < 8192
  | [], _ => (by decide : 0 < 8192)
  | c :: l, h => dB (k := 13) (h c (.head _)) (aR (Cr fun y hy => h y (.tail _ hy)))
theorem rV {a : Nat} : ∀ {l : List Nat}, (∀ c ∈ l, c < 8192) → ∀ c ∈ quo a l, c < 8192
  | [], _, c, hc => by cases hc
  | [_], _, c, hc => by cases hc
  | _ :: d :: l, h, c, hc => by
    rw [quo] at hc
    rcases List.mem_cons.1 hc with rfl | hc
    · exact Cr fun y hy => h y (.tail _ hy)
    · exact rV (fun y hy => h y (.tail _ hy)) c hc
theorem Ho {a x : Nat} (ha : a < 8192) (hx : x < 8192) : ∀ {l : List Nat}, (∀ c ∈ l, c < 8192) → pv l x = pv l a ^^^ aN (pv (quo a l) x) (x ^^^ a)
  | [], _ => by show 0 = 0 ^^^ aN 0 _; rw [cu]; rfl
  | [c], _ => by show c ^^^ aN 0 x = (c ^^^ aN 0 a) ^^^ aN 0 _; rw [cu, cu, cu]; simp
  | c :: d :: l, h => by
    have h' : ∀ y ∈ d :: l, y < 8192 := fun y hy => h y (.tail _ hy)
    have ih := Ho ha hx h'
    have l1 := Cr (x := x) h'
    have l2 := Cr (x := a) h'
    have l3 := Cr (x := x) (rV (a := a) h')
    have hxa : x ^^^ a < 8192 := dB (k := 13) hx ha
    show c ^^^ aN (pv (d :: l) x) x = (c ^^^ aN (pv (d :: l) a) a) ^^^ aN (pv (d :: l) a ^^^ aN (pv (quo a (d :: l)) x) x) (x ^^^ a)
    rw [cZ _ l2 (aR l3), bI (pv (d :: l) a), zF l3 hx hxa, ih, cZ _ l2 (aR l3)]
    rw [Nat.xor_assoc]
    congr 1
    rw [← Nat.xor_assoc, ← Nat.xor_assoc, Nat.xor_comm (aN (pv (d :: l) a) a), Nat.xor_assoc (aN (pv (d :: l) a) x), Nat.xor_self, Nat.xor_zero]
theorem FW : ∀ (R l : List Nat), l.length = R.length → (∀ c ∈ l, c < 8192) → (∀ r ∈ R, r < 8192 ∧ pv l r = 0) → R.Pairwise (· ≠ ·) → ∀ x, x < 8192 → pv l x = 0
  | [], [], _, _, _, _, _, _ => rfl
  | a :: R, l, hl, hs, hr, hp, x, hx => by
    have ha := hr a (.head _)
    have hpx := List.pairwise_cons.1 hp
    have key := FW R (quo a l) (by rw [Bf, hl]; simp) (rV hs) (fun r hr' => by
      have h1 := hr r (.tail _ hr')
      refine ⟨h1.1, ?_⟩
      have h2 := Ho ha.1 h1.1 hs
      rw [h1.2, ha.2, Nat.zero_xor] at h2
      rcases q8 (Cr (rV hs)) (dB (k := 13) h1.1 ha.1) h2.symm with h3 | h3
      · exact h3
      · exact absurd (qw h3).symm (hpx.1 r hr')) hpx.2 x hx
    rw [Ho ha.1 hx hs, ha.2, key, cu]; rfl
def pe (c : Nat → Nat) (x : Nat) : Nat → Nat
  | 0 => 0
  | k + 1 => pe c x k ^^^ aN (c k) (npow x k)
theorem Ez {c : Nat → Nat} {x : Nat} (hc : ∀ i, c i < 8192) : ∀ k, pe c x k < 8192
  | 0 => (by decide : 0 < 8192)
  | k + 1 => dB (k := 13) (Ez hc k) (aR (hc k))
theorem Bj {c : Nat → Nat} {x : Nat} (hx : x < 8192) (hc : ∀ i, c i < 8192) : ∀ k, pe c x (k + 1) = c 0 ^^^ aN (pe (fun i => c (i + 1)) x k) x
  | 0 => by rw [pe, pe, pe, npow, dP, cu, Nat.zero_xor, Nat.xor_zero]
  | k + 1 => by
    rw [pe, Bj hx hc k, pe, cZ _ (Ez (fun i => hc (i + 1)) k) (aR (hc (k + 1))), npow, ← bL (hc _) (bg _) hx, Nat.xor_assoc]
theorem KW {x : Nat} (hx : x < 8192) : ∀ k (c : Nat → Nat), (∀ i, c i < 8192) → pe c x k = pv ((List.range k).map c) x
  | 0, _, _ => rfl
  | k + 1, c, hc => by
    rw [Bj hx hc k, KW hx k _ (fun i => hc (i + 1)), List.range_succ_eq_map, List.map_cons, pv, List.map_map]
    rfl
theorem LJ {c : Nat → Nat} (hc : ∀ i, c i < 8192) (R : List Nat) (hr : ∀ r ∈ R, r < 8192 ∧ pe c r R.length = 0) (hp : R.Pairwise (· ≠ ·)) (h0 : 0 < R.length) : c 0 = 0 := by
  have h := FW R ((List.range R.length).map c) (by simp) (fun x hx => by obtain ⟨i, _, rfl⟩ := List.mem_map.1 hx; exact hc i) (fun r h1 => ⟨(hr r h1).1, by rw [← KW (hr r h1).1 _ c hc]; exact (hr r h1).2⟩) hp 0 (by decide)
  rw [← KW (by decide) _ c hc] at h
  obtain ⟨k, hk⟩ : ∃ k, R.length = k + 1 := ⟨R.length - 1, by omega⟩
  rw [hk, Bj (by decide) hc, dH, Nat.xor_zero] at h
  exact h
def yw (c : Nat → Nat) (x : Nat) : Nat → Nat
  | 0 => c 0
  | k + 1 => aN (yw c x k) x ^^^ c (k + 1)
theorem IY {c : Nat → Nat} {x : Nat} (hc : ∀ i, c i < 8192) : ∀ k, yw c x k < 8192
  | 0 => hc 0
  | k + 1 => dB (k := 13) (aR (IY hc k)) (hc (k + 1))
theorem Ov {c : Nat → Nat} {x y : Nat} (hx : x < 8192) (hy : y < 8192) (hxy : aN x y = 1) (hc : ∀ i, c i < 8192) : ∀ k, yw c x k = aN (pe c y (k + 1)) (npow x k)
  | 0 => by rw [yw, pe, pe, npow, npow, dP, dP, Nat.zero_xor]
  | k + 1 => by
    have hp : ∀ n, aN (npow x n) (npow y n) = 1 := by
      intro n
      induction n with
      | zero => exact dP
      | succ n ih =>
        rw [npow, npow, bL (bg _) hx (aR (bg _)), ← bL hx (bg _) hy, eZ hx (bg _), bL (bg _) hx hy, hxy, dP]
        exact ih
    show aN (yw c x k) x ^^^ c (k + 1) = aN (pe c y (k + 1) ^^^ aN (c (k + 1)) (npow y (k + 1))) (npow x (k + 1))
    rw [Ov hx hy hxy hc k, cZ _ (Ez hc _) (aR (hc _)), bL (hc _) (bg _) (bg _), eZ (bg (a := y) _) (bg _), hp, dP, bL (Ez hc _) (bg _) hx]
    rfl
theorem Gd {c : List Nat} {x : Nat} (hx : x < 8192) (hc : ∀ i, c.getD i 0 < 8192) : ∀ k v, v < 8192 → sN c x k v = aN v (npow x k) ^^^ pe (fun i => c.getD i 0) x k
  | 0, v, hv => by rw [sN, npow, dP, pe, Nat.xor_zero]
  | k + 1, v, hv => by
    rw [sN, Gd hx hc k _ (dB (k := 13) (aR hv) (hc k)), cZ _ (aR hv) (hc k), pe, Nat.xor_assoc, Nat.xor_comm (pe _ _ _), npow, bL hv hx (bg _), eZ hx (bg _)]
--END
--BEGIN
def gW (c s : Nat → Nat) (j : Nat) : Nat → Nat
  | 0 => aN (c 0) (s j)
  | k + 1 => gW c s j k ^^^ aN (c (k + 1)) (s (j - (k + 1)))
abbrev cv (c s : Nat → Nat) (j : Nat) : Nat := gW c s j j
theorem C9 {c s : Nat → Nat} {j m : Nat} (h : ∀ i, m < i → c i = 0) : ∀ k, gW c s j (m + k) = gW c s j m
  | 0 => rfl
  | k + 1 => by rw [← Nat.add_assoc, gW, C9 h k, h _ (by omega), cu, Nat.xor_zero]
theorem sZ {c s : Nat → Nat} {j m n : Nat} (h : ∀ i, m < i → c i = 0) (hn : m ≤ n) : gW c s j n = gW c s j m := by
  have := C9 (s := s) (j := j) h (n - m)
  rwa [Nat.add_sub_cancel' hn] at this
theorem ER {c b s : Nat → Nat} {j : Nat} (hc : ∀ i, c i < 8192) (hb : ∀ i, b i < 8192) : ∀ k, gW (fun i => c i ^^^ b i) s j k = gW c s j k ^^^ gW b s j k
  | 0 => cZ _ (hc 0) (hb 0)
  | k + 1 => by rw [gW, gW, gW, ER hc hb k, cZ _ (hc _) (hb _), FH]
theorem CF {c s : Nat → Nat} {j : Nat} : ∀ k, (∀ i, i ≤ k → c i = 0) → gW c s j k = 0
  | 0, h => by rw [gW, h 0 (Nat.le_refl _), cu]
  | k + 1, h => by rw [gW, CF k (fun i hi => h i (by omega)), h _ (Nat.le_refl _), cu]; rfl
def fU (b : Nat → Nat) (q sh : Nat) (i : Nat) : Nat := if sh ≤ i then aN q (b (i - sh)) else 0
theorem JK {b : Nat → Nat} {q sh : Nat} (hq : q < 8192) (i : Nat) : fU b q sh i < 8192 := by
  unfold fU; split
  · exact aR hq
  · decide
theorem Gc {b s : Nat → Nat} {q sh j : Nat} (hq : q < 8192) (hb : ∀ i, b i < 8192) (hs : ∀ i, s i < 8192) (hj : sh ≤ j) : ∀ k, gW (fU b q sh) s j (sh + k) = aN q (gW b s (j - sh) k)
  | 0 => by
    have h1 : gW (fU b q sh) s j sh = aN (aN q (b 0)) (s (j - sh)) := by
      cases sh with
      | zero => rfl
      | succ n =>
        rw [gW, CF n (fun i hi => by unfold fU; rw [if_neg (by omega)]), Nat.zero_xor]
        unfold fU; rw [if_pos (Nat.le_refl _), Nat.sub_self]
    rw [Nat.add_zero, h1, gW, bL hq (hb 0) (hs _)]
  | k + 1 => by
    rw [← Nat.add_assoc, gW, Gc hq hb hs hj k, gW, bI]
    congr 1
    rw [show fU b q sh (sh + k + 1) = aN q (b (k + 1)) by unfold fU; rw [if_pos (by omega)]; congr 2; omega, bL hq (hb _) (hs _), show j - (sh + k + 1) = j - sh - (k + 1) by omega]
theorem PK {b s : Nat → Nat} {q sh j : Nat} (hq : q < 8192) (hb : ∀ i, b i < 8192) (hs : ∀ i, s i < 8192) (hj : sh ≤ j) : cv (fU b q sh) s j = aN q (cv b s (j - sh)) := by
  have := Gc (s := s) hq hb hs hj (j - sh)
  rwa [Nat.add_sub_cancel' hj] at this
abbrev co (l : List Nat) (i : Nat) : Nat := l.getD i 0
theorem ru {l : List Nat} {i : Nat} (h : l.length ≤ i) : co l i = 0 := by unfold co; rw [List.getD, List.getElem?_eq_none h]; rfl
theorem Ga {s c : List Nat} {n : Nat} (h0 : co c 0 = 1) (hs : ∀ i, co s i < 8192) : ∀ k, qx s c n k = gW (co c) (co s) n k
  | 0 => by rw [qx, gW, h0, nH (hs n)]
  | k + 1 => by rw [qx, gW, Ga h0 hs k]
theorem EP {c b : List Nat} {q sh : Nat} : ∀ k, k + sh ≤ c.length → k ≤ b.length → ∀ i, co (jR c b q sh k) i = if i < k + sh then co c i ^^^ fU (co b) q sh i else co c i
  | 0, _, _, i => by
    rw [jR]
    split
    · unfold fU; rw [if_neg (by omega), Nat.xor_zero]
    · rfl
  | k + 1, h1, h2, i => by
    have ih := EP (c := c) (b := b) (q := q) (sh := sh) k (by omega) (by omega)
    rw [jR]
    show ((jR c b q sh k).set (k + sh) _).getD i 0 = _
    rw [lu]
    by_cases h : k + sh = i
    · subst h
      rw [if_pos ⟨rfl, by rw [kS]; omega⟩, if_pos (by omega)]
      have e := ih (k + sh)
      rw [if_neg (by omega)] at e
      rw [show (jR c b q sh k).getD (k + sh) 0 = co c (k + sh) from e]
      unfold fU
      rw [if_pos (by omega), Nat.add_sub_cancel]
    · rw [if_neg (fun hh => h hh.1)]
      have e := ih i
      show co (jR c b q sh k) i = _
      rw [e]
      by_cases h3 : i < k + sh
      · rw [if_pos h3, if_pos (by omega)]
      · rw [if_neg h3, if_neg (by omega)]
theorem O5 {x : BM} {d : Nat} (i : Nat) : co (Et x d) i = co x.c i ^^^ fU (co x.b) (aN d (Er x.last)) x.shift i := by
  unfold Et
  rw [EP _ (by rw [nY]; omega) (Nat.le_refl _)]
  have he : co (jV x) i = co x.c i := by
    unfold jV
    by_cases h : i < x.c.length
    · unfold co; simp [List.getD, List.getElem?_append_left h]
    · rw [ru (l := x.c) (by omega)]
      unfold co
      rw [List.getD, List.getElem?_append_right (by omega), List.getElem?_replicate]
      split <;> rfl
  rw [he]
  split
  · rfl
  · unfold fU
    split
    · rw [show co x.b (i - x.shift) = 0 from ru (by omega), dH, Nat.xor_zero]
    · rw [Nat.xor_zero]
structure BM.Inv (s : List Nat) (v n : Nat) (x : BM) : Prop where
  ok : x.Ok n
  c0 : co x.c 0 = 1
  cd : ∀ i, x.length < i → co x.c i = 0
  gen : ∀ j, x.length ≤ j → j < n → cv (co x.c) (co s) j = 0
  sh : 1 ≤ x.shift
  le : x.length ≤ v
  old : (x.length = 0 ∧ x.b = [1] ∧ x.last = 1 ∧ x.shift = n + 1) ∨ ∃ p lb, p + x.shift = n ∧ lb + x.length = p + 1 ∧ 1 ≤ x.length ∧ (∀ i, lb < i → co x.b i = 0) ∧ (∀ j, lb ≤ j → j < p → cv (co x.b) (co s) j = 0) ∧ cv (co x.b) (co s) p = x.last
theorem BM.Inv.d {s : List Nat} {v n : Nat} {x : BM} (h : x.Inv s v n) (hs : Small 8192 s) : Bt s n x = cv (co x.c) (co s) n := by
  unfold Bt
  rw [Ga h.c0 (fun i => hs.at_ (by decide) i)]
  have h1 := h.ok.l
  have h2 := h.ok.c1
  refine (sZ (fun i hi => ?_) (by omega)).symm
  rcases Nat.lt_or_ge i x.c.length with h3 | h3
  · exact h.cd i (by omega)
  · exact ru h3
theorem BM.Inv.next {s : List Nat} {v n : Nat} {x : BM} (h : x.Inv s v n) (hs : Small 8192 s) (hd : Bt s n x ≠ 0) {l : Nat} (hl : x.length ≤ l) (hl2 : n + 1 - x.length ≤ l) :
    co (Et x (Bt s n x)) 0 = 1 ∧ (∀ i, l < i → co (Et x (Bt s n x)) i = 0) ∧ ∀ j, l ≤ j → j < n + 1 → cv (co (Et x (Bt s n x))) (co s) j = 0 := by
  have BI : Bt s n x < 8192 := pE hs h.ok.cs _
  obtain ⟨q, hq⟩ : ∃ q, q = aN (Bt s n x) (Er x.last) := ⟨_, rfl⟩
  have hq8 : q < 8192 := by rw [hq]; exact aR BI
  have hco : ∀ i, co (Et x (Bt s n x)) i = co x.c i ^^^ fU (co x.b) q x.shift i := fun i => by rw [hq]; exact O5 i
  have hc8 : ∀ i, co x.c i < 8192 := fun i => h.ok.cs.at_ (by decide) i
  have Rb : ∀ i, co x.b i < 8192 := fun i => h.ok.bs.at_ (by decide) i
  have OQ : ∀ i, co s i < 8192 := fun i => hs.at_ (by decide) i
  have hsh := h.sh
  have hln := h.ok.l
  have hcv : ∀ j, cv (co (Et x (Bt s n x))) (co s) j = cv (co x.c) (co s) j ^^^ cv (fU (co x.b) q x.shift) (co s) j := fun j => by
    rw [show co (Et x (Bt s n x)) = fun i => co x.c i ^^^ fU (co x.b) q x.shift i from funext hco]
    exact ER hc8 (JK hq8) j
  have Bq : aN q x.last = Bt s n x := by
    rw [hq, bL BI (vI h.ok.la) h.ok.la, eZ (vI h.ok.la) h.ok.la, E5 h.ok.la h.ok.l0, dP]
  refine ⟨?_, ?_, ?_⟩
  · rw [hco, h.c0]; unfold fU; rw [if_neg (by omega), Nat.xor_zero]
  · intro i hi
    rw [hco, h.cd i (by omega), Nat.zero_xor]
    unfold fU
    split
    · rcases h.old with ⟨k1, k2, k3, k4⟩ | ⟨p, lb, k1, k2, k3, k4, k5, k6⟩
      · rw [ru (l := x.b) (by rw [k2]; simp; omega), dH]
      · rw [k4 _ (by omega), dH]
    · rfl
  · intro j hj1 hj2
    rw [hcv]
    rcases h.old with ⟨k1, k2, k3, k4⟩ | ⟨p, lb, k1, k2, k3, k4, k5, k6⟩
    · omega
    · rw [PK hq8 Rb OQ (by omega)]
      by_cases hjn : j = n
      · subst hjn
        rw [show j - x.shift = p by omega, k6, Bq, h.d hs, Nat.xor_self]
      · rw [h.gen j (by omega) (by omega), k5 _ (by omega) (by omega), dH]; rfl
structure He (s : List Nat) (E : List Nat) (X : Nat → Nat) : Prop where
  x : ∀ e ∈ E, X e < 8192 ∧ X e ≠ 0
  p : E.Pairwise (fun a b => X a ≠ X b)
  s : ∀ j, j < s.length → co s j = jY (fun e => npow (X e) (j + 1)) E
theorem He.cv {s E : List Nat} {X : Nat → Nat} (h : He s E X) {c : Nat → Nat} (hc : ∀ i, c i < 8192) {j : Nat} (hj : j < s.length) : ∀ l, l ≤ j → gW c (co s) j l = jY (fun e => aN (yw c (X e) l) (npow (X e) (j + 1 - l))) E
  | 0, _ => by rw [gW, h.s j hj, uT]; rfl
  | l + 1, hl => by
    rw [gW, h.cv hc hj l (by omega), h.s _ (by omega), uT, ← zi]
    refine oP (fun e he => ?_)
    obtain ⟨k1, k2⟩ := h.x e he
    rw [yw, cZ _ (aR (IY hc l)) (hc _), show j + 1 - l = j - l + 1 by omega, show j - (l + 1) + 1 = j - l by omega, show j + 1 - (l + 1) = j - l by omega, npow, eZ (bg _) k1, ← bL (IY hc l) k1 (bg _)]
theorem He.weights {s E : List Nat} {X : Nat → Nat} (h : He s E X) {c : Nat → Nat} (hc : ∀ i, c i < 8192) {l : Nat} (hd : ∀ i, l < i → c i = 0) (hgen : ∀ j, l ≤ j → j < l + E.length → Proofs.YtcmojpiokjhmhaaGreat.cv c (co s) j = 0) (hl : l + E.length ≤ s.length) :
    ∀ e ∈ E, yw c (X e) l = 0 := by
  refine LY E X (fun e => yw c (X e) l) (fun e he => ⟨(h.x e he).1, (h.x e he).2, IY hc l⟩) h.p 1 (fun i h1 h2 => ?_)
  have e1 := hgen (l + i - 1) (by omega) (by omega)
  have e2 : gW c (co s) (l + i - 1) (l + i - 1) = gW c (co s) (l + i - 1) l := sZ hd (by omega)
  rw [show Proofs.YtcmojpiokjhmhaaGreat.cv c (co s) (l + i - 1) = gW c (co s) (l + i - 1) (l + i - 1) from rfl, e2, h.cv hc (by omega) l (by omega)] at e1
  rw [show l + i - 1 + 1 - l = i by omega] at e1
  exact e1
theorem Hr {s E : List Nat} {X : Nat → Nat} (hS : He s E X) (hs : Small 8192 s) {n : Nat} {x : BM} (hn : n < s.length) (h : x.Inv s E.length n) : (pR s n x).Inv s E.length (n + 1) := by
  have hok := CZ hs h.ok
  have hln := h.ok.l
  have hsh := h.sh
  have hle := h.le
  have hc8 : ∀ i, co x.c i < 8192 := fun i => h.ok.cs.at_ (by decide) i
  unfold pR at hok ⊢
  by_cases h0 : Bt s n x = 0
  · rw [if_pos h0] at hok ⊢
    refine ⟨hok, h.c0, h.cd, fun j h1 h2 => ?_, by show 1 ≤ x.shift + 1; omega, h.le, ?_⟩
    · by_cases hjn : j = n
      · subst hjn; rw [← h0]; exact (h.d hs).symm
      · exact h.gen j h1 (by omega)
    · rcases h.old with ⟨k1, k2, k3, k4⟩ | ⟨p, lb, k1, k2, k3, k4, k5, k6⟩
      · exact .inl ⟨k1, k2, k3, by show x.shift + 1 = n + 1 + 1; omega⟩
      · exact .inr ⟨p, lb, by show p + (x.shift + 1) = n + 1; omega, k2, k3, k4, k5, k6⟩
  · rw [if_neg h0] at hok ⊢
    by_cases h2 : 2 * x.length ≤ n
    · rw [if_pos h2] at hok ⊢
      obtain ⟨k1, k2, k3⟩ := h.next hs h0 (l := n + 1 - x.length) (by omega) (Nat.le_refl _)
      have hlen : n + 1 - x.length ≤ E.length := by
        rcases Nat.lt_or_ge E.length (n + 1 - x.length) with hh | hh
        · exfalso
          have hw := hS.weights hc8 h.cd (fun j h1 h2 => h.gen j h1 (by omega)) (by omega)
          apply h0
          rw [h.d hs]
          have e2 : gW (co x.c) (co s) n n = gW (co x.c) (co s) n x.length := sZ h.cd (by omega)
          show gW (co x.c) (co s) n n = 0
          rw [e2, hS.cv hc8 hn _ (by omega)]
          exact wZ (fun e he => by rw [hw e he, cu])
        · exact hh
      refine ⟨hok, k1, k2, k3, Nat.le_refl 1, hlen, .inr ⟨n, x.length, rfl, by show x.length + (n + 1 - x.length) = n + 1; omega, by show 1 ≤ n + 1 - x.length; omega, h.cd, h.gen, ?_⟩⟩
      exact (h.d hs).symm
    · rw [if_neg h2] at hok ⊢
      obtain ⟨k1, k2, k3⟩ := h.next hs h0 (l := x.length) (Nat.le_refl _) (by omega)
      refine ⟨hok, k1, k2, k3, by show 1 ≤ x.shift + 1; omega, h.le, ?_⟩
      rcases h.old with ⟨j1, j2, j3, j4⟩ | ⟨p, lb, j1, j2, j3, j4, j5, j6⟩
      · omega
      · exact .inr ⟨p, lb, by show p + (x.shift + 1) = n + 1; omega, j2, j3, j4, j5, j6⟩
theorem FC {s E : List Nat} {X : Nat → Nat} (hS : He s E X) (hs : Small 8192 s) : ∀ n, n ≤ s.length → (gK s n).Inv s E.length n
  | 0, _ => ⟨vK hs 0, rfl, fun i hi => ru hi, fun j _ h => absurd h (Nat.not_lt_zero _), Nat.le_refl 1, Nat.zero_le _, .inl ⟨rfl, rfl, rfl, rfl⟩⟩
  | n + 1, hn => Hr hS hs (by omega) (FC hS hs n (by omega))
--END
--BEGIN
theorem nU {xs : List Nat} {i : Nat} (hi : i < 8 * xs.length) (k : Nat) : aS (iL xs i) k = (aS xs k ^^ decide (i = k)) := by
  unfold aS iL
  rw [lu]
  by_cases h : i / 8 = k / 8
  · rw [if_pos ⟨h, by omega⟩, Nat.testBit_xor, Nat.testBit_two_pow, h]
    congr 1
    apply decide_eq_decide.2
    omega
  · rw [if_neg (fun hh => h hh.1), decide_eq_false (by omega), Bool.xor_false]
theorem Mc {t : Nat} {p : LL} {i : Nat} (hm : 13 * t ≤ 8 * p.2.length) (hi : i < 13 * t + 8 * p.1.length) (k : Nat) : yU t (iN t p i).1 (iN t p i).2 k = (yU t p.1 p.2 k ^^ decide (i = k)) := by
  unfold yU iN
  by_cases h : 13 * t ≤ i
  · rw [if_pos h]
    by_cases hk : 13 * t ≤ k
    · rw [if_pos hk, if_pos hk, nU (by omega)]
      congr 1
      apply decide_eq_decide.2
      omega
    · rw [if_neg hk, if_neg hk, decide_eq_false (by omega), Bool.xor_false]
  · rw [if_neg h]
    by_cases hk : 13 * t ≤ k
    · rw [if_pos hk, if_pos hk, decide_eq_false (by omega), Bool.xor_false]
    · rw [if_neg hk, if_neg hk, nU (by omega)]
theorem zV {t : Nat} {c : List Nat} {L : Nat} {p : LL} (hm : 13 * t ≤ 8 * p.2.length) : ∀ k, k ≤ 13 * t + 8 * p.1.length → ∀ j, yU t (bJ t c L p k).1.1 (bJ t c L p k).1.2 j = (yU t p.1 p.2 j ^^ (decide (j < k) && nV c L j))
  | 0, _, j => by simp [bJ]
  | k + 1, hk, j => by
    have ih := zV (c := c) (L := L) hm k (by omega)
    obtain ⟨l1, l2⟩ := jd t c L p k
    rw [bJ]
    by_cases hr : nV c L k = true
    · rw [if_pos hr]
      show yU t (iN t (bJ t c L p k).1 k).1 (iN t (bJ t c L p k).1 k).2 j = _
      rw [Mc (by omega) (by omega), ih j]
      by_cases hj : k = j
      · subst hj; rw [hr, decide_eq_false (Nat.lt_irrefl k), decide_eq_true (Nat.lt_succ_self k), decide_eq_true rfl]; simp
      · rw [decide_eq_false hj, Bool.xor_false, show decide (j < k) = decide (j < k + 1) from decide_eq_decide.2 (by omega)]
    · rw [if_neg hr, ih j]
      by_cases hj : k = j
      · subst hj; rw [Bool.not_eq_true] at hr; rw [hr]; simp
      · rw [show decide (j < k) = decide (j < k + 1) from decide_eq_decide.2 (by omega)]
theorem FB {xs ys : List Nat} (hl : xs.length = ys.length) (hx : Small 256 xs) (hy : Small 256 ys) (h : ∀ k, k < 8 * xs.length → aS xs k = aS ys k) : xs = ys := by
  apply List.ext_getElem hl
  intro i h1 h2
  have e1 : xs.getD i 0 = xs[i] := by simp [List.getD, h1]
  have e2 : ys.getD i 0 = ys[i] := by simp [List.getD, h2]
  rw [← e1, ← e2]
  apply Nat.eq_of_testBit_eq
  intro j
  by_cases hj : j < 8
  · have := h (8 * i + j) (by omega)
    unfold aS at this
    rwa [show (8 * i + j) / 8 = i by omega, show (8 * i + j) % 8 = j by omega] at this
  · rw [iH (hx.at_ (by decide) i) (by omega), iH (hy.at_ (by decide) i) (by omega)]
theorem KO {x j i : Nat} (hx : x < 256) : (zS x j).testBit i = (x.testBit i && !decide (j = i)) := by
  unfold zS
  rw [Nat.testBit_and, Nat.testBit_xor, Nat.testBit_two_pow]
  by_cases h8 : i < 8
  · have : (255 : Nat).testBit i = true := by
      have : ∀ i, i < 8 → (255 : Nat).testBit i = true := by decide
      exact this i h8
    rw [this]; simp
  · rw [iH hx (by omega), Bool.false_and, Bool.false_and]
theorem AY {m : List Nat} {i0 : Nat} (hm : Small 256 m) : ∀ k j, aS (eY m i0 k) j = (aS m j && !(decide (i0 ≤ j) && decide (j < i0 + k)))
  | 0, j => by rw [eY]; by_cases h : i0 ≤ j <;> simp [h]
  | k + 1, j => by
    have ih := AY (i0 := i0) hm k
    have hs := jv (i0 := i0) hm k
    have hlen := iO m i0 k
    rw [eY]
    have e1 : aS ((eY m i0 k).set ((i0 + k) / 8) (zS ((eY m i0 k).getD ((i0 + k) / 8) 0) ((i0 + k) % 8))) j = (aS (eY m i0 k) j && !decide (i0 + k = j)) := by
      unfold aS
      rw [lu]
      by_cases h : (i0 + k) / 8 = j / 8 ∧ j / 8 < (eY m i0 k).length
      · rw [if_pos h, KO (hs.at_ (by decide) _), h.1]
        congr 2
        apply decide_eq_decide.2
        omega
      · rw [if_neg h]
        by_cases h2 : i0 + k = j
        · subst h2
          have h3 : (eY m i0 k).length ≤ (i0 + k) / 8 := by
            rcases Nat.lt_or_ge ((i0 + k) / 8) (eY m i0 k).length with h4 | h4
            · exact absurd ⟨rfl, h4⟩ h
            · exact h4
          rw [List.getD, List.getElem?_eq_none h3]; simp
        · rw [decide_eq_false h2]; simp
    rw [e1, ih j, Bool.and_assoc]
    congr 1
    by_cases h1 : i0 ≤ j <;> by_cases h2 : j < i0 + k <;> by_cases h3 : i0 + k = j <;> by_cases h4 : j < i0 + (k + 1) <;> first | omega | simp [h1, h2, h3, h4]
theorem CK {t : Nat} {m : List Nat} (hm : Small 256 m) (hl : m.length = ay t) (j : Nat) : aS (dM t m) j = (decide (j < 13 * t) && aS m j) := by
  unfold dM
  rw [AY hm]
  have h8 : 13 * t ≤ 8 * ay t := by unfold ay; omega
  by_cases h : j < 13 * t
  · rw [decide_eq_false (show ¬ 13 * t ≤ j by omega), decide_eq_true h]; simp
  · rw [decide_eq_true (show 13 * t ≤ j by omega), decide_eq_false h]
    by_cases h2 : j < 13 * t + (8 * ay t - 13 * t)
    · rw [decide_eq_true h2]; simp
    · rw [iq (by omega)]; simp
theorem Fu {k : Nat} (h : k < 8191) : bX (k : Int) = npow 2 k := by
  unfold bX
  rw [show ((k : Int) % 8191).toNat = k by omega, vY (by decide) (by omega)]
theorem KG {x : Nat} (hx : x < 8192) (m n : Nat) : npow x m = 1 → npow x n = 1 → npow x (Nat.gcd m n) = 1 := by
  induction m, n using Nat.gcd.induction with
  | H0 n => intro _ h; rw [Nat.gcd_zero_left]; exact h
  | H1 m n hm ih =>
    intro h1 h2
    rw [Nat.gcd_rec]
    refine ih ?_ h1
    have e := gZ hx (m * (n / m)) (n % m)
    have h3 : ∀ k, npow 1 k = 1 := by
      intro k
      induction k with
      | zero => rfl
      | succ k ih => rw [npow, ih]; exact dP
    rw [Nat.div_add_mod, h2, nC hx, h1, h3, nH (bg _)] at e
    exact e.symm
theorem O6 : ((List.range 8190).all fun d => Nat.beq (Nat.gcd (d + 1) 8191) 1) = true := by kernel_rfl
theorem Mr {d : Nat} (h0 : 0 < d) (h : d < 8191) : npow 2 d ≠ 1 := fun h1 => by
  have h2 := KG (by decide) d 8191 h1 (wu (a := 2) (by decide) (by decide))
  have h3 := Nat.eq_of_beq_eq_true (List.all_eq_true.1 O6 (d - 1) (List.mem_range.2 (by omega)))
  rw [show d - 1 + 1 = d by omega] at h3
  rw [h3] at h2
  exact absurd h2 (by decide)
theorem K6 (e : Nat) : npow 2 e ≠ 0 := yN (by decide) (by decide) e
theorem FN {e f : Nat} (h : e < f) (hf : f < 8191) : npow 2 e ≠ npow 2 f := fun he => by
  have h1 := gZ (a := 2) (by decide) e (f - e)
  rw [Nat.add_sub_cancel' (Nat.le_of_lt h), ← he] at h1
  have h2 : aN (npow 2 e) (npow 2 (f - e) ^^^ 1) = 0 := by rw [bI, ← h1, dP, Nat.xor_self]
  rcases q8 (bg _) (dB (k := 13) (bg _) (by decide)) h2 with h3 | h3
  · exact K6 e h3
  · exact Mr (by omega) (by omega) (qw h3)
theorem Ky {e f : Nat} (he : e < 8191) (hf : f < 8191) (h : npow 2 e = npow 2 f) : e = f := by
  rcases Nat.lt_trichotomy e f with h1 | h1 | h1
  · exact absurd h (FN h1 hf)
  · exact h1
  · exact absurd h.symm (FN h1 he)
theorem Il {i : Nat} (h : i < 8191) : aN (npow 2 i) (bX (-(i : Int))) = 1 := by
  rcases Nat.eq_zero_or_pos i with rfl | hi
  · rw [show (-((0 : Nat) : Int)) = ((0 : Nat) : Int) from rfl, Fu (by decide)]; rfl
  · have e : bX (-(i : Int)) = npow 2 (8191 - i) := by
      unfold bX
      rw [show ((-(i : Int)) % 8191).toNat = 8191 - i by omega, vY (by decide) (by omega)]
    rw [e, ← gZ (by decide), Nat.add_sub_cancel' (by omega), wu (by decide) (by decide)]
theorem neg_inj {e f : Nat} (he : e < 8191) (hf : f < 8191) (h : bX (-(e : Int)) = bX (-(f : Int))) : e = f := by
  apply Ky he hf
  have h1 := Il he
  have h2 := Il hf
  rw [h] at h1
  have h3 : aN (npow 2 e) (aN (npow 2 f) (bX (-(f : Int)))) = aN (npow 2 f) (aN (npow 2 e) (bX (-(f : Int)))) := by
    rw [← bL (bg _) (bg _) (jJ _), ← bL (bg _) (bg _) (jJ _), eZ (bg e) (bg f)]
  rw [h1, h2, dP, dP] at h3
  exact h3
theorem IW {x : Nat} (hx : x < 8192) : ∀ n v, v < 8192 → it x n v = aN v (npow x n)
  | 0, v, _ => dP.symm
  | n + 1, v, hv => by rw [it, IW hx n _ (aR hv), npow, bL hv hx (bg _), eZ hx (bg _)]
theorem KV {x n : Nat} (hx : x < 8192) : ∀ E : List Nat, E.Nodup → (∀ e ∈ E, e < n) → ev x (fun i => decide (i ∈ E)) n = jY (fun e => npow x e) E
  | [], _, _ => uS n (fun i _ => by simp)
  | e :: E, hn, hE => by
    have hne := List.nodup_cons.1 hn
    have ih := KV hx E hne.2 (fun e he => hE e (.tail _ he))
    have h1 : ev x (fun i => decide (i = e)) n = npow x e := by
      have hen := hE e (.head _)
      rw [om (n := e + 1) (fun i hi => decide_eq_false (by omega)) (by omega), ev, uS e (fun i hi => decide_eq_false (by omega)), decide_eq_true rfl, Nat.xor_zero, IW hx e _ (nZ _)]
      exact nH (bg _)
    rw [jY, ← ih, ← h1, ← zx]
    refine jU n (fun i _ => ?_)
    by_cases h2 : i = e
    · subst h2; simp [hne.1]
    · simp [h2]
theorem I4 {c : Nat → Nat} {x m : Nat} (h : ∀ i, m ≤ i → c i = 0) : ∀ k, pe c x (m + k) = pe c x m
  | 0 => rfl
  | k + 1 => by rw [← Nat.add_assoc, pe, I4 h k, h _ (by omega), cu, Nat.xor_zero]
theorem xS {xs : List Nat} : ∀ n, 0 < aF xs n → xs.getD (aF xs n - 1) 0 ≠ 0
  | 0, h => absurd h (Nat.lt_irrefl 0)
  | n + 1, h => by
    rw [aF] at h ⊢
    split at h
    · rename_i h1; rw [if_pos h1]; exact xS n h
    · rename_i h1; rw [if_neg h1]; exact h1
theorem xO {k : Nat} : ∀ {E : List Nat}, E.Nodup → (E.filter fun e => decide (e < k + 1)).length = (E.filter fun e => decide (e < k)).length + (if k ∈ E then 1 else 0)
  | [], _ => rfl
  | e :: E, hn => by
    have hne := List.nodup_cons.1 hn
    have ih := xO (k := k) hne.2
    rw [List.filter_cons, List.filter_cons]
    by_cases h1 : e = k
    · subst h1
      rw [if_neg hne.1] at ih
      simp [ih]
    · by_cases h2 : e < k
      · rw [if_pos (decide_eq_true (by omega : e < k + 1)), if_pos (decide_eq_true h2), List.length_cons, List.length_cons, ih]
        have : (k ∈ e :: E) ↔ k ∈ E := by rw [List.mem_cons]; exact ⟨fun h => h.resolve_left (fun h => h1 h.symm), .inr⟩
        by_cases h3 : k ∈ E
        all_goals first | (rw [if_pos h3, if_pos (this.2 h3)]; done) | (rw [if_pos h3, if_pos (this.2 h3)]; omega) | (rw [if_neg h3, if_neg (fun h => h3 (this.1 h))]; done) | (rw [if_neg h3, if_neg (fun h => h3 (this.1 h))]; omega)
      · rw [if_neg (by simp; omega), if_neg (by simp; omega), ih]
        have : (k ∈ e :: E) ↔ k ∈ E := by rw [List.mem_cons]; exact ⟨fun h => h.resolve_left (fun h => h1 h.symm), .inr⟩
        by_cases h3 : k ∈ E
        · rw [if_pos h3, if_pos (this.2 h3)]
        · rw [if_neg h3, if_neg (fun h => h3 (this.1 h))]
theorem Ck {t : Nat} {c : List Nat} {L : Nat} {p : LL} {E : List Nat} {n : Nat} (hE : E.Nodup) (hr : ∀ k, k < n → nV c L k = decide (k ∈ E)) : ∀ k, k ≤ n → (bJ t c L p k).2 = (E.filter fun e => decide (e < k)).length
  | 0, _ => by
    rw [bJ]
    symm
    rw [List.length_eq_zero_iff, List.filter_eq_nil_iff]
    intro e _
    simp
  | k + 1, hk => by
    have ih := Ck (t := t) (p := p) hE hr k (by omega)
    rw [xO hE, bJ, hr k (by omega)]
    by_cases h : k ∈ E
    · rw [if_pos (decide_eq_true h), if_pos h, ← ih]
    · rw [if_neg (by simp [h]), if_neg h, ← ih]; rfl
theorem Jt {t : Nat} {d d' m' : List Nat} {E : List Nat} (ht : 1 ≤ t ∧ t ≤ 8) (hd : Small 256 d) (hdl : d.length ≤ 512) (hd' : Small 256 d') (hm' : Small 256 m') (hl : d'.length = d.length) (hml : m'.length = ay t)
    (hE : E.Nodup) (QS : ∀ e ∈ E, e < 13 * t + 8 * d.length) (U9 : E.length ≤ t) (hb : ∀ i, i < 13 * t + 8 * d.length → yU t d' m' i = (yU t d (fI t d) i ^^ decide (i ∈ E))) :
    lT t d' m' = some ((d, fI t d), E.length) := by
  have h8 : 13 * t ≤ 8 * ay t := by unfold ay; omega
  obtain ⟨p, hp⟩ : ∃ p : LL, p = (d', dM t m') := ⟨_, rfl⟩
  obtain ⟨s, hs⟩ : ∃ s, s = dQ t p := ⟨_, rfl⟩
  obtain ⟨n, hn⟩ : ∃ n, n = 13 * t + 8 * d.length := ⟨_, rfl⟩
  have Vj : n ≤ 4200 := by omega
  have Pz : (dM t m').length = ay t := by unfold dM; rw [iO, hml]
  have hp1 : p.1.length = d.length := by rw [hp]; exact hl
  have hp2 : p.2.length = ay t := by rw [hp]; exact Pz
  have hpb : ∀ i, i < n → yU t p.1 p.2 i = (yU t d (fI t d) i ^^ decide (i ∈ E)) := fun i hi => by
    rw [← hb i (by omega), hp]
    unfold yU
    split
    · rfl
    · rw [CK hm' hml, decide_eq_true (by omega), Bool.true_and]
  have hsl : s.length = 2 * t := by rw [hs]; exact wY
  have hss : Small 8192 s := by rw [hs]; exact qg
  have hS : He s E (npow 2) := by
    refine ⟨fun e _ => ⟨bg e, K6 e⟩, ?_, fun j hj => ?_⟩
    · refine List.Pairwise.imp_of_mem ?_ hE
      intro a b ha hb' hab h
      exact hab (Ky (by have := QS a ha; omega) (by have := QS b hb'; omega) h)
    · have hj2 : j < 2 * t := by omega
      have e1 : co s j = hor (yU t p.1 p.2) (bX ((j + 1 : Nat) : Int)) n 0 := by
        rw [hs]
        unfold co dQ kG
        rw [List.getD, List.getElem?_map, List.getElem?_range hj2, hp1, ← hn]
        rfl
      have hx := jJ ((j + 1 : Nat) : Int)
      have e2 := Jb ht hd hj2
      rw [zH _ _ (by decide), kI, Nat.zero_xor, ← hn] at e2
      rw [e1, zH _ _ (by decide), kI, Nat.zero_xor, jU n hpb, zx, e2, Nat.zero_xor, KV hx E hE (fun e he => by rw [hn]; exact QS e he)]
      refine oP (fun e _ => ?_)
      rw [Fu (by omega), ← nC (by decide), ← nC (by decide), Nat.mul_comm]
  have hI := FC hS hss s.length (Nat.le_refl _)
  obtain ⟨x, hx⟩ : ∃ x, x = gK s s.length := ⟨_, rfl⟩
  rw [← hx] at hI
  obtain ⟨c, hc⟩ : ∃ c, c = lU s := ⟨_, rfl⟩
  have hcx : x.c = c := by rw [hc, hx]; rfl
  obtain ⟨M, hM⟩ : ∃ M, M = mZ s := ⟨_, rfl⟩
  have Tf : M = aF c c.length := by rw [hM, hc]; rfl
  have hc0 : co c 0 = 1 := by rw [← hcx]; exact hI.c0
  have hcd : ∀ i, x.length < i → co c i = 0 := by rw [← hcx]; exact hI.cd
  have hc8 : ∀ i, co c i < 8192 := fun i => by rw [← hcx]; exact hI.ok.cs.at_ (by decide) i
  have hle := hI.le
  have hM0 : ∀ i, M ≤ i → co c i = 0 := fun i hi => by
    rcases Nat.lt_or_ge i c.length with h | h
    · exact oq c.length i (by omega) h
    · exact ru h
  have hM1 : 1 ≤ M := by
    rcases Nat.lt_or_ge M 1 with h | h
    · have := hM0 0 (by omega); rw [hc0] at this; exact absurd this (by decide)
    · exact h
  have U6 : M ≤ x.length + 1 := by
    rcases Nat.lt_or_ge (x.length + 1) M with h | h
    · exfalso
      have h1 := xS (xs := c) c.length (by rw [← Tf]; omega)
      rw [← Tf] at h1
      exact h1 (hcd _ (by omega))
    · exact h
  have hw := hS.weights (c := co c) hc8 hcd (fun j h1 h2 => by rw [← hcx]; exact hI.gen j h1 (by omega)) (by omega)
  have RS : ∀ e ∈ E, e < 8191 := fun e he => by have := QS e he; omega
  have hroot : ∀ e ∈ E, pe (co c) (bX (-(e : Int))) M = 0 := fun e he => by
    have h1 := Ov (bg (a := 2) e) (jJ (-(e : Int))) (Il (RS e he)) hc8 x.length
    rw [hw e he] at h1
    rcases q8 (Ez hc8 _) (bg _) h1.symm with h2 | h2
    · rw [show x.length + 1 = M + (x.length + 1 - M) by omega, I4 hM0] at h2
      exact h2
    · exact absurd h2 (yN (bg e) (K6 e) _)
  have Om : ∀ R : List Nat, R.Nodup → (∀ e ∈ R, e < 8191) → (∀ e ∈ R, pe (co c) (bX (-(e : Int))) M = 0) → R.length ≠ M := fun R h1 h2 h3 h4 => by
    have := LJ (c := co c) hc8 (R.map fun e => bX (-((e : Nat) : Int))) (fun r hr => by
      obtain ⟨e, he, rfl⟩ := List.mem_map.1 hr
      refine ⟨jJ _, ?_⟩
      rw [List.length_map, h4]; exact h3 e he) (by
      rw [List.pairwise_map]
      refine List.Pairwise.imp_of_mem ?_ h1
      intro a b ha hb' hab h
      exact hab (neg_inj (h2 a ha) (h2 b hb') h)) (by rw [List.length_map]; omega)
    rw [hc0] at this
    exact absurd this (by decide)
  have U4 : M = E.length + 1 := by
    rcases Nat.lt_or_ge E.length M with h | h
    · omega
    · exact absurd (by rw [List.length_take]; omega) (Om (E.take M) (hE.sublist (List.take_sublist _ _)) (fun e he => RS e (List.mem_of_mem_take he)) (fun e he => hroot e (List.mem_of_mem_take he)))
  have hrt : ∀ k, k < n → nV c M k = decide (k ∈ E) := fun k hk => by
    unfold nV
    apply decide_eq_decide.2
    rw [Gd (jJ _) hc8 M 0 (by decide), cu, Nat.zero_xor]
    constructor
    · intro h
      by_cases Tt : k ∈ E
      · exact Tt
      · exact absurd (by rw [List.length_cons, U4]) (Om (k :: E) (List.nodup_cons.2 ⟨Tt, hE⟩) (fun e he => by
          rcases List.mem_cons.1 he with rfl | he
          · omega
          · exact RS e he) (fun e he => by
          rcases List.mem_cons.1 he with rfl | he
          · exact h
          · exact hroot e he))
    · exact hroot k
  have hcnt : (bJ t c M p n).2 = E.length := by
    rw [Ck hE hrt n (Nat.le_refl _), List.filter_eq_self.2]
    intro e he
    exact decide_eq_true (by rw [hn]; exact QS e he)
  have OA : ∀ j, j < n → yU t (bJ t c M p n).1.1 (bJ t c M p n).1.2 j = yU t d (fI t d) j := fun j hj => by
    rw [zV (by omega) n (by omega), decide_eq_true hj, Bool.true_and, hrt j hj, hpb j hj, Bool.xor_assoc, Bool.xor_self, Bool.xor_false]
  obtain ⟨l1, l2⟩ := jd t c M p n
  have hsm : ∀ k, Small 256 (bJ t c M p k).1.1 ∧ Small 256 (bJ t c M p k).1.2 := fun k => by
    induction k with
    | zero => rw [bJ, hp]; exact ⟨hd', jv hm' _⟩
    | succ k ih =>
      rw [bJ]
      split
      · show Small 256 (iN t _ k).1 ∧ Small 256 (iN t _ k).2
        unfold iN
        split
        · exact ⟨jh ih.1 _, ih.2⟩
        · exact ⟨ih.1, jh ih.2 _⟩
      · exact ih
  have hhigh : ∀ k j, 13 * t ≤ j → aS (bJ t c M p k).1.2 j = false := fun k => by
    induction k with
    | zero => intro j hj; rw [bJ, hp]; show aS (dM t m') j = false; rw [CK hm' hml, decide_eq_false (by omega), Bool.false_and]
    | succ k ih =>
      intro j hj
      rw [bJ]
      split
      · show aS (iN t _ k).2 j = false
        have h6 := (jd t c M p k).2
        unfold iN
        split
        · exact ih j hj
        · rw [nU (by omega), ih j hj, decide_eq_false (by omega)]; rfl
      · exact ih j hj
  have hel := mq ht hd
  have hres : (bJ t c M p n).1 = (d, fI t d) := by
    apply Prod.ext
    · refine FB (by show (bJ t c M p n).1.1.length = d.length; omega) (hsm n).1 hd (fun k hk => ?_)
      have := OA (13 * t + k) (by omega)
      unfold yU at this
      rw [if_pos (by omega), if_pos (by omega), Nat.add_sub_cancel_left] at this
      exact this
    · refine FB (by show _ = (fI t d).length; omega) (hsm n).2 (tC ht hd) (fun k hk => ?_)
      by_cases h : k < 13 * t
      · have := OA k (by omega)
        unfold yU at this
        rw [if_neg (by omega), if_neg (by omega)] at this
        exact this
      · rw [hhigh n k (by omega)]
        exact (nL ht hd (by omega)).symm
  have hfull : bJ t c M p n = ((d, fI t d), E.length) := Prod.ext hres hcnt
  unfold lT
  rw [← hp, ← hs, ← hM, ← hc, hl, ← hn, hfull, if_neg (by omega), if_neg (fun h => h (by show E.length + 1 = M; omega)), if_neg]
  show ¬ 0 < ones (fH (dQ t (d, fI t d)))
  rw [AQ ht hd]
  unfold fH
  rw [List.map_replicate, show nz 0 = 0 from rfl, tN]
  decide
--END
end Go.Proofs.YtcmojpiokjhmhaaGreat
