import Derived.Test.YtcedojacbhnbiaaGreatP19
namespace Go.Proofs.YtcedojacbhnbiaaGreat
set_option linter.unusedVariables false
set_option linter.unusedSimpArgs false
set_option maxRecDepth 20000
--BEGIN
theorem zU (a b : Nat) : a ^^^ (a ^^^ b) = b := by rw [← Nat.xor_assoc, Nat.xor_self, Nat.zero_xor]
theorem nU {a b : Nat} (h : a ^^^ b = 0) : a = b := by
  have := zU a b
  rw [h, Nat.xor_zero] at this; exact this
theorem pV {f g : Nat → Nat} (hf : ∀ a b, a < 8192 → b < 8192 → f (a ^^^ b) = f a ^^^ f b) (hg : ∀ a b, a < 8192 → b < 8192 → g (a ^^^ b) = g a ^^^ g b)
    (h : ∀ i, i < 13 → f (2 ^ i) = g (2 ^ i)) : ∀ a, a < 8192 → f a = g a := by
  have h0 : ∀ {k : Nat → Nat}, (∀ a b, a < 8192 → b < 8192 → k (a ^^^ b) = k a ^^^ k b) → k 0 = 0 := fun {k} hk => by
    have := hk 0 0 (by decide) (by decide)
    rw [Nat.xor_self, Nat.xor_self] at this; exact this
  have key : ∀ n, n ≤ 13 → ∀ a, a < 2 ^ n → f a = g a := by
    intro n
    induction n with
    | zero => intro _ a ha; obtain rfl : a = 0 := by omega
              rw [h0 hf, h0 hg]
    | succ n ih =>
      intro hn a ha
      by_cases hb : a < 2 ^ n
      · exact ih (by omega) a hb
      · have hp : (2 : Nat) ^ (n + 1) ≤ 2 ^ 13 := Nat.pow_le_pow_right (by decide) hn
        have hp2 : (2 : Nat) ^ n ≤ 2 ^ 12 := Nat.pow_le_pow_right (by decide) (by omega)
        have e : a = 2 ^ n ^^^ (a - 2 ^ n) := by
          obtain ⟨c, hc⟩ : ∃ c, a = 2 ^ n + c := ⟨a - 2 ^ n, by omega⟩
          have hc2 : c < 2 ^ n := by rw [Nat.pow_succ] at ha; omega
          rw [hc, Nat.add_sub_cancel_left]
          apply Nat.eq_of_testBit_eq
          intro i
          rw [Nat.testBit_xor, Nat.testBit_two_pow]
          by_cases hi : n = i
          · subst hi
            rw [Nat.testBit_two_pow_add_eq, Nat.testBit_lt_two_pow hc2]; simp
          · rcases Nat.lt_or_ge i n with h1 | h1
            · rw [Nat.testBit_two_pow_add_gt h1]; simp [hi]
            · have h2 : 2 ^ (n + 1) ≤ 2 ^ i := Nat.pow_le_pow_right (by decide) (by omega)
              rw [Nat.testBit_lt_two_pow (by omega), Nat.testBit_lt_two_pow (by omega)]; simp [hi]
        have h1 : (2 : Nat) ^ n < 8192 := by omega
        have h2 : a - 2 ^ n < 8192 := by omega
        rw [e, hf _ _ h1 h2, hg _ _ h1 h2, h n (by omega), ih (by omega) (a - 2 ^ n) (by rw [Nat.pow_succ] at ha; omega)]
  exact key 13 (Nat.le_refl _)
def wK : Nat → Nat → Nat → Nat
  | 0, _, _ => 0
  | k + 1, a, b => (if b.testBit 0 then a else 0) ^^^ wK k (red (2 * a)) (b / 2)
theorem p9 : ∀ (k o a b : Nat), jD k o a b = o ^^^ wK k a b
  | 0, o, a, b => by rw [jD, wK, Nat.xor_zero]
  | k + 1, o, a, b => by
    have hz : ∀ (k a : Nat), wK k a 0 = 0 := by
      intro k
      induction k with
      | zero => intro a; rfl
      | succ k ih => intro a; rw [wK, Nat.zero_testBit, Nat.zero_div, ih]; simp
    rw [jD, wK, Nat.testBit_zero]
    by_cases hb : b = 0
    · subst hb
      rw [if_pos rfl, Nat.zero_div, hz]
      simp
    · rw [if_neg hb, p9 k]
      by_cases h : b % 2 = 1
      · rw [if_pos h, decide_eq_true h, if_pos rfl, Nat.xor_assoc]
      · rw [if_neg h, decide_eq_false h, if_neg Bool.false_ne_true, Nat.zero_xor]
theorem Fa : ∀ (k a b c : Nat), wK k a (b ^^^ c) = wK k a b ^^^ wK k a c
  | 0, _, _, _ => (Nat.xor_self 0).symm
  | k + 1, a, b, c => by
    have h1 : (b ^^^ c) / 2 = (b / 2) ^^^ (c / 2) := by
      have := Nat.shiftRight_xor_distrib (a := b) (b := c) (i := 1)
      simpa [Nat.shiftRight_eq_div_pow] using this
    rw [wK, wK, wK, h1, Fa k, DK, Nat.testBit_xor]
    congr 1
    cases b.testBit 0 <;> cases c.testBit 0 <;> simp
theorem bE (a b c : Nat) : aK a (b ^^^ c) = aK a b ^^^ aK a c := by
  unfold aK
  rw [p9, p9, p9, Fa, Nat.zero_xor, Nat.zero_xor, Nat.zero_xor]
theorem dw (a : Nat) : aK a 0 = 0 := by
  have h := bE a 0 0
  rwa [Nat.xor_self, Nat.xor_self] at h
theorem K5 : ((List.range 13).all fun i => (List.range 13).all fun j => Nat.beq (aK (2 ^ i) (2 ^ j)) (aK (2 ^ j) (2 ^ i))) = true := by kernel_rfl
theorem Jg : ((List.range 13).all fun i => (List.range 13).all fun j => (List.range 13).all fun k => Nat.beq (aK (aK (2 ^ i) (2 ^ j)) (2 ^ k)) (aK (2 ^ i) (aK (2 ^ j) (2 ^ k)))) = true := by kernel_rfl
theorem GR {i : Nat} (h : i < 13) : 2 ^ i < 8192 := by
  have : (2 : Nat) ^ i ≤ 2 ^ 12 := Nat.pow_le_pow_right (by decide) (by omega)
  omega
theorem d9 {a b : Nat} (ha : a < 8192) (hb : b < 8192) : aK a b = aK b a := by
  refine pV (f := fun a => aK a b) (g := fun a => aK b a) (fun x y hx hy => bZ b hx hy) (fun x y _ _ => bE b x y) (fun i hi => ?_) a ha
  refine pV (f := fun b => aK (2 ^ i) b) (g := fun b => aK b (2 ^ i)) (fun x y _ _ => bE _ x y) (fun x y hx hy => bZ _ hx hy) (fun j hj => ?_) b hb
  exact Nat.eq_of_beq_eq_true (List.all_eq_true.1 (List.all_eq_true.1 K5 i (List.mem_range.2 hi)) j (List.mem_range.2 hj))
theorem bG {a b c : Nat} (ha : a < 8192) (hb : b < 8192) (hc : c < 8192) : aK (aK a b) c = aK a (aK b c) := by
  refine pV (f := fun a => aK (aK a b) c) (g := fun a => aK a (aK b c)) (fun x y hx hy => by rw [bZ b hx hy, bZ c (aP hx) (aP hy)]) (fun x y hx hy => bZ _ hx hy) (fun i hi => ?_) a ha
  refine pV (f := fun b => aK (aK (2 ^ i) b) c) (g := fun b => aK (2 ^ i) (aK b c)) (fun x y hx hy => by rw [bE, bZ c (aP (GR hi)) (aP (GR hi))]) (fun x y hx hy => by rw [bZ c hx hy, bE]) (fun j hj => ?_) b hb
  refine pV (f := fun c => aK (aK (2 ^ i) (2 ^ j)) c) (g := fun c => aK (2 ^ i) (aK (2 ^ j) c)) (fun x y hx hy => bE _ _ _) (fun x y hx hy => by rw [bE, bE]) (fun k hk => ?_) c hc
  exact Nat.eq_of_beq_eq_true (List.all_eq_true.1 (List.all_eq_true.1 (List.all_eq_true.1 Jg i (List.mem_range.2 hi)) j (List.mem_range.2 hj)) k (List.mem_range.2 hk))
theorem dH {a : Nat} : aK a 1 = a := by
  unfold aK
  rw [jD, if_neg (by decide), if_pos (by decide), Nat.zero_xor]
  rfl
theorem mE {a : Nat} (h : a < 8192) : aK 1 a = a := by rw [d9 (by decide) h, dH]
def npow (a : Nat) : Nat → Nat
  | 0 => 1
  | n + 1 => aK (npow a n) a
theorem bf {a : Nat} : ∀ n, npow a n < 8192
  | 0 => (by decide : 1 < 8192)
  | n + 1 => aP (bf n)
theorem gL {a : Nat} (h : a < 8192) (m : Nat) : ∀ n, npow a (m + n) = aK (npow a m) (npow a n)
  | 0 => dH.symm
  | n + 1 => by rw [← Nat.add_assoc, npow, gL h m n, npow, bG (bf _) (bf _) h]
theorem oq {a : Nat} (h : a < 8192) : npow a 1 = a := by rw [npow, npow, mE h]
theorem mK {a : Nat} (h : a < 8192) (m : Nat) : ∀ n, npow a (m * n) = npow (npow a m) n
  | 0 => rfl
  | n + 1 => by rw [Nat.mul_succ, gL h, mK h m n, npow]
theorem Dr {a : Nat} (h : a < 8192) : npow a 2 = aK a a := by rw [npow, oq h]
theorem rG : ∀ (k o a n : Nat), n < 2 ^ k → o < 8192 → a < 8192 → qK k o a n = aK o (npow a n)
  | 0, o, a, n, hn, ho, ha => by
    obtain rfl : n = 0 := by omega
    rw [qK, npow, dH]
  | k + 1, o, a, n, hn, ho, ha => by
    rw [qK]
    by_cases h : n = 0
    · subst h; rw [if_pos rfl, npow, dH]
    · rw [if_neg h]
      have hn2 : n / 2 < 2 ^ k := by rw [Nat.pow_succ] at hn; omega
      have h2 : npow (aK a a) (n / 2) = npow a (2 * (n / 2)) := by rw [mK ha, Dr ha]
      by_cases h1 : n % 2 = 1
      · rw [if_pos h1, rG k _ _ _ hn2 (aP ho) (aP ha), h2, bG ho ha (bf _)]
        congr 1
        have h3 : n = 1 + 2 * (n / 2) := by omega
        have h4 := gL ha 1 (2 * (n / 2))
        rw [← h3, oq ha] at h4
        exact h4.symm
      · rw [if_neg h1, rG k _ _ _ hn2 ho (aP ha), h2]
        have h3 : n = 2 * (n / 2) := by omega
        rw [← h3]
theorem vE {a n : Nat} (ha : a < 8192) (hn : n < 8192) : Dv a n = npow a n := by
  unfold Dv
  rw [rG 13 1 a n hn (by decide) ha, mE (bf _)]
theorem Ny {a b : Nat} (ha : a < 8192) (hb : b < 8192) : aK (a ^^^ b) (a ^^^ b) = aK a a ^^^ aK b b := by
  rw [bE, bZ a ha hb, bZ b ha hb, d9 hb ha, DK, Nat.xor_comm (aK a b) (aK b b), ← DK, Nat.xor_assoc, Nat.xor_self, Nat.xor_zero]
def yR : Nat → Nat → Nat
  | 0, a => a
  | n + 1, a => yR n (aK a a)
theorem DU : ∀ n a b, a < 8192 → b < 8192 → yR n (a ^^^ b) = yR n a ^^^ yR n b
  | 0, _, _, _, _ => rfl
  | n + 1, a, b, ha, hb => by rw [yR, yR, yR, Ny ha hb]; exact DU n _ _ (aP ha) (aP hb)
theorem AJ : ∀ n a, a < 8192 → yR n a = npow a (2 ^ n)
  | 0, a, h => (oq h).symm
  | n + 1, a, h => by rw [yR, AJ n _ (aP h), ← Dr h, ← mK h, Nat.pow_succ, Nat.mul_comm]
theorem LX : ((List.range 13).all fun i => Nat.beq (yR 13 (2 ^ i)) (2 ^ i)) = true := by kernel_rfl
theorem Ah {a : Nat} (h : a < 8192) : npow a 8192 = a := by
  have h1 := AJ 13 a h
  have h2 := pV (f := yR 13) (g := fun a => a) (fun x y hx hy => DU 13 x y hx hy) (fun x y _ _ => rfl) (fun i hi => Nat.eq_of_beq_eq_true (List.all_eq_true.1 LX i (List.mem_range.2 hi))) a h
  rw [h2] at h1
  exact h1.symm
theorem LB : ((List.range 8192).all fun e => !(Nat.beq (aK e e) e) || Nat.ble e 1) = true := by kernel_rfl
theorem vC {a : Nat} (h : a < 8192) (h0 : a ≠ 0) : npow a 8191 = 1 := by
  have h1 : aK (npow a 8191) (npow a 8191) = npow a 8191 := by
    have e : npow a (8191 + 8191) = npow a 8191 := by
      rw [show 8191 + 8191 = 8192 + 8190 from rfl, gL h, Ah h]
      have e2 := gL h 1 8190
      rw [oq h] at e2
      exact e2.symm
    rw [gL h] at e; exact e
  have h2 := List.all_eq_true.1 LB (npow a 8191) (List.mem_range.2 (bf _))
  rw [h1, show Nat.beq (npow a 8191) (npow a 8191) = true from Nat.beq_refl _, Bool.not_true, Bool.false_or] at h2
  have h3 := Nat.le_of_ble_eq_true h2
  rcases Nat.lt_or_ge (npow a 8191) 1 with h4 | h4
  · exfalso
    apply h0
    have e := Ah h
    rw [show 8192 = 8191 + 1 from rfl, gL h, show npow a 8191 = 0 by omega, bV] at e
    exact e.symm
  · omega
theorem ET {a : Nat} (h : a < 8192) (h0 : a ≠ 0) : aK a (BI a) = 1 := by
  have e := gL h 1 8190
  rw [oq h, show 1 + 8190 = 8191 from rfl, vC h h0] at e
  unfold BI
  rw [vE h (by decide)]
  exact e.symm
theorem uF {a : Nat} (h : a < 8192) : BI a < 8192 := Bz h
theorem qg {a b : Nat} (ha : a < 8192) (hb : b < 8192) (h : aK a b = 0) : a = 0 ∨ b = 0 := by
  by_cases h0 : a = 0
  · exact .inl h0
  · right
    have h1 := ET ha h0
    have h2 : aK (aK a (BI a)) b = 0 := by
      rw [bG ha (uF ha) hb, d9 (uF ha) hb, ← bG ha hb (uF ha), h, bV]
    rw [h1, mE hb] at h2
    exact h2
--END
--BEGIN
def jE (f : Nat → Nat) : List Nat → Nat
  | [] => 0
  | e :: E => f e ^^^ jE f E
theorem nL {f g : Nat → Nat} : ∀ {E : List Nat}, (∀ e ∈ E, f e = g e) → jE f E = jE g E
  | [], _ => rfl
  | e :: E, h => by rw [jE, jE, h e (.head _), nL fun x hx => h x (.tail _ hx)]
theorem xL (f g : Nat → Nat) : ∀ E : List Nat, jE (fun e => f e ^^^ g e) E = jE f E ^^^ jE g E
  | [] => (Nat.xor_self 0).symm
  | e :: E => by rw [jE, jE, jE, xL f g E, DK]
theorem uE (a : Nat) (f : Nat → Nat) : ∀ E : List Nat, aK a (jE f E) = jE (fun e => aK a (f e)) E
  | [] => dw a
  | e :: E => by rw [jE, jE, bE, uE a f E]
theorem uI {f : Nat → Nat} : ∀ {E : List Nat}, (∀ e ∈ E, f e = 0) → jE f E = 0
  | [], _ => rfl
  | e :: E, h => by rw [jE, h e (.head _), uI fun x hx => h x (.tail _ hx)]; rfl
theorem zi {a b c : Nat} (ha : a < 8192) (hb : b < 8192) (hc : c < 8192) : aK (aK a b) c = aK (aK a c) b := by
  rw [bG ha hb hc, d9 hb hc, ← bG ha hc hb]
theorem wT {a : Nat} (h : a < 8192) (h0 : a ≠ 0) : ∀ n, npow a n ≠ 0
  | 0 => (by decide : (1 : Nat) ≠ 0)
  | n + 1 => fun hz => by
    rcases qg (bf n) h hz with h1 | h1
    · exact wT h h0 n h1
    · exact h0 h1
theorem KL : ∀ (E : List Nat) (X Y : Nat → Nat), (∀ e ∈ E, X e < 8192 ∧ X e ≠ 0 ∧ Y e < 8192) → E.Pairwise (fun a b => X a ≠ X b) → ∀ j0,
    (∀ j, j0 ≤ j → j < j0 + E.length → jE (fun e => aK (Y e) (npow (X e) j)) E = 0) → ∀ e ∈ E, Y e = 0
  | [], _, _, _, _, _, _, e, he => by cases he
  | x :: E, X, Y, hX, hp, j0, hs, e, he => by
    have hx := hX x (.head _)
    have hE : ∀ e ∈ E, X e < 8192 ∧ X e ≠ 0 ∧ Y e < 8192 := fun e he => hX e (.tail _ he)
    have hpx := List.pairwise_cons.1 hp
    have key := KL E X (fun e => aK (Y e) (X e ^^^ X x)) (fun e he => ⟨(hE e he).1, (hE e he).2.1, aP (hE e he).2.2⟩) hpx.2 j0 (fun j h1 h2 => by
      have e1 := hs j h1 (by rw [List.length_cons]; omega)
      have e2 := hs (j + 1) (by omega) (by rw [List.length_cons]; omega)
      have e3 : aK (X x) (jE (fun e => aK (Y e) (npow (X e) j)) (x :: E)) = 0 := by rw [e1, dw]
      rw [uE] at e3
      have e4 : jE (fun e => aK (Y e) (npow (X e) (j + 1)) ^^^ aK (X x) (aK (Y e) (npow (X e) j))) (x :: E) = 0 := by rw [xL, e2, e3]; rfl
      have e5 : ∀ e ∈ x :: E, (aK (Y e) (npow (X e) (j + 1)) ^^^ aK (X x) (aK (Y e) (npow (X e) j))) = aK (aK (Y e) (X e ^^^ X x)) (npow (X e) j) := fun e he => by
        obtain ⟨k1, k2, k3⟩ := hX e he
        rw [bE, bZ _ (aP k3) (aP k3), npow, d9 hx.1 (aP k3), zi k3 (bf _) hx.1, zi k3 k1 (bf _), bG k3 (bf _) k1]
      rw [nL e5, jE, Nat.xor_self, dw, bV, Nat.zero_xor] at e4
      exact e4)
    have hY : ∀ e ∈ E, Y e = 0 := fun e he => by
      obtain ⟨k1, k2, k3⟩ := hE e he
      rcases qg k3 (cB (k := 13) k1 hx.1) (key e he) with h | h
      · exact h
      · exact absurd (nU h).symm (hpx.1 e he)
    rcases List.mem_cons.1 he with rfl | he
    · have e1 := hs j0 (Nat.le_refl _) (by rw [List.length_cons]; omega)
      rw [jE, uI (fun e he => by rw [hY e he, bV]), Nat.xor_zero] at e1
      rcases qg hx.2.2 (bf _) e1 with h | h
      · exact h
      · exact absurd h (wT hx.1 hx.2.1 _)
    · exact hY e he
def pv : List Nat → Nat → Nat
  | [], _ => 0
  | c :: l, x => c ^^^ aK (pv l x) x
def quo (a : Nat) : List Nat → List Nat
  | [] => []
  | [_] => []
  | _ :: d :: l => pv (d :: l) a :: quo a (d :: l)
theorem yx (a : Nat) : ∀ l : List Nat, (quo a l).length = l.length - 1
  | [] => rfl
  | [_] => rfl
  | _ :: d :: l => by rw [quo, List.length_cons, yx a (d :: l)]; simp
theorem Ac {x : Nat} : ∀ {l : List Nat}, (∀ c ∈ l, c < 8192) → pv l x < 8192
  | [], _ => (by decide : 0 < 8192)
  | c :: l, h => cB (k := 13) (h c (.head _)) (aP (Ac fun y hy => h y (.tail _ hy)))
theorem qz {a : Nat} : ∀ {l : List Nat}, (∀ c ∈ l, c < 8192) → ∀ c ∈ quo a l, c < 8192
  | [], _, c, hc => by cases hc
  | [_], _, c, hc => by cases hc
  | _ :: d :: l, h, c, hc => by
    rw [quo] at hc
    rcases List.mem_cons.1 hc with rfl | hc
    · exact Ac fun y hy => h y (.tail _ hy)
    · exact qz (fun y hy => h y (.tail _ hy)) c hc
theorem FB {a x : Nat} (ha : a < 8192) (hx : x < 8192) : ∀ {l : List Nat}, (∀ c ∈ l, c < 8192) → pv l x = pv l a ^^^ aK (pv (quo a l) x) (x ^^^ a)
  | [], _ => by show 0 = 0 ^^^ aK 0 _; rw [bV]; rfl
  | [c], _ => by show c ^^^ aK 0 x = (c ^^^ aK 0 a) ^^^ aK 0 _; rw [bV, bV, bV]; simp
  | c :: d :: l, h => by
    have h' : ∀ y ∈ d :: l, y < 8192 := fun y hy => h y (.tail _ hy)
    have ih := FB ha hx h'
    have l1 := Ac (x := x) h'
    have l2 := Ac (x := a) h'
    have l3 := Ac (x := x) (qz (a := a) h')
    have hxa : x ^^^ a < 8192 := cB (k := 13) hx ha
    show c ^^^ aK (pv (d :: l) x) x = (c ^^^ aK (pv (d :: l) a) a) ^^^ aK (pv (d :: l) a ^^^ aK (pv (quo a (d :: l)) x) x) (x ^^^ a)
    rw [bZ _ l2 (aP l3), bE (pv (d :: l) a), zi l3 hx hxa, ih, bZ _ l2 (aP l3)]
    rw [Nat.xor_assoc]
    congr 1
    rw [← Nat.xor_assoc, ← Nat.xor_assoc, Nat.xor_comm (aK (pv (d :: l) a) a), Nat.xor_assoc (aK (pv (d :: l) a) x), Nat.xor_self, Nat.xor_zero]
theorem E5 : ∀ (R l : List Nat), l.length = R.length → (∀ c ∈ l, c < 8192) → (∀ r ∈ R, r < 8192 ∧ pv l r = 0) → R.Pairwise (· ≠ ·) → ∀ x, x < 8192 → pv l x = 0
  | [], [], _, _, _, _, _, _ => rfl
  | a :: R, l, hl, hs, hr, hp, x, hx => by
    have ha := hr a (.head _)
    have hpx := List.pairwise_cons.1 hp
    have key := E5 R (quo a l) (by rw [yx, hl]; simp) (qz hs) (fun r hr' => by
      have h1 := hr r (.tail _ hr')
      refine ⟨h1.1, ?_⟩
      have h2 := FB ha.1 h1.1 hs
      rw [h1.2, ha.2, Nat.zero_xor] at h2
      rcases qg (Ac (qz hs)) (cB (k := 13) h1.1 ha.1) h2.symm with h3 | h3
      · exact h3
      · exact absurd (nU h3).symm (hpx.1 r hr')) hpx.2 x hx
    rw [FB ha.1 hx hs, ha.2, key, bV]; rfl
def pe (c : Nat → Nat) (x : Nat) : Nat → Nat
  | 0 => 0
  | k + 1 => pe c x k ^^^ aK (c k) (npow x k)
theorem Ec {c : Nat → Nat} {x : Nat} (hc : ∀ i, c i < 8192) : ∀ k, pe c x k < 8192
  | 0 => (by decide : 0 < 8192)
  | k + 1 => cB (k := 13) (Ec hc k) (aP (hc k))
theorem zJ {c : Nat → Nat} {x : Nat} (hx : x < 8192) (hc : ∀ i, c i < 8192) : ∀ k, pe c x (k + 1) = c 0 ^^^ aK (pe (fun i => c (i + 1)) x k) x
  | 0 => by rw [pe, pe, pe, npow, dH, bV, Nat.zero_xor, Nat.xor_zero]
  | k + 1 => by
    rw [pe, zJ hx hc k, pe, bZ _ (Ec (fun i => hc (i + 1)) k) (aP (hc (k + 1))), npow, ← bG (hc _) (bf _) hx, Nat.xor_assoc]
theorem KA {x : Nat} (hx : x < 8192) : ∀ k (c : Nat → Nat), (∀ i, c i < 8192) → pe c x k = pv ((List.range k).map c) x
  | 0, _, _ => rfl
  | k + 1, c, hc => by
    rw [zJ hx hc k, KA hx k _ (fun i => hc (i + 1)), List.range_succ_eq_map, List.map_cons, pv, List.map_map]
    rfl
theorem J9 {c : Nat → Nat} (hc : ∀ i, c i < 8192) (R : List Nat) (hr : ∀ r ∈ R, r < 8192 ∧ pe c r R.length = 0) (hp : R.Pairwise (· ≠ ·)) (h0 : 0 < R.length) : c 0 = 0 := by
  have h := E5 R ((List.range R.length).map c) (by simp) (fun x hx => by obtain ⟨i, _, rfl⟩ := List.mem_map.1 hx; exact hc i) (fun r h1 => ⟨(hr r h1).1, by rw [← KA (hr r h1).1 _ c hc]; exact (hr r h1).2⟩) hp 0 (by decide)
  rw [← KA (by decide) _ c hc] at h
  obtain ⟨k, hk⟩ : ∃ k, R.length = k + 1 := ⟨R.length - 1, by omega⟩
  rw [hk, zJ (by decide) hc, dw, Nat.xor_zero] at h
  exact h
def yw (c : Nat → Nat) (x : Nat) : Nat → Nat
  | 0 => c 0
  | k + 1 => aK (yw c x k) x ^^^ c (k + 1)
theorem GA {c : Nat → Nat} {x : Nat} (hc : ∀ i, c i < 8192) : ∀ k, yw c x k < 8192
  | 0 => hc 0
  | k + 1 => cB (k := 13) (aP (GA hc k)) (hc (k + 1))
theorem M7 {c : Nat → Nat} {x y : Nat} (hx : x < 8192) (hy : y < 8192) (hxy : aK x y = 1) (hc : ∀ i, c i < 8192) : ∀ k, yw c x k = aK (pe c y (k + 1)) (npow x k)
  | 0 => by rw [yw, pe, pe, npow, npow, dH, dH, Nat.zero_xor]
  | k + 1 => by
    have hp : ∀ n, aK (npow x n) (npow y n) = 1 := by
      intro n
      induction n with
      | zero => exact dH
      | succ n ih =>
        rw [npow, npow, bG (bf _) hx (aP (bf _)), ← bG hx (bf _) hy, d9 hx (bf _), bG (bf _) hx hy, hxy, dH]
        exact ih
    show aK (yw c x k) x ^^^ c (k + 1) = aK (pe c y (k + 1) ^^^ aK (c (k + 1)) (npow y (k + 1))) (npow x (k + 1))
    rw [M7 hx hy hxy hc k, bZ _ (Ec hc _) (aP (hc _)), bG (hc _) (bf _) (bf _), d9 (bf (a := y) _) (bf _), hp, dH, bG (Ec hc _) (bf _) hx]
    rfl
theorem Fe {c : List Nat} {x : Nat} (hx : x < 8192) (hc : ∀ i, c.getD i 0 < 8192) : ∀ k v, v < 8192 → qV c x k v = aK v (npow x k) ^^^ pe (fun i => c.getD i 0) x k
  | 0, v, hv => by rw [qV, npow, dH, pe, Nat.xor_zero]
  | k + 1, v, hv => by
    rw [qV, Fe hx hc k _ (cB (k := 13) (aP hv) (hc k)), bZ _ (aP hv) (hc k), pe, Nat.xor_assoc, Nat.xor_comm (pe _ _ _), npow, bG hv hx (bf _), d9 hx (bf _)]
--END
--BEGIN
def gI (c s : Nat → Nat) (j : Nat) : Nat → Nat
  | 0 => aK (c 0) (s j)
  | k + 1 => gI c s j k ^^^ aK (c (k + 1)) (s (j - (k + 1)))
abbrev cv (c s : Nat → Nat) (j : Nat) : Nat := gI c s j j
theorem Bp {c s : Nat → Nat} {j m : Nat} (h : ∀ i, m < i → c i = 0) : ∀ k, gI c s j (m + k) = gI c s j m
  | 0 => rfl
  | k + 1 => by rw [← Nat.add_assoc, gI, Bp h k, h _ (by omega), bV, Nat.xor_zero]
theorem rT {c s : Nat → Nat} {j m n : Nat} (h : ∀ i, m < i → c i = 0) (hn : m ≤ n) : gI c s j n = gI c s j m := by
  have := Bp (s := s) (j := j) h (n - m)
  rwa [Nat.add_sub_cancel' hn] at this
theorem EZ {c b s : Nat → Nat} {j : Nat} (hc : ∀ i, c i < 8192) (hb : ∀ i, b i < 8192) : ∀ k, gI (fun i => c i ^^^ b i) s j k = gI c s j k ^^^ gI b s j k
  | 0 => bZ _ (hc 0) (hb 0)
  | k + 1 => by rw [gI, gI, gI, EZ hc hb k, bZ _ (hc _) (hb _), DK]
theorem Ba {c s : Nat → Nat} {j : Nat} : ∀ k, (∀ i, i ≤ k → c i = 0) → gI c s j k = 0
  | 0, h => by rw [gI, h 0 (Nat.le_refl _), bV]
  | k + 1, h => by rw [gI, Ba k (fun i hi => h i (by omega)), h _ (Nat.le_refl _), bV]; rfl
def fG (b : Nat → Nat) (q sh : Nat) (i : Nat) : Nat := if sh ≤ i then aK q (b (i - sh)) else 0
theorem Il {b : Nat → Nat} {q sh : Nat} (hq : q < 8192) (i : Nat) : fG b q sh i < 8192 := by
  unfold fG; split
  · exact aP hq
  · decide
theorem EB {b s : Nat → Nat} {q sh j : Nat} (hq : q < 8192) (hb : ∀ i, b i < 8192) (hs : ∀ i, s i < 8192) (hj : sh ≤ j) : ∀ k, gI (fG b q sh) s j (sh + k) = aK q (gI b s (j - sh) k)
  | 0 => by
    have h1 : gI (fG b q sh) s j sh = aK (aK q (b 0)) (s (j - sh)) := by
      cases sh with
      | zero => rfl
      | succ n =>
        rw [gI, Ba n (fun i hi => by unfold fG; rw [if_neg (by omega)]), Nat.zero_xor]
        unfold fG; rw [if_pos (Nat.le_refl _), Nat.sub_self]
    rw [Nat.add_zero, h1, gI, bG hq (hb 0) (hs _)]
  | k + 1 => by
    rw [← Nat.add_assoc, gI, EB hq hb hs hj k, gI, bE]
    congr 1
    rw [show fG b q sh (sh + k + 1) = aK q (b (k + 1)) by unfold fG; rw [if_pos (by omega)]; congr 2; omega, bG hq (hb _) (hs _), show j - (sh + k + 1) = j - sh - (k + 1) by omega]
theorem NA {b s : Nat → Nat} {q sh j : Nat} (hq : q < 8192) (hb : ∀ i, b i < 8192) (hs : ∀ i, s i < 8192) (hj : sh ≤ j) : cv (fG b q sh) s j = aK q (cv b s (j - sh)) := by
  have := EB (s := s) hq hb hs hj (j - sh)
  rwa [Nat.add_sub_cancel' hj] at this
abbrev co (l : List Nat) (i : Nat) : Nat := l.getD i 0
theorem qp {l : List Nat} {i : Nat} (h : l.length ≤ i) : co l i = 0 := by unfold co; rw [List.getD, List.getElem?_eq_none h]; rfl
theorem Di {s c : List Nat} {n : Nat} (h0 : co c 0 = 1) (hs : ∀ i, co s i < 8192) : ∀ k, o7 s c n k = gI (co c) (co s) n k
  | 0 => by rw [o7, gI, h0, mE (hs n)]
  | k + 1 => by rw [o7, gI, Di h0 hs k]
theorem Eb {c b : List Nat} {q sh : Nat} : ∀ k, k + sh ≤ c.length → k ≤ b.length → ∀ i, co (jG c b q sh k) i = if i < k + sh then co c i ^^^ fG (co b) q sh i else co c i
  | 0, _, _, i => by
    rw [jG]
    split
    · unfold fG; rw [if_neg (by omega), Nat.xor_zero]
    · rfl
  | k + 1, h1, h2, i => by
    have ih := Eb (c := c) (b := b) (q := q) (sh := sh) k (by omega) (by omega)
    rw [jG]
    show ((jG c b q sh k).set (k + sh) _).getD i 0 = _
    rw [kL]
    by_cases h : k + sh = i
    · subst h
      rw [if_pos ⟨rfl, by rw [jX]; omega⟩, if_pos (by omega)]
      have e := ih (k + sh)
      rw [if_neg (by omega)] at e
      rw [show (jG c b q sh k).getD (k + sh) 0 = co c (k + sh) from e]
      unfold fG
      rw [if_pos (by omega), Nat.add_sub_cancel]
    · rw [if_neg (fun hh => h hh.1)]
      have e := ih i
      show co (jG c b q sh k) i = _
      rw [e]
      by_cases h3 : i < k + sh
      · rw [if_pos h3, if_pos (by omega)]
      · rw [if_neg h3, if_neg (by omega)]
theorem NK {x : BM} {d : Nat} (i : Nat) : co (CW x d) i = co x.c i ^^^ fG (co x.b) (aK d (BI x.last)) x.shift i := by
  unfold CW
  rw [Eb _ (by rw [nI]; omega) (Nat.le_refl _)]
  have he : co (jK x) i = co x.c i := by
    unfold jK
    by_cases h : i < x.c.length
    · unfold co; simp [List.getD, List.getElem?_append_left h]
    · rw [qp (l := x.c) (by omega)]
      unfold co
      rw [List.getD, List.getElem?_append_right (by omega), List.getElem?_replicate]
      split <;> rfl
  rw [he]
  split
  · rfl
  · unfold fG
    split
    · rw [show co x.b (i - x.shift) = 0 from qp (by omega), dw, Nat.xor_zero]
    · rw [Nat.xor_zero]
structure BM.Inv (s : List Nat) (v n : Nat) (x : BM) : Prop where
  ok : x.Ok n
  c0 : co x.c 0 = 1
  cd : ∀ i, x.length < i → co x.c i = 0
  gen : ∀ j, x.length ≤ j → j < n → cv (co x.c) (co s) j = 0
  sh : 1 ≤ x.shift
  le : x.length ≤ v
  old : (x.length = 0 ∧ x.b = [1] ∧ x.last = 1 ∧ x.shift = n + 1) ∨ ∃ p lb, p + x.shift = n ∧ lb + x.length = p + 1 ∧ 1 ≤ x.length ∧ (∀ i, lb < i → co x.b i = 0) ∧ (∀ j, lb ≤ j → j < p → cv (co x.b) (co s) j = 0) ∧ cv (co x.b) (co s) p = x.last
theorem BM.Inv.d {s : List Nat} {v n : Nat} {x : BM} (h : x.Inv s v n) (hs : Small 8192 s) : zO s n x = cv (co x.c) (co s) n := by
  unfold zO
  rw [Di h.c0 (fun i => hs.at_ (by decide) i)]
  have h1 := h.ok.l
  have h2 := h.ok.c1
  refine (rT (fun i hi => ?_) (by omega)).symm
  rcases Nat.lt_or_ge i x.c.length with h3 | h3
  · exact h.cd i (by omega)
  · exact qp h3
theorem BM.Inv.next {s : List Nat} {v n : Nat} {x : BM} (h : x.Inv s v n) (hs : Small 8192 s) (hd : zO s n x ≠ 0) {l : Nat} (hl : x.length ≤ l) (hl2 : n + 1 - x.length ≤ l) :
    co (CW x (zO s n x)) 0 = 1 ∧ (∀ i, l < i → co (CW x (zO s n x)) i = 0) ∧ ∀ j, l ≤ j → j < n + 1 → cv (co (CW x (zO s n x))) (co s) j = 0 := by
  have Gr : zO s n x < 8192 := oh hs h.ok.cs _
  obtain ⟨q, hq⟩ : ∃ q, q = aK (zO s n x) (BI x.last) := ⟨_, rfl⟩
  have hq8 : q < 8192 := by rw [hq]; exact aP Gr
  have hco : ∀ i, co (CW x (zO s n x)) i = co x.c i ^^^ fG (co x.b) q x.shift i := fun i => by rw [hq]; exact NK i
  have hc8 : ∀ i, co x.c i < 8192 := fun i => h.ok.cs.at_ (by decide) i
  have Pq : ∀ i, co x.b i < 8192 := fun i => h.ok.bs.at_ (by decide) i
  have Ni : ∀ i, co s i < 8192 := fun i => hs.at_ (by decide) i
  have hsh := h.sh
  have hln := h.ok.l
  have hcv : ∀ j, cv (co (CW x (zO s n x))) (co s) j = cv (co x.c) (co s) j ^^^ cv (fG (co x.b) q x.shift) (co s) j := fun j => by
    rw [show co (CW x (zO s n x)) = fun i => co x.c i ^^^ fG (co x.b) q x.shift i from funext hco]
    exact EZ hc8 (Il hq8) j
  have zN : aK q x.last = zO s n x := by
    rw [hq, bG Gr (uF h.ok.la) h.ok.la, d9 (uF h.ok.la) h.ok.la, ET h.ok.la h.ok.l0, dH]
  refine ⟨?_, ?_, ?_⟩
  · rw [hco, h.c0]; unfold fG; rw [if_neg (by omega), Nat.xor_zero]
  · intro i hi
    rw [hco, h.cd i (by omega), Nat.zero_xor]
    unfold fG
    split
    · rcases h.old with ⟨k1, k2, k3, k4⟩ | ⟨p, lb, k1, k2, k3, k4, k5, k6⟩
      · rw [qp (l := x.b) (by rw [k2]; simp; omega), dw]
      · rw [k4 _ (by omega), dw]
    · rfl
  · intro j hj1 hj2
    rw [hcv]
    rcases h.old with ⟨k1, k2, k3, k4⟩ | ⟨p, lb, k1, k2, k3, k4, k5, k6⟩
    · omega
    · rw [NA hq8 Pq Ni (by omega)]
      by_cases hjn : j = n
      · subst hjn
        rw [show j - x.shift = p by omega, k6, zN, h.d hs, Nat.xor_self]
      · rw [h.gen j (by omega) (by omega), k5 _ (by omega) (by omega), dw]; rfl
structure Gp (s : List Nat) (E : List Nat) (X : Nat → Nat) : Prop where
  x : ∀ e ∈ E, X e < 8192 ∧ X e ≠ 0
  p : E.Pairwise (fun a b => X a ≠ X b)
  s : ∀ j, j < s.length → co s j = jE (fun e => npow (X e) (j + 1)) E
theorem Gp.cv {s E : List Nat} {X : Nat → Nat} (h : Gp s E X) {c : Nat → Nat} (hc : ∀ i, c i < 8192) {j : Nat} (hj : j < s.length) : ∀ l, l ≤ j → gI c (co s) j l = jE (fun e => aK (yw c (X e) l) (npow (X e) (j + 1 - l))) E
  | 0, _ => by rw [gI, h.s j hj, uE]; rfl
  | l + 1, hl => by
    rw [gI, h.cv hc hj l (by omega), h.s _ (by omega), uE, ← xL]
    refine nL (fun e he => ?_)
    obtain ⟨k1, k2⟩ := h.x e he
    rw [yw, bZ _ (aP (GA hc l)) (hc _), show j + 1 - l = j - l + 1 by omega, show j - (l + 1) + 1 = j - l by omega, show j + 1 - (l + 1) = j - l by omega, npow, d9 (bf _) k1, ← bG (GA hc l) k1 (bf _)]
theorem Gp.weights {s E : List Nat} {X : Nat → Nat} (h : Gp s E X) {c : Nat → Nat} (hc : ∀ i, c i < 8192) {l : Nat} (hd : ∀ i, l < i → c i = 0) (hgen : ∀ j, l ≤ j → j < l + E.length → Proofs.YtcedojacbhnbiaaGreat.cv c (co s) j = 0) (hl : l + E.length ≤ s.length) :
    ∀ e ∈ E, yw c (X e) l = 0 := by
  refine KL E X (fun e => yw c (X e) l) (fun e he => ⟨(h.x e he).1, (h.x e he).2, GA hc l⟩) h.p 1 (fun i h1 h2 => ?_)
  have e1 := hgen (l + i - 1) (by omega) (by omega)
  have e2 : gI c (co s) (l + i - 1) (l + i - 1) = gI c (co s) (l + i - 1) l := rT hd (by omega)
  rw [show Proofs.YtcedojacbhnbiaaGreat.cv c (co s) (l + i - 1) = gI c (co s) (l + i - 1) (l + i - 1) from rfl, e2, h.cv hc (by omega) l (by omega)] at e1
  rw [show l + i - 1 + 1 - l = i by omega] at e1
  exact e1
theorem Fx {s E : List Nat} {X : Nat → Nat} (hS : Gp s E X) (hs : Small 8192 s) {n : Nat} {x : BM} (hn : n < s.length) (h : x.Inv s E.length n) : (oM s n x).Inv s E.length (n + 1) := by
  have hok := Am hs h.ok
  have hln := h.ok.l
  have hsh := h.sh
  have hle := h.le
  have hc8 : ∀ i, co x.c i < 8192 := fun i => h.ok.cs.at_ (by decide) i
  unfold oM at hok ⊢
  by_cases h0 : zO s n x = 0
  · rw [if_pos h0] at hok ⊢
    refine ⟨hok, h.c0, h.cd, fun j h1 h2 => ?_, by show 1 ≤ x.shift + 1; omega, h.le, ?_⟩
    · by_cases hjn : j = n
      · subst hjn; rw [← h0]; exact (h.d hs).symm
      · exact h.gen j h1 (by omega)
    · rcases h.old with ⟨k1, k2, k3, k4⟩ | ⟨p, lb, k1, k2, k3, k4, k5, k6⟩
      · exact .inl ⟨k1, k2, k3, by show x.shift + 1 = n + 1 + 1; omega⟩
      · exact .inr ⟨p, lb, by show p + (x.shift + 1) = n + 1; omega, k2, k3, k4, k5, k6⟩
  · rw [if_neg h0] at hok ⊢
    by_cases h2 : 2 * x.length ≤ n
    · rw [if_pos h2] at hok ⊢
      obtain ⟨k1, k2, k3⟩ := h.next hs h0 (l := n + 1 - x.length) (by omega) (Nat.le_refl _)
      have hlen : n + 1 - x.length ≤ E.length := by
        rcases Nat.lt_or_ge E.length (n + 1 - x.length) with hh | hh
        · exfalso
          have hw := hS.weights hc8 h.cd (fun j h1 h2 => h.gen j h1 (by omega)) (by omega)
          apply h0
          rw [h.d hs]
          have e2 : gI (co x.c) (co s) n n = gI (co x.c) (co s) n x.length := rT h.cd (by omega)
          show gI (co x.c) (co s) n n = 0
          rw [e2, hS.cv hc8 hn _ (by omega)]
          exact uI (fun e he => by rw [hw e he, bV])
        · exact hh
      refine ⟨hok, k1, k2, k3, Nat.le_refl 1, hlen, .inr ⟨n, x.length, rfl, by show x.length + (n + 1 - x.length) = n + 1; omega, by show 1 ≤ n + 1 - x.length; omega, h.cd, h.gen, ?_⟩⟩
      exact (h.d hs).symm
    · rw [if_neg h2] at hok ⊢
      obtain ⟨k1, k2, k3⟩ := h.next hs h0 (l := x.length) (Nat.le_refl _) (by omega)
      refine ⟨hok, k1, k2, k3, by show 1 ≤ x.shift + 1; omega, h.le, ?_⟩
      rcases h.old with ⟨j1, j2, j3, j4⟩ | ⟨p, lb, j1, j2, j3, j4, j5, j6⟩
      · omega
      · exact .inr ⟨p, lb, by show p + (x.shift + 1) = n + 1; omega, j2, j3, j4, j5, j6⟩
theorem DW {s E : List Nat} {X : Nat → Nat} (hS : Gp s E X) (hs : Small 8192 s) : ∀ n, n ≤ s.length → (gy s n).Inv s E.length n
  | 0, _ => ⟨tF hs 0, rfl, fun i hi => qp hi, fun j _ h => absurd h (Nat.not_lt_zero _), Nat.le_refl 1, Nat.zero_le _, .inl ⟨rfl, rfl, rfl, rfl⟩⟩
  | n + 1, hn => Fx hS hs (by omega) (DW hS hs n (by omega))
--END
--BEGIN
theorem nK {xs : List Nat} {i : Nat} (hi : i < 8 * xs.length) (k : Nat) : aR (iC xs i) k = (aR xs k ^^ decide (i = k)) := by
  unfold aR iC
  rw [kL]
  by_cases h : i / 8 = k / 8
  · rw [if_pos ⟨h, by omega⟩, Nat.testBit_xor, Nat.testBit_two_pow, h]
    congr 1
    apply decide_eq_decide.2
    omega
  · rw [if_neg (fun hh => h hh.1), decide_eq_false (by omega), Bool.xor_false]
theorem Le {t : Nat} {p : LL} {i : Nat} (hm : 13 * t ≤ 8 * p.2.length) (hi : i < 13 * t + 8 * p.1.length) (k : Nat) : xq t (iq t p i).1 (iq t p i).2 k = (xq t p.1 p.2 k ^^ decide (i = k)) := by
  unfold xq iq
  by_cases h : 13 * t ≤ i
  · rw [if_pos h]
    by_cases hk : 13 * t ≤ k
    · rw [if_pos hk, if_pos hk, nK (by omega)]
      congr 1
      apply decide_eq_decide.2
      omega
    · rw [if_neg hk, if_neg hk, decide_eq_false (by omega), Bool.xor_false]
  · rw [if_neg h]
    by_cases hk : 13 * t ≤ k
    · rw [if_pos hk, if_pos hk, decide_eq_false (by omega), Bool.xor_false]
    · rw [if_neg hk, if_neg hk, nK (by omega)]
theorem yu {t : Nat} {c : List Nat} {L : Nat} {p : LL} (hm : 13 * t ≤ 8 * p.2.length) : ∀ k, k ≤ 13 * t + 8 * p.1.length → ∀ j, xq t (bF t c L p k).1.1 (bF t c L p k).1.2 j = (xq t p.1 p.2 j ^^ (decide (j < k) && mP c L j))
  | 0, _, j => by simp [bF]
  | k + 1, hk, j => by
    have ih := yu (c := c) (L := L) hm k (by omega)
    obtain ⟨l1, l2⟩ := iN t c L p k
    rw [bF]
    by_cases hr : mP c L k = true
    · rw [if_pos hr]
      show xq t (iq t (bF t c L p k).1 k).1 (iq t (bF t c L p k).1 k).2 j = _
      rw [Le (by omega) (by omega), ih j]
      by_cases hj : k = j
      · subst hj; rw [hr, decide_eq_false (Nat.lt_irrefl k), decide_eq_true (Nat.lt_succ_self k), decide_eq_true rfl]; simp
      · rw [decide_eq_false hj, Bool.xor_false, show decide (j < k) = decide (j < k + 1) from decide_eq_decide.2 (by omega)]
    · rw [if_neg hr, ih j]
      by_cases hj : k = j
      · subst hj; rw [Bool.not_eq_true] at hr; rw [hr]; simp
      · rw [show decide (j < k) = decide (j < k + 1) from decide_eq_decide.2 (by omega)]
theorem EC {xs ys : List Nat} (hl : xs.length = ys.length) (hx : Small 256 xs) (hy : Small 256 ys) (h : ∀ k, k < 8 * xs.length → aR xs k = aR ys k) : xs = ys := by
  apply List.ext_getElem hl
  intro i h1 h2
  have e1 : xs.getD i 0 = xs[i] := by simp [List.getD, h1]
  have e2 : ys.getD i 0 = ys[i] := by simp [List.getD, h2]
  rw [← e1, ← e2]
  apply Nat.eq_of_testBit_eq
  intro j
  by_cases hj : j < 8
  · have := h (8 * i + j) (by omega)
    unfold aR at this
    rwa [show (8 * i + j) / 8 = i by omega, show (8 * i + j) % 8 = j by omega] at this
  · rw [gU (hx.at_ (by decide) i) (by omega), gU (hy.at_ (by decide) i) (by omega)]
theorem JO {x j i : Nat} (hx : x < 256) : (yU x j).testBit i = (x.testBit i && !decide (j = i)) := by
  unfold yU
  rw [Nat.testBit_and, Nat.testBit_xor, Nat.testBit_two_pow]
  by_cases h8 : i < 8
  · have : (255 : Nat).testBit i = true := by
      have : ∀ i, i < 8 → (255 : Nat).testBit i = true := by decide
      exact this i h8
    rw [this]; simp
  · rw [gU hx (by omega), Bool.false_and, Bool.false_and]
theorem yc {m : List Nat} {i0 : Nat} (hm : Small 256 m) : ∀ k j, aR (dZ m i0 k) j = (aR m j && !(decide (i0 ≤ j) && decide (j < i0 + k)))
  | 0, j => by rw [dZ]; by_cases h : i0 ≤ j <;> simp [h]
  | k + 1, j => by
    have ih := yc (i0 := i0) hm k
    have hs := jc (i0 := i0) hm k
    have hlen := iy m i0 k
    rw [dZ]
    have e1 : aR ((dZ m i0 k).set ((i0 + k) / 8) (yU ((dZ m i0 k).getD ((i0 + k) / 8) 0) ((i0 + k) % 8))) j = (aR (dZ m i0 k) j && !decide (i0 + k = j)) := by
      unfold aR
      rw [kL]
      by_cases h : (i0 + k) / 8 = j / 8 ∧ j / 8 < (dZ m i0 k).length
      · rw [if_pos h, JO (hs.at_ (by decide) _), h.1]
        congr 2
        apply decide_eq_decide.2
        omega
      · rw [if_neg h]
        by_cases h2 : i0 + k = j
        · subst h2
          have h3 : (dZ m i0 k).length ≤ (i0 + k) / 8 := by
            rcases Nat.lt_or_ge ((i0 + k) / 8) (dZ m i0 k).length with h4 | h4
            · exact absurd ⟨rfl, h4⟩ h
            · exact h4
          rw [List.getD, List.getElem?_eq_none h3]; simp
        · rw [decide_eq_false h2]; simp
    rw [e1, ih j, Bool.and_assoc]
    congr 1
    by_cases h1 : i0 ≤ j <;> by_cases h2 : j < i0 + k <;> by_cases h3 : i0 + k = j <;> by_cases h4 : j < i0 + (k + 1) <;> first | omega | simp [h1, h2, h3, h4]
theorem Ar {t : Nat} {m : List Nat} (hm : Small 256 m) (hl : m.length = ay t) (j : Nat) : aR (dF t m) j = (decide (j < 13 * t) && aR m j) := by
  unfold dF
  rw [yc hm]
  have h8 : 13 * t ≤ 8 * ay t := by unfold ay; omega
  by_cases h : j < 13 * t
  · rw [decide_eq_false (show ¬ 13 * t ≤ j by omega), decide_eq_true h]; simp
  · rw [decide_eq_true (show 13 * t ≤ j by omega), decide_eq_false h]
    by_cases h2 : j < 13 * t + (8 * ay t - 13 * t)
    · rw [decide_eq_true h2]; simp
    · rw [gM (by omega)]; simp
theorem Dy {k : Nat} (h : k < 8191) : bT (k : Int) = npow 2 k := by
  unfold bT
  rw [show ((k : Int) % 8191).toNat = k by omega, vE (by decide) (by omega)]
theorem K8 {x : Nat} (hx : x < 8192) (m n : Nat) : npow x m = 1 → npow x n = 1 → npow x (Nat.gcd m n) = 1 := by
  induction m, n using Nat.gcd.induction with
  | H0 n => intro _ h; rw [Nat.gcd_zero_left]; exact h
  | H1 m n hm ih =>
    intro h1 h2
    rw [Nat.gcd_rec]
    refine ih ?_ h1
    have e := gL hx (m * (n / m)) (n % m)
    have h3 : ∀ k, npow 1 k = 1 := by
      intro k
      induction k with
      | zero => rfl
      | succ k ih => rw [npow, ih]; exact dH
    rw [Nat.div_add_mod, h2, mK hx, h1, h3, mE (bf _)] at e
    exact e.symm
theorem Nh : ((List.range 8190).all fun d => Nat.beq (Nat.gcd (d + 1) 8191) 1) = true := by kernel_rfl
theorem JA {d : Nat} (h0 : 0 < d) (h : d < 8191) : npow 2 d ≠ 1 := fun h1 => by
  have h2 := K8 (by decide) d 8191 h1 (vC (a := 2) (by decide) (by decide))
  have h3 := Nat.eq_of_beq_eq_true (List.all_eq_true.1 Nh (d - 1) (List.mem_range.2 (by omega)))
  rw [show d - 1 + 1 = d by omega] at h3
  rw [h3] at h2
  exact absurd h2 (by decide)
theorem J5 (e : Nat) : npow 2 e ≠ 0 := wT (by decide) (by decide) e
theorem Fb {e f : Nat} (h : e < f) (hf : f < 8191) : npow 2 e ≠ npow 2 f := fun he => by
  have h1 := gL (a := 2) (by decide) e (f - e)
  rw [Nat.add_sub_cancel' (Nat.le_of_lt h), ← he] at h1
  have h2 : aK (npow 2 e) (npow 2 (f - e) ^^^ 1) = 0 := by rw [bE, ← h1, dH, Nat.xor_self]
  rcases qg (bf _) (cB (k := 13) (bf _) (by decide)) h2 with h3 | h3
  · exact J5 e h3
  · exact JA (by omega) (by omega) (nU h3)
theorem Kw {e f : Nat} (he : e < 8191) (hf : f < 8191) (h : npow 2 e = npow 2 f) : e = f := by
  rcases Nat.lt_trichotomy e f with h1 | h1 | h1
  · exact absurd h (Fb h1 hf)
  · exact h1
  · exact absurd h.symm (Fb h1 he)
theorem F8 {i : Nat} (h : i < 8191) : aK (npow 2 i) (bT (-(i : Int))) = 1 := by
  rcases Nat.eq_zero_or_pos i with rfl | hi
  · rw [show (-((0 : Nat) : Int)) = ((0 : Nat) : Int) from rfl, Dy (by decide)]; rfl
  · have e : bT (-(i : Int)) = npow 2 (8191 - i) := by
      unfold bT
      rw [show ((-(i : Int)) % 8191).toNat = 8191 - i by omega, vE (by decide) (by omega)]
    rw [e, ← gL (by decide), Nat.add_sub_cancel' (by omega), vC (by decide) (by decide)]
theorem neg_inj {e f : Nat} (he : e < 8191) (hf : f < 8191) (h : bT (-(e : Int)) = bT (-(f : Int))) : e = f := by
  apply Kw he hf
  have h1 := F8 he
  have h2 := F8 hf
  rw [h] at h1
  have h3 : aK (npow 2 e) (aK (npow 2 f) (bT (-(f : Int)))) = aK (npow 2 f) (aK (npow 2 e) (bT (-(f : Int)))) := by
    rw [← bG (bf _) (bf _) (jv _), ← bG (bf _) (bf _) (jv _), d9 (bf e) (bf f)]
  rw [h1, h2, dH, dH] at h3
  exact h3
theorem G5 {x : Nat} (hx : x < 8192) : ∀ n v, v < 8192 → it x n v = aK v (npow x n)
  | 0, v, _ => dH.symm
  | n + 1, v, hv => by rw [it, G5 hx n _ (aP hv), npow, bG hv hx (bf _), d9 hx (bf _)]
theorem KV {x n : Nat} (hx : x < 8192) : ∀ E : List Nat, E.Nodup → (∀ e ∈ E, e < n) → ev x (fun i => decide (i ∈ E)) n = jE (fun e => npow x e) E
  | [], _, _ => uH n (fun i _ => by simp)
  | e :: E, hn, hE => by
    have hne := List.nodup_cons.1 hn
    have ih := KV hx E hne.2 (fun e he => hE e (.tail _ he))
    have h1 : ev x (fun i => decide (i = e)) n = npow x e := by
      have hen := hE e (.head _)
      rw [mW (n := e + 1) (fun i hi => decide_eq_false (by omega)) (by omega), ev, uH e (fun i hi => decide_eq_false (by omega)), decide_eq_true rfl, Nat.xor_zero, G5 hx e _ (mZ _)]
      exact mE (bf _)
    rw [jE, ← ih, ← h1, ← zx]
    refine jI n (fun i _ => ?_)
    by_cases h2 : i = e
    · subst h2; simp [hne.1]
    · simp [h2]
theorem GD {c : Nat → Nat} {x m : Nat} (h : ∀ i, m ≤ i → c i = 0) : ∀ k, pe c x (m + k) = pe c x m
  | 0 => rfl
  | k + 1 => by rw [← Nat.add_assoc, pe, GD h k, h _ (by omega), bV, Nat.xor_zero]
theorem vN {xs : List Nat} : ∀ n, 0 < aC xs n → xs.getD (aC xs n - 1) 0 ≠ 0
  | 0, h => absurd h (Nat.lt_irrefl 0)
  | n + 1, h => by
    rw [aC] at h ⊢
    split at h
    · rename_i h1; rw [if_pos h1]; exact vN n h
    · rename_i h1; rw [if_neg h1]; exact h1
theorem vO {k : Nat} : ∀ {E : List Nat}, E.Nodup → (E.filter fun e => decide (e < k + 1)).length = (E.filter fun e => decide (e < k)).length + (if k ∈ E then 1 else 0)
  | [], _ => rfl
  | e :: E, hn => by
    have hne := List.nodup_cons.1 hn
    have ih := vO (k := k) hne.2
    rw [List.filter_cons, List.filter_cons]
    by_cases h1 : e = k
    · subst h1
      rw [if_neg hne.1] at ih
      simp [ih]
    · by_cases h2 : e < k
      · rw [if_pos (decide_eq_true (by omega : e < k + 1)), if_pos (decide_eq_true h2), List.length_cons, List.length_cons, ih]
        have : (k ∈ e :: E) ↔ k ∈ E := by rw [List.mem_cons]; exact ⟨fun h => h.resolve_left (fun h => h1 h.symm), .inr⟩
        by_cases h3 : k ∈ E
        all_goals first | (rw [if_pos h3, if_pos (this.2 h3)]; done) | (rw [if_pos h3, if_pos (this.2 h3)]; omega) | (rw [if_neg h3, if_neg (fun h => h3 (this.1 h))]; done) | (rw [if_neg h3, if_neg (fun h => h3 (this.1 h))]; omega)
      · rw [if_neg (by simp; omega), if_neg (by simp; omega), ih]
        have : (k ∈ e :: E) ↔ k ∈ E := by rw [List.mem_cons]; exact ⟨fun h => h.resolve_left (fun h => h1 h.symm), .inr⟩
        by_cases h3 : k ∈ E
        · rw [if_pos h3, if_pos (this.2 h3)]
        · rw [if_neg h3, if_neg (fun h => h3 (this.1 h))]
theorem Av {t : Nat} {c : List Nat} {L : Nat} {p : LL} {E : List Nat} {n : Nat} (hE : E.Nodup) (hr : ∀ k, k < n → mP c L k = decide (k ∈ E)) : ∀ k, k ≤ n → (bF t c L p k).2 = (E.filter fun e => decide (e < k)).length
  | 0, _ => by
    rw [bF]
    symm
    rw [List.length_eq_zero_iff, List.filter_eq_nil_iff]
    intro e _
    simp
  | k + 1, hk => by
    have ih := Av (t := t) (p := p) hE hr k (by omega)
    rw [vO hE, bF, hr k (by omega)]
    by_cases h : k ∈ E
    · rw [if_pos (decide_eq_true h), if_pos h, ← ih]
    · rw [if_neg (by simp [h]), if_neg h, ← ih]; rfl
theorem H8 {t : Nat} {d d' m' : List Nat} {E : List Nat} (ht : 1 ≤ t ∧ t ≤ 8) (hd : Small 256 d) (hdl : d.length ≤ 512) (hd' : Small 256 d') (hm' : Small 256 m') (hl : d'.length = d.length) (hml : m'.length = ay t)
    (hE : E.Nodup) (OI : ∀ e ∈ E, e < 13 * t + 8 * d.length) (SN : E.length ≤ t) (hb : ∀ i, i < 13 * t + 8 * d.length → xq t d' m' i = (xq t d (fA t d) i ^^ decide (i ∈ E))) :
    kQ t d' m' = some ((d, fA t d), E.length) := by
  have h8 : 13 * t ≤ 8 * ay t := by unfold ay; omega
  obtain ⟨p, hp⟩ : ∃ p : LL, p = (d', dF t m') := ⟨_, rfl⟩
  obtain ⟨s, hs⟩ : ∃ s, s = dI t p := ⟨_, rfl⟩
  obtain ⟨n, hn⟩ : ∃ n, n = 13 * t + 8 * d.length := ⟨_, rfl⟩
  have Td : n ≤ 4200 := by omega
  have Nj : (dF t m').length = ay t := by unfold dF; rw [iy, hml]
  have hp1 : p.1.length = d.length := by rw [hp]; exact hl
  have hp2 : p.2.length = ay t := by rw [hp]; exact Nj
  have hpb : ∀ i, i < n → xq t p.1 p.2 i = (xq t d (fA t d) i ^^ decide (i ∈ E)) := fun i hi => by
    rw [← hb i (by omega), hp]
    unfold xq
    split
    · rfl
    · rw [Ar hm' hml, decide_eq_true (by omega), Bool.true_and]
  have hsl : s.length = 2 * t := by rw [hs]; exact uM
  have hss : Small 8192 s := by rw [hs]; exact oW
  have hS : Gp s E (npow 2) := by
    refine ⟨fun e _ => ⟨bf e, J5 e⟩, ?_, fun j hj => ?_⟩
    · refine List.Pairwise.imp_of_mem ?_ hE
      intro a b ha hb' hab h
      exact hab (Kw (by have := OI a ha; omega) (by have := OI b hb'; omega) h)
    · have hj2 : j < 2 * t := by omega
      have e1 : co s j = hor (xq t p.1 p.2) (bT ((j + 1 : Nat) : Int)) n 0 := by
        rw [hs]
        unfold co dI jS
        rw [List.getD, List.getElem?_map, List.getElem?_range hj2, hp1, ← hn]
        rfl
      have hx := jv ((j + 1 : Nat) : Int)
      have e2 := GN ht hd hj2
      rw [yZ _ _ (by decide), kg, Nat.zero_xor, ← hn] at e2
      rw [e1, yZ _ _ (by decide), kg, Nat.zero_xor, jI n hpb, zx, e2, Nat.zero_xor, KV hx E hE (fun e he => by rw [hn]; exact OI e he)]
      refine nL (fun e _ => ?_)
      rw [Dy (by omega), ← mK (by decide), ← mK (by decide), Nat.mul_comm]
  have hI := DW hS hss s.length (Nat.le_refl _)
  obtain ⟨x, hx⟩ : ∃ x, x = gy s s.length := ⟨_, rfl⟩
  rw [← hx] at hI
  obtain ⟨c, hc⟩ : ∃ c, c = kR s := ⟨_, rfl⟩
  have hcx : x.c = c := by rw [hc, hx]; rfl
  obtain ⟨M, hM⟩ : ∃ M, M = mh s := ⟨_, rfl⟩
  have Qt : M = aC c c.length := by rw [hM, hc]; rfl
  have hc0 : co c 0 = 1 := by rw [← hcx]; exact hI.c0
  have hcd : ∀ i, x.length < i → co c i = 0 := by rw [← hcx]; exact hI.cd
  have hc8 : ∀ i, co c i < 8192 := fun i => by rw [← hcx]; exact hI.ok.cs.at_ (by decide) i
  have hle := hI.le
  have hM0 : ∀ i, M ≤ i → co c i = 0 := fun i hi => by
    rcases Nat.lt_or_ge i c.length with h | h
    · exact mY c.length i (by omega) h
    · exact qp h
  have hM1 : 1 ≤ M := by
    rcases Nat.lt_or_ge M 1 with h | h
    · have := hM0 0 (by omega); rw [hc0] at this; exact absurd this (by decide)
    · exact h
  have Sw : M ≤ x.length + 1 := by
    rcases Nat.lt_or_ge (x.length + 1) M with h | h
    · exfalso
      have h1 := vN (xs := c) c.length (by rw [← Qt]; omega)
      rw [← Qt] at h1
      exact h1 (hcd _ (by omega))
    · exact h
  have hw := hS.weights (c := co c) hc8 hcd (fun j h1 h2 => by rw [← hcx]; exact hI.gen j h1 (by omega)) (by omega)
  have PW : ∀ e ∈ E, e < 8191 := fun e he => by have := OI e he; omega
  have hroot : ∀ e ∈ E, pe (co c) (bT (-(e : Int))) M = 0 := fun e he => by
    have h1 := M7 (bf (a := 2) e) (jv (-(e : Int))) (F8 (PW e he)) hc8 x.length
    rw [hw e he] at h1
    rcases qg (Ec hc8 _) (bf _) h1.symm with h2 | h2
    · rw [show x.length + 1 = M + (x.length + 1 - M) by omega, GD hM0] at h2
      exact h2
    · exact absurd h2 (wT (bf e) (J5 e) _)
  have M4 : ∀ R : List Nat, R.Nodup → (∀ e ∈ R, e < 8191) → (∀ e ∈ R, pe (co c) (bT (-(e : Int))) M = 0) → R.length ≠ M := fun R h1 h2 h3 h4 => by
    have := J9 (c := co c) hc8 (R.map fun e => bT (-((e : Nat) : Int))) (fun r hr => by
      obtain ⟨e, he, rfl⟩ := List.mem_map.1 hr
      refine ⟨jv _, ?_⟩
      rw [List.length_map, h4]; exact h3 e he) (by
      rw [List.pairwise_map]
      refine List.Pairwise.imp_of_mem ?_ h1
      intro a b ha hb' hab h
      exact hab (neg_inj (h2 a ha) (h2 b hb') h)) (by rw [List.length_map]; omega)
    rw [hc0] at this
    exact absurd this (by decide)
  have Rs : M = E.length + 1 := by
    rcases Nat.lt_or_ge E.length M with h | h
    · omega
    · exact absurd (by rw [List.length_take]; omega) (M4 (E.take M) (hE.sublist (List.take_sublist _ _)) (fun e he => PW e (List.mem_of_mem_take he)) (fun e he => hroot e (List.mem_of_mem_take he)))
  have hrt : ∀ k, k < n → mP c M k = decide (k ∈ E) := fun k hk => by
    unfold mP
    apply decide_eq_decide.2
    rw [Fe (jv _) hc8 M 0 (by decide), bV, Nat.zero_xor]
    constructor
    · intro h
      by_cases QM : k ∈ E
      · exact QM
      · exact absurd (by rw [List.length_cons, Rs]) (M4 (k :: E) (List.nodup_cons.2 ⟨QM, hE⟩) (fun e he => by
          rcases List.mem_cons.1 he with rfl | he
          · omega
          · exact PW e he) (fun e he => by
          rcases List.mem_cons.1 he with rfl | he
          · exact h
          · exact hroot e he))
    · exact hroot k
  have hcnt : (bF t c M p n).2 = E.length := by
    rw [Av hE hrt n (Nat.le_refl _), List.filter_eq_self.2]
    intro e he
    exact decide_eq_true (by rw [hn]; exact OI e he)
  have MZ : ∀ j, j < n → xq t (bF t c M p n).1.1 (bF t c M p n).1.2 j = xq t d (fA t d) j := fun j hj => by
    rw [yu (by omega) n (by omega), decide_eq_true hj, Bool.true_and, hrt j hj, hpb j hj, Bool.xor_assoc, Bool.xor_self, Bool.xor_false]
  obtain ⟨l1, l2⟩ := iN t c M p n
  have hsm : ∀ k, Small 256 (bF t c M p k).1.1 ∧ Small 256 (bF t c M p k).1.2 := fun k => by
    induction k with
    | zero => rw [bF, hp]; exact ⟨hd', jc hm' _⟩
    | succ k ih =>
      rw [bF]
      split
      · show Small 256 (iq t _ k).1 ∧ Small 256 (iq t _ k).2
        unfold iq
        split
        · exact ⟨iO ih.1 _, ih.2⟩
        · exact ⟨ih.1, iO ih.2 _⟩
      · exact ih
  have hhigh : ∀ k j, 13 * t ≤ j → aR (bF t c M p k).1.2 j = false := fun k => by
    induction k with
    | zero => intro j hj; rw [bF, hp]; show aR (dF t m') j = false; rw [Ar hm' hml, decide_eq_false (by omega), Bool.false_and]
    | succ k ih =>
      intro j hj
      rw [bF]
      split
      · show aR (iq t _ k).2 j = false
        have h6 := (iN t c M p k).2
        unfold iq
        split
        · exact ih j hj
        · rw [nK (by omega), ih j hj, decide_eq_false (by omega)]; rfl
      · exact ih j hj
  have hel := kY ht hd
  have hres : (bF t c M p n).1 = (d, fA t d) := by
    apply Prod.ext
    · refine EC (by show (bF t c M p n).1.1.length = d.length; omega) (hsm n).1 hd (fun k hk => ?_)
      have := MZ (13 * t + k) (by omega)
      unfold xq at this
      rw [if_pos (by omega), if_pos (by omega), Nat.add_sub_cancel_left] at this
      exact this
    · refine EC (by show _ = (fA t d).length; omega) (hsm n).2 (ru ht hd) (fun k hk => ?_)
      by_cases h : k < 13 * t
      · have := MZ k (by omega)
        unfold xq at this
        rw [if_neg (by omega), if_neg (by omega)] at this
        exact this
      · rw [hhigh n k (by omega)]
        exact (l9 ht hd (by omega)).symm
  have hfull : bF t c M p n = ((d, fA t d), E.length) := Prod.ext hres hcnt
  unfold kQ
  rw [← hp, ← hs, ← hM, ← hc, hl, ← hn, hfull, if_neg (by omega), if_neg (fun h => h (by show E.length + 1 = M; omega)), if_neg]
  show ¬ 0 < ones (eY (dI t (d, fA t d)))
  rw [yP ht hd]
  unfold eY
  rw [List.map_replicate, show nz 0 = 0 from rfl, qY]
  decide
--END
end Go.Proofs.YtcedojacbhnbiaaGreat
