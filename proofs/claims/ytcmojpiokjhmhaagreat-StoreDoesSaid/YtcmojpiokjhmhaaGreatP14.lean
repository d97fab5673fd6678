import Derived.Test.YtcmojpiokjhmhaaGreatP13
namespace Go.Proofs.YtcmojpiokjhmhaaGreat
set_option linter.unusedVariables false
set_option linter.unusedSimpArgs false
set_option maxRecDepth 20000
--BEGIN
theorem AQ (a b : Nat) : a ^^^ (a ^^^ b) = b := by rw [← Nat.xor_assoc, Nat.xor_self, Nat.zero_xor]
theorem pJ {a b : Nat} (h : a ^^^ b = 0) : a = b := by
  have := AQ a b
  rw [h, Nat.xor_zero] at this; exact this
theorem qU {f g : Nat → Nat} (hf : ∀ a b, a < 8192 → b < 8192 → f (a ^^^ b) = f a ^^^ f b) (hg : ∀ a b, a < 8192 → b < 8192 → g (a ^^^ b) = g a ^^^ g b)
    (h : ∀ i, i < 13 → f (2 ^ i) = g (2 ^ i)) : ∀ a, a < 8192 → f a = g a := by
  have h0 : ∀ {k : Nat → Nat}, (∀ a b, a < 8192 → b < 8192 → k (a ^^^ b) = k a ^^^ k b) → k 0 = 0 := fun {k} hk => by
    have := hk 0 0 (by decide) (by decide)
    rw [Nat.xor_self, Nat.xor_self] at this; exact this
  have key : ∀ n, n ≤ 13 → ∀ a, a < 2 ^ n → f a = g a := by
    intro n
    induction n with
    | zero => intro _ a ha; obtain rfl : a = 0 := by omega
              rw [h0 hf, h0 hg]
    | succ n ih =>
      intro hn a ha
      by_cases hb : a < 2 ^ n
      · exact ih (by omega) a hb
      · have hp : (2 : Nat) ^ (n + 1) ≤ 2 ^ 13 := Nat.pow_le_pow_right (by decide) hn
        have hp2 : (2 : Nat) ^ n ≤ 2 ^ 12 := Nat.pow_le_pow_right (by decide) (by omega)
        have e : a = 2 ^ n ^^^ (a - 2 ^ n) := by
          obtain ⟨c, hc⟩ : ∃ c, a = 2 ^ n + c := ⟨a - 2 ^ n, by omega⟩
          have hc2 : c < 2 ^ n := by rw [Nat.pow_succ] at ha; omega
          rw [hc, Nat.add_sub_cancel_left]
          apply Nat.eq_of_testBit_eq
          intro i
          rw [Nat.testBit_xor, Nat.testBit_two_pow]
          by_cases hi : n = i
          · subst hi
            rw [Nat.testBit_two_pow_add_eq, Nat.testBit_lt_two_pow hc2]; simp
          · rcases Nat.lt_or_ge i n with h1 | h1
            · rw [Nat.testBit_two_pow_add_gt h1]; simp [hi]
            · have h2 : 2 ^ (n + 1) ≤ 2 ^ i := Nat.pow_le_pow_right (by decide) (by omega)
              rw [Nat.testBit_lt_two_pow (by omega), Nat.testBit_lt_two_pow (by omega)]; simp [hi]
        have h1 : (2 : Nat) ^ n < 8192 := by omega
        have h2 : a - 2 ^ n < 8192 := by omega
        rw [e, hf _ _ h1 h2, hg _ _ h1 h2, h n (by omega), ih (by omega) (a - 2 ^ n) (by rw [Nat.pow_succ] at ha; omega)]
  exact key 13 (Nat.le_refl _)
def xQ : Nat → Nat → Nat → Nat
  | 0, _, _ => 0
  | k + 1, a, b => (if b.testBit 0 then a else 0) ^^^ xQ k (red (2 * a)) (b / 2)
theorem qO : ∀ (k o a b : Nat), kr k o a b = o ^^^ xQ k a b
  | 0, o, a, b => by rw [kr, xQ, Nat.xor_zero]
  | k + 1, o, a, b => by
    have hz : ∀ (k a : Nat), xQ k a 0 = 0 := by
      intro k
      induction k with
      | zero => intro a; rfl
      | succ k ih => intro a; rw [xQ, Nat.zero_testBit, Nat.zero_div, ih]; simp
    rw [kr, xQ, Nat.testBit_zero]
    by_cases hb : b = 0
    · subst hb
      rw [if_pos rfl, Nat.zero_div, hz]
      simp
    · rw [if_neg hb, qO k]
      by_cases h : b % 2 = 1
      · rw [if_pos h, decide_eq_true h, if_pos rfl, Nat.xor_assoc]
      · rw [if_neg h, decide_eq_false h, if_neg Bool.false_ne_true, Nat.zero_xor]
theorem DR : ∀ (k a b c : Nat), xQ k a (b ^^^ c) = xQ k a b ^^^ xQ k a c
  | 0, _, _, _ => (Nat.xor_self 0).symm
  | k + 1, a, b, c => by
    have h1 : (b ^^^ c) / 2 = (b / 2) ^^^ (c / 2) := by
      have := Nat.shiftRight_xor_distrib (a := b) (b := c) (i := 1)
      simpa [Nat.shiftRight_eq_div_pow] using this
    rw [xQ, xQ, xQ, h1, DR k, DK, Nat.testBit_xor]
    congr 1
    cases b.testBit 0 <;> cases c.testBit 0 <;> simp
theorem bI (a b c : Nat) : aL a (b ^^^ c) = aL a b ^^^ aL a c := by
  unfold aL
  rw [qO, qO, qO, DR, Nat.zero_xor, Nat.zero_xor, Nat.zero_xor]
theorem dD (a : Nat) : aL a 0 = 0 := by
  have h := bI a 0 0
  rwa [Nat.xor_self, Nat.xor_self] at h
theorem KQ : ((List.range 13).all fun i => (List.range 13).all fun j => Nat.beq (aL (2 ^ i) (2 ^ j)) (aL (2 ^ j) (2 ^ i))) = true := by kernel_rfl
theorem JU : ((List.range 13).all fun i => (List.range 13).all fun j => (List.range 13).all fun k => Nat.beq (aL (aL (2 ^ i) (2 ^ j)) (2 ^ k)) (aL (2 ^ i) (aL (2 ^ j) (2 ^ k)))) = true := by kernel_rfl
theorem H9 {i : Nat} (h : i < 13) : 2 ^ i < 8192 := by
  have : (2 : Nat) ^ i ≤ 2 ^ 12 := Nat.pow_le_pow_right (by decide) (by omega)
  omega
theorem eU {a b : Nat} (ha : a < 8192) (hb : b < 8192) : aL a b = aL b a := by
  refine qU (f := fun a => aL a b) (g := fun a => aL b a) (fun x y hx hy => cB b hx hy) (fun x y _ _ => bI b x y) (fun i hi => ?_) a ha
  refine qU (f := fun b => aL (2 ^ i) b) (g := fun b => aL b (2 ^ i)) (fun x y _ _ => bI _ x y) (fun x y hx hy => cB _ hx hy) (fun j hj => ?_) b hb
  exact Nat.eq_of_beq_eq_true (List.all_eq_true.1 (List.all_eq_true.1 KQ i (List.mem_range.2 hi)) j (List.mem_range.2 hj))
theorem bJ {a b c : Nat} (ha : a < 8192) (hb : b < 8192) (hc : c < 8192) : aL (aL a b) c = aL a (aL b c) := by
  refine qU (f := fun a => aL (aL a b) c) (g := fun a => aL a (aL b c)) (fun x y hx hy => by rw [cB b hx hy, cB c (aP hx) (aP hy)]) (fun x y hx hy => cB _ hx hy) (fun i hi => ?_) a ha
  refine qU (f := fun b => aL (aL (2 ^ i) b) c) (g := fun b => aL (2 ^ i) (aL b c)) (fun x y hx hy => by rw [bI, cB c (aP (H9 hi)) (aP (H9 hi))]) (fun x y hx hy => by rw [cB c hx hy, bI]) (fun j hj => ?_) b hb
  refine qU (f := fun c => aL (aL (2 ^ i) (2 ^ j)) c) (g := fun c => aL (2 ^ i) (aL (2 ^ j) c)) (fun x y hx hy => bI _ _ _) (fun x y hx hy => by rw [bI, bI]) (fun k hk => ?_) c hc
  exact Nat.eq_of_beq_eq_true (List.all_eq_true.1 (List.all_eq_true.1 (List.all_eq_true.1 JU i (List.mem_range.2 hi)) j (List.mem_range.2 hj)) k (List.mem_range.2 hk))
theorem dM {a : Nat} : aL a 1 = a := by
  unfold aL
  rw [kr, if_neg (by decide), if_pos (by decide), Nat.zero_xor]
  rfl
theorem nk {a : Nat} (h : a < 8192) : aL 1 a = a := by rw [eU (by decide) h, dM]
def npow (a : Nat) : Nat → Nat
  | 0 => 1
  | n + 1 => aL (npow a n) a
theorem bg {a : Nat} : ∀ n, npow a n < 8192
  | 0 => (by decide : 1 < 8192)
  | n + 1 => aP (bg n)
theorem gU {a : Nat} (h : a < 8192) (m : Nat) : ∀ n, npow a (m + n) = aL (npow a m) (npow a n)
  | 0 => dM.symm
  | n + 1 => by rw [← Nat.add_assoc, npow, gU h m n, npow, bJ (bg _) (bg _) h]
theorem pE {a : Nat} (h : a < 8192) : npow a 1 = a := by rw [npow, npow, nk h]
theorem ng {a : Nat} (h : a < 8192) (m : Nat) : ∀ n, npow a (m * n) = npow (npow a m) n
  | 0 => rfl
  | n + 1 => by rw [Nat.mul_succ, gU h, ng h m n, npow]
theorem E8 {a : Nat} (h : a < 8192) : npow a 2 = aL a a := by rw [npow, pE h]
theorem sN : ∀ (k o a n : Nat), n < 2 ^ k → o < 8192 → a < 8192 → rQ k o a n = aL o (npow a n)
  | 0, o, a, n, hn, ho, ha => by
    obtain rfl : n = 0 := by omega
    rw [rQ, npow, dM]
  | k + 1, o, a, n, hn, ho, ha => by
    rw [rQ]
    by_cases h : n = 0
    · subst h; rw [if_pos rfl, npow, dM]
    · rw [if_neg h]
      have hn2 : n / 2 < 2 ^ k := by rw [Nat.pow_succ] at hn; omega
      have h2 : npow (aL a a) (n / 2) = npow a (2 * (n / 2)) := by rw [ng ha, E8 ha]
      by_cases h1 : n % 2 = 1
      · rw [if_pos h1, sN k _ _ _ hn2 (aP ho) (aP ha), h2, bJ ho ha (bg _)]
        congr 1
        have h3 : n = 1 + 2 * (n / 2) := by omega
        have h4 := gU ha 1 (2 * (n / 2))
        rw [← h3, pE ha] at h4
        exact h4.symm
      · rw [if_neg h1, sN k _ _ _ hn2 ho (aP ha), h2]
        have h3 : n = 2 * (n / 2) := by omega
        rw [← h3]
theorem vE {a n : Nat} (ha : a < 8192) (hn : n < 8192) : DU a n = npow a n := by
  unfold DU
  rw [sN 13 1 a n hn (by decide) ha, nk (bg _)]
theorem OY {a b : Nat} (ha : a < 8192) (hb : b < 8192) : aL (a ^^^ b) (a ^^^ b) = aL a a ^^^ aL b b := by
  rw [bI, cB a ha hb, cB b ha hb, eU hb ha, DK, Nat.xor_comm (aL a b) (aL b b), ← DK, Nat.xor_assoc, Nat.xor_self, Nat.xor_zero]
def zO : Nat → Nat → Nat
  | 0, a => a
  | n + 1, a => zO n (aL a a)
theorem EO : ∀ n a b, a < 8192 → b < 8192 → zO n (a ^^^ b) = zO n a ^^^ zO n b
  | 0, _, _, _, _ => rfl
  | n + 1, a, b, ha, hb => by rw [zO, zO, zO, OY ha hb]; exact EO n _ _ (aP ha) (aP hb)
theorem BX : ∀ n a, a < 8192 → zO n a = npow a (2 ^ n)
  | 0, a, h => (pE h).symm
  | n + 1, a, h => by rw [zO, BX n _ (aP h), ← E8 h, ← ng h, Nat.pow_succ, Nat.mul_comm]
theorem Ml : ((List.range 13).all fun i => Nat.beq (zO 13 (2 ^ i)) (2 ^ i)) = true := by kernel_rfl
theorem Ce {a : Nat} (h : a < 8192) : npow a 8192 = a := by
  have h1 := BX 13 a h
  have h2 := qU (f := zO 13) (g := fun a => a) (fun x y hx hy => EO 13 x y hx hy) (fun x y _ _ => rfl) (fun i hi => Nat.eq_of_beq_eq_true (List.all_eq_true.1 Ml i (List.mem_range.2 hi))) a h
  rw [h2] at h1
  exact h1.symm
theorem Ni : ((List.range 8192).all fun e => !(Nat.beq (aL e e) e) || Nat.ble e 1) = true := by kernel_rfl
theorem wB {a : Nat} (h : a < 8192) (h0 : a ≠ 0) : npow a 8191 = 1 := by
  have h1 : aL (npow a 8191) (npow a 8191) = npow a 8191 := by
    have e : npow a (8191 + 8191) = npow a 8191 := by
      rw [show 8191 + 8191 = 8192 + 8190 from rfl, gU h, Ce h]
      have e2 := gU h 1 8190
      rw [pE h] at e2
      exact e2.symm
    rw [gU h] at e; exact e
  have h2 := List.all_eq_true.1 Ni (npow a 8191) (List.mem_range.2 (bg _))
  rw [h1, show Nat.beq (npow a 8191) (npow a 8191) = true from Nat.beq_refl _, Bool.not_true, Bool.false_or] at h2
  have h3 := Nat.le_of_ble_eq_true h2
  rcases Nat.lt_or_ge (npow a 8191) 1 with h4 | h4
  · exfalso
    apply h0
    have e := Ce h
    rw [show 8192 = 8191 + 1 from rfl, gU h, show npow a 8191 = 0 by omega, bX] at e
    exact e.symm
  · omega
theorem Eb {a : Nat} (h : a < 8192) (h0 : a ≠ 0) : aL a (Dn a) = 1 := by
  have e := gU h 1 8190
  rw [pE h, show 1 + 8190 = 8191 from rfl, wB h h0] at e
  unfold Dn
  rw [vE h (by decide)]
  exact e.symm
theorem uV {a : Nat} (h : a < 8192) : Dn a < 8192 := Du h
theorem qW {a b : Nat} (ha : a < 8192) (hb : b < 8192) (h : aL a b = 0) : a = 0 ∨ b = 0 := by
  by_cases h0 : a = 0
  · exact .inl h0
  · right
    have h1 := Eb ha h0
    have h2 : aL (aL a (Dn a)) b = 0 := by
      rw [bJ ha (uV ha) hb, eU (uV ha) hb, ← bJ ha hb (uV ha), h, bX]
    rw [h1, nk hb] at h2
    exact h2
--END
--BEGIN
def jW (f : Nat → Nat) : List Nat → Nat
  | [] => 0
  | e :: E => f e ^^^ jW f E
theorem nS {f g : Nat → Nat} : ∀ {E : List Nat}, (∀ e ∈ E, f e = g e) → jW f E = jW g E
  | [], _ => rfl
  | e :: E, h => by rw [jW, jW, h e (.head _), nS fun x hx => h x (.tail _ hx)]
theorem yP (f g : Nat → Nat) : ∀ E : List Nat, jW (fun e => f e ^^^ g e) E = jW f E ^^^ jW g E
  | [] => (Nat.xor_self 0).symm
  | e :: E => by rw [jW, jW, jW, yP f g E, DK]
theorem um (a : Nat) (f : Nat → Nat) : ∀ E : List Nat, aL a (jW f E) = jW (fun e => aL a (f e)) E
  | [] => dD a
  | e :: E => by rw [jW, jW, bI, um a f E]
theorem wz {f : Nat → Nat} : ∀ {E : List Nat}, (∀ e ∈ E, f e = 0) → jW f E = 0
  | [], _ => rfl
  | e :: E, h => by rw [jW, h e (.head _), wz fun x hx => h x (.tail _ hx)]; rfl
theorem yS {a b c : Nat} (ha : a < 8192) (hb : b < 8192) (hc : c < 8192) : aL (aL a b) c = aL (aL a c) b := by
  rw [bJ ha hb hc, eU hb hc, ← bJ ha hc hb]
theorem xU {a : Nat} (h : a < 8192) (h0 : a ≠ 0) : ∀ n, npow a n ≠ 0
  | 0 => (by decide : (1 : Nat) ≠ 0)
  | n + 1 => fun hz => by
    rcases qW (bg n) h hz with h1 | h1
    · exact xU h h0 n h1
    · exact h0 h1
theorem Ku : ∀ (E : List Nat) (X Y : Nat → Nat), (∀ e ∈ E, X e < 8192 ∧ X e ≠ 0 ∧ Y e < 8192) → E.Pairwise (fun a b => X a ≠ X b) → ∀ j0,
    (∀ j, j0 ≤ j → j < j0 + E.length → jW (fun e => aL (Y e) (npow (X e) j)) E = 0) → ∀ e ∈ E, Y e = 0
  | [], _, _, _, _, _, _, e, he => by cases he
  | x :: E, X, Y, hX, hp, j0, hs, e, he => by
    have hx := hX x (.head _)
    have hE : ∀ e ∈ E, X e < 8192 ∧ X e ≠ 0 ∧ Y e < 8192 := fun e he => hX e (.tail _ he)
    have hpx := List.pairwise_cons.1 hp
    have key := Ku E X (fun e => aL (Y e) (X e ^^^ X x)) (fun e he => ⟨(hE e he).1, (hE e he).2.1, aP (hE e he).2.2⟩) hpx.2 j0 (fun j h1 h2 => by
      have e1 := hs j h1 (by rw [List.length_cons]; omega)
      have e2 := hs (j + 1) (by omega) (by rw [List.length_cons]; omega)
      have e3 : aL (X x) (jW (fun e => aL (Y e) (npow (X e) j)) (x :: E)) = 0 := by rw [e1, dD]
      rw [um] at e3
      have e4 : jW (fun e => aL (Y e) (npow (X e) (j + 1)) ^^^ aL (X x) (aL (Y e) (npow (X e) j))) (x :: E) = 0 := by rw [yP, e2, e3]; rfl
      have e5 : ∀ e ∈ x :: E, (aL (Y e) (npow (X e) (j + 1)) ^^^ aL (X x) (aL (Y e) (npow (X e) j))) = aL (aL (Y e) (X e ^^^ X x)) (npow (X e) j) := fun e he => by
        obtain ⟨k1, k2, k3⟩ := hX e he
        rw [bI, cB _ (aP k3) (aP k3), npow, eU hx.1 (aP k3), yS k3 (bg _) hx.1, yS k3 k1 (bg _), bJ k3 (bg _) k1]
      rw [nS e5, jW, Nat.xor_self, dD, bX, Nat.zero_xor] at e4
      exact e4)
    have hY : ∀ e ∈ E, Y e = 0 := fun e he => by
      obtain ⟨k1, k2, k3⟩ := hE e he
      rcases qW k3 (dh (k := 13) k1 hx.1) (key e he) with h | h
      · exact h
      · exact absurd (pJ h).symm (hpx.1 e he)
    rcases List.mem_cons.1 he with rfl | he
    · have e1 := hs j0 (Nat.le_refl _) (by rw [List.length_cons]; omega)
      rw [jW, wz (fun e he => by rw [hY e he, bX]), Nat.xor_zero] at e1
      rcases qW hx.2.2 (bg _) e1 with h | h
      · exact h
      · exact absurd h (xU hx.1 hx.2.1 _)
    · exact hY e he
def pv : List Nat → Nat → Nat
  | [], _ => 0
  | c :: l, x => c ^^^ aL (pv l x) x
def quo (a : Nat) : List Nat → List Nat
  | [] => []
  | [_] => []
  | _ :: d :: l => pv (d :: l) a :: quo a (d :: l)
theorem yR (a : Nat) : ∀ l : List Nat, (quo a l).length = l.length - 1
  | [] => rfl
  | [_] => rfl
  | _ :: d :: l => by rw [quo, List.length_cons, yR a (d :: l)]; simp
theorem Cg {x : Nat} : ∀ {l : List Nat}, (∀ c ∈ l, c < 8192) → pv l x < 8192
  | [], _ => (by decide : 0 < 8192)
  | c :: l, h => dh (k := 13) (h c (.head _)) (aP (Cg fun y hy => h y (.tail _ hy)))
theorem qR {a : Nat} : ∀ {l : List Nat}, (∀ c ∈ l, c < 8192) → ∀ c ∈ quo a l, c < 8192
  | [], _, c, hc => by cases hc
  | [_], _, c, hc => by cases hc
  | _ :: d :: l, h, c, hc => by
    rw [quo] at hc
    rcases List.mem_cons.1 hc with rfl | hc
    · exact Cg fun y hy => h y (.tail _ hy)
    · exact qR (fun y hy => h y (.tail _ hy)) c hc
theorem GR {a x : Nat} (ha : a < 8192) (hx : x < 8192) : ∀ {l : List Nat}, (∀ c ∈ l, c < 8192) → pv l x = pv l a ^^^ aL (pv (quo a l) x) (x ^^^ a)
  | [], _ => by show 0 = 0 ^^^ aL 0 _; rw [bX]; rfl
  | [c], _ => by show c ^^^ aL 0 x = (c ^^^ aL 0 a) ^^^ aL 0 _; rw [bX, bX, bX]; simp
  | c :: d :: l, h => by
    have h' : ∀ y ∈ d :: l, y < 8192 := fun y hy => h y (.tail _ hy)
    have ih := GR ha hx h'
    have l1 := Cg (x := x) h'
    have l2 := Cg (x := a) h'
    have l3 := Cg (x := x) (qR (a := a) h')
    have hxa : x ^^^ a < 8192 := dh (k := 13) hx ha
    show c ^^^ aL (pv (d :: l) x) x = (c ^^^ aL (pv (d :: l) a) a) ^^^ aL (pv (d :: l) a ^^^ aL (pv (quo a (d :: l)) x) x) (x ^^^ a)
    rw [cB _ l2 (aP l3), bI (pv (d :: l) a), yS l3 hx hxa, ih, cB _ l2 (aP l3)]
    rw [Nat.xor_assoc]
    congr 1
    rw [← Nat.xor_assoc, ← Nat.xor_assoc, Nat.xor_comm (aL (pv (d :: l) a) a), Nat.xor_assoc (aL (pv (d :: l) a) x), Nat.xor_self, Nat.xor_zero]
theorem FE : ∀ (R l : List Nat), l.length = R.length → (∀ c ∈ l, c < 8192) → (∀ r ∈ R, r < 8192 ∧ pv l r = 0) → R.Pairwise (· ≠ ·) → ∀ x, x < 8192 → pv l x = 0
  | [], [], _, _, _, _, _, _ => rfl
  | a :: R, l, hl, hs, hr, hp, x, hx => by
    have ha := hr a (.head _)
    have hpx := List.pairwise_cons.1 hp
    have key := FE R (quo a l) (by rw [yR, hl]; simp) (qR hs) (fun r hr' => by
      have h1 := hr r (.tail _ hr')
      refine ⟨h1.1, ?_⟩
      have h2 := GR ha.1 h1.1 hs
      rw [h1.2, ha.2, Nat.zero_xor] at h2
      rcases qW (Cg (qR hs)) (dh (k := 13) h1.1 ha.1) h2.symm with h3 | h3
      · exact h3
      · exact absurd (pJ h3).symm (hpx.1 r hr')) hpx.2 x hx
    rw [GR ha.1 hx hs, ha.2, key, bX]; rfl
def pe (c : Nat → Nat) (x : Nat) : Nat → Nat
  | 0 => 0
  | k + 1 => pe c x k ^^^ aL (c k) (npow x k)
theorem Ev {c : Nat → Nat} {x : Nat} (hc : ∀ i, c i < 8192) : ∀ k, pe c x k < 8192
  | 0 => (by decide : 0 < 8192)
  | k + 1 => dh (k := 13) (Ev hc k) (aP (hc k))
theorem yZ {c : Nat → Nat} {x : Nat} (hx : x < 8192) (hc : ∀ i, c i < 8192) : ∀ k, pe c x (k + 1) = c 0 ^^^ aL (pe (fun i => c (i + 1)) x k) x
  | 0 => by rw [pe, pe, pe, npow, dM, bX, Nat.zero_xor, Nat.xor_zero]
  | k + 1 => by
    rw [pe, yZ hx hc k, pe, cB _ (Ev (fun i => hc (i + 1)) k) (aP (hc (k + 1))), npow, ← bJ (hc _) (bg _) hx, Nat.xor_assoc]
theorem LA {x : Nat} (hx : x < 8192) : ∀ k (c : Nat → Nat), (∀ i, c i < 8192) → pe c x k = pv ((List.range k).map c) x
  | 0, _, _ => rfl
  | k + 1, c, hc => by
    rw [yZ hx hc k, LA hx k _ (fun i => hc (i + 1)), List.range_succ_eq_map, List.map_cons, pv, List.map_map]
    rfl
theorem Km {c : Nat → Nat} (hc : ∀ i, c i < 8192) (R : List Nat) (hr : ∀ r ∈ R, r < 8192 ∧ pe c r R.length = 0) (hp : R.Pairwise (· ≠ ·)) (h0 : 0 < R.length) : c 0 = 0 := by
  have h := FE R ((List.range R.length).map c) (by simp) (fun x hx => by obtain ⟨i, _, rfl⟩ := List.mem_map.1 hx; exact hc i) (fun r h1 => ⟨(hr r h1).1, by rw [← LA (hr r h1).1 _ c hc]; exact (hr r h1).2⟩) hp 0 (by decide)
  rw [← LA (by decide) _ c hc] at h
  obtain ⟨k, hk⟩ : ∃ k, R.length = k + 1 := ⟨R.length - 1, by omega⟩
  rw [hk, yZ (by decide) hc, dD, Nat.xor_zero] at h
  exact h
def yw (c : Nat → Nat) (x : Nat) : Nat → Nat
  | 0 => c 0
  | k + 1 => aL (yw c x k) x ^^^ c (k + 1)
theorem HY {c : Nat → Nat} {x : Nat} (hc : ∀ i, c i < 8192) : ∀ k, yw c x k < 8192
  | 0 => hc 0
  | k + 1 => dh (k := 13) (aP (HY hc k)) (hc (k + 1))
theorem Ny {c : Nat → Nat} {x y : Nat} (hx : x < 8192) (hy : y < 8192) (hxy : aL x y = 1) (hc : ∀ i, c i < 8192) : ∀ k, yw c x k = aL (pe c y (k + 1)) (npow x k)
  | 0 => by rw [yw, pe, pe, npow, npow, dM, dM, Nat.zero_xor]
  | k + 1 => by
    have hp : ∀ n, aL (npow x n) (npow y n) = 1 := by
      intro n
      induction n with
      | zero => exact dM
      | succ n ih =>
        rw [npow, npow, bJ (bg _) hx (aP (bg _)), ← bJ hx (bg _) hy, eU hx (bg _), bJ (bg _) hx hy, hxy, dM]
        exact ih
    show aL (yw c x k) x ^^^ c (k + 1) = aL (pe c y (k + 1) ^^^ aL (c (k + 1)) (npow y (k + 1))) (npow x (k + 1))
    rw [Ny hx hy hxy hc k, cB _ (Ev hc _) (aP (hc _)), bJ (hc _) (bg _) (bg _), eU (bg (a := y) _) (bg _), hp, dM, bJ (Ev hc _) (bg _) hx]
    rfl
theorem ET {c : List Nat} {x : Nat} (hx : x < 8192) (hc : ∀ i, c.getD i 0 < 8192) : ∀ k v, v < 8192 → rO c x k v = aL v (npow x k) ^^^ pe (fun i => c.getD i 0) x k
  | 0, v, hv => by rw [rO, npow, dM, pe, Nat.xor_zero]
  | k + 1, v, hv => by
    rw [rO, ET hx hc k _ (dh (k := 13) (aP hv) (hc k)), cB _ (aP hv) (hc k), pe, Nat.xor_assoc, Nat.xor_comm (pe _ _ _), npow, bJ hv hx (bg _), eU hx (bg _)]
--END
--BEGIN
def gP (c s : Nat → Nat) (j : Nat) : Nat → Nat
  | 0 => aL (c 0) (s j)
  | k + 1 => gP c s j k ^^^ aL (c (k + 1)) (s (j - (k + 1)))
abbrev cv (c s : Nat → Nat) (j : Nat) : Nat := gP c s j j
theorem Bu {c s : Nat → Nat} {j m : Nat} (h : ∀ i, m < i → c i = 0) : ∀ k, gP c s j (m + k) = gP c s j m
  | 0 => rfl
  | k + 1 => by rw [← Nat.add_assoc, gP, Bu h k, h _ (by omega), bX, Nat.xor_zero]
theorem sS {c s : Nat → Nat} {j m n : Nat} (h : ∀ i, m < i → c i = 0) (hn : m ≤ n) : gP c s j n = gP c s j m := by
  have := Bu (s := s) (j := j) h (n - m)
  rwa [Nat.add_sub_cancel' hn] at this
theorem En {c b s : Nat → Nat} {j : Nat} (hc : ∀ i, c i < 8192) (hb : ∀ i, b i < 8192) : ∀ k, gP (fun i => c i ^^^ b i) s j k = gP c s j k ^^^ gP b s j k
  | 0 => cB _ (hc 0) (hb 0)
  | k + 1 => by rw [gP, gP, gP, En hc hb k, cB _ (hc _) (hb _), DK]
theorem BA {c s : Nat → Nat} {j : Nat} : ∀ k, (∀ i, i ≤ k → c i = 0) → gP c s j k = 0
  | 0, h => by rw [gP, h 0 (Nat.le_refl _), bX]
  | k + 1, h => by rw [gP, BA k (fun i hi => h i (by omega)), h _ (Nat.le_refl _), bX]; rfl
def fO (b : Nat → Nat) (q sh : Nat) (i : Nat) : Nat := if sh ≤ i then aL q (b (i - sh)) else 0
theorem Jt {b : Nat → Nat} {q sh : Nat} (hq : q < 8192) (i : Nat) : fO b q sh i < 8192 := by
  unfold fO; split
  · exact aP hq
  · decide
theorem EY {b s : Nat → Nat} {q sh j : Nat} (hq : q < 8192) (hb : ∀ i, b i < 8192) (hs : ∀ i, s i < 8192) (hj : sh ≤ j) : ∀ k, gP (fO b q sh) s j (sh + k) = aL q (gP b s (j - sh) k)
  | 0 => by
    have h1 : gP (fO b q sh) s j sh = aL (aL q (b 0)) (s (j - sh)) := by
      cases sh with
      | zero => rfl
      | succ n =>
        rw [gP, BA n (fun i hi => by unfold fO; rw [if_neg (by omega)]), Nat.zero_xor]
        unfold fO; rw [if_pos (Nat.le_refl _), Nat.sub_self]
    rw [Nat.add_zero, h1, gP, bJ hq (hb 0) (hs _)]
  | k + 1 => by
    rw [← Nat.add_assoc, gP, EY hq hb hs hj k, gP, bI]
    congr 1
    rw [show fO b q sh (sh + k + 1) = aL q (b (k + 1)) by unfold fO; rw [if_pos (by omega)]; congr 2; omega, bJ hq (hb _) (hs _), show j - (sh + k + 1) = j - sh - (k + 1) by omega]
theorem Ox {b s : Nat → Nat} {q sh j : Nat} (hq : q < 8192) (hb : ∀ i, b i < 8192) (hs : ∀ i, s i < 8192) (hj : sh ≤ j) : cv (fO b q sh) s j = aL q (cv b s (j - sh)) := by
  have := EY (s := s) hq hb hs hj (j - sh)
  rwa [Nat.add_sub_cancel' hj] at this
abbrev co (l : List Nat) (i : Nat) : Nat := l.getD i 0
theorem qP {l : List Nat} {i : Nat} (h : l.length ≤ i) : co l i = 0 := by unfold co; rw [List.getD, List.getElem?_eq_none h]; rfl
theorem EI {s c : List Nat} {n : Nat} (h0 : co c 0 = 1) (hs : ∀ i, co s i < 8192) : ∀ k, oP s c n k = gP (co c) (co s) n k
  | 0 => by rw [oP, gP, h0, nk (hs n)]
  | k + 1 => by rw [oP, gP, EI h0 hs k]
theorem Fw {c b : List Nat} {q sh : Nat} : ∀ k, k + sh ≤ c.length → k ≤ b.length → ∀ i, co (jO c b q sh k) i = if i < k + sh then co c i ^^^ fO (co b) q sh i else co c i
  | 0, _, _, i => by
    rw [jO]
    split
    · unfold fO; rw [if_neg (by omega), Nat.xor_zero]
    · rfl
  | k + 1, h1, h2, i => by
    have ih := Fw (c := c) (b := b) (q := q) (sh := sh) k (by omega) (by omega)
    rw [jO]
    show ((jO c b q sh k).set (k + sh) _).getD i 0 = _
    rw [lC]
    by_cases h : k + sh = i
    · subst h
      rw [if_pos ⟨rfl, by rw [kJ]; omega⟩, if_pos (by omega)]
      have e := ih (k + sh)
      rw [if_neg (by omega)] at e
      rw [show (jO c b q sh k).getD (k + sh) 0 = co c (k + sh) from e]
      unfold fO
      rw [if_pos (by omega), Nat.add_sub_cancel]
    · rw [if_neg (fun hh => h hh.1)]
      have e := ih i
      show co (jO c b q sh k) i = _
      rw [e]
      by_cases h3 : i < k + sh
      · rw [if_pos h3, if_pos (by omega)]
      · rw [if_neg h3, if_neg (by omega)]
theorem OJ {x : BM} {d : Nat} (i : Nat) : co (DC x d) i = co x.c i ^^^ fO (co x.b) (aL d (Dn x.last)) x.shift i := by
  unfold DC
  rw [Fw _ (by rw [nH]; omega) (Nat.le_refl _)]
  have he : co (jR x) i = co x.c i := by
    unfold jR
    by_cases h : i < x.c.length
    · unfold co; simp [List.getD, List.getElem?_append_left h]
    · rw [qP (l := x.c) (by omega)]
      unfold co
      rw [List.getD, List.getElem?_append_right (by omega), List.getElem?_replicate]
      split <;> rfl
  rw [he]
  split
  · rfl
  · unfold fO
    split
    · rw [show co x.b (i - x.shift) = 0 from qP (by omega), dD, Nat.xor_zero]
    · rw [Nat.xor_zero]
structure BM.Inv (s : List Nat) (v n : Nat) (x : BM) : Prop where
  ok : x.Ok n
  c0 : co x.c 0 = 1
  cd : ∀ i, x.length < i → co x.c i = 0
  gen : ∀ j, x.length ≤ j → j < n → cv (co x.c) (co s) j = 0
  sh : 1 ≤ x.shift
  le : x.length ≤ v
  old : (x.length = 0 ∧ x.b = [1] ∧ x.last = 1 ∧ x.shift = n + 1) ∨ ∃ p lb, p + x.shift = n ∧ lb + x.length = p + 1 ∧ 1 ≤ x.length ∧ (∀ i, lb < i → co x.b i = 0) ∧ (∀ j, lb ≤ j → j < p → cv (co x.b) (co s) j = 0) ∧ cv (co x.b) (co s) p = x.last
theorem BM.Inv.d {s : List Nat} {v n : Nat} {x : BM} (h : x.Inv s v n) (hs : Small 8192 s) : Av s n x = cv (co x.c) (co s) n := by
  unfold Av
  rw [EI h.c0 (fun i => hs.at_ (by decide) i)]
  have h1 := h.ok.l
  have h2 := h.ok.c1
  refine (sS (fun i hi => ?_) (by omega)).symm
  rcases Nat.lt_or_ge i x.c.length with h3 | h3
  · exact h.cd i (by omega)
  · exact qP h3
theorem BM.Inv.next {s : List Nat} {v n : Nat} {x : BM} (h : x.Inv s v n) (hs : Small 8192 s) (hd : Av s n x ≠ 0) {l : Nat} (hl : x.length ≤ l) (hl2 : n + 1 - x.length ≤ l) :
    co (DC x (Av s n x)) 0 = 1 ∧ (∀ i, l < i → co (DC x (Av s n x)) i = 0) ∧ ∀ j, l ≤ j → j < n + 1 → cv (co (DC x (Av s n x))) (co s) j = 0 := by
  have DT : Av s n x < 8192 := ql hs h.ok.cs _
  obtain ⟨q, hq⟩ : ∃ q, q = aL (Av s n x) (Dn x.last) := ⟨_, rfl⟩
  have hq8 : q < 8192 := by rw [hq]; exact aP DT
  have hco : ∀ i, co (DC x (Av s n x)) i = co x.c i ^^^ fO (co x.b) q x.shift i := fun i => by rw [hq]; exact OJ i
  have hc8 : ∀ i, co x.c i < 8192 := fun i => h.ok.cs.at_ (by decide) i
  have QS : ∀ i, co x.b i < 8192 := fun i => h.ok.bs.at_ (by decide) i
  have OM : ∀ i, co s i < 8192 := fun i => hs.at_ (by decide) i
  have hsh := h.sh
  have hln := h.ok.l
  have hcv : ∀ j, cv (co (DC x (Av s n x))) (co s) j = cv (co x.c) (co s) j ^^^ cv (fO (co x.b) q x.shift) (co s) j := fun j => by
    rw [show co (DC x (Av s n x)) = fun i => co x.c i ^^^ fO (co x.b) q x.shift i from funext hco]
    exact En hc8 (Jt hq8) j
  have Ay : aL q x.last = Av s n x := by
    rw [hq, bJ DT (uV h.ok.la) h.ok.la, eU (uV h.ok.la) h.ok.la, Eb h.ok.la h.ok.l0, dM]
  refine ⟨?_, ?_, ?_⟩
  · rw [hco, h.c0]; unfold fO; rw [if_neg (by omega), Nat.xor_zero]
  · intro i hi
    rw [hco, h.cd i (by omega), Nat.zero_xor]
    unfold fO
    split
    · rcases h.old with ⟨k1, k2, k3, k4⟩ | ⟨p, lb, k1, k2, k3, k4, k5, k6⟩
      · rw [qP (l := x.b) (by rw [k2]; simp; omega), dD]
      · rw [k4 _ (by omega), dD]
    · rfl
  · intro j hj1 hj2
    rw [hcv]
    rcases h.old with ⟨k1, k2, k3, k4⟩ | ⟨p, lb, k1, k2, k3, k4, k5, k6⟩
    · omega
    · rw [Ox hq8 QS OM (by omega)]
      by_cases hjn : j = n
      · subst hjn
        rw [show j - x.shift = p by omega, k6, Ay, h.d hs, Nat.xor_self]
      · rw [h.gen j (by omega) (by omega), k5 _ (by omega) (by omega), dD]; rfl
structure FN (s : List Nat) (E : List Nat) (X : Nat → Nat) : Prop where
  x : ∀ e ∈ E, X e < 8192 ∧ X e ≠ 0
  p : E.Pairwise (fun a b => X a ≠ X b)
  s : ∀ j, j < s.length → co s j = jW (fun e => npow (X e) (j + 1)) E
theorem FN.cv {s E : List Nat} {X : Nat → Nat} (h : FN s E X) {c : Nat → Nat} (hc : ∀ i, c i < 8192) {j : Nat} (hj : j < s.length) : ∀ l, l ≤ j → gP c (co s) j l = jW (fun e => aL (yw c (X e) l) (npow (X e) (j + 1 - l))) E
  | 0, _ => by rw [gP, h.s j hj, um]; rfl
  | l + 1, hl => by
    rw [gP, h.cv hc hj l (by omega), h.s _ (by omega), um, ← yP]
    refine nS (fun e he => ?_)
    obtain ⟨k1, k2⟩ := h.x e he
    rw [yw, cB _ (aP (HY hc l)) (hc _), show j + 1 - l = j - l + 1 by omega, show j - (l + 1) + 1 = j - l by omega, show j + 1 - (l + 1) = j - l by omega, npow, eU (bg _) k1, ← bJ (HY hc l) k1 (bg _)]
theorem FN.weights {s E : List Nat} {X : Nat → Nat} (h : FN s E X) {c : Nat → Nat} (hc : ∀ i, c i < 8192) {l : Nat} (hd : ∀ i, l < i → c i = 0) (hgen : ∀ j, l ≤ j → j < l + E.length → Proofs.YtcmojpiokjhmhaaGreat.cv c (co s) j = 0) (hl : l + E.length ≤ s.length) :
    ∀ e ∈ E, yw c (X e) l = 0 := by
  refine Ku E X (fun e => yw c (X e) l) (fun e he => ⟨(h.x e he).1, (h.x e he).2, HY hc l⟩) h.p 1 (fun i h1 h2 => ?_)
  have e1 := hgen (l + i - 1) (by omega) (by omega)
  have e2 : gP c (co s) (l + i - 1) (l + i - 1) = gP c (co s) (l + i - 1) l := sS hd (by omega)
  rw [show Proofs.YtcmojpiokjhmhaaGreat.cv c (co s) (l + i - 1) = gP c (co s) (l + i - 1) (l + i - 1) from rfl, e2, h.cv hc (by omega) l (by omega)] at e1
  rw [show l + i - 1 + 1 - l = i by omega] at e1
  exact e1
theorem Gc {s E : List Nat} {X : Nat → Nat} (hS : FN s E X) (hs : Small 8192 s) {n : Nat} {x : BM} (hn : n < s.length) (h : x.Inv s E.length n) : (qB s n x).Inv s E.length (n + 1) := by
  have hok := BO hs h.ok
  have hln := h.ok.l
  have hsh := h.sh
  have hle := h.le
  have hc8 : ∀ i, co x.c i < 8192 := fun i => h.ok.cs.at_ (by decide) i
  unfold qB at hok ⊢
  by_cases h0 : Av s n x = 0
  · rw [if_pos h0] at hok ⊢
    refine ⟨hok, h.c0, h.cd, fun j h1 h2 => ?_, by show 1 ≤ x.shift + 1; omega, h.le, ?_⟩
    · by_cases hjn : j = n
      · subst hjn; rw [← h0]; exact (h.d hs).symm
      · exact h.gen j h1 (by omega)
    · rcases h.old with ⟨k1, k2, k3, k4⟩ | ⟨p, lb, k1, k2, k3, k4, k5, k6⟩
      · exact .inl ⟨k1, k2, k3, by show x.shift + 1 = n + 1 + 1; omega⟩
      · exact .inr ⟨p, lb, by show p + (x.shift + 1) = n + 1; omega, k2, k3, k4, k5, k6⟩
  · rw [if_neg h0] at hok ⊢
    by_cases h2 : 2 * x.length ≤ n
    · rw [if_pos h2] at hok ⊢
      obtain ⟨k1, k2, k3⟩ := h.next hs h0 (l := n + 1 - x.length) (by omega) (Nat.le_refl _)
      have hlen : n + 1 - x.length ≤ E.length := by
        rcases Nat.lt_or_ge E.length (n + 1 - x.length) with hh | hh
        · exfalso
          have hw := hS.weights hc8 h.cd (fun j h1 h2 => h.gen j h1 (by omega)) (by omega)
          apply h0
          rw [h.d hs]
          have e2 : gP (co x.c) (co s) n n = gP (co x.c) (co s) n x.length := sS h.cd (by omega)
          show gP (co x.c) (co s) n n = 0
          rw [e2, hS.cv hc8 hn _ (by omega)]
          exact wz (fun e he => by rw [hw e he, bX])
        · exact hh
      refine ⟨hok, k1, k2, k3, Nat.le_refl 1, hlen, .inr ⟨n, x.length, rfl, by show x.length + (n + 1 - x.length) = n + 1; omega, by show 1 ≤ n + 1 - x.length; omega, h.cd, h.gen, ?_⟩⟩
      exact (h.d hs).symm
    · rw [if_neg h2] at hok ⊢
      obtain ⟨k1, k2, k3⟩ := h.next hs h0 (l := x.length) (Nat.le_refl _) (by omega)
      refine ⟨hok, k1, k2, k3, by show 1 ≤ x.shift + 1; omega, h.le, ?_⟩
      rcases h.old with ⟨j1, j2, j3, j4⟩ | ⟨p, lb, j1, j2, j3, j4, j5, j6⟩
      · omega
      · exact .inr ⟨p, lb, by show p + (x.shift + 1) = n + 1; omega, j2, j3, j4, j5, j6⟩
theorem Et {s E : List Nat} {X : Nat → Nat} (hS : FN s E X) (hs : Small 8192 s) : ∀ n, n ≤ s.length → (gJ s n).Inv s E.length n
  | 0, _ => ⟨tQ hs 0, rfl, fun i hi => qP hi, fun j _ h => absurd h (Nat.not_lt_zero _), Nat.le_refl 1, Nat.zero_le _, .inl ⟨rfl, rfl, rfl, rfl⟩⟩
  | n + 1, hn => Gc hS hs (by omega) (Et hS hs n (by omega))
--END
--BEGIN
theorem nO {xs : List Nat} {i : Nat} (hi : i < 8 * xs.length) (k : Nat) : aR (iN xs i) k = (aR xs k ^^ decide (i = k)) := by
  unfold aR iN
  rw [lC]
  by_cases h : i / 8 = k / 8
  · rw [if_pos ⟨h, by omega⟩, Nat.testBit_xor, Nat.testBit_two_pow, h]
    congr 1
    apply decide_eq_decide.2
    omega
  · rw [if_neg (fun hh => h hh.1), decide_eq_false (by omega), Bool.xor_false]
theorem K3 {t : Nat} {p : LL} {i : Nat} (hm : 13 * t ≤ 8 * p.2.length) (hi : i < 13 * t + 8 * p.1.length) (k : Nat) : yg t (iL t p i).1 (iL t p i).2 k = (yg t p.1 p.2 k ^^ decide (i = k)) := by
  unfold yg iL
  by_cases h : 13 * t ≤ i
  · rw [if_pos h]
    by_cases hk : 13 * t ≤ k
    · rw [if_pos hk, if_pos hk, nO (by omega)]
      congr 1
      apply decide_eq_decide.2
      omega
    · rw [if_neg hk, if_neg hk, decide_eq_false (by omega), Bool.xor_false]
  · rw [if_neg h]
    by_cases hk : 13 * t ≤ k
    · rw [if_pos hk, if_pos hk, decide_eq_false (by omega), Bool.xor_false]
    · rw [if_neg hk, if_neg hk, nO (by omega)]
theorem zN {t : Nat} {c : List Nat} {L : Nat} {p : LL} (hm : 13 * t ≤ 8 * p.2.length) : ∀ k, k ≤ 13 * t + 8 * p.1.length → ∀ j, yg t (bH t c L p k).1.1 (bH t c L p k).1.2 j = (yg t p.1 p.2 j ^^ (decide (j < k) && nI c L j))
  | 0, _, j => by simp [bH]
  | k + 1, hk, j => by
    have ih := zN (c := c) (L := L) hm k (by omega)
    obtain ⟨l1, l2⟩ := iY t c L p k
    rw [bH]
    by_cases hr : nI c L k = true
    · rw [if_pos hr]
      show yg t (iL t (bH t c L p k).1 k).1 (iL t (bH t c L p k).1 k).2 j = _
      rw [K3 (by omega) (by omega), ih j]
      by_cases hj : k = j
      · subst hj; rw [hr, decide_eq_false (Nat.lt_irrefl k), decide_eq_true (Nat.lt_succ_self k), decide_eq_true rfl]; simp
      · rw [decide_eq_false hj, Bool.xor_false, show decide (j < k) = decide (j < k + 1) from decide_eq_decide.2 (by omega)]
    · rw [if_neg hr, ih j]
      by_cases hj : k = j
      · subst hj; rw [Bool.not_eq_true] at hr; rw [hr]; simp
      · rw [show decide (j < k) = decide (j < k + 1) from decide_eq_decide.2 (by omega)]
theorem Fj {xs ys : List Nat} (hl : xs.length = ys.length) (hx : Small 256 xs) (hy : Small 256 ys) (h : ∀ k, k < 8 * xs.length → aR xs k = aR ys k) : xs = ys := by
  apply List.ext_getElem hl
  intro i h1 h2
  have e1 : xs.getD i 0 = xs[i] := by simp [List.getD, h1]
  have e2 : ys.getD i 0 = ys[i] := by simp [List.getD, h2]
  rw [← e1, ← e2]
  apply Nat.eq_of_testBit_eq
  intro j
  by_cases hj : j < 8
  · have := h (8 * i + j) (by omega)
    unfold aR at this
    rwa [show (8 * i + j) / 8 = i by omega, show (8 * i + j) % 8 = j by omega] at this
  · rw [iw (hx.at_ (by decide) i) (by omega), iw (hy.at_ (by decide) i) (by omega)]
theorem KE {x j i : Nat} (hx : x < 256) : (yD x j).testBit i = (x.testBit i && !decide (j = i)) := by
  unfold yD
  rw [Nat.testBit_and, Nat.testBit_xor, Nat.testBit_two_pow]
  by_cases h8 : i < 8
  · have : (255 : Nat).testBit i = true := by
      have : ∀ i, i < 8 → (255 : Nat).testBit i = true := by decide
      exact this i h8
    rw [this]; simp
  · rw [iw hx (by omega), Bool.false_and, Bool.false_and]
theorem zC {m : List Nat} {i0 : Nat} (hm : Small 256 m) : ∀ k j, aR (eG m i0 k) j = (aR m j && !(decide (i0 ≤ j) && decide (j < i0 + k)))
  | 0, j => by rw [eG]; by_cases h : i0 ≤ j <;> simp [h]
  | k + 1, j => by
    have ih := zC (i0 := i0) hm k
    have hs := ji (i0 := i0) hm k
    have hlen := iM m i0 k
    rw [eG]
    have e1 : aR ((eG m i0 k).set ((i0 + k) / 8) (yD ((eG m i0 k).getD ((i0 + k) / 8) 0) ((i0 + k) % 8))) j = (aR (eG m i0 k) j && !decide (i0 + k = j)) := by
      unfold aR
      rw [lC]
      by_cases h : (i0 + k) / 8 = j / 8 ∧ j / 8 < (eG m i0 k).length
      · rw [if_pos h, KE (hs.at_ (by decide) _), h.1]
        congr 2
        apply decide_eq_decide.2
        omega
      · rw [if_neg h]
        by_cases h2 : i0 + k = j
        · subst h2
          have h3 : (eG m i0 k).length ≤ (i0 + k) / 8 := by
            rcases Nat.lt_or_ge ((i0 + k) / 8) (eG m i0 k).length with h4 | h4
            · exact absurd ⟨rfl, h4⟩ h
            · exact h4
          rw [List.getD, List.getElem?_eq_none h3]; simp
        · rw [decide_eq_false h2]; simp
    rw [e1, ih j, Bool.and_assoc]
    congr 1
    by_cases h1 : i0 ≤ j <;> by_cases h2 : j < i0 + k <;> by_cases h3 : i0 + k = j <;> by_cases h4 : j < i0 + (k + 1) <;> first | omega | simp [h1, h2, h3, h4]
theorem Bw {t : Nat} {m : List Nat} (hm : Small 256 m) (hl : m.length = ay t) (j : Nat) : aR (dH t m) j = (decide (j < 13 * t) && aR m j) := by
  unfold dH
  rw [zC hm]
  have h8 : 13 * t ≤ 8 * ay t := by unfold ay; omega
  by_cases h : j < 13 * t
  · rw [decide_eq_false (show ¬ 13 * t ≤ j by omega), decide_eq_true h]; simp
  · rw [decide_eq_true (show 13 * t ≤ j by omega), decide_eq_false h]
    by_cases h2 : j < 13 * t + (8 * ay t - 13 * t)
    · rw [decide_eq_true h2]; simp
    · rw [gW (by omega)]; simp
theorem Fg {k : Nat} (h : k < 8191) : bW (k : Int) = npow 2 k := by
  unfold bW
  rw [show ((k : Int) % 8191).toNat = k by omega, vE (by decide) (by omega)]
theorem Lj {x : Nat} (hx : x < 8192) (m n : Nat) : npow x m = 1 → npow x n = 1 → npow x (Nat.gcd m n) = 1 := by
  induction m, n using Nat.gcd.induction with
  | H0 n => intro _ h; rw [Nat.gcd_zero_left]; exact h
  | H1 m n hm ih =>
    intro h1 h2
    rw [Nat.gcd_rec]
    refine ih ?_ h1
    have e := gU hx (m * (n / m)) (n % m)
    have h3 : ∀ k, npow 1 k = 1 := by
      intro k
      induction k with
      | zero => rfl
      | succ k ih => rw [npow, ih]; exact dM
    rw [Nat.div_add_mod, h2, ng hx, h1, h3, nk (bg _)] at e
    exact e.symm
theorem OG : ((List.range 8190).all fun d => Nat.beq (Nat.gcd (d + 1) 8191) 1) = true := by kernel_rfl
theorem KZ {d : Nat} (h0 : 0 < d) (h : d < 8191) : npow 2 d ≠ 1 := fun h1 => by
  have h2 := Lj (by decide) d 8191 h1 (wB (a := 2) (by decide) (by decide))
  have h3 := Nat.eq_of_beq_eq_true (List.all_eq_true.1 OG (d - 1) (List.mem_range.2 (by omega)))
  rw [show d - 1 + 1 = d by omega] at h3
  rw [h3] at h2
  exact absurd h2 (by decide)
theorem Lp (e : Nat) : npow 2 e ≠ 0 := xU (by decide) (by decide) e
theorem FL {e f : Nat} (h : e < f) (hf : f < 8191) : npow 2 e ≠ npow 2 f := fun he => by
  have h1 := gU (a := 2) (by decide) e (f - e)
  rw [Nat.add_sub_cancel' (Nat.le_of_lt h), ← he] at h1
  have h2 : aL (npow 2 e) (npow 2 (f - e) ^^^ 1) = 0 := by rw [bI, ← h1, dM, Nat.xor_self]
  rcases qW (bg _) (dh (k := 13) (bg _) (by decide)) h2 with h3 | h3
  · exact Lp e h3
  · exact KZ (by omega) (by omega) (pJ h3)
theorem KY {e f : Nat} (he : e < 8191) (hf : f < 8191) (h : npow 2 e = npow 2 f) : e = f := by
  rcases Nat.lt_trichotomy e f with h1 | h1 | h1
  · exact absurd h (FL h1 hf)
  · exact h1
  · exact absurd h.symm (FL h1 he)
theorem FQ {i : Nat} (h : i < 8191) : aL (npow 2 i) (bW (-(i : Int))) = 1 := by
  rcases Nat.eq_zero_or_pos i with rfl | hi
  · rw [show (-((0 : Nat) : Int)) = ((0 : Nat) : Int) from rfl, Fg (by decide)]; rfl
  · have e : bW (-(i : Int)) = npow 2 (8191 - i) := by
      unfold bW
      rw [show ((-(i : Int)) % 8191).toNat = 8191 - i by omega, vE (by decide) (by omega)]
    rw [e, ← gU (by decide), Nat.add_sub_cancel' (by omega), wB (by decide) (by decide)]
theorem neg_inj {e f : Nat} (he : e < 8191) (hf : f < 8191) (h : bW (-(e : Int)) = bW (-(f : Int))) : e = f := by
  apply KY he hf
  have h1 := FQ he
  have h2 := FQ hf
  rw [h] at h1
  have h3 : aL (npow 2 e) (aL (npow 2 f) (bW (-(f : Int)))) = aL (npow 2 f) (aL (npow 2 e) (bW (-(f : Int)))) := by
    rw [← bJ (bg _) (bg _) (jK _), ← bJ (bg _) (bg _) (jK _), eU (bg e) (bg f)]
  rw [h1, h2, dM, dM] at h3
  exact h3
theorem Ib {x : Nat} (hx : x < 8192) : ∀ n v, v < 8192 → it x n v = aL v (npow x n)
  | 0, v, _ => dM.symm
  | n + 1, v, hv => by rw [it, Ib hx n _ (aP hv), npow, bJ hv hx (bg _), eU hx (bg _)]
theorem LX {x n : Nat} (hx : x < 8192) : ∀ E : List Nat, E.Nodup → (∀ e ∈ E, e < n) → ev x (fun i => decide (i ∈ E)) n = jW (fun e => npow x e) E
  | [], _, _ => uj n (fun i _ => by simp)
  | e :: E, hn, hE => by
    have hne := List.nodup_cons.1 hn
    have ih := LX hx E hne.2 (fun e he => hE e (.tail _ he))
    have h1 : ev x (fun i => decide (i = e)) n = npow x e := by
      have hen := hE e (.head _)
      rw [om (n := e + 1) (fun i hi => decide_eq_false (by omega)) (by omega), ev, uj e (fun i hi => decide_eq_false (by omega)), decide_eq_true rfl, Nat.xor_zero, Ib hx e _ (nZ _)]
      exact nk (bg _)
    rw [jW, ← ih, ← h1, ← zx]
    refine jU n (fun i _ => ?_)
    by_cases h2 : i = e
    · subst h2; simp [hne.1]
    · simp [h2]
theorem Ho {c : Nat → Nat} {x m : Nat} (h : ∀ i, m ≤ i → c i = 0) : ∀ k, pe c x (m + k) = pe c x m
  | 0 => rfl
  | k + 1 => by rw [← Nat.add_assoc, pe, Ho h k, h _ (by omega), bX, Nat.xor_zero]
theorem wT {xs : List Nat} : ∀ n, 0 < aF xs n → xs.getD (aF xs n - 1) 0 ≠ 0
  | 0, h => absurd h (Nat.lt_irrefl 0)
  | n + 1, h => by
    rw [aF] at h ⊢
    split at h
    · rename_i h1; rw [if_pos h1]; exact wT n h
    · rename_i h1; rw [if_neg h1]; exact h1
theorem wR {k : Nat} : ∀ {E : List Nat}, E.Nodup → (E.filter fun e => decide (e < k + 1)).length = (E.filter fun e => decide (e < k)).length + (if k ∈ E then 1 else 0)
  | [], _ => rfl
  | e :: E, hn => by
    have hne := List.nodup_cons.1 hn
    have ih := wR (k := k) hne.2
    rw [List.filter_cons, List.filter_cons]
    by_cases h1 : e = k
    · subst h1
      rw [if_neg hne.1] at ih
      simp [ih]
    · by_cases h2 : e < k
      · rw [if_pos (decide_eq_true (by omega : e < k + 1)), if_pos (decide_eq_true h2), List.length_cons, List.length_cons, ih]
        have : (k ∈ e :: E) ↔ k ∈ E := by rw [List.mem_cons]; exact ⟨fun h => h.resolve_left (fun h => h1 h.symm), .inr⟩
        by_cases h3 : k ∈ E
        all_goals first | (rw [if_pos h3, if_pos (this.2 h3)]; done) | (rw [if_pos h3, if_pos (this.2 h3)]; omega) | (rw [if_neg h3, if_neg (fun h => h3 (this.1 h))]; done) | (rw [if_neg h3, if_neg (fun h => h3 (this.1 h))]; omega)
      · rw [if_neg (by simp; omega), if_neg (by simp; omega), ih]
        have : (k ∈ e :: E) ↔ k ∈ E := by rw [List.mem_cons]; exact ⟨fun h => h.resolve_left (fun h => h1 h.symm), .inr⟩
        by_cases h3 : k ∈ E
        · rw [if_pos h3, if_pos (this.2 h3)]
        · rw [if_neg h3, if_neg (fun h => h3 (this.1 h))]
theorem BS {t : Nat} {c : List Nat} {L : Nat} {p : LL} {E : List Nat} {n : Nat} (hE : E.Nodup) (hr : ∀ k, k < n → nI c L k = decide (k ∈ E)) : ∀ k, k ≤ n → (bH t c L p k).2 = (E.filter fun e => decide (e < k)).length
  | 0, _ => by
    rw [bH]
    symm
    rw [List.length_eq_zero_iff, List.filter_eq_nil_iff]
    intro e _
    simp
  | k + 1, hk => by
    have ih := BS (t := t) (p := p) hE hr k (by omega)
    rw [wR hE, bH, hr k (by omega)]
    by_cases h : k ∈ E
    · rw [if_pos (decide_eq_true h), if_pos h, ← ih]
    · rw [if_neg (by simp [h]), if_neg h, ← ih]; rfl
theorem JK {t : Nat} {d d' m' : List Nat} {E : List Nat} (ht : 1 ≤ t ∧ t ≤ 8) (hd : Small 256 d) (hdl : d.length ≤ 512) (hd' : Small 256 d') (hm' : Small 256 m') (hl : d'.length = d.length) (hml : m'.length = ay t)
    (hE : E.Nodup) (Qw : ∀ e ∈ E, e < 13 * t + 8 * d.length) (UY : E.length ≤ t) (hb : ∀ i, i < 13 * t + 8 * d.length → yg t d' m' i = (yg t d (fD t d) i ^^ decide (i ∈ E))) :
    lJ t d' m' = some ((d, fD t d), E.length) := by
  have h8 : 13 * t ≤ 8 * ay t := by unfold ay; omega
  obtain ⟨p, hp⟩ : ∃ p : LL, p = (d', dH t m') := ⟨_, rfl⟩
  obtain ⟨s, hs⟩ : ∃ s, s = dL t p := ⟨_, rfl⟩
  obtain ⟨n, hn⟩ : ∃ n, n = 13 * t + 8 * d.length := ⟨_, rfl⟩
  have UZ : n ≤ 4200 := by omega
  have Oh : (dH t m').length = ay t := by unfold dH; rw [iM, hml]
  have hp1 : p.1.length = d.length := by rw [hp]; exact hl
  have hp2 : p.2.length = ay t := by rw [hp]; exact Oh
  have hpb : ∀ i, i < n → yg t p.1 p.2 i = (yg t d (fD t d) i ^^ decide (i ∈ E)) := fun i hi => by
    rw [← hb i (by omega), hp]
    unfold yg
    split
    · rfl
    · rw [Bw hm' hml, decide_eq_true (by omega), Bool.true_and]
  have hsl : s.length = 2 * t := by rw [hs]; exact vX
  have hss : Small 8192 s := by rw [hs]; exact pW
  have hS : FN s E (npow 2) := by
    refine ⟨fun e _ => ⟨bg e, Lp e⟩, ?_, fun j hj => ?_⟩
    · refine List.Pairwise.imp_of_mem ?_ hE
      intro a b ha hb' hab h
      exact hab (KY (by have := Qw a ha; omega) (by have := Qw b hb'; omega) h)
    · have hj2 : j < 2 * t := by omega
      have e1 : co s j = hor (yg t p.1 p.2) (bW ((j + 1 : Nat) : Int)) n 0 := by
        rw [hs]
        unfold co dL kG
        rw [List.getD, List.getElem?_map, List.getElem?_range hj2, hp1, ← hn]
        rfl
      have hx := jK ((j + 1 : Nat) : Int)
      have e2 := Hu ht hd hj2
      rw [yL _ _ (by decide), kM, Nat.zero_xor, ← hn] at e2
      rw [e1, yL _ _ (by decide), kM, Nat.zero_xor, jU n hpb, zx, e2, Nat.zero_xor, LX hx E hE (fun e he => by rw [hn]; exact Qw e he)]
      refine nS (fun e _ => ?_)
      rw [Fg (by omega), ← ng (by decide), ← ng (by decide), Nat.mul_comm]
  have hI := Et hS hss s.length (Nat.le_refl _)
  obtain ⟨x, hx⟩ : ∃ x, x = gJ s s.length := ⟨_, rfl⟩
  rw [← hx] at hI
  obtain ⟨c, hc⟩ : ∃ c, c = lK s := ⟨_, rfl⟩
  have hcx : x.c = c := by rw [hc, hx]; rfl
  obtain ⟨M, hM⟩ : ∃ M, M = ni s := ⟨_, rfl⟩
  have SL : M = aF c c.length := by rw [hM, hc]; rfl
  have hc0 : co c 0 = 1 := by rw [← hcx]; exact hI.c0
  have hcd : ∀ i, x.length < i → co c i = 0 := by rw [← hcx]; exact hI.cd
  have hc8 : ∀ i, co c i < 8192 := fun i => by rw [← hcx]; exact hI.ok.cs.at_ (by decide) i
  have hle := hI.le
  have hM0 : ∀ i, M ≤ i → co c i = 0 := fun i hi => by
    rcases Nat.lt_or_ge i c.length with h | h
    · exact nX c.length i (by omega) h
    · exact qP h
  have hM1 : 1 ≤ M := by
    rcases Nat.lt_or_ge M 1 with h | h
    · have := hM0 0 (by omega); rw [hc0] at this; exact absurd this (by decide)
    · exact h
  have UR : M ≤ x.length + 1 := by
    rcases Nat.lt_or_ge (x.length + 1) M with h | h
    · exfalso
      have h1 := wT (xs := c) c.length (by rw [← SL]; omega)
      rw [← SL] at h1
      exact h1 (hcd _ (by omega))
    · exact h
  have hw := hS.weights (c := co c) hc8 hcd (fun j h1 h2 => by rw [← hcx]; exact hI.gen j h1 (by omega)) (by omega)
  have Ra : ∀ e ∈ E, e < 8191 := fun e he => by have := Qw e he; omega
  have hroot : ∀ e ∈ E, pe (co c) (bW (-(e : Int))) M = 0 := fun e he => by
    have h1 := Ny (bg (a := 2) e) (jK (-(e : Int))) (FQ (Ra e he)) hc8 x.length
    rw [hw e he] at h1
    rcases qW (Ev hc8 _) (bg _) h1.symm with h2 | h2
    · rw [show x.length + 1 = M + (x.length + 1 - M) by omega, Ho hM0] at h2
      exact h2
    · exact absurd h2 (xU (bg e) (Lp e) _)
  have ND : ∀ R : List Nat, R.Nodup → (∀ e ∈ R, e < 8191) → (∀ e ∈ R, pe (co c) (bW (-(e : Int))) M = 0) → R.length ≠ M := fun R h1 h2 h3 h4 => by
    have := Km (c := co c) hc8 (R.map fun e => bW (-((e : Nat) : Int))) (fun r hr => by
      obtain ⟨e, he, rfl⟩ := List.mem_map.1 hr
      refine ⟨jK _, ?_⟩
      rw [List.length_map, h4]; exact h3 e he) (by
      rw [List.pairwise_map]
      refine List.Pairwise.imp_of_mem ?_ h1
      intro a b ha hb' hab h
      exact hab (neg_inj (h2 a ha) (h2 b hb') h)) (by rw [List.length_map]; omega)
    rw [hc0] at this
    exact absurd this (by decide)
  have TR : M = E.length + 1 := by
    rcases Nat.lt_or_ge E.length M with h | h
    · omega
    · exact absurd (by rw [List.length_take]; omega) (ND (E.take M) (hE.sublist (List.take_sublist _ _)) (fun e he => Ra e (List.mem_of_mem_take he)) (fun e he => hroot e (List.mem_of_mem_take he)))
  have hrt : ∀ k, k < n → nI c M k = decide (k ∈ E) := fun k hk => by
    unfold nI
    apply decide_eq_decide.2
    rw [ET (jK _) hc8 M 0 (by decide), bX, Nat.zero_xor]
    constructor
    · intro h
      by_cases Sc : k ∈ E
      · exact Sc
      · exact absurd (by rw [List.length_cons, TR]) (ND (k :: E) (List.nodup_cons.2 ⟨Sc, hE⟩) (fun e he => by
          rcases List.mem_cons.1 he with rfl | he
          · omega
          · exact Ra e he) (fun e he => by
          rcases List.mem_cons.1 he with rfl | he
          · exact h
          · exact hroot e he))
    · exact hroot k
  have hcnt : (bH t c M p n).2 = E.length := by
    rw [BS hE hrt n (Nat.le_refl _), List.filter_eq_self.2]
    intro e he
    exact decide_eq_true (by rw [hn]; exact Qw e he)
  have NR : ∀ j, j < n → yg t (bH t c M p n).1.1 (bH t c M p n).1.2 j = yg t d (fD t d) j := fun j hj => by
    rw [zN (by omega) n (by omega), decide_eq_true hj, Bool.true_and, hrt j hj, hpb j hj, Bool.xor_assoc, Bool.xor_self, Bool.xor_false]
  obtain ⟨l1, l2⟩ := iY t c M p n
  have hsm : ∀ k, Small 256 (bH t c M p k).1.1 ∧ Small 256 (bH t c M p k).1.2 := fun k => by
    induction k with
    | zero => rw [bH, hp]; exact ⟨hd', ji hm' _⟩
    | succ k ih =>
      rw [bH]
      split
      · show Small 256 (iL t _ k).1 ∧ Small 256 (iL t _ k).2
        unfold iL
        split
        · exact ⟨jf ih.1 _, ih.2⟩
        · exact ⟨ih.1, jf ih.2 _⟩
      · exact ih
  have hhigh : ∀ k j, 13 * t ≤ j → aR (bH t c M p k).1.2 j = false := fun k => by
    induction k with
    | zero => intro j hj; rw [bH, hp]; show aR (dH t m') j = false; rw [Bw hm' hml, decide_eq_false (by omega), Bool.false_and]
    | succ k ih =>
      intro j hj
      rw [bH]
      split
      · show aR (iL t _ k).2 j = false
        have h6 := (iY t c M p k).2
        unfold iL
        split
        · exact ih j hj
        · rw [nO (by omega), ih j hj, decide_eq_false (by omega)]; rfl
      · exact ih j hj
  have hel := mh ht hd
  have hres : (bH t c M p n).1 = (d, fD t d) := by
    apply Prod.ext
    · refine Fj (by show (bH t c M p n).1.1.length = d.length; omega) (hsm n).1 hd (fun k hk => ?_)
      have := NR (13 * t + k) (by omega)
      unfold yg at this
      rw [if_pos (by omega), if_pos (by omega), Nat.add_sub_cancel_left] at this
      exact this
    · refine Fj (by show _ = (fD t d).length; omega) (hsm n).2 (sH ht hd) (fun k hk => ?_)
      by_cases h : k < 13 * t
      · have := NR k (by omega)
        unfold yg at this
        rw [if_neg (by omega), if_neg (by omega)] at this
        exact this
      · rw [hhigh n k (by omega)]
        exact (nu ht hd (by omega)).symm
  have hfull : bH t c M p n = ((d, fD t d), E.length) := Prod.ext hres hcnt
  unfold lJ
  rw [← hp, ← hs, ← hM, ← hc, hl, ← hn, hfull, if_neg (by omega), if_neg (fun h => h (by show E.length + 1 = M; omega)), if_neg]
  show ¬ 0 < ones (fB (dL t (d, fD t d)))
  rw [zG ht hd]
  unfold fB
  rw [List.map_replicate, show nz 0 = 0 from rfl, sP]
  decide
--END
end Go.Proofs.YtcmojpiokjhmhaaGreat
