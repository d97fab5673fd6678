import Derived.Test.YtcedojacbhnbiaaGreatP18
import Derived.Test.YtcedojacbhnbiaaGreatP16
import Derived.Test.YtcedojacbhnbiaaGreatP17
namespace Go.Proofs.YtcedojacbhnbiaaGreat
open Go.Sl Go.RowKit
set_option linter.unusedVariables false
set_option linter.unusedSimpArgs false
set_option maxRecDepth 20000
namespace ak
theorem HV (S : ak) (b p : Int) (xs : List Int) : (S.program b p xs).1.g = S.g := by unfold program; repeat (first | rfl | split)
theorem Lr (S : ak) (b : Int) : (S.erase b).1.g = S.g := by unfold erase; repeat (first | rfl | split)
theorem KR (S : ak) (b : Int) : (S.mark b).1.g = S.g := by
  unfold mark all
  repeat (first | rfl | split)
theorem KC (b : Int) (x : ak × Int) : (done b x).1.g = x.1.g := by
  unfold done
  split
  · rfl
  · split
    · exact KR _ _
    · exact KR _ _
theorem Ju (S : ak) (b p : Int) (d : List Nat) : (S.bM b p d).1.g = S.g := by
  unfold bM
  split
  · rfl
  · rw [KC, HV]
theorem Lc (S : ak) (b : Int) : (S.bD b).1.g = S.g := by
  unfold bD
  split
  · rfl
  · rw [KC, Lr]
end ak
theorem Cw.MX {C C' : Cw} {S : ak} (h : C'.sem = S) (hg : S.g = C.sem.g) : C'.g = C.g := by
  have : C'.sem.g = C.sem.g := by rw [h, hg]
  exact this
section
variable {bc bd : Nat} {C : Cw} {g : Geo} {K : World} {F : List au}
theorem CP (hC : C.Ok) (hg : C.g = g) (b p : Int) {A : Option Addr} {m cap : Nat} {d : List Nat} (hd : Seq K F A m 1 (aB .u8 d)) (h8 : Small 256 d) (hmc : m ≤ cap) (hm : m ≤ 1000000) :
    Does Tryz.prog 124 #[ptr bd 0, .int .i64 b, .int .i64 p, .slice A m cap] K (C.A bc :: bQ bd bc g :: F)
    (fun v H' => ∃ C' : Cw, C'.Ok ∧ C'.g = g ∧ H' = C'.A bc :: bQ bd bc g :: F ∧ C'.sem = (C.sem.bM b p d).1 ∧ v = .int .i64 (C.sem.bM b p d).2) := by
  subst hg
  exact (D7 hC b p hd h8 hmc hm).mono fun v H' ⟨C', h1, h2, h3, h4⟩ => ⟨C', h1, Cw.MX h3 (ak.Ju _ _ _ _), h2, h3, h4⟩
theorem BA (hC : C.Ok) (hg : C.g = g) (b : Int) : Does Tryz.prog 104 #[ptr bd 0, .int .i64 b] K (C.A bc :: bQ bd bc g :: F)
    (fun v H' => ∃ C' : Cw, C'.Ok ∧ C'.g = g ∧ H' = C'.A bc :: bQ bd bc g :: F ∧ C'.sem = (C.sem.bD b).1 ∧ v = .int .i64 (C.sem.bD b).2) := by
  subst hg
  exact (Da hC b).mono fun v H' ⟨C', h1, h2, h3, h4⟩ => ⟨C', h1, Cw.MX h3 (ak.Lc _ _), h2, h3, h4⟩
theorem nW (hC : C.Ok) (hg : C.g = g) (b p : Int) : Does Tryz.prog 90 #[ptr bd 0, .int .i64 b, .int .i64 p] K (C.A bc :: bQ bd bc g :: F)
    (fun v H' => ∃ A' c', v = .tuple #[.slice A' (C.sem.bB b p).d.length c', .int .i64 ((C.sem.bB b p).n : Nat), .int .i64 (C.sem.bB b p).err] ∧
      H' = bC (.slice A' (C.sem.bB b p).d.length c') 5 1 (C.sem.bB b p).d.length (aB .u8 (C.sem.bB b p).d) :: C.A bc :: bQ bd bc g :: F) := by
  subst hg
  exact FP hC b p
theorem ny (hC : C.Ok) (hg : C.g = g) (b n : Int) (hn : -9223372036854775808 ≤ n ∧ n ≤ 9223372036854775807) : aG Tryz.prog 126 #[ptr bd 0, .int .i64 b, .int .i64 n] K (C.A bc :: bQ bd bc g :: F) (.tuple #[.bool (C.sem.jg b n).1, .int .i64 (C.sem.jg b n).2]) := by
  subst hg
  exact Dl hC b n hn
theorem vV (hC : C.Ok) (hg : C.g = g) : Does Tryz.prog 118 #[ptr bd 0] K (C.A bc :: bQ bd bc g :: F)
    (fun v H' => ∃ A' c', v = .slice A' C.sem.good.length c' ∧ H' = bC (.slice A' C.sem.good.length c') 3 1 C.sem.good.length (ints .i64 C.sem.good) :: C.A bc :: bQ bd bc g :: F) := by
  subst hg
  exact FK hC
theorem rX (hC : C.Ok) (hg : C.g = g) : Does Tryz.prog 30 #[ptr bc 0] K (C.A bc :: F) (fun v H' => ∃ bd, v = .tuple #[ptr bd 0, .int .i64 0] ∧ H' = C.A bc :: bQ bd bc g :: F) := by
  subst hg
  exact H6 hC
end
theorem DK (a b c d : Nat) : (a ^^^ b) ^^^ (c ^^^ d) = (a ^^^ c) ^^^ (b ^^^ d) := by
  rw [Nat.xor_assoc, Nat.xor_assoc, ← Nat.xor_assoc b, ← Nat.xor_assoc c, Nat.xor_comm b c]
theorem CU {a : Nat} (h : a < 8192) : red (2 * a) = 2 * a ^^^ (if a.testBit 12 = true then 8219 else 0) := by
  have h1 : a.testBit 12 = decide (8192 ≤ 2 * a) := by
    rw [Nat.testBit_eq_decide_div_mod_eq]
    apply decide_eq_decide.2
    omega
  unfold red
  rw [h1]
  by_cases h2 : 8192 ≤ 2 * a
  · simp [h2]
  · simp [h2]
theorem LU (a b : Nat) : 2 * (a ^^^ b) = 2 * a ^^^ 2 * b := by
  apply Nat.eq_of_testBit_eq
  intro i
  rw [Nat.testBit_xor, Nat.mul_comm 2, Nat.mul_comm 2, Nat.mul_comm 2, ← Nat.pow_one 2]
  rw [iD, iD, iD, Nat.testBit_xor]
  cases decide (1 ≤ i) <;> simp
theorem Mk {a b : Nat} (ha : a < 8192) (hb : b < 8192) : red (2 * (a ^^^ b)) = red (2 * a) ^^^ red (2 * b) := by
  rw [CU ha, CU hb, CU (cB (k := 13) ha hb), LU, DK, Nat.testBit_xor]
  congr 1
  cases a.testBit 12 <;> cases b.testBit 12 <;> simp
theorem uV : ∀ (k o1 o2 a1 a2 b : Nat), a1 < 8192 → a2 < 8192 → jD k (o1 ^^^ o2) (a1 ^^^ a2) b = jD k o1 a1 b ^^^ jD k o2 a2 b
  | 0, _, _, _, _, _, _, _ => rfl
  | k + 1, o1, o2, a1, a2, b, h1, h2 => by
    rw [jD, jD, jD]
    by_cases hb : b = 0
    · rw [if_pos hb, if_pos hb, if_pos hb]
    · rw [if_neg hb, if_neg hb, if_neg hb, Mk h1 h2]
      by_cases h3 : b % 2 = 1
      · rw [if_pos h3, if_pos h3, if_pos h3, DK]
        exact uV k _ _ _ _ _ (nO h1) (nO h2)
      · rw [if_neg h3, if_neg h3, if_neg h3]
        exact uV k _ _ _ _ _ (nO h1) (nO h2)
theorem bZ {a b : Nat} (x : Nat) (ha : a < 8192) (hb : b < 8192) : aK (a ^^^ b) x = aK a x ^^^ aK b x := by
  have h := uV 13 0 0 a b x ha hb
  rwa [Nat.xor_self] at h
theorem bV (x : Nat) : aK 0 x = 0 := by
  have h := bZ (a := 0) (b := 0) x (by decide) (by decide)
  rwa [Nat.xor_self, Nat.xor_self] at h
def it (x : Nat) : Nat → Nat → Nat
  | 0, v => v
  | n + 1, v => it x n (aK v x)
theorem KO {x : Nat} : ∀ (n v : Nat), v < 8192 → it x n v < 8192
  | 0, v, h => h
  | n + 1, v, h => KO n _ (aP h)
theorem BR {x : Nat} : ∀ (n v u : Nat), v < 8192 → u < 8192 → it x n (v ^^^ u) = it x n v ^^^ it x n u
  | 0, _, _, _, _ => rfl
  | n + 1, v, u, h1, h2 => by
    rw [it, it, it, bZ x h1 h2]
    exact BR n _ _ (aP h1) (aP h2)
theorem kg (x : Nat) : ∀ n, it x n 0 = 0
  | 0 => rfl
  | n + 1 => by rw [it, bV]; exact kg x n
theorem Kg (x : Nat) : ∀ (m n v : Nat), it x (m + n) v = it x n (it x m v)
  | 0, n, v => by rw [Nat.zero_add]; rfl
  | m + 1, n, v => by rw [Nat.succ_add_eq_add_succ, Nat.add_succ, it, it]; exact Kg x m n _
def ev (x : Nat) (f : Nat → Bool) : Nat → Nat
  | 0 => 0
  | n + 1 => it x n (wI (f n)) ^^^ ev x f n
theorem mZ (b : Bool) : wI b < 8192 := by cases b <;> decide
theorem M8 {x : Nat} {f : Nat → Bool} : ∀ n, ev x f n < 8192
  | 0 => (by decide : 0 < 8192)
  | n + 1 => cB (k := 13) (KO _ _ (mZ _)) (M8 n)
theorem yZ {x : Nat} {f : Nat → Bool} : ∀ (n v : Nat), v < 8192 → hor f x n v = it x n v ^^^ ev x f n
  | 0, v, _ => by rw [hor, it, ev, Nat.xor_zero]
  | n + 1, v, h => by
    rw [hor, yZ n _ (cB (k := 13) (aP h) (mZ _)), BR n _ _ (aP h) (mZ _), it, ev, Nat.xor_assoc]
theorem jI {x : Nat} {f g : Nat → Bool} : ∀ n, (∀ i, i < n → f i = g i) → ev x f n = ev x g n
  | 0, _ => rfl
  | n + 1, h => by rw [ev, ev, h n (Nat.lt_succ_self _), jI n (fun i hi => h i (Nat.lt_succ_of_lt hi))]
theorem zx {x : Nat} {f g : Nat → Bool} : ∀ n, ev x (fun i => f i ^^ g i) n = ev x f n ^^^ ev x g n
  | 0 => (Nat.xor_self 0).symm
  | n + 1 => by
    have h : wI (f n ^^ g n) = wI (f n) ^^^ wI (g n) := by cases f n <;> cases g n <;> rfl
    rw [ev, ev, ev, zx n, h, BR _ _ _ (mZ _) (mZ _), DK]
theorem Ka {x : Nat} {f : Nat → Bool} {n : Nat} (h : ∀ i, n ≤ i → f i = false) : ∀ m, ev x f (n + m) = ev x f n
  | 0 => rfl
  | m + 1 => by
    rw [Nat.add_succ, ev, h _ (Nat.le_add_right _ _), show wI false = 0 from rfl, kg, Nat.zero_xor, Ka h m]
theorem mW {x : Nat} {f : Nat → Bool} {n m : Nat} (h : ∀ i, n ≤ i → f i = false) (hm : n ≤ m) : ev x f m = ev x f n := by
  have := Ka (x := x) h (m - n)
  rwa [Nat.add_sub_cancel' hm] at this
theorem uH {x : Nat} {f : Nat → Bool} : ∀ n, (∀ i, i < n → f i = false) → ev x f n = 0
  | 0, _ => rfl
  | n + 1, h => by rw [ev, h n (Nat.lt_succ_self _), show wI false = 0 from rfl, kg, Nat.zero_xor, uH n (fun i hi => h i (Nat.lt_succ_of_lt hi))]
theorem DL {x m : Nat} {f : Nat → Bool} : ∀ n, ev x (fun i => decide (m ≤ i) && f (i - m)) (n + m) = it x m (ev x f n)
  | 0 => by
    rw [Nat.zero_add, uH m (fun i hi => by rw [decide_eq_false (by omega)]; rfl), ev, kg]
  | n + 1 => by
    rw [Nat.succ_add, ev, ev, BR _ _ _ (KO _ _ (mZ _)) (M8 _), DL n, decide_eq_true (by omega), Bool.true_and, Nat.add_sub_cancel, Kg]
theorem Bn {x m n N : Nat} {f : Nat → Bool} (hf : ∀ i, n ≤ i → f i = false) (hN : n + m ≤ N) : ev x (fun i => decide (m ≤ i) && f (i - m)) N = it x m (ev x f n) := by
  rw [← DL n]
  refine mW (fun i hi => ?_) hN
  rw [hf _ (by omega), Bool.and_false]
theorem DR {x at_ : Nat} {out p : List Nat} (ho : Small 256 out) (hp : Small 256 p) (hl : p.length + at_ / 8 < out.length) :
    ev x (aR (iT out p at_ p.length)) (8 * out.length) = ev x (aR out) (8 * out.length) ^^^ it x at_ (ev x (aR p) (8 * p.length)) := by
  rw [← Bn (x := x) (m := at_) (N := 8 * out.length) (fun i hi => gM hi) (by omega), ← zx]
  refine jI _ (fun i _ => ?_)
  rw [oD ho hp _ hl]
  congr 1
  by_cases h : i - at_ < 8 * p.length
  · rw [decide_eq_true h, Bool.and_true]
  · rw [decide_eq_false h, Bool.and_false, Bool.false_and, gM (by omega), Bool.and_false]
theorem KE {x lq d : Nat} {p q : List Nat} (hp : Small 256 p) (hq : Small 256 q) (hlq : q.length = lq) (hld : lq = d / 8 + 1) (hx : ev x (aR q) (8 * q.length) = 0) : ∀ k, k ≤ 8 * p.length - d →
    ev x (aR (dS p q lq d k)) (8 * (p.length + 1)) = ev x (aR p) (8 * p.length)
  | 0, _ => by
    rw [dS]
    have h1 : ∀ i, aR (p ++ [0]) i = aR p i := fun i => by
      unfold aR
      congr 1
      by_cases h : i / 8 < p.length
      · simp [List.getD, List.getElem?_append_left h]
      · simp only [List.getD]
        rw [List.getElem?_append_right (by omega), List.getElem?_eq_none (by omega : p.length ≤ i / 8)]
        rcases Nat.eq_zero_or_pos (i / 8 - p.length) with h2 | h2
        · rw [h2]; rfl
        · rw [List.getElem?_eq_none (by simp; omega)]
    rw [jI _ (fun i _ => h1 i)]
    exact mW (fun i hi => gM hi) (by omega)
  | k + 1, hk => by
    have ih := KE hp hq hlq hld hx k (by omega)
    rw [dS]
    split
    · have h := DR (x := x) (at_ := 8 * p.length - 1 - k - d) (fI (lq := lq) (d := d) hp hq k) hq (by rw [dG, hlq]; omega)
      rw [dG, hx, kg, Nat.xor_zero, ih, hlq] at h
      exact h
    · exact ih
theorem mY {xs : List Nat} : ∀ n j, aC xs n ≤ j → j < n → xs.getD j 0 = 0
  | 0, _, _, h => absurd h (Nat.not_lt_zero _)
  | n + 1, j, h1, h2 => by
    rw [aC] at h1
    split at h1
    · rename_i h3
      rcases Nat.lt_or_ge j n with h | h
      · exact mY n j h1 h
      · have : j = n := by omega
        subst this; exact h3
    · omega
theorem zf {xs : List Nat} {n : Nat} (hn : n = xs.length) (k : Nat) : aR (xs.take (aC xs n)) k = aR xs k := by
  unfold aR
  congr 1
  by_cases h : k / 8 < aC xs n
  · simp [List.getD, List.getElem?_take, h]
  · have h0 : (xs.take (aC xs n)).getD (k / 8) 0 = 0 := by simp [List.getD, List.getElem?_take, h]
    rw [h0]
    by_cases h2 : k / 8 < n
    · exact (mY n _ (by omega) h2).symm
    · rw [List.getD, List.getElem?_eq_none (by omega)]; rfl
theorem Er (n k : Nat) : aR (List.replicate n 0) k = false := by
  unfold aR
  by_cases h : k / 8 < n
  · simp [List.getD, List.getElem?_replicate, h]
  · simp [List.getD, List.getElem?_replicate, h]
theorem FQ (xs : List Nat) (n k : Nat) : aR (xs ++ List.replicate n 0) k = aR xs k := by
  unfold aR
  congr 1
  by_cases h : k / 8 < xs.length
  · simp [List.getD, List.getElem?_append_left h]
  · have h0 : xs.getD (k / 8) 0 = 0 := by rw [List.getD, List.getElem?_eq_none (by omega)]; rfl
    rw [h0, List.getD, List.getElem?_append_right (by omega), List.getElem?_replicate]
    split <;> rfl
theorem Gx (t i : Nat) : aR (bS t) i = decide (i = 13 * t) := by
  unfold aR bS
  rw [kL, List.length_replicate]
  have hm : 13 * t / 8 < ay t + 1 := by unfold ay; omega
  by_cases h : 13 * t / 8 = i / 8
  · rw [if_pos ⟨h, by omega⟩, Nat.testBit_two_pow]
    apply decide_eq_decide.2
    omega
  · rw [if_neg (by omega)]
    have h0 : (List.replicate (ay t + 1) 0).getD (i / 8) 0 = 0 := by
      by_cases h : i / 8 < ay t + 1 <;> simp [List.getD, List.getElem?_replicate, h]
    rw [h0, Nat.zero_testBit, decide_eq_false (by omega)]
theorem Bh {t : Nat} {d : List Nat} : ∀ i, gY (bS t) d i = if i ≤ 13 * t then List.replicate ((bS t).length + d.length + 1) 0 else iT (List.replicate ((bS t).length + d.length + 1) 0) d (13 * t) d.length
  | 0 => by rw [gY, if_pos (Nat.zero_le _)]
  | i + 1 => by
    rw [gY, Bh i, Gx]
    by_cases h : i = 13 * t
    · rw [decide_eq_true h, if_pos rfl, if_pos (by omega), if_neg (by omega), h]
    · rw [decide_eq_false h]
      by_cases h2 : i ≤ 13 * t
      · rw [if_neg Bool.false_ne_true, if_pos h2, if_pos (by omega)]
      · rw [if_neg Bool.false_ne_true, if_neg h2, if_neg (by omega)]
def Jo (t : Nat) : Bool := (List.range (2 * t)).all fun k => decide (hor (aR (dA t)) (bT ((k + 1 : Nat) : Int)) (8 * (dA t).length) 0 = 0)
theorem IL : [1, 2, 3, 4, 5, 6, 7, 8].all Jo = true := by kernel_rfl
theorem KZ {t k : Nat} (ht : 1 ≤ t ∧ t ≤ 8) (hk : k < 2 * t) : ev (bT ((k + 1 : Nat) : Int)) (aR (dA t)) (8 * (dA t).length) = 0 := by
  have h := List.all_eq_true.1 IL t (by simp only [List.mem_cons, List.not_mem_nil, or_false]; omega)
  have h1 := of_decide_eq_true (List.all_eq_true.1 h k (List.mem_range.2 hk))
  rw [yZ _ _ (by decide), kg, Nat.zero_xor] at h1
  exact h1
theorem FM (t : Nat) (d : List Nat) : fD (bS t) d = iT (List.replicate ((bS t).length + d.length + 1) 0) d (13 * t) d.length := by
  unfold fD
  rw [Bh, if_neg]
  rw [iw]; unfold ay; omega
theorem Mx {x t : Nat} {d : List Nat} (hd : Small 256 d) : ev x (aR (fP t d)) (8 * (fP t d).length) = it x (13 * t) (ev x (aR d) (8 * d.length)) := by
  have hl : (fD (bS t) d).length = (bS t).length + d.length + 1 := eX _ _ _
  have h1 : ∀ k, aR (fP t d) k = aR (fD (bS t) d) k := fun k => by unfold fP; exact zf hl.symm k
  have h2 := DR (x := x) (at_ := 13 * t) (out := List.replicate ((bS t).length + d.length + 1) 0) (p := d) (Small.uQ (by decide)) hd (by rw [List.length_replicate, iw]; unfold ay; omega)
  rw [← FM, uH _ (fun i _ => Er _ i), Nat.zero_xor, List.length_replicate, ← hl] at h2
  rw [← h2, ← mW (x := x) (f := aR (fP t d)) (n := 8 * (fP t d).length) (m := 8 * (fD (bS t) d).length) (fun i hi => gM hi) (by unfold fP; rw [List.length_take]; omega)]
  exact jI _ (fun i _ => h1 i)
theorem yI {t : Nat} {d : List Nat} (k : Nat) : aR (fA t d) k = aR (pK t d) k := by
  unfold fA
  rw [FQ]
  unfold gD
  exact zf (kC t d).symm k
theorem l9 {t : Nat} {d : List Nat} (ht : 1 ≤ t ∧ t ≤ 8) (hd : Small 256 d) {k : Nat} (hk : 13 * t ≤ k) : aR (fA t d) k = false := by
  obtain ⟨g1, g2, g3, g4, g5⟩ := mJ ht
  rw [yI]
  exact Bb (jJ hd) g5 rfl g3 g4 hk
theorem GN {t k : Nat} {d : List Nat} (ht : 1 ≤ t ∧ t ≤ 8) (hd : Small 256 d) (hk : k < 2 * t) :
    hor (xq t d (fA t d)) (bT ((k + 1 : Nat) : Int)) (13 * t + 8 * d.length) 0 = 0 := by
  obtain ⟨g1, g2, g3, g4, g5⟩ := mJ ht
  obtain ⟨x, hx⟩ : ∃ x, x = bT ((k + 1 : Nat) : Int) := ⟨_, rfl⟩
  have hr := KZ ht hk
  rw [← hx] at hr ⊢
  rw [yZ _ _ (by decide), kg, Nat.zero_xor]
  have h1 : ∀ i, xq t d (fA t d) i = ((decide (13 * t ≤ i) && aR d (i - 13 * t)) ^^ aR (fA t d) i) := fun i => by
    unfold xq
    by_cases h : 13 * t ≤ i
    · rw [if_pos h, decide_eq_true h, Bool.true_and, l9 ht hd h, Bool.xor_false]
    · rw [if_neg h, decide_eq_false h, Bool.false_and, Bool.false_xor]
  rw [jI _ (fun i _ => h1 i), zx, Bn (n := 8 * d.length) (fun i hi => gM hi) (by omega)]
  have h2 : ev x (aR (fA t d)) (13 * t + 8 * d.length) = ev x (aR (fA t d)) (13 * t) := mW (fun i hi => l9 ht hd hi) (by omega)
  have h3 : ev x (aR (pK t d)) (8 * ((fP t d).length + 1)) = ev x (aR (fP t d)) (8 * (fP t d).length) := KE (jJ hd) g5 rfl g3 hr _ (Nat.le_refl _)
  have h4 : ev x (aR (pK t d)) (8 * ((fP t d).length + 1)) = ev x (aR (fA t d)) (13 * t) := by
    rw [← jI _ (fun i _ => yI (t := t) (d := d) i)]
    rcases Nat.le_total (13 * t) (8 * ((fP t d).length + 1)) with h | h
    · exact mW (fun i hi => l9 ht hd hi) h
    · refine (mW (fun i hi => ?_) h).symm
      rw [yI]
      exact gM (by rw [kC]; exact hi)
  rw [h2, ← h4, h3, Mx hd, Nat.xor_self]
theorem IG {x j : Nat} (hx : x < 256) (hj : x.testBit j = false) : yU x j = x := by
  unfold yU
  apply Nat.eq_of_testBit_eq
  intro i
  rw [Nat.testBit_and, Nat.testBit_xor, Nat.testBit_two_pow]
  by_cases h8 : i < 8
  · have : (255 : Nat).testBit i = true := by
      have : ∀ i, i < 8 → (255 : Nat).testBit i = true := by decide
      exact this i h8
    rw [this]
    by_cases h : j = i
    · subst h; rw [hj]; rfl
    · rw [decide_eq_false h]; simp
  · rw [gU hx (by omega), Bool.false_and]
theorem K9 {xs : List Nat} {i : Nat} : xs.set i (xs.getD i 0) = xs := by
  apply List.ext_getElem?
  intro k
  rw [List.getElem?_set]
  by_cases h : i = k
  · subst h
    by_cases hl : i < xs.length
    · simp [List.getD, hl]
    · simp [List.getElem?_eq_none (Nat.le_of_not_lt hl), hl]
  · simp [h]
theorem vH {m : List Nat} {i0 : Nat} (hm : Small 256 m) (h : ∀ k, i0 ≤ k → aR m k = false) : ∀ k, dZ m i0 k = m
  | 0 => rfl
  | k + 1 => by
    rw [dZ, vH hm h k, IG (hm.at_ (by decide) _) (h (i0 + k) (by omega)), K9]
theorem IU {t : Nat} {d : List Nat} (ht : 1 ≤ t ∧ t ≤ 8) (hd : Small 256 d) : dF t (fA t d) = fA t d := vH (ru ht hd) (fun k hk => l9 ht hd hk) _
theorem yP {t : Nat} {d : List Nat} (ht : 1 ≤ t ∧ t ≤ 8) (hd : Small 256 d) : dI t (d, fA t d) = List.replicate (2 * t) 0 := by
  unfold dI jS
  apply List.ext_getElem
  · simp
  · intro i h1 h2
    simp only [List.getElem_map, List.getElem_range, List.getElem_replicate]
    exact GN ht hd (by simpa using h1)
theorem x9 (m : Nat) : ∀ n, gy (List.replicate m 0) n = ⟨[1], [1], 0, n + 1, 1⟩
  | 0 => rfl
  | n + 1 => by
    have h0 : (List.replicate m 0).getD n 0 = 0 := by
      by_cases h : n < m <;> simp [List.getD, List.getElem?_replicate, h]
    rw [gy, x9 m n]
    unfold oM
    rw [if_pos]
    show o7 _ _ _ (min 0 _) = 0
    rw [Nat.zero_min]
    exact h0
theorem Ih (m : Nat) : kR (List.replicate m 0) = [1] ∧ mh (List.replicate m 0) = 1 := by
  have h : kR (List.replicate m 0) = [1] := by unfold kR; rw [x9]
  refine ⟨h, ?_⟩
  unfold mh
  rw [h]; rfl
theorem Al (t : Nat) (p : LL) : ∀ k, bF t [1] 1 p k = (p, 0)
  | 0 => rfl
  | k + 1 => by
    rw [bF, if_neg, Al t p k]
    unfold mP
    rw [zm, bV]
    show ¬ decide ((0 ^^^ 1 : Nat) = 0) = true
    decide
theorem qY : ∀ m, ones (List.replicate m 0) = 0
  | 0 => rfl
  | m + 1 => by rw [List.replicate_succ, ones, qY m]; rfl
theorem Ml {t : Nat} {d : List Nat} (ht : 1 ≤ t ∧ t ≤ 8) (hd : Small 256 d) : kQ t d (fA t d) = some ((d, fA t d), 0) := by
  obtain ⟨l1, l2⟩ := Ih (2 * t)
  unfold kQ
  rw [IU ht hd, yP ht hd, l1, l2, Al, if_neg (by omega), if_neg (fun h => h rfl), if_neg]
  show ¬ 0 < ones (eY (dI t (d, fA t d)))
  rw [yP ht hd]
  unfold eY
  rw [List.map_replicate, show nz 0 = 0 from rfl, qY]
  decide
theorem zq {t B : Nat} {d : List Nat} : ∀ (S j : Nat), j < S → ∃ rest, uR t B d S = uR t B d j ++ ((dL B d j ++ fA t (dL B d j)) ++ rest)
  | 0, j, h => absurd h (Nat.not_lt_zero _)
  | S + 1, j, h => by
    rw [uR]
    rcases Nat.lt_or_ge j S with h1 | h1
    · obtain ⟨r, hr⟩ := zq S j h1
      exact ⟨r ++ (dL B d S ++ fA t (dL B d S)), by rw [hr]; simp only [List.append_assoc]⟩
    · have : j = S := by omega
      subst this
      exact ⟨[], by simp only [List.append_assoc, List.append_nil]⟩
section
variable {t B S : Nat} {d : List Nat}
theorem oo (ht : 1 ≤ t ∧ t ≤ 8) (h8 : Small 256 d) (hl : d.length = S * B) {j : Nat} (hj : j < S) :
    sW B (B + ay t) (ji t S B d) j = dL B d j ∧ Db B (B + ay t) (ji t S B d) j = fA t (dL B d j) := by
  obtain ⟨r, hr⟩ := zq (t := t) (B := B) (d := d) S j hj
  have h1 := jM ht h8 hl j (by omega)
  have h2 := lG hl hj
  have h3 := kY ht (fJ h8 j (B := B))
  have hdrop : (ji t S B d).drop (j * (B + ay t)) = dL B d j ++ (fA t (dL B d j) ++ (r ++ [0])) := by
    unfold ji
    rw [hr, List.append_assoc, List.drop_left' h1]
    simp only [List.append_assoc]
  unfold sW Db
  rw [hdrop]
  refine ⟨List.take_left' h2, ?_⟩
  rw [List.drop_left' h2, Nat.add_sub_cancel_left]
  exact List.take_left' h3
theorem wF (ht : 1 ≤ t ∧ t ≤ 8) (h8 : Small 256 d) (hl : d.length = S * B) : dN t S (B + ay t) (ji t S B d) = 0 := by
  have h1 := jM ht h8 hl S (Nat.le_refl _)
  unfold dN ji
  rw [if_pos]
  rw [List.getD, List.getElem?_append_right (by omega), h1, Nat.sub_self]; rfl
theorem vZ (ht : 1 ≤ t ∧ t ≤ 8) (h8 : Small 256 d) : ∀ (k j : Nat) (acc : List Nat), gu ((List.range' j k).map fun i => some ((dL B d i, fA t (dL B d i)), 0)) acc 0 = ⟨0, acc ++ (d.drop (j * B)).take (k * B), 0⟩
  | 0, j, acc => by simp [gu]
  | k + 1, j, acc => by
    rw [List.range'_succ, List.map_cons, gu, Nat.max_self, vZ ht h8 k (j + 1) _]
    congr 1
    rw [List.append_assoc]
    congr 1
    unfold dL
    rw [show (k + 1) * B = B + k * B by rw [Nat.succ_mul, Nat.add_comm], List.take_add, List.drop_drop, Nat.succ_mul]
theorem Jd (ht : 1 ≤ t ∧ t ≤ 8) (h8 : Small 256 d) (hl : d.length = S * B) : cO t S B (ji t S B d) = ⟨0, d, 0⟩ := by
  unfold cO
  rw [if_neg (fun h => h (wF ht h8 hl))]
  have h1 : (List.range S).map (rJ t B (B + ay t) (ji t S B d)) = (List.range' 0 S).map fun i => some ((dL B d i, fA t (dL B d i)), 0) := by
    rw [← List.range_eq_range']
    apply List.map_congr_left
    intro j hj
    have hj := List.mem_range.1 hj
    unfold rJ
    obtain ⟨e1, e2⟩ := oo ht h8 hl hj
    rw [e1, e2, Ml ht (fJ h8 j)]
  rw [h1, vZ ht h8 S 0 []]
  rw [Nat.zero_mul, List.drop_zero, List.nil_append, ← hl, List.take_length]
end
structure Hd where
  (aI len num : Int)
  deriving DecidableEq
abbrev Hd.v (h : Hd) : Value := .agg #[.int .i64 h.aI, .int .i64 h.len, .int .i64 h.num]
abbrev Hd.cells (h : Hd) : List Value := [.int .i64 h.aI, .int .i64 h.len, .int .i64 h.num]
def Geo.cap (g : Geo) : Int := (g.pg - 1) * g.room
def Geo.aW (g : Geo) (n : Int) : Int := (n + g.room - 1) / g.room
def Geo.fits (g : Geo) (n : Int) : Bool := decide (0 ≤ n) && decide (n ≤ g.cap)
def Hd.may (g : Geo) (h : Hd) : Bool := g.fits h.len && decide (0 ≤ h.aI) && decide (h.aI < 64) && decide (1 ≤ h.num) && decide (h.num ≤ 1000000000)
def CS (n : Int) : List Nat := [n.toNat % 256, n.toNat / 256 % 256, n.toNat / 65536 % 256, n.toNat / 16777216 % 256]
def iU (g : Geo) (h : Hd) : List Nat := [99, 97, 115, 101] ++ CS h.aI ++ CS h.len ++ CS h.num ++ List.replicate (g.room.toNat - 16) 0
def sF (d : List Nat) (i : Nat) : Int := ((d.getD i 0 + 256 * d.getD (i + 1) 0 + 65536 * d.getD (i + 2) 0 + 16777216 * d.getD (i + 3) 0 : Nat) : Int)
def vG (d : List Nat) : Hd := ⟨sF d 4, sF d 8, sF d 12⟩
def gH (g : Geo) (d : List Nat) : Option Hd := if (vG d).may g && decide (iU g (vG d) = d) then some (vG d) else none
theorem vF (n : Int) : Small 256 (CS n) := fun x hx => by
  unfold CS at hx
  simp only [List.mem_cons, List.not_mem_nil, or_false] at hx
  rcases hx with rfl | rfl | rfl | rfl <;> exact Nat.mod_lt _ (by decide)
theorem oV (g : Geo) (h : Hd) : Small 256 (iU g h) := by
  unfold iU
  refine Small.append (Small.append (Small.append (Small.append ?_ (vF _)) (vF _)) (vF _)) (Small.uQ (by decide))
  intro x hx
  simp only [List.mem_cons, List.not_mem_nil, or_false] at hx
  omega
theorem jV {g : Geo} (hg : g.aF) (h : Hd) : (iU g h).length = g.room.toNat := by
  unfold iU CS
  unfold Geo.aF at hg
  simp only [List.length_append, List.length_cons, List.length_nil, List.length_replicate]
  have : 16 ≤ g.room := by unfold Geo.room; omega
  omega
theorem Geo.jq {g : Geo} (hg : g.aF) : 16 ≤ g.room ∧ g.room ≤ 4096 := by
  unfold Geo.aF at hg
  have := Geo.qX (a := g.se) (b := g.sb) (A := 8) (B := 512) (by omega) (by omega) (by omega) (by omega)
  unfold Geo.room
  omega
theorem Geo.rC {g : Geo} (hg : g.aF) : 16 ≤ g.cap ∧ g.cap ≤ 258048 := by
  have h1 := Geo.jq hg
  unfold Geo.aF at hg
  have h2 := Geo.qX (a := g.pg - 1) (b := g.room) (A := 63) (B := 4096) (by omega) (by omega) (by omega) (by omega)
  have h3 : 1 * g.room ≤ (g.pg - 1) * g.room := Int.mul_le_mul_of_nonneg_right (by omega) (by omega)
  unfold Geo.cap
  omega
theorem BP {n : Int} (h0 : 0 ≤ n) (h : n < 4294967296) (p q : List Nat) : sF (p ++ (CS n ++ q)) p.length = n := by
  unfold sF CS
  have e : ∀ i, (p ++ ([n.toNat % 256, n.toNat / 256 % 256, n.toNat / 65536 % 256, n.toNat / 16777216 % 256] ++ q)).getD (p.length + i) 0 = ([n.toNat % 256, n.toNat / 256 % 256, n.toNat / 65536 % 256, n.toNat / 16777216 % 256] ++ q).getD i 0 := fun i => by
    simp [List.getD, List.getElem?_append_right]
  have e0 := e 0
  rw [Nat.add_zero] at e0
  rw [e0, e 1, e 2, e 3]
  simp only [List.cons_append, List.getD_cons_zero, List.getD_cons_succ]
  omega
theorem BZ {g : Geo} {h : Hd} (hm : h.may g = true) (hg : g.aF) : vG (iU g h) = h := by
  have hc := Geo.rC hg
  unfold Hd.may Geo.fits at hm
  simp only [Bool.and_eq_true, decide_eq_true_eq] at hm
  unfold vG iU
  have h1 := BP (n := h.aI) (by omega) (by omega) [99, 97, 115, 101] (CS h.len ++ (CS h.num ++ List.replicate (g.room.toNat - 16) 0))
  have h2 := BP (n := h.len) (by omega) (by omega) ([99, 97, 115, 101] ++ CS h.aI) (CS h.num ++ List.replicate (g.room.toNat - 16) 0)
  have h3 := BP (n := h.num) (by omega) (by omega) ([99, 97, 115, 101] ++ CS h.aI ++ CS h.len) (List.replicate (g.room.toNat - 16) 0)
  simp only [← List.append_assoc] at h1 h2 h3
  rw [show ([99, 97, 115, 101] : List Nat).length = 4 from rfl] at h1
  rw [show (([99, 97, 115, 101] : List Nat) ++ CS h.aI).length = 8 from rfl] at h2
  rw [show (([99, 97, 115, 101] : List Nat) ++ CS h.aI ++ CS h.len).length = 12 from rfl] at h3
  rw [h1, h2, h3]
theorem vK {g : Geo} {h : Hd} (hm : h.may g = true) (hg : g.aF) : gH g (iU g h) = some h := by
  unfold gH
  rw [BZ hm hg, hm, decide_eq_true rfl]; rfl
section
variable {g : Geo} {K : World} {F : List au}
theorem iH (hg : g.aF) : aG Tryz.prog 122 #[g.v] K F (.tuple #[.int .i64 g.room, .int .i64 0]) := (zC g).eq (by rw [show g.may = true from decide_eq_true hg]; rfl)
theorem EL (hg : g.aF) : aG Tryz.prog 110 #[g.v] K F (.tuple #[.int .i64 g.cap, .int .i64 0]) := by
  have hc := Geo.rC hg
  have hgb := hg
  unfold Geo.aF at hgb
  have hmx : max (g.pg - 1) 0 = g.pg - 1 := by omega
  refine Does.enter Tryz.func110 rfl Tryz.ntmps110 rfl ?_
  simp only [aJ, Nat.reduceAdd]
  refine WC.sr ?_
  refine WL.box (cs := [_, _, _, _, _]) (OV.p rfl) rfl rfl (fun b1 => ?_)
  refine WL.sg rfl rfl (WL.sg rfl rfl (WL.nil (WC.sr ?_)))
  refine WL.val (V.aU (vs := [_, _, _, _, _]) ⟨Tryz.isAgg23, Tryz.sizeOf23⟩ (OV.p rfl) rfl (fun _ => by repeat (first | exact aT.gets ⟨rfl, rfl, rfl, rfl, rfl, trivial⟩ | apply aT.up))) rfl ?_
  refine WL.call (vs := [_]) Tryz.call122 ⟨OV.p rfl, trivial⟩ (iH hg) rfl ?_
  rintro _ H0 ⟨rfl, h0⟩
  subst H0
  refine WL.mv rfl rfl (WL.xt rfl rfl rfl (WL.xt rfl rfl rfl (WL.sg rfl rfl (WL.sg rfl rfl (WL.nil (WC.sr (WL.val (V.fieldAddr pJ (OV.p rfl)) rfl (WL.ld Tryz.isAgg3 rfl rfl ?_))))))))
  refine WL.sb rfl rfl rfl ?_
  refine WL.val (V.max (OV.p rfl) (OV.p rfl)) rfl (WL.mv rfl rfl ?_)
  refine WL.val (V.aA (v' := .int .i64 g.cap) (V.jQ (OV.p rfl) (OV.p rfl) (fun _ => by rw [hmx]; unfold Geo.cap at hc; omega)) (fun _ => by rw [hmx]; rfl)) rfl ?_
  refine WL.mv rfl rfl (WL.sg rfl rfl (WL.sg rfl rfl (WL.nil (WC.ret ?_))))
  exact aj.ret (H' := F) (aL.dJ rfl rfl rfl) (fun w h => h.drop 1) ⟨rfl, rfl⟩
theorem rZ (hg : g.aF) {n : Int} (hn : n ≤ 1099511627776) : aG Tryz.prog 92 #[g.v, .int .i64 n] K F (.tuple (if g.fits n then #[.int .i64 (g.aW n), .int .i64 0] else #[.int .i64 0, .int .i64 1])) := by
  have hc := Geo.rC hg
  have hr := Geo.jq hg
  refine Does.enter Tryz.func92 rfl Tryz.ntmps92 rfl ?_
  simp only [aJ, Nat.reduceAdd]
  refine WC.sr ?_
  refine WL.box (cs := [_, _, _, _, _]) (OV.p rfl) rfl rfl (fun b2 => ?_)
  refine WL.sg rfl rfl (WL.sg rfl rfl (WL.nil (WC.sr ?_)))
  refine WL.val (V.aU (vs := [_, _, _, _, _]) ⟨Tryz.isAgg23, Tryz.sizeOf23⟩ (OV.p rfl) rfl (fun _ => by repeat (first | exact aT.gets ⟨rfl, rfl, rfl, rfl, rfl, trivial⟩ | apply aT.up))) rfl ?_
  refine WL.call (vs := [_]) Tryz.call110 ⟨OV.p rfl, trivial⟩ (EL hg) rfl ?_
  rintro _ H0 ⟨rfl, h0⟩
  subst H0
  refine WL.mv rfl rfl (WL.xt rfl rfl rfl (WL.xt rfl rfl rfl (WL.sg rfl rfl (WL.sg rfl rfl (WL.nil (WC.seq (WC.sr (WL.mv rfl rfl (WL.val (V.neq (OV.p rfl) (OV.p rfl)) rfl (WL.mv rfl rfl (WL.ah (oj := _) rfl rfl rfl GC.f (V.move (OV.p rfl)) rfl (WL.ah (oj := _) rfl rfl rfl GC.f (V.lss (OV.g rfl id) (OV.p rfl)) rfl (WL.val (V.aS (OV.p rfl) (OV.g rfl id)) rfl (WL.mv rfl rfl (WL.ah (oj := _) rfl rfl rfl GC.f (V.move (OV.p rfl)) rfl (WL.ah (oj := _) rfl rfl rfl GC.f (V.move (OV.p rfl)) rfl (WL.ah (oj := _) rfl rfl rfl GC.f (V.gtr (OV.g rfl id) (OV.g rfl id)) rfl (WL.val (V.aS (OV.p rfl) (OV.g rfl id)) rfl (WL.nil ?_)))))))))))))))))))
  refine WC.cond rfl (fun hc0 => ?_) (fun hc0 => ?_)
  ·skip
   have h0 := hc0
   have he : g.fits n = !(!decide ((0 : Int) = 0) || decide (n < 0) || decide (g.cap < n)) := by
     unfold Geo.fits
     by_cases h1 : 0 ≤ n <;> by_cases h2 : n ≤ g.cap <;> simp [h1, h2] <;> omega
   have hf := he
   rw [h0] at hf
   rw [hf]
   refine WC.sr (WL.sg rfl rfl (WL.sg rfl rfl (WL.nil (WC.ret ?_))))
   exact aj.ret (H' := F) (aL.dJ rfl rfl rfl) (fun w h => h.drop 1) ⟨rfl, rfl⟩
  ·skip
   have h0 := hc0
   have he : g.fits n = !(!decide ((0 : Int) = 0) || decide (n < 0) || decide (g.cap < n)) := by
     unfold Geo.fits
     by_cases h1 : 0 ≤ n <;> by_cases h2 : n ≤ g.cap <;> simp [h1, h2] <;> omega
   have hf := he
   rw [h0] at hf
   rw [hf]
   have MK := hf
   unfold Geo.fits at MK
   simp only [Bool.not_false, Bool.and_eq_true, decide_eq_true_eq] at MK
   refine WC.skip (WC.sr ?_)
   refine WL.val (V.aU (vs := [_, _, _, _, _]) ⟨Tryz.isAgg23, Tryz.sizeOf23⟩ (OV.p rfl) rfl (fun _ => by repeat (first | exact aT.gets ⟨rfl, rfl, rfl, rfl, rfl, trivial⟩ | apply aT.up))) rfl ?_
   refine WL.call (vs := [_]) Tryz.call122 ⟨OV.p rfl, trivial⟩ (iH hg) rfl ?_
   rintro _ H0 ⟨rfl, h0⟩
   subst H0
   refine WL.mv rfl rfl (WL.xt rfl rfl rfl (WL.xt rfl rfl rfl (WL.sg rfl rfl (WL.sg rfl rfl (WL.nil (WC.sr (WL.mv rfl rfl (WL.mv rfl rfl (WL.ad rfl rfl rfl ?_)))))))))
   refine WL.sb rfl rfl rfl ?_
   refine WL.mv rfl rfl ?_
   refine WL.val (V.rR (OV.p rfl) (OV.p rfl) (fun hc => by first | omega | (simp at hc; omega))) rfl ?_
   refine WL.sg rfl rfl (WL.sg rfl rfl (WL.nil (WC.ret ?_)))
   exact aj.ret (H' := F) (aL.dJ rfl rfl rfl) (fun w h => h.drop 1) ⟨rfl, rfl⟩
theorem Jv (hg : g.aF) (h : Hd) (hn : h.len ≤ 1099511627776) : aG Tryz.prog 189 #[g.v, h.v] K F (.bool (h.may g)) := by
  obtain ⟨e, he⟩ : ∃ e : Int, e = if g.fits h.len then 0 else 1 := ⟨_, rfl⟩
  obtain ⟨pn, hp⟩ : ∃ pn : Int, pn = if g.fits h.len then g.aW h.len else 0 := ⟨_, rfl⟩
  refine Does.enter Tryz.func189 rfl Tryz.ntmps189 rfl ?_
  simp only [aJ, Nat.reduceAdd]
  refine WC.sr ?_
  refine WL.box (cs := [_, _, _, _, _]) (OV.p rfl) rfl rfl (fun b2 => ?_)
  refine WL.box (cs := [_, _, _]) (OV.p rfl) rfl rfl (fun b3 => ?_)
  refine WL.sg rfl rfl (WL.nil (WC.sr ?_))
  refine WL.val (V.aU (vs := [_, _, _, _, _]) ⟨Tryz.isAgg23, Tryz.sizeOf23⟩ (OV.p rfl) rfl (fun _ => by repeat (first | exact aT.gets ⟨rfl, rfl, rfl, rfl, rfl, trivial⟩ | apply aT.up))) rfl ?_
  refine WL.val (V.fieldAddr tJ (OV.p rfl)) rfl (WL.ld Tryz.isAgg3 rfl rfl ?_)
  refine WL.call (vs := [_, _]) Tryz.call92 ⟨OV.p rfl, OV.p rfl, trivial⟩ (aG.eq (v' := .tuple #[.int .i64 pn, .int .i64 e]) (rZ hg hn) (by rw [hp, he]; cases g.fits h.len <;> rfl)) rfl ?_
  rintro _ H0 ⟨rfl, h0⟩
  subst H0
  refine WL.mv rfl rfl (WL.xt rfl rfl rfl (WL.xt rfl rfl rfl (WL.sg rfl rfl (WL.sg rfl rfl (WL.nil (WC.sr (WL.mv rfl rfl (WL.val (V.eql (OV.p rfl) (OV.p rfl)) rfl (WL.mv rfl rfl (WL.ah (oj := _) rfl rfl rfl GC.t (V.fieldAddr xG (OV.p rfl)) rfl ?_))))))))))
  refine WL.ah (oj := _) rfl rfl rfl GC.t (V.load Tryz.isAgg3 (OV.g rfl id) (fun _ => by repeat (first | exact Rd.here rfl | apply Rd.up))) rfl ?_
  refine WL.ah (oj := _) rfl rfl rfl GC.t (V.geq (OV.g rfl id) (OV.p rfl)) rfl (WL.val (V.aD (OV.p rfl) (OV.g rfl id)) rfl (WL.mv rfl rfl (WL.ah (oj := _) rfl rfl rfl GC.t (V.fieldAddr xG (OV.p rfl)) rfl ?_)))
  refine WL.ah (oj := _) rfl rfl rfl GC.t (V.load Tryz.isAgg3 (OV.g rfl id) (fun _ => by repeat (first | exact Rd.here rfl | apply Rd.up))) rfl ?_
  refine WL.ah (oj := _) rfl rfl rfl GC.t (V.lss (OV.g rfl id) (OV.p rfl)) rfl (WL.val (V.aD (OV.p rfl) (OV.g rfl id)) rfl (WL.mv rfl rfl (WL.ah (oj := _) rfl rfl rfl GC.t (V.fieldAddr jr (OV.p rfl)) rfl ?_)))
  refine WL.ah (oj := _) rfl rfl rfl GC.t (V.load Tryz.isAgg3 (OV.g rfl id) (fun _ => by repeat (first | exact Rd.here rfl | apply Rd.up))) rfl ?_
  refine WL.ah (oj := _) rfl rfl rfl GC.t (V.geq (OV.g rfl id) (OV.p rfl)) rfl (WL.val (V.aD (OV.p rfl) (OV.g rfl id)) rfl (WL.mv rfl rfl (WL.ah (oj := _) rfl rfl rfl GC.t (V.fieldAddr jr (OV.p rfl)) rfl ?_)))
  refine WL.ah (oj := _) rfl rfl rfl GC.t (V.load Tryz.isAgg3 (OV.g rfl id) (fun _ => by repeat (first | exact Rd.here rfl | apply Rd.up))) rfl ?_
  refine WL.ah (oj := _) rfl rfl rfl GC.t (V.leq (OV.g rfl id) (OV.p rfl)) rfl (WL.val (V.aD (OV.p rfl) (OV.g rfl id)) rfl (WL.sg rfl rfl (WL.nil (WC.ret ?_))))
  refine aj.ret (H' := F) (aL.tmp rfl rfl) (fun w h => h.drop 2) ⟨?_, rfl⟩
  unfold Hd.may
  congr 1
  cases hf : g.fits h.len with
  | true => rw [hf] at he; rw [he]; rfl
  | false => rw [hf] at he; rw [he]; rfl
def qF (n : Int) : List Value := [.int .u8 (IntKind.u8.wrap n), .int .u8 (IntKind.u8.wrap (n.fdiv (2 ^ (min (8 : Int).toNat IntKind.i64.bits)))), .int .u8 (IntKind.u8.wrap (n.fdiv (2 ^ (min (16 : Int).toNat IntKind.i64.bits)))), .int .u8 (IntKind.u8.wrap (n.fdiv (2 ^ (min (24 : Int).toNat IntKind.i64.bits))))]
theorem GZ (n : Int) : IntKind.u8.wrap n = n % 256 := by
  simp only [IntKind.wrap, IntKind.bits, IntKind.signed]; simp
theorem vv {n : Int} (h : 0 ≤ n) : qF n = aB .u8 (CS n) := by
  unfold qF CS aB
  rw [GZ, GZ, GZ, GZ, show (2 : Int) ^ (min (8 : Int).toNat IntKind.i64.bits) = 256 from rfl, show (2 : Int) ^ (min (16 : Int).toNat IntKind.i64.bits) = 65536 from rfl, show (2 : Int) ^ (min (24 : Int).toNat IntKind.i64.bits) = 16777216 from rfl,
    Int.fdiv_eq_ediv_of_nonneg _ (by decide), Int.fdiv_eq_ediv_of_nonneg _ (by decide), Int.fdiv_eq_ediv_of_nonneg _ (by decide)]
  simp only [List.map_cons, List.map_nil]
  congr 1
  · congr 1; omega
  congr 1
  · congr 1; omega
  congr 1
  · congr 1; omega
  congr 1
  congr 1; omega
theorem mF (n : Int) : ∀ u ∈ qF n, u.oneCell' = true := by unfold qF; simp [Value.oneCell']
theorem Ky {A B : Option Addr} {cs : List Value} {x y z : Int} (hs : Seq K F A 4 1 cs) (hq : Seq K F B 3 1 [.int .i64 x, .int .i64 y, .int .i64 z]) :
    Does Tryz.prog 190 #[.slice A 4 4, .slice B 3 3] K F (fun v H' => ∃ A' c', v = .slice A' 16 c' ∧ H' = bC (.slice A' 16 c') 5 1 16 (cs ++ qF x ++ qF y ++ qF z) :: F) := by
  have hsl := hs.len
  have rd : ∀ (i : Nat) v, [Value.int .i64 x, .int .i64 y, .int .i64 z][i]? = some v → Rd K F (B.map (·.add (i * 1))) v := fun i v hi => by rw [Nat.mul_one]; exact hq.rd i v hi
  refine Does.enter Tryz.func190 rfl Tryz.ntmps190 rfl ?_
  simp only [aJ, Nat.reduceAdd]
  refine WC.sr (WL.sg rfl rfl (WL.nil (WC.seq (WC.sr (WL.mv rfl rfl (WL.val (V.len (t := 124) Tryz.runUnderlying124 (OV.p rfl)) rfl (WL.mv rfl rfl (WL.nil (WC.block (WC.rounds 4 (WC.sr (WL.val (V.lss (OV.p rfl) (OV.p rfl)) rfl (WL.nil (WC.seq ?_))))))))))))))
  refine WC.bU rfl (by first | rfl | (simp; done) | (simp; omega)) ?_
  refine WC.skip (WC.seq (WC.block (WC.sr ?_)))
  refine WL.val (V.fu bO (OV.p rfl) (OV.p rfl) (fun _ => by decide) (fun _ => by first | exact rd 0 _ rfl | exact Rd.up (rd 1 _ rfl) | exact Rd.up (Rd.up (rd 1 _ rfl)) | exact Rd.up (Rd.up (rd 2 _ rfl)) | exact Rd.up (Rd.up (Rd.up (rd 2 _ rfl))) | exact Rd.up (Rd.up (Rd.up (Rd.up (rd 2 _ rfl)))))) rfl ?_
  refine WL.val (V.load Tryz.isAgg3 (OV.p rfl) (fun _ => by first | exact rd 0 _ rfl | exact Rd.up (rd 1 _ rfl) | exact Rd.up (Rd.up (rd 1 _ rfl)) | exact Rd.up (Rd.up (rd 2 _ rfl)) | exact Rd.up (Rd.up (Rd.up (rd 2 _ rfl))) | exact Rd.up (Rd.up (Rd.up (Rd.up (rd 2 _ rfl)))))) rfl ?_
  refine WL.sg rfl rfl (WL.nil (WC.region (WL.mv rfl rfl (WL.mv rfl rfl (WL.val (V.iM Tryz.runUnderlying3 Tryz.runUnderlying5 (OV.p rfl)) rfl (WL.mv rfl rfl ?_))))))
  refine WL.val (V.shr (OV.p rfl) (OV.p rfl) (by omega)) rfl ?_
  refine WL.val (V.iM Tryz.runUnderlying3 Tryz.runUnderlying5 (OV.p rfl)) rfl (WL.mv rfl rfl ?_)
  refine WL.val (V.shr (OV.p rfl) (OV.p rfl) (by omega)) rfl ?_
  refine WL.val (V.iM Tryz.runUnderlying3 Tryz.runUnderlying5 (OV.p rfl)) rfl (WL.mv rfl rfl ?_)
  refine WL.val (V.shr (OV.p rfl) (OV.p rfl) (by omega)) rfl ?_
  refine WL.val (V.iM Tryz.runUnderlying3 Tryz.runUnderlying5 (OV.p rfl)) rfl ?_
  refine WL.buildSlice (E := 5) (cs := [_, _, _, _]) (vs := [(0, _), (1, _), (2, _), (3, _)]) ⟨OV.p rfl, OV.p rfl, OV.p rfl, OV.p rfl, trivial⟩ rfl (iE _ _ _ _) rfl (fun Ms => ?_)
  first
  | refine WL.qA (m := 4) (q := 4) (cs := cs) (news := qF x) Tryz.underlying34 vP (OV.p rfl) (OV.p rfl) (by repeat (first | exact hs | apply Seq.up)) (Seq.all rfl) (by decide) (by decide) (by decide) (by decide) rfl rfl (fun A1 c1 hA1 hc1 => ?_)
  | (refine WL.sub (Sub.refl _) (fun w h => h.sel 2 [1, 0] rfl) ?_
     refine WL.append (m := 8) (q := 4) (news := qF y) Tryz.underlying34 vP (OV.p rfl) (OV.p rfl) (Seq.all rfl) (mF _) (by decide) rfl rfl (fun A2 c2 hA2 hc2 => ?_))
  | (refine WL.sub (Sub.refl _) (fun w h => h.sel 2 [1, 0] rfl) ?_
     refine WL.append (m := 12) (q := 4) (news := qF z) Tryz.underlying34 vP (OV.p rfl) (OV.p rfl) (Seq.all rfl) (mF _) (by decide) rfl rfl (fun A3 c3 hA3 hc3 => ?_))
  refine WL.sg rfl rfl (WL.nil (WC.region ?_))
  refine WL.val (V.aA (v' := .int .i64 (1)) (V.add (OV.p rfl) (OV.p rfl)) (fun _ => rfl)) rfl ?_
  refine WL.mv rfl rfl (WL.nil (WC.sr (WL.val (V.lss (OV.p rfl) (OV.p rfl)) rfl (WL.nil (WC.seq ?_)))))
  refine WC.bU rfl (by first | rfl | (simp; done) | (simp; omega)) ?_
  refine WC.skip (WC.seq (WC.block (WC.sr ?_)))
  refine WL.val (V.fu bO (OV.p rfl) (OV.p rfl) (fun _ => by decide) (fun _ => by first | exact rd 0 _ rfl | exact Rd.up (rd 1 _ rfl) | exact Rd.up (Rd.up (rd 1 _ rfl)) | exact Rd.up (Rd.up (rd 2 _ rfl)) | exact Rd.up (Rd.up (Rd.up (rd 2 _ rfl))) | exact Rd.up (Rd.up (Rd.up (Rd.up (rd 2 _ rfl)))))) rfl ?_
  refine WL.val (V.load Tryz.isAgg3 (OV.p rfl) (fun _ => by first | exact rd 0 _ rfl | exact Rd.up (rd 1 _ rfl) | exact Rd.up (Rd.up (rd 1 _ rfl)) | exact Rd.up (Rd.up (rd 2 _ rfl)) | exact Rd.up (Rd.up (Rd.up (rd 2 _ rfl))) | exact Rd.up (Rd.up (Rd.up (Rd.up (rd 2 _ rfl)))))) rfl ?_
  refine WL.sg rfl rfl (WL.nil (WC.region (WL.mv rfl rfl (WL.mv rfl rfl (WL.val (V.iM Tryz.runUnderlying3 Tryz.runUnderlying5 (OV.p rfl)) rfl (WL.mv rfl rfl ?_))))))
  refine WL.val (V.shr (OV.p rfl) (OV.p rfl) (by omega)) rfl ?_
  refine WL.val (V.iM Tryz.runUnderlying3 Tryz.runUnderlying5 (OV.p rfl)) rfl (WL.mv rfl rfl ?_)
  refine WL.val (V.shr (OV.p rfl) (OV.p rfl) (by omega)) rfl ?_
  refine WL.val (V.iM Tryz.runUnderlying3 Tryz.runUnderlying5 (OV.p rfl)) rfl (WL.mv rfl rfl ?_)
  refine WL.val (V.shr (OV.p rfl) (OV.p rfl) (by omega)) rfl ?_
  refine WL.val (V.iM Tryz.runUnderlying3 Tryz.runUnderlying5 (OV.p rfl)) rfl ?_
  refine WL.buildSlice (E := 5) (cs := [_, _, _, _]) (vs := [(0, _), (1, _), (2, _), (3, _)]) ⟨OV.p rfl, OV.p rfl, OV.p rfl, OV.p rfl, trivial⟩ rfl (iE _ _ _ _) rfl (fun Ms => ?_)
  first
  | refine WL.qA (m := 4) (q := 4) (cs := cs) (news := qF x) Tryz.underlying34 vP (OV.p rfl) (OV.p rfl) (by repeat (first | exact hs | apply Seq.up)) (Seq.all rfl) (by decide) (by decide) (by decide) (by decide) rfl rfl (fun A1 c1 hA1 hc1 => ?_)
  | (refine WL.sub (Sub.refl _) (fun w h => h.sel 2 [1, 0] rfl) ?_
     refine WL.append (m := 8) (q := 4) (news := qF y) Tryz.underlying34 vP (OV.p rfl) (OV.p rfl) (Seq.all rfl) (mF _) (by decide) rfl rfl (fun A2 c2 hA2 hc2 => ?_))
  | (refine WL.sub (Sub.refl _) (fun w h => h.sel 2 [1, 0] rfl) ?_
     refine WL.append (m := 12) (q := 4) (news := qF z) Tryz.underlying34 vP (OV.p rfl) (OV.p rfl) (Seq.all rfl) (mF _) (by decide) rfl rfl (fun A3 c3 hA3 hc3 => ?_))
  refine WL.sg rfl rfl (WL.nil (WC.region ?_))
  refine WL.val (V.aA (v' := .int .i64 (2)) (V.add (OV.p rfl) (OV.p rfl)) (fun _ => rfl)) rfl ?_
  refine WL.mv rfl rfl (WL.nil (WC.sr (WL.val (V.lss (OV.p rfl) (OV.p rfl)) rfl (WL.nil (WC.seq ?_)))))
  refine WC.bU rfl (by first | rfl | (simp; done) | (simp; omega)) ?_
  refine WC.skip (WC.seq (WC.block (WC.sr ?_)))
  refine WL.val (V.fu bO (OV.p rfl) (OV.p rfl) (fun _ => by decide) (fun _ => by first | exact rd 0 _ rfl | exact Rd.up (rd 1 _ rfl) | exact Rd.up (Rd.up (rd 1 _ rfl)) | exact Rd.up (Rd.up (rd 2 _ rfl)) | exact Rd.up (Rd.up (Rd.up (rd 2 _ rfl))) | exact Rd.up (Rd.up (Rd.up (Rd.up (rd 2 _ rfl)))))) rfl ?_
  refine WL.val (V.load Tryz.isAgg3 (OV.p rfl) (fun _ => by first | exact rd 0 _ rfl | exact Rd.up (rd 1 _ rfl) | exact Rd.up (Rd.up (rd 1 _ rfl)) | exact Rd.up (Rd.up (rd 2 _ rfl)) | exact Rd.up (Rd.up (Rd.up (rd 2 _ rfl))) | exact Rd.up (Rd.up (Rd.up (Rd.up (rd 2 _ rfl)))))) rfl ?_
  refine WL.sg rfl rfl (WL.nil (WC.region (WL.mv rfl rfl (WL.mv rfl rfl (WL.val (V.iM Tryz.runUnderlying3 Tryz.runUnderlying5 (OV.p rfl)) rfl (WL.mv rfl rfl ?_))))))
  refine WL.val (V.shr (OV.p rfl) (OV.p rfl) (by omega)) rfl ?_
  refine WL.val (V.iM Tryz.runUnderlying3 Tryz.runUnderlying5 (OV.p rfl)) rfl (WL.mv rfl rfl ?_)
  refine WL.val (V.shr (OV.p rfl) (OV.p rfl) (by omega)) rfl ?_
  refine WL.val (V.iM Tryz.runUnderlying3 Tryz.runUnderlying5 (OV.p rfl)) rfl (WL.mv rfl rfl ?_)
  refine WL.val (V.shr (OV.p rfl) (OV.p rfl) (by omega)) rfl ?_
  refine WL.val (V.iM Tryz.runUnderlying3 Tryz.runUnderlying5 (OV.p rfl)) rfl ?_
  refine WL.buildSlice (E := 5) (cs := [_, _, _, _]) (vs := [(0, _), (1, _), (2, _), (3, _)]) ⟨OV.p rfl, OV.p rfl, OV.p rfl, OV.p rfl, trivial⟩ rfl (iE _ _ _ _) rfl (fun Ms => ?_)
  first
  | refine WL.qA (m := 4) (q := 4) (cs := cs) (news := qF x) Tryz.underlying34 vP (OV.p rfl) (OV.p rfl) (by repeat (first | exact hs | apply Seq.up)) (Seq.all rfl) (by decide) (by decide) (by decide) (by decide) rfl rfl (fun A1 c1 hA1 hc1 => ?_)
  | (refine WL.sub (Sub.refl _) (fun w h => h.sel 2 [1, 0] rfl) ?_
     refine WL.append (m := 8) (q := 4) (news := qF y) Tryz.underlying34 vP (OV.p rfl) (OV.p rfl) (Seq.all rfl) (mF _) (by decide) rfl rfl (fun A2 c2 hA2 hc2 => ?_))
  | (refine WL.sub (Sub.refl _) (fun w h => h.sel 2 [1, 0] rfl) ?_
     refine WL.append (m := 12) (q := 4) (news := qF z) Tryz.underlying34 vP (OV.p rfl) (OV.p rfl) (Seq.all rfl) (mF _) (by decide) rfl rfl (fun A3 c3 hA3 hc3 => ?_))
  refine WL.sg rfl rfl (WL.nil (WC.region ?_))
  refine WL.val (V.aA (v' := .int .i64 (3)) (V.add (OV.p rfl) (OV.p rfl)) (fun _ => rfl)) rfl ?_
  refine WL.mv rfl rfl (WL.nil (WC.sr (WL.val (V.lss (OV.p rfl) (OV.p rfl)) rfl (WL.nil (WC.seq ?_)))))
  refine WC.aM rfl (by first | rfl | (simp; done) | (simp; omega)) ?_
  refine WC.exit (WC.sr (WL.mv rfl rfl (WL.sg rfl rfl (WL.nil (WC.ret ?_)))))
  exact aj.ret (H' := bC (.slice A3 16 c3) _ 1 16 _ :: F) (aL.tmp rfl rfl) (fun w h => h.sel 4 [0] rfl) ⟨A3, c3, rfl, rfl⟩
end
end Go.Proofs.YtcedojacbhnbiaaGreat
