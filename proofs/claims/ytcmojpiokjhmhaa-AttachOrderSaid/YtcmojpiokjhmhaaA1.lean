/- Sorting in place by parts: swaps of two, of ranges, turning, merging by symmetry. Plain. -/
import Derived.Test.YtcmojpiokjhmhaaT3
namespace Go.Proofs.Ytcmojpiokjhmhaa
open Go.Sl Go.RowKit
set_option linter.unusedVariables false
set_option linter.unusedSimpArgs false
set_option maxRecDepth 20000

abbrev el (ys : List Fd) (x : Nat) : Fd := ys.getD x fd0
theorem el_set (l : List Fd) (j i : Nat) (v : Fd) : el (l.set j v) i = if i = j ∧ j < l.length then v else el l i := by
  simp only [List.getD, List.getElem?_set]
  by_cases h : j = i
  · subst h
    by_cases h2 : j < l.length
    · rw [if_pos rfl, if_pos h2, if_pos ⟨rfl, h2⟩]; rfl
    · rw [if_pos rfl, if_neg h2, if_neg (fun hh => h2 hh.2), List.getElem?_eq_none (by omega)]
  · rw [if_neg h, if_neg (fun hh => h hh.1.symm)]
/-- The same but within a part, where they are put in another order. -/
structure Rg (a b : Nat) (ys zs : List Fd) : Prop where
  len : zs.length = ys.length
  perm : List.Perm zs ys
  out : ∀ x, (x < a ∨ b ≤ x) → el zs x = el ys x
  inn : ∀ x, a ≤ x → x < b → ∃ y, a ≤ y ∧ y < b ∧ el zs x = el ys y
theorem Rg.refl (a b : Nat) (ys : List Fd) : Rg a b ys ys := ⟨rfl, List.Perm.refl _, fun _ _ => rfl, fun x h1 h2 => ⟨x, h1, h2, rfl⟩⟩
theorem Rg.trans {a b : Nat} {ys zs ws : List Fd} (h : Rg a b ys zs) (h' : Rg a b zs ws) : Rg a b ys ws :=
  ⟨h'.len.trans h.len, h'.perm.trans h.perm, fun x hx => (h'.out x hx).trans (h.out x hx), fun x h1 h2 => by
    obtain ⟨y, k1, k2, k3⟩ := h'.inn x h1 h2
    obtain ⟨z, q1, q2, q3⟩ := h.inn y k1 k2
    exact ⟨z, q1, q2, k3.trans q3⟩⟩
theorem Rg.wider {a b a' b' : Nat} {ys zs : List Fd} (h : Rg a b ys zs) (ha : a' ≤ a) (hb : b ≤ b') : Rg a' b' ys zs :=
  ⟨h.len, h.perm, fun x hx => h.out x (by omega), fun x h1 h2 => by
    by_cases hx : a ≤ x ∧ x < b
    · obtain ⟨y, k1, k2, k3⟩ := h.inn x hx.1 hx.2
      exact ⟨y, by omega, by omega, k3⟩
    · exact ⟨x, h1, h2, h.out x (by omega)⟩⟩
def swp (ys : List Fd) (i j : Nat) : List Fd := (ys.set i (el ys j)).set j (el ys i)
theorem swp_len (ys : List Fd) (i j : Nat) : (swp ys i j).length = ys.length := by unfold swp; rw [List.length_set, List.length_set]
theorem swp_at {ys : List Fd} {i j : Nat} (hi : i < ys.length) (hj : j < ys.length) (x : Nat) : el (swp ys i j) x = if x = j then el ys i else if x = i then el ys j else el ys x := by
  unfold swp
  rw [el_set, List.length_set, el_set]
  by_cases h1 : x = j
  · rw [if_pos ⟨h1, hj⟩, if_pos h1]
  · rw [if_neg (fun hh => h1 hh.1), if_neg h1]
    by_cases h2 : x = i
    · rw [if_pos ⟨h2, hi⟩, if_pos h2]
    · rw [if_neg (fun hh => h2 hh.1), if_neg h2]
theorem swp_perm {ys : List Fd} {i j : Nat} (hi : i < ys.length) (hj : j < ys.length) : List.Perm (swp ys i j) ys := by
  unfold swp
  have e1 : el ys i = ys[i] := by simp [List.getD, hi]
  have e2 : el ys j = ys[j] := by simp [List.getD, hj]
  rw [e1, e2]
  exact List.set_set_perm hi hj
theorem swp_rg {ys : List Fd} {i j a b : Nat} (hi : a ≤ i ∧ i < b) (hj : a ≤ j ∧ j < b) (hb : b ≤ ys.length) : Rg a b ys (swp ys i j) := by
  have h := swp_at (ys := ys) (i := i) (j := j) (by omega) (by omega)
  refine ⟨swp_len _ _ _, swp_perm (by omega) (by omega), fun x hx => ?_, fun x h1 h2 => ?_⟩
  · rw [h, if_neg (by omega), if_neg (by omega)]
  · rw [h]
    by_cases e1 : x = j
    · exact ⟨i, hi.1, hi.2, if_pos e1⟩
    · rw [if_neg e1]
      by_cases e2 : x = i
      · exact ⟨j, hj.1, hj.2, if_pos e2⟩
      · exact ⟨x, h1, h2, if_neg e2⟩
/-- Two parts are swapped. -/
structure Swd (a b n : Nat) (ys zs : List Fd) : Prop where
  len : zs.length = ys.length
  perm : List.Perm zs ys
  at_ : ∀ x, el zs x = if a ≤ x ∧ x < a + n then el ys (x + (b - a)) else if b ≤ x ∧ x < b + n then el ys (x - (b - a)) else el ys x
theorem Swd.zero (a b : Nat) (ys : List Fd) : Swd a b 0 ys ys := ⟨rfl, List.Perm.refl _, fun x => by rw [if_neg (by omega), if_neg (by omega)]⟩
theorem Swd.step {a b k n : Nat} {ys zs : List Fd} (h : Swd a b k ys zs) (hk : k < n) (hab : a + n ≤ b) (hb : b + n ≤ ys.length) : Swd a b (k + 1) ys (swp zs (a + k) (b + k)) := by
  have hl := h.len
  have h2 := swp_at (ys := zs) (i := a + k) (j := b + k) (by omega) (by omega)
  refine ⟨(swp_len _ _ _).trans hl, (swp_perm (by omega) (by omega)).trans h.perm, fun x => ?_⟩
  rw [h2]
  simp only [h.at_]
  repeat' split
  all_goals first
    | omega
    | (congr 1 <;> omega)
/-- A part is turned: from m on first. -/
structure Rot (a m b : Nat) (ys zs : List Fd) : Prop where
  len : zs.length = ys.length
  perm : List.Perm zs ys
  at_ : ∀ x, el zs x = if a ≤ x ∧ x < a + (b - m) then el ys (x + (m - a)) else if a + (b - m) ≤ x ∧ x < b then el ys (x - (b - m)) else el ys x
theorem Rot.none {a m b : Nat} (ys : List Fd) (h : m = a ∨ m = b) (h1 : a ≤ m) (h2 : m ≤ b) : Rot a m b ys ys := ⟨rfl, List.Perm.refl _, fun x => by
  repeat' split
  all_goals first
    | rfl
    | (congr 1 <;> omega)⟩
theorem Rot.big {m i j : Nat} {ys zs ws : List Fd} (h : Swd (m - i) m j ys zs) (h' : Rot (m - i + j) m (m + j) zs ws) (hij : j < i) (hm : i ≤ m) : Rot (m - i) m (m + j) ys ws :=
  ⟨h'.len.trans h.len, h'.perm.trans h.perm, fun x => by
    rw [h'.at_]
    simp only [h.at_]
    repeat' split
    all_goals first
      | omega
      | (congr 1 <;> omega)⟩
theorem Rot.small {m i j : Nat} {ys zs ws : List Fd} (h : Swd (m - i) (m + j - i) i ys zs) (h' : Rot (m - i) m (m + (j - i)) zs ws) (hij : i < j) (hm : i ≤ m) : Rot (m - i) m (m + j) ys ws :=
  ⟨h'.len.trans h.len, h'.perm.trans h.perm, fun x => by
    rw [h'.at_]
    simp only [h.at_]
    repeat' split
    all_goals first
      | omega
      | (congr 1 <;> omega)⟩
theorem Rot.same {m i : Nat} {ys zs : List Fd} (h : Swd (m - i) m i ys zs) (hm : i ≤ m) : Rot (m - i) m (m + i) ys zs :=
  ⟨h.len, h.perm, fun x => by
    rw [h.at_]
    repeat' split
    all_goals first
      | omega
      | (congr 1 <;> omega)⟩
theorem Rot.rg {a m b : Nat} {ys zs : List Fd} (h : Rot a m b ys zs) (h1 : a ≤ m) (h2 : m ≤ b) : Rg a b ys zs := by
  refine ⟨h.len, h.perm, fun x hx => ?_, fun x k1 k2 => ?_⟩
  · rw [h.at_, if_neg (by omega), if_neg (by omega)]
  · rw [h.at_]
    by_cases hx : x < a + (b - m)
    · exact ⟨x + (m - a), by omega, by omega, if_pos ⟨k1, hx⟩⟩
    · exact ⟨x - (b - m), by omega, by omega, by rw [if_neg (by omega), if_pos (by omega)]⟩
/-! ### Order -/
section
variable {c : Fd → Fd → Int}
def Le (c : Fd → Fd → Int) (p q : Fd) : Prop := ¬ c q p < 0
structure Ord3 (c : Fd → Fd → Int) : Prop where
  tr : ∀ p q r, Le c p q → Le c q r → Le c p r
  asy : ∀ p q, c p q < 0 → Le c p q
theorem Ord3.lt_le (hc : Ord3 c) {p q r : Fd} (h : Le c p q) (h' : c q r < 0) : c p r < 0 := by
  refine Decidable.byContradiction fun hn => ?_
  exact (hc.tr r p q hn h) h'
theorem Ord3.le_lt (hc : Ord3 c) {p q r : Fd} (h : c p q < 0) (h' : Le c q r) : c p r < 0 := by
  refine Decidable.byContradiction fun hn => ?_
  exact (hc.tr q r p h' hn) h
def Srt (c : Fd → Fd → Int) (ys : List Fd) (a b : Nat) : Prop := ∀ x y, a ≤ x → x < y → y < b → Le c (el ys x) (el ys y)
theorem Srt.sub {ys : List Fd} {a b a' b' : Nat} (h : Srt c ys a b) (ha : a ≤ a') (hb : b' ≤ b) : Srt c ys a' b' := fun x y h1 h2 h3 => h x y (by omega) h2 (by omega)
theorem Srt.of {ys zs : List Fd} {a b : Nat} (h : Srt c ys a b) (he : ∀ x, a ≤ x → x < b → el zs x = el ys x) : Srt c zs a b := fun x y h1 h2 h3 => by
  rw [he x h1 (by omega), he y (by omega) h3]; exact h x y h1 h2 h3
theorem Srt.one (ys : List Fd) (a b : Nat) (h : b ≤ a + 1) : Srt c ys a b := fun x y h1 h2 h3 => by omega
theorem Le.refl (hc : Ord3 c) (p : Fd) : Le c p p := fun h => (hc.asy p p h) h
/-- Up to here sorted, not looked at the pairs that end at j. -/
def Srt1 (c : Fd → Fd → Int) (ys : List Fd) (a b j : Nat) : Prop := ∀ x y, a ≤ x → x < y → y < b → y ≠ j → Le c (el ys x) (el ys y)
theorem Srt.one_more {ys : List Fd} {a i : Nat} (h : Srt c ys a i) : Srt1 c ys a (i + 1) i := fun x y h1 h2 h3 h4 => h x y h1 h2 (by omega)
theorem Srt1.stop {ys : List Fd} {a b j : Nat} (hc : Ord3 c) (h : Srt1 c ys a b j) (hj : j = a ∨ (a < j ∧ Le c (el ys (j - 1)) (el ys j))) : Srt c ys a b := fun x y h1 h2 h3 => by
  by_cases hy : y = j
  · subst hy
    rcases hj with hj | ⟨k1, k2⟩
    · omega
    · by_cases hx : x = y - 1
      · subst hx; exact k2
      · exact hc.tr _ _ _ (h x (y - 1) h1 (by omega) (by omega) (by omega)) k2
  · exact h x y h1 h2 h3 hy
theorem Srt1.swap {ys : List Fd} {a b j : Nat} (hc : Ord3 c) (h : Srt1 c ys a b j) (haj : a < j) (hjb : j < b) (hb : b ≤ ys.length) (hlt : c (el ys j) (el ys (j - 1)) < 0) :
    Srt1 c (swp ys j (j - 1)) a b (j - 1) := fun x y h1 h2 h3 h4 => by
  have hs := swp_at (ys := ys) (i := j) (j := j - 1) (by omega) (by omega)
  rw [hs, hs, if_neg h4]
  by_cases hy : y = j
  · subst hy
    rw [if_pos rfl]
    by_cases hx : x = y - 1
    · rw [if_pos hx]; exact hc.asy _ _ hlt
    · rw [if_neg hx, if_neg (by omega)]
      exact h x (y - 1) h1 (by omega) (by omega) (by omega)
  · rw [if_neg hy]
    by_cases hx : x = j - 1
    · rw [if_pos hx]; exact h j y (by omega) (by omega) h3 hy
    · rw [if_neg hx]
      by_cases hx2 : x = j
      · rw [if_pos hx2]; exact h (j - 1) y (by omega) (by omega) h3 hy
      · rw [if_neg hx2]; exact h x y h1 h2 h3 hy
/-- Two parts that are sorted, turned where they cross: all of the first half below all of the second. -/
theorem halves {ys zs : List Fd} {a m b s e mid : Nat} (hc : Ord3 c) (h1 : Srt c ys a m) (h2 : Srt c ys m b) (has : a ≤ s) (hsm : s ≤ m) (hme : m ≤ e) (heb : e ≤ b) (hmid : s + e = mid + m) (hr : Rot s m e ys zs)
    (k1 : a < s → e < b → Le c (el ys (s - 1)) (el ys e)) (k2 : s < m → m < e → c (el ys (e - 1)) (el ys s) < 0) :
    Srt c zs a s ∧ Srt c zs s mid ∧ Srt c zs mid e ∧ Srt c zs e b ∧ ∀ x y, a ≤ x → x < mid → mid ≤ y → y < b → Le c (el zs x) (el zs y) := by
  have q1 : ∀ x, a ≤ x → x < s → el zs x = el ys x := fun x h3 h4 => by rw [hr.at_, if_neg (by omega), if_neg (by omega)]
  have q2 : ∀ x, s ≤ x → x < mid → el zs x = el ys (x + (m - s)) := fun x h3 h4 => by rw [hr.at_, if_pos (by omega)]
  have q3 : ∀ x, mid ≤ x → x < e → el zs x = el ys (x - (e - m)) := fun x h3 h4 => by rw [hr.at_, if_neg (by omega), if_pos (by omega)]
  have q4 : ∀ x, e ≤ x → x < b → el zs x = el ys x := fun x h3 h4 => by rw [hr.at_, if_neg (by omega), if_neg (by omega)]
  have lr : ∀ x y, a ≤ x → x ≤ y → y < m → Le c (el ys x) (el ys y) := fun x y h3 h4 h5 => by
    by_cases hxy : x = y
    · subst hxy; exact Le.refl hc _
    · exact h1 x y h3 (by omega) h5
  have rr : ∀ x y, m ≤ x → x ≤ y → y < b → Le c (el ys x) (el ys y) := fun x y h3 h4 h5 => by
    by_cases hxy : x = y
    · subst hxy; exact Le.refl hc _
    · exact h2 x y h3 (by omega) h5
  refine ⟨fun x y h3 h4 h5 => ?_, fun x y h3 h4 h5 => ?_, fun x y h3 h4 h5 => ?_, fun x y h3 h4 h5 => ?_, fun x y h3 h4 h5 h6 => ?_⟩
  · rw [q1 x h3 (by omega), q1 y (by omega) h5]; exact h1 x y h3 h4 (by omega)
  · rw [q2 x h3 (by omega), q2 y (by omega) h5]; exact h2 _ _ (by omega) (by omega) (by omega)
  · rw [q3 x h3 (by omega), q3 y (by omega) h5]; exact h1 _ _ (by omega) (by omega) (by omega)
  · rw [q4 x h3 (by omega), q4 y (by omega) h5]; exact h2 x y (by omega) h4 h5
  · by_cases hx : x < s
    · rw [q1 x h3 hx]
      by_cases hy : y < e
      · rw [q3 y h5 hy]; exact lr _ _ h3 (by omega) (by omega)
      · rw [q4 y (by omega) h6]
        exact hc.tr _ _ _ (lr x (s - 1) h3 (by omega) (by omega)) (hc.tr _ _ _ (k1 (by omega) (by omega)) (rr e y hme (by omega) h6))
    · rw [q2 x (by omega) h4]
      by_cases hy : y < e
      · rw [q3 y h5 hy]
        have k3 := k2 (by omega) (by omega)
        exact hc.tr _ _ _ (rr _ (e - 1) (by omega) (by omega) (by omega)) (hc.tr _ _ _ (hc.asy _ _ k3) (lr s _ has (by omega) (by omega)))
      · rw [q4 y (by omega) h6]; exact rr _ _ (by omega) (by omega) h6
/-- Both halves are sorted then. -/
theorem join_halves {zs vs ws : List Fd} {a mid b : Nat} (ham : a ≤ mid) (hmb : mid ≤ b) (hx : ∀ x y, a ≤ x → x < mid → mid ≤ y → y < b → Le c (el zs x) (el zs y)) (h1 : Rg a mid zs vs) (s1 : Srt c vs a mid) (h2 : Rg mid b vs ws) (s2 : Srt c ws mid b) : Srt c ws a b := fun x y k1 k2 k3 => by
  by_cases hy : y < mid
  · rw [h2.out x (by omega), h2.out y (by omega)]; exact s1 x y k1 k2 hy
  · by_cases hx2 : mid ≤ x
    · exact s2 x y hx2 k2 k3
    · rw [h2.out x (by omega)]
      obtain ⟨x', p1, p2, p3⟩ := h1.inn x k1 (by omega)
      obtain ⟨y', r1, r2, r3⟩ := h2.inn y (by omega) k3
      rw [p3, r3, h1.out y' (by omega)]
      exact hx x' y' p1 p2 r1 r2
/-- One from the front is put in. -/
structure Frt (a k : Nat) (ys zs : List Fd) : Prop where
  len : zs.length = ys.length
  perm : List.Perm zs ys
  at_ : ∀ x, el zs x = if a ≤ x ∧ x < k then el ys (x + 1) else if x = k then el ys a else el ys x
theorem Frt.zero (a : Nat) (ys : List Fd) : Frt a a ys ys := ⟨rfl, List.Perm.refl _, fun x => by
  rw [if_neg (by omega)]
  split
  · rename_i h; rw [h]
  · rfl⟩
theorem Frt.step {a k : Nat} {ys zs : List Fd} (h : Frt a k ys zs) (hak : a ≤ k) (hk : k + 1 < ys.length) : Frt a (k + 1) ys (swp zs k (k + 1)) := by
  have hl := h.len
  have h2 := swp_at (ys := zs) (i := k) (j := k + 1) (by omega) (by omega)
  refine ⟨(swp_len _ _ _).trans hl, (swp_perm (by omega) (by omega)).trans h.perm, fun x => ?_⟩
  rw [h2]
  simp only [h.at_]
  repeat' split
  all_goals first
    | omega
    | rfl
    | (congr 1 <;> omega)
    | (exfalso; simp_all; done)
theorem Frt.done {a b i : Nat} {ys zs : List Fd} (hc : Ord3 c) (h : Frt a (i - 1) ys zs) (hai : a < i) (hib : i ≤ b) (hs : Srt c ys (a + 1) b) (k1 : ∀ x, a + 1 ≤ x → x < i → c (el ys x) (el ys a) < 0) (k2 : ∀ x, i ≤ x → x < b → Le c (el ys a) (el ys x)) : Rg a b ys zs ∧ Srt c zs a b := by
  have q1 : ∀ x, a ≤ x → x < i - 1 → el zs x = el ys (x + 1) := fun x h3 h4 => by rw [h.at_, if_pos ⟨h3, h4⟩]
  have q2 : el zs (i - 1) = el ys a := by rw [h.at_, if_neg (by omega), if_pos rfl]
  have q3 : ∀ x, (x < a ∨ i ≤ x) → el zs x = el ys x := fun x h3 => by rw [h.at_, if_neg (by omega), if_neg (by omega)]
  refine ⟨⟨h.len, h.perm, fun x hx => q3 x (by omega), fun x h3 h4 => ?_⟩, fun x y h3 h4 h5 => ?_⟩
  · by_cases hx : x < i - 1
    · exact ⟨x + 1, by omega, by omega, q1 x h3 hx⟩
    · by_cases hx2 : x = i - 1
      · exact ⟨a, Nat.le_refl _, by omega, by rw [hx2]; exact q2⟩
      · exact ⟨x, h3, h4, q3 x (by omega)⟩
  · by_cases hy : y < i - 1
    · rw [q1 x h3 (by omega), q1 y (by omega) hy]; exact hs _ _ (by omega) (by omega) (by omega)
    · by_cases hy2 : y = i - 1
      · rw [hy2, q2, q1 x h3 (by omega)]; exact hc.asy _ _ (k1 _ (by omega) (by omega))
      · rw [q3 y (by omega)]
        by_cases hx : x < i - 1
        · rw [q1 x h3 hx]; exact hs _ _ (by omega) (by omega) h5
        · by_cases hx2 : x = i - 1
          · rw [hx2, q2]; exact k2 y (by omega) h5
          · rw [q3 x (by omega)]; exact hs x y (by omega) h4 h5
/-- One from the end is put in. -/
structure Bck (m k : Nat) (ys zs : List Fd) : Prop where
  len : zs.length = ys.length
  perm : List.Perm zs ys
  at_ : ∀ x, el zs x = if x = k then el ys m else if k < x ∧ x ≤ m then el ys (x - 1) else el ys x
theorem Bck.zero (m : Nat) (ys : List Fd) : Bck m m ys ys := ⟨rfl, List.Perm.refl _, fun x => by
  split
  · rename_i h; rw [h]
  · rw [if_neg (by omega)]⟩
theorem Bck.step {m k : Nat} {ys zs : List Fd} (h : Bck m k ys zs) (hk : 0 < k) (hkm : k ≤ m) (hm : m < ys.length) : Bck m (k - 1) ys (swp zs k (k - 1)) := by
  have hl := h.len
  have h2 := swp_at (ys := zs) (i := k) (j := k - 1) (by omega) (by omega)
  refine ⟨(swp_len _ _ _).trans hl, (swp_perm (by omega) (by omega)).trans h.perm, fun x => ?_⟩
  rw [h2]
  simp only [h.at_]
  repeat' split
  all_goals first
    | omega
    | rfl
    | (congr 1 <;> omega)
    | (exfalso; simp_all; done)
theorem Bck.done {a m i : Nat} {ys zs : List Fd} (hc : Ord3 c) (h : Bck m i ys zs) (hai : a ≤ i) (him : i ≤ m) (hs : Srt c ys a m) (k1 : ∀ x, a ≤ x → x < i → Le c (el ys x) (el ys m)) (k2 : ∀ x, i ≤ x → x < m → c (el ys m) (el ys x) < 0) : Rg a (m + 1) ys zs ∧ Srt c zs a (m + 1) := by
  have q1 : ∀ x, i < x → x ≤ m → el zs x = el ys (x - 1) := fun x h3 h4 => by rw [h.at_, if_neg (by omega), if_pos ⟨h3, h4⟩]
  have q2 : el zs i = el ys m := by rw [h.at_, if_pos rfl]
  have q3 : ∀ x, (x < i ∨ m < x) → el zs x = el ys x := fun x h3 => by rw [h.at_, if_neg (by omega), if_neg (by omega)]
  refine ⟨⟨h.len, h.perm, fun x hx => q3 x (by omega), fun x h3 h4 => ?_⟩, fun x y h3 h4 h5 => ?_⟩
  · by_cases hx : x < i
    · exact ⟨x, h3, h4, q3 x (.inl hx)⟩
    · by_cases hx2 : x = i
      · exact ⟨m, by omega, by omega, by rw [hx2]; exact q2⟩
      · exact ⟨x - 1, by omega, by omega, q1 x (by omega) (by omega)⟩
  · by_cases hy : y < i
    · rw [q3 x (by omega), q3 y (by omega)]; exact hs x y h3 h4 (by omega)
    · by_cases hy2 : y = i
      · rw [hy2, q2, q3 x (by omega)]; exact k1 x h3 (by omega)
      · rw [q1 y (by omega) (by omega)]
        by_cases hx : x < i
        · rw [q3 x (by omega)]
          by_cases e : x = y - 1
          · omega
          · exact hs x (y - 1) h3 (by omega) (by omega)
        · by_cases hx2 : x = i
          · rw [hx2, q2]; exact hc.asy _ _ (k2 _ (by omega) (by omega))
          · rw [q1 x (by omega) (by omega)]; exact hs _ _ (by omega) (by omega) (by omega)
end
end Go.Proofs.Ytcmojpiokjhmhaa
