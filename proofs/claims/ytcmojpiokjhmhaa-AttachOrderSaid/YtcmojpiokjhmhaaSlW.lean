/- The symbolic executor, sixteenth part: one of many entries; rows of structs. -/
import Derived.Test.YtcmojpiokjhmhaaSlQ
namespace Go.Sl
open Go.RowKit Go.BigFrame
set_option linter.unusedVariables false
set_option linter.unusedSimpArgs false

theorem take_perm {α : Type} : ∀ (l : List α) (k : Nat) (hk : k < l.length), List.Perm (l[k] :: l.eraseIdx k) l
  | [], k, hk => absurd hk (Nat.not_lt_zero _)
  | a :: l, 0, _ => List.Perm.refl _
  | a :: l, k + 1, hk => (List.Perm.swap _ _ _).trans ((take_perm l k (Nat.lt_of_succ_lt_succ hk)).cons a)
theorem Sat.allTail {K w : World} {A : Assn} {l H : List Assn} (h : Sat K w (A :: (l ++ H))) : Sat K w (A :: AllA l :: H) :=
  ⟨h.1, h.2.1, h.2.2.1, fun b hb B hB => by
    rcases List.mem_cons.1 hB with rfl | hB
    · rintro ⟨C, hC, hf⟩; exact h.2.2.2.1 b hb C (List.mem_append_left _ hC) hf
    · exact h.2.2.2.1 b hb B (List.mem_append_right _ hB), SatL.all.2 h.2.tail⟩
theorem Sat.unallTail {K w : World} {A : Assn} {l H : List Assn} (h : Sat K w (A :: AllA l :: H)) : Sat K w (A :: (l ++ H)) :=
  ⟨h.1, h.2.1, h.2.2.1, fun b hb B hB => by
    rcases List.mem_append.1 hB with hB | hB
    · exact fun hf => h.2.2.2.1 b hb (AllA l) (.head _) ⟨B, hB, hf⟩
    · exact h.2.2.2.1 b hb B (.tail _ hB), SatL.all.1 h.2.tail⟩
theorem Sat.perm' {K w : World} {l l' : List Assn} (hp : List.Perm l l') (h : Sat K w l) : Sat K w l' := ⟨h.1, SatL.perm hp h.2⟩
/-- One of many, ahead of the others. -/
theorem Sat.takeA {K w : World} {l H : List Assn} {k : Nat} (hk : k < l.length) (h : Sat K w (AllA l :: H)) : Sat K w (l[k] :: AllA (l.eraseIdx k) :: H) :=
  Sat.allTail (Sat.perm' ((take_perm l k hk).symm.append_right H) h.unall)
theorem Sat.putA {K w : World} {l H : List Assn} {k : Nat} {A : Assn} (hk : k < l.length) (h : Sat K w (A :: AllA (l.eraseIdx k) :: H)) : Sat K w (AllA (l.set k A) :: H) := by
  have hk' : k < (l.set k A).length := by rw [List.length_set]; exact hk
  have hp := take_perm (l.set k A) k hk'
  rw [List.getElem_set_self, List.eraseIdx_set_eq] at hp
  exact Sat.all (Sat.perm' (hp.append_right H) h.unallTail)

/-! ### Rows of structs: each of s cells -/
section
variable {α : Type} {f : α → List Value} {s : Nat}
theorem flat_length (hf : ∀ x, (f x).length = s) : ∀ l : List α, (l.flatMap f).length = l.length * s
  | [] => by simp
  | x :: l => by rw [List.flatMap_cons, List.length_append, hf, flat_length hf l, List.length_cons, Nat.succ_mul, Nat.add_comm]
theorem flat_get (hf : ∀ x, (f x).length = s) : ∀ (l : List α) (k i : Nat) (x : α) (v : Value), l[k]? = some x → (f x)[i]? = some v → (l.flatMap f)[k * s + i]? = some v
  | [], k, i, x, v, h, _ => by simp at h
  | y :: l, 0, i, x, v, h, hi => by
    simp only [List.getElem?_cons_zero, Option.some.injEq] at h
    subst h
    rw [List.flatMap_cons, Nat.zero_mul, Nat.zero_add, List.getElem?_append_left (List.getElem?_eq_some_iff.1 hi).1]
    exact hi
  | y :: l, k + 1, i, x, v, h, hi => by
    have ih := flat_get hf l k i x v (by simpa using h) hi
    rw [List.flatMap_cons, List.getElem?_append_right (by rw [hf, Nat.succ_mul]; omega), hf, ← ih]
    congr 1
    rw [Nat.succ_mul]; omega
theorem flat_set (hf : ∀ x, (f x).length = s) : ∀ (l : List α) (k i : Nat) (x y : α) (v : Value), l[k]? = some x → i < s → f y = (f x).set i v → (l.flatMap f).set (k * s + i) v = (l.set k y).flatMap f
  | [], k, i, x, y, v, h, _, _ => by simp at h
  | z :: l, 0, i, x, y, v, h, hi, hy => by
    simp only [List.getElem?_cons_zero, Option.some.injEq] at h
    subst h
    rw [List.set_cons_zero, List.flatMap_cons, List.flatMap_cons, Nat.zero_mul, Nat.zero_add, List.set_append, if_pos (by rw [hf]; exact hi), hy]
  | z :: l, k + 1, i, x, y, v, h, hi, hy => by
    have ih := flat_set hf l k i x y v (by simpa using h) hi hy
    rw [List.set_cons_succ, List.flatMap_cons, List.flatMap_cons, List.set_append, if_neg (by rw [hf, Nat.succ_mul]; omega), hf, ← ih]
    congr 2
    rw [Nat.succ_mul]; omega
theorem flat_put (hf : ∀ x, (f x).length = s) : ∀ (l : List α) (k : Nat) (x y : α), l[k]? = some x → setL (l.flatMap f) (k * s) (f y) = (l.set k y).flatMap f := fun l k x y h => by
  have hk := (List.getElem?_eq_some_iff.1 h).1
  have h1 : (k + 1) * s ≤ l.length * s := Nat.mul_le_mul_right _ hk
  rw [Nat.succ_mul] at h1
  rw [setL_append _ _ _ (by rw [hf, flat_length hf]; exact h1), hf]
  have h2 : l.set k y = l.take k ++ y :: l.drop (k + 1) := List.set_eq_take_append_cons_drop .. |>.trans (by rw [if_pos hk])
  have h3 : ∀ j, j ≤ l.length → (l.flatMap f).take (j * s) = (l.take j).flatMap f ∧ (l.flatMap f).drop (j * s) = (l.drop j).flatMap f := fun j hj => by
    have e : l.flatMap f = (l.take j).flatMap f ++ (l.drop j).flatMap f := by rw [← List.flatMap_append, List.take_append_drop]
    have e2 : ((l.take j).flatMap f).length = j * s := by rw [flat_length hf, List.length_take, Nat.min_eq_left hj]
    rw [e]
    exact ⟨List.take_left' e2, List.drop_left' e2⟩
  rw [h2, List.flatMap_append, List.flatMap_cons, (h3 k (Nat.le_of_lt hk)).1, show k * s + s = (k + 1) * s by rw [Nat.succ_mul], (h3 (k + 1) hk).2, List.append_assoc]
end
end Go.Sl
