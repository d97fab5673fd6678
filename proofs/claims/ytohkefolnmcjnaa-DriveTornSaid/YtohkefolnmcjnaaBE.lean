/- What is packed is read. -/
import Derived.Test.YtohkefolnmcjnaaBD
import Derived.Test.YtohkefolnmcjnaaD3
namespace Go.Proofs.Ytohkefolnmcjnaa
open Go.Sl Go.RowKit
set_option linter.unusedVariables false
set_option linter.unusedSimpArgs false
set_option maxRecDepth 20000

theorem pkTo_split {t B : Nat} {d : List Nat} : ∀ (S j : Nat), j < S → ∃ rest, pkTo t B d S = pkTo t B d j ++ ((sect B d j ++ encB t (sect B d j)) ++ rest)
  | 0, j, h => absurd h (Nat.not_lt_zero _)
  | S + 1, j, h => by
    rw [pkTo]
    rcases Nat.lt_or_ge j S with h1 | h1
    · obtain ⟨r, hr⟩ := pkTo_split S j h1
      exact ⟨r ++ (sect B d S ++ encB t (sect B d S)), by rw [hr]; simp only [List.append_assoc]⟩
    · have : j = S := by omega
      subst this
      exact ⟨[], by simp only [List.append_assoc, List.append_nil]⟩
section
variable {t B S : Nat} {d : List Nat}
theorem packF_split (ht : 1 ≤ t ∧ t ≤ 8) (h8 : Small 256 d) (hl : d.length = S * B) {j : Nat} (hj : j < S) :
    secD B (B + moreLen t) (packF t S B d) j = sect B d j ∧ secM B (B + moreLen t) (packF t S B d) j = encB t (sect B d j) := by
  obtain ⟨r, hr⟩ := pkTo_split (t := t) (B := B) (d := d) S j hj
  have h1 := pkTo_length ht h8 hl j (by omega)
  have h2 := sect_length hl hj
  have h3 := encB_length ht (sect_small h8 j (B := B))
  have hdrop : (packF t S B d).drop (j * (B + moreLen t)) = sect B d j ++ (encB t (sect B d j) ++ (r ++ [0])) := by
    unfold packF
    rw [hr, List.append_assoc, List.drop_left' h1]
    simp only [List.append_assoc]
  unfold secD secM
  rw [hdrop]
  refine ⟨List.take_left' h2, ?_⟩
  rw [List.drop_left' h2, Nat.add_sub_cancel_left]
  exact List.take_left' h3
theorem packF_state (ht : 1 ≤ t ∧ t ≤ 8) (h8 : Small 256 d) (hl : d.length = S * B) : stateF t S (B + moreLen t) (packF t S B d) = 0 := by
  have h1 := pkTo_length ht h8 hl S (Nat.le_refl _)
  unfold stateF packF
  rw [if_pos]
  rw [List.getD, List.getElem?_append_right (by omega), h1, Nat.sub_self]; rfl
theorem readTo_secs (ht : 1 ≤ t ∧ t ≤ 8) (h8 : Small 256 d) : ∀ (k j : Nat) (acc : List Nat), readTo ((List.range' j k).map fun i => some ((sect B d i, encB t (sect B d i)), 0)) acc 0 = ⟨0, acc ++ (d.drop (j * B)).take (k * B), 0⟩
  | 0, j, acc => by simp [readTo]
  | k + 1, j, acc => by
    rw [List.range'_succ, List.map_cons, readTo, Nat.max_self, readTo_secs ht h8 k (j + 1) _]
    congr 1
    rw [List.append_assoc]
    congr 1
    unfold sect
    rw [show (k + 1) * B = B + k * B by rw [Nat.succ_mul, Nat.add_comm], List.take_add, List.drop_drop, Nat.succ_mul]
/-- What is packed is read, no bit is turned. -/
theorem read_pack (ht : 1 ≤ t ∧ t ≤ 8) (h8 : Small 256 d) (hl : d.length = S * B) : readF t S B (packF t S B d) = ⟨0, d, 0⟩ := by
  unfold readF
  rw [if_neg (fun h => h (packF_state ht h8 hl))]
  have h1 : (List.range S).map (uSec t B (B + moreLen t) (packF t S B d)) = (List.range' 0 S).map fun i => some ((sect B d i, encB t (sect B d i)), 0) := by
    rw [← List.range_eq_range']
    apply List.map_congr_left
    intro j hj
    have hj := List.mem_range.1 hj
    unfold uSec
    obtain ⟨e1, e2⟩ := packF_split ht h8 hl hj
    rw [e1, e2, dec_enc ht (sect_small h8 j)]
  rw [h1, readTo_secs ht h8 S 0 []]
  rw [Nat.zero_mul, List.drop_zero, List.nil_append, ← hl, List.take_length]
end
end Go.Proofs.Ytohkefolnmcjnaa
