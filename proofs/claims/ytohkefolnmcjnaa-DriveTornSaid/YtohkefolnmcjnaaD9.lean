/- What a drive's deeds come to: plain. -/
import Derived.Test.YtohkefolnmcjnaaD7
namespace Go.Proofs.Ytohkefolnmcjnaa
open Go.Sl Go.RowKit
set_option linter.unusedVariables false
set_option linter.unusedSimpArgs false
set_option maxRecDepth 20000

namespace Chip
theorem deed_same {S : Chip} (h : S.left = 0) : S.deed = S := by
  unfold deed cut
  rw [h]
  obtain ⟨a, b, c, d, e, f, g, up, l, k⟩ := S
  dsimp only at h
  subst h
  simp
theorem page_ok {S : Chip} {b p : Int} (h : 0 ≤ b ∧ b < S.g.bl ∧ 0 ≤ p ∧ p < S.g.pg) : S.page b p = true := by
  unfold page block
  simp; omega
theorem block_ok {S : Chip} {b : Int} (h : 0 ≤ b ∧ b < S.g.bl) : S.block b = true := by
  unfold block
  simp; omega
theorem ahead_ok {S : Chip} {b p : Int} (hu : S.up = true) (h : 0 ≤ b ∧ b < S.g.bl ∧ 0 ≤ p ∧ p < S.g.pg) (hm : S.marked b = false) : S.ahead b p true = 0 := by
  unfold ahead bad
  rw [if_neg (by rw [hu]; decide), if_neg (fun hh => by rcases hh with h | h | h | h | h <;> first | omega | cases h), hm, Bool.and_false, if_neg (by decide)]
theorem ahead_bad {S : Chip} {b p : Int} (hu : S.up = true) (h : 0 ≤ b ∧ b < S.g.bl ∧ 0 ≤ p ∧ p < S.g.pg) (hm : S.marked b = true) : S.ahead b p true = 73 := by
  unfold ahead bad
  rw [if_neg (by rw [hu]; decide), if_neg (fun hh => by rcases hh with h | h | h | h | h <;> first | omega | cases h), hm, hu, if_pos (by decide)]
section
variable {S : Chip} {b p : Int} {d : List Nat}
theorem pack_len (hg : S.g.mays) (h8 : Small 256 d) (hl : d.length = S.room) : ((intsOf (packG S.g d)).length : Int) = S.raw := by
  have hN := NGood.of (bl := S.g.bl) (pg := S.g.pg) (by rw [← geo_nat hg]; exact hg)
  unfold packG intsOf
  rw [List.length_map, packF_length hN.t h8 hl]
  exact (Geo.raw_nat hg).symm
theorem dWrite_prog (hu : S.up = true) (h : 0 ≤ b ∧ b < S.g.bl ∧ 0 ≤ p ∧ p < S.g.pg) (hm : S.marked b = false) (hl : d.length = S.room) : S.dWrite b p d = done b (S.program b p (intsOf (packG S.g d))) := by
  have e : decide (d.length = S.room) = true := decide_eq_true hl
  unfold dWrite
  rw [e, if_neg (by rw [ahead_ok hu h hm]; decide)]
theorem program_ok {xs : List Int} (hu : S.up = true) (h : 0 ≤ b ∧ b < S.g.bl ∧ 0 ≤ p ∧ p < S.g.pg) (hx : (xs.length : Int) = S.raw) (hn : S.nextOf b = p) (h0 : S.left = 0) :
    S.program b p xs = if S.weak b then (S, 72) else ({ S with pages := upds S.pages (b, p) (some xs), next := S.setNext b (p + 1) }, 0) := by
  have hc : S.cut = false := by unfold cut; rw [h0]; rfl
  unfold program
  rw [if_neg (by rw [hu]; decide), if_neg (by rw [page_ok h]; rintro (h | h); cases h; exact h hx), if_neg (fun h => h hn.symm), hc, if_neg Bool.false_ne_true, deed_same h0]
theorem dWrite_ok (hg : S.g.mays) (hu : S.up = true) (h : 0 ≤ b ∧ b < S.g.bl ∧ 0 ≤ p ∧ p < S.g.pg) (hm : S.marked b = false) (h8 : Small 256 d) (hl : d.length = S.room) (hn : S.nextOf b = p) (h0 : S.left = 0) (hw : S.weak b = false) :
    S.dWrite b p d = ({ S with pages := upds S.pages (b, p) (some (intsOf (packG S.g d))), next := S.setNext b (p + 1) }, 0) := by
  rw [dWrite_prog hu h hm hl, program_ok hu h (pack_len hg h8 hl) hn h0, hw]
  rfl
theorem mark_ok (hu : S.up = true) (h : 0 ≤ b ∧ b < S.g.bl) (h0 : S.left = 0) : S.mark b = ({ S with marked := fun k => if k = b then true else S.marked k }, 0) := by
  have hc : S.cut = false := by unfold cut; rw [h0]; rfl
  unfold mark all
  rw [if_neg (by rw [hu]; decide), if_neg (by rw [block_ok h]; decide), hc, deed_same h0]
  rfl
theorem dWrite_weak (hg : S.g.mays) (hu : S.up = true) (h : 0 ≤ b ∧ b < S.g.bl ∧ 0 ≤ p ∧ p < S.g.pg) (hm : S.marked b = false) (h8 : Small 256 d) (hl : d.length = S.room) (hn : S.nextOf b = p) (h0 : S.left = 0) (hw : S.weak b = true) :
    S.dWrite b p d = ({ S with marked := fun k => if k = b then true else S.marked k }, 72) := by
  rw [dWrite_prog hu h hm hl, program_ok hu h (pack_len hg h8 hl) hn h0, hw, if_pos rfl]
  unfold done
  rw [if_neg (fun h => h rfl), mark_ok hu ⟨h.1, h.2.1⟩ h0, if_neg (fun h => h rfl)]
theorem dErase_ok (hu : S.up = true) (h : 0 ≤ b ∧ b < S.g.bl) (hpg : 0 < S.g.pg) (hm : S.marked b = false) (h0 : S.left = 0) (hw : S.weak b = false) :
    S.dErase b = ({ S with pages := dropTo S.pages b S.g.pg, wrong := dropTo S.wrong b S.g.pg, next := S.setNext b 0 }, 0) := by
  have hc : S.cut = false := by unfold cut; rw [h0]; rfl
  have e : S.erase b = ({ S with pages := dropTo S.pages b S.g.pg, wrong := dropTo S.wrong b S.g.pg, next := S.setNext b 0 }, 0) := by
    unfold erase
    rw [if_neg (by rw [hu]; decide), if_neg (by rw [block_ok h]; decide), hc, if_neg Bool.false_ne_true, deed_same h0, hw, if_neg Bool.false_ne_true]
  unfold dErase
  rw [if_neg (by rw [ahead_ok hu ⟨h.1, h.2, Int.le_refl _, hpg⟩ hm]; decide), e]
  rfl
theorem rawN_page {xs : List Nat} (hp : S.pages (b, p) = some (intsOf xs)) (hw : S.wrong (b, p) = none) : S.rawN b p = xs := by
  unfold rawN reads
  rw [hp, hw]
  exact natsOf_intsOf xs
theorem rawN_blank (hp : S.pages (b, p) = none) (hw : S.wrong (b, p) = none) : S.rawN b p = List.replicate S.g.raw.toNat 255 := by
  unfold rawN reads
  rw [hp, hw]
  show natsOf (List.replicate _ 255) = _
  unfold natsOf
  rw [List.map_replicate]
  rfl
theorem dRead_page (hg : S.g.mays) (hu : S.up = true) (h : 0 ≤ b ∧ b < S.g.bl ∧ 0 ≤ p ∧ p < S.g.pg) (hm : S.marked b = false) (h8 : Small 256 d) (hl : d.length = S.room) (hp : S.pages (b, p) = some (intsOf (packG S.g d))) (hw : S.wrong (b, p) = none) :
    S.dRead b p = ⟨0, d, 0⟩ := by
  have hN := NGood.of (bl := S.g.bl) (pg := S.g.pg) (by rw [← geo_nat hg]; exact hg)
  unfold dRead
  rw [if_neg (by rw [ahead_ok hu h hm]; decide), rawN_page hp hw]
  unfold packG
  rw [read_pack hN.t h8 hl]
  rfl
theorem dRead_err (hu : S.up = true) (h : 0 ≤ b ∧ b < S.g.bl ∧ 0 ≤ p ∧ p < S.g.pg) (hm : S.marked b = false) (hs : S.stateG b p ≠ 0) : S.dRead b p = ⟨(S.stateG b p : Nat), [], 0⟩ := by
  unfold stateG at hs ⊢
  unfold dRead readF
  rw [if_neg (by rw [ahead_ok hu h hm]; decide), if_pos hs]
theorem sect_repl {n t S j x : Nat} (h : j < S) : sect n (List.replicate (S * n + 1) x) j = List.replicate n x := by
  have h1 : (j + 1) * n ≤ S * n := Nat.mul_le_mul_right _ h
  rw [Nat.succ_mul] at h1
  unfold sect
  rw [List.drop_replicate, List.take_replicate]
  congr 1; omega
theorem ones_255 : ∀ n, ones (List.replicate n 255) = 8 * n
  | 0 => rfl
  | n + 1 => by rw [List.replicate_succ, ones, ones_255 n, show pop8 255 = 8 from rfl]; omega
theorem state_blank {t S n : Nat} : stateF t S n (List.replicate (S * n + 1) 255) = 61 := by
  have h0 : (List.replicate (S * n + 1) 255).getD (S * n) 0 = (255 : Nat) := by simp [List.getD, List.getElem?_replicate]
  have h1 : ∀ k, k ≤ S → tornTo n t (List.replicate (S * n + 1) 255) k = false := fun k hk => by
    induction k with
    | zero => rfl
    | succ k ih =>
      rw [tornTo, ih (by omega)]
      unfold tornS
      rw [sect_repl (t := t) (by omega), ones_255]
      simp
  unfold stateF
  rw [h0, if_neg (by decide), if_neg (fun h => h rfl), h1 S (Nat.le_refl _), if_neg Bool.false_ne_true]
theorem state_255 {t S n : Nat} {raw : List Nat} (h : raw.getD (S * n) 0 = 255) : stateF t S n raw = 60 ∨ stateF t S n raw = 61 := by
  unfold stateF
  rw [h, if_neg (by decide), if_neg (fun h => h rfl)]
  split
  · exact .inl rfl
  · exact .inr rfl
theorem stateG_blank (hg : S.g.mays) (hp : S.pages (b, p) = none) (hw : S.wrong (b, p) = none) : S.stateG b p = 61 := by
  unfold stateG
  rw [rawN_blank hp hw, Geo.raw_nat hg, Int.toNat_natCast]
  exact state_blank
theorem goodTo_one {x : Int} (hu : S.up = true) (hm : ∀ k, S.marked k = decide (k = x)) (hx : 0 ≤ x) : ∀ n : Nat, ((S.goodTo n).length : Int) = (if x < (n : Int) then (n : Int) - 1 else (n : Int)) ∧ x ∉ S.goodTo n
  | 0 => ⟨by rw [if_neg (by omega)]; rfl, fun h => by simp [goodTo] at h⟩
  | n + 1 => by
    obtain ⟨h1, h2⟩ := goodTo_one hu hm hx n
    rw [goodTo]
    unfold bad
    rw [hu, hm, Bool.true_and, Bool.true_and]
    by_cases h : (n : Int) = x
    · rw [decide_eq_true h, if_neg (by decide)]
      refine ⟨?_, h2⟩
      rw [h1, if_neg (by omega), if_pos (by omega)]; omega
    · rw [decide_eq_false h, if_pos (by decide), List.length_append]
      refine ⟨?_, fun h' => ?_⟩
      · rw [Int.natCast_add, h1]
        simp only [List.length_singleton]
        split
        · rw [if_pos (by omega)]; omega
        · rw [if_neg (by omega)]; omega
      · rcases List.mem_append.1 h' with h' | h'
        · exact h2 h'
        · exact h (List.mem_singleton.1 h').symm
end
theorem next_new {g : Geo} {l : List Int} {b : Int} : (new g l).nextOf b = 0 := by
  show (List.replicate g.bl.toNat (0 : Int)).getD b.toNat 0 = 0
  rw [List.getD, List.getElem?_replicate]
  split <;> rfl
theorem nextOf_set' {S : Chip} {b v x : Int} (hb : 0 ≤ b) (hx : 0 ≤ x) (hl : x < S.next.length) : (S.next.set b.toNat v).getD x.toNat 0 = if x = b then v else S.nextOf x := by
  unfold nextOf
  simp only [List.getD, List.getElem?_set]
  by_cases h : x = b
  · subst h
    rw [if_pos rfl, if_pos (by omega), if_pos rfl]; rfl
  · rw [if_neg (by omega), if_neg h]
end Chip
end Go.Proofs.Ytohkefolnmcjnaa
