/- The symbolic executor, rows: slices of structs that are handed in. -/
import Derived.Test.YtcmojpiokjhmhaaSlT
namespace Go.Sl
open Go.ChangeShapes Go.WideShapes Go.ChangeAt Go.RowKit
set_option linter.unusedVariables false
set_option linter.unusedSimpArgs false

section
variable {H : Type} {enc : TypeId × Value → H} {P : Program} {W : World}
/-- For each i below n there is one: a list of them. -/
theorem listOf {α : Type} (n : Nat) (p : Nat → α → Prop) (h : ∀ i, i < n → ∃ a, p i a) : ∃ l : List α, l.length = n ∧ ∀ i a, l[i]? = some a → p i a := by
  induction n with
  | zero => exact ⟨[], rfl, fun i a hi => by simp at hi⟩
  | succ n ih =>
    obtain ⟨l, h1, h2⟩ := ih fun i hi => h i (by omega)
    obtain ⟨a, ha⟩ := h n (by omega)
    refine ⟨l ++ [a], by simp [h1], fun i b hi => ?_⟩
    rcases Nat.lt_or_ge i l.length with hlt | hge
    · exact h2 i b (by rwa [List.getElem?_append_left hlt] at hi)
    · rw [List.getElem?_append_right hge] at hi
      by_cases h0 : i - l.length = 0
      · have : i = n := by omega
        subst this
        rw [h0] at hi
        simp at hi
        subst hi
        exact ha
      · rw [List.getElem?_eq_none (by simp; omega)] at hi
        cases hi
theorem flatten_get {s : Nat} {l : List (List Value)} (hs : ∀ x ∈ l, x.length = s) {k : Nat} {v : Value} (h : l.flatten[k]? = some v) : ∃ x, l[k / s]? = some x ∧ x[k % s]? = some v := by
  induction l generalizing k with
  | nil => simp at h
  | cons x l ih =>
    have hx := hs x (.head _)
    rw [List.flatten_cons] at h
    rcases Nat.lt_or_ge k x.length with hlt | hge
    · rw [List.getElem?_append_left hlt] at h
      refine ⟨x, ?_, ?_⟩
      · rw [Nat.div_eq_of_lt (by omega)]; rfl
      · rw [Nat.mod_eq_of_lt (by omega)]; exact h
    · rw [List.getElem?_append_right hge] at h
      obtain ⟨y, h1, h2⟩ := ih (fun z hz => hs z (.tail _ hz)) h
      have h0 : 0 < s := by
        rcases Nat.eq_zero_or_pos s with h | h
        · subst h
          obtain hy := hs y (.tail _ (List.mem_of_getElem? h1))
          rw [List.eq_nil_of_length_eq_zero hy] at h2
          simp at h2
        · exact h
      refine ⟨y, ?_, ?_⟩
      · rw [hx] at h1
        rw [show k / s = (k - s) / s + 1 by rw [← Nat.add_div_right _ h0]; congr 1; omega]
        exact h1
      · rw [hx] at h2
        rw [show k % s = (k - s) % s by rw [← Nat.add_mod_right (k - s) s]; congr 1; omega]
        exact h2
theorem flatten_len {s : Nat} {l : List (List Value)} (hs : ∀ x ∈ l, x.length = s) : l.flatten.length = l.length * s := by
  induction l with
  | nil => simp
  | cons x l ih => rw [List.flatten_cons, List.length_append, ih (fun z hz => hs z (.tail _ hz)), hs x (.head _), List.length_cons, Nat.add_mul]; omega
/-- A slice that was handed in: its elements' cells, each with its own reading. -/
theorem open_elems {r : Reach} {base : Nat} {t e s : TypeId} {v : Value} {d : DataW H} {p : List MemPlace} (ht : P.underlying t = some (.slice e)) (hc : P.cellsOf e = s) (hval : Value.okWide P W r base t v)
    (h : DataW.Trod enc P W 0 (fun _ => true) true t v d p) :
    ∃ A m cap, ∃ css : List (List Value), v = .slice A m cap ∧ css.length = m ∧ m ≤ maxLen ∧ (∀ cs ∈ css, cs.length = s ∧ ∃ n y, DataW.trod enc P W 0 (fun _ => true) true n e cs = some y) ∧ Seq W [Old W] A m s css.flatten := by
  obtain ⟨a0, len, cap, rfl⟩ := okWide_slice ht hval
  obtain ⟨fuel, hf⟩ := h
  rcases DataW.trod_slice ht hf with ⟨hcs, _⟩ | ⟨a, len', cap', elems, rest, n, _, hcs, _, _, hl, hm, hlen, hel, _, _⟩
  · simp [Value.cells] at hcs
    obtain ⟨rfl, rfl, rfl⟩ := hcs
    exact ⟨none, 0, 0, [], rfl, rfl, Nat.zero_le _, fun x hx => by (cases hx), ⟨by simp, fun i v hi => by simp at hi⟩⟩
  · simp [Value.cells] at hcs
    obtain ⟨rfl, rfl, rfl⟩ := hcs
    obtain ⟨css, h1, h2⟩ := listOf len (fun i (cs : List Value) => (cs.length = s ∧ ∃ n y, DataW.trod enc P W 0 (fun _ => true) true n e cs = some y) ∧ ∀ j v, cs[j]? = some v → W.cell? (a.add (i * s + j)) = some v) fun i hi => by
      have h3 := hel i hi
      have h4 : elems[i]? = some elems[i] := List.getElem?_eq_getElem (by omega)
      rw [h4, Option.bind_eq_some_iff] at h3
      obtain ⟨cs, h5, h6⟩ := h3
      rw [hc] at h5
      obtain ⟨k1, k2, k3⟩ := World.cells?_some h5
      refine ⟨cs, ⟨?_, n, _, h6⟩, fun j v hj => ?_⟩
      · omega
      · have hjs : j < s := by
          rcases Nat.lt_or_ge j cs.length with h | h
          · omega
          · rw [List.getElem?_eq_none h] at hj; cases hj
        rw [← add_add, k3 j (by omega), hj]
    refine ⟨some a, len, cap, css, rfl, h1, by omega, fun cs hcs => ?_, flatten_len (fun x hx => ?_) |>.trans (by rw [h1]), fun i v hi w hw => ?_⟩
    · obtain ⟨i, hi⟩ := List.getElem?_of_mem hcs
      exact (h2 i cs hi).1
    · obtain ⟨i, hi⟩ := List.getElem?_of_mem hx
      exact (h2 i x hi).1.1
    · obtain ⟨x, k1, k2⟩ := flatten_get (s := s) (fun x hx => by
        obtain ⟨i, hi⟩ := List.getElem?_of_mem hx
        exact (h2 i x hi).1.1) hi
      have h3 := (h2 _ x k1).2 _ v k2
      rw [Nat.mul_comm, Nat.div_add_mod] at h3
      exact ⟨_, rfl, (hw.below.cell (World.block_lt_of_cell? _ _ h3)).trans h3⟩
theorem open_intsTrod {t e : TypeId} {k : IntKind} {fuel : Nat} {cs : List Value} {x : DataW H × List MemPlace} (ht : P.underlying t = some (.slice e)) (he : P.underlying e = some (.int k)) (hc : P.cellsOf e = 1)
    (hf : DataW.trod enc P W 0 (fun _ => true) true fuel t cs = some x) : ∃ A m cap xs, cs = [.slice A m cap] ∧ Seq W [Old W] A m 1 (ints k xs) ∧ (∀ x ∈ xs, k.min ≤ x ∧ x ≤ k.max) ∧ xs.length = m ∧ m ≤ cap ∧ cap ≤ maxLen := by
  rcases open_ints ht he hc hf with ⟨hcs, hx⟩ | ⟨a, len, cap, zs, hcs, _, hl, hm, hz, hx, hcell, hwz⟩
  · exact ⟨none, 0, 0, [], hcs, Seq.nilI, fun x hx => (by cases hx), rfl, Nat.le_refl _, Nat.zero_le _⟩
  · simp only [if_true] at hz
    have hlen : (zs.take len).length = len := by rw [List.length_take]; omega
    refine ⟨some a, len, cap, zs.take len, hcs, ⟨by rw [ints_length, hlen, Nat.mul_one], fun i v hi w hw => ?_⟩, fun x hx => ?_, hlen, hl, hm⟩
    · have hi' : i < len := by
        rcases Nat.lt_or_ge i len with h | h
        · exact h
        · rw [List.getElem?_eq_none (by rw [ints_length, hlen]; exact h)] at hi; cases hi
      have h1 := hcell i (by omega)
      have hb := World.block_lt_of_cell? _ _ h1
      refine ⟨_, rfl, ((hw.below.cell hb).trans h1).trans ?_⟩
      rw [← hi, ints_getD _ _ (by omega)]
      simp [List.getD, List.getElem?_take, hi']
    · have := hwz x (List.mem_of_mem_take hx)
      simpa [Lit.wf] using this
theorem open_intTrod {t : TypeId} {k : IntKind} {fuel : Nat} {cs : List Value} {x : DataW H × List MemPlace} (ht : P.underlying t = some (.int k)) (hf : DataW.trod enc P W 0 (fun _ => true) true fuel t cs = some x) : ∃ i, cs = [.int k i] ∧ k.min ≤ i ∧ i ≤ k.max := by
  obtain ⟨n', h, hx, hw⟩ := DataW.trod_int ht hf
  exact ⟨n', h, by simpa [Lit.wf] using hw⟩
end
end Go.Sl
