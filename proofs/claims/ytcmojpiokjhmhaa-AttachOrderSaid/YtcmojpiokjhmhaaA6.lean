/- Slices of api.Found that are handed in. -/
import Derived.Test.YtcmojpiokjhmhaaA5
import Derived.Test.YtcmojpiokjhmhaaLG
import Derived.Test.YtcmojpiokjhmhaaSlS
namespace Go.Proofs.Ytcmojpiokjhmhaa
open Go.Sl Go.ChangeShapes Go.WideShapes Go.ChangeAt Go.RowKit
set_option linter.unusedVariables false
set_option linter.unusedSimpArgs false
set_option maxRecDepth 100000

theorem int_cells : Try.prog.cellsOf 3 = 1 := by kernel_rfl
theorem bool_cells : Try.prog.cellsOf 4 = 1 := by kernel_rfl
theorem head_cells : Try.prog.cellsOf 24 = 3 := by kernel_rfl
theorem open_head {H : Type} {enc : TypeId × Value → H} {W : World} {n : Nat} {cs : List Value} {y : DataW H × List MemPlace} (hl : cs.length = 3) (h : DataW.trod enc Try.prog W 0 (fun _ => true) true n 24 cs = some y) : ∃ o : Hd, cs = o.cells := by
  obtain ⟨xs, k, _, _, _, hxl, hf⟩ := DataW.trod_struct Try.underlying24 h
  match cs, hl, xs, hxl with
  | [v0, v1, v2], _, [x0, x1, x2], _ =>
    have h0 : DataW.trod enc Try.prog W 0 (fun _ => true) true k 3 (List.take (Try.prog.cellsOf 3) (List.drop 0 [v0, v1, v2])) = some x0 := hf 0 _ rfl
    have h1 : DataW.trod enc Try.prog W 0 (fun _ => true) true k 3 (List.take (Try.prog.cellsOf 3) (List.drop 1 [v0, v1, v2])) = some x1 := hf 1 _ rfl
    have h2 : DataW.trod enc Try.prog W 0 (fun _ => true) true k 3 (List.take (Try.prog.cellsOf 3) (List.drop 2 [v0, v1, v2])) = some x2 := hf 2 _ rfl
    rw [int_cells] at h0 h1 h2
    obtain ⟨i0, e0, _⟩ := open_intTrod Try.underlying3 h0
    obtain ⟨i1, e1, _⟩ := open_intTrod Try.underlying3 h1
    obtain ⟨i2, e2, _⟩ := open_intTrod Try.underlying3 h2
    simp at e0 e1 e2
    subst e0 e1 e2
    exact ⟨⟨i0, i1, i2⟩, rfl⟩
theorem open_found {H : Type} {enc : TypeId × Value → H} {W : World} {n : Nat} {cs : List Value} {y : DataW H × List MemPlace} (hl : cs.length = 5) (h : DataW.trod enc Try.prog W 0 (fun _ => true) true n 26 cs = some y) : ∃ o : Fd, cs = o.cells := by
  obtain ⟨xs, k, _, _, _, hxl, hf⟩ := DataW.trod_struct Try.underlying26 h
  match cs, hl, xs, hxl with
  | [v0, v1, v2, v3, v4], _, [x0, x1, x2], _ =>
    have h0 : DataW.trod enc Try.prog W 0 (fun _ => true) true k 3 (List.take (Try.prog.cellsOf 3) (List.drop 0 [v0, v1, v2, v3, v4])) = some x0 := hf 0 _ rfl
    have h1 : DataW.trod enc Try.prog W 0 (fun _ => true) true k 24 (List.take (Try.prog.cellsOf 24) (List.drop 1 [v0, v1, v2, v3, v4])) = some x1 := hf 1 _ rfl
    have h2 : DataW.trod enc Try.prog W 0 (fun _ => true) true k 4 (List.take (Try.prog.cellsOf 4) (List.drop 4 [v0, v1, v2, v3, v4])) = some x2 := hf 2 _ rfl
    rw [int_cells] at h0
    rw [head_cells] at h1
    rw [bool_cells] at h2
    obtain ⟨i0, e0, _⟩ := open_intTrod Try.underlying3 h0
    obtain ⟨o, e1⟩ := open_head rfl h1
    obtain ⟨b2, e2, _⟩ := DataW.trod_bool Try.underlying4 h2
    simp at e0 e1 e2
    obtain ⟨e1, e3, e4⟩ := e1
    subst e0 e1 e3 e4 e2
    exact ⟨⟨i0, o, b2⟩, rfl⟩
theorem founds_of : ∀ {css : List (List Value)}, (∀ cs ∈ css, ∃ o : Fd, cs = o.cells) → ∃ fs : List Fd, css.flatten = flatF fs ∧ fs.length = css.length
  | [], _ => ⟨[], rfl, rfl⟩
  | cs :: css, h => by
    obtain ⟨o, rfl⟩ := h cs (.head _)
    obtain ⟨fs, e1, e2⟩ := founds_of fun x hx => h x (.tail _ hx)
    exact ⟨o :: fs, by rw [List.flatten_cons, e1]; rfl, by rw [List.length_cons, e2]; rfl⟩
theorem open_founds {H : Type} {enc : TypeId × Value → H} {W : World} {r : Reach} {base : Nat} {v : Value} {d : DataW H} {p : List MemPlace} (hval : Value.okWide Try.prog W r base 22 v)
    (h : DataW.Trod enc Try.prog W 0 (fun _ => true) true 22 v d p) : ∃ (A : Option Addr) (m cap : Nat) (fs : List Fd), v = .slice A m cap ∧ Seq W [Old W] A m 5 (flatF fs) ∧ fs.length = m ∧ m ≤ cap := by
  obtain ⟨A, m, cap, css, rfl, hl, _, hcs, hs⟩ := open_elems (s := 5) Try.underlying22 (by kernel_rfl) hval h
  have hc := okWide_cap Try.underlying22 hval
  obtain ⟨fs, e1, e2⟩ := founds_of fun cs hc => by
    obtain ⟨h1, n, y, h2⟩ := hcs cs hc
    exact open_found h1 h2
  rw [e1] at hs
  exact ⟨A, m, cap, fs, rfl, hs, by rw [e2, hl], hc⟩
end Go.Proofs.Ytcmojpiokjhmhaa
