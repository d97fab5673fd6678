/- Scripts that are handed in. -/
import Derived.Test.YtgmdagjnigkaaaaK5
namespace Go.Proofs.Ytgmdagjnigkaaaa
open Go.Sl Go.ChangeShapes Go.WideShapes Go.ChangeAt Go.RowKit
set_option linter.unusedVariables false
set_option linter.unusedSimpArgs false
set_option maxRecDepth 100000 in
theorem open_op {H : Type} {enc : TypeId × Value → H} {W : World} {n : Nat} {cs : List Value} {y : DataW H × List MemPlace} (hl : cs.length = 6) (h : DataW.trod enc Try.prog W 0 (fun _ => true) true n 45 cs = some y) :
    ∃ o : OpV, cs = o.cells ∧ o.Ok W [Old W] := by
  obtain ⟨xs, k, _, _, _, hxl, hf⟩ := DataW.trod_struct Try.underlying45 h
  have c1 : Try.prog.cellsOf 3 = 1 := by kernel_rfl
  have c2 : Try.prog.cellsOf 29 = 1 := by kernel_rfl
  have c3 : Try.prog.cellsOf 40 = 1 := by kernel_rfl
  have c4 : Try.prog.cellsOf 5 = 1 := by kernel_rfl
  match cs, hl, xs, hxl with
  | [v0, v1, v2, v3, v4, v5], _, [x0, x1, x2, x3, x4, x5], _ =>
    have h0 : DataW.trod enc Try.prog W 0 (fun _ => true) true k 3 (List.take (Try.prog.cellsOf 3) (List.drop 0 [v0, v1, v2, v3, v4, v5])) = some x0 := hf 0 _ rfl
    rw [c1] at h0
    have h1 : DataW.trod enc Try.prog W 0 (fun _ => true) true k 3 (List.take (Try.prog.cellsOf 3) (List.drop 1 [v0, v1, v2, v3, v4, v5])) = some x1 := hf 1 _ rfl
    rw [c1] at h1
    have h2 : DataW.trod enc Try.prog W 0 (fun _ => true) true k 3 (List.take (Try.prog.cellsOf 3) (List.drop 2 [v0, v1, v2, v3, v4, v5])) = some x2 := hf 2 _ rfl
    rw [c1] at h2
    have h3 : DataW.trod enc Try.prog W 0 (fun _ => true) true k 3 (List.take (Try.prog.cellsOf 3) (List.drop 3 [v0, v1, v2, v3, v4, v5])) = some x3 := hf 3 _ rfl
    rw [c1] at h3
    have h4 : DataW.trod enc Try.prog W 0 (fun _ => true) true k 29 (List.take (Try.prog.cellsOf 29) (List.drop 4 [v0, v1, v2, v3, v4, v5])) = some x4 := hf 4 _ rfl
    rw [c2] at h4
    have h5 : DataW.trod enc Try.prog W 0 (fun _ => true) true k 40 (List.take (Try.prog.cellsOf 40) (List.drop 5 [v0, v1, v2, v3, v4, v5])) = some x5 := hf 5 _ rfl
    rw [c3] at h5
    obtain ⟨i0, e0, _⟩ := open_intTrod Try.underlying3 h0
    obtain ⟨i1, e1, _⟩ := open_intTrod Try.underlying3 h1
    obtain ⟨i2, e2, _⟩ := open_intTrod Try.underlying3 h2
    obtain ⟨i3, e3, b3⟩ := open_intTrod Try.underlying3 h3
    obtain ⟨A4, m4, q4, y4, e4, s4, b4, l4, k4, w4⟩ := open_intsTrod Try.underlying29 Try.underlying5 c4 h4
    obtain ⟨A5, m5, q5, y5, e5, s5, b5, l5, k5, w5⟩ := open_intsTrod Try.underlying40 Try.underlying3 c1 h5
    simp at e0 e1 e2 e3 e4 e5
    subst e0 e1 e2 e3 e4 e5 l4 l5
    exact ⟨⟨i0, i1, i2, i3, A4, q4, y4, A5, q5, y5⟩, rfl, b3.2, s4, isBytes_of b4, k4, s5, b5, k5, w5⟩
theorem ops_of {W : World} : ∀ {css : List (List Value)}, (∀ cs ∈ css, ∃ o : OpV, cs = o.cells ∧ o.Ok W [Old W]) → ∃ sc : List OpV, css = sc.map OpV.cells ∧ ∀ o ∈ sc, o.Ok W [Old W]
  | [], _ => ⟨[], rfl, fun o h => (by cases h)⟩
  | cs :: css, h => by
    obtain ⟨o, rfl, ho⟩ := h cs (.head _)
    obtain ⟨sc, rfl, hsc⟩ := ops_of fun x hx => h x (.tail _ hx)
    exact ⟨o :: sc, rfl, fun x hx => (List.mem_cons.1 hx).elim (fun e => e ▸ ho) (hsc x)⟩
set_option maxRecDepth 100000 in
theorem open_script {H : Type} {enc : TypeId × Value → H} {W : World} {r : Reach} {base : Nat} {v : Value} {d : DataW H} {p : List MemPlace} (hval : Value.okWide Try.prog W r base 41 v)
    (h : DataW.Trod enc Try.prog W 0 (fun _ => true) true 41 v d p) : ∃ A m cap sc, v = .slice A m cap ∧ Script W [Old W] A m sc := by
  obtain ⟨A, m, cap, css, rfl, hl, _, hcs, hs⟩ := open_elems (s := 6) Try.underlying41 (by kernel_rfl) hval h
  obtain ⟨sc, rfl, hsc⟩ := ops_of (W := W) fun cs hc => by
    obtain ⟨h1, n, y, h2⟩ := hcs cs hc
    exact open_op h1 h2
  exact ⟨A, m, cap, sc, rfl, hs, by simpa using hl, hsc⟩
end Go.Proofs.Ytgmdagjnigkaaaa
