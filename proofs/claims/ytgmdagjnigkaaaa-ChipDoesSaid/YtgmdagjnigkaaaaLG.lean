/- Geometries and numbers that are handed in. -/
import Derived.Test.YtgmdagjnigkaaaaSlT
import Derived.Test.YtgmdagjnigkaaaaG1
import Derived.Test.YtgmdagjnigkaaaaChecked
namespace Go.Proofs.Ytgmdagjnigkaaaa
open Go.Sl Go.ChangeShapes Go.WideShapes Go.ChangeAt Go.RowKit
theorem l1_own : ownKnob Try.prog.godebug = none := by kernel_rfl
theorem l1_laid : laidOutB Try.prog = true := by kernel_rfl
theorem open_num {P : Program} {W : World} {r : Reach} {base : Nat} {t : TypeId} {k : IntKind} {v : Value} (hu : P.underlying t = some (.int k)) (h : Value.okWide P W r base t v) : ∃ i, v = .int k i ∧ k.min ≤ i ∧ i ≤ k.max := by
  have h' : Cell.okWide P W r base t v := by simpa only [Value.okWide, hu] using h
  exact (cellIs h').int hu
theorem okWide_cap {P : Program} {W : World} {r : Reach} {base : Nat} {t e : TypeId} {A : Option Addr} {m cap : Nat} (ht : P.underlying t = some (.slice e)) (h : Value.okWide P W r base t (.slice A m cap)) : m ≤ cap := by
  simp only [Value.okWide, ht, Cell.okWide] at h
  cases A with
  | none =>
    match m, cap, h with
    | 0, _, _ => exact Nat.zero_le _
    | m + 1, cap, h => simp [Cell.ok, ht] at h
  | some a => simp only [Cell.ok, ht] at h; exact h.1
theorem u8_bd {i : Int} (h : IntKind.u8.min ≤ i ∧ i ≤ IntKind.u8.max) : 0 ≤ i ∧ i < 256 := by
  have e1 : IntKind.u8.min = 0 := rfl
  have e2 : IntKind.u8.max = 255 := rfl
  omega
set_option maxRecDepth 100000 in
theorem open_geo {W : World} {r : Reach} {base : Nat} {v : Value} (h : Value.okWide Try.prog W r base 23 v) : ∃ g : Geo, v = g.v := by
  obtain ⟨cs, rfl, hsz, hc⟩ := wide_agg (ts := [3, 3, 3, 3, 3]) ⟨_, Try.underlying23, .inl ⟨_, rfl⟩⟩ (by kernel_rfl) (by kernel_rfl) h
  obtain ⟨l⟩ := cs
  match l, hsz with
  | [c0, c1, c2, c3, c4], _ =>
    obtain ⟨x0, rfl, _⟩ := (hc 0 _ c0 rfl rfl).int Try.underlying3
    obtain ⟨x1, rfl, _⟩ := (hc 1 _ c1 rfl rfl).int Try.underlying3
    obtain ⟨x2, rfl, _⟩ := (hc 2 _ c2 rfl rfl).int Try.underlying3
    obtain ⟨x3, rfl, _⟩ := (hc 3 _ c3 rfl rfl).int Try.underlying3
    obtain ⟨x4, rfl, _⟩ := (hc 4 _ c4 rfl rfl).int Try.underlying3
    exact ⟨⟨x0, x1, x2, x3, x4⟩, rfl⟩
end Go.Proofs.Ytgmdagjnigkaaaa
