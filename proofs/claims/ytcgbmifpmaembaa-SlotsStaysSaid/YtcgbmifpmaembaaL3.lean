/- The law SlotsStays tells true for every slots, number, choice and list of tries, and turns nothing that was there. No condition. -/
import Derived.Test.YtcgbmifpmaembaaRows
import Derived.Test.YtcgbmifpmaembaaLS
import Derived.Test.YtcgbmifpmaembaaS5
namespace Go.Proofs.Ytcgbmifpmaembaa
open Go.Sl Go.ChangeShapes Go.WideShapes Go.ChangeAt Go.RowKit
set_option maxRecDepth 100000 in
theorem slotsStays_lifted (os : Os) (started : os.Started) (H : Type) (enc : TypeId × Value → H) :
    ReturnsInHanded {} Try.checked os 5 .any (Rows.slotsStaysSpec.pre6 enc Try.prog Try.f5 Rows.slotsStaysRow.domain false) (Rows.slotsStaysSpec.post enc Try.prog Try.f5 false true false false) := by
  refine law_lifted (C := Try.checked) l1_own started (by kernel_rfl) Try.func5
    (ChangeSpec.witness6 (enc := enc) (C := Try.checked) false ⟨#[], #[.agg #[.int .i64 0, .int .i64 0, .bool false, .int .i64 0, .bool false], .int .i64 0, .bool false, .slice none 0 0], []⟩ 8 (by kernel_rfl) (by kernel_rfl) (by kernel_rfl) (by kernel_rfl))
    l1_laid (by kernel_rfl) rfl (fun ds h => ?_) rfl Try.underlying4 ?_
  · match ds, h with
    | [d0, d1, d2, d3], _ => rfl
  · intro W base args ds p hval hA hlt
    have hn := (trodAll_length hA).1
    have hn' := (trodAll_length hA).2
    obtain ⟨l⟩ := args
    match l, hn, ds, hn' with
    | [v0, v1, v2, v3], _, [d0, d1, d2, d3], _ =>
      obtain ⟨s, rfl⟩ := open_slots (hval 0 _ v0 rfl rfl)
      obtain ⟨n, rfl⟩ := okWide_int Try.underlying3 (hval 1 _ v1 rfl rfl)
      obtain ⟨b, rfl⟩ := okWide_bool Try.underlying4 (hval 2 _ v2 rfl rfl)
      obtain ⟨_, _, _, hA, _⟩ := hA
      obtain ⟨_, _, _, hA, _⟩ := hA
      obtain ⟨_, _, _, hA, _⟩ := hA
      obtain ⟨_, _, hT, _, _⟩ := hA
      obtain ⟨A, m, cap, xs, rfl, hs, hb, _, _⟩ := open_intsSeq Try.underlying27 Try.underlying3 (by kernel_rfl) (hval 3 _ v3 rfl rfl) hT
      exact law22_SlotsStays s n b W _ hs

theorem slotsStays_holds : Rows.SlotsStaysSaid :=
  OpenClaim.holds_of_wide 5 Try.f5 rfl rfl rfl rfl rfl rfl rfl ⟨rfl, rfl, rfl, rfl, rfl⟩ rfl rfl rfl rfl rfl (by kernel_rfl) Try.func5 (by kernel_rfl)
    (of_decide_eq_true (by kernel_rfl)) (by unfold Func.isWrapper; rw [if_neg (of_decide_eq_false (by kernel_rfl))]; exact ⟨rfl, rfl⟩)
    (fun os started H enc _ => slotsStays_lifted os started H enc)
end Go.Proofs.Ytcgbmifpmaembaa
