/- The law SlotsTell tells true for every slots and number, and turns nothing that was there. No condition. -/
import Derived.Test.YtcgbmifpmaembaaRows
import Derived.Test.YtcgbmifpmaembaaLS
import Derived.Test.YtcgbmifpmaembaaS4
namespace Go.Proofs.Ytcgbmifpmaembaa
open Go.Sl Go.ChangeShapes Go.WideShapes Go.ChangeAt Go.RowKit
set_option maxRecDepth 100000 in
theorem slotsTell_lifted (os : Os) (started : os.Started) (H : Type) (enc : TypeId × Value → H) :
    ReturnsInHanded {} Try.checked os 4 .any (Rows.slotsTellSpec.pre6 enc Try.prog Try.f4 Rows.slotsTellRow.domain false) (Rows.slotsTellSpec.post enc Try.prog Try.f4 false true false false) := by
  refine law_lifted (C := Try.checked) l1_own started (by kernel_rfl) Try.func4
    (ChangeSpec.witness6 (enc := enc) (C := Try.checked) false ⟨#[], #[.agg #[.int .i64 0, .int .i64 0, .bool false, .int .i64 0, .bool false], .int .i64 0], []⟩ 8 (by kernel_rfl) (by kernel_rfl) (by kernel_rfl) (by kernel_rfl))
    l1_laid (by kernel_rfl) rfl (fun ds h => ?_) rfl Try.underlying4 ?_
  · match ds, h with
    | [d0, d1], _ => rfl
  · intro W base args ds p hval hA hlt
    have hn := (trodAll_length hA).1
    have hn' := (trodAll_length hA).2
    obtain ⟨l⟩ := args
    match l, hn, ds, hn' with
    | [v0, v1], _, [d0, d1], _ =>
      obtain ⟨s, rfl⟩ := open_slots (hval 0 _ v0 rfl rfl)
      obtain ⟨n, rfl⟩ := okWide_int Try.underlying3 (hval 1 _ v1 rfl rfl)
      exact law22_SlotsTell s n W _

theorem slotsTell_holds : Rows.SlotsTellSaid :=
  OpenClaim.holds_of_wide 4 Try.f4 rfl rfl rfl rfl rfl rfl rfl ⟨rfl, rfl, rfl, rfl, rfl⟩ rfl rfl rfl rfl rfl (by kernel_rfl) Try.func4 (by kernel_rfl)
    (of_decide_eq_true (by kernel_rfl)) (by unfold Func.isWrapper; rw [if_neg (of_decide_eq_false (by kernel_rfl))]; exact ⟨rfl, rfl⟩)
    (fun os started H enc _ => slotsTell_lifted os started H enc)
end Go.Proofs.Ytcgbmifpmaembaa
