/- The law SlotsParse tells true for any bytes, and turns nothing that was there. No condition. -/
import Derived.Test.YtcgbmifpmaembaaRows
import Derived.Test.YtcgbmifpmaembaaLS
import Derived.Test.YtcgbmifpmaembaaS4
namespace Go.Proofs.Ytcgbmifpmaembaa
open Go.Sl Go.ChangeShapes Go.WideShapes Go.ChangeAt Go.RowKit
set_option maxRecDepth 100000 in
theorem slotsParse_lifted (os : Os) (started : os.Started) (H : Type) (enc : TypeId × Value → H) :
    ReturnsInHanded {} Try.checked os 6 .any (Rows.slotsParseSpec.pre6 enc Try.prog Try.f6 Rows.slotsParseRow.domain false) (Rows.slotsParseSpec.post enc Try.prog Try.f6 false true false false) := by
  refine law_lifted (C := Try.checked) l1_own started (by kernel_rfl) Try.func6
    (ChangeSpec.witness6 (enc := enc) (C := Try.checked) false ⟨#[], #[.slice none 0 0], []⟩ 8 (by kernel_rfl) (by kernel_rfl) (by kernel_rfl) (by kernel_rfl))
    l1_laid (by kernel_rfl) rfl (fun ds h => ?_) rfl Try.underlying4 ?_
  · match ds, h with
    | [d0], _ => rfl
  · intro W base args ds p hval hA hlt
    have hn := (trodAll_length hA).1
    have hn' := (trodAll_length hA).2
    obtain ⟨l⟩ := args
    match l, hn, ds, hn' with
    | [v0], _, [d0], _ =>
      obtain ⟨_, _, hT, _, _⟩ := hA
      obtain ⟨A, m, cap, xs, rfl, hs, hb, _, _⟩ := open_intsSeq Try.underlying36 Try.underlying5 (by kernel_rfl) (hval 0 _ v0 rfl rfl) hT
      exact law22_SlotsParse (isBytes_of hb) W _ hs

theorem slotsParse_holds : Rows.SlotsParseSaid :=
  OpenClaim.holds_of_wide 6 Try.f6 rfl rfl rfl rfl rfl rfl rfl ⟨rfl, rfl, rfl, rfl, rfl⟩ rfl rfl rfl rfl rfl (by kernel_rfl) Try.func6 (by kernel_rfl)
    (of_decide_eq_true (by kernel_rfl)) (by unfold Func.isWrapper; rw [if_neg (of_decide_eq_false (by kernel_rfl))]; exact ⟨rfl, rfl⟩)
    (fun os started H enc _ => slotsParse_lifted os started H enc)
end Go.Proofs.Ytcgbmifpmaembaa
