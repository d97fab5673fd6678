/- The law DriveNil tells true for every number and all bytes, and turns nothing that was there. No condition. -/
import Derived.Test.YtohkefolnmcjnaaRows
import Derived.Test.YtohkefolnmcjnaaLG
import Derived.Test.YtohkefolnmcjnaaD8
namespace Go.Proofs.Ytohkefolnmcjnaa
open Go.Sl Go.ChangeShapes Go.WideShapes Go.ChangeAt Go.RowKit
set_option linter.unusedVariables false
set_option maxRecDepth 100000 in
theorem driveNil_lifted (os : Os) (started : os.Started) (H : Type) (enc : TypeId × Value → H) :
    ReturnsInHanded {} Try.checked os 5 .any (Rows.driveNilSpec.pre6 enc Try.prog Try.f5 Rows.driveNilRow.domain false) (Rows.driveNilSpec.post enc Try.prog Try.f5 false true false false) := by
  refine law_lifted (C := Try.checked) l1_own started (by kernel_rfl) Try.func5
    (ChangeSpec.witness6 (enc := enc) (C := Try.checked) false ⟨#[], #[.int .i64 0, .int .i64 0, .slice none 0 0], []⟩ 8 (by kernel_rfl) (by kernel_rfl) (by kernel_rfl) (by kernel_rfl))
    l1_laid (by kernel_rfl) rfl (fun ds h => ?_) rfl Try.underlying4 ?_
  · match ds, h with
    | [d0, d1, d2], _ => rfl
  · intro W base args ds p hval hA hlt
    have hn := (trodAll_length hA).1
    have hn' := (trodAll_length hA).2
    obtain ⟨l⟩ := args
    match l, hn, ds, hn' with
    | [v0, v1, v2], _, [d0, d1, d2], _ =>
      obtain ⟨n0, rfl, hn0⟩ := open_num Try.underlying3 (hval 0 _ v0 rfl rfl)
      obtain ⟨n1, rfl, hn1⟩ := open_num Try.underlying3 (hval 1 _ v1 rfl rfl)
      have hA2 := hA
      obtain ⟨_, _, _, hA2, _⟩ := hA2
      obtain ⟨_, _, _, hA2, _⟩ := hA2
      obtain ⟨_, _, hT2, _, _⟩ := hA2
      obtain ⟨A2, m2, cap2, xs2, rfl, hs2, hb2, hl2, hm2⟩ := open_intsSeq Try.underlying24 Try.underlying5 (by kernel_rfl) (hval 2 _ v2 rfl rfl) hT2
      exact law08_DriveNil n0 n1 W _

theorem driveNil_holds : Rows.DriveNilSaid :=
  OpenClaim.holds_of_wide 5 Try.f5 rfl rfl rfl rfl rfl rfl rfl ⟨rfl, rfl, rfl, rfl, rfl⟩ rfl rfl rfl rfl rfl (by kernel_rfl) Try.func5 (by kernel_rfl)
    (of_decide_eq_true (by kernel_rfl)) (by unfold Func.isWrapper; rw [if_neg (of_decide_eq_false (by kernel_rfl))]; exact ⟨rfl, rfl⟩)
    (fun os started H enc _ => driveNil_lifted os started H enc)
end Go.Proofs.Ytohkefolnmcjnaa
