/- The law DriveBad tells true for every geometry, block and data, and turns nothing that was there. No condition. -/
import Derived.Test.YtohkefolnmcjnaaRows
import Derived.Test.YtohkefolnmcjnaaLG
import Derived.Test.YtohkefolnmcjnaaD8
namespace Go.Proofs.Ytohkefolnmcjnaa
open Go.Sl Go.ChangeShapes Go.WideShapes Go.ChangeAt Go.RowKit
set_option linter.unusedVariables false
set_option maxRecDepth 100000 in
theorem driveBad_lifted (os : Os) (started : os.Started) (H : Type) (enc : TypeId × Value → H) :
    ReturnsInHanded {} Try.checked os 3 .any (Rows.driveBadSpec.pre6 enc Try.prog Try.f3 Rows.driveBadRow.domain false) (Rows.driveBadSpec.post enc Try.prog Try.f3 false true false false) := by
  refine law_lifted (C := Try.checked) l1_own started (by kernel_rfl) Try.func3
    (ChangeSpec.witness6 (enc := enc) (C := Try.checked) false ⟨#[], #[.agg #[.int .i64 0, .int .i64 0, .int .i64 0, .int .i64 0, .int .i64 0], .int .i64 0, .slice none 0 0], []⟩ 8 (by kernel_rfl) (by kernel_rfl) (by kernel_rfl) (by kernel_rfl))
    l1_laid (by kernel_rfl) rfl (fun ds h => ?_) rfl Try.underlying4 ?_
  · match ds, h with
    | [d0, d1, d2], _ => rfl
  · intro W base args ds p hval hA hlt
    have hn := (trodAll_length hA).1
    have hn' := (trodAll_length hA).2
    obtain ⟨l⟩ := args
    match l, hn, ds, hn' with
    | [v0, v1, v2], _, [d0, d1, d2], _ =>
      obtain ⟨g, rfl⟩ := open_geo (hval 0 _ v0 rfl rfl)
      obtain ⟨n1, rfl, hn1⟩ := open_num Try.underlying3 (hval 1 _ v1 rfl rfl)
      have hA2 := hA
      obtain ⟨_, _, _, hA2, _⟩ := hA2
      obtain ⟨_, _, _, hA2, _⟩ := hA2
      obtain ⟨_, _, hT2, _, _⟩ := hA2
      obtain ⟨A2, m2, cap2, xs2, rfl, hs2, hb2, hl2, hm2⟩ := open_intsSeq Try.underlying24 Try.underlying5 (by kernel_rfl) (hval 2 _ v2 rfl rfl) hT2
      exact law08_DriveBad g n1 hs2 (fun x hx => u8_bd (hb2 x hx)) (okWide_cap Try.underlying24 (hval 2 _ _ rfl rfl))

theorem driveBad_holds : Rows.DriveBadSaid :=
  OpenClaim.holds_of_wide 3 Try.f3 rfl rfl rfl rfl rfl rfl rfl ⟨rfl, rfl, rfl, rfl, rfl⟩ rfl rfl rfl rfl rfl (by kernel_rfl) Try.func3 (by kernel_rfl)
    (of_decide_eq_true (by kernel_rfl)) (by unfold Func.isWrapper; rw [if_neg (of_decide_eq_false (by kernel_rfl))]; exact ⟨rfl, rfl⟩)
    (fun os started H enc _ => driveBad_lifted os started H enc)
end Go.Proofs.Ytohkefolnmcjnaa
