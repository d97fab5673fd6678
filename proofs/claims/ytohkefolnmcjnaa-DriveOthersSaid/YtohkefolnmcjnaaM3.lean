/- The law DriveOthers tells true for every geometry, two blocks and data, and turns nothing that was there. No condition. -/
import Derived.Test.YtohkefolnmcjnaaRows
import Derived.Test.YtohkefolnmcjnaaLG
import Derived.Test.YtohkefolnmcjnaaDA
namespace Go.Proofs.Ytohkefolnmcjnaa
open Go.Sl Go.ChangeShapes Go.WideShapes Go.ChangeAt Go.RowKit
set_option linter.unusedVariables false
set_option maxRecDepth 100000 in
theorem driveOthers_lifted (os : Os) (started : os.Started) (H : Type) (enc : TypeId × Value → H) :
    ReturnsInHanded {} Try.checked os 4 .any (Rows.driveOthersSpec.pre6 enc Try.prog Try.f4 Rows.driveOthersRow.domain false) (Rows.driveOthersSpec.post enc Try.prog Try.f4 false true false false) := by
  refine law_lifted (C := Try.checked) l1_own started (by kernel_rfl) Try.func4
    (ChangeSpec.witness6 (enc := enc) (C := Try.checked) false ⟨#[], #[.agg #[.int .i64 0, .int .i64 0, .int .i64 0, .int .i64 0, .int .i64 0], .int .i64 0, .int .i64 0, .slice none 0 0], []⟩ 8 (by kernel_rfl) (by kernel_rfl) (by kernel_rfl) (by kernel_rfl))
    l1_laid (by kernel_rfl) rfl (fun ds h => ?_) rfl Try.underlying4 ?_
  · match ds, h with
    | [d0, d1, d2, d3], _ => rfl
  · intro W base args ds p hval hA hlt
    have hn := (trodAll_length hA).1
    have hn' := (trodAll_length hA).2
    obtain ⟨l⟩ := args
    match l, hn, ds, hn' with
    | [v0, v1, v2, v3], _, [d0, d1, d2, d3], _ =>
      obtain ⟨g, rfl⟩ := open_geo (hval 0 _ v0 rfl rfl)
      obtain ⟨n1, rfl, hn1⟩ := open_num Try.underlying3 (hval 1 _ v1 rfl rfl)
      obtain ⟨n2, rfl, hn2⟩ := open_num Try.underlying3 (hval 2 _ v2 rfl rfl)
      have hA3 := hA
      obtain ⟨_, _, _, hA3, _⟩ := hA3
      obtain ⟨_, _, _, hA3, _⟩ := hA3
      obtain ⟨_, _, _, hA3, _⟩ := hA3
      obtain ⟨_, _, hT3, _, _⟩ := hA3
      obtain ⟨A3, m3, cap3, xs3, rfl, hs3, hb3, hl3, hm3⟩ := open_intsSeq Try.underlying24 Try.underlying5 (by kernel_rfl) (hval 3 _ v3 rfl rfl) hT3
      exact law08_DriveOthers g n1 n2 hs3 (fun x hx => u8_bd (hb3 x hx)) (okWide_cap Try.underlying24 (hval 3 _ _ rfl rfl))

theorem driveOthers_holds : Rows.DriveOthersSaid :=
  OpenClaim.holds_of_wide 4 Try.f4 rfl rfl rfl rfl rfl rfl rfl ⟨rfl, rfl, rfl, rfl, rfl⟩ rfl rfl rfl rfl rfl (by kernel_rfl) Try.func4 (by kernel_rfl)
    (of_decide_eq_true (by kernel_rfl)) (by unfold Func.isWrapper; rw [if_neg (of_decide_eq_false (by kernel_rfl))]; exact ⟨rfl, rfl⟩)
    (fun os started H enc _ => driveOthers_lifted os started H enc)
end Go.Proofs.Ytohkefolnmcjnaa
