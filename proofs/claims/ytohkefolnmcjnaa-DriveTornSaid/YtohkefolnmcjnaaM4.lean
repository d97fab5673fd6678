/- The law DriveTorn tells true for every geometry, data and number, and turns nothing that was there. No condition. -/
import Derived.Test.YtohkefolnmcjnaaRows
import Derived.Test.YtohkefolnmcjnaaLG
import Derived.Test.YtohkefolnmcjnaaDA
namespace Go.Proofs.Ytohkefolnmcjnaa
open Go.Sl Go.ChangeShapes Go.WideShapes Go.ChangeAt Go.RowKit
set_option linter.unusedVariables false
set_option maxRecDepth 100000 in
theorem driveTorn_lifted (os : Os) (started : os.Started) (H : Type) (enc : TypeId × Value → H) :
    ReturnsInHanded {} Try.checked os 6 .any (Rows.driveTornSpec.pre6 enc Try.prog Try.f6 Rows.driveTornRow.domain false) (Rows.driveTornSpec.post enc Try.prog Try.f6 false true false false) := by
  refine law_lifted (C := Try.checked) l1_own started (by kernel_rfl) Try.func6
    (ChangeSpec.witness6 (enc := enc) (C := Try.checked) false ⟨#[], #[.agg #[.int .i64 0, .int .i64 0, .int .i64 0, .int .i64 0, .int .i64 0], .slice none 0 0, .int .i64 0], []⟩ 8 (by kernel_rfl) (by kernel_rfl) (by kernel_rfl) (by kernel_rfl))
    l1_laid (by kernel_rfl) rfl (fun ds h => ?_) rfl Try.underlying4 ?_
  · match ds, h with
    | [d0, d1, d2], _ => rfl
  · intro W base args ds p hval hA hlt
    have hn := (trodAll_length hA).1
    have hn' := (trodAll_length hA).2
    obtain ⟨l⟩ := args
    match l, hn, ds, hn' with
    | [v0, v1, v2], _, [d0, d1, d2], _ =>
      obtain ⟨g, rfl⟩ := open_geo (hval 0 _ v0 rfl rfl)
      have hA1 := hA
      obtain ⟨_, _, _, hA1, _⟩ := hA1
      obtain ⟨_, _, hT1, _, _⟩ := hA1
      obtain ⟨A1, m1, cap1, xs1, rfl, hs1, hb1, hl1, hm1⟩ := open_intsSeq Try.underlying24 Try.underlying5 (by kernel_rfl) (hval 1 _ v1 rfl rfl) hT1
      obtain ⟨n2, rfl, hn2⟩ := open_num Try.underlying3 (hval 2 _ v2 rfl rfl)
      exact law08_DriveTorn g n2 hs1 (fun x hx => u8_bd (hb1 x hx)) (okWide_cap Try.underlying24 (hval 1 _ _ rfl rfl))

theorem driveTorn_holds : Rows.DriveTornSaid :=
  OpenClaim.holds_of_wide 6 Try.f6 rfl rfl rfl rfl rfl rfl rfl ⟨rfl, rfl, rfl, rfl, rfl⟩ rfl rfl rfl rfl rfl (by kernel_rfl) Try.func6 (by kernel_rfl)
    (of_decide_eq_true (by kernel_rfl)) (by unfold Func.isWrapper; rw [if_neg (of_decide_eq_false (by kernel_rfl))]; exact ⟨rfl, rfl⟩)
    (fun os started H enc _ => driveTorn_lifted os started H enc)
end Go.Proofs.Ytohkefolnmcjnaa
