/- The law StoreCuts tells true for every geometry, bad blocks, number and script, and turns nothing that was there. No condition. -/
import Derived.Test.YtohkefolnmcjnaaGreatRows
import Derived.Test.YtohkefolnmcjnaaGreatP4
import Derived.Test.YtohkefolnmcjnaaGreatP31
namespace Go.Proofs.YtohkefolnmcjnaaGreat
open Go.Sl Go.ChangeShapes Go.WideShapes Go.ChangeAt Go.RowKit
set_option linter.unusedVariables false
set_option maxRecDepth 100000 in
theorem storeCuts_lifted (os : Os) (started : os.Started) (H : Type) (enc : TypeId × Value → H) :
    ReturnsInHanded {} Tryz.checked os 9 .any (Rows.storeCutsSpec.pre6 enc Tryz.prog Tryz.f9 Rows.storeCutsRow.domain false) (Rows.storeCutsSpec.post enc Tryz.prog Tryz.f9 false true false false) := by
  refine law_lifted (C := Tryz.checked) l1_own started (by kernel_rfl) Tryz.func9
    (ChangeSpec.witness6 (enc := enc) (C := Tryz.checked) false ⟨#[], #[.agg #[.int .i64 0, .int .i64 0, .int .i64 0, .int .i64 0, .int .i64 0], .slice none 0 0, .int .i64 0, .slice none 0 0], []⟩ 8 (by kernel_rfl) (by kernel_rfl) (by kernel_rfl) (by kernel_rfl))
    l1_laid (by kernel_rfl) rfl (fun ds h => ?_) rfl Tryz.underlying4 ?_
  · match ds, h with
    | [d0, d1, d2, d3], _ => rfl
  · intro W base args ds p hval hA hlt
    have hn := (trodAll_length hA).1
    have hn' := (trodAll_length hA).2
    obtain ⟨l⟩ := args
    match l, hn, ds, hn' with
    | [v0, v1, v2, v3], _, [d0, d1, d2, d3], _ =>
      obtain ⟨g, rfl⟩ := open_geo (hval 0 _ v0 rfl rfl)
      have hA1 := hA
      obtain ⟨_, _, _, hA1, _⟩ := hA1
      obtain ⟨_, _, hT1, _, _⟩ := hA1
      obtain ⟨A1, m1, cap1, xs1, rfl, hs1, hb1, hl1, hm1⟩ := open_intsSeq Tryz.underlying42 Tryz.underlying3 (by kernel_rfl) (hval 1 _ v1 rfl rfl) hT1
      obtain ⟨n2, rfl, hn2⟩ := open_num Tryz.underlying3 (hval 2 _ v2 rfl rfl)
      have hA3 := hA
      obtain ⟨_, _, _, hA3, _⟩ := hA3
      obtain ⟨_, _, _, hA3, _⟩ := hA3
      obtain ⟨_, _, _, hA3, _⟩ := hA3
      obtain ⟨_, _, hT3, _, _⟩ := hA3
      exact (by obtain ⟨A3, m3, cap3, sc3, rfl, hs3⟩ := open_script11 (hval 3 _ v3 rfl rfl) hT3; exact law11_StoreCuts g n2 hs1 hs3)

theorem storeCuts_holds : Rows.StoreCutsSaid :=
  OpenClaim.holds_of_wide 9 Tryz.f9 rfl rfl rfl rfl rfl rfl rfl ⟨rfl, rfl, rfl, rfl, rfl⟩ rfl rfl rfl rfl rfl (by kernel_rfl) Tryz.func9 (by kernel_rfl)
    (of_decide_eq_true (by kernel_rfl)) (by unfold Func.isWrapper; rw [if_neg (of_decide_eq_false (by kernel_rfl))]; exact ⟨rfl, rfl⟩)
    (fun os started H enc _ => storeCuts_lifted os started H enc)
end Go.Proofs.YtohkefolnmcjnaaGreat
