/- The law DriveReads tells true for every geometry, block, data and places, and turns nothing that was there. No condition. -/
import Derived.Test.YtohkefolnmcjnaaGreatRows
import Derived.Test.YtohkefolnmcjnaaGreatP4
import Derived.Test.YtohkefolnmcjnaaGreatP21
namespace Go.Proofs.YtohkefolnmcjnaaGreat
open Go.Sl Go.ChangeShapes Go.WideShapes Go.ChangeAt Go.RowKit
set_option linter.unusedVariables false
set_option maxRecDepth 100000 in
theorem driveReads_lifted (os : Os) (started : os.Started) (H : Type) (enc : TypeId × Value → H) :
    ReturnsInHanded {} Tryz.checked os 4 .any (Rows.driveReadsSpec.pre6 enc Tryz.prog Tryz.f4 Rows.driveReadsRow.domain false) (Rows.driveReadsSpec.post enc Tryz.prog Tryz.f4 false true false false) := by
  refine law_lifted (C := Tryz.checked) l1_own started (by kernel_rfl) Tryz.func4
    (ChangeSpec.witness6 (enc := enc) (C := Tryz.checked) false ⟨#[], #[.agg #[.int .i64 0, .int .i64 0, .int .i64 0, .int .i64 0, .int .i64 0], .int .i64 0, .slice none 0 0, .slice none 0 0], []⟩ 8 (by kernel_rfl) (by kernel_rfl) (by kernel_rfl) (by kernel_rfl))
    l1_laid (by kernel_rfl) rfl (fun ds h => ?_) rfl Tryz.underlying4 ?_
  · match ds, h with
    | [d0, d1, d2, d3], _ => rfl
  · intro W base args ds p hval hA hlt
    have hn := (trodAll_length hA).1
    have hn' := (trodAll_length hA).2
    obtain ⟨l⟩ := args
    match l, hn, ds, hn' with
    | [v0, v1, v2, v3], _, [d0, d1, d2, d3], _ =>
      obtain ⟨g, rfl⟩ := open_geo (hval 0 _ v0 rfl rfl)
      obtain ⟨n1, rfl, hn1⟩ := open_num Tryz.underlying3 (hval 1 _ v1 rfl rfl)
      have hA2 := hA
      obtain ⟨_, _, _, hA2, _⟩ := hA2
      obtain ⟨_, _, _, hA2, _⟩ := hA2
      obtain ⟨_, _, hT2, _, _⟩ := hA2
      obtain ⟨A2, m2, cap2, xs2, rfl, hs2, hb2, hl2, hm2⟩ := open_intsSeq Tryz.underlying38 Tryz.underlying5 (by kernel_rfl) (hval 2 _ v2 rfl rfl) hT2
      have hA3 := hA
      obtain ⟨_, _, _, hA3, _⟩ := hA3
      obtain ⟨_, _, _, hA3, _⟩ := hA3
      obtain ⟨_, _, _, hA3, _⟩ := hA3
      obtain ⟨_, _, hT3, _, _⟩ := hA3
      obtain ⟨A3, m3, cap3, xs3, rfl, hs3, hb3, hl3, hm3⟩ := open_intsSeq Tryz.underlying42 Tryz.underlying3 (by kernel_rfl) (hval 3 _ v3 rfl rfl) hT3
      exact law08_DriveReads g n1 hs2 (fun x hx => u8_bd (hb2 x hx)) (okWide_cap Tryz.underlying38 (hval 2 _ _ rfl rfl)) hs3

theorem driveReads_holds : Rows.DriveReadsSaid :=
  OpenClaim.holds_of_wide 4 Tryz.f4 rfl rfl rfl rfl rfl rfl rfl ⟨rfl, rfl, rfl, rfl, rfl⟩ rfl rfl rfl rfl rfl (by kernel_rfl) Tryz.func4 (by kernel_rfl)
    (of_decide_eq_true (by kernel_rfl)) (by unfold Func.isWrapper; rw [if_neg (of_decide_eq_false (by kernel_rfl))]; exact ⟨rfl, rfl⟩)
    (fun os started H enc _ => driveReads_lifted os started H enc)
end Go.Proofs.YtohkefolnmcjnaaGreat
