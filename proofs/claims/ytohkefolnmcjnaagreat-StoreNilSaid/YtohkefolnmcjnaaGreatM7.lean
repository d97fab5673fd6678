/- The law StoreNil tells true for every number and all bytes, and turns nothing that was there. No condition. -/
import Derived.Test.YtohkefolnmcjnaaGreatRows
import Derived.Test.YtohkefolnmcjnaaGreatP4
import Derived.Test.YtohkefolnmcjnaaGreatP27
namespace Go.Proofs.YtohkefolnmcjnaaGreat
open Go.Sl Go.ChangeShapes Go.WideShapes Go.ChangeAt Go.RowKit
set_option linter.unusedVariables false
set_option maxRecDepth 100000 in
theorem storeNil_lifted (os : Os) (started : os.Started) (H : Type) (enc : TypeId × Value → H) :
    ReturnsInHanded {} Tryz.checked os 5 .any (Rows.storeNilSpec.pre6 enc Tryz.prog Tryz.f5 Rows.storeNilRow.domain false) (Rows.storeNilSpec.post enc Tryz.prog Tryz.f5 false true false false) := by
  refine law_lifted (C := Tryz.checked) l1_own started (by kernel_rfl) Tryz.func5
    (ChangeSpec.witness6 (enc := enc) (C := Tryz.checked) false ⟨#[], #[.int .i64 0, .slice none 0 0], []⟩ 8 (by kernel_rfl) (by kernel_rfl) (by kernel_rfl) (by kernel_rfl))
    l1_laid (by kernel_rfl) rfl (fun ds h => ?_) rfl Tryz.underlying4 ?_
  · match ds, h with
    | [d0, d1], _ => rfl
  · intro W base args ds p hval hA hlt
    have hn := (trodAll_length hA).1
    have hn' := (trodAll_length hA).2
    obtain ⟨l⟩ := args
    match l, hn, ds, hn' with
    | [v0, v1], _, [d0, d1], _ =>
      obtain ⟨n0, rfl, hn0⟩ := open_num Tryz.underlying3 (hval 0 _ v0 rfl rfl)
      have hA1 := hA
      obtain ⟨_, _, _, hA1, _⟩ := hA1
      obtain ⟨_, _, hT1, _, _⟩ := hA1
      obtain ⟨A1, m1, cap1, xs1, rfl, hs1, hb1, hl1, hm1⟩ := open_intsSeq Tryz.underlying38 Tryz.underlying5 (by kernel_rfl) (hval 1 _ v1 rfl rfl) hT1
      exact law11_StoreNil n0 W _

theorem storeNil_holds : Rows.StoreNilSaid :=
  OpenClaim.holds_of_wide 5 Tryz.f5 rfl rfl rfl rfl rfl rfl rfl ⟨rfl, rfl, rfl, rfl, rfl⟩ rfl rfl rfl rfl rfl (by kernel_rfl) Tryz.func5 (by kernel_rfl)
    (of_decide_eq_true (by kernel_rfl)) (by unfold Func.isWrapper; rw [if_neg (of_decide_eq_false (by kernel_rfl))]; exact ⟨rfl, rfl⟩)
    (fun os started H enc _ => storeNil_lifted os started H enc)
end Go.Proofs.YtohkefolnmcjnaaGreat
