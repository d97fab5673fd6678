/- slices.Clone, IndexFunc, DeleteFunc, Compact at []int. -/
import Derived.Test.YtohkefolnmcjnaaSlQ
import Derived.Test.YtohkefolnmcjnaaTy
namespace Go.Proofs.Ytohkefolnmcjnaa
open Go.Sl Go.RowKit
set_option linter.unusedVariables false
set_option linter.unusedSimpArgs false
set_option maxRecDepth 20000

theorem clone_ints {A : Option Addr} {m cap : Nat} {xs : List Int} {K : World} {F : List Assn} (hs : Seq K F A m 1 (ints .i64 xs)) (hm : m ≤ 1000000) :
    Does Try.prog 77 #[.slice A m cap] K F (fun v H' => ∃ A' cap', v = .slice A' m cap' ∧ H' = SlA (.slice A' m cap') 3 1 m (ints .i64 xs) :: F) := by
  have hl : xs.length = m := by simpa [ints] using hs.len
  refine Does.have_ (p := A = none → xs = []) (fun w hw hA => by subst hA; simpa [ints] using hs.none_nil hw) (fun hnil => ?_)
  refine Does.enter Try.func77 rfl Try.ntmps77 rfl ?_
  simp only [env0, Nat.reduceAdd]
  refine WC.seq ?_
  refine WC.region ?_
  refine WL.val (V.assign (OV.p rfl)) rfl ?_
  refine WL.nil ?_
  refine WC.seq ?_
  refine WC.seq ?_
  refine WC.region ?_
  refine WL.val (V.move (OV.p rfl)) rfl ?_
  refine WL.val (V.eqlNil Try.underlying39 (OV.p rfl)) rfl ?_
  refine WL.nil ?_
  refine WC.cond rfl (fun hc0 => ?_) (fun hc0 => ?_)
  · skip
    have hA : A = none := by cases A <;> simp at hc0 ⊢
    subst hA
    have hx := hnil rfl
    subst hx
    obtain rfl : m = 0 := hl.symm
    refine WC.seq ?_
    refine WC.region ?_
    refine WL.val (V.assign (OV.p rfl)) rfl ?_
    refine WL.nil ?_
    refine WC.ret ?_
    exact BodyQ.ret (H' := SlA (.slice none 0 0) _ 1 0 [] :: F) (Res.tmp rfl rfl) (fun w h => Sat.slNil h _ _) ⟨none, 0, rfl, rfl⟩
  · skip
    refine WC.skip ?_
    refine WC.seq ?_
    refine WC.region ?_
    refine WL.buildSlice (E := 3) (cs := []) (vs := []) trivial rfl (bsl39_0 ) rfl (fun b5 => ?_)
    refine WL.val (V.move (OV.p rfl)) rfl ?_
    refine WL.sub (Sub.refl _) (fun w h => Sat.toSl (m := 0) (cap := 0) (s := 1) h rfl (Nat.le_refl _) (Nat.zero_le _)) ?_
    refine WL.append (m := 0) (cs := []) Try.underlying39 el3 (OV.p rfl) (OV.p rfl) (by repeat (first | exact hs | apply Seq.up)) (ints_one _ _) (by omega) rfl rfl (fun A' c' hn' hc' => ?_)
    refine WL.val (V.assign (OV.p rfl)) rfl ?_
    refine WL.nil ?_
    refine WC.ret ?_
    refine BodyQ.ret (H' := SlA (.slice A' m c') _ 1 m (ints .i64 xs) :: F) (Res.tmp rfl (look_eq rfl (by simp))) (fun w h => ?_) ⟨A', c', rfl, rfl⟩
    simpa using h

/-- A closure that asks a number. -/
def Asks (P : Program) (fid : FuncId) (capt : List Value) (K : World) (F : List Assn) (p : Int → Bool) : Prop := ∀ x : Int, Tells P fid (#[.int .i64 x] ++ capt.toArray) K F (.bool (p x))

theorem filter_all {p : Int → Bool} {xs : List Int} (h : ∀ x ∈ xs, p x = false) : xs.filter (fun x => !p x) = xs := List.filter_eq_self.2 fun x hx => by simp [h x hx]
end Go.Proofs.Ytohkefolnmcjnaa
