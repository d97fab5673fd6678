/- slices.Clone; the chip: Force. -/
import Derived.Test.YtohkefolnmcjnaaC7
namespace Go.Proofs.Ytohkefolnmcjnaa
open Go.Sl Go.RowKit
set_option linter.unusedVariables false
set_option linter.unusedSimpArgs false
set_option maxRecDepth 20000

theorem clone_bytes {A : Option Addr} {m cap : Nat} {xs : List Int} {K : World} {F : List Assn} (hs : Seq K F A m 1 (ints .u8 xs)) (hm : m ≤ 1000000) :
    Does Try.prog 75 #[.slice A m cap] K F (fun v H' => ∃ A' cap', v = .slice A' m cap' ∧ H' = SlA (.slice A' m cap') 5 1 m (ints .u8 xs) :: F) := by
  have hl : xs.length = m := by simpa [ints] using hs.len
  refine Does.have_ (p := A = none → xs = []) (fun w hw hA => by subst hA; simpa [ints] using hs.none_nil hw) (fun hnil => ?_)
  refine Does.enter Try.func75 rfl Try.ntmps75 rfl ?_
  simp only [env0, Nat.reduceAdd]
  refine WC.seq ?_
  refine WC.region ?_
  refine WL.val (V.assign (OV.p rfl)) rfl ?_
  refine WL.nil ?_
  refine WC.seq ?_
  refine WC.seq ?_
  refine WC.region ?_
  refine WL.val (V.move (OV.p rfl)) rfl ?_
  refine WL.val (V.eqlNil Try.underlying24 (OV.p rfl)) rfl ?_
  refine WL.nil ?_
  refine WC.cond rfl (fun hc0 => ?_) (fun hc0 => ?_)
  · skip
    have hA : A = none := by cases A <;> simp at hc0 ⊢
    subst hA
    have hx := hnil rfl
    subst hx
    obtain rfl : m = 0 := hl.symm
    refine WC.seq ?_
    refine WC.region ?_
    refine WL.val (V.assign (OV.p rfl)) rfl ?_
    refine WL.nil ?_
    refine WC.ret ?_
    exact BodyQ.ret (H' := SlA (.slice none 0 0) _ 1 0 [] :: F) (Res.tmp rfl rfl) (fun w h => Sat.slNil h _ _) ⟨none, 0, rfl, rfl⟩
  · skip
    refine WC.skip ?_
    refine WC.seq ?_
    refine WC.region ?_
    refine WL.buildSlice (E := 5) (cs := []) (vs := []) trivial rfl (bsl24_0 ) rfl (fun b5 => ?_)
    refine WL.val (V.move (OV.p rfl)) rfl ?_
    refine WL.sub (Sub.refl _) (fun w h => Sat.toSl (m := 0) (cap := 0) (s := 1) h rfl (Nat.le_refl _) (Nat.zero_le _)) ?_
    refine WL.append (m := 0) (cs := []) Try.underlying24 el5 (OV.p rfl) (OV.p rfl) (by repeat (first | exact hs | apply Seq.up)) (ints_one _ _) (by omega) rfl rfl (fun A' c' hn' hc' => ?_)
    refine WL.val (V.assign (OV.p rfl)) rfl ?_
    refine WL.nil ?_
    refine WC.ret ?_
    refine BodyQ.ret (H' := SlA (.slice A' m c') _ 1 m (ints .u8 xs) :: F) (Res.tmp rfl (look_eq rfl (by simp))) (fun w h => ?_) ⟨A', c', rfl, rfl⟩
    simpa using h

namespace Cw
def dropWrong (C : Cw) (k : Int × Int) : Cw := { C with wrong := fun q => if q = k then none else C.wrong q }
theorem wrongF_dropW (C : Cw) (k : Int × Int) : (C.dropWrong k).wrongF = upd C.wrongF k none := by
  funext q
  show (if q = k then none else C.wrong q).map sliceOf = if q = k then none else (C.wrong q).map sliceOf
  split <;> rfl
theorem sem_dropW (C : Cw) (k : Int × Int) : (C.dropWrong k).sem = { C.sem with wrong := Chip.upds C.sem.wrong k none } := by
  unfold sem dropWrong
  simp only [Chip.mk.injEq, true_and, and_true]
  funext q
  show (if q = k then none else C.wrong q).map (·.2.2) = if q = k then none else (C.wrong q).map (·.2.2)
  split <;> rfl
theorem Ok.dropWrong {C : Cw} (h : C.Ok) (k : Int × Int) : (C.dropWrong k).Ok := by
  refine ⟨h.mays, h.page, fun p e hp => ?_, h.len, h.next, h.left⟩
  have hp' : (if p = k then none else C.wrong p) = some e := hp
  split at hp'
  · cases hp'
  · exact h.wr p e hp'
end Cw

end Go.Proofs.Ytohkefolnmcjnaa
