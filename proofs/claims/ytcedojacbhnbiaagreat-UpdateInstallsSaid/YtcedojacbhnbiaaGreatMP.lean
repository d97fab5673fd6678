import Derived.Test.YtcedojacbhnbiaaGreatRows
import Derived.Test.YtcedojacbhnbiaaGreatP14
set_option linter.unusedVariables false
set_option maxRecDepth 100000
namespace Go.Proofs.YtcedojacbhnbiaaGreat
open Go.Sl Go.ChangeShapes Go.WideShapes Go.ChangeAt Go.RowKit List Nat
set_option maxRecDepth 100000 in
theorem acO(os:Os)(started:os.Started)(H:Type)(enc:TypeId×Value→H) :
 ReturnsInHanded {} Tryz.checked os 9 .any (Rows.updateInstallsSpec.pre6 enc Tryz.prog Tryz.f9 Rows.updateInstallsRow.domain false) (Rows.updateInstallsSpec.post enc Tryz.prog Tryz.f9 false true false false):=by
 refine Tg (C:=Tryz.checked) ag4 started (by kernel_rfl) Tryz.func9
  (ChangeSpec.witness6 (enc:=enc) (C:=Tryz.checked) false ⟨#[],#[.agg #[.i 0,.i 0,.i 0,.i 0,.i 0],.slice none 0 0],[]⟩ 8 (by kernel_rfl) (by kernel_rfl) (by kernel_rfl) (by kernel_rfl))
  Vd (by kernel_rfl) rfl (λds h=> ?_) rfl Tryz.underlying4 ?_
 ·match ds,h with
  | [d0,d1],_=>rfl
 ·intro W base args ds p JE hA o7;have hn:=(qW hA).1;have hn':=(qW hA).2;obtain⟨l⟩:=args
  match l,hn,ds,hn' with
  | [v0,v1],_,[d0,d1],_ =>
   obtain⟨g,rfl⟩:=aaM (JE 0 _ v0 rfl rfl);have UM:=hA;obtain⟨_,_,_,UM,_⟩:=UM;obtain⟨_,_,oZ,_,_⟩:=UM;obtain⟨A1,m1,aq3,l1,rfl,RY⟩:=ahh (JE 1 _ v1 rfl rfl) oZ;exact acS g RY

theorem ac7:(Rows.updateInstallsRow.inPlace==Program.inPlace Tryz.prog 9)=true:=by kernel_rfl
theorem ac8:(Rows.updateInstallsRow.unfollowed==Program.unfollowed Tryz.prog 9)=true:=by kernel_rfl
theorem ac5:(Rows.updateInstallsRow.recurses==Program.recurses Tryz.prog 9)=true:=by kernel_rfl
theorem ado:(Rows.updateInstallsRow.named==Program.varsNamed Tryz.prog 9)=true:=by kernel_rfl
theorem ac4:(Rows.updateInstallsRow.lifted==Program.liftsFinal Tryz.prog)=true:=by kernel_rfl
theorem adq:(Program.make Tryz.prog==some Rows.updateInstallsRow.make)=true:=by kernel_rfl
theorem ac6:AQ Tryz.prog Tryz.f9 Rows.updateInstallsSpec Rows.updateInstallsRow=true:=by kernel_rfl
theorem updateInstalls_holds:Rows.UpdateInstallsSaid :=
 OpenClaim.holds_of_wide 9 Tryz.f9 rfl rfl rfl rfl rfl rfl rfl ⟨rfl,rfl,rfl,rfl,rfl⟩ rfl rfl rfl rfl rfl (by kernel_rfl) Tryz.func9
  (X7 Vd agU ad5 ad7 ac7 ac8 ac5 ado ac4 adq ac6)
  (of_decide_eq_true (by kernel_rfl)) (by unfold Func.isWrapper;rw[if_neg (of_decide_eq_false (by kernel_rfl))];exact⟨rfl,rfl⟩)
  (λos started H enc _=>acO os started H enc)
end Go.Proofs.YtcedojacbhnbiaaGreat
