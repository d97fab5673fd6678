import Derived.Test.YtcedojacbhnbiaaGreatRows
import Derived.Test.YtcedojacbhnbiaaGreatP15
/- The law UpdateKeeps tells true for every geometry, blocks and image, and turns nothing that was there. No condition. -/
set_option autoImplicit true
set_option linter.unusedVariables false
set_option maxRecDepth 100000
set_option relaxedAutoImplicit true
namespace Go.Proofs.YtcedojacbhnbiaaGreat
open Go.Sl Go.ChangeShapes Go.WideShapes Go.ChangeAt Go.RowKit List Nat
set_option maxRecDepth 100000 in
theorem acP(os:Os)(started:os.Started)(H:Type)(enc:TypeId×Value→H) :
 ReturnsInHanded {} Tryz.checked os 10 .any (Rows.updateKeepsSpec.pre6 enc Tryz.prog Tryz.f10 Rows.updateKeepsRow.domain false) (Rows.updateKeepsSpec.post enc Tryz.prog Tryz.f10 false true false false):=by
 refine Tg (C:=Tryz.checked) ag4 started (by kernel_rfl) Tryz.func10
  (ChangeSpec.witness6 (enc:=enc) (C:=Tryz.checked) false ⟨#[],#[.agg #[.i 0,.i 0,.i 0,.i 0,.i 0],.slice none 0 0,.agg #[.slice none 0 0,.slice none 0 0]],[]⟩ 8 (by kernel_rfl) (by kernel_rfl) (by kernel_rfl) (by kernel_rfl))
  Vd (by kernel_rfl) rfl (fun ds h=> ?_) rfl Tryz.underlying4 ?_
 ·match ds,h with
  | [d0,d1,d2],_=>rfl
 ·intro W base args ds p JE hA o7;have hn:=(qW hA).1;have hn':=(qW hA).2;obtain⟨l⟩:=args
  match l,hn,ds,hn' with
  | [v0,v1,v2],_,[d0,d1,d2],_ =>
   obtain⟨g,rfl⟩:=aaM (JE 0 _ v0 rfl rfl);have UM:=hA;obtain⟨_,_,_,UM,_⟩:=UM;obtain⟨_,_,oZ,_,_⟩:=UM;obtain⟨A1,m1,aq3,ss1,rfl,uM,RY,hm1,EA⟩:=aeT Tryz.underlying25 Tryz.underlying9 (by kernel_rfl) (JE 1 _ v1 rfl rfl) oZ;have RU:=hA;obtain⟨_,_,_,RU,_⟩:=RU;obtain⟨_,_,_,RU,_⟩:=RU;obtain⟨_,_,BH,_,_⟩:=RU;obtain⟨S2,q2,cs2,sd2,P2,kp2,cp2,ds2,rfl,hi2⟩:=afJ (JE 2 _ v2 rfl rfl) BH;exact acR g uM RY hi2

theorem adh:(Rows.updateKeepsRow.inPlace==Program.inPlace Tryz.prog 10)=true:=by kernel_rfl
theorem adq:(Rows.updateKeepsRow.unfollowed==Program.unfollowed Tryz.prog 10)=true:=by kernel_rfl
theorem aeH:(Rows.updateKeepsRow.recurses==Program.recurses Tryz.prog 10)=true:=by kernel_rfl
theorem adr:(Rows.updateKeepsRow.named==Program.varsNamed Tryz.prog 10)=true:=by kernel_rfl
theorem ac5:(Rows.updateKeepsRow.lifted==Program.liftsFinal Tryz.prog)=true:=by kernel_rfl
theorem adN:(Program.make Tryz.prog==some Rows.updateKeepsRow.make)=true:=by kernel_rfl
theorem aeD:AQ Tryz.prog Tryz.f10 Rows.updateKeepsSpec Rows.updateKeepsRow=true:=by kernel_rfl
theorem updateKeeps_holds:Rows.UpdateKeepsSaid :=
 OpenClaim.holds_of_wide 10 Tryz.f10 rfl rfl rfl rfl rfl rfl rfl ⟨rfl,rfl,rfl,rfl,rfl⟩ rfl rfl rfl rfl rfl (by kernel_rfl) Tryz.func10
  (X7 Vd agU ad5 ad7 adh adq aeH adr ac5 adN aeD)
  (of_decide_eq_true (by kernel_rfl)) (by unfold Func.isWrapper;rw[if_neg (of_decide_eq_false (by kernel_rfl))];exact⟨rfl,rfl⟩)
  (fun os started H enc _=>acP os started H enc)
end Go.Proofs.YtcedojacbhnbiaaGreat
