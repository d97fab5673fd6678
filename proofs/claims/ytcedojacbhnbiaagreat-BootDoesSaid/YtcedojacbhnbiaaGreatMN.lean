import Derived.Test.YtcedojacbhnbiaaGreatRows
import Derived.Test.YtcedojacbhnbiaaGreatP14
/- The law BootDoes tells true for every geometry, ring of keys and script, and turns nothing that was there. No condition. -/
set_option autoImplicit true
set_option linter.unusedVariables false
set_option maxRecDepth 100000
set_option relaxedAutoImplicit true
namespace Go.Proofs.YtcedojacbhnbiaaGreat
open Go.Sl Go.ChangeShapes Go.WideShapes Go.ChangeAt Go.RowKit List Nat
set_option maxRecDepth 100000 in
theorem FX(os:Os)(started:os.Started)(H:Type)(enc:TypeId×Value→H) :
 ReturnsInHanded {} Tryz.checked os 8 .any (Rows.bootDoesSpec.pre6 enc Tryz.prog Tryz.f8 Rows.bootDoesRow.domain false) (Rows.bootDoesSpec.post enc Tryz.prog Tryz.f8 false true false false):=by
 refine Tg (C:=Tryz.checked) ag4 started (by kernel_rfl) Tryz.func8
  (ChangeSpec.witness6 (enc:=enc) (C:=Tryz.checked) false ⟨#[],#[.agg #[.i 0,.i 0,.i 0,.i 0,.i 0],.slice none 0 0,.slice none 0 0],[]⟩ 8 (by kernel_rfl) (by kernel_rfl) (by kernel_rfl) (by kernel_rfl))
  Vd (by kernel_rfl) rfl (fun ds h=> ?_) rfl Tryz.underlying4 ?_
 ·match ds,h with
  | [d0,d1,d2],_=>rfl
 ·intro W base args ds p JE hA o7;have hn:=(qW hA).1;have hn':=(qW hA).2;obtain⟨l⟩:=args
  match l,hn,ds,hn' with
  | [v0,v1,v2],_,[d0,d1,d2],_ =>
   obtain⟨g,rfl⟩:=aaM (JE 0 _ v0 rfl rfl);have UM:=hA;obtain⟨_,_,_,UM,_⟩:=UM;obtain⟨_,_,oZ,_,_⟩:=UM;obtain⟨A1,m1,aq3,ks1,rfl,Dq⟩:=Yz (JE 1 _ v1 rfl rfl) oZ;have RU:=hA;obtain⟨_,_,_,RU,_⟩:=RU;obtain⟨_,_,_,RU,_⟩:=RU;obtain⟨_,_,BH,_,_⟩:=RU;obtain⟨A2,m2,cap2,sc2,rfl,pI⟩:=Kn (JE 2 _ v2 rfl rfl) BH;exact Jp g Dq pI

theorem QM:(Rows.bootDoesRow.inPlace==Program.inPlace Tryz.prog 8)=true:=by kernel_rfl
theorem OC:(Rows.bootDoesRow.unfollowed==Program.unfollowed Tryz.prog 8)=true:=by kernel_rfl
theorem Qa:(Rows.bootDoesRow.recurses==Program.recurses Tryz.prog 8)=true:=by kernel_rfl
theorem Pn:(Rows.bootDoesRow.named==Program.varsNamed Tryz.prog 8)=true:=by kernel_rfl
theorem OQ:(Rows.bootDoesRow.lifted==Program.liftsFinal Tryz.prog)=true:=by kernel_rfl
theorem QU:(Program.make Tryz.prog==some Rows.bootDoesRow.make)=true:=by kernel_rfl
theorem QG:AQ Tryz.prog Tryz.f8 Rows.bootDoesSpec Rows.bootDoesRow=true:=by kernel_rfl
theorem bootDoes_holds:Rows.BootDoesSaid :=
 OpenClaim.holds_of_wide 8 Tryz.f8 rfl rfl rfl rfl rfl rfl rfl ⟨rfl,rfl,rfl,rfl,rfl⟩ rfl rfl rfl rfl rfl (by kernel_rfl) Tryz.func8
  (X7 Vd agU ad5 ad7 QM OC Qa Pn OQ QU QG)
  (of_decide_eq_true (by kernel_rfl)) (by unfold Func.isWrapper;rw[if_neg (of_decide_eq_false (by kernel_rfl))];exact⟨rfl,rfl⟩)
  (fun os started H enc _=>FX os started H enc)
end Go.Proofs.YtcedojacbhnbiaaGreat
