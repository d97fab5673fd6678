import Derived.Test.YtcedojacbhnbiaaGreatRows
import Derived.Test.YtcedojacbhnbiaaGreatP16
/- The law BootFuse tells true for every geometry, ring of keys and texts, and turns nothing that was there. No condition. -/
set_option linter.unusedVariables false
set_option maxRecDepth 100000
namespace Go.Proofs.YtcedojacbhnbiaaGreat
open Go.Sl Go.ChangeShapes Go.WideShapes Go.ChangeAt Go.RowKit List Nat
set_option maxRecDepth 100000 in
theorem Gi(os:Os)(started:os.Started)(H:Type)(enc:TypeId×Value→H) :
 ReturnsInHanded {} Tryz.checked os 6 .any (Rows.bootFuseSpec.pre6 enc Tryz.prog Tryz.f6 Rows.bootFuseRow.domain false) (Rows.bootFuseSpec.post enc Tryz.prog Tryz.f6 false true false false):=by
 refine JB (C:=Tryz.checked) aaR started (by kernel_rfl) Tryz.func6
  (ChangeSpec.witness6 (enc:=enc) (C:=Tryz.checked) false ⟨#[],#[.agg #[.i 0,.i 0,.i 0,.i 0,.i 0],.slice none 0 0,.slice none 0 0,.slice none 0 0],[]⟩ 8 (by kernel_rfl) (by kernel_rfl) (by kernel_rfl) (by kernel_rfl))
  GJ (by kernel_rfl) rfl (fun ds h=> ?_) rfl Tryz.underlying4 ?_
 ·match ds,h with
  | [d0,d1,d2,d3],_=>rfl
 ·intro W base args ds p zZ hA oJ;have hn:=(kM hA).1;have ZP:=(kM hA).2;obtain⟨l⟩:=args
  match l,hn,ds,ZP with
  | [v0,v1,v2,v3],_,[d0,d1,d2,d3],_ =>
   obtain⟨g,rfl⟩:=Ql (zZ 0 _ v0 rfl rfl);have hA1:=hA;obtain⟨_,_,_,hA1,_⟩:=hA1;obtain⟨_,_,lU,_,_⟩:=hA1;obtain⟨A1,m1,amJ,ks1,rfl,DX⟩:=LY (zZ 1 _ v1 rfl rfl) lU;have Pq:=hA;obtain⟨_,_,_,Pq,_⟩:=Pq;obtain⟨_,_,_,Pq,_⟩:=Pq;obtain⟨_,_,wP,_,_⟩:=Pq;obtain⟨A2,m2,cap2,ss2,rfl,rJ,hl2,hm2,tX⟩:=vY Tryz.underlying25 Tryz.underlying9 (by kernel_rfl) (zZ 2 _ v2 rfl rfl) wP;have MV:=hA;obtain⟨_,_,_,MV,_⟩:=MV;obtain⟨_,_,_,MV,_⟩:=MV;obtain⟨_,_,_,MV,_⟩:=MV;obtain⟨_,_,uS,_,_⟩:=MV;obtain⟨A3,m3,arn,ss3,rfl,SK,hl3,hm3,hb3⟩:=vY Tryz.underlying25 Tryz.underlying9 (by kernel_rfl) (zZ 3 _ v3 rfl rfl) uS;exact Hw g DX rJ hl2 SK hl3

theorem Rz:(Rows.bootFuseRow.inPlace==Program.inPlace Tryz.prog 6)=true:=by kernel_rfl
theorem RD:(Rows.bootFuseRow.unfollowed==Program.unfollowed Tryz.prog 6)=true:=by kernel_rfl
theorem Sc:(Rows.bootFuseRow.recurses==Program.recurses Tryz.prog 6)=true:=by kernel_rfl
theorem Sv:(Rows.bootFuseRow.named==Program.varsNamed Tryz.prog 6)=true:=by kernel_rfl
theorem PO:(Rows.bootFuseRow.lifted==Program.liftsFinal Tryz.prog)=true:=by kernel_rfl
theorem Sg:(Program.make Tryz.prog==some Rows.bootFuseRow.make)=true:=by kernel_rfl
theorem P9:vK Tryz.prog Tryz.f6 Rows.bootFuseSpec Rows.bootFuseRow=true:=by kernel_rfl
theorem bootFuse_holds:Rows.BootFuseSaid :=
 OpenClaim.holds_of_wide 6 Tryz.f6 rfl rfl rfl rfl rfl rfl rfl ⟨rfl,rfl,rfl,rfl,rfl⟩ rfl rfl rfl rfl rfl (by kernel_rfl) Tryz.func6
  (LD GJ abb WI VO Rz RD Sc Sv PO Sg P9)
  (of_decide_eq_true (by kernel_rfl)) (by unfold Func.isWrapper;rw[if_neg (of_decide_eq_false (by kernel_rfl))];exact⟨rfl,rfl⟩)
  (fun os started H enc _=>Gi os started H enc)
end Go.Proofs.YtcedojacbhnbiaaGreat
