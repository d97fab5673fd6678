import Derived.Test.YtcedojacbhnbiaaGreatRows
import Derived.Test.YtcedojacbhnbiaaGreatP15
/- The law BootTries tells true for every geometry, ring of keys and texts, and turns nothing that was there. No condition. -/
set_option linter.unusedVariables false
set_option maxRecDepth 100000
namespace Go.Proofs.YtcedojacbhnbiaaGreat
open Go.Sl Go.ChangeShapes Go.WideShapes Go.ChangeAt Go.RowKit List Nat
set_option maxRecDepth 100000 in
theorem En(os:Os)(started:os.Started)(H:Type)(enc:TypeId×Value→H) :
 ReturnsInHanded {} Tryz.checked os 5 .any (Rows.bootTriesSpec.pre6 enc Tryz.prog Tryz.f5 Rows.bootTriesRow.domain false) (Rows.bootTriesSpec.post enc Tryz.prog Tryz.f5 false true false false):=by
 refine JB (C:=Tryz.checked) aaR started (by kernel_rfl) Tryz.func5
  (ChangeSpec.witness6 (enc:=enc) (C:=Tryz.checked) false ⟨#[],#[.agg #[.i 0,.i 0,.i 0,.i 0,.i 0],.slice none 0 0,.slice none 0 0],[]⟩ 8 (by kernel_rfl) (by kernel_rfl) (by kernel_rfl) (by kernel_rfl))
  GJ (by kernel_rfl) rfl (fun ds h=> ?_) rfl Tryz.underlying4 ?_
 ·match ds,h with
  | [d0,d1,d2],_=>rfl
 ·intro W base args ds p zZ hA oJ;have hn:=(kM hA).1;have ZP:=(kM hA).2;obtain⟨l⟩:=args
  match l,hn,ds,ZP with
  | [v0,v1,v2],_,[d0,d1,d2],_ =>
   obtain⟨g,rfl⟩:=Ql (zZ 0 _ v0 rfl rfl);have hA1:=hA;obtain⟨_,_,_,hA1,_⟩:=hA1;obtain⟨_,_,lU,_,_⟩:=hA1;obtain⟨A1,m1,amJ,ks1,rfl,DX⟩:=LY (zZ 1 _ v1 rfl rfl) lU;have Pq:=hA;obtain⟨_,_,_,Pq,_⟩:=Pq;obtain⟨_,_,_,Pq,_⟩:=Pq;obtain⟨_,_,wP,_,_⟩:=Pq;obtain⟨A2,m2,cap2,ss2,rfl,rJ,hl2,hm2,tX⟩:=vY Tryz.underlying25 Tryz.underlying9 (by kernel_rfl) (zZ 2 _ v2 rfl rfl) wP;exact Gp g DX rJ hl2

theorem OT:(Rows.bootTriesRow.inPlace==Program.inPlace Tryz.prog 5)=true:=by kernel_rfl
theorem Nu:(Rows.bootTriesRow.unfollowed==Program.unfollowed Tryz.prog 5)=true:=by kernel_rfl
theorem OB:(Rows.bootTriesRow.recurses==Program.recurses Tryz.prog 5)=true:=by kernel_rfl
theorem OL:(Rows.bootTriesRow.named==Program.varsNamed Tryz.prog 5)=true:=by kernel_rfl
theorem Oq:(Rows.bootTriesRow.lifted==Program.liftsFinal Tryz.prog)=true:=by kernel_rfl
theorem NT:(Program.make Tryz.prog==some Rows.bootTriesRow.make)=true:=by kernel_rfl
theorem NR:vK Tryz.prog Tryz.f5 Rows.bootTriesSpec Rows.bootTriesRow=true:=by kernel_rfl
theorem bootTries_holds:Rows.BootTriesSaid :=
 OpenClaim.holds_of_wide 5 Tryz.f5 rfl rfl rfl rfl rfl rfl rfl ⟨rfl,rfl,rfl,rfl,rfl⟩ rfl rfl rfl rfl rfl (by kernel_rfl) Tryz.func5
  (LD GJ abb WI VO OT Nu OB OL Oq NT NR)
  (of_decide_eq_true (by kernel_rfl)) (by unfold Func.isWrapper;rw[if_neg (of_decide_eq_false (by kernel_rfl))];exact⟨rfl,rfl⟩)
  (fun os started H enc _=>En os started H enc)
end Go.Proofs.YtcedojacbhnbiaaGreat
