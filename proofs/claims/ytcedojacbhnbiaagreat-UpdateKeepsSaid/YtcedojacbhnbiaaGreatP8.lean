import Derived.Test.YtcedojacbhnbiaaGreatP7
set_option autoImplicit true
set_option linter.all false
set_option maxHeartbeats 2000000
set_option maxRecDepth 20000
set_option relaxedAutoImplicit true
namespace Go.Proofs.YtcedojacbhnbiaaGreat
open Go.Sl Go.RowKit Tryz List Nat
abbrev bU(s:aY):List Nat:=iB s.bytes
theorem aaP(S:aD)(T:St):(lK S T).1.ok=true:=by
 unfold lK;split
 ·rfl
 ·split
  ·rename_i h;have h2:=h.2;unfold aY.parse at h2 ⊢;split at h2
   ·rename_i h3;rw[if_pos h3];unfold aY.dW at h3;simp only[Bool.and_eq_true] at h3;exact h3.1.2
   ·cases h2
  ·rfl
theorem Ld{T:bZ}{C:Cw}(hC:C.Ok)(hg:C.g=g)(hT:T.Ok g)(hx:x.ok=true)(qZ:∀l∈T.aC.cu,l.length≤1000000):aB prog 69 #[ptr bs 0,x.v] K (C.A bc::dA bd bc g::T.A bs bd g::F)
 (fun v H'=>∃(C':Cw) (T':bZ),C'.Ok∧C'.g=g∧T'.Ok g∧C'.aC=(bq C.aC T.aC 0 (bU x)).1∧T'.aC=(bq C.aC T.aC 0 (bU x)).2.1∧v= .i (bq C.aC T.aC 0 (bU x)).2.2∧H'=C'.A bc::dA bd bc g::T'.A bs bd g::F):=by
 have hb:=aY.gJ hx;have hl9:(bU x).length=9:=by unfold bU;rw[gZ,aY.fC hx]
 obtain⟨X,hX⟩:∃X,X=bq C.aC T.aC 0 (bU x):=⟨_,rfl⟩;rw[←hX];refine aB.en func69 ntmps69 ?_;refine aj "a%" fun b3=> ?_;refine aj "vB" ?_;refine WL.c1 call131 rfl (EP x _ _) rfl ?_;rintro _ _ (⟨_,bb,rfl,rfl⟩ | ⟨uN,rfl,rfl⟩)
 rotate_left
 ·rw[hx] at uN;cases uN
 refine aj "Dfs3Uc" ?_;refine WL.sub (Sub.refl _) (fun w h=>h.bg 5 [2,3,4,0] rfl) ?_;refine WL.c3 call16 rfl rfl rfl (Da hC hg hT (aS:=0) (d:=bU x) (by rw[show av .u8 (bU x)=ints .u8 x.bytes by unfold bU;rw[mJ hb]];exact Seq.allI (aY.fC hx)) (iP hb) aN aN qZ) rfl ?_;rintro _ _ ⟨C1,T1,RP,g1,oZ,s1,t1,rfl,rfl⟩;rw[←hX] at s1 t1 ⊢;refine aj "d" ?_;exact qR (C1.A bc::dA bd bc g::T1.A bs bd g::F) rfl rfl (fun w h=>h.bg 4 [0,1,2] rfl) ⟨C1,T1,RP,g1,oZ,s1,t1,rfl,rfl⟩
theorem aY.GZ{s:aY}(h1:s.ok=true)(h2:slot=0∨slot=1):s.Ol slot=0:=by simp_all [aY.Ol,if_pos]
theorem Pt:∀ {l m:List Nat},l.Nodup→(∀x∈l,x∈m)→l.length≤m.length
 | [],m,_,_=>zero_le _
 | a::l,m,hn,hs=>by
  have pq:=nodup_cons.1 hn;have ha:=hs a (.head _);have h1:=Pt (l:=l) (m:=m.erase a) pq.2 (fun x hx=>(mem_erase_of_ne (fun h:x=a=>pq.1 (by rw[←h];exact hx))).2 (hs x (.tail _ hx)));rw[length_erase_of_mem ha] at h1;have h2:0<m.length:=length_pos_of_mem ha;rw[length_cons];omega
def bQ.kX(g:bQ):Nat:=g.sb.toNat+aR g.fl.toNat
namespace aD
def Zr(S:aD)(k:Int×Int):Prop:=S.bM k=none
theorem Pk{g:bQ}(hg:g.aU):g.raw=((g.se.toNat*g.kX+1:Nat):Int):=bQ.uZ hg
theorem KU{S:aD}(hg:S.g.aU)(hu:S.up=true)(h:0≤b∧b<S.g.bl∧0≤p∧p<S.g.pg)(hm:S.marked b=false)(h8:aA 256 d)(hl:d.length=S.room)
 (hp:S.aX (b,p)=some (bH (fF S.g d))) (hw:S.Zr (b,p)):∃N:Nat,(S.bM (b,p)=none→N=0)∧S.bY b p=⟨0,d,N⟩∧S.oW b p=0:=by
 have hN:=zS.of (bl:=S.g.bl) (pg:=S.g.pg) (by rw[←lS hg];exact hg);refine⟨0,fun _=>rfl,TQ hg hu h hm h8 hl hp hw, ?_⟩;unfold oW;rw[DZ hp hw];exact Fv hN.t h8 hl
def zL(S:aD)(k:Int×Int):Prop:=∀xs,S.aX k=some xs→∃ys,xs=bH ys∧ys.getD (S.g.se.toNat*S.g.kX) 0=255
theorem Jt{S:aD}(hg:S.g.aU)(ht:S.zL (b,p))(hw:S.Zr (b,p)):S.oW b p≠0:=by
 have key:∀ys:List Nat,ys.getD (S.g.se.toNat*S.g.kX) 0=255→jf S.g.fl.toNat S.g.se.toNat (S.g.sb.toNat+aR S.g.fl.toNat) ys≠0:=fun ys hy=>by
  rcases XG (t:=S.g.fl.toNat) (S:=S.g.se.toNat) (n:=S.g.sb.toNat+aR S.g.fl.toNat) hy with h | h<;>rw[h]<;>decide
 cases hp:S.aX (b,p) with
 | some xs =>
  obtain⟨ys,rfl,hy⟩:=ht xs hp;unfold oW;rw[DZ hp hw];exact key ys hy
 | none =>
  have hb:S.reads b p=replicate S.g.raw.toNat 255:=by
   unfold reads;rw[hp,show S.bM (b,p)=none from hw];rfl
  unfold oW kI;rw[hb];refine key _ ?_;unfold iB;rw[map_replicate,Pk hg,Int.toNat_natCast];simp[getD,getElem?_replicate]
theorem Uv{S:aD}(hg:S.g.aU)(ht:S.zL (b,p))(hw:S.Zr (b,p)):(S.bY b p).err≠0:=by
 have h1:=Jt hg ht hw;unfold oW at h1;unfold bY;split
 ·rename_i h;exact h
 ·show ((gK _ _ _ _).err:Int)≠0;unfold gK;rw[if_pos h1];show ((jf _ _ _ _:Nat):Int)≠0;omega
end aD
def Co(g:bQ)(h:Hd)(d:List Nat):Nat→List Nat
 | 0=>[]
 | k+1=>Co g h d k++pJ g h d (k+1)
theorem H7(hg:g.aU):∀k,(Co g h d k).length=k*g.room.toNat∧(Co g h d k).take d.length=d.take (k*g.room.toNat)
 | 0=>⟨by simp[Co],by simp[Co]⟩
 | k+1=>by
  obtain⟨h1,h2⟩:=H7 (h:=h) (d:=d) hg k;obtain⟨R,hR⟩:∃R,R=g.room.toNat:=⟨_,rfl⟩;have hl:=rG (h:=h) (d:=d) hg (k+1);rw[←hR] at h1 h2 hl ⊢;rw[Co];refine⟨by rw[length_append,h1,hl,succ_mul], ?_⟩;by_cases hk:d.length≤k*R
  ·rw[take_append_of_le_length ay,h2,take_of_length_le hk,take_of_length_le (by rw[succ_mul];omega)]
  ·have e1:Co g h d k=d.take (k*R):=by rw[←h2,take_of_length_le ay]
   rw[take_append,h1,take_of_length_le (l:=Co g h d k) ay,e1,succ_mul];have e2:(pJ g h d (k+1)).take (d.length-k*R)=(d.drop (k*R)).take R:=by
    show ((d.drop (k*g.room.toNat)).take g.room.toNat++replicate (g.room.toNat-((d.drop (k*g.room.toNat)).take g.room.toNat).length) 0).take (d.length-k*R)=_;rw[←hR];by_cases hr:R≤d.length-k*R
    ·have e3:((d.drop (k*R)).take R).length=R:=by rw[length_take,length_drop];omega
     rw[e3,Nat.sub_self,replicate_zero,append_nil,take_of_length_le ay]
    ·have e3:((d.drop (k*R)).take R).length=d.length-k*R:=by rw[length_take,length_drop];omega
     rw[take_append_of_le_length ay,take_of_length_le ay]
   rw[e2,←take_add]
namespace aD
variable{S:aD}{b:Int}{h:Hd}{d:List Nat}
def uT(S:aD)(h:Hd):Nat:=(S.g.bN h.len).toNat
structure yQ(S:aD)(b:Int)(h:Hd)(d:List Nat):Prop where
 may:h.may S.g=true
 len:h.len=(d.length:Nat)
 small:aA 256 d
 oG:∀p,p≤S.uT h→S.aX (b,(p:Int))=some (bH (fF S.g (pJ S.g h d p)))
structure Part(S:aD)(b:Int)(h:Hd):Prop where
 may:h.may S.g=true
 oG:S.aX (b,0)=some (bH (fF S.g (jP S.g h)))
 amV:∃p:Nat,p≤S.uT h∧S.zL (b,(p:Int))
theorem yG:∀k,S.kJ b k=true↔∀j:Nat,j<k→S.oW b (j:Int)=0
 | 0=>by simp[kJ]
 | k+1=>by
  rw[kJ,Bool.and_eq_true,yG k,decide_eq_true_eq];constructor
  ·rintro⟨h1,h2⟩ j hj;rcases Nat.lt_or_ge j k with h | h
   ·exact h1 j h
   ·rw[show j=k by omega];exact h2
  ·intro h;exact⟨fun j hj=>h j ay,h k ay⟩
theorem Mq(hg:S.g.aU)(hm:h.may S.g=true):(S.uT h:Int)=S.g.bN h.len∧(S.uT h:Int)≤S.g.pg-1∧h.len≤(S.uT h:Int)*S.g.room∧0≤h.len:=by
 have JG:=hm;unfold Hd.may at JG;simp only[Bool.and_eq_true,decide_eq_true_eq] at JG;have hf:=JG.1.1.1.1;have h1:=bQ.Ll hg hf;unfold bQ.fits at hf;simp only[Bool.and_eq_true,decide_eq_true_eq] at hf;unfold uT;rw[Int.toNat_of_nonneg h1.1];exact⟨rfl,h1.2.1,h1.2.2.1,hf.1⟩
theorem NH(hg:S.g.aU):S.room=S.g.room.toNat:=by
 unfold room;rw[bQ.Jv hg];rfl
theorem Li(hg:S.g.aU)(hu:S.up=true)(hb:0≤b∧b<S.g.bl)(hm:S.marked b=false)(Oj:h.may S.g=true):S.mX b (1+S.g.bN h.len)=(S.kJ b (1+S.uT h),0):=by
 have h1:=Mq hg Oj;have uJ:=hg;unfold bQ.aU at uJ;have e1:(decide ((0:Int)≤1+S.g.bN h.len)&&decide (1+S.g.bN h.len≤S.g.pg))=true:=by rw[decide_eq_true ay,decide_eq_true ay];rfl
 have e2:S.ahead b 0 true=0:=Cg hu ⟨hb.1,hb.2,by omega,by omega⟩ hm;unfold mX;rw[e1,e2,if_neg aN,if_neg (fun h=>h rfl)];rw[show (1+S.g.bN h.len).toNat=1+S.uT h by omega]
theorem XM(hg:S.g.aU)(hf:∀p:Nat,S.Zr (b,(p:Int)))(ht:S.zL (b,0)):S.ko b=none:=by
 have h1:=Uv hg ht (hf 0);unfold ko;rw[if_pos h1]
section
variable(hg:S.g.aU)(hu:S.up=true)(hb:0≤b∧b<S.g.bl)(hm:S.marked b=false)(hf:∀p:Nat,S.Zr (b,(p:Int)))
include hg hu hb hm hf
theorem Gw(hH:S.yQ b h d)(hp:p≤S.uT h):∃N:Nat,(S.bM (b,(p:Int))=none→N=0)∧S.bY b p=⟨0,pJ S.g h d p,N⟩∧S.oW b p=0:=by
 have h1:=Mq hg hH.may;exact KU hg hu ⟨hb.1,hb.2,by omega,by omega⟩ hm (Bg hH.small p) (by rw[rG hg,NH hg]) (hH.oG p hp) (hf p)
theorem scan_holds(hH:S.yQ b h d):S.ko b=some ⟨b,h,true⟩:=by
 obtain⟨N,_,h2,_⟩:=Gw hg hu hb hm hf hH (p:=0) (zero_le _);have EJ:S.bY b 0=⟨0,jP S.g h,N⟩:=h2;unfold ko;rw[EJ,if_neg (fun h=>h rfl)];dsimp only;rw[yI hH.may hg];dsimp only;rw[Li hg hu hb hm hH.may];have :S.kJ b (1+S.uT h)=true:=(yG _).2 fun j hj=>by
  obtain⟨_,_,_,h3⟩:=Gw hg hu hb hm hf hH (p:=j) ay;exact h3
 rw[this]
theorem Xp(hP:S.Part b h):S.ko b=some ⟨b,h,false⟩:=by
 have uJ:=hg;unfold bQ.aU at uJ;obtain⟨N,_,h2,_⟩:=KU hg hu ⟨hb.1,hb.2,Int.le_refl _,by omega⟩ hm (yN S.g h) (by rw[pQ hg,NH hg]) hP.oG (hf 0);unfold ko;rw[h2,if_neg (fun h=>h rfl)];dsimp only;rw[yI hP.may hg];dsimp only;rw[Li hg hu hb hm hP.may];have :S.kJ b (1+S.uT h)=false:=by
  rw[←Bool.not_eq_true];intro hw;obtain⟨p,hp,ht⟩:=hP.amV;exact Jt hg ht (hf p) ((yG _).1 hw p ay)
 rw[this]
theorem rd_holds(hH:S.yQ b h d)(n0:Nat):∀k,k≤S.uT h→∃N:Nat,((∀p:Nat,S.bM (b,(p:Int))=none)→n0=0→N=0)∧iA S b n0 k=⟨0,Co S.g h d k,N⟩
 | 0,_=>⟨n0,fun _ h=>h,rfl⟩
 | k+1,hk=>by
  obtain⟨N,h1,h2⟩:=rd_holds hH n0 k ay;obtain⟨M,h3,h4,_⟩:=Gw hg hu hb hm hf hH (p:=k+1) hk;have h5:S.bY b (1+(k:Int))=⟨0,pJ S.g h d (k+1),M⟩:=by rw[show 1+(k:Int)=((k+1:Nat):Int) by omega];exact h4
  refine⟨max N M,fun hw hn=> ?_, ?_⟩
  ·have e1:=h1 hw hn;have e2:=h3 (hw (k+1));omega
  ·rw[iA,h2,if_neg (fun h=>h rfl),h5,if_neg (fun h=>h rfl)];rfl
end
end aD
theorem read_holds(hg:S.g.aU)(hu:S.up=true)(hb:0≤b∧b<S.g.bl)(hm:S.marked b=false)(hf:∀p:Nat,S.Zr (b,(p:Int)))
 (hr:T.ready aS=0) (ha:T.lF aS=b) (hH:S.yQ b h d):∃N:Nat,((∀p:Nat,S.bM (b,(p:Int))=none)→N=0)∧dZ S T aS=(⟨0,d,N⟩,T):=by
 obtain⟨N0,h1,h2,_⟩:=aD.Gw hg hu hb hm hf hH (p:=0) (zero_le _);have EJ:S.bY b 0=⟨0,jP S.g h,N0⟩:=h2;obtain⟨N,h3,h4⟩:=aD.rd_holds hg hu hb hm hf hH N0 (S.uT h) (Nat.le_refl _);have hpb:=aD.Mq hg hH.may;refine⟨N,fun hw=>h3 hw (h1 (hw 0)), ?_⟩;have hpp:jr S.g (jP S.g h)=some h:=yI hH.may hg;have e1:iR S.g (jP S.g h)=0:=by unfold iR;rw[hpp]
 have e2:gQ S.g (jP S.g h)=h:=by unfold gQ;rw[hpp];rfl
 unfold dZ;rw[hr,if_neg (fun h=>h rfl),ha,if_neg ay,EJ,if_neg (fun h=>h rfl)];dsimp only;rw[e1,if_neg (fun h=>h rfl),e2];rw[show (S.g.bN h.len).toNat=S.uT h from rfl,h4,if_neg (fun h=>h rfl)];dsimp only;have h6:=(H7 (h:=h) (d:=d) hg (S.uT h)).2;rw[hH.len,Int.toNat_natCast,h6,take_of_length_le];have hr:=bQ.kP hg;have h7:((S.uT h*S.g.room.toNat:Nat):Int)=(S.uT h:Int)*S.g.room:=by rw[Int.natCast_mul];congr 1;omega
 have h8:=hpb.2.2.1;rw[hH.len,←h7] at h8;omega
theorem aaK:(72:Int)≠70:=by decide
theorem AY:(70:Int)≠72:=by decide
theorem Fh:(0:Int)≠72:=by decide
theorem tV:(0:Int)≠70:=by decide
namespace aD
structure Rest(b:Int)(S S':aD):Prop where
 g:S'.g=S.g
 len:S'.next.length=S.next.length
 aX:∀k:Int×Int,k.1≠b→S'.aX k=S.aX k
 bM:∀k:Int×Int,k.1≠b→S'.bM k=S.bM k
 marked:∀c,c≠b→S'.marked c=S.marked c
 dQ:S'.dQ=S.dQ
theorem Rest.refl(b:Int)(S:aD):Rest b S S:=⟨rfl,rfl,fun _ _=>rfl,fun _ _=>rfl,fun _ _=>rfl,rfl⟩
theorem Rest.trans(h:Rest b S T)(h':Rest b T U):Rest b S U :=
 ⟨h'.g.trans h.g,h'.len.trans h.len,fun k hk=>(h'.aX k hk).trans (h.aX k hk),fun k hk=>(h'.bM k hk).trans (h.bM k hk),fun c hc=>(h'.marked c hc).trans (h.marked c hc),h'.dQ.trans h.dQ⟩
def mk1(S:aD)(b:Int):aD:= { S with marked:=fun k=>if k=b then true else S.marked k }
theorem Gj{S:aD}(hc:S.cut=false):S.bE.up=S.up:=by unfold bE;rw[hc];cases S.up<;>rfl
theorem zm{S:aD}(hc:S.cut=true):S.bE.up=false:=by unfold bE;rw[hc];cases S.up<;>rfl
theorem Dk{S:aD}(h:S.left=0):S.cut=false:=by unfold cut;rw[h];rfl
theorem ZT(hu:S.up=true)(hb:0≤b∧b<S.g.bl) :
 (S.cut=false∧done b (S,72)=(S.bE.mk1 b,72))∨(S.cut=true∧(done b (S,72)=(S.bE.mk1 b,70)∨done b (S,72)=(S.bE,70))):=by
 have e1:S.mark b=S.all fun T=> { T with marked:=fun k=>if k=b then true else T.marked k }:=by
  unfold mark;rw[if_neg (by rw[hu];decide),if_neg (by rw[CB hb];decide)]
 have e2:done b (S,72)=if (S.mark b).2≠0 then S.mark b else ((S.mark b).1,72):=by
  unfold done;rw[if_neg (fun h=>h rfl)]
 rw[e2,e1];unfold all after;cases hc:S.cut with
 | false=>exact .inl ⟨rfl,rfl⟩
 | true =>
  refine .inr ⟨rfl, ?_⟩;by_cases hk:0<S.nG
  ·rw[decide_eq_true hk];exact .inl rfl
  ·rw[decide_eq_false hk];exact .inr rfl
theorem Rest.bE(S:aD)(b:Int):Rest b S S.bE:=⟨rfl,rfl,fun _ _=>rfl,fun _ _=>rfl,fun _ _=>rfl,rfl⟩
theorem Rest.mk1(S:aD)(b:Int):Rest b S (S.mk1 b):=⟨rfl,rfl,fun _ _=>rfl,fun _ _=>rfl,fun c hc=>if_neg hc,rfl⟩
theorem Ip{S:aD}:(S.mk1 b).marked b=true:=if_pos rfl
def acz(b:Int)(S:aD)(X:aD×Int):Prop :=
 (X.2=72∧X.1.up=true∧X.1.marked b=true)∨(X.2=70∧X.1.up=false∧(X.1.marked b=true∨X.1.marked b=S.marked b∧X.1.aX=S.aX∧X.1.bM=S.bM))
theorem Pb(hu:S.up=true)(hc:S.cut=false)(hb:0≤b∧b<S.g.bl):Rest b S (done b (S.bE,72)).1∧acz b S (done b (S.bE,72))∧(S.left=0→(done b (S.bE,72)).1.left=0∧(done b (S.bE,72)).2≠70):=by
 have hu1:S.bE.up=true:=by rw[Gj hc];exact hu
 rcases ZT (S:=S.bE) hu1 hb with ⟨c1,e1⟩ | ⟨c1,e1 | e1⟩
 ·rw[e1];refine⟨(Rest.bE S b).trans ((Rest.bE _ b).trans (Rest.mk1 _ b)),.inl ⟨rfl,by show S.bE.bE.up=true;rw[Gj c1];exact hu1,Ip⟩,fun h0=>⟨?_,aaK⟩⟩;show S.bE.bE.left=0;rw[qo h0,qo h0];exact h0
 ·rw[e1];refine⟨(Rest.bE S b).trans ((Rest.bE _ b).trans (Rest.mk1 _ b)),.inr ⟨rfl,by show S.bE.bE.up=false;exact zm c1,.inl Ip⟩,fun h0=> ?_⟩;rw[qo h0,Dk h0] at c1;cases c1
 ·rw[e1];refine⟨(Rest.bE S b).trans (Rest.bE _ b),.inr ⟨rfl,by show S.bE.bE.up=false;exact zm c1,.inr ⟨rfl,rfl,rfl⟩⟩,fun h0=> ?_⟩;rw[qo h0,Dk h0] at c1;cases c1
theorem IY(hu:S.up=true)(hb:0≤b∧b<S.g.bl)(Dt:0<S.g.pg)(hm:S.marked b=false)(hn:(S.next.length:Int)=S.g.bl):Rest b S (S.bB b).1∧(S.left=0→(S.bB b).1.left=0∧(S.bB b).2≠70)∧(S.dQ b=false→(S.bB b).2≠72) ∧
 (((S.bB b).2=0∧(S.bB b).1.up=true∧(S.bB b).1.marked b=false∧(S.bB b).1.nk b=0∧∀p,0≤p→p<S.g.pg→(S.bB b).1.aX (b,p)=none∧(S.bB b).1.bM (b,p)=none) ∨
  acz b S (S.bB b) ∨
  ((S.bB b).2=70∧(S.bB b).1.up=false∧(S.bB b).1.marked b=false∧(∃n,(S.bB b).1.aX=bD S.aX b n∧(S.bB b).1.bM=bD S.bM b n))):=by
 have e0:S.bB b=done b (S.erase b):=by
  unfold bB;rw[if_neg (by rw[Cg hu ⟨hb.1,hb.2,Int.le_refl _,Dt⟩ hm];decide)]
 have JI:∀ {α:Type} (f:Int×Int→Option α) (n:Int) (k:Int×Int),k.1≠b→bD f b n k=f k:=fun f n k hk=>if_neg fun h=>hk h.1;cases hc:S.cut with
 | true =>
  have e1:S.erase b=({ S.bE with aX:=bD S.aX b (S.kept S.g.pg),bM:=bD S.bM b (S.kept S.g.pg) },70):=by
   unfold erase;rw[if_neg (by rw[hu];decide),if_neg (by rw[CB hb];decide),hc];rfl
  have e2:S.bB b=S.erase b:=by
   rw[e0];unfold done;rw[if_pos (by rw[e1];first | exact AY | exact Fh)]
  rw[e2,e1];refine⟨⟨rfl,rfl,fun k hk=>JI _ _ k hk,fun k hk=>JI _ _ k hk,fun _ _=>rfl,rfl⟩,fun h0=> ?_,fun _=>AY,.inr (.inr ⟨rfl,zm hc,hm,_,rfl,rfl⟩)⟩;rw[Dk h0] at hc;cases hc
 | false =>
  cases hw:S.dQ b with
  | true =>
   have e1:S.erase b=(S.bE,72):=by
    unfold erase;rw[if_neg (by rw[hu];decide),if_neg (by rw[CB hb];decide),hc,if_neg Bool.false_ne_true,hw,if_pos rfl]
   rw[e0,e1];obtain⟨h1,h2,h3⟩:=Pb hu hc hb;exact⟨h1,h3,fun h=>(by cases h),.inr (.inl h2)⟩
  | false =>
   have e1:S.erase b=({ S.bE with aX:=bD S.aX b S.g.pg,bM:=bD S.bM b S.g.pg,next:=S.lH b 0 },0):=by
    unfold erase;rw[if_neg (by rw[hu];decide),if_neg (by rw[CB hb];decide),hc,if_neg Bool.false_ne_true,hw,if_neg Bool.false_ne_true];rfl
   have e2:S.bB b=S.erase b:=by
    rw[e0];unfold done;rw[if_pos (by rw[e1];first | exact AY | exact Fh)]
   rw[e2,e1];refine⟨⟨rfl,by show (S.next.set _ _).length=_;rw[length_set],fun k hk=>JI _ _ k hk,fun k hk=>JI _ _ k hk,fun _ _=>rfl,rfl⟩,fun h0=>⟨?_,tV⟩,fun _=>Fh,.inl ⟨rfl,by show S.bE.up=true;rw[Gj hc];exact hu,hm, ?_,fun p h1 h2=>⟨if_pos ⟨rfl,h1,h2⟩,if_pos ⟨rfl,h1,h2⟩⟩⟩⟩
   ·show S.bE.left=0;rw[qo h0];exact h0
   ·show (S.next.set b.toNat 0).getD b.toNat 0=0;simp only[getD,getElem?_set_self (show b.toNat<S.next.length by omega),Option.getD_some]
theorem SY(hg:S.g.aU)(hu:S.up=true)(h:0≤b∧b<S.g.bl∧0≤p∧p<S.g.pg)(hm:S.marked b=false)(h8:aA 256 d)(hl:d.length=S.room)(hn:S.nk b=p)(hln:(S.next.length:Int)=S.g.bl) :
 Rest b S (S.dK b p d).1∧(S.left=0→(S.dK b p d).1.left=0∧(S.dK b p d).2≠70)∧(S.dQ b=false→(S.dK b p d).2≠72) ∧
 (((
  S.dK b p d).2=0∧(S.dK b p d).1.up=true∧(S.dK b p d).1.marked b=false∧(S.dK b p d).1.nk b=p+1∧(S.dK b p d).1.bM=S.bM∧(S.dK b p d).1.aX=DR S.aX (b,p) (some (bH (fF S.g d)))) ∨
  acz b S (S.dK b p d) ∨
  ((
   S.dK b p d).2=70∧(S.dK b p d).1.up=false∧(S.dK b p d).1.marked b=false∧(S.dK b p d).1.bM=S.bM∧∃xs,(S.dK b p d).1.aX=DR S.aX (b,p) (some xs) ∧
   (xs=bH (fF S.g d)∨∃ys,xs=bH ys∧ys.getD (S.g.se.toNat*S.g.kX) 0=255))):=by
 have e0:S.dK b p d=done b (S.program b p (bH (fF S.g d))):=Pf hu h hm hl;have l7:=aa1 hg h8 hl;have nD:∀ {α:Type} (f:Int×Int→Option α) (v:Option α) (k:Int×Int),k.1≠b→DR f (b,p) v k=f k:=fun f v k hk=>if_neg fun e=>hk (by rw[e]);cases hc:S.cut with
 | true =>
  have e1:S.program b p (bH (fF S.g d))=({ S.bE with aX:=DR S.aX (b,p) (some ((bH (fF S.g d)).take (S.kept (bH (fF S.g d)).length).toNat++S.blank.drop (S.kept (bH (fF S.g d)).length).toNat)),next:=S.lH b (p+1) },70):=by
   unfold program;rw[if_neg (by rw[hu];decide),if_neg (by rw[Mg h];rintro (h | h);cases h;exact h l7),if_neg (fun h=>h hn.symm),hc];rfl
  have e2:S.dK b p d=S.program b p (bH (fF S.g d)):=by
   rw[e0];unfold done;rw[if_pos (by rw[e1];first | exact AY | exact Fh)]
  rw[e2,e1];refine⟨⟨rfl,by show (S.next.set _ _).length=_;rw[length_set],fun k hk=>nD _ _ k hk,fun k hk=>rfl,fun _ _=>rfl,rfl⟩,fun h0=> ?_,fun _=>AY,.inr (.inr ⟨rfl,zm hc,hm,rfl,_,rfl, ?_⟩)⟩
  ·rw[Dk h0] at hc;cases hc
  ·obtain⟨k,hk⟩:∃k,k=(S.kept (bH (fF S.g d)).length).toNat:=⟨_,rfl⟩;rw[←hk];have vX:k≤(bH (fF S.g d)).length:=by rw[hk];unfold kept;omega
   have BI:S.blank=bH (replicate S.g.raw.toNat 255):=by unfold blank bH raw;rw[map_replicate];rfl
   have hrw:=Pk hg;have KA:(bH (fF S.g d)).length=S.g.se.toNat*S.g.kX+1:=by
    have h1:((bH (fF S.g d)).length:Int)=S.g.raw:=l7;omega
   by_cases YX:k=(bH (fF S.g d)).length
   ·refine .inl ?_;rw[YX,take_of_length_le (Nat.le_refl _),BI,drop_eq_nil_of_le,append_nil];unfold bH;rw[length_map,length_replicate];unfold bH at KA;rw[KA,hrw,Int.toNat_natCast];exact Nat.le_refl _
   ·refine .inr ⟨(fF S.g d).take k++(replicate S.g.raw.toNat 255).drop k, ?_, ?_⟩
    ·rw[BI];unfold bH;rw[map_append,map_take,map_drop]
    ·have hpk:(fF S.g d).length=S.g.se.toNat*S.g.kX+1:=by unfold bH at KA;rw[length_map] at KA;exact KA
     have aq8:k<S.g.se.toNat*S.g.kX+1:=by
      unfold bH at vX YX;rw[length_map] at vX YX;omega
     simp only[getD];rw[getElem?_append_right (by rw[length_take];omega),length_take,getElem?_drop,hrw,Int.toNat_natCast,getElem?_replicate,if_pos ay];rfl
 | false =>
  cases hw:S.dQ b with
  | true =>
   have e1:S.program b p (bH (fF S.g d))=(S.bE,72):=by
    unfold program;rw[if_neg (by rw[hu];decide),if_neg (by rw[Mg h];rintro (h | h);cases h;exact h l7),if_neg (fun h=>h hn.symm),hc,if_neg Bool.false_ne_true,hw,if_pos rfl]
   rw[e0,e1];obtain⟨h1,h2,h3⟩:=Pb hu hc ⟨h.1,h.2.1⟩;exact⟨h1,h3,fun h=>(by cases h),.inr (.inl h2)⟩
  | false =>
   have e1:S.program b p (bH (fF S.g d))=({ S.bE with aX:=DR S.aX (b,p) (some (bH (fF S.g d))),next:=S.lH b (p+1) },0):=by
    unfold program;rw[if_neg (by rw[hu];decide),if_neg (by rw[Mg h];rintro (h | h);cases h;exact h l7),if_neg (fun h=>h hn.symm),hc,if_neg Bool.false_ne_true,hw,if_neg Bool.false_ne_true];rfl
   have e2:S.dK b p d=S.program b p (bH (fF S.g d)):=by
    rw[e0];unfold done;rw[if_pos (by rw[e1];first | exact AY | exact Fh)]
   rw[e2,e1];refine⟨⟨rfl,by show (S.next.set _ _).length=_;rw[length_set],fun k hk=>nD _ _ k hk,fun k hk=>rfl,fun _ _=>rfl,rfl⟩,fun h0=>⟨?_,tV⟩,fun _=>Fh,.inl ⟨rfl,by show S.bE.up=true;rw[Gj hc];exact hu,hm, ?_,rfl,rfl⟩⟩
   ·show S.bE.left=0;rw[qo h0];exact h0
   ·show (S.next.set b.toNat (p+1)).getD b.toNat 0=p+1;simp only[getD,getElem?_set_self (show b.toNat<S.next.length by omega),Option.getD_some]
end aD
namespace aD
def Wr(S S':aD):Prop:=∀k,S'.bM k=none∨S'.bM k=S.bM k
theorem Wr.refl(S:aD):Wr S S:=fun _=> .inr rfl
theorem Wr.of(h:S'.bM=S.bM):Wr S S':=fun k=> .inr (by rw[h])
theorem Wr.trans(h:Wr S T)(h':Wr T U):Wr S U:=fun k=>by
 rcases h' k with e | e
 ·exact .inl e
 ·rw[e];exact h k
theorem Wr.few(h:Wr S S')(hg:S'.g=S.g)(hf:∀k,S.Zr k):∀k,S'.Zr k:=fun k=>by
 rcases h k with e | e
 ·exact e
 ·exact e.trans (hf k)
theorem Wr.none{S S':aD}(h:Wr S S')(hf:∀k,S.bM k=none):∀k,S'.bM k=none:=fun k=>by
 rcases h k with e | e
 ·exact e
 ·rw[e];exact hf k
theorem Wr.drop(h:S'.bM=bD S.bM b n):Wr S S':=fun k=>by
 rw[h];unfold bD;split
 ·exact .inl rfl
 ·exact .inr rfl
def RA(b:Int)(S S':aD):Prop:=S'.aX=S.aX∧S'.bM=S.bM
def ahe(S:aD)(b:Int)(pg:Nat→List Nat)(N j:Nat):Prop:=j≤N+1∧(∀p:Nat,p<j→S.aX (b,(p:Int))=some (bH (fF S.g (pg p))))∧(j≤N→S.zL (b,(j:Int)))
theorem tJ{S:aD}(h:S.aX k=none):S.zL k:=fun xs hx=>by rw[h] at hx;cases hx
theorem Jg:Wr S (S.bB b).1:=by
 have e1:∀x:aD×Int,Wr S x.1→Wr S (done b x).1:=fun x hx=>by
  have hm:(x.1.mark b).1.bM=x.1.bM:=by
   unfold mark;split
   ·rfl
   ·split
    ·rfl
    ·unfold all;dsimp only;split<;>rfl
  unfold done;split
  ·exact hx
  ·split
   ·exact hx.trans (Wr.of hm)
   ·exact hx.trans (Wr.of hm)
 unfold bB;split
 ·exact Wr.refl S
 ·refine e1 _ ?_;unfold erase;split
  ·exact Wr.refl S
  ·split
   ·exact Wr.refl S
   ·dsimp only;split
    ·exact Wr.drop rfl
    ·split
     ·exact Wr.refl S
     ·exact Wr.drop rfl
theorem aaB:Wr S (S.dK b p d).1:=by
 have hm:∀T:aD,(T.mark b).1.bM=T.bM:=fun T=>by
  unfold mark;split
  ·rfl
  ·split
   ·rfl
   ·unfold all;dsimp only;split<;>rfl
 have e1:∀x:aD×Int,Wr S x.1→Wr S (done b x).1:=fun x hx=>by
  unfold done;split
  ·exact hx
  ·split
   ·exact hx.trans (Wr.of (hm _))
   ·exact hx.trans (Wr.of (hm _))
 unfold dK;split
 ·exact Wr.refl S
 ·refine e1 _ (Wr.of ?_);unfold program;split
  ·rfl
  ·split
   ·rfl
   ·split
    ·rfl
    ·dsimp only;split
     ·rfl
     ·split<;>rfl
theorem aaF(hg:S.g.aU)(hu:S.up=true)(hb:0≤b∧b<S.g.bl)(hm:S.marked b=false)(h8:∀p,aA 256 (pg p))(hl:∀p,(pg p).length=S.room)(hn:S.nk b=0)(hln:(S.next.length:Int)=S.g.bl)
 {N:Nat} (hN:(N:Int)<S.g.pg) (h0:∀p,0≤p→p<S.g.pg→S.aX (b,p)=none):∀k,k≤N+1→Rest b S (gu S b pg k).1∧Wr S (gu S b pg k).1∧(S.left=0→(gu S b pg k).1.left=0∧(gu S b pg k).2≠70)∧(S.dQ b=false→(gu S b pg k).2≠72) ∧
 (((gu S b pg k).2=0∧(gu S b pg k).1.up=true∧(gu S b pg k).1.marked b=false∧(gu S b pg k).1.nk b=(k:Int)∧(∀p:Nat,p<k→(gu S b pg k).1.aX (b,(p:Int))=some (bH (fF S.g (pg p))))∧(∀p:Int,(k:Int)≤p→p<S.g.pg→(gu S b pg k).1.aX (b,p)=none)) ∨
  ((gu S b pg k).2=72∧(gu S b pg k).1.up=true∧(gu S b pg k).1.marked b=true) ∨
  ((gu S b pg k).2=70∧(gu S b pg k).1.up=false∧((gu S b pg k).1.marked b=true∨(gu S b pg k).1.marked b=false∧∃j,(gu S b pg k).1.ahe b pg N j)))
 | 0,_=>⟨Rest.refl b S,Wr.refl S,fun h=>⟨h,tV⟩,fun _=>Fh,.inl ⟨rfl,hu,hm,hn,fun p hp=>absurd hp (not_lt_zero _),fun p h1 h2=>h0 p h1 h2⟩⟩
 | k+1,hk=>by
  obtain⟨r1,r2,r3,r4,r5⟩:=aaF hg hu hb hm h8 hl hn hln hN h0 k ay;by_cases he:(gu S b pg k).2=0
  ·obtain⟨Y,hY⟩:∃Y,Y=(gu S b pg k).1:=⟨_,rfl⟩;have est:gu S b pg (k+1)=Y.dK b k (pg k):=by rw[gu,if_neg (fun h=>h he),←hY]
   rw[←hY] at r1 r2 r3 r5;have q5:Y.up=true∧Y.marked b=false∧Y.nk b=(k:Int)∧(∀p:Nat,p<k→Y.aX (b,(p:Int))=some (bH (fF S.g (pg p))))∧(∀p:Int,(k:Int)≤p→p<S.g.pg→Y.aX (b,p)=none):=by
    rcases r5 with h | h | h
    ·exact h.2
    ·rw[he] at h;exact absurd h.1.symm aN
    ·rw[he] at h;exact absurd h.1.symm aN
   obtain⟨u1,u2,u3,u4,u5⟩:=q5;have wH:(pg k).length=Y.room:=by rw[hl];unfold room;rw[r1.g]
   obtain⟨w1,w2,w3,w4⟩:=SY (S:=Y) (b:=b) (p:=(k:Int)) (d:=pg k) (by rw[r1.g];exact hg) u1 (by rw[r1.g];omega) u2 (h8 k) wH u3 (by rw[r1.len,r1.g];exact hln);rw[est];have hpk:fF Y.g (pg k)=fF S.g (pg k):=by rw[r1.g]
   have ho:∀(f:Int×Int→Option (List Int)) (v:Option (List Int)) (p:Int),p≠k→DR f (b,(k:Int)) v (b,p)=f (b,p):=fun f v p hp=>if_neg fun e=>hp (by injection e);have hh:∀(f:Int×Int→Option (List Int)) (v:Option (List Int)),DR f (b,(k:Int)) v (b,(k:Int))=v:=fun f v=>if_pos rfl;refine⟨r1.trans w1,r2.trans aaB,fun h=>w2 (r3 h).1,fun h=>w3 (by rw[r1.dQ];exact h), ?_⟩;rcases w4 with ⟨a1,a2,a3,a4,_,a6⟩ | (⟨a1,a2,a3⟩ | ⟨a1,a2,a3⟩) | ⟨a1,a2,a3,_,xs,a5,a6⟩
   ·refine .inl ⟨a1,a2,a3,by rw[a4];omega,fun p hp=> ?_,fun p h1 h2=> ?_⟩
    ·rw[a6];by_cases agx:p=k
     ·subst agx;first | rw[hh,hpk] | rw[hh]
     ·rw[ho _ _ _ ay];exact u4 p ay
    ·rw[a6,ho _ _ _ ay];exact u5 p ay h2
   ·exact .inr (.inl ⟨a1,a2,a3⟩)
   ·refine .inr (.inr ⟨a1,a2, ?_⟩);rcases a3 with a3 | ⟨a3,a4,_⟩
    ·exact .inl a3
    ·refine .inr ⟨by rw[a3];exact u2,k,by omega,fun p hp=> ?_,fun _=>tJ ?_⟩
     ·rw[a4,w1.g,r1.g];exact u4 p hp
     ·rw[a4];exact u5 _ (Int.le_refl _) ay
   ·refine .inr (.inr ⟨a1,a2,.inr ⟨a3, ?_⟩⟩);rcases a6 with rfl | ⟨ys,rfl,hy⟩
    ·refine⟨k+1,by omega,fun p hp=> ?_,fun hkN=>tJ ?_⟩
     ·rw[a5,w1.g,r1.g];by_cases agx:p=k
      ·subst agx;first | rw[hh,hpk] | rw[hh]
      ·rw[ho _ _ _ ay];exact u4 p ay
     ·rw[a5,ho _ _ _ ay];exact u5 _ ay ay
    ·refine⟨k,by omega,fun p hp=> ?_,fun _ xs hx=> ?_⟩
     ·rw[a5,w1.g,r1.g,ho _ _ _ ay];exact u4 p hp
     ·rw[a5,hh] at hx;injection hx with hx
      exact⟨ys,hx.symm,by rw[w1.g];exact hy⟩
  ·have est:gu S b pg (k+1)=gu S b pg k:=by rw[gu,if_pos he]
   rw[est];refine⟨r1,r2,r3,r4, ?_⟩;rcases r5 with h | h | h
   ·exact absurd h.1 he
   ·exact .inr (.inl h)
   ·exact .inr (.inr h)
theorem Xv{S:aD}{h:Hd}(Oj:h.may S.g=true)(hl:h.len=(d.length:Nat))(h8:aA 256 d)(hj:S.ahe b (pJ S.g h d) (S.uT h) j):S.zL (b,0)∨S.Part b h∨S.yQ b h d:=by
 obtain⟨h1,h2,h3⟩:=hj;rcases eq_zero_or_pos j with rfl | h0
 ·exact .inl (h3 (zero_le _))
 ·by_cases hN:j≤S.uT h
  ·exact .inr (.inl ⟨Oj,h2 0 h0,j,hN,h3 hN⟩)
  ·exact .inr (.inr ⟨Oj,hl,h8,fun p hp=>h2 p ay⟩)
theorem Ta(hg:S.g.aU)(hu:S.up=true)(hb:0≤b∧b<S.g.bl)(hm:S.marked b=false)(hln:(S.next.length:Int)=S.g.bl)(h8:aA 256 d)(Oj:Hd.may S.g ⟨aS,(d.length:Nat),num⟩=true) :
 Rest b S (dI S num b aS d).1∧Wr S (dI S num b aS d).1∧(S.left=0→(dI S num b aS d).1.left=0∧(dI S num b aS d).2≠70)∧(S.dQ b=false→(dI S num b aS d).2≠72) ∧
 (((
  dI S num b aS d).2=0∧(dI S num b aS d).1.up=true∧(dI S num b aS d).1.marked b=false∧(dI S num b aS d).1.yQ b ⟨aS,(d.length:Nat),num⟩ d) ∨
  ((dI S num b aS d).2=72∧(dI S num b aS d).1.up=true∧(dI S num b aS d).1.marked b=true) ∨
  ((
   dI S num b aS d).2=70∧(dI S num b aS d).1.up=false∧((dI S num b aS d).1.marked b=true∨(dI S num b aS d).1.marked b=false ∧
   (RA b S (dI S num b aS d).1∨(dI S num b aS d).1.zL (b,0)∨(dI S num b aS d).1.Part b ⟨aS,(d.length:Nat),num⟩∨(dI S num b aS d).1.yQ b ⟨aS,(d.length:Nat),num⟩ d)))):=by
 have uJ:=hg;unfold bQ.aU at uJ;obtain⟨e1,e2,e3,e4⟩:=IY hu hb ay hm hln;obtain⟨h,hh⟩:∃h:Hd,h=⟨aS,(d.length:Nat),num⟩:=⟨_,rfl⟩;rw[←hh] at Oj ⊢;have hpb:=Mq hg Oj;by_cases he:(S.bB b).2=0
 ·obtain⟨T,hT⟩:∃T,T=(S.bB b).1:=⟨_,rfl⟩;have est:dI S num b aS d=gu T b (pJ S.g h d) (S.uT h+1):=by
   unfold dI;rw[if_neg (fun h=>h he),←hT,←hh];unfold uT;rw[hh]
  have hwr:=Jg (S:=S) (b:=b);rw[←hT] at e1 e2 e4 hwr;have q4:T.up=true∧T.marked b=false∧T.nk b=0∧∀p,0≤p→p<S.g.pg→T.aX (b,p)=none∧T.bM (b,p)=none:=by
   rcases e4 with h | (h | h) | h
   ·exact h.2
   ·rw[he] at h;exact absurd h.1.symm aN
   ·rw[he] at h;exact absurd h.1.symm aN
   ·rw[he] at h;exact absurd h.1.symm aN
  obtain⟨u1,u2,u3,u4⟩:=q4;obtain⟨w1,w2,w3,w4,w5⟩:=aaF (S:=T) (b:=b) (pg:=pJ S.g h d) (by rw[e1.g];exact hg) u1 (by rw[e1.g];exact hb) u2 (fun p=>Bg h8 p) (fun p=>by rw[rG hg];unfold room;rw[e1.g];exact (NH hg).symm) u3 (by rw[e1.len,e1.g];exact hln)
   (N:=S.uT h) (by rw[e1.g];omega) (fun p h1 h2=>(u4 p h1 (by rw[←e1.g];exact h2)).1) (S.uT h+1) (Nat.le_refl _)
  rw[est];have hgg:(gu T b (pJ S.g h d) (S.uT h+1)).1.g=S.g:=(w1.g).trans e1.g;have dL:∀j,(gu T b (pJ S.g h d) (S.uT h+1)).1.ahe b (pJ S.g h d) (S.uT h) j→(gu T b (pJ S.g h d) (S.uT h+1)).1.zL (b,0)∨(gu T b (pJ S.g h d) (S.uT h+1)).1.Part b h∨(gu T b (pJ S.g h d) (S.uT h+1)).1.yQ b h d:=fun j hj=>by
   refine Xv (by rw[hgg];exact Oj) (by rw[hh]) h8 (j:=j) ?_;have RV:(gu T b (pJ S.g h d) (S.uT h+1)).1.uT h=S.uT h:=by
    show ((gu T b (pJ S.g h d) (S.uT h+1)).1.g.bN h.len).toNat=(S.g.bN h.len).toNat;rw[hgg]
   rw[RV,hgg];exact hj
  refine⟨e1.trans w1,hwr.trans w2,fun h0=>w3 (e2 h0).1,fun hw=>w4 (by rw[e1.dQ];exact hw), ?_⟩;rcases w5 with ⟨a1,a2,a3,a4,a5,a6⟩ | a | ⟨a1,a2,a3⟩
  ·refine .inl ⟨a1,a2,a3,⟨by rw[hgg];exact Oj,by rw[hh],h8,fun p hp=> ?_⟩⟩;have RV:(gu T b (pJ S.g h d) (S.uT h+1)).1.uT h=S.uT h:=by
    show ((gu T b (pJ S.g h d) (S.uT h+1)).1.g.bN h.len).toNat=(S.g.bN h.len).toNat;rw[hgg]
   rw[RV] at hp;rw[a5 p ay,hgg,e1.g]
  ·exact .inr (.inl a)
  ·refine .inr (.inr ⟨a1,a2, ?_⟩);rcases a3 with a3 | ⟨a3,j,hj⟩
   ·exact .inl a3
   ·exact .inr ⟨a3,.inr (dL j hj)⟩
 ·have est:dI S num b aS d=S.bB b:=by unfold dI;rw[if_pos he]
  rw[est];refine⟨e1,Jg,e2,e3, ?_⟩;rcases e4 with h | (h | ⟨a1,a2,a3⟩) | ⟨a1,a2,a3,n,a4,a5⟩
  ·exact absurd h.1 he
  ·exact .inr (.inl h)
  ·refine .inr (.inr ⟨a1,a2, ?_⟩);rcases a3 with a3 | ⟨a3,a4,a5⟩
   ·exact .inl a3
   ·exact .inr ⟨by rw[a3];exact hm,.inl ⟨a4,a5⟩⟩
  ·refine .inr (.inr ⟨a1,a2,.inr ⟨a3, ?_⟩⟩);by_cases hn:0<n
   ·exact .inr (.inl (tJ (by rw[a4];exact if_pos ⟨rfl,Int.le_refl _,hn⟩)))
   ·have hd:∀(f:Int×Int→Option (List Int)),bD f b n=f:=fun f=>by
     funext k;unfold bD;rw[if_neg (fun h=>by omega)]
    exact .inl ⟨by rw[a4,hd],by rw[a5,hd]⟩
end aD
abbrev Hg:=Option (Hd×Bool×List Nat)
abbrev Lm:=Nat→Option (List Nat)
def Lm.put(m:Lm)(i:Nat)(v:Option (List Nat)):Lm:=fun k=>if k=i then v else m k
theorem y9{α:Type}(l:List α)(j i:Nat)(v d:α):(l.set j v).getD i d=if i=j∧j<l.length then v else l.getD i d:=by grind
theorem xQ(l:List (List Int))(b:Int)(i:Nat):(l.map (gX b)).getD i []=gX b (l.getD i []):=by
 simp only[getD,getElem?_map];cases l[i]? <;>rfl
theorem qI:x∈gX b l↔x∈l∧x≠b:=by grind [gX]
theorem wU{α:Type}{l:List α}{d:α}(h:i<l.length):l.getD i d∈l:=by grind
namespace aD
def Stat(S:aD)(b:Int):Hg→Prop
 | none=>S.zL (b,0)
 | some (h,true,d)=>S.yQ b h d
 | some (h,false,_)=>S.Part b h
structure CI(S:aD)(st:Int→Hg):Prop where
 aU:S.g.aU
 len:(S.next.length:Int)=S.g.bl
 few:∀k,S.Zr k
 stat:∀b,0≤b→b<S.g.bl→S.marked b=false→S.Stat b (st b)
theorem zL.same{S S':aD}(hg:S'.g=S.g)(hp:S'.aX k=S.aX k)(h:S.zL k):S'.zL k:=fun xs hx=>by
 rw[hp] at hx;rw[hg];exact h xs hx
theorem Stat.same{S S':aD}(hg:S'.g=S.g)(hp:∀p,S'.aX (b,p)=S.aX (b,p)):∀ {s:Hg},S.Stat b s→S'.Stat b s
 | none,h=>zL.same hg (hp 0) h
 | some (h,true,d),⟨h1,h2,h3,h4⟩=>⟨by rw[hg];exact h1,h2,h3,fun p BA=>by
  unfold uT at BA;rw[hg] at BA ⊢;rw[hp];exact h4 p BA⟩
 | some (h,false,d),⟨h1,h2,q,h3,h4⟩=>⟨by rw[hg];exact h1,by rw[hg,hp];exact h2,q,by unfold uT;rw[hg];exact h3,zL.same hg (hp q) h4⟩
theorem CI.step(h:CI S st)(hr:Rest b S S')(hw:Wr S S')(hs:∀k,k≠b→st' k=st k)(hx:S'.marked b=false→S'.Stat b (st' b)):CI S' st':=by
 refine⟨by rw[hr.g];exact h.aU,by rw[hr.len,hr.g];exact h.len,hw.few hr.g h.few,fun c h1 h2 h3=> ?_⟩;by_cases hc:c=b
 ·subst hc;exact hx h3
 ·rw[hs c hc];exact Stat.same hr.g (fun p=>hr.aX (c,p) hc) (h.stat c h1 (by rw[←hr.g];exact h2) (by rw[←hr.marked c hc];exact h3))
structure Live(S:aD)(st:Int→Hg)(b:Int)(h:Hd)(d:List Nat):Prop where
 lo:0≤b
 hi:b<S.g.bl
 un:S.marked b=false
 st:st b=some (h,true,d)
theorem Live.back{st:Int→Hg}(hr:Rest b S S')(hs:∀k,k≠b→st' k=st k)(hc:c≠b)(hl:Live S' st' c h d):Live S st c h d :=
 ⟨hl.lo,by rw[←hr.g];exact hl.hi,by rw[←hr.marked c hc];exact hl.un,by rw[←hs c hc];exact hl.st⟩
theorem Live.on{st:Int→Hg}(hr:Rest b S S')(hs:∀k,k≠b→st' k=st k)(hc:c≠b)(hl:Live S st c h d):Live S' st' c h d :=
 ⟨hl.lo,by rw[hr.g];exact hl.hi,by rw[hr.marked c hc];exact hl.un,by rw[hs c hc];exact hl.st⟩
structure CM(aJ L:Nat)(S:aD)(st:Int→Hg)(m:Lm):Prop where
 ci:CI S st
 low:∀b h d,Live S st b h d→h.aS<L
 uniq:∀b c h h' d d',Live S st b h d→Live S st c h' d'→h.aS=h'.aS→h.num=h'.num→b=c
 none_:∀i,i<aJ→m i=none→∀b h d,Live S st b h d→h.aS≠(i:Nat)
 some_:∀i,i<aJ→∀v,m i=some v→∃b h,Live S st b h v∧h.aS=(i:Nat)∧∀c h' v',Live S st c h' v'→h'.aS=(i:Nat)→c≠b→h'.num<h.num
structure SI(aJ L B:Nat)(S:aD)(st:Int→Hg)(T:St)(m:Lm):Prop where
 ci:CI S st
 low:∀b h d,Live S st b h d→h.aS<L
 uniq:∀b c h h' d d',Live S st b h d→Live S st c h' d'→h.aS=h'.aS→h.num=h'.num→b=c
 dead:T.dead=false
 len:T.stands.length=aJ
 Yl:T.cu.length=aJ
 at_:0≤T.at_∧T.at_<S.g.bl
 next:1≤T.next
 num:∀b,0≤b→b<S.g.bl→S.marked b=false→∀h w d,st b=some (h,w,d)→h.num<T.next
 Y9:∀l∈T.cu,l.length≤B
 none_:∀i,i<aJ→m i=none→T.stands.getD i 0= -1∧∀b h d,Live S st b h d→h.aS≠(i:Nat)
 some_:∀i,i<aJ→∀v,m i=some v→∃h,Live S st (T.stands.getD i 0) h v∧h.aS=(i:Nat)∧∀c h' v',Live S st c h' v'→h'.aS=(i:Nat)→c≠T.stands.getD i 0→h'.num<h.num∧c∈T.cu.getD i []
 WY:∀i,i<aJ→∀x∈T.cu.getD i [],0≤x∧x<S.g.bl∧x∉T.stands
theorem SI.Y6(hI:SI aJ L B S st T m)(hi:i<aJ)(hb:b∉T.stands):T.stands.getD i 0≠b:=fun e=>hb (by rw[←e];exact wU (by rw[hI.len];exact hi))
theorem CM.gone(hI:SI aJ L B S st T m)(hr:Rest b S S')(hw:Wr S S')(hs:∀k,k≠b→st' k=st k)(hx:S'.marked b=false→S'.Stat b (st' b))(hn:∀h d,¬Live S' st' b h d)(hb:b∉T.stands):CM aJ L S' st' m:=by
 have pq:∀ {c h d},Live S' st' c h d→c≠b:=fun h e=>hn _ _ (e ▸ h);refine⟨hI.ci.step hr hw hs hx,fun c h d hl=>hI.low c h d (hl.back hr hs (pq hl)),fun c c' h h' d d' k1 k2=>hI.uniq c c' h h' d d' (k1.back hr hs (pq k1)) (k2.back hr hs (pq k2)),fun i hi hm c h d hl=>(hI.none_ i hi hm).2 c h d (hl.back hr hs (pq hl)),fun i hi v hm=> ?_⟩;obtain⟨h,h1,h2,h3⟩:=hI.some_ i hi v hm;exact⟨_,h,h1.on hr hs (hI.Y6 hi hb),h2,fun c h' v' k1 k2 k3=>(h3 c h' v' (k1.back hr hs (pq k1)) k2 k3).1⟩
theorem SI.fail(hI:SI aJ L B S st T m)(hr:Rest b S S')(hw:Wr S S')(hm:S'.marked b=true)(hb:b∉T.stands)(hn:T.next≤n):SI aJ L B S' st { T.forget b with next:=n } m:=by
 have hc:=CM.gone (st':=st) hI hr hw (fun _ _=>rfl) (fun h=>by rw[hm] at h;cases h) (fun h d hl=>by have :=hl.un;rw[hm] at this;cases this) hb;have pq:∀ {c h d},Live S' st c h d→c≠b:=fun h e=>by have :=h.un;rw[e,hm] at this;cases this
 have hbk:∀ {c h d},Live S' st c h d→Live S st c h d:=fun h=>h.back hr (fun _ _=>rfl) (pq h);refine⟨hc.ci,hc.low,hc.uniq,hI.dead,hI.len,by show (T.cu.map _).length=_;rw[length_map];exact hI.Yl,by rw[hr.g];exact hI.at_,by show 1≤n;have :=hI.next;omega,fun c h1 h2 h3 h w d hs=> ?_,fun l hl=> ?_,fun i hi zM=>⟨(hI.none_ i hi zM).1,hc.none_ i hi zM⟩,fun i hi v zM=> ?_,fun i hi x hx=> ?_⟩
 ·by_cases FR:c=b
  ·subst FR;rw[hm] at h3;cases h3
  ·have :=hI.num c h1 (by rw[←hr.g];exact h2) (by rw[←hr.marked c FR];exact h3) h w d hs;show h.num<n;omega
 ·obtain⟨l',Dp,rfl⟩:=mem_map.1 hl;exact Nat.le_trans (length_filter_le _ _) (hI.Y9 l' Dp)
 ·obtain⟨h,h1,h2,h3⟩:=hI.some_ i hi v zM;refine⟨h,h1.on hr (fun _ _=>rfl) (hI.Y6 hi hb),h2,fun c h' v' k1 k2 k3=> ?_⟩;obtain⟨q1,q2⟩:=h3 c h' v' (hbk k1) k2 k3;refine⟨q1, ?_⟩;show c∈(T.cu.map (gX b)).getD i [];rw[xQ];exact qI.2 ⟨q2,pq k1⟩
 ·have Wz:x∈(T.cu.map (gX b)).getD i []:=hx;rw[xQ] at Wz;have :=hI.WY i hi x (qI.1 Wz).1;rw[hr.g];exact this
theorem CM.put{st':Int→Hg}(hI:SI aJ L B S st T m)(hr:Rest b S S')(hw:Wr S S')(hs:∀k,k≠b→st' k=st k)(dL:st' b=some (h,true,d))(hH:S'.yQ b h d)(hb:b∉T.stands)(BG:0≤b∧b<S.g.bl)(hum:S'.marked b=false)
 (wR:i0<aJ) (hL:i0<L) (J7:h.aS=(i0:Nat)) (NC:h.num=T.next):CM aJ L S' st' (m.put i0 (some d)):=by
 have hLb:Live S' st' b h d:=⟨BG.1,by rw[hr.g];exact BG.2,hum,dL⟩;have heq:∀ {h' d'},Live S' st' b h' d'→h'=h:=fun hl=>by
  have :=hl.st;rw[dL] at this;injection this with this
  injection this with e1 _
  exact e1.symm
 have o7:∀ {c h' d'},Live S' st' c h' d'→c≠b→h'.num<T.next:=fun hl hc=>by
  have h1:=hl.back hr hs hc;exact hI.num _ h1.lo h1.hi h1.un _ _ _ h1.st
 refine⟨hI.ci.step hr hw hs (fun _=>by rw[dL];exact hH),fun c h' d' hl=> ?_,fun c c' h1 h2 d1 d2 k1 k2 e1 e2=> ?_,fun i hi hm c h' d' hl=> ?_,fun i hi v hm=> ?_⟩
 ·by_cases hc:c=b
  ·subst hc;rw[heq hl,J7];omega
  ·exact hI.low c h' d' (hl.back hr hs hc)
 ·by_cases hc:c=b
  ·by_cases hc':c'=b
   ·rw[hc,hc']
   ·subst hc;have :=o7 k2 hc';rw[heq k1] at e2;omega
  ·by_cases hc':c'=b
   ·subst hc';have :=o7 k1 hc;rw[heq k2] at e2;omega
   ·exact hI.uniq c c' h1 h2 d1 d2 (k1.back hr hs hc) (k2.back hr hs hc') e1 e2
 ·by_cases tq:i=i0
  ·unfold Lm.put at hm;rw[if_pos tq] at hm;cases hm
  ·unfold Lm.put at hm;rw[if_neg tq] at hm;by_cases hc:c=b
   ·subst hc;rw[heq hl,J7];omega
   ·exact (hI.none_ i hi hm).2 c h' d' (hl.back hr hs hc)
 ·by_cases tq:i=i0
  ·unfold Lm.put at hm;rw[if_pos tq] at hm;injection hm with hm
   subst hm;refine⟨b,h,hLb,by rw[J7,tq],fun c h' v' k1 k2 k3=> ?_⟩;rw[NC];exact o7 k1 k3
  ·unfold Lm.put at hm;rw[if_neg tq] at hm;obtain⟨hd,h1,h2,h3⟩:=hI.some_ i hi v hm;refine⟨_,hd,h1.on hr hs (hI.Y6 hi hb),h2,fun c h' v' k1 k2 k3=> ?_⟩;by_cases hc:c=b
   ·subst hc;rw[heq k1,J7] at k2;omega
   ·exact (h3 c h' v' (k1.back hr hs hc) k2 k3).1
theorem SI.put{st':Int→Hg}(hI:SI aJ L B S st T m)(hr:Rest b S S')(hw:Wr S S')(hs:∀k,k≠b→st' k=st k)(dL:st' b=some (h,true,d))(hH:S'.yQ b h d)(hb:b∉T.stands)(BG:0≤b∧b<S.g.bl)(hum:S'.marked b=false)
 (wR:i0<aJ) (hL:i0<L) (J7:h.aS=(i0:Nat)) (NC:h.num=T.next):SI aJ L (B+1) S' st' (((T.forget b).mark (i0:Int)).done (i0:Int) b S.g.bl) (m.put i0 (some d)):=by
 have hc:=CM.put hI hr hw hs dL hH hb BG hum wR hL J7 NC;have heq:∀ {h' d'},Live S' st' b h' d'→h'=h:=fun hl=>by
  have :=hl.st;rw[dL] at this;injection this with this
  injection this with e1 _
  exact e1.symm
 obtain⟨T1,oZ⟩:∃T1,T1=T.forget b:=⟨_,rfl⟩;have s1:T1.stands=T.stands:=by rw[oZ];rfl
 have t1:∀i,T1.cu.getD i []=gX b (T.cu.getD i []):=fun i=>by rw[oZ];exact xQ _ _ _
 have l1:T1.cu.length=aJ:=by rw[oZ];show (T.cu.map _).length=_;rw[length_map];exact hI.Yl
 have o:T1.lF (i0:Int)=T.stands.getD i0 0:=by unfold St.lF;rw[s1,Int.toNat_natCast]
 rw[←oZ];obtain⟨T2,BH⟩:∃T2,T2=T1.mark (i0:Int):=⟨_,rfl⟩;have s2:T2.stands=T.stands:=by rw[BH];unfold St.mark;split<;>exact s1
 have d2:T2.dead=false:=by rw[BH];unfold St.mark;split<;>(rw[oZ];exact hI.dead)
 have n2:T2.next=T.next:=by rw[BH];unfold St.mark;split<;>(rw[oZ];rfl)
 have l2:T2.cu.length=aJ:=by
  rw[BH];unfold St.mark;split
  ·show (T1.cu.set _ _).length=_;rw[length_set];exact l1
  ·exact l1
 have t2:∀i,T2.cu.getD i []=if i=i0∧0≤T.stands.getD i0 0 then gX b (T.cu.getD i [])++[T.stands.getD i0 0] else gX b (T.cu.getD i []):=fun i=>by
  rw[BH];unfold St.mark;rw[o];split
  ·rename_i h0;show (T1.cu.set (i0:Int).toNat (T1.cu.getD (i0:Int).toNat []++[T.stands.getD i0 0])).getD i []=_;rw[Int.toNat_natCast,y9,l1,t1,t1];by_cases hi:i=i0
   ·subst hi;rw[if_pos ⟨rfl,wR⟩,if_pos ⟨rfl,h0⟩]
   ·rw[if_neg (fun h=>hi h.1),if_neg (fun h=>hi h.1)]
  ·rename_i h0;rw[t1,if_neg (fun h=>h0 h.2)]
 rw[←BH];have g3:∀i,(T2.done (i0:Int) b S.g.bl).stands.getD i 0=if i=i0 then b else T.stands.getD i 0:=fun i=>by
  show (T2.stands.set (i0:Int).toNat b).getD i 0=_;rw[Int.toNat_natCast,y9,s2,hI.len];by_cases hi:i=i0
  ·rw[if_pos ⟨hi,wR⟩,if_pos hi]
  ·rw[if_neg (fun h=>hi h.1),if_neg hi]
 have uH:∀x,x∈(T2.done (i0:Int) b S.g.bl).stands→x=b∨∃i,i<aJ∧i≠i0∧x=T.stands.getD i 0:=fun x hx=>by
  obtain⟨i,hi,e⟩:=getElem_of_mem hx;have GQ:i<aJ:=by
   have h1:i<(T2.stands.set (i0:Int).toNat b).length:=hi;rw[length_set,s2,hI.len] at h1;exact h1
  have e2:(T2.done (i0:Int) b S.g.bl).stands.getD i 0=x:=by simp only[getD,getElem?_eq_getElem hi,Option.getD_some];exact e
  rw[g3] at e2;by_cases h0:i=i0
  ·rw[if_pos h0] at e2;exact .inl e2.symm
  ·rw[if_neg h0] at e2;exact .inr ⟨i,GQ,h0,e2.symm⟩
 have aaj:∀i j,i<aJ→j<aJ→i≠j→0≤T.stands.getD i 0→T.stands.getD i 0≠T.stands.getD j 0:=fun i j hi hj ZI h0 e=>by
  cases uX:m i with
  | none=>have :=(hI.none_ i hi uX).1;omega
  | some v =>
   cases hmj:m j with
   | none=>have :=(hI.none_ j hj hmj).1;omega
   | some v' =>
    obtain⟨h1,k1,k2,_⟩:=hI.some_ i hi v uX;obtain⟨h2,q1,q2,_⟩:=hI.some_ j hj v' hmj;have e1:=k1.st;rw[e,q1.st] at e1;injection e1 with e1
    injection e1 with e1 _
    rw[←e1,q2] at k2;omega
 have uJ:=hI.ci.aU;unfold bQ.aU at uJ;refine⟨hc.ci,hc.low,hc.uniq,d2, ?_,l2, ?_, ?_,fun c h1 h2 h3 h' w d' Zp=> ?_,fun l hl=> ?_,fun i hi zM=>⟨?_,hc.none_ i hi zM⟩,fun i hi v zM=> ?_,fun i hi x hx=> ?_⟩
 ·show (T2.stands.set _ _).length=_;rw[length_set,s2,hI.len]
 ·rw[hr.g];exact⟨Int.emod_nonneg _ ay,Int.emod_lt_of_pos _ ay⟩
 ·show 1≤T2.next+1;rw[n2];have :=hI.next;omega
 ·show h'.num<T2.next+1;rw[n2];by_cases FR:c=b
  ·subst FR;rw[dL] at Zp;injection Zp with Zp
   injection Zp with e1 _
   rw[←e1,NC];omega
  ·have :=hI.num c h1 (by rw[←hr.g];exact h2) (by rw[←hr.marked c FR];exact h3) h' w d' (by rw[←hs c FR];exact Zp);omega
 ·have Dp:l∈T2.cu:=hl;obtain⟨i,hi,e⟩:=getElem_of_mem Dp;have e2:T2.cu.getD i []=l:=by simp only[getD,getElem?_eq_getElem hi,Option.getD_some];exact e
  have h4:(gX b (T.cu.getD i [])).length≤B:=Nat.le_trans (length_filter_le _ _) (hI.Y9 _ (wU (by rw[hI.Yl];omega)));rw[←e2,t2];split
  ·rw[length_append];simp only[length_singleton];omega
  ·omega
 ·rw[g3];by_cases tq:i=i0
  ·unfold Lm.put at zM;rw[if_pos tq] at zM;cases zM
  ·rw[if_neg tq];unfold Lm.put at zM;rw[if_neg tq] at zM;exact (hI.none_ i hi zM).1
 ·rw[g3];by_cases tq:i=i0
  ·subst tq;unfold Lm.put at zM;rw[if_pos rfl] at zM;injection zM with zM
   subst zM;rw[if_pos rfl];refine⟨h,⟨BG.1,by rw[hr.g];exact BG.2,hum,dL⟩,J7,fun c h' v' k1 k2 k3=> ?_⟩;have kb:=k1.back hr hs k3;refine⟨by rw[NC];exact hI.num _ kb.lo kb.hi kb.un _ _ _ kb.st, ?_⟩;show c∈T2.cu.getD i [];rw[t2];cases uX:m i with
   | none=>exact absurd k2 ((hI.none_ i hi uX).2 c h' v' kb)
   | some v =>
    obtain⟨hd,q1,q2,q3⟩:=hI.some_ i hi v uX;rw[if_pos ⟨rfl,q1.lo⟩];by_cases hco:c=T.stands.getD i 0
    ·exact mem_append_right _ (mem_singleton.2 hco)
    ·exact mem_append_left _ (qI.2 ⟨(q3 c h' v' kb k2 hco).2,k3⟩)
  ·rw[if_neg tq];unfold Lm.put at zM;rw[if_neg tq] at zM;obtain⟨hd,q1,q2,q3⟩:=hI.some_ i hi v zM;refine⟨hd,q1.on hr hs (hI.Y6 hi hb),q2,fun c h' v' k1 k2 k3=> ?_⟩;have FR:c≠b:=fun e=>by subst e;rw[heq k1,J7] at k2;omega
   obtain⟨q4,q5⟩:=q3 c h' v' (k1.back hr hs FR) k2 k3;refine⟨q4, ?_⟩;show c∈T2.cu.getD i [];rw[t2,if_neg (fun h=>tq h.1)];exact qI.2 ⟨q5,FR⟩
 ·have Wz:x∈T2.cu.getD i []:=hx;rw[t2] at Wz;rw[hr.g];have YZ:x∈gX b (T.cu.getD i [])→0≤x∧x<S.g.bl∧x∉(T2.done (i0:Int) b S.g.bl).stands:=fun h4=>by
   obtain⟨h5,h6⟩:=qI.1 h4;obtain⟨h7,h8,h9⟩:=hI.WY i hi x h5;refine⟨h7,h8,fun RJ=> ?_⟩;rcases uH x RJ with h11 | ⟨j,hj,_,h11⟩
   ·exact h6 h11
   ·exact h9 (by rw[h11];exact wU (by rw[hI.len];exact hj))
  split at Wz
  ·rename_i h4;rcases mem_append.1 Wz with h5 | h5
   ·exact YZ h5
   ·have h6:=mem_singleton.1 h5;subst h6;cases uX:m i0 with
    | none=>have :=(hI.none_ i0 wR uX).1;omega
    | some v =>
     obtain⟨hd,q1,_,_⟩:=hI.some_ i0 wR v uX;refine⟨q1.lo,q1.hi,fun RJ=> ?_⟩;rcases uH _ RJ with h11 | ⟨j,hj,hj0,h11⟩
     ·exact hI.Y6 wR hb h11
     ·exact aaj i0 j wR hj (fun e=>hj0 e.symm) h4.2 h11
  ·exact YZ Wz
end aD
namespace aD
def Td(S:aD)(st:Int→Hg)(N:Int):Prop:=∀b,0≤b→b<S.g.bl→S.marked b=false→∀h w d,st b=some (h,w,d)→h.num<N
theorem Td.mono(h:Td S st N)(hn:N≤N'):Td S st N':=fun b h1 h2 h3 hd w d hs=>by have :=h b h1 h2 h3 hd w d hs;omega
theorem SI.ready(hI:SI aJ L B S st T m)(hi:i<aJ):T.ready (i:Int)=0:=by
 unfold St.ready;rw[hI.dead,if_neg Bool.false_ne_true,hI.len,if_neg ay]
theorem SI.lF(hI:SI aJ L B S st T m)(i:Nat):T.lF (i:Int)=T.stands.getD i 0:=by unfold St.lF;rw[Int.toNat_natCast]
theorem SI.yZ(hI:SI aJ L B S st T m)(hi:i<aJ)(hm:m i=none):dZ S T (i:Int)=(⟨5,[],0⟩,T)∧T.lF (i:Int)<0:=by
 have h1:=(hI.none_ i hi hm).1;have h2:T.lF (i:Int)<0:=by rw[hI.lF,h1];decide
 refine⟨?_,h2⟩;unfold dZ;rw[hI.ready hi,if_neg (fun h=>h rfl),if_pos h2]
theorem SI.Ep(hI:SI aJ L B S st T m)(hu:S.up=true)(hi:i<aJ)(hm:m i=some v):(∃N:Nat,((∀k,S.bM k=none)→N=0)∧dZ S T (i:Int)=(⟨0,v,N⟩,T))∧0≤T.lF (i:Int):=by
 obtain⟨h,h1,h2,h3⟩:=hI.some_ i hi v hm;have dL:=hI.ci.stat _ h1.lo h1.hi h1.un;rw[h1.st] at dL;obtain⟨N,h4,h5⟩:=read_holds hI.ci.aU hu ⟨h1.lo,h1.hi⟩ h1.un (fun p=>hI.ci.few _) (hI.ready hi) (hI.lF i) dL;exact⟨⟨N,fun hw=>h4 (fun p=>hw _),h5⟩,by rw[hI.lF];exact h1.lo⟩
theorem agO{g:bQ}{d:List Nat}(hd:(d.length:Int)≤g.cap)(hi:i0<64)(hn:1≤n∧n≤1000000000):Hd.may g ⟨(i0:Nat),(d.length:Nat),n⟩=true:=by
 unfold Hd.may bQ.fits;simp only[Bool.and_eq_true,decide_eq_true_eq];exact⟨⟨⟨⟨⟨by omega,hd⟩,by omega⟩,by omega⟩,hn.1⟩,hn.2⟩
theorem PO(wR:i0<aJ)(hL:i0<L)(Wt:i0<64)(h8:aA 256 d):∀(cs:List Int) (S:aD) (T:St),SI aJ L B S st T m→S.up=true→(d.length:Int)≤S.g.cap→cs.Nodup→(∀b∈cs,0≤b∧b<S.g.bl∧S.marked b=false∧b∉T.stands)→T.next+cs.length≤1000000000 →
 (jy (i0:Int) d cs S T).1.g=S.g∧(jy (i0:Int) d cs S T).1.dQ=S.dQ∧Wr S (jy (i0:Int) d cs S T).1∧(S.left=0→(jy (i0:Int) d cs S T).1.left=0∧(jy (i0:Int) d cs S T).2.2≠some 70)∧(jy (i0:Int) d cs S T).2.1.next≤T.next+cs.length+1 ∧
 ((jy (i0:Int) d cs S T).2.2≠some 70→∀c,(jy (i0:Int) d cs S T).1.marked c=true→S.marked c=true∨S.dQ c=true) ∧
 (((jy (i0:Int) d cs S T).2.2=none∧(jy (i0:Int) d cs S T).1.up=true∧SI aJ L B (jy (i0:Int) d cs S T).1 st (jy (i0:Int) d cs S T).2.1 m∧∀b∈cs,S.dQ b=true) ∨
  ((jy (i0:Int) d cs S T).2.2=some 0∧(jy (i0:Int) d cs S T).1.up=true∧∃st',SI aJ L (B+1) (jy (i0:Int) d cs S T).1 st' (jy (i0:Int) d cs S T).2.1 (m.put i0 (some d))) ∨
  ((jy (i0:Int) d cs S T).2.2=some 70∧(jy (i0:Int) d cs S T).1.up=false∧∃st',Td (jy (i0:Int) d cs S T).1 st' (T.next+cs.length+1)∧(CM aJ L (jy (i0:Int) d cs S T).1 st' m∨CM aJ L (jy (i0:Int) d cs S T).1 st' (m.put i0 (some d)))))
 | [],S,T,hI,hu,hd,vZ,qX,Zk=>⟨rfl,rfl,Wr.refl S,fun h=>⟨h,by intro h;cases h⟩,by show T.next≤T.next+(0:Nat)+1;omega,fun _ c h=> .inl h,.inl ⟨rfl,hu,hI,fun b hb=>by cases hb⟩⟩
 | b::bs,S,T,hI,hu,hd,vZ,qX,Zk=>by
  obtain⟨EA,oH,hb3,hb4⟩:=qX b (.head _);have hnb:=hI.next;rw[length_cons] at Zk ⊢;obtain⟨w1,w2,w3,w4,w5⟩:=Ta (num:=T.next) (aS:=(i0:Int)) hI.ci.aU hu ⟨EA,oH⟩ hb3 hI.ci.len h8 (agO hd Wt ay);obtain⟨W,hW⟩:∃W,W=dI S T.next b (i0:Int) d:=⟨_,rfl⟩;rw[←hW] at w1 w2 w3 w4 w5;have aQ:Eb (i0:Int) d S T b=if W.2=72 then (W.1,{ T.forget b with next:=min (T.next+1) 1000000001 },if 1000000000<min (T.next+1) 1000000001 then some 6 else none) else if W.2≠0 then (W.1,(T.forget b).told W.2,some W.2) else (W.1,((T.forget b).mark (i0:Int)).done (i0:Int) b S.g.bl,some 0):=by
   unfold Eb;rw[←hW]
  have hmk:W.1.marked b=false∨W.2=72→∀c,W.1.marked c=true→S.marked c=true∨S.dQ c=true:=fun h c hc=>by
   by_cases FR:c=b
   ·subst FR;rcases h with h | h
    ·rw[h] at hc;cases hc
    ·cases hwk:S.dQ c with
     | true=>exact .inr rfl
     | false=>exact absurd h (w4 hwk)
   ·rw[w1.marked c FR] at hc;exact .inl hc
  rcases w5 with ⟨a1,a2,a3,a4⟩ | ⟨a1,a2,a3⟩ | ⟨a1,a2,a3⟩
  ·have e1:jy (i0:Int) d (b::bs) S T=(W.1,((T.forget b).mark (i0:Int)).done (i0:Int) b S.g.bl,some 0):=by
    have bA:Eb (i0:Int) d S T b=(W.1,((T.forget b).mark (i0:Int)).done (i0:Int) b S.g.bl,some 0):=by
     rw[aQ,if_neg (show ¬W.2=72 by rw[a1];exact Fh),if_neg (show ¬W.2≠0 from fun h=>h a1)]
    rw[jy,bA,if_neg (by intro h;cases h)]
   rw[e1];obtain⟨st',acL⟩:∃st':Int→Hg,st'=fun k=>if k=b then some (⟨(i0:Nat),(d.length:Nat),T.next⟩,true,d) else st k:=⟨_,rfl⟩
   refine⟨w1.g,w1.dQ,w2,fun h=>⟨(w3 h).1,by intro h;cases h⟩, ?_,fun _=>hmk (.inl a3),.inr (.inl ⟨rfl,a2,st', ?_⟩)⟩
   ·have :(((T.forget b).mark (i0:Int)).done (i0:Int) b S.g.bl).next=T.next+1:=by
     show ((T.forget b).mark (i0:Int)).next+1=_;unfold St.mark;split<;>rfl
    show (((T.forget b).mark (i0:Int)).done (i0:Int) b S.g.bl).next≤_;omega
   ·exact hI.put w1 w2 (fun k hk=>by rw[acL];exact if_neg hk) (by rw[acL];exact if_pos rfl) a4 hb4 ⟨EA,oH⟩ a3 wR hL rfl rfl
  ·have hmn:min (T.next+1) 1000000001=T.next+1:=by omega
   have e1:jy (i0:Int) d (b::bs) S T=jy (i0:Int) d bs W.1 { T.forget b with next:=T.next+1 }:=by
    have bA:Eb (i0:Int) d S T b=(W.1,{ T.forget b with next:=T.next+1 },none):=by
     rw[aQ,if_pos a1,hmn,if_neg (show ¬1000000000<T.next+1 by omega)]
    rw[jy,bA,if_pos rfl]
   rw[e1];have hI':=hI.fail w1 w2 a3 hb4 (n:=T.next+1) ay;have abR:=nodup_cons.1 vZ;obtain⟨r1,r2,r3,r4,r5,r6,r7⟩:=PO wR hL Wt h8 bs W.1 { T.forget b with next:=T.next+1 } hI' a2 (by rw[w1.g];exact hd) abR.2 (fun c hc=>by
    obtain⟨k1,k2,k3,k4⟩:=qX c (.tail _ hc);exact⟨k1,by rw[w1.g];exact k2,by rw[w1.marked c (fun e=>abR.1 (by rw[←e];exact hc))];exact k3,k4⟩) (by show T.next+1+_≤_;omega)
   have r5':(jy (i0:Int) d bs W.1 { T.forget b with next:=T.next+1 }).2.1.next≤T.next+1+(bs.length:Int)+1:=r5;refine⟨r1.trans w1.g,r2.trans w1.dQ,w2.trans r3,fun h=>r4 (w3 h).1,by omega,fun h c hc=> ?_, ?_⟩
   ·rcases r6 h c hc with h1 | h1
    ·exact hmk (.inr a1) c h1
    ·rw[w1.dQ] at h1;exact .inr h1
   ·rcases r7 with ⟨q1,q2,q3,q4⟩ | q | q
    ·refine .inl ⟨q1,q2,q3,fun c hc=> ?_⟩;rcases mem_cons.1 hc with rfl | hc
     ·cases hwk:S.dQ c with
      | true=>rfl
      | false=>exact absurd a1 (w4 hwk)
     ·have :=q4 c hc;rw[w1.dQ] at this;exact this
    ·exact .inr (.inl q)
    ·obtain⟨q1,q2,st',q3,q4⟩:=q;exact .inr (.inr ⟨q1,q2,st',q3.mono (by show T.next+1+(bs.length:Int)+1≤_;omega),q4⟩)
  ·have e1:jy (i0:Int) d (b::bs) S T=(W.1,(T.forget b).told W.2,some 70):=by
    have bA:Eb (i0:Int) d S T b=(W.1,(T.forget b).told W.2,some 70):=by
     rw[aQ,if_neg (show ¬W.2=72 by rw[a1];exact AY),if_pos (show W.2≠0 by rw[a1];decide),a1]
    rw[jy,bA,if_neg (by intro h;cases h)]
   rw[e1];refine⟨w1.g,w1.dQ,w2,fun h=>absurd a1 (w3 h).2,by show T.next≤_;omega,fun h=>absurd rfl h,.inr (.inr ⟨rfl,a2, ?_⟩)⟩;have gone:∀st':Int→Hg,(∀k,k≠b→st' k=st k)→(W.1.marked b=false→W.1.Stat b (st' b))→(∀h d,¬Live W.1 st' b h d)→CM aJ L W.1 st' m:=fun st' h1 h2 h3=>CM.gone hI w1 w2 h1 h2 h3 hb4;have nb:∀st':Int→Hg,(∀k,k≠b→st' k=st k)→(∀h w d,W.1.marked b=false→st' b=some (h,w,d)→h.num≤T.next)→Td W.1 st' (T.next+((bs.length+1:Nat):Int)+1):=fun st' h1 h2 c k1 k2 k3 h w d hs=>by
    by_cases hc:c=b
    ·subst hc;have :=h2 h w d k3 hs;omega
    ·have :=hI.num c k1 (by rw[←w1.g];exact k2) (by rw[←w1.marked c hc];exact k3) h w d (by rw[←h1 c hc];exact hs);omega
   rcases a3 with a3 | ⟨a3,a4⟩
   ·exact⟨st,nb st (fun _ _=>rfl) (fun h w d h1=>by rw[a3] at h1;cases h1),.inl (gone st (fun _ _=>rfl) (fun h=>by rw[a3] at h;cases h) (fun h d hl=>by have :=hl.un;rw[a3] at this;cases this))⟩
   ·rcases a4 with ⟨a4,a5⟩ | a4 | a4 | a4
    ·refine⟨st,nb st (fun _ _=>rfl) (fun h w d _ h1=>by have :=hI.num b EA oH hb3 h w d h1;omega),.inl ?_⟩;have Dt:∀p,W.1.aX (b,p)=S.aX (b,p):=fun p=>by rw[a4]
     have hci:=hI.ci.step w1 w2 (st':=st) (fun _ _=>rfl) (fun _=>Stat.same w1.g Dt (hI.ci.stat b EA oH hb3));have hbk:∀ {c h d},Live W.1 st c h d→Live S st c h d:=fun {c h d} hl=>by
      by_cases FR:c=b
      ·subst FR;exact⟨EA,oH,hb3,hl.st⟩
      ·exact hl.back w1 (fun _ _=>rfl) FR
     refine⟨hci,fun c h d hl=>hI.low c h d (hbk hl),fun c c' h h' d d' k1 k2=>hI.uniq c c' h h' d d' (hbk k1) (hbk k2),fun i hi hm c h d hl=>(hI.none_ i hi hm).2 c h d (hbk hl),fun i hi v hm=> ?_⟩;obtain⟨h,h1,h2,h3⟩:=hI.some_ i hi v hm;exact⟨_,h,h1.on w1 (fun _ _=>rfl) (hI.Y6 hi hb4),h2,fun c h' v' k1 k2 k3=>(h3 c h' v' (hbk k1) k2 k3).1⟩
    ·refine⟨fun k=>if k=b then none else st k,nb _ (fun k hk=>if_neg hk) (fun h w d _ h1=>by rw[if_pos rfl] at h1;cases h1),.inl (gone _ (fun k hk=>if_neg hk) (fun _=> ?_) (fun h d hl=> ?_))⟩
     ·rw[if_pos rfl];exact a4
     ·have :=hl.st;rw[if_pos rfl] at this;cases this
    ·refine⟨fun k=>if k=b then some (⟨(i0:Nat),(d.length:Nat),T.next⟩,false,d) else st k,nb _ (fun k hk=>if_neg hk) (fun h w d _ h1=>by rw[if_pos rfl] at h1;injection h1 with h1;injection h1 with h1 _;rw[←h1];exact Int.le_refl _),.inl (gone _ (fun k hk=>if_neg hk) (fun _=> ?_) (fun h d hl=> ?_))⟩
     ·rw[if_pos rfl];exact a4
     ·have :=hl.st;rw[if_pos rfl] at this;injection this with this
      injection this with _ this
      injection this with this _
      cases this
    ·exact⟨fun k=>if k=b then some (⟨(i0:Nat),(d.length:Nat),T.next⟩,true,d) else st k,nb _ (fun k hk=>if_neg hk) (fun h w d _ h1=>by rw[if_pos rfl] at h1;injection h1 with h1;injection h1 with h1 _;rw[←h1];exact Int.le_refl _),.inr (CM.put hI w1 w2 (fun k hk=>if_neg hk) (if_pos rfl) a4 hb4 ⟨EA,oH⟩ a3 wR hL rfl rfl)⟩
end aD
theorem PS(x y:Int):uw x y<0↔x<y:=by grind [uw]
theorem IG(x y:Fd):qK x y<0↔x.hd.num<y.hd.num∨(x.hd.num=y.hd.num∧y.block<x.block):=by
 have h1:=PS x.hd.num y.hd.num;have h2:=PS y.block x.block;unfold qK orI;by_cases h:uw x.hd.num y.hd.num=0
 ·rw[if_neg (fun hh=>hh h),h2];have :x.hd.num=y.hd.num:=by
   unfold uw at h;split at h
   ·exact absurd h aN
   ·split at h
    ·exact absurd h aN
    ·omega
  omega
 ·rw[if_pos h,h1];have :x.hd.num≠y.hd.num:=fun e=>h (by unfold uw;rw[e];simp);omega
theorem Sk(ys:List Fd):(eP (jU qK) ys).Pairwise (fun a b=>jU qK b a=false):=by
 refine Ns (fun a b c h1 h2=> ?_) (fun a b h=> ?_) ys
 ·unfold jU at *
  rw[decide_eq_false_iff_not,IG] at *
  omega
 ·unfold jU at *
  rw[decide_eq_true_eq] at h;rw[decide_eq_false_iff_not];rw[IG] at *
  omega
theorem Oz:∀k,k<fs.length→∀j,j≤k→(fs.getD j JF).hd.num≤(xD Kr fs k).hd.num
 | 0,_,j,hj=>by
  rw[show j=0 by omega];exact Int.le_refl _
 | k+1,hk,j,hj=>by
  have ih:=fun i hi=>Oz (fs:=fs) k ay i hi;have Zi:∀x y:Fd,0<Kr x y↔y.hd.num<x.hd.num:=fun x y=>by
   unfold Kr uw;split
   ·simp;omega
   ·split<;>simp<;>omega
  rw[xD];by_cases hc:0<Kr (fs.getD (k+1) JF) (xD Kr fs k)
  ·rw[if_pos hc];have :=(Zi _ _).1 hc;by_cases hjk:j=k+1
   ·rw[hjk];exact Int.le_refl _
   ·have :=ih j ay;omega
  ·rw[if_neg hc];have h1:¬(xD Kr fs k).hd.num<(fs.getD (k+1) JF).hd.num:=fun h=>hc ((Zi _ _).2 h);by_cases hjk:j=k+1
   ·rw[hjk];omega
   ·exact ih j ay
theorem aaJ:∀x∈fs,x.hd.num<pE fs:=fun x hx=>by
 obtain⟨j,hj,rfl⟩:=getElem_of_mem hx;have :=Oz (fs:=fs) (fs.length-1) ay j ay;unfold pE;rw[if_neg ay];simp only[getD,getElem?_eq_getElem hj,Option.getD_some] at this;omega
namespace aD
theorem uV{S:aD}(hu:S.up=true):∀(k:Nat) (b:Int),b∈S.fM k↔0≤b∧b<(k:Int)∧S.marked b=false
 | 0,b=>by
  simp[fM];omega
 | k+1,b=>by
  have ih:=uV hu k b;have hb:S.bad (k:Int)=S.marked (k:Int):=by unfold bad;rw[hu];rfl
  rw[fM,hu,hb];cases hm:S.marked (k:Int) with
  | true =>
   rw[if_neg aN,ih];constructor
   ·rintro⟨h1,h2,h3⟩;exact⟨h1,by omega,h3⟩
   ·rintro⟨h1,h2,h3⟩;refine⟨h1, ?_,h3⟩;have :b≠(k:Int):=fun e=>by rw[e,hm] at h3;cases h3
    omega
  | false =>
   rw[if_pos aN,mem_append,ih,mem_singleton];constructor
   ·rintro (⟨h1,h2,h3⟩ | rfl)
    ·exact⟨h1,by omega,h3⟩
    ·exact⟨by omega,by omega,hm⟩
   ·rintro⟨h1,h2,h3⟩;by_cases e:b=(k:Int)
    ·exact .inr e
    ·exact .inl ⟨h1,by omega,h3⟩
theorem sH(S:aD):∀k,(S.fM k).Pairwise (· < ·)
 | 0=>Pairwise.nil
 | k+1=>by
  rw[fM];split
  ·refine pairwise_append.2 ⟨sH S k,pairwise_singleton _ _,fun a ha b hb=> ?_⟩;rw[mem_singleton.1 hb];exact (qB S k a ha).2.1
  ·exact sH S k
theorem Ih(hc:CI S st)(hu:S.up=true)(h0:0≤b)(h1:b<S.g.bl)(hm:S.marked b=false):S.ko b=(st b).map fun x=>⟨b,x.1,x.2.1⟩:=by
 have h2:=hc.stat b h0 h1 hm;have hf:∀p:Nat,S.Zr (b,(p:Int)):=fun p=>hc.few _;cases hs:st b with
 | none=>rw[hs] at h2;exact XM hc.aU hf h2
 | some x =>
  obtain⟨h,w,d⟩:=x;rw[hs] at h2;cases w with
  | true=>exact scan_holds hc.aU hu ⟨h0,h1⟩ hm hf h2
  | false=>exact Xp hc.aU hu ⟨h0,h1⟩ hm hf h2
theorem Ia(hc:CI S st)(hu:S.up=true)(x:Fd):x∈S.dV↔0≤x.block∧x.block<S.g.bl∧S.marked x.block=false∧∃d,st x.block=some (x.hd,x.whole,d):=by
 have uJ:=hc.aU;unfold bQ.aU at uJ;unfold dV dW;rw[mem_filterMap];constructor
 ·rintro⟨b,hb,hs⟩;obtain⟨h1,h2,h3⟩:=(uV hu _ _).1 hb;rw[Ih hc hu h1 ay h3] at hs;cases dL:st b with
  | none=>rw[dL] at hs;cases hs
  | some y =>
   rw[dL] at hs;injection hs with hs
   subst hs;exact⟨h1,by show b<_;omega,h3,y.2.2,dL⟩
 ·rintro⟨h1,h2,h3,d,dL⟩;refine⟨x.block,(uV hu _ _).2 ⟨h1,by omega,h3⟩, ?_⟩;rw[Ih hc hu h1 h2 h3,dL];rfl
theorem SB(hc:CI S st)(hu:S.up=true):S.dV.Nodup:=by
 have h1:S.dV.Pairwise (fun x y=>x.block<y.block):=by
  unfold dV;rw[pairwise_filterMap];refine (sH S _).imp (fun {a b} hab x hx y hy=> ?_);rw[(xq hc.aU hx).1,(xq hc.aU hy).1];exact hab
 exact h1.imp fun {a b} h e=>by rw[e] at h;omega
theorem ab7(h:l.getLast? =some x):wG l=x.block:=by unfold wG;rw[h]
theorem I5(hi:i<aJ):(kT aJ fs).getD i 0=wG (eP (jU qK) (fs.filter (nE i))):=by grind [kT,ji,getD,getElem?_range]
theorem LW(hi:i<aJ):(qy aJ fs).getD i []=(eP (jU aaz) (eP (jU qK) (fs.filter (nE i))).dropLast).map Fd.block:=by grind [qy,ji,getD,getElem?_range]
theorem VH(hM:CM aJ L S st m)(hu:S.up=true):SI aJ L 256 S st (oh S aJ) m:=by
 have hc:=hM.ci;have uJ:=hc.aU;unfold bQ.aU at uJ;have Zo:=FL (S:=S) hc.aU;have hnb:=O7 (fs:=S.dV) (fun x hx=>Hd.Ud (Zo x hx).2);have uH:∀i x,x∈eP (jU qK) (S.dV.filter (nE i))↔∃d,Live S st x.block x.hd d∧x.whole=true∧x.hd.aS=(i:Nat):=fun i x=>by
  rw[zk,mem_filter,Ia hc hu];unfold nE;rw[Bool.and_eq_true,decide_eq_true_eq];constructor
  ·rintro⟨⟨h1,h2,h3,d,h4⟩,h5,h6⟩;exact⟨d,⟨h1,h2,h3,by rw[h4,h5]⟩,h5,h6⟩
  ·rintro⟨d,h1,h2,h3⟩;exact⟨⟨h1.lo,h1.hi,h1.un,d,by rw[h1.st,h2]⟩,h2,h3⟩
 have vZ:∀i,(eP (jU qK) (S.dV.filter (nE i))).Nodup:=fun i=>(Ja _).nodup_iff.2 ((SB hc hu).filter _);have aob:∀i,(oh S aJ).cu.getD i []=(qy aJ S.dV).getD i []:=fun i=>rfl;have ae5:∀i,i<aJ→∀x:Int,x∈(oh S aJ).cu.getD i []↔∃z,z∈(eP (jU qK) (S.dV.filter (nE i))).dropLast∧z.block=x:=fun i hi x=>by
  rw[aob,LW hi,mem_map];constructor
  ·rintro⟨z,hz,e⟩;exact⟨z,zk.1 hz,e⟩
  ·rintro⟨z,hz,e⟩;exact⟨z,zk.2 hz,e⟩
 have akZ:∀ {b h h' d d'},Live S st b h d→Live S st b h' d'→h=h':=fun k1 k2=>by
  have :=k1.st;rw[k2.st] at this;injection this with this
  injection this with e _
  exact e.symm
 have afG:∀i,i<aJ→∀x,(eP (jU qK) (S.dV.filter (nE i))).getLast? =some x→(oh S aJ).stands.getD i 0=x.block:=fun i hi x hx=>by
  show (kT aJ S.dV).getD i 0=_;rw[I5 hi,ab7 hx]
 refine⟨hc,hM.low,hM.uniq,rfl,mY _ _,sN _ _,⟨Int.le_refl _,by show (0:Int)<_;omega⟩,hnb.1,fun b h1 h2 h3 h w d hs=> ?_,fun l hl=> ?_,fun i hi hm=>⟨?_,hM.none_ i hi hm⟩,fun i hi v hm=> ?_,fun i hi x hx=> ?_⟩
 ·exact aaJ ⟨b,h,w⟩ ((Ia hc hu _).2 ⟨h1,h2,h3,d,hs⟩)
 ·obtain⟨i,hi,e⟩:=getElem_of_mem (show l∈qy aJ S.dV from hl);have GQ:i<aJ:=by rw[sN] at hi;exact hi
  have e2:(qy aJ S.dV).getD i []=l:=by simp only[getD,getElem?_eq_getElem hi,Option.getD_some];exact e
  rw[←e2,LW GQ,length_map,iO,length_dropLast,iO];have h1:=length_filter_le (nE i) S.dV;have h2:S.dV.length≤S.dW.length:=length_filterMap_le _ _;have h3:=jK S S.g.bl.toNat;unfold dW at h2;omega
 ·show (kT aJ S.dV).getD i 0= -1;rw[I5 hi];cases hs:eP (jU qK) (S.dV.filter (nE i)) with
  | nil=>rfl
  | cons x xs =>
   obtain⟨d,h1,_,h3⟩:=(uH i x).1 (by rw[hs];exact .head _);exact absurd h3 (hM.none_ i hi hm _ _ _ h1)
 ·obtain⟨b,h,h1,h2,h3⟩:=hM.some_ i hi v hm;have hy:(⟨b,h,true⟩:Fd)∈eP (jU qK) (S.dV.filter (nE i)):=(uH i _).2 ⟨v,h1,rfl,h2⟩;obtain⟨x,hx⟩:∃x,(eP (jU qK) (S.dV.filter (nE i))).getLast? =some x:=by
   cases hl:(eP (jU qK) (S.dV.filter (nE i))).getLast? with
   | none=>rw[getLast?_eq_none_iff.1 hl] at hy;cases hy
   | some x=>exact⟨x,rfl⟩
  have wF:eP (jU qK) (S.dV.filter (nE i))=(eP (jU qK) (S.dV.filter (nE i))).dropLast++[x]:=by
   obtain⟨ys,e⟩:=getLast?_eq_some_iff.1 hx;rw[e,dropLast_concat]
  obtain⟨d,Zg,UY,hx3⟩:=(uH i x).1 (mem_of_getLast? hx);have UU:=Sk (S.dV.filter (nE i));rw[wF] at UU hy;have hxb:x.block=b:=by
   rcases mem_append.1 hy with hy | hy
   ·have h4:=(pairwise_append.1 UU).2.2 _ hy x (.head _);unfold jU at h4;rw[decide_eq_false_iff_not,IG] at h4;by_cases e:x.block=b
    ·exact e
    ·have :=h3 _ _ _ Zg hx3 e;exact absurd (.inl this) h4
   ·rw[←mem_singleton.1 hy]
  rw[afG i hi x hx,hxb];refine⟨h,h1,h2,fun c h' v' k1 k2 k3=>⟨h3 c h' v' k1 k2 k3, ?_⟩⟩;refine (ae5 i hi c).2 ⟨⟨c,h',true⟩, ?_,rfl⟩;have hz:(⟨c,h',true⟩:Fd)∈eP (jU qK) (S.dV.filter (nE i)):=(uH i _).2 ⟨v',k1,rfl,k2⟩;rw[wF] at hz;rcases mem_append.1 hz with hz | hz
  ·exact hz
  ·exfalso;have :=mem_singleton.1 hz;rw[←this] at hxb;exact k3 hxb
 ·obtain⟨z,hz,rfl⟩:=(ae5 i hi x).1 hx;obtain⟨d,JN,hz2,hz3⟩:=(uH i z).1 (dropLast_subset _ hz);refine⟨JN.lo,JN.hi,fun h4=> ?_⟩;obtain⟨j,hj,e⟩:=getElem_of_mem h4;have BF:j<aJ:=by
   have h5:j<(kT aJ S.dV).length:=hj;rw[mY] at h5;exact h5
  have e2:(oh S aJ).stands.getD j 0=z.block:=by simp only[getD,getElem?_eq_getElem hj,Option.getD_some];exact e
  cases hl:(eP (jU qK) (S.dV.filter (nE j))).getLast? with
  | none =>
   have e3:(oh S aJ).stands.getD j 0= -1:=by
    show (kT aJ S.dV).getD j 0=_;rw[I5 BF];unfold wG;rw[hl]
   have :=JN.lo;omega
  | some y =>
   rw[afG j BF y hl] at e2;obtain⟨d',hy1,Zz,hy3⟩:=(uH j y).1 (mem_of_getLast? hl);rw[e2] at hy1;have e3:=akZ hy1 JN;have ZI:i=j:=by rw[e3] at hy3;omega
   subst ZI;have e4:y=z:=by
    obtain⟨yb,yh,yw⟩:=y;obtain⟨zb,zh,zw⟩:=z;dsimp only at e2 e3 Zz hz2;rw[e2,e3,Zz,hz2]
   have hnn:=vZ i;obtain⟨ys,e5⟩:=getLast?_eq_some_iff.1 hl;rw[e5] at hz hnn;rw[dropLast_concat] at hz;rw[e4] at hnn;have :=(nodup_append.1 hnn).2.2 z hz z (.head _);exact this rfl
end aD
theorem X9{T:St}(h:e≠70):T.told e=T:=by simp_all [St.told,decide_eq_false,Bool.or_false]
def ZN:aD×St×Option Int→aD×St×Int
 | (S',T',some e)=>(S',T',e)
 | (S',T',none)=>(S',T'.told (if S'.om=70 then 70 else 6),if S'.om=70 then 70 else 6)
theorem ajk:(6:Int)≠70:=by decide
namespace aD
theorem abu(hI:SI aJ L B S st T m)(hu:S.up=true):(j4 S.dW T.stands T.at_ S.g.bl S.g.bl.toNat 0).Nodup∧(j4 S.dW T.stands T.at_ S.g.bl S.g.bl.toNat 0).length≤S.g.bl.toNat ∧
 ∀ b,b∈j4 S.dW T.stands T.at_ S.g.bl S.g.bl.toNat 0↔0≤b∧b<S.g.bl∧S.marked b=false∧b∉T.stands:=by
 have uJ:=hI.ci.aU;unfold bQ.aU at uJ;have ha:=hI.at_;have L9:∀b,b∈S.dW↔0≤b∧b<S.g.bl∧S.marked b=false:=fun b=>by
  unfold dW;rw[uV hu,Int.toNat_of_nonneg ay]
 unfold j4;refine⟨?_, ?_,fun b=> ?_⟩
 ·refine Pairwise.filter _ ?_;rw[pairwise_map];refine (nodup_range' (n:=S.g.bl.toNat-0)).imp_of_mem ?_;intro i j hi hj ZI e;rw[mem_range'_1] at hi hj;have h1:=Int.emod_add_mul_ediv (T.at_+(i:Int)) S.g.bl;have h2:=Int.emod_add_mul_ediv (T.at_+(j:Int)) S.g.bl;rw[e] at h1;have h3:S.g.bl*((T.at_+(i:Int))/S.g.bl-(T.at_+(j:Int))/S.g.bl)=(i:Int)-(j:Int):=by rw[Int.mul_sub];omega
  have h4:(T.at_+(i:Int))/S.g.bl-(T.at_+(j:Int))/S.g.bl=0:=by
   have a1: -S.g.bl<(i:Int)-(j:Int):=ay;have a2:(i:Int)-(j:Int)<S.g.bl:=ay;rw[←h3] at a1 a2;have b1: -1<(T.at_+(i:Int))/S.g.bl-(T.at_+(j:Int))/S.g.bl:=Int.lt_of_mul_lt_mul_left (a:=S.g.bl) ay ay;have b2:(T.at_+(i:Int))/S.g.bl-(T.at_+(j:Int))/S.g.bl<1:=Int.lt_of_mul_lt_mul_left (a:=S.g.bl) ay ay;omega
  rw[h4,Int.mul_zero] at h3;omega
 ·refine Nat.le_trans (length_filter_le _ _) ?_;rw[length_map,length_range'];omega
 ·rw[mem_filter,decide_eq_true_eq,L9,mem_map];constructor
  ·rintro⟨_,h1,h2⟩;exact⟨h1.1,h1.2.1,h1.2.2,h2⟩
  ·rintro⟨h1,h2,h3,h4⟩;refine⟨⟨((b-T.at_)%S.g.bl).toNat, ?_, ?_⟩,⟨h1,h2,h3⟩,h4⟩
   ·have a1:=Int.emod_nonneg (b-T.at_) (show S.g.bl≠0 by omega);have a2:=Int.emod_lt_of_pos (b-T.at_) (show 0<S.g.bl by omega);rw[mem_range'_1];omega
   ·have a1:=Int.emod_nonneg (b-T.at_) (show S.g.bl≠0 by omega);rw[Int.toNat_of_nonneg a1,Int.add_emod_emod,show T.at_+(b-T.at_)=b by omega];exact Int.emod_eq_of_lt h1 h2
theorem Pj(hI:SI aJ L B S st T m)(hu:S.up=true)(wR:i0<aJ)(hL:i0<L)(Wt:i0<64)(h8:aA 256 d)(hd:(d.length:Int)≤S.g.cap)(Zk:T.next+S.g.bl≤1000000000) :
 (bq S T (i0:Int) d).1.g=S.g∧(bq S T (i0:Int) d).1.dQ=S.dQ∧Wr S (bq S T (i0:Int) d).1∧(S.left=0→(bq S T (i0:Int) d).1.left=0∧(bq S T (i0:Int) d).2.2≠70)∧(bq S T (i0:Int) d).2.1.next≤T.next+S.g.bl+1 ∧
 ((bq S T (i0:Int) d).2.2≠70→∀c,(bq S T (i0:Int) d).1.marked c=true→S.marked c=true∨S.dQ c=true) ∧
 (((bq S T (i0:Int) d).2.2=6∧(bq S T (i0:Int) d).1.up=true∧SI aJ L B (bq S T (i0:Int) d).1 st (bq S T (i0:Int) d).2.1 m∧∀b,0≤b→b<S.g.bl→S.marked b=false→b∉T.stands→S.dQ b=true) ∨
  ((bq S T (i0:Int) d).2.2=0∧(bq S T (i0:Int) d).1.up=true∧∃st',SI aJ L (B+1) (bq S T (i0:Int) d).1 st' (bq S T (i0:Int) d).2.1 (m.put i0 (some d))) ∨
  ((bq S T (i0:Int) d).2.2=70∧(bq S T (i0:Int) d).1.up=false∧∃st',Td (bq S T (i0:Int) d).1 st' (T.next+S.g.bl+1)∧(CM aJ L (bq S T (i0:Int) d).1 st' m∨CM aJ L (bq S T (i0:Int) d).1 st' (m.put i0 (some d))))):=by
 have uJ:=hI.ci.aU;unfold bQ.aU at uJ;obtain⟨c1,c2,c3⟩:=abu hI hu;obtain⟨cs,qX⟩:∃cs,cs=j4 S.dW T.stands T.at_ S.g.bl S.g.bl.toNat 0:=⟨_,rfl⟩;rw[←qX] at c1 c2 c3;have BI:(cs.length:Int)≤S.g.bl:=ay;obtain⟨r1,r2,r3,r4,r5,r6,r7⟩:=PO wR hL Wt h8 cs S T hI hu hd c1 (fun b hb=>(c3 b).1 hb) ay;have e0:bq S T (i0:Int) d=ZN (jy (i0:Int) d cs S T):=by
  unfold bq;rw[hI.ready wR,if_neg (fun h=>h rfl),if_neg ay,if_neg ay,←qX];rfl
 obtain⟨X,hX⟩:∃X,X=jy (i0:Int) d cs S T:=⟨_,rfl⟩;rw[←hX] at e0;rw[←hX] at r1 r2 r3 r4 r5 r6 r7;obtain⟨S',T',r⟩:=X;dsimp only at r1 r2 r3 r4 r5 r6 r7;rcases r7 with ⟨rfl,q2,q3,q4⟩ | ⟨rfl,q2,q3⟩ | ⟨rfl,q2,q3⟩
 ·have hsc:S'.om=0:=P6 q3.ci.aU q2;have e1:bq S T (i0:Int) d=(S',T',6):=by
   rw[e0];unfold ZN;dsimp only;rw[hsc,if_neg aN,X9 aN]
  rw[e1];exact⟨r1,r2,r3,fun h=>⟨(r4 h).1,ajk⟩,by show T'.next≤_;omega,fun _=>r6 (by intro h;cases h),.inl ⟨rfl,q2,q3,fun b h1 h2 h3 h4=>q4 b ((c3 b).2 ⟨h1,h2,h3,h4⟩)⟩⟩
 ·rw[e0];exact⟨r1,r2,r3,fun h=>⟨(r4 h).1,tV⟩,by show T'.next≤_;omega,fun _=>r6 (by intro h;injection h with h;exact absurd h tV),.inr (.inl ⟨rfl,q2,q3⟩)⟩
 ·rw[e0];exact⟨r1,r2,r3,fun h=>absurd rfl (r4 h).2,by show T'.next≤_;omega,fun h=>absurd rfl h,.inr (.inr ⟨rfl,q2,by obtain⟨st',k1,k2⟩:=q3;exact⟨st',k1.mono ay,k2⟩⟩)⟩
theorem Sv(hI:SI aJ L B S st T m)(hf:∀b,0≤b→b<S.g.bl→S.marked b=false→b∉T.stands→S.dQ b=true) :
 ((List.range S.g.bl.toNat).filter fun (b:Nat)=> !S.marked (b:Int)&& !S.dQ (b:Int)).length≤((List.range aJ).filter fun i=>(m i).isSome).length:=by
 have uJ:=hI.ci.aU;unfold bQ.aU at uJ;have hlm:(((List.range aJ).filter fun i=>(m i).isSome).map fun i=>(T.stands.getD i 0).toNat).length=((List.range aJ).filter fun i=>(m i).isSome).length:=length_map _;rw[←hlm];refine Pt (Pairwise.filter _ nodup_range) (fun b hb=> ?_);obtain⟨h1,h2⟩:=mem_filter.1 hb;have h1:=mem_range.1 h1;simp only[Bool.and_eq_true,Bool.not_eq_true'] at h2;have h3:(b:Int)∈T.stands:=by
  by_cases h:(b:Int)∈T.stands
  ·exact h
  ·have :=hf (b:Int) ay ay h2.1 h;rw[this] at h2;cases h2.2
 obtain⟨i,hi,e⟩:=getElem_of_mem h3;have GQ:i<aJ:=by rw[hI.len] at hi;exact hi
 have e2:T.stands.getD i 0=(b:Int):=by simp only[getD,getElem?_eq_getElem hi,Option.getD_some];exact e
 refine mem_map.2 ⟨i,mem_filter.2 ⟨mem_range.2 GQ, ?_⟩,by rw[e2,Int.toNat_natCast]⟩;cases hm:m i with
 | none=>have :=(hI.none_ i GQ hm).1;omega
 | some v=>rfl
theorem CM.new{g:bQ}{bad:List Int}(hg:g.aU)(aJ L:Nat):CM aJ L (aD.new g bad) (fun _=>none) (fun _=>none):=by
 have uJ:=hg;unfold bQ.aU at uJ;have uN:∀b h d,¬Live (aD.new g bad) (fun _=>none) b h d:=fun b h d hl=>by have :=hl.st;cases this
 refine⟨⟨hg, ?_,fun _=>rfl,fun b _ _ _ xs hx=>(by cases hx)⟩,fun b h d hl=>absurd hl (uN _ _ _),fun b c h h' d d' hl=>absurd hl (uN _ _ _),fun i _ _ b h d hl=>absurd hl (uN _ _ _),fun i _ v hv=>by cases hv⟩;show ((replicate g.bl.toNat (0:Int)).length:Int)=g.bl;rw[length_replicate];omega
end aD
namespace aD
structure Core(aJ L i0:Nat)(sd:Nat→Int)(S:aD)(st:Int→Hg)(m:Lm):Prop where
 ci:CI S st
 low:∀b h d,Live S st b h d→h.aS<L
 uniq:∀b c h h' d d',Live S st b h d→Live S st c h' d'→h.aS=h'.aS→h.num=h'.num→b=c
 none_:∀i,i<aJ→i≠i0→m i=none→∀b h d,Live S st b h d→h.aS≠(i:Nat)
 some_:∀i,i<aJ→i≠i0→∀v,m i=some v→∃h,Live S st (sd i) h v∧h.aS=(i:Nat)∧∀c h' v',Live S st c h' v'→h'.aS=(i:Nat)→c≠sd i→h'.num<h.num
end aD
namespace aD
structure Eqv(S S':aD):Prop where
 g:S'.g=S.g
 len:S'.next.length=S.next.length
 aX:S'.aX=S.aX
 few:(∀k,S.Zr k)→∀k,S'.Zr k
 marked:S'.marked=S.marked
end aD
theorem Yo{g:bQ}(hg:g.aU):aK prog 15 #[g.v] K F (.i g.cap):=by
 have hr:=bQ.kP hg;have FR:=bQ.vL hg;have uJ:=hg;unfold bQ.aU at uJ;have hq:(g.pg-1)*g.room=g.cap:=rfl;refine aB.en func15 ntmps15 ?_;refine aj "a%" fun b1=> ?_;refine aj "u~k~y~G~~<~~B" ?_;refine WQ.call (vs:=[_]) call60 ⟨ak rfl,trivial⟩ (GV g hg _ _) rfl ?_;exact aj "~~P~n~f~C." trivial
theorem ZR(hg:g.aU):(aD.new g bad).dV=[]:=by
 rw[eq_nil_iff_forall_not_mem];intro x hx;obtain⟨_,_,_,d,h⟩:=(aD.Ia (aD.CM.new (bad:=bad) hg 0 0).ci rfl x).1 hx;cases h
theorem WB(hg:g.aU)(aJ:Nat):(oh (aD.new g bad) aJ).next=1:=by
 show pE (aD.new g bad).dV=1;rw[ZR hg];rfl
def acV(ss:List ByteArray)(i:Nat):List Nat:=iB (bytesOf (ss.getD i ByteArray.empty))
def aeE(ss:List ByteArray)(i:Nat):Lm:=fun k=>if k<i then some (acV ss k) else none
theorem ahH(ss:List ByteArray)(i:Nat):(aeE ss i).put i (some (acV ss i))=aeE ss (i+1):=by unfold Lm.put aeE;grind
theorem af5(ss:List ByteArray)(i:Nat):aA 256 (acV ss i):=iP (eY _)
theorem afC(ss:List ByteArray)(i:Nat):(acV ss i).length=(ss.getD i ByteArray.empty).size:=by grind [acV,gZ,bytesOf_length]
theorem ah2(ss:List ByteArray)(i:Nat):strOfNums (bH (acV ss i))=ss.getD i ByteArray.empty:=by
 have :bH (acV ss i)=bytesOf (ss.getD i ByteArray.empty):=by
  unfold acV bH iB;rw[map_map]
  conv=>rhs;rw[←map_id (bytesOf _)]
  apply map_congr_left;intro x hx;have :=eY _ x hx;show ((x.toNat:Nat):Int)=x;omega
 rw[this,JU]
structure jg(aJ L B:Nat)(N:Int)(S:aD)(T:St)(m:Lm):Prop where
 si:∃st,aD.SI aJ L B S st T m
 up:S.up=true
 left:S.left=0
 dQ:∀b,S.dQ b=false
 un:∀b,S.marked b=false
 bM:∀k,S.bM k=none
 next:T.next≤N
theorem jg.change(h:jg aJ L B N S T m)(BI:(aJ:Int)<S.g.bl)(h20:S.g.bl≤20)(hN:N≤1000000)(wR:i0<aJ)(hL:i0<L)(Wt:i0<64)(h8:aA 256 d)(hd:(d.length:Int)≤S.g.cap) :
 (bq S T (i0:Int) d).2.2=0∧(bq S T (i0:Int) d).1.g=S.g∧jg aJ L (B+1) (N+21) (bq S T (i0:Int) d).1 (bq S T (i0:Int) d).2.1 (m.put i0 (some d)):=by
 obtain⟨st,hI⟩:=h.si;have Zk:=h.next;obtain⟨r1,r2,r3,r4,r5,r6,r7⟩:=aD.Pj hI h.up wR hL Wt h8 hd ay;rcases r7 with ⟨_,_,_,q4⟩ | ⟨q1,q2,q3⟩ | ⟨q1,_,_⟩
 ·exfalso;have h1:=aD.Sv hI q4;have h2:((List.range S.g.bl.toNat).filter fun (b:Nat)=> !S.marked (b:Int)&& !S.dQ (b:Int)).length=S.g.bl.toNat:=by
   rw[filter_eq_self.2 (fun b _=>by rw[h.un,h.dQ];rfl),length_range]
  have h3:=length_filter_le (fun i=>(m i).isSome) (List.range aJ);rw[length_range] at h3;omega
 ·refine⟨q1,r1,q3,q2,(r4 h.left).1,fun b=>by rw[r2];exact h.dQ b,fun b=> ?_,r3.none h.bM,by omega⟩;cases hm:(bq S T (i0:Int) d).1.marked b with
  | false=>rfl
  | true =>
   rcases r6 (by rw[q1];exact tV) b hm with h1 | h1
   ·rw[h.un] at h1;cases h1
   ·rw[h.dQ] at h1;cases h1
 ·exact absurd q1 (r4 h.left).2
theorem jg.new(hg:g.aU)(aJ:Nat):jg aJ aJ 256 1 (aD.new g []) (oh (aD.new g []) aJ) (fun _=>none) :=
 ⟨⟨_,aD.VH (aD.CM.new hg aJ aJ) rfl⟩,rfl,rfl,fun _=>rfl,fun _=>rfl,fun _=>rfl,by rw[WB hg];exact Int.le_refl _⟩
end Go.Proofs.YtcedojacbhnbiaaGreat
