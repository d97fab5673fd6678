import Derived.Test.YtcedojacbhnbiaaGreatP7
set_option autoImplicit true
set_option linter.all false
set_option maxHeartbeats 2000000
set_option maxRecDepth 20000
set_option relaxedAutoImplicit true
namespace Go.Proofs.YtcedojacbhnbiaaGreat
open Go.Sl Go.RowKit Tryz List Nat
def Co(g:bQ)(h:Hd)(d:List Nat):Nat→List Nat
 | 0=>[]
 | k+1=>Co g h d k++pJ g h d (k+1)
theorem H7(hg:g.aU):∀k,(Co g h d k).length=k*g.room.toNat∧(Co g h d k).take d.length=d.take (k*g.room.toNat)
 | 0=>⟨by simp[Co],by simp[Co]⟩
 | k+1=>by
  obtain⟨h1,h2⟩:=H7 (h:=h) (d:=d) hg k;obtain⟨R,j⟩:∃R,R=g.room.toNat:=⟨_,Z⟩;have a:=rG (h:=h) (d:=d) hg (k+1);rw[←j] at h1 h2 a ⊢;rw[Co];refine⟨by rw[length_append,h1,a,succ_mul], ?_⟩;by_cases r:d.length≤k*R
  ·rw[take_append_of_le_length ay,h2,take_of_length_le r,take_of_length_le (by rw[succ_mul];omega)]
  ·have m:Co g h d k=d.take (k*R):=by rw[←h2,take_of_length_le ay]
   rw[take_append,h1,take_of_length_le (l:=Co g h d k) ay,m,succ_mul];have n:(pJ g h d (k+1)).take (d.length-k*R)=(d.drop (k*R)).take R:=by
    show ((d.drop (k*g.room.toNat)).take g.room.toNat++replicate (g.room.toNat-((d.drop (k*g.room.toNat)).take g.room.toNat).length) 0).take (d.length-k*R)=_;rw[←j];by_cases u:R≤d.length-k*R
    ·have e:((d.drop (k*R)).take R).length=R:=by rw[length_take,length_drop];omega
     rw[e,Nat.sub_self,replicate_zero,append_nil,take_of_length_le ay]
    ·have e:((d.drop (k*R)).take R).length=d.length-k*R:=by rw[length_take,length_drop];omega
     rw[take_append_of_le_length ay,take_of_length_le ay]
   rw[n,←take_add]
namespace aD
variable{S:aD}{b:Int}{h:Hd}{d:List Nat}
def uT(S:aD)(h:Hd):Nat:=(S.g.bN h.len).toNat
structure yQ(S:aD)(b:Int)(h:Hd)(d:List Nat):Prop where
 may:h.may S.g=true
 len:h.len=(d.length:Nat)
 small:aA 256 d
 oG:∀p,p≤S.uT h→S.aX (b,(p:Int))=some (bH (fF S.g (pJ S.g h d p)))
structure Part(S:aD)(b:Int)(h:Hd):Prop where
 may:h.may S.g=true
 oG:S.aX (b,0)=some (bH (fF S.g (jP S.g h)))
 amV:∃p:Nat,p≤S.uT h∧S.zL (b,(p:Int))
theorem yG:∀k,S.kJ b k=true↔∀j:Nat,j<k→S.oW b (j:Int)=0
 | 0=>by simp[kJ]
 | k+1=>by
  rw[kJ,Bool.and_eq_true,yG k,decide_eq_true_eq];constructor
  ·rintro⟨h1,h2⟩ j hj;rcases Nat.lt_or_ge j k with h | h
   ·exact h1 j h
   ·rw[show j=k by omega];exact h2
  ·intro h;exact⟨λj hj=>h j ay,h k ay⟩
theorem Mq(hg:S.g.aU)(hm:h.may S.g=true):(S.uT h:Int)=S.g.bN h.len∧(S.uT h:Int)≤S.g.pg-1∧h.len≤(S.uT h:Int)*S.g.room∧0≤h.len:=by
 have JG:=hm;unfold Hd.may at JG;simp only[Bool.and_eq_true,decide_eq_true_eq] at JG;have hf:=JG.1.1.1.1;have a:=bQ.Ll hg hf;unfold bQ.fits at hf;simp only[Bool.and_eq_true,decide_eq_true_eq] at hf;unfold uT;rw[Int.toNat_of_nonneg a.1];exact⟨Z,a.2.1,a.2.2.1,hf.1⟩
theorem NH(hg:S.g.aU):S.room=S.g.room.toNat:=by
 unfold room;rw[bQ.Jv hg];rfl
theorem Li(hg:S.g.aU)(hu:S.up=true)(hb:0≤b∧b<S.g.bl)(hm:S.marked b=false)(Oj:h.may S.g=true):S.mX b (1+S.g.bN h.len)=(S.kJ b (1+S.uT h),0):=by
 have j:=Mq hg Oj;have uJ:=hg;unfold bQ.aU at uJ;have a:(decide ((0:Int)≤1+S.g.bN h.len)&&decide (1+S.g.bN h.len≤S.g.pg))=true:=by rw[decide_eq_true ay,decide_eq_true ay];rfl
 have e:S.ahead b 0 true=0:=Cg hu ⟨hb.1,hb.2,by omega,by omega⟩ hm;unfold mX;rw[a,e,if_neg aN,if_neg (λh=>h Z)];rw[show (1+S.g.bN h.len).toNat=1+S.uT h by omega]
theorem XM(hg:S.g.aU)(hf:∀p:Nat,S.Zr (b,(p:Int)))(ht:S.zL (b,0)):S.ko b=none:=by
 have a:=Uv hg ht (hf 0);unfold ko;rw[if_pos a]
section
variable(hg:S.g.aU)(hu:S.up=true)(hb:0≤b∧b<S.g.bl)(hm:S.marked b=false)(hf:∀p:Nat,S.Zr (b,(p:Int)))
include hg hu hb hm hf
theorem Gw(hH:S.yQ b h d)(hp:p≤S.uT h):∃N:Nat,(S.bM (b,(p:Int))=none→N=0)∧S.bY b p=⟨0,pJ S.g h d p,N⟩∧S.oW b p=0:=by
 have a:=Mq hg hH.may;exact KU hg hu ⟨hb.1,hb.2,by omega,by omega⟩ hm (Bg hH.small p) (by rw[rG hg,NH hg]) (hH.oG p hp) (hf p)
theorem scan_holds(hH:S.yQ b h d):S.ko b=some ⟨b,h,true⟩:=by
 obtain⟨N,_,a,_⟩:=Gw hg hu hb hm hf hH (p:=0) (zero_le _);have EJ:S.bY b 0=⟨0,jP S.g h,N⟩:=a;unfold ko;rw[EJ,if_neg (λh=>h Z)];dsimp only;rw[yI hH.may hg];dsimp only;rw[Li hg hu hb hm hH.may];have :S.kJ b (1+S.uT h)=true:=(yG _).2 λj k=>by
  obtain⟨_,_,_,e⟩:=Gw hg hu hb hm hf hH (p:=j) ay;exact e
 rw[this]
theorem Xp(hP:S.Part b h):S.ko b=some ⟨b,h,false⟩:=by
 have uJ:=hg;unfold bQ.aU at uJ;obtain⟨N,_,j,_⟩:=KU hg hu ⟨hb.1,hb.2,Int.le_refl _,by omega⟩ hm (yN S.g h) (by rw[pQ hg,NH hg]) hP.oG (hf 0);unfold ko;rw[j,if_neg (λh=>h Z)];dsimp only;rw[yI hP.may hg];dsimp only;rw[Li hg hu hb hm hP.may];have :S.kJ b (1+S.uT h)=false:=by
  rw[←Bool.not_eq_true];intro a;obtain⟨p,k,e⟩:=hP.amV;exact Jt hg e (hf p) ((yG _).1 a p ay)
 rw[this]
theorem rd_holds(hH:S.yQ b h d)(n0:Nat):∀k,k≤S.uT h→∃N:Nat,((∀p:Nat,S.bM (b,(p:Int))=none)→n0=0→N=0)∧iA S b n0 k=⟨0,Co S.g h d k,N⟩
 | 0,_=>⟨n0,λ_ h=>h,Z⟩
 | k+1,hk=>by
  obtain⟨N,h1,h2⟩:=rd_holds hH n0 k ay;obtain⟨M,j,l,_⟩:=Gw hg hu hb hm hf hH (p:=k+1) hk;have m:S.bY b (1+(k:Int))=⟨0,pJ S.g h d (k+1),M⟩:=by rw[show 1+(k:Int)=((k+1:Nat):Int) by omega];exact l
  refine⟨max N M,λa e=> ?_, ?_⟩
  ·have r:=h1 a e;have n:=j (a (k+1));omega
  ·rw[iA,h2,if_neg (λh=>h Z),m,if_neg (λh=>h Z)];rfl
end
end aD
theorem read_holds(hg:S.g.aU)(hu:S.up=true)(hb:0≤b∧b<S.g.bl)(hm:S.marked b=false)(hf:∀p:Nat,S.Zr (b,(p:Int)))
 (hr:T.ready aS=0) (ha:T.lF aS=b) (hH:S.yQ b h d):∃N:Nat,((∀p:Nat,S.bM (b,(p:Int))=none)→N=0)∧dZ S T aS=(⟨0,d,N⟩,T):=by
 obtain⟨j,l,n,_⟩:=aD.Gw hg hu hb hm hf hH (p:=0) (zero_le _);have EJ:S.bY b 0=⟨0,jP S.g h,j⟩:=n;obtain⟨N,x,B⟩:=aD.rd_holds hg hu hb hm hf hH j (S.uT h) (Nat.le_refl _);have e:=aD.Mq hg hH.may;refine⟨N,λk=>x k (l (k 0)), ?_⟩;have a:jr S.g (jP S.g h)=some h:=yI hH.may hg;have y:iR S.g (jP S.g h)=0:=by unfold iR;rw[a]
 have r:gQ S.g (jP S.g h)=h:=by unfold gQ;rw[a];rfl
 unfold dZ;rw[hr,if_neg (λh=>h Z),ha,if_neg ay,EJ,if_neg (λh=>h Z)];dsimp only;rw[y,if_neg (λh=>h Z),r];rw[show (S.g.bN h.len).toNat=S.uT h from Z,B,if_neg (λh=>h Z)];dsimp only;have u:=(H7 (h:=h) (d:=d) hg (S.uT h)).2;rw[hH.len,Int.toNat_natCast,u,take_of_length_le];have hr:=bQ.kP hg;have C:((S.uT h*S.g.room.toNat:Nat):Int)=(S.uT h:Int)*S.g.room:=by rw[Int.natCast_mul];congr 1;omega
 have m:=e.2.2.1;rw[hH.len,←C] at m;omega
theorem aaK:(72:Int)≠70:=by decide
theorem AY:(70:Int)≠72:=by decide
theorem Fh:(0:Int)≠72:=by decide
theorem tV:(0:Int)≠70:=by decide
namespace aD
structure Rest(b:Int)(S S':aD):Prop where
 g:S'.g=S.g
 len:S'.next.length=S.next.length
 aX:∀k:Int×Int,k.1≠b→S'.aX k=S.aX k
 bM:∀k:Int×Int,k.1≠b→S'.bM k=S.bM k
 marked:∀c,c≠b→S'.marked c=S.marked c
 dQ:S'.dQ=S.dQ
theorem Rest.refl(b:Int)(S:aD):Rest b S S:=⟨Z,Z,λ_ _=>Z,λ_ _=>Z,λ_ _=>Z,Z⟩
theorem Rest.trans(h:Rest b S T)(h':Rest b T U):Rest b S U :=
 ⟨h'.g.trans h.g,h'.len.trans h.len,λk a=>(h'.aX k a).trans (h.aX k a),λk a=>(h'.bM k a).trans (h.bM k a),λc e=>(h'.marked c e).trans (h.marked c e),h'.dQ.trans h.dQ⟩
def mk1(S:aD)(b:Int):aD:= { S with marked:=λk=>if k=b then true else S.marked k }
theorem Gj{S:aD}(hc:S.cut=false):S.bE.up=S.up:=by unfold bE;rw[hc];cases S.up<;>rfl
theorem zm{S:aD}(hc:S.cut=true):S.bE.up=false:=by unfold bE;rw[hc];cases S.up<;>rfl
theorem Dk{S:aD}(h:S.left=0):S.cut=false:=by unfold cut;rw[h];rfl
theorem ZT(hu:S.up=true)(hb:0≤b∧b<S.g.bl) :
 (S.cut=false∧done b (S,72)=(S.bE.mk1 b,72))∨(S.cut=true∧(done b (S,72)=(S.bE.mk1 b,70)∨done b (S,72)=(S.bE,70))):=by
 have e:S.mark b=S.all λT=> { T with marked:=λk=>if k=b then true else T.marked k }:=by
  unfold mark;rw[if_neg (by rw[hu];decide),if_neg (by rw[CB hb];decide)]
 have j:done b (S,72)=if (S.mark b).2≠0 then S.mark b else ((S.mark b).1,72):=by
  unfold done;rw[if_neg (λh=>h Z)]
 rw[j,e];unfold all after;cases hc:S.cut with
 | false=>exact .inl ⟨Z,Z⟩
 | true =>
  refine .inr ⟨Z, ?_⟩;by_cases a:0<S.nG
  ·rw[decide_eq_true a];exact .inl Z
  ·rw[decide_eq_false a];exact .inr Z
theorem Rest.bE(S:aD)(b:Int):Rest b S S.bE:=⟨Z,Z,λ_ _=>Z,λ_ _=>Z,λ_ _=>Z,Z⟩
theorem Rest.mk1(S:aD)(b:Int):Rest b S (S.mk1 b):=⟨Z,Z,λ_ _=>Z,λ_ _=>Z,λc a=>if_neg a,Z⟩
theorem Ip{S:aD}:(S.mk1 b).marked b=true:=if_pos Z
def acz(b:Int)(S:aD)(X:aD×Int):Prop :=
 (X.2=72∧X.1.up=true∧X.1.marked b=true)∨(X.2=70∧X.1.up=false∧(X.1.marked b=true∨X.1.marked b=S.marked b∧X.1.aX=S.aX∧X.1.bM=S.bM))
theorem Pb(hu:S.up=true)(hc:S.cut=false)(hb:0≤b∧b<S.g.bl):Rest b S (done b (S.bE,72)).1∧acz b S (done b (S.bE,72))∧(S.left=0→(done b (S.bE,72)).1.left=0∧(done b (S.bE,72)).2≠70):=by
 have e:S.bE.up=true:=by rw[Gj hc];exact hu
 rcases ZT (S:=S.bE) e hb with ⟨c1,j⟩ | ⟨c1,j | j⟩
 ·rw[j];refine⟨(Rest.bE S b).trans ((Rest.bE _ b).trans (Rest.mk1 _ b)),.inl ⟨Z,by show S.bE.bE.up=true;rw[Gj c1];exact e,Ip⟩,λa=>⟨?_,aaK⟩⟩;show S.bE.bE.left=0;rw[qo a,qo a];exact a
 ·rw[j];refine⟨(Rest.bE S b).trans ((Rest.bE _ b).trans (Rest.mk1 _ b)),.inr ⟨Z,by show S.bE.bE.up=false;exact zm c1,.inl Ip⟩,λa=> ?_⟩;rw[qo a,Dk a] at c1;cases c1
 ·rw[j];refine⟨(Rest.bE S b).trans (Rest.bE _ b),.inr ⟨Z,by show S.bE.bE.up=false;exact zm c1,.inr ⟨Z,Z,Z⟩⟩,λa=> ?_⟩;rw[qo a,Dk a] at c1;cases c1
theorem IY(hu:S.up=true)(hb:0≤b∧b<S.g.bl)(Dt:0<S.g.pg)(hm:S.marked b=false)(hn:(S.next.length:Int)=S.g.bl):Rest b S (S.bB b).1∧(S.left=0→(S.bB b).1.left=0∧(S.bB b).2≠70)∧(S.dQ b=false→(S.bB b).2≠72) ∧
 (((S.bB b).2=0∧(S.bB b).1.up=true∧(S.bB b).1.marked b=false∧(S.bB b).1.nk b=0∧∀p,0≤p→p<S.g.pg→(S.bB b).1.aX (b,p)=none∧(S.bB b).1.bM (b,p)=none) ∨
  acz b S (S.bB b) ∨
  ((S.bB b).2=70∧(S.bB b).1.up=false∧(S.bB b).1.marked b=false∧(∃n,(S.bB b).1.aX=bD S.aX b n∧(S.bB b).1.bM=bD S.bM b n))):=by
 have u:S.bB b=done b (S.erase b):=by
  unfold bB;rw[if_neg (by rw[Cg hu ⟨hb.1,hb.2,Int.le_refl _,Dt⟩ hm];decide)]
 have JI:∀ {α:Type} (f:Int×Int→Option α) (n:Int) (k:Int×Int),k.1≠b→bD f b n k=f k:=λf n k a=>if_neg λh=>a h.1;cases hc:S.cut with
 | true =>
  have e:S.erase b=({ S.bE with aX:=bD S.aX b (S.kept S.g.pg),bM:=bD S.bM b (S.kept S.g.pg) },70):=by
   unfold erase;rw[if_neg (by rw[hu];decide),if_neg (by rw[CB hb];decide),hc];rfl
  have r:S.bB b=S.erase b:=by
   rw[u];unfold done;rw[if_pos (by rw[e];first | exact AY | exact Fh)]
  rw[r,e];refine⟨⟨Z,Z,λk a=>JI _ _ k a,λk a=>JI _ _ k a,λ_ _=>Z,Z⟩,λm=> ?_,λ_=>AY,.inr (.inr ⟨Z,zm hc,hm,_,Z,Z⟩)⟩;rw[Dk m] at hc;cases hc
 | false =>
  cases hw:S.dQ b with
  | true =>
   have e:S.erase b=(S.bE,72):=by
    unfold erase;rw[if_neg (by rw[hu];decide),if_neg (by rw[CB hb];decide),hc,if_neg Bool.false_ne_true,hw,if_pos Z]
   rw[u,e];obtain⟨j,l,x⟩:=Pb hu hc hb;exact⟨j,x,λh=>(by cases h),.inr (.inl l)⟩
  | false =>
   have e:S.erase b=({ S.bE with aX:=bD S.aX b S.g.pg,bM:=bD S.bM b S.g.pg,next:=S.lH b 0 },0):=by
    unfold erase;rw[if_neg (by rw[hu];decide),if_neg (by rw[CB hb];decide),hc,if_neg Bool.false_ne_true,hw,if_neg Bool.false_ne_true];rfl
   have r:S.bB b=S.erase b:=by
    rw[u];unfold done;rw[if_pos (by rw[e];first | exact AY | exact Fh)]
   rw[r,e];refine⟨⟨Z,by show (S.next.set _ _).length=_;rw[length_set],λk a=>JI _ _ k a,λk a=>JI _ _ k a,λ_ _=>Z,Z⟩,λm=>⟨?_,tV⟩,λ_=>Fh,.inl ⟨Z,by show S.bE.up=true;rw[Gj hc];exact hu,hm, ?_,λp j l=>⟨if_pos ⟨Z,j,l⟩,if_pos ⟨Z,j,l⟩⟩⟩⟩
   ·show S.bE.left=0;rw[qo m];exact m
   ·show (S.next.set b.toNat 0).getD b.toNat 0=0;simp only[getD,getElem?_set_self (show b.toNat<S.next.length by omega),Option.getD_some]
theorem SY(hg:S.g.aU)(hu:S.up=true)(h:0≤b∧b<S.g.bl∧0≤p∧p<S.g.pg)(hm:S.marked b=false)(h8:aA 256 d)(hl:d.length=S.room)(hn:S.nk b=p)(hln:(S.next.length:Int)=S.g.bl) :
 Rest b S (S.dK b p d).1∧(S.left=0→(S.dK b p d).1.left=0∧(S.dK b p d).2≠70)∧(S.dQ b=false→(S.dK b p d).2≠72) ∧
 (((
  S.dK b p d).2=0∧(S.dK b p d).1.up=true∧(S.dK b p d).1.marked b=false∧(S.dK b p d).1.nk b=p+1∧(S.dK b p d).1.bM=S.bM∧(S.dK b p d).1.aX=DR S.aX (b,p) (some (bH (fF S.g d)))) ∨
  acz b S (S.dK b p d) ∨
  ((
   S.dK b p d).2=70∧(S.dK b p d).1.up=false∧(S.dK b p d).1.marked b=false∧(S.dK b p d).1.bM=S.bM∧∃xs,(S.dK b p d).1.aX=DR S.aX (b,p) (some xs) ∧
   (xs=bH (fF S.g d)∨∃ys,xs=bH ys∧ys.getD (S.g.se.toNat*S.g.kX) 0=255))):=by
 have r:S.dK b p d=done b (S.program b p (bH (fF S.g d))):=Pf hu h hm hl;have l7:=aa1 hg h8 hl;have nD:∀ {α:Type} (f:Int×Int→Option α) (v:Option α) (k:Int×Int),k.1≠b→DR f (b,p) v k=f k:=λf v k a=>if_neg λe=>a (by rw[e]);cases hc:S.cut with
 | true =>
  have j:S.program b p (bH (fF S.g d))=({ S.bE with aX:=DR S.aX (b,p) (some ((bH (fF S.g d)).take (S.kept (bH (fF S.g d)).length).toNat++S.blank.drop (S.kept (bH (fF S.g d)).length).toNat)),next:=S.lH b (p+1) },70):=by
   unfold program;rw[if_neg (by rw[hu];decide),if_neg (by rw[Mg h];rintro (h | h);cases h;exact h l7),if_neg (λh=>h hn.symm),hc];rfl
  have n:S.dK b p d=S.program b p (bH (fF S.g d)):=by
   rw[r];unfold done;rw[if_pos (by rw[j];first | exact AY | exact Fh)]
  rw[n,j];refine⟨⟨Z,by show (S.next.set _ _).length=_;rw[length_set],λk a=>nD _ _ k a,λk a=>Z,λ_ _=>Z,Z⟩,λm=> ?_,λ_=>AY,.inr (.inr ⟨Z,zm hc,hm,Z,_,Z, ?_⟩)⟩
  ·rw[Dk m] at hc;cases hc
  ·obtain⟨k,a⟩:∃k,k=(S.kept (bH (fF S.g d)).length).toNat:=⟨_,Z⟩;rw[←a];have vX:k≤(bH (fF S.g d)).length:=by rw[a];unfold kept;omega
   have BI:S.blank=bH (replicate S.g.raw.toNat 255):=by unfold blank bH raw;rw[map_replicate];rfl
   have l:=Pk hg;have KA:(bH (fF S.g d)).length=S.g.se.toNat*S.g.kX+1:=by
    have u:((bH (fF S.g d)).length:Int)=S.g.raw:=l7;omega
   by_cases YX:k=(bH (fF S.g d)).length
   ·refine .inl ?_;rw[YX,take_of_length_le (Nat.le_refl _),BI,drop_eq_nil_of_le,append_nil];unfold bH;rw[length_map,length_replicate];unfold bH at KA;rw[KA,l,Int.toNat_natCast];exact Nat.le_refl _
   ·refine .inr ⟨(fF S.g d).take k++(replicate S.g.raw.toNat 255).drop k, ?_, ?_⟩
    ·rw[BI];unfold bH;rw[map_append,map_take,map_drop]
    ·have x:(fF S.g d).length=S.g.se.toNat*S.g.kX+1:=by unfold bH at KA;rw[length_map] at KA;exact KA
     have aq8:k<S.g.se.toNat*S.g.kX+1:=by
      unfold bH at vX YX;rw[length_map] at vX YX;omega
     simp only[getD];rw[getElem?_append_right (by rw[length_take];omega),length_take,getElem?_drop,l,Int.toNat_natCast,getElem?_replicate,if_pos ay];rfl
 | false =>
  cases hw:S.dQ b with
  | true =>
   have j:S.program b p (bH (fF S.g d))=(S.bE,72):=by
    unfold program;rw[if_neg (by rw[hu];decide),if_neg (by rw[Mg h];rintro (h | h);cases h;exact h l7),if_neg (λh=>h hn.symm),hc,if_neg Bool.false_ne_true,hw,if_pos Z]
   rw[r,j];obtain⟨u,y,B⟩:=Pb hu hc ⟨h.1,h.2.1⟩;exact⟨u,B,λh=>(by cases h),.inr (.inl y)⟩
  | false =>
   have j:S.program b p (bH (fF S.g d))=({ S.bE with aX:=DR S.aX (b,p) (some (bH (fF S.g d))),next:=S.lH b (p+1) },0):=by
    unfold program;rw[if_neg (by rw[hu];decide),if_neg (by rw[Mg h];rintro (h | h);cases h;exact h l7),if_neg (λh=>h hn.symm),hc,if_neg Bool.false_ne_true,hw,if_neg Bool.false_ne_true];rfl
   have n:S.dK b p d=S.program b p (bH (fF S.g d)):=by
    rw[r];unfold done;rw[if_pos (by rw[j];first | exact AY | exact Fh)]
   rw[n,j];refine⟨⟨Z,by show (S.next.set _ _).length=_;rw[length_set],λk a=>nD _ _ k a,λk a=>Z,λ_ _=>Z,Z⟩,λm=>⟨?_,tV⟩,λ_=>Fh,.inl ⟨Z,by show S.bE.up=true;rw[Gj hc];exact hu,hm, ?_,Z,Z⟩⟩
   ·show S.bE.left=0;rw[qo m];exact m
   ·show (S.next.set b.toNat (p+1)).getD b.toNat 0=p+1;simp only[getD,getElem?_set_self (show b.toNat<S.next.length by omega),Option.getD_some]
end aD
namespace aD
def Wr(S S':aD):Prop:=∀k,S'.bM k=none∨S'.bM k=S.bM k
theorem Wr.refl(S:aD):Wr S S:=λ_=> .inr Z
theorem Wr.of(h:S'.bM=S.bM):Wr S S':=λk=> .inr (by rw[h])
theorem Wr.trans(h:Wr S T)(h':Wr T U):Wr S U:=λk=>by
 rcases h' k with e | e
 ·exact .inl e
 ·rw[e];exact h k
theorem Wr.few(h:Wr S S')(hg:S'.g=S.g)(hf:∀k,S.Zr k):∀k,S'.Zr k:=λk=>by
 rcases h k with e | e
 ·exact e
 ·exact e.trans (hf k)
theorem Wr.none{S S':aD}(h:Wr S S')(hf:∀k,S.bM k=none):∀k,S'.bM k=none:=λk=>by
 rcases h k with e | e
 ·exact e
 ·rw[e];exact hf k
theorem Wr.drop(h:S'.bM=bD S.bM b n):Wr S S':=λk=>by
 rw[h];unfold bD;split
 ·exact .inl Z
 ·exact .inr Z
def RA(b:Int)(S S':aD):Prop:=S'.aX=S.aX∧S'.bM=S.bM
def ahe(S:aD)(b:Int)(pg:Nat→List Nat)(N j:Nat):Prop:=j≤N+1∧(∀p:Nat,p<j→S.aX (b,(p:Int))=some (bH (fF S.g (pg p))))∧(j≤N→S.zL (b,(j:Int)))
theorem tJ{S:aD}(h:S.aX k=none):S.zL k:=λe a=>by rw[h] at a;cases a
theorem Jg:Wr S (S.bB b).1:=by
 have e:∀x:aD×Int,Wr S x.1→Wr S (done b x).1:=λx a=>by
  have hm:(x.1.mark b).1.bM=x.1.bM:=by
   unfold mark;split
   ·rfl
   ·split
    ·rfl
    ·unfold all;dsimp only;split<;>rfl
  unfold done;split
  ·exact a
  ·split
   ·exact a.trans (Wr.of hm)
   ·exact a.trans (Wr.of hm)
 unfold bB;split
 ·exact Wr.refl S
 ·refine e _ ?_;unfold erase;split
  ·exact Wr.refl S
  ·split
   ·exact Wr.refl S
   ·dsimp only;split
    ·exact Wr.drop Z
    ·split
     ·exact Wr.refl S
     ·exact Wr.drop Z
theorem aaB:Wr S (S.dK b p d).1:=by
 have hm:∀T:aD,(T.mark b).1.bM=T.bM:=λT=>by
  unfold mark;split
  ·rfl
  ·split
   ·rfl
   ·unfold all;dsimp only;split<;>rfl
 have e:∀x:aD×Int,Wr S x.1→Wr S (done b x).1:=λx a=>by
  unfold done;split
  ·exact a
  ·split
   ·exact a.trans (Wr.of (hm _))
   ·exact a.trans (Wr.of (hm _))
 unfold dK;split
 ·exact Wr.refl S
 ·refine e _ (Wr.of ?_);unfold program;split
  ·rfl
  ·split
   ·rfl
   ·split
    ·rfl
    ·dsimp only;split
     ·rfl
     ·split<;>rfl
theorem aaF(hg:S.g.aU)(hu:S.up=true)(hb:0≤b∧b<S.g.bl)(hm:S.marked b=false)(h8:∀p,aA 256 (pg p))(hl:∀p,(pg p).length=S.room)(hn:S.nk b=0)(hln:(S.next.length:Int)=S.g.bl)
 {N:Nat} (hN:(N:Int)<S.g.pg) (h0:∀p,0≤p→p<S.g.pg→S.aX (b,p)=none):∀k,k≤N+1→Rest b S (gu S b pg k).1∧Wr S (gu S b pg k).1∧(S.left=0→(gu S b pg k).1.left=0∧(gu S b pg k).2≠70)∧(S.dQ b=false→(gu S b pg k).2≠72) ∧
 (((gu S b pg k).2=0∧(gu S b pg k).1.up=true∧(gu S b pg k).1.marked b=false∧(gu S b pg k).1.nk b=(k:Int)∧(∀p:Nat,p<k→(gu S b pg k).1.aX (b,(p:Int))=some (bH (fF S.g (pg p))))∧(∀p:Int,(k:Int)≤p→p<S.g.pg→(gu S b pg k).1.aX (b,p)=none)) ∨
  ((gu S b pg k).2=72∧(gu S b pg k).1.up=true∧(gu S b pg k).1.marked b=true) ∨
  ((gu S b pg k).2=70∧(gu S b pg k).1.up=false∧((gu S b pg k).1.marked b=true∨(gu S b pg k).1.marked b=false∧∃j,(gu S b pg k).1.ahe b pg N j)))
 | 0,_=>⟨Rest.refl b S,Wr.refl S,λh=>⟨h,tV⟩,λ_=>Fh,.inl ⟨Z,hu,hm,hn,λp hp=>absurd hp (not_lt_zero _),λp h1 h2=>h0 p h1 h2⟩⟩
 | k+1,hk=>by
  obtain⟨r1,r2,r3,r4,r5⟩:=aaF hg hu hb hm h8 hl hn hln hN h0 k ay;by_cases x:(gu S b pg k).2=0
  ·obtain⟨Y,K⟩:∃Y,Y=(gu S b pg k).1:=⟨_,Z⟩;have l:gu S b pg (k+1)=Y.dK b k (pg k):=by rw[gu,if_neg (λh=>h x),←K]
   rw[←K] at r1 r2 r3 r5;have L:Y.up=true∧Y.marked b=false∧Y.nk b=(k:Int)∧(∀p:Nat,p<k→Y.aX (b,(p:Int))=some (bH (fF S.g (pg p))))∧(∀p:Int,(k:Int)≤p→p<S.g.pg→Y.aX (b,p)=none):=by
    rcases r5 with h | h | h
    ·exact h.2
    ·rw[x] at h;exact absurd h.1.symm aN
    ·rw[x] at h;exact absurd h.1.symm aN
   obtain⟨R,J,P,F,I⟩:=L;have wH:(pg k).length=Y.room:=by rw[hl];unfold room;rw[r1.g]
   obtain⟨B,O,M,w4⟩:=SY (S:=Y) (b:=b) (p:=(k:Int)) (d:=pg k) (by rw[r1.g];exact hg) R (by rw[r1.g];omega) J (h8 k) wH P (by rw[r1.len,r1.g];exact hln);rw[l];have u:fF Y.g (pg k)=fF S.g (pg k):=by rw[r1.g]
   have r:∀(f:Int×Int→Option (List Int)) (v:Option (List Int)) (p:Int),p≠k→DR f (b,(k:Int)) v (b,p)=f (b,p):=λf v p hp=>if_neg λe=>hp (by injection e);have y:∀(f:Int×Int→Option (List Int)) (v:Option (List Int)),DR f (b,(k:Int)) v (b,(k:Int))=v:=λf v=>if_pos Z;refine⟨r1.trans B,r2.trans aaB,λh=>O (r3 h).1,λh=>M (by rw[r1.dQ];exact h), ?_⟩;rcases w4 with ⟨n,m,a,D,_,H⟩ | (⟨n,m,a⟩ | ⟨n,m,a⟩) | ⟨n,m,a,_,U,G,H⟩
   ·refine .inl ⟨n,m,a,by rw[D];omega,λp hp=> ?_,λp h1 h2=> ?_⟩
    ·rw[H];by_cases agx:p=k
     ·subst agx;first | rw[y,u] | rw[y]
     ·rw[r _ _ _ ay];exact F p ay
    ·rw[H,r _ _ _ ay];exact I p ay h2
   ·exact .inr (.inl ⟨n,m,a⟩)
   ·refine .inr (.inr ⟨n,m, ?_⟩);rcases a with a | ⟨a,D,_⟩
    ·exact .inl a
    ·refine .inr ⟨by rw[a];exact J,k,by omega,λp hp=> ?_,λ_=>tJ ?_⟩
     ·rw[D,B.g,r1.g];exact F p hp
     ·rw[D];exact I _ (Int.le_refl _) ay
   ·refine .inr (.inr ⟨n,m,.inr ⟨a, ?_⟩⟩);rcases H with rfl | ⟨Q,rfl,T⟩
    ·refine⟨k+1,by omega,λp hp=> ?_,λV=>tJ ?_⟩
     ·rw[G,B.g,r1.g];by_cases agx:p=k
      ·subst agx;first | rw[y,u] | rw[y]
      ·rw[r _ _ _ ay];exact F p ay
     ·rw[G,r _ _ _ ay];exact I _ ay ay
    ·refine⟨k,by omega,λp hp=> ?_,λ_ U C=> ?_⟩
     ·rw[G,B.g,r1.g,r _ _ _ ay];exact F p hp
     ·rw[G,y] at C;injection C with C
      exact⟨Q,C.symm,by rw[B.g];exact T⟩
  ·have l:gu S b pg (k+1)=gu S b pg k:=by rw[gu,if_pos x]
   rw[l];refine⟨r1,r2,r3,r4, ?_⟩;rcases r5 with h | h | h
   ·exact absurd h.1 x
   ·exact .inr (.inl h)
   ·exact .inr (.inr h)
theorem Xv{S:aD}{h:Hd}(Oj:h.may S.g=true)(hl:h.len=(d.length:Nat))(h8:aA 256 d)(hj:S.ahe b (pJ S.g h d) (S.uT h) j):S.zL (b,0)∨S.Part b h∨S.yQ b h d:=by
 obtain⟨m,e,k⟩:=hj;rcases eq_zero_or_pos j with rfl | l
 ·exact .inl (k (zero_le _))
 ·by_cases a:j≤S.uT h
  ·exact .inr (.inl ⟨Oj,e 0 l,j,a,k a⟩)
  ·exact .inr (.inr ⟨Oj,hl,h8,λp n=>e p ay⟩)
theorem Ta(hg:S.g.aU)(hu:S.up=true)(hb:0≤b∧b<S.g.bl)(hm:S.marked b=false)(hln:(S.next.length:Int)=S.g.bl)(h8:aA 256 d)(Oj:Hd.may S.g ⟨aS,(d.length:Nat),num⟩=true) :
 Rest b S (dI S num b aS d).1∧Wr S (dI S num b aS d).1∧(S.left=0→(dI S num b aS d).1.left=0∧(dI S num b aS d).2≠70)∧(S.dQ b=false→(dI S num b aS d).2≠72) ∧
 (((
  dI S num b aS d).2=0∧(dI S num b aS d).1.up=true∧(dI S num b aS d).1.marked b=false∧(dI S num b aS d).1.yQ b ⟨aS,(d.length:Nat),num⟩ d) ∨
  ((dI S num b aS d).2=72∧(dI S num b aS d).1.up=true∧(dI S num b aS d).1.marked b=true) ∨
  ((
   dI S num b aS d).2=70∧(dI S num b aS d).1.up=false∧((dI S num b aS d).1.marked b=true∨(dI S num b aS d).1.marked b=false ∧
   (RA b S (dI S num b aS d).1∨(dI S num b aS d).1.zL (b,0)∨(dI S num b aS d).1.Part b ⟨aS,(d.length:Nat),num⟩∨(dI S num b aS d).1.yQ b ⟨aS,(d.length:Nat),num⟩ d)))):=by
 have uJ:=hg;unfold bQ.aU at uJ;obtain⟨l,G,e3,H⟩:=IY hu hb ay hm hln;obtain⟨h,C⟩:∃h:Hd,h=⟨aS,(d.length:Nat),num⟩:=⟨_,Z⟩;rw[←C] at Oj ⊢;have x0:=Mq hg Oj;by_cases y:(S.bB b).2=0
 ·obtain⟨T,J⟩:∃T,T=(S.bB b).1:=⟨_,Z⟩;have r:dI S num b aS d=gu T b (pJ S.g h d) (S.uT h+1):=by
   unfold dI;rw[if_neg (λh=>h y),←J,←C];unfold uT;rw[C]
  have D:=Jg (S:=S) (b:=b);rw[←J] at l G H D;have Q:T.up=true∧T.marked b=false∧T.nk b=0∧∀p,0≤p→p<S.g.pg→T.aX (b,p)=none∧T.bM (b,p)=none:=by
   rcases H with h | (h | h) | h
   ·exact h.2
   ·rw[y] at h;exact absurd h.1.symm aN
   ·rw[y] at h;exact absurd h.1.symm aN
   ·rw[y] at h;exact absurd h.1.symm aN
  obtain⟨u1,O,Y,W⟩:=Q;obtain⟨K,R,M,w4,V⟩:=aaF (S:=T) (b:=b) (pg:=pJ S.g h d) (by rw[l.g];exact hg) u1 (by rw[l.g];exact hb) O (λp=>Bg h8 p) (λp=>by rw[rG hg];unfold room;rw[l.g];exact (NH hg).symm) Y (by rw[l.len,l.g];exact hln)
   (N:=S.uT h) (by rw[l.g];omega) (λp L X=>(W p L (by rw[←l.g];exact X)).1) (S.uT h+1) (Nat.le_refl _)
  rw[r];have m:(gu T b (pJ S.g h d) (S.uT h+1)).1.g=S.g:=(K.g).trans l.g;have dL:∀j,(gu T b (pJ S.g h d) (S.uT h+1)).1.ahe b (pJ S.g h d) (S.uT h) j→(gu T b (pJ S.g h d) (S.uT h+1)).1.zL (b,0)∨(gu T b (pJ S.g h d) (S.uT h+1)).1.Part b h∨(gu T b (pJ S.g h d) (S.uT h+1)).1.yQ b h d:=λj I=>by
   refine Xv (by rw[m];exact Oj) (by rw[C]) h8 (j:=j) ?_;have RV:(gu T b (pJ S.g h d) (S.uT h+1)).1.uT h=S.uT h:=by
    show ((gu T b (pJ S.g h d) (S.uT h+1)).1.g.bN h.len).toNat=(S.g.bN h.len).toNat;rw[m]
   rw[RV,m];exact I
  refine⟨l.trans K,D.trans R,λP=>M (G P).1,λU=>w4 (by rw[l.dQ];exact U), ?_⟩;rcases V with ⟨x,u,e,B,F,a6⟩ | a | ⟨x,u,e⟩
  ·refine .inl ⟨x,u,e,⟨by rw[m];exact Oj,by rw[C],h8,λp hp=> ?_⟩⟩;have RV:(gu T b (pJ S.g h d) (S.uT h+1)).1.uT h=S.uT h:=by
    show ((gu T b (pJ S.g h d) (S.uT h+1)).1.g.bN h.len).toNat=(S.g.bN h.len).toNat;rw[m]
   rw[RV] at hp;rw[F p ay,m,l.g]
  ·exact .inr (.inl a)
  ·refine .inr (.inr ⟨x,u, ?_⟩);rcases e with e | ⟨e,j,I⟩
   ·exact .inl e
   ·exact .inr ⟨e,.inr (dL j I)⟩
 ·have r:dI S num b aS d=S.bB b:=by unfold dI;rw[if_pos y]
  rw[r];refine⟨l,Jg,G,e3, ?_⟩;rcases H with h | (h | ⟨x,u,e⟩) | ⟨x,u,e,n,B,F⟩
  ·exact absurd h.1 y
  ·exact .inr (.inl h)
  ·refine .inr (.inr ⟨x,u, ?_⟩);rcases e with e | ⟨e,B,F⟩
   ·exact .inl e
   ·exact .inr ⟨by rw[e];exact hm,.inl ⟨B,F⟩⟩
  ·refine .inr (.inr ⟨x,u,.inr ⟨e, ?_⟩⟩);by_cases hn:0<n
   ·exact .inr (.inl (tJ (by rw[B];exact if_pos ⟨Z,Int.le_refl _,hn⟩)))
   ·have hd:∀(f:Int×Int→Option (List Int)),bD f b n=f:=λf=>by
     funext k;unfold bD;rw[if_neg (λh=>by omega)]
    exact .inl ⟨by rw[B,hd],by rw[F,hd]⟩
end aD
abbrev Hg:=Option (Hd×Bool×List Nat)
abbrev Lm:=Nat→Option (List Nat)
def Lm.put(m:Lm)(i:Nat)(v:Option (List Nat)):Lm:=λk=>if k=i then v else m k
theorem y9{α:Type}(l:List α)(j i:Nat)(v d:α):(l.set j v).getD i d=if i=j∧j<l.length then v else l.getD i d:=by grind
theorem xQ(l:List (List Int))(b:Int)(i:Nat):(l.map (gX b)).getD i []=gX b (l.getD i []):=by
 simp only[getD,getElem?_map];cases l[i]? <;>rfl
theorem qI:x∈gX b l↔x∈l∧x≠b:=by grind [gX]
theorem wU{α:Type}{l:List α}{d:α}(h:i<l.length):l.getD i d∈l:=by grind
namespace aD
def Stat(S:aD)(b:Int):Hg→Prop
 | none=>S.zL (b,0)
 | some (h,true,d)=>S.yQ b h d
 | some (h,false,_)=>S.Part b h
structure CI(S:aD)(st:Int→Hg):Prop where
 aU:S.g.aU
 len:(S.next.length:Int)=S.g.bl
 few:∀k,S.Zr k
 stat:∀b,0≤b→b<S.g.bl→S.marked b=false→S.Stat b (st b)
theorem zL.same{S S':aD}(hg:S'.g=S.g)(hp:S'.aX k=S.aX k)(h:S.zL k):S'.zL k:=λe a=>by
 rw[hp] at a;rw[hg];exact h e a
theorem Stat.same{S S':aD}(hg:S'.g=S.g)(hp:∀p,S'.aX (b,p)=S.aX (b,p)):∀ {s:Hg},S.Stat b s→S'.Stat b s
 | none,h=>zL.same hg (hp 0) h
 | some (h,true,d),⟨h1,h2,h3,h4⟩=>⟨by rw[hg];exact h1,h2,h3,λp BA=>by
  unfold uT at BA;rw[hg] at BA ⊢;rw[hp];exact h4 p BA⟩
 | some (h,false,d),⟨h1,h2,q,h3,h4⟩=>⟨by rw[hg];exact h1,by rw[hg,hp];exact h2,q,by unfold uT;rw[hg];exact h3,zL.same hg (hp q) h4⟩
theorem CI.step(h:CI S st)(hr:Rest b S S')(hw:Wr S S')(hs:∀k,k≠b→st' k=st k)(hx:S'.marked b=false→S'.Stat b (st' b)):CI S' st':=by
 refine⟨by rw[hr.g];exact h.aU,by rw[hr.len,hr.g];exact h.len,hw.few hr.g h.few,λc j l e=> ?_⟩;by_cases a:c=b
 ·subst a;exact hx e
 ·rw[hs c a];exact Stat.same hr.g (λp=>hr.aX (c,p) a) (h.stat c j (by rw[←hr.g];exact l) (by rw[←hr.marked c a];exact e))
structure Live(S:aD)(st:Int→Hg)(b:Int)(h:Hd)(d:List Nat):Prop where
 lo:0≤b
 hi:b<S.g.bl
 un:S.marked b=false
 st:st b=some (h,true,d)
theorem Live.back{st:Int→Hg}(hr:Rest b S S')(hs:∀k,k≠b→st' k=st k)(hc:c≠b)(hl:Live S' st' c h d):Live S st c h d :=
 ⟨hl.lo,by rw[←hr.g];exact hl.hi,by rw[←hr.marked c hc];exact hl.un,by rw[←hs c hc];exact hl.st⟩
theorem Live.on{st:Int→Hg}(hr:Rest b S S')(hs:∀k,k≠b→st' k=st k)(hc:c≠b)(hl:Live S st c h d):Live S' st' c h d :=
 ⟨hl.lo,by rw[hr.g];exact hl.hi,by rw[hr.marked c hc];exact hl.un,by rw[hs c hc];exact hl.st⟩
structure CM(aJ L:Nat)(S:aD)(st:Int→Hg)(m:Lm):Prop where
 ci:CI S st
 low:∀b h d,Live S st b h d→h.aS<L
 uniq:∀b c h h' d d',Live S st b h d→Live S st c h' d'→h.aS=h'.aS→h.num=h'.num→b=c
 none_:∀i,i<aJ→m i=none→∀b h d,Live S st b h d→h.aS≠(i:Nat)
 some_:∀i,i<aJ→∀v,m i=some v→∃b h,Live S st b h v∧h.aS=(i:Nat)∧∀c h' v',Live S st c h' v'→h'.aS=(i:Nat)→c≠b→h'.num<h.num
structure SI(aJ L B:Nat)(S:aD)(st:Int→Hg)(T:St)(m:Lm):Prop where
 ci:CI S st
 low:∀b h d,Live S st b h d→h.aS<L
 uniq:∀b c h h' d d',Live S st b h d→Live S st c h' d'→h.aS=h'.aS→h.num=h'.num→b=c
 dead:T.dead=false
 len:T.stands.length=aJ
 Yl:T.cu.length=aJ
 at_:0≤T.at_∧T.at_<S.g.bl
 next:1≤T.next
 num:∀b,0≤b→b<S.g.bl→S.marked b=false→∀h w d,st b=some (h,w,d)→h.num<T.next
 Y9:∀l∈T.cu,l.length≤B
 none_:∀i,i<aJ→m i=none→T.stands.getD i 0= -1∧∀b h d,Live S st b h d→h.aS≠(i:Nat)
 some_:∀i,i<aJ→∀v,m i=some v→∃h,Live S st (T.stands.getD i 0) h v∧h.aS=(i:Nat)∧∀c h' v',Live S st c h' v'→h'.aS=(i:Nat)→c≠T.stands.getD i 0→h'.num<h.num∧c∈T.cu.getD i []
 WY:∀i,i<aJ→∀x∈T.cu.getD i [],0≤x∧x<S.g.bl∧x∉T.stands
theorem SI.cm(h:SI aJ L B S st T m):CM aJ L S st m :=
 ⟨h.ci,h.low,h.uniq,λi a hm=>(h.none_ i a hm).2,λi a v hm=>by
  obtain⟨hd,e,j,l⟩:=h.some_ i a v hm;exact⟨_,hd,e,j,λc n k u r x=>(l c n k u r x).1⟩⟩
theorem SI.Y6(hI:SI aJ L B S st T m)(hi:i<aJ)(hb:b∉T.stands):T.stands.getD i 0≠b:=λe=>hb (by rw[←e];exact wU (by rw[hI.len];exact hi))
theorem CM.gone(hI:SI aJ L B S st T m)(hr:Rest b S S')(hw:Wr S S')(hs:∀k,k≠b→st' k=st k)(hx:S'.marked b=false→S'.Stat b (st' b))(hn:∀h d,¬Live S' st' b h d)(hb:b∉T.stands):CM aJ L S' st' m:=by
 have pq:∀ {c h d},Live S' st' c h d→c≠b:=λh e=>hn _ _ (e ▸ h);refine⟨hI.ci.step hr hw hs hx,λc h d a=>hI.low c h d (a.back hr hs (pq a)),λc u h r d F j l=>hI.uniq c u h r d F (j.back hr hs (pq j)) (l.back hr hs (pq l)),λi n hm c h d a=>(hI.none_ i n hm).2 c h d (a.back hr hs (pq a)),λi n v hm=> ?_⟩;obtain⟨h,x,y,G⟩:=hI.some_ i n v hm;exact⟨_,h,x.on hr hs (hI.Y6 n hb),y,λc r C j l D=>(G c r C (j.back hr hs (pq j)) l D).1⟩
theorem SI.fail(hI:SI aJ L B S st T m)(hr:Rest b S S')(hw:Wr S S')(hm:S'.marked b=true)(hb:b∉T.stands)(hn:T.next≤n):SI aJ L B S' st { T.forget b with next:=n } m:=by
 have k:=CM.gone (st':=st) hI hr hw (λ_ _=>Z) (λh=>by rw[hm] at h;cases h) (λh d y=>by have :=y.un;rw[hm] at this;cases this) hb;have pq:∀ {c h d},Live S' st c h d→c≠b:=λh e=>by have :=h.un;rw[e,hm] at this;cases this
 have C:∀ {c h d},Live S' st c h d→Live S st c h d:=λh=>h.back hr (λ_ _=>Z) (pq h);refine⟨k.ci,k.low,k.uniq,hI.dead,hI.len,by show (T.cu.map _).length=_;rw[length_map];exact hI.Yl,by rw[hr.g];exact hI.at_,by show 1≤n;have :=hI.next;omega,λc r u j h w d hs=> ?_,λl y=> ?_,λi a zM=>⟨(hI.none_ i a zM).1,k.none_ i a zM⟩,λi a v zM=> ?_,λi a x K=> ?_⟩
 ·by_cases FR:c=b
  ·subst FR;rw[hm] at j;cases j
  ·have :=hI.num c r (by rw[←hr.g];exact u) (by rw[←hr.marked c FR];exact j) h w d hs;show h.num<n;omega
 ·obtain⟨M,Dp,rfl⟩:=mem_map.1 y;exact Nat.le_trans (length_filter_le _ _) (hI.Y9 M Dp)
 ·obtain⟨h,r,u,j⟩:=hI.some_ i a v zM;refine⟨h,r.on hr (λ_ _=>Z) (hI.Y6 a hb),u,λc H F D I J=> ?_⟩;obtain⟨G,N⟩:=j c H F (C D) I J;refine⟨G, ?_⟩;show c∈(T.cu.map (gX b)).getD i [];rw[xQ];exact qI.2 ⟨N,pq D⟩
 ·have Wz:x∈(T.cu.map (gX b)).getD i []:=K;rw[xQ] at Wz;have :=hI.WY i a x (qI.1 Wz).1;rw[hr.g];exact this
theorem CM.put{st':Int→Hg}(hI:SI aJ L B S st T m)(hr:Rest b S S')(hw:Wr S S')(hs:∀k,k≠b→st' k=st k)(dL:st' b=some (h,true,d))(hH:S'.yQ b h d)(hb:b∉T.stands)(BG:0≤b∧b<S.g.bl)(hum:S'.marked b=false)
 (wR:i0<aJ) (hL:i0<L) (J7:h.aS=(i0:Nat)) (NC:h.num=T.next):CM aJ L S' st' (m.put i0 (some d)):=by
 have J:Live S' st' b h d:=⟨BG.1,by rw[hr.g];exact BG.2,hum,dL⟩;have j:∀ {e y},Live S' st' b e y→e=h:=λn=>by
  have :=n.st;rw[dL] at this;injection this with this
  injection this with H _
  exact H.symm
 have o7:∀ {c e y},Live S' st' c e y→c≠b→e.num<T.next:=λn a=>by
  have r:=n.back hr hs a;exact hI.num _ r.lo r.hi r.un _ _ _ r.st
 refine⟨hI.ci.step hr hw hs (λ_=>by rw[dL];exact hH),λc e y n=> ?_,λc D r F O M u x H G=> ?_,λi C hm c e y n=> ?_,λi C v hm=> ?_⟩
 ·by_cases a:c=b
  ·subst a;rw[j n,J7];omega
  ·exact hI.low c e y (n.back hr hs a)
 ·by_cases a:c=b
  ·by_cases l:D=b
   ·rw[a,l]
   ·subst a;have :=o7 x l;rw[j u] at G;omega
  ·by_cases l:D=b
   ·subst l;have :=o7 u a;rw[j x] at G;omega
   ·exact hI.uniq c D r F O M (u.back hr hs a) (x.back hr hs l) H G
 ·by_cases tq:i=i0
  ·unfold Lm.put at hm;rw[if_pos tq] at hm;cases hm
  ·unfold Lm.put at hm;rw[if_neg tq] at hm;by_cases a:c=b
   ·subst a;rw[j n,J7];omega
   ·exact (hI.none_ i C hm).2 c e y (n.back hr hs a)
 ·by_cases tq:i=i0
  ·unfold Lm.put at hm;rw[if_pos tq] at hm;injection hm with hm
   subst hm;refine⟨b,h,J,by rw[J7,tq],λc e K u x I=> ?_⟩;rw[NC];exact o7 u I
  ·unfold Lm.put at hm;rw[if_neg tq] at hm;obtain⟨hd,r,F,N⟩:=hI.some_ i C v hm;refine⟨_,hd,r.on hr hs (hI.Y6 C hb),F,λc e K u x I=> ?_⟩;by_cases a:c=b
   ·subst a;rw[j u,J7] at x;omega
   ·exact (N c e K (u.back hr hs a) x I).1
theorem SI.put{st':Int→Hg}(hI:SI aJ L B S st T m)(hr:Rest b S S')(hw:Wr S S')(hs:∀k,k≠b→st' k=st k)(dL:st' b=some (h,true,d))(hH:S'.yQ b h d)(hb:b∉T.stands)(BG:0≤b∧b<S.g.bl)(hum:S'.marked b=false)
 (wR:i0<aJ) (hL:i0<L) (J7:h.aS=(i0:Nat)) (NC:h.num=T.next):SI aJ L (B+1) S' st' (((T.forget b).mark (i0:Int)).done (i0:Int) b S.g.bl) (m.put i0 (some d)):=by
 have U:=CM.put hI hr hw hs dL hH hb BG hum wR hL J7 NC;have x2:∀ {y d'},Live S' st' b y d'→y=h:=λX=>by
  have :=X.st;rw[dL] at this;injection this with this
  injection this with u _
  exact u.symm
 obtain⟨C,oZ⟩:∃C,C=T.forget b:=⟨_,Z⟩;have s1:C.stands=T.stands:=by rw[oZ];rfl
 have t1:∀i,C.cu.getD i []=gX b (T.cu.getD i []):=λi=>by rw[oZ];exact xQ _ _ _
 have W:C.cu.length=aJ:=by rw[oZ];show (T.cu.map _).length=_;rw[length_map];exact hI.Yl
 have o:C.lF (i0:Int)=T.stands.getD i0 0:=by unfold St.lF;rw[s1,Int.toNat_natCast]
 rw[←oZ];obtain⟨n,BH⟩:∃n,n=C.mark (i0:Int):=⟨_,Z⟩;have s2:n.stands=T.stands:=by rw[BH];unfold St.mark;split<;>exact s1
 have d2:n.dead=false:=by rw[BH];unfold St.mark;split<;>(rw[oZ];exact hI.dead)
 have n2:n.next=T.next:=by rw[BH];unfold St.mark;split<;>(rw[oZ];rfl)
 have l2:n.cu.length=aJ:=by
  rw[BH];unfold St.mark;split
  ·show (C.cu.set _ _).length=_;rw[length_set];exact W
  ·exact W
 have t2:∀i,n.cu.getD i []=if i=i0∧0≤T.stands.getD i0 0 then gX b (T.cu.getD i [])++[T.stands.getD i0 0] else gX b (T.cu.getD i []):=λi=>by
  rw[BH];unfold St.mark;rw[o];split
  ·rename_i D;show (C.cu.set (i0:Int).toNat (C.cu.getD (i0:Int).toNat []++[T.stands.getD i0 0])).getD i []=_;rw[Int.toNat_natCast,y9,W,t1,t1];by_cases a:i=i0
   ·subst a;rw[if_pos ⟨Z,wR⟩,if_pos ⟨Z,D⟩]
   ·rw[if_neg (λh=>a h.1),if_neg (λh=>a h.1)]
  ·rename_i D;rw[t1,if_neg (λh=>D h.2)]
 rw[←BH];have Y:∀i,(n.done (i0:Int) b S.g.bl).stands.getD i 0=if i=i0 then b else T.stands.getD i 0:=λi=>by
  show (n.stands.set (i0:Int).toNat b).getD i 0=_;rw[Int.toNat_natCast,y9,s2,hI.len];by_cases a:i=i0
  ·rw[if_pos ⟨a,wR⟩,if_pos a]
  ·rw[if_neg (λh=>a h.1),if_neg a]
 have uH:∀x,x∈(n.done (i0:Int) b S.g.bl).stands→x=b∨∃i,i<aJ∧i≠i0∧x=T.stands.getD i 0:=λx hx=>by
  obtain⟨i,a,e⟩:=getElem_of_mem hx;have GQ:i<aJ:=by
   have N:i<(n.stands.set (i0:Int).toNat b).length:=a;rw[length_set,s2,hI.len] at N;exact N
  have G:(n.done (i0:Int) b S.g.bl).stands.getD i 0=x:=by simp only[getD,getElem?_eq_getElem a,Option.getD_some];exact e
  rw[Y] at G;by_cases D:i=i0
  ·rw[if_pos D] at G;exact .inl G.symm
  ·rw[if_neg D] at G;exact .inr ⟨i,GQ,D,G.symm⟩
 have aaj:∀i j,i<aJ→j<aJ→i≠j→0≤T.stands.getD i 0→T.stands.getD i 0≠T.stands.getD j 0:=λi j a K ZI D e=>by
  cases uX:m i with
  | none=>have :=(hI.none_ i a uX).1;omega
  | some v =>
   cases hmj:m j with
   | none=>have :=(hI.none_ j K hmj).1;omega
   | some I =>
    obtain⟨N,M,H,_⟩:=hI.some_ i a v uX;obtain⟨h2,F,R,_⟩:=hI.some_ j K I hmj;have u:=M.st;rw[e,F.st] at u;injection u with u
    injection u with u _
    rw[←u,R] at H;omega
 have uJ:=hI.ci.aU;unfold bQ.aU at uJ;refine⟨U.ci,U.low,U.uniq,d2, ?_,l2, ?_, ?_,λc N h2 h3 y w d' Zp=> ?_,λl X=> ?_,λi a zM=>⟨?_,U.none_ i a zM⟩,λi a v zM=> ?_,λi a x hx=> ?_⟩
 ·show (n.stands.set _ _).length=_;rw[length_set,s2,hI.len]
 ·rw[hr.g];exact⟨Int.emod_nonneg _ ay,Int.emod_lt_of_pos _ ay⟩
 ·show 1≤n.next+1;rw[n2];have :=hI.next;omega
 ·show y.num<n.next+1;rw[n2];by_cases FR:c=b
  ·subst FR;rw[dL] at Zp;injection Zp with Zp
   injection Zp with u _
   rw[←u,NC];omega
  ·have :=hI.num c N (by rw[←hr.g];exact h2) (by rw[←hr.marked c FR];exact h3) y w d' (by rw[←hs c FR];exact Zp);omega
 ·have Dp:l∈n.cu:=X;obtain⟨i,a,e⟩:=getElem_of_mem Dp;have G:n.cu.getD i []=l:=by simp only[getD,getElem?_eq_getElem a,Option.getD_some];exact e
  have V:(gX b (T.cu.getD i [])).length≤B:=Nat.le_trans (length_filter_le _ _) (hI.Y9 _ (wU (by rw[hI.Yl];omega)));rw[←G,t2];split
  ·rw[length_append];simp only[length_singleton];omega
  ·omega
 ·rw[Y];by_cases tq:i=i0
  ·unfold Lm.put at zM;rw[if_pos tq] at zM;cases zM
  ·rw[if_neg tq];unfold Lm.put at zM;rw[if_neg tq] at zM;exact (hI.none_ i a zM).1
 ·rw[Y];by_cases tq:i=i0
  ·subst tq;unfold Lm.put at zM;rw[if_pos Z] at zM;injection zM with zM
   subst zM;rw[if_pos Z];refine⟨h,⟨BG.1,by rw[hr.g];exact BG.2,hum,dL⟩,J7,λc y I M H Q=> ?_⟩;have J:=M.back hr hs Q;refine⟨by rw[NC];exact hI.num _ J.lo J.hi J.un _ _ _ J.st, ?_⟩;show c∈n.cu.getD i [];rw[t2];cases uX:m i with
   | none=>exact absurd H ((hI.none_ i a uX).2 c y I J)
   | some v =>
    obtain⟨hd,F,R,q3⟩:=hI.some_ i a v uX;rw[if_pos ⟨Z,F.lo⟩];by_cases P:c=T.stands.getD i 0
    ·exact mem_append_right _ (mem_singleton.2 P)
    ·exact mem_append_left _ (qI.2 ⟨(q3 c y I J H P).2,Q⟩)
  ·rw[if_neg tq];unfold Lm.put at zM;rw[if_neg tq] at zM;obtain⟨hd,F,R,q3⟩:=hI.some_ i a v zM;refine⟨hd,F.on hr hs (hI.Y6 a hb),R,λc y I M H Q=> ?_⟩;have FR:c≠b:=λe=>by subst e;rw[x2 M,J7] at H;omega
   obtain⟨q4,q5⟩:=q3 c y I (M.back hr hs FR) H Q;refine⟨q4, ?_⟩;show c∈n.cu.getD i [];rw[t2,if_neg (λh=>tq h.1)];exact qI.2 ⟨q5,FR⟩
 ·have Wz:x∈n.cu.getD i []:=hx;rw[t2] at Wz;rw[hr.g];have YZ:x∈gX b (T.cu.getD i [])→0≤x∧x<S.g.bl∧x∉(n.done (i0:Int) b S.g.bl).stands:=λV=>by
   obtain⟨O,h6⟩:=qI.1 V;obtain⟨h7,h8,h9⟩:=hI.WY i a x O;refine⟨h7,h8,λRJ=> ?_⟩;rcases uH x RJ with r | ⟨j,K,_,r⟩
   ·exact h6 r
   ·exact h9 (by rw[r];exact wU (by rw[hI.len];exact K))
  split at Wz
  ·rename_i V;rcases mem_append.1 Wz with O | O
   ·exact YZ O
   ·have h6:=mem_singleton.1 O;subst h6;cases uX:m i0 with
    | none=>have :=(hI.none_ i0 wR uX).1;omega
    | some v =>
     obtain⟨hd,F,_,_⟩:=hI.some_ i0 wR v uX;refine⟨F.lo,F.hi,λRJ=> ?_⟩;rcases uH _ RJ with r | ⟨j,K,x0,r⟩
     ·exact hI.Y6 wR hb r
     ·exact aaj i0 j wR K (λe=>x0 e.symm) V.2 r
  ·exact YZ Wz
end aD
namespace aD
def Td(S:aD)(st:Int→Hg)(N:Int):Prop:=∀b,0≤b→b<S.g.bl→S.marked b=false→∀h w d,st b=some (h,w,d)→h.num<N
theorem Td.mono(h:Td S st N)(hn:N≤N'):Td S st N':=λb a e j hd w d hs=>by have :=h b a e j hd w d hs;omega
theorem SI.ready(hI:SI aJ L B S st T m)(hi:i<aJ):T.ready (i:Int)=0:=by
 unfold St.ready;rw[hI.dead,if_neg Bool.false_ne_true,hI.len,if_neg ay]
theorem SI.lF(hI:SI aJ L B S st T m)(i:Nat):T.lF (i:Int)=T.stands.getD i 0:=by unfold St.lF;rw[Int.toNat_natCast]
theorem SI.yZ(hI:SI aJ L B S st T m)(hi:i<aJ)(hm:m i=none):dZ S T (i:Int)=(⟨5,[],0⟩,T)∧T.lF (i:Int)<0:=by
 have e:=(hI.none_ i hi hm).1;have a:T.lF (i:Int)<0:=by rw[hI.lF,e];decide
 refine⟨?_,a⟩;unfold dZ;rw[hI.ready hi,if_neg (λh=>h Z),if_pos a]
theorem SI.Ep(hI:SI aJ L B S st T m)(hu:S.up=true)(hi:i<aJ)(hm:m i=some v):(∃N:Nat,((∀k,S.bM k=none)→N=0)∧dZ S T (i:Int)=(⟨0,v,N⟩,T))∧0≤T.lF (i:Int):=by
 obtain⟨h,a,n,r⟩:=hI.some_ i hi v hm;have dL:=hI.ci.stat _ a.lo a.hi a.un;rw[a.st] at dL;obtain⟨N,j,l⟩:=read_holds hI.ci.aU hu ⟨a.lo,a.hi⟩ a.un (λp=>hI.ci.few _) (hI.ready hi) (hI.lF i) dL;exact⟨⟨N,λe=>j (λp=>e _),l⟩,by rw[hI.lF];exact a.lo⟩
theorem agO{g:bQ}{d:List Nat}(hd:(d.length:Int)≤g.cap)(hi:i0<64)(hn:1≤n∧n≤1000000000):Hd.may g ⟨(i0:Nat),(d.length:Nat),n⟩=true:=by
 unfold Hd.may bQ.fits;simp only[Bool.and_eq_true,decide_eq_true_eq];exact⟨⟨⟨⟨⟨by omega,hd⟩,by omega⟩,by omega⟩,hn.1⟩,hn.2⟩
theorem PO(wR:i0<aJ)(hL:i0<L)(Wt:i0<64)(h8:aA 256 d):∀(cs:List Int) (S:aD) (T:St),SI aJ L B S st T m→S.up=true→(d.length:Int)≤S.g.cap→cs.Nodup→(∀b∈cs,0≤b∧b<S.g.bl∧S.marked b=false∧b∉T.stands)→T.next+cs.length≤1000000000 →
 (jy (i0:Int) d cs S T).1.g=S.g∧(jy (i0:Int) d cs S T).1.dQ=S.dQ∧Wr S (jy (i0:Int) d cs S T).1∧(S.left=0→(jy (i0:Int) d cs S T).1.left=0∧(jy (i0:Int) d cs S T).2.2≠some 70)∧(jy (i0:Int) d cs S T).2.1.next≤T.next+cs.length+1 ∧
 ((jy (i0:Int) d cs S T).2.2≠some 70→∀c,(jy (i0:Int) d cs S T).1.marked c=true→S.marked c=true∨S.dQ c=true) ∧
 (((jy (i0:Int) d cs S T).2.2=none∧(jy (i0:Int) d cs S T).1.up=true∧SI aJ L B (jy (i0:Int) d cs S T).1 st (jy (i0:Int) d cs S T).2.1 m∧∀b∈cs,S.dQ b=true) ∨
  ((jy (i0:Int) d cs S T).2.2=some 0∧(jy (i0:Int) d cs S T).1.up=true∧∃st',SI aJ L (B+1) (jy (i0:Int) d cs S T).1 st' (jy (i0:Int) d cs S T).2.1 (m.put i0 (some d))) ∨
  ((jy (i0:Int) d cs S T).2.2=some 70∧(jy (i0:Int) d cs S T).1.up=false∧∃st',Td (jy (i0:Int) d cs S T).1 st' (T.next+cs.length+1)∧(CM aJ L (jy (i0:Int) d cs S T).1 st' m∨CM aJ L (jy (i0:Int) d cs S T).1 st' (m.put i0 (some d)))))
 | [],S,T,hI,hu,hd,vZ,qX,Zk=>⟨Z,Z,Wr.refl S,λh=>⟨h,by intro h;cases h⟩,by show T.next≤T.next+(0:Nat)+1;omega,λ_ c h=> .inl h,.inl ⟨Z,hu,hI,λb hb=>by cases hb⟩⟩
 | b::bs,S,T,hI,hu,hd,vZ,qX,Zk=>by
  obtain⟨EA,oH,hb3,hb4⟩:=qX b (.head _);have x2:=hI.next;rw[length_cons] at Zk ⊢;obtain⟨j,F,P,w4,w5⟩:=Ta (num:=T.next) (aS:=(i0:Int)) hI.ci.aU hu ⟨EA,oH⟩ hb3 hI.ci.len h8 (agO hd Wt ay);obtain⟨W,hW⟩:∃W,W=dI S T.next b (i0:Int) d:=⟨_,Z⟩;rw[←hW] at j F P w4 w5;have aQ:Eb (i0:Int) d S T b=if W.2=72 then (W.1,{ T.forget b with next:=min (T.next+1) 1000000001 },if 1000000000<min (T.next+1) 1000000001 then some 6 else none) else if W.2≠0 then (W.1,(T.forget b).told W.2,some W.2) else (W.1,((T.forget b).mark (i0:Int)).done (i0:Int) b S.g.bl,some 0):=by
   unfold Eb;rw[←hW]
  have O:W.1.marked b=false∨W.2=72→∀c,W.1.marked c=true→S.marked c=true∨S.dQ c=true:=λh c l=>by
   by_cases FR:c=b
   ·subst FR;rcases h with h | h
    ·rw[h] at l;cases l
    ·cases hwk:S.dQ c with
     | true=>exact .inr Z
     | false=>exact absurd h (w4 hwk)
   ·rw[j.marked c FR] at l;exact .inl l
  rcases w5 with ⟨D,N,x,C⟩ | ⟨D,N,x⟩ | ⟨D,N,x⟩
  ·have J:jy (i0:Int) d (b::bs) S T=(W.1,((T.forget b).mark (i0:Int)).done (i0:Int) b S.g.bl,some 0):=by
    have bA:Eb (i0:Int) d S T b=(W.1,((T.forget b).mark (i0:Int)).done (i0:Int) b S.g.bl,some 0):=by
     rw[aQ,if_neg (show ¬W.2=72 by rw[D];exact Fh),if_neg (show ¬W.2≠0 from λh=>h D)]
    rw[jy,bA,if_neg (by intro h;cases h)]
   rw[J];obtain⟨st',acL⟩:∃st':Int→Hg,st'=λk=>if k=b then some (⟨(i0:Nat),(d.length:Nat),T.next⟩,true,d) else st k:=⟨_,Z⟩
   refine⟨j.g,j.dQ,F,λh=>⟨(P h).1,by intro h;cases h⟩, ?_,λ_=>O (.inl x),.inr (.inl ⟨rfl,N,st', ?_⟩)⟩
   ·have :(((T.forget b).mark (i0:Int)).done (i0:Int) b S.g.bl).next=T.next+1:=by
     show ((T.forget b).mark (i0:Int)).next+1=_;unfold St.mark;split<;>rfl
    show (((T.forget b).mark (i0:Int)).done (i0:Int) b S.g.bl).next≤_;omega
   ·exact hI.put j F (λk r=>by rw[acL];exact if_neg r) (by rw[acL];exact if_pos Z) C hb4 ⟨EA,oH⟩ x wR hL Z Z
  ·have Y:min (T.next+1) 1000000001=T.next+1:=by omega
   have J:jy (i0:Int) d (b::bs) S T=jy (i0:Int) d bs W.1 { T.forget b with next:=T.next+1 }:=by
    have bA:Eb (i0:Int) d S T b=(W.1,{ T.forget b with next:=T.next+1 },none):=by
     rw[aQ,if_pos D,Y,if_neg (show ¬1000000000<T.next+1 by omega)]
    rw[jy,bA,if_pos Z]
   rw[J];have U:=hI.fail j F x hb4 (n:=T.next+1) ay;have abR:=nodup_cons.1 vZ;obtain⟨r1,r2,r3,r4,r5,r6,r7⟩:=PO wR hL Wt h8 bs W.1 { T.forget b with next:=T.next+1 } U N (by rw[j.g];exact hd) abR.2 (λc l=>by
    obtain⟨H,G,I,k4⟩:=qX c (.tail _ l);exact⟨H,by rw[j.g];exact G,by rw[j.marked c (λe=>abR.1 (by rw[←e];exact l))];exact I,k4⟩) (by show T.next+1+_≤_;omega)
   have x3:(jy (i0:Int) d bs W.1 { T.forget b with next:=T.next+1 }).2.1.next≤T.next+1+(bs.length:Int)+1:=r5;refine⟨r1.trans j.g,r2.trans j.dQ,F.trans r3,λh=>r4 (P h).1,by omega,λh c l=> ?_, ?_⟩
   ·rcases r6 h c l with a | a
    ·exact O (.inr D) c a
    ·rw[j.dQ] at a;exact .inr a
   ·rcases r7 with ⟨q1,X,q3,R⟩ | q | q
    ·refine .inl ⟨q1,X,q3,λc l=> ?_⟩;rcases mem_cons.1 l with rfl | l
     ·cases hwk:S.dQ c with
      | true=>rfl
      | false=>exact absurd D (w4 hwk)
     ·have :=R c l;rw[j.dQ] at this;exact this
    ·exact .inr (.inl q)
    ·obtain⟨q1,X,st',q3,R⟩:=q;exact .inr (.inr ⟨q1,X,st',q3.mono (by show T.next+1+(bs.length:Int)+1≤_;omega),R⟩)
  ·have J:jy (i0:Int) d (b::bs) S T=(W.1,(T.forget b).told W.2,some 70):=by
    have bA:Eb (i0:Int) d S T b=(W.1,(T.forget b).told W.2,some 70):=by
     rw[aQ,if_neg (show ¬W.2=72 by rw[D];exact AY),if_pos (show W.2≠0 by rw[D];decide),D]
    rw[jy,bA,if_neg (by intro h;cases h)]
   rw[J];refine⟨j.g,j.dQ,F,λh=>absurd D (P h).2,by show T.next≤_;omega,λh=>absurd Z h,.inr (.inr ⟨Z,N, ?_⟩)⟩;have gone:∀st':Int→Hg,(∀k,k≠b→st' k=st k)→(W.1.marked b=false→W.1.Stat b (st' b))→(∀h d,¬Live W.1 st' b h d)→CM aJ L W.1 st' m:=λst' a M V=>CM.gone hI j F a M V hb4;have K:∀st':Int→Hg,(∀k,k≠b→st' k=st k)→(∀h w d,W.1.marked b=false→st' b=some (h,w,d)→h.num≤T.next)→Td W.1 st' (T.next+((bs.length+1:Nat):Int)+1):=λst' a M c H G I h w d hs=>by
    by_cases l:c=b
    ·subst l;have :=M h w d I hs;omega
    ·have :=hI.num c H (by rw[←j.g];exact G) (by rw[←j.marked c l];exact I) h w d (by rw[←a c l];exact hs);omega
   rcases x with x | ⟨x,C⟩
   ·exact⟨st,K st (λ_ _=>Z) (λh w d a=>by rw[x] at a;cases a),.inl (gone st (λ_ _=>rfl) (λh=>by rw[x] at h;cases h) (λh d u=>by have :=u.un;rw[x] at this;cases this))⟩
   ·rcases C with ⟨C,a5⟩ | C | C | C
    ·refine⟨st,K st (λ_ _=>Z) (λh w d _ a=>by have :=hI.num b EA oH hb3 h w d a;omega),.inl ?_⟩;have Dt:∀p,W.1.aX (b,p)=S.aX (b,p):=λp=>by rw[C]
     have x0:=hI.ci.step j F (st':=st) (λ_ _=>Z) (λ_=>Stat.same j.g Dt (hI.ci.stat b EA oH hb3));have y:∀ {c h d},Live W.1 st c h d→Live S st c h d:=λ{c h d} u=>by
      by_cases FR:c=b
      ·subst FR;exact⟨EA,oH,hb3,u.st⟩
      ·exact u.back j (λ_ _=>Z) FR
     refine⟨x0,λc h d u=>hI.low c h d (y u),λc c' h h' d d' H G=>hI.uniq c c' h h' d d' (y H) (y G),λi Q hm c h d u=>(hI.none_ i Q hm).2 c h d (y u),λi Q v hm=> ?_⟩;obtain⟨h,a,M,V⟩:=hI.some_ i Q v hm;exact⟨_,h,a.on j (λ_ _=>Z) (hI.Y6 Q hb4),M,λc h' v' H G I=>(V c h' v' (y H) G I).1⟩
    ·refine⟨λk=>if k=b then none else st k,K _ (λk r=>if_neg r) (λh w d _ a=>by rw[if_pos Z] at a;cases a),.inl (gone _ (λk r=>if_neg r) (λ_=> ?_) (λh d u=> ?_))⟩
     ·rw[if_pos Z];exact C
     ·have :=u.st;rw[if_pos Z] at this;cases this
    ·refine⟨λk=>if k=b then some (⟨(i0:Nat),(d.length:Nat),T.next⟩,false,d) else st k,K _ (λk r=>if_neg r) (λh w d _ a=>by rw[if_pos Z] at a;injection a with a;injection a with a _;rw[←a];exact Int.le_refl _),.inl (gone _ (λk r=>if_neg r) (λ_=> ?_) (λh d u=> ?_))⟩
     ·rw[if_pos Z];exact C
     ·have :=u.st;rw[if_pos Z] at this;injection this with this
      injection this with _ this
      injection this with this _
      cases this
    ·exact⟨λk=>if k=b then some (⟨(i0:Nat),(d.length:Nat),T.next⟩,true,d) else st k,K _ (λk r=>if_neg r) (λh w d _ a=>by rw[if_pos Z] at a;injection a with a;injection a with a _;rw[←a];exact Int.le_refl _),.inr (CM.put hI j F (λk r=>if_neg r) (if_pos Z) C hb4 ⟨EA,oH⟩ x wR hL Z Z)⟩
end aD
theorem PS(x y:Int):uw x y<0↔x<y:=by grind [uw]
theorem IG(x y:Fd):qK x y<0↔x.hd.num<y.hd.num∨(x.hd.num=y.hd.num∧y.block<x.block):=by
 have j:=PS x.hd.num y.hd.num;have a:=PS y.block x.block;unfold qK orI;by_cases h:uw x.hd.num y.hd.num=0
 ·rw[if_neg (λk=>k h),a];have :x.hd.num=y.hd.num:=by
   unfold uw at h;split at h
   ·exact absurd h aN
   ·split at h
    ·exact absurd h aN
    ·omega
  omega
 ·rw[if_pos h,j];have :x.hd.num≠y.hd.num:=λe=>h (by unfold uw;rw[e];simp);omega
theorem Sk(ys:List Fd):(eP (jU qK) ys).Pairwise (λa b=>jU qK b a=false):=by
 refine Ns (λa b c e j=> ?_) (λa b h=> ?_) ys
 ·unfold jU at *
  rw[decide_eq_false_iff_not,IG] at *
  omega
 ·unfold jU at *
  rw[decide_eq_true_eq] at h;rw[decide_eq_false_iff_not];rw[IG] at *
  omega
theorem Oz:∀k,k<fs.length→∀j,j≤k→(fs.getD j JF).hd.num≤(xD Kr fs k).hd.num
 | 0,_,j,hj=>by
  rw[show j=0 by omega];exact Int.le_refl _
 | k+1,hk,j,hj=>by
  have ih:=λi l=>Oz (fs:=fs) k ay i l;have Zi:∀x y:Fd,0<Kr x y↔y.hd.num<x.hd.num:=λx y=>by
   unfold Kr uw;split
   ·simp;omega
   ·split<;>simp<;>omega
  rw[xD];by_cases e:0<Kr (fs.getD (k+1) JF) (xD Kr fs k)
  ·rw[if_pos e];have :=(Zi _ _).1 e;by_cases a:j=k+1
   ·rw[a];exact Int.le_refl _
   ·have :=ih j ay;omega
  ·rw[if_neg e];have m:¬(xD Kr fs k).hd.num<(fs.getD (k+1) JF).hd.num:=λh=>e ((Zi _ _).2 h);by_cases a:j=k+1
   ·rw[a];omega
   ·exact ih j ay
theorem aaJ:∀x∈fs,x.hd.num<pE fs:=λx e=>by
 obtain⟨j,a,rfl⟩:=getElem_of_mem e;have :=Oz (fs:=fs) (fs.length-1) ay j ay;unfold pE;rw[if_neg ay];simp only[getD,getElem?_eq_getElem a,Option.getD_some] at this;omega
namespace aD
theorem uV{S:aD}(hu:S.up=true):∀(k:Nat) (b:Int),b∈S.fM k↔0≤b∧b<(k:Int)∧S.marked b=false
 | 0,b=>by
  simp[fM];omega
 | k+1,b=>by
  have ih:=uV hu k b;have hb:S.bad (k:Int)=S.marked (k:Int):=by unfold bad;rw[hu];rfl
  rw[fM,hu,hb];cases hm:S.marked (k:Int) with
  | true =>
   rw[if_neg aN,ih];constructor
   ·rintro⟨j,l,a⟩;exact⟨j,by omega,a⟩
   ·rintro⟨j,l,a⟩;refine⟨j, ?_,a⟩;have :b≠(k:Int):=λe=>by rw[e,hm] at a;cases a
    omega
  | false =>
   rw[if_pos aN,mem_append,ih,mem_singleton];constructor
   ·rintro (⟨j,l,a⟩ | rfl)
    ·exact⟨j,by omega,a⟩
    ·exact⟨by omega,by omega,hm⟩
   ·rintro⟨j,l,a⟩;by_cases e:b=(k:Int)
    ·exact .inr e
    ·exact .inl ⟨j,by omega,a⟩
theorem sH(S:aD):∀k,(S.fM k).Pairwise (· < ·)
 | 0=>Pairwise.nil
 | k+1=>by
  rw[fM];split
  ·refine pairwise_append.2 ⟨sH S k,pairwise_singleton _ _,λa ha b hb=> ?_⟩;rw[mem_singleton.1 hb];exact (qB S k a ha).2.1
  ·exact sH S k
theorem Ih(hc:CI S st)(hu:S.up=true)(h0:0≤b)(h1:b<S.g.bl)(hm:S.marked b=false):S.ko b=(st b).map λx=>⟨b,x.1,x.2.1⟩:=by
 have a:=hc.stat b h0 h1 hm;have hf:∀p:Nat,S.Zr (b,(p:Int)):=λp=>hc.few _;cases hs:st b with
 | none=>rw[hs] at a;exact XM hc.aU hf a
 | some x =>
  obtain⟨h,w,d⟩:=x;rw[hs] at a;cases w with
  | true=>exact scan_holds hc.aU hu ⟨h0,h1⟩ hm hf a
  | false=>exact Xp hc.aU hu ⟨h0,h1⟩ hm hf a
theorem Ia(hc:CI S st)(hu:S.up=true)(x:Fd):x∈S.dV↔0≤x.block∧x.block<S.g.bl∧S.marked x.block=false∧∃d,st x.block=some (x.hd,x.whole,d):=by
 have uJ:=hc.aU;unfold bQ.aU at uJ;unfold dV dW;rw[mem_filterMap];constructor
 ·rintro⟨b,hb,hs⟩;obtain⟨a,j,e⟩:=(uV hu _ _).1 hb;rw[Ih hc hu a ay e] at hs;cases dL:st b with
  | none=>rw[dL] at hs;cases hs
  | some y =>
   rw[dL] at hs;injection hs with hs
   subst hs;exact⟨a,by show b<_;omega,e,y.2.2,dL⟩
 ·rintro⟨a,j,e,d,dL⟩;refine⟨x.block,(uV hu _ _).2 ⟨a,by omega,e⟩, ?_⟩;rw[Ih hc hu a j e,dL];rfl
theorem SB(hc:CI S st)(hu:S.up=true):S.dV.Nodup:=by
 have j:S.dV.Pairwise (λx y=>x.block<y.block):=by
  unfold dV;rw[pairwise_filterMap];refine (sH S _).imp (λ{a b} hab x hx y hy=> ?_);rw[(xq hc.aU hx).1,(xq hc.aU hy).1];exact hab
 exact j.imp λ{a b} h e=>by rw[e] at h;omega
theorem ab7(h:l.getLast? =some x):wG l=x.block:=by unfold wG;rw[h]
theorem I5(hi:i<aJ):(kT aJ fs).getD i 0=wG (eP (jU qK) (fs.filter (nE i))):=by grind [kT,ji,getD,getElem?_range]
theorem LW(hi:i<aJ):(qy aJ fs).getD i []=(eP (jU aaz) (eP (jU qK) (fs.filter (nE i))).dropLast).map Fd.block:=by grind [qy,ji,getD,getElem?_range]
theorem VH(hM:CM aJ L S st m)(hu:S.up=true):SI aJ L 256 S st (oh S aJ) m:=by
 have J:=hM.ci;have uJ:=J.aU;unfold bQ.aU at uJ;have Zo:=FL (S:=S) J.aU;have U:=O7 (fs:=S.dV) (λx B=>Hd.Ud (Zo x B).2);have uH:∀i x,x∈eP (jU qK) (S.dV.filter (nE i))↔∃d,Live S st x.block x.hd d∧x.whole=true∧x.hd.aS=(i:Nat):=λi x=>by
  rw[zk,mem_filter,Ia J hu];unfold nE;rw[Bool.and_eq_true,decide_eq_true_eq];constructor
  ·rintro⟨⟨n,u,r,d,G⟩,M,h6⟩;exact⟨d,⟨n,u,r,by rw[G,M]⟩,M,h6⟩
  ·rintro⟨d,n,u,r⟩;exact⟨⟨n.lo,n.hi,n.un,d,by rw[n.st,u]⟩,u,r⟩
 have vZ:∀i,(eP (jU qK) (S.dV.filter (nE i))).Nodup:=λi=>(Ja _).nodup_iff.2 ((SB J hu).filter _);have aob:∀i,(oh S aJ).cu.getD i []=(qy aJ S.dV).getD i []:=λi=>Z;have ae5:∀i,i<aJ→∀x:Int,x∈(oh S aJ).cu.getD i []↔∃z,z∈(eP (jU qK) (S.dV.filter (nE i))).dropLast∧z.block=x:=λi a x=>by
  rw[aob,LW a,mem_map];constructor
  ·rintro⟨z,k,e⟩;exact⟨z,zk.1 k,e⟩
  ·rintro⟨z,k,e⟩;exact⟨z,zk.2 k,e⟩
 have akZ:∀ {b h K d Y},Live S st b h d→Live S st b K Y→h=K:=λQ P=>by
  have :=Q.st;rw[P.st] at this;injection this with this
  injection this with e _
  exact e.symm
 have afG:∀i,i<aJ→∀x,(eP (jU qK) (S.dV.filter (nE i))).getLast? =some x→(oh S aJ).stands.getD i 0=x.block:=λi a x B=>by
  show (kT aJ S.dV).getD i 0=_;rw[I5 a,ab7 B]
 refine⟨J,hM.low,hM.uniq,Z,mY _ _,sN _ _,⟨Int.le_refl _,by show (0:Int)<_;omega⟩,U.1,λb n u r h w d hs=> ?_,λl C=> ?_,λi a hm=>⟨?_,hM.none_ i a hm⟩,λi a v hm=> ?_,λi a x B=> ?_⟩
 ·exact aaJ ⟨b,h,w⟩ ((Ia J hu _).2 ⟨n,u,r,d,hs⟩)
 ·obtain⟨i,a,e⟩:=getElem_of_mem (show l∈qy aJ S.dV from C);have GQ:i<aJ:=by rw[sN] at a;exact a
  have I:(qy aJ S.dV).getD i []=l:=by simp only[getD,getElem?_eq_getElem a,Option.getD_some];exact e
  rw[←I,LW GQ,length_map,iO,length_dropLast,iO];have n:=length_filter_le (nE i) S.dV;have u:S.dV.length≤S.dW.length:=length_filterMap_le _ _;have r:=jK S S.g.bl.toNat;unfold dW at u;omega
 ·show (kT aJ S.dV).getD i 0= -1;rw[I5 a];cases hs:eP (jU qK) (S.dV.filter (nE i)) with
  | nil=>rfl
  | cons x xs =>
   obtain⟨d,n,_,r⟩:=(uH i x).1 (by rw[hs];exact .head _);exact absurd r (hM.none_ i a hm _ _ _ n)
 ·obtain⟨b,h,n,u,r⟩:=hM.some_ i a v hm;have D:(⟨b,h,true⟩:Fd)∈eP (jU qK) (S.dV.filter (nE i)):=(uH i _).2 ⟨v,n,Z,u⟩;obtain⟨x,B⟩:∃x,(eP (jU qK) (S.dV.filter (nE i))).getLast? =some x:=by
   cases C:(eP (jU qK) (S.dV.filter (nE i))).getLast? with
   | none=>rw[getLast?_eq_none_iff.1 C] at D;cases D
   | some x=>exact⟨x,Z⟩
  have wF:eP (jU qK) (S.dV.filter (nE i))=(eP (jU qK) (S.dV.filter (nE i))).dropLast++[x]:=by
   obtain⟨ys,e⟩:=getLast?_eq_some_iff.1 B;rw[e,dropLast_concat]
  obtain⟨d,Zg,UY,T⟩:=(uH i x).1 (mem_of_getLast? B);have UU:=Sk (S.dV.filter (nE i));rw[wF] at UU D;have H:x.block=b:=by
   rcases mem_append.1 D with D | D
   ·have G:=(pairwise_append.1 UU).2.2 _ D x (.head _);unfold jU at G;rw[decide_eq_false_iff_not,IG] at G;by_cases e:x.block=b
    ·exact e
    ·have :=r _ _ _ Zg T e;exact absurd (.inl this) G
   ·rw[←mem_singleton.1 D]
  rw[afG i a x B,H];refine⟨h,n,u,λc K W Q P X=>⟨r c K W Q P X, ?_⟩⟩;refine (ae5 i a c).2 ⟨⟨c,K,true⟩, ?_,Z⟩;have k:(⟨c,K,true⟩:Fd)∈eP (jU qK) (S.dV.filter (nE i)):=(uH i _).2 ⟨W,Q,Z,P⟩;rw[wF] at k;rcases mem_append.1 k with k | k
  ·exact k
  ·exfalso;have :=mem_singleton.1 k;rw[←this] at H;exact X H
 ·obtain⟨z,k,rfl⟩:=(ae5 i a x).1 B;obtain⟨d,JN,N,x0⟩:=(uH i z).1 (dropLast_subset _ k);refine⟨JN.lo,JN.hi,λG=> ?_⟩;obtain⟨j,hj,e⟩:=getElem_of_mem G;have BF:j<aJ:=by
   have M:j<(kT aJ S.dV).length:=hj;rw[mY] at M;exact M
  have I:(oh S aJ).stands.getD j 0=z.block:=by simp only[getD,getElem?_eq_getElem hj,Option.getD_some];exact e
  cases C:(eP (jU qK) (S.dV.filter (nE j))).getLast? with
  | none =>
   have R:(oh S aJ).stands.getD j 0= -1:=by
    show (kT aJ S.dV).getD j 0=_;rw[I5 BF];unfold wG;rw[C]
   have :=JN.lo;omega
  | some y =>
   rw[afG j BF y C] at I;obtain⟨Y,O,Zz,V⟩:=(uH j y).1 (mem_of_getLast? C);rw[I] at O;have R:=akZ O JN;have ZI:i=j:=by rw[R] at V;omega
   subst ZI;have e4:y=z:=by
    obtain⟨yb,yh,yw⟩:=y;obtain⟨zb,zh,zw⟩:=z;dsimp only at I R Zz N;rw[I,R,Zz,N]
   have F:=vZ i;obtain⟨ys,e5⟩:=getLast?_eq_some_iff.1 C;rw[e5] at k F;rw[dropLast_concat] at k;rw[e4] at F;have :=(nodup_append.1 F).2.2 z k z (.head _);exact this Z
end aD
theorem X9{T:St}(h:e≠70):T.told e=T:=by simp_all [St.told,decide_eq_false,Bool.or_false]
def ZN:aD×St×Option Int→aD×St×Int
 | (S',T',some e)=>(S',T',e)
 | (S',T',none)=>(S',T'.told (if S'.om=70 then 70 else 6),if S'.om=70 then 70 else 6)
theorem ajk:(6:Int)≠70:=by decide
namespace aD
theorem abu(hI:SI aJ L B S st T m)(hu:S.up=true):(j4 S.dW T.stands T.at_ S.g.bl S.g.bl.toNat 0).Nodup∧(j4 S.dW T.stands T.at_ S.g.bl S.g.bl.toNat 0).length≤S.g.bl.toNat ∧
 ∀ b,b∈j4 S.dW T.stands T.at_ S.g.bl S.g.bl.toNat 0↔0≤b∧b<S.g.bl∧S.marked b=false∧b∉T.stands:=by
 have uJ:=hI.ci.aU;unfold bQ.aU at uJ;have G:=hI.at_;have L9:∀b,b∈S.dW↔0≤b∧b<S.g.bl∧S.marked b=false:=λb=>by
  unfold dW;rw[uV hu,Int.toNat_of_nonneg ay]
 unfold j4;refine⟨?_, ?_,λb=> ?_⟩
 ·refine Pairwise.filter _ ?_;rw[pairwise_map];refine (nodup_range' (n:=S.g.bl.toNat-0)).imp_of_mem ?_;intro i j C D ZI e;rw[mem_range'_1] at C D;have k:=Int.emod_add_mul_ediv (T.at_+(i:Int)) S.g.bl;have l:=Int.emod_add_mul_ediv (T.at_+(j:Int)) S.g.bl;rw[e] at k;have u:S.g.bl*((T.at_+(i:Int))/S.g.bl-(T.at_+(j:Int))/S.g.bl)=(i:Int)-(j:Int):=by rw[Int.mul_sub];omega
  have x:(T.at_+(i:Int))/S.g.bl-(T.at_+(j:Int))/S.g.bl=0:=by
   have r: -S.g.bl<(i:Int)-(j:Int):=ay;have y:(i:Int)-(j:Int)<S.g.bl:=ay;rw[←u] at r y;have F: -1<(T.at_+(i:Int))/S.g.bl-(T.at_+(j:Int))/S.g.bl:=Int.lt_of_mul_lt_mul_left (a:=S.g.bl) ay ay;have H:(T.at_+(i:Int))/S.g.bl-(T.at_+(j:Int))/S.g.bl<1:=Int.lt_of_mul_lt_mul_left (a:=S.g.bl) ay ay;omega
  rw[x,Int.mul_zero] at u;omega
 ·refine Nat.le_trans (length_filter_le _ _) ?_;rw[length_map,length_range'];omega
 ·rw[mem_filter,decide_eq_true_eq,L9,mem_map];constructor
  ·rintro⟨_,k,l⟩;exact⟨k.1,k.2.1,k.2.2,l⟩
  ·rintro⟨k,l,u,x⟩;refine⟨⟨((b-T.at_)%S.g.bl).toNat, ?_, ?_⟩,⟨k,l,u⟩,x⟩
   ·have r:=Int.emod_nonneg (b-T.at_) (show S.g.bl≠0 by omega);have y:=Int.emod_lt_of_pos (b-T.at_) (show 0<S.g.bl by omega);rw[mem_range'_1];omega
   ·have r:=Int.emod_nonneg (b-T.at_) (show S.g.bl≠0 by omega);rw[Int.toNat_of_nonneg r,Int.add_emod_emod,show T.at_+(b-T.at_)=b by omega];exact Int.emod_eq_of_lt k l
theorem Pj(hI:SI aJ L B S st T m)(hu:S.up=true)(wR:i0<aJ)(hL:i0<L)(Wt:i0<64)(h8:aA 256 d)(hd:(d.length:Int)≤S.g.cap)(Zk:T.next+S.g.bl≤1000000000) :
 (bq S T (i0:Int) d).1.g=S.g∧(bq S T (i0:Int) d).1.dQ=S.dQ∧Wr S (bq S T (i0:Int) d).1∧(S.left=0→(bq S T (i0:Int) d).1.left=0∧(bq S T (i0:Int) d).2.2≠70)∧(bq S T (i0:Int) d).2.1.next≤T.next+S.g.bl+1 ∧
 ((bq S T (i0:Int) d).2.2≠70→∀c,(bq S T (i0:Int) d).1.marked c=true→S.marked c=true∨S.dQ c=true) ∧
 (((bq S T (i0:Int) d).2.2=6∧(bq S T (i0:Int) d).1.up=true∧SI aJ L B (bq S T (i0:Int) d).1 st (bq S T (i0:Int) d).2.1 m∧∀b,0≤b→b<S.g.bl→S.marked b=false→b∉T.stands→S.dQ b=true) ∨
  ((bq S T (i0:Int) d).2.2=0∧(bq S T (i0:Int) d).1.up=true∧∃st',SI aJ L (B+1) (bq S T (i0:Int) d).1 st' (bq S T (i0:Int) d).2.1 (m.put i0 (some d))) ∨
  ((bq S T (i0:Int) d).2.2=70∧(bq S T (i0:Int) d).1.up=false∧∃st',Td (bq S T (i0:Int) d).1 st' (T.next+S.g.bl+1)∧(CM aJ L (bq S T (i0:Int) d).1 st' m∨CM aJ L (bq S T (i0:Int) d).1 st' (m.put i0 (some d))))):=by
 have uJ:=hI.ci.aU;unfold bQ.aU at uJ;obtain⟨c1,c2,c3⟩:=abu hI hu;obtain⟨e,qX⟩:∃e,e=j4 S.dW T.stands T.at_ S.g.bl S.g.bl.toNat 0:=⟨_,Z⟩;rw[←qX] at c1 c2 c3;have BI:(e.length:Int)≤S.g.bl:=ay;obtain⟨l,n,u,k,H,y,D⟩:=PO wR hL Wt h8 e S T hI hu hd c1 (λb hb=>(c3 b).1 hb) ay;have x:bq S T (i0:Int) d=ZN (jy (i0:Int) d e S T):=by
  unfold bq;rw[hI.ready wR,if_neg (λh=>h Z),if_neg ay,if_neg ay,←qX];rfl
 obtain⟨X,I⟩:∃X,X=jy (i0:Int) d e S T:=⟨_,Z⟩;rw[←I] at x;rw[←I] at l n u k H y D;obtain⟨G,C,r⟩:=X;dsimp only at l n u k H y D;rcases D with ⟨rfl,j,a,Q⟩ | ⟨rfl,j,a⟩ | ⟨rfl,j,a⟩
 ·have F:G.om=0:=P6 a.ci.aU j;have M:bq S T (i0:Int) d=(G,C,6):=by
   rw[x];unfold ZN;dsimp only;rw[F,if_neg aN,X9 aN]
  rw[M];exact⟨l,n,u,λh=>⟨(k h).1,ajk⟩,by show C.next≤_;omega,λ_=>y (by intro h;cases h),.inl ⟨rfl,j,a,λb J K R P=>Q b ((c3 b).2 ⟨J,K,R,P⟩)⟩⟩
 ·rw[x];exact⟨l,n,u,λh=>⟨(k h).1,tV⟩,by show C.next≤_;omega,λ_=>y (by intro h;injection h with h;exact absurd h tV),.inr (.inl ⟨Z,j,a⟩)⟩
 ·rw[x];exact⟨l,n,u,λh=>absurd Z (k h).2,by show C.next≤_;omega,λh=>absurd Z h,.inr (.inr ⟨Z,j,by obtain⟨st',O,N⟩:=a;exact⟨st',O.mono ay,N⟩⟩)⟩
theorem Sv(hI:SI aJ L B S st T m)(hf:∀b,0≤b→b<S.g.bl→S.marked b=false→b∉T.stands→S.dQ b=true) :
 ((List.range S.g.bl.toNat).filter λ(b:Nat)=> !S.marked (b:Int)&& !S.dQ (b:Int)).length≤((List.range aJ).filter λi=>(m i).isSome).length:=by
 have uJ:=hI.ci.aU;unfold bQ.aU at uJ;have k:(((List.range aJ).filter λi=>(m i).isSome).map λi=>(T.stands.getD i 0).toNat).length=((List.range aJ).filter λi=>(m i).isSome).length:=length_map _;rw[←k];refine Pt (Pairwise.filter _ nodup_range) (λb hb=> ?_);obtain⟨l,a⟩:=mem_filter.1 hb;have l:=mem_range.1 l;simp only[Bool.and_eq_true,Bool.not_eq_true'] at a;have r:(b:Int)∈T.stands:=by
  by_cases h:(b:Int)∈T.stands
  ·exact h
  ·have :=hf (b:Int) ay ay a.1 h;rw[this] at a;cases a.2
 obtain⟨i,j,e⟩:=getElem_of_mem r;have GQ:i<aJ:=by rw[hI.len] at j;exact j
 have n:T.stands.getD i 0=(b:Int):=by simp only[getD,getElem?_eq_getElem j,Option.getD_some];exact e
 refine mem_map.2 ⟨i,mem_filter.2 ⟨mem_range.2 GQ, ?_⟩,by rw[n,Int.toNat_natCast]⟩;cases hm:m i with
 | none=>have :=(hI.none_ i GQ hm).1;omega
 | some v=>rfl
theorem CM.new{g:bQ}{bad:List Int}(hg:g.aU)(aJ L:Nat):CM aJ L (aD.new g bad) (λ_=>none) (λ_=>none):=by
 have uJ:=hg;unfold bQ.aU at uJ;have uN:∀b h d,¬Live (aD.new g bad) (λ_=>none) b h d:=λb h d a=>by have :=a.st;cases this
 refine⟨⟨hg, ?_,λ_=>Z,λb _ _ _ m e=>(by cases e)⟩,λb h d a=>absurd a (uN _ _ _),λb c h l d k a=>absurd a (uN _ _ _),λi _ _ b h d a=>absurd a (uN _ _ _),λi _ v j=>by cases j⟩;show ((replicate g.bl.toNat (0:Int)).length:Int)=g.bl;rw[length_replicate];omega
end aD
namespace aD
end aD
namespace aD
end aD
theorem ZR(hg:g.aU):(aD.new g bad).dV=[]:=by
 rw[eq_nil_iff_forall_not_mem];intro x a;obtain⟨_,_,_,d,h⟩:=(aD.Ia (aD.CM.new (bad:=bad) hg 0 0).ci Z x).1 a;cases h
theorem WB(hg:g.aU)(aJ:Nat):(oh (aD.new g bad) aJ).next=1:=by
 show pE (aD.new g bad).dV=1;rw[ZR hg];rfl
structure jg(aJ L B:Nat)(N:Int)(S:aD)(T:St)(m:Lm):Prop where
 si:∃st,aD.SI aJ L B S st T m
 up:S.up=true
 left:S.left=0
 dQ:∀b,S.dQ b=false
 un:∀b,S.marked b=false
 bM:∀k,S.bM k=none
 next:T.next≤N
theorem jg.change(h:jg aJ L B N S T m)(BI:(aJ:Int)<S.g.bl)(h20:S.g.bl≤20)(hN:N≤1000000)(wR:i0<aJ)(hL:i0<L)(Wt:i0<64)(h8:aA 256 d)(hd:(d.length:Int)≤S.g.cap) :
 (bq S T (i0:Int) d).2.2=0∧(bq S T (i0:Int) d).1.g=S.g∧jg aJ L (B+1) (N+21) (bq S T (i0:Int) d).1 (bq S T (i0:Int) d).2.1 (m.put i0 (some d)):=by
 obtain⟨H,k⟩:=h.si;have Zk:=h.next;obtain⟨n,u,C,j,I,D,l⟩:=aD.Pj k h.up wR hL Wt h8 hd ay;rcases l with ⟨_,_,_,x⟩ | ⟨e,F,r⟩ | ⟨e,_,_⟩
 ·exfalso;have a:=aD.Sv k x;have G:((List.range S.g.bl.toNat).filter λ(b:Nat)=> !S.marked (b:Int)&& !S.dQ (b:Int)).length=S.g.bl.toNat:=by
   rw[filter_eq_self.2 (λb _=>by rw[h.un,h.dQ];rfl),length_range]
  have y:=length_filter_le (λi=>(m i).isSome) (List.range aJ);rw[length_range] at y;omega
 ·refine⟨e,n,r,F,(j h.left).1,λb=>by rw[u];exact h.dQ b,λb=> ?_,C.none h.bM,by omega⟩;cases hm:(bq S T (i0:Int) d).1.marked b with
  | false=>rfl
  | true =>
   rcases D (by rw[e];exact tV) b hm with a | a
   ·rw[h.un] at a;cases a
   ·rw[h.dQ] at a;cases a
 ·exact absurd e (j h.left).2
theorem jg.new(hg:g.aU)(aJ:Nat):jg aJ aJ 256 1 (aD.new g []) (oh (aD.new g []) aJ) (λ_=>none) :=
 ⟨⟨_,aD.VH (aD.CM.new hg aJ aJ) Z⟩,Z,Z,λ_=>Z,λ_=>Z,λ_=>Z,by rw[WB hg];exact Int.le_refl _⟩
def Ai(l:List Bool):List Value:=l.map Value.bool
theorem NS(l:List Bool):(Ai l).length=l.length:=length_map _
theorem Po(l:List ByteArray):(strs l).length=l.length:=length_map _
structure Mw where
 Ah:Option Addr
 ch:Nat
 Ad:Option Addr
 cd:Nat
 has:List Bool
 iw:List ByteArray
namespace Mw
def v(M:Mw):Value:= .agg #[.slice M.Ah M.has.length M.ch,.slice M.Ad M.iw.length M.cd]
abbrev cells(M:Mw):List Value:=[.slice M.Ah M.has.length M.ch,.slice M.Ad M.iw.length M.cd]
abbrev hs(M:Mw):aH:=aV (.slice M.Ah M.has.length M.ch) 4 1 M.has.length (Ai M.has)
abbrev ds(M:Mw):aH:=aV (.slice M.Ad M.iw.length M.cd) 9 1 M.iw.length (strs M.iw)
abbrev parts(M:Mw):List aH:=[M.hs,M.ds]
def A(M:Mw):aH:=bK M.parts
def aC(M:Mw):Lm:=λi=>if M.has.getD i false then some (iB (bytesOf (M.iw.getD i ByteArray.empty))) else none
end Mw
theorem Mw.rdH{M:Mw}(hi:i<M.has.length):Rd K (M.A::F) (M.Ah.map (·.add (i*1))) (.bool (M.has.getD i false)):=by
 have h:Seq K (M.A::F) M.Ah M.has.length 1 (Ai M.has):=Seq.xM (A:=M.hs) (l:=M.parts) (.head _) (aV.seq (by rw[NS,Nat.mul_one]));have :=h.rd i (.bool (M.has.getD i false)) (by simp[Ai,getD,hi])
 rwa [Nat.mul_one]
theorem Mw.rdD{M:Mw}(hi:i<M.iw.length):Rd K (M.A::F) (M.Ad.map (·.add (i*1))) (.string (M.iw.getD i ByteArray.empty)) :=
 Seq.agK (Seq.xM (A:=M.ds) (l:=M.parts) (.tail _ (.head _)) (aV.seq (by rw[Po,Nat.mul_one]))) hi
theorem Mw.ajz{M:Mw}(hA:M.Ah=some ⟨g,0,none⟩)(hi:i<M.has.length)(b:Bool):bT K (M.A::F) g i [.bool b] (Mw.A { M with has:=M.has.set i b }::F):=by
 refine bT.all (l:=M.parts) (l':=Mw.parts { M with has:=M.has.set i b }) ?_;obtain⟨n,j,k,m,has,iw⟩:=M;dsimp only at hA hi ⊢;subst hA;unfold Mw.parts Mw.hs Mw.ds;dsimp only;rw[length_set];have a:=bT.slA (K:=K) (H:=[aV (.slice k iw.length m) 9 1 iw.length (strs iw)]++F) (gb:=g) (cap:=j) (E:=4) (cs:=Ai has) (v:= .bool b) hi;have e:(Ai has).set i (.bool b)=Ai (has.set i b):=by unfold Ai;rw[map_set]
 rw[e] at a;exact a
theorem Mw.aiK{M:Mw}(hA:M.Ad=some ⟨g,0,none⟩)(hi:i<M.iw.length)(s:ByteArray):bT K (M.A::F) g i [.string s] (Mw.A { M with iw:=M.iw.set i s }::F):=by
 refine bT.all (l:=M.parts) (l':=Mw.parts { M with iw:=M.iw.set i s }) ?_;obtain⟨r,m,n,k,e,iw⟩:=M;dsimp only at hA hi ⊢;subst hA;unfold Mw.parts Mw.hs Mw.ds;dsimp only;rw[length_set];refine bT.up ?_;have a:=bT.slA (K:=K) (H:=[]++F) (gb:=g) (cap:=k) (E:=9) (cs:=strs iw) (v:= .string s) hi;have j:(strs iw).set i (.string s)=strs (iw.set i s):=by unfold strs;rw[map_set]
 rw[j] at a;exact a
theorem Mw.afl{M:Mw}(h0:0<M.has.length)(h:Sat K w (M.A::F)):∃g,M.Ah=some ⟨g,0,none⟩:=by
 have j:Sat K w (M.parts++F):=h.yJ;cases hA:M.Ah with
 | none =>
  have e:Sat K w (M.hs::M.ds::F):=j;unfold Mw.hs at e;rw[hA] at e;have :=(aV.yM e).1;omega
 | some a =>
  have e:Sat K w (M.hs::M.ds::F):=j;unfold Mw.hs at e;rw[hA] at e;obtain⟨k,rfl⟩:=aV.addr e;exact⟨k,Z⟩
theorem Mw.ae4{M:Mw}(h0:0<M.iw.length)(h:Sat K w (M.A::F)):∃g,M.Ad=some ⟨g,0,none⟩:=by
 have e:Sat K w (M.ds::M.hs::F):=Sat.p1 (A:=M.hs) (B:=M.ds) h.yJ;cases hA:M.Ad with
 | none =>
  unfold Mw.ds at e;rw[hA] at e;have :=(aV.yM e).1;omega
 | some a =>
  unfold Mw.ds at e;rw[hA] at e;obtain⟨j,rfl⟩:=aV.addr e;exact⟨j,Z⟩
theorem LM{M:Mw}{aS:Int}(hi:0≤aS∧aS<M.has.length)(hl:M.iw.length=M.has.length)(s:ByteArray):aB prog 36 #[M.v,.i aS,.string s] K (M.A::F)
 (λv H'=>H'=Mw.A { M with has:=M.has.set aS.toNat true,iw:=M.iw.set aS.toNat s }::F):=by
 refine aB.lG (p:=(∃g,M.Ah=some ⟨g,0,none⟩)∧∃g,M.Ad=some ⟨g,0,none⟩) (λw h=>⟨Mw.afl ay h,Mw.ae4 ay h⟩) (λ⟨⟨e,UM⟩,⟨k,RU⟩⟩=> ?_);unfold Mw.v;refine aB.en func36 ntmps36 ?_;refine aj "a~3" λj=> ?_;refine aj "G" ?_;refine WC.sub (H':=M.A::ah j 81 M.cells::F) (Sub.refl _) (λw h=>h.p1)<|aj "pX" ?_;refine WL.val (V.aG (v':= .slice (some ⟨e,0,none⟩) M.has.length M.ch) (V.load isAgg79 (ak Z) (λ_=>lD)) (λ_=>by rw[UM])) Z<|aj "b~x" ?_;refine WL.store (cs:=[_]) sizeOf4 (ak Z) (ak Z) Z Z Z (Mw.ajz UM ay true)<|aj "cpX" ?_;refine WL.val (V.aG (v':= .slice (some ⟨k,0,none⟩) M.iw.length M.cd) (V.load isAgg25 (ak Z) (λ_=>lD)) (λ_=>by rw[RU])) Z<|aj "x~x" ?_;refine WL.store (cs:=[_]) sizeOf9 (ak Z) (ak Z) Z Z Z (Mw.aiK (M:= { M with has:=M.has.set (0+aS.toNat*1) true }) RU (by show 0+aS.toNat*1<M.iw.length;omega) s)<|WL.nil<|aF.normal (H':=Mw.A { M with has:=M.has.set aS.toNat true,iw:=M.iw.set aS.toNat s }::F) (bJ.none Z) (λw h=> ?_) Z;have a:=h.bg 2 [0] Z;rw[show 0+aS.toNat*1=aS.toNat by omega] at a;exact a
theorem WV{n:Nat}(hn:n≤1000000):aB prog 35 #[.i (n:Int)] K F (λv H'=>∃M:Mw,M.has=replicate n false∧M.iw=replicate n (ByteArray.mk #[])∧v=M.v∧H'=M.A::F):=by
 refine aB.en func35 ntmps35 ?_;refine aj "av" λy=> ?_;refine aj "G" ?_;refine WC.dM F (by kernel_rfl)<|aj "n0n2" ?_;refine WA.two (i:=1) (j:=3) eO (by kernel_rfl) Z Z ?_ ?_
 ·refine WL.nM (m:=n) underlying79 el4 (ak Z) (ak Z) Z Z ay Z Z Z (λe=>aj "cm3" ?_);refine WL.nM (m:=n) underlying25 el9 (ak Z) (ak Z) Z Z ay Z Z Z (λr=>WL.nil (WA.t 4 Z (V.build (vs:=[(0,_),(1,_)]) ⟨ak Z,ak Z,trivial⟩ Z (LV _ _ _ _ _ _)) ?_));refine WA.o 5 Z ?_;refine WL.sub (H':=ah y 81 [.slice none 0 0,.slice none 0 0]::ah e 4 (replicate n (.bool false))::ah r 9 (replicate n (.string (ByteArray.mk #[])))::F) (Sub.refl _) (λw h=>by first | exact h.bg 3 [2,1,0] Z | exact h.bg 3 [2,0,1] Z)<|WL.store (cs:=[_,_]) sizeOf81 (ak Z) (ak Z) Z Z Z (bT.here Z Z)<|aj "*~J" ?_;obtain⟨M,a⟩:∃M:Mw,M=⟨some ⟨e,0,none⟩,n,some ⟨r,0,none⟩,n,replicate n false,replicate n (ByteArray.mk #[])⟩:=⟨_,Z⟩;refine aF.ret (H':=M.A::F) (bJ.one Z (R1.jQ (vs:=[_,_]) Z ⟨isAgg81,sizeOf81⟩ Z af4)) (λw h=> ?_) ⟨M,by rw[a],by rw[a], ?_,Z⟩
  ·have u:=Sat.BX (s:=1) (m:=n) (cap:=n) h.tail (by rw[length_replicate,Nat.mul_one]) (Nat.le_refl _) (by simp only[maxLen];omega);have x:=Sat.BX (s:=1) (m:=n) (cap:=n) u.p1 (by rw[length_replicate,Nat.mul_one]) (Nat.le_refl _) (by simp only[maxLen];omega);have k:=x.p1;rw[Nat.mul_one,take_of_length_le (by rw[length_replicate];exact Nat.le_refl _),take_of_length_le (by rw[length_replicate];exact Nat.le_refl _)] at k;refine Sat.all (l:=M.parts) (H:=F) ?_;unfold Mw.parts Mw.hs Mw.ds Ai strs;rw[a];dsimp only;rw[length_replicate,length_replicate,map_replicate,map_replicate];exact k
  ·rw[a];unfold Mw.v;dsimp only;rw[length_replicate,length_replicate]
 ·refine WL.nM (m:=n) underlying25 el9 (ak Z) (ak Z) Z Z ay Z Z Z (λr=>aj "cm1" ?_);refine WL.nM (m:=n) underlying79 el4 (ak Z) (ak Z) Z Z ay Z Z Z (λe=>WL.nil (WA.t 4 Z (V.build (vs:=[(0,_),(1,_)]) ⟨ak Z,ak Z,trivial⟩ Z (LV _ _ _ _ _ _)) ?_));refine WA.o 5 Z ?_;refine WL.sub (H':=ah y 81 [.slice none 0 0,.slice none 0 0]::ah e 4 (replicate n (.bool false))::ah r 9 (replicate n (.string (ByteArray.mk #[])))::F) (Sub.refl _) (λw h=>by first | exact h.bg 3 [2,1,0] Z | exact h.bg 3 [2,0,1] Z)<|WL.store (cs:=[_,_]) sizeOf81 (ak Z) (ak Z) Z Z Z (bT.here Z Z)<|aj "*~J" ?_;obtain⟨M,a⟩:∃M:Mw,M=⟨some ⟨e,0,none⟩,n,some ⟨r,0,none⟩,n,replicate n false,replicate n (ByteArray.mk #[])⟩:=⟨_,Z⟩;refine aF.ret (H':=M.A::F) (bJ.one Z (R1.jQ (vs:=[_,_]) Z ⟨isAgg81,sizeOf81⟩ Z af4)) (λw h=> ?_) ⟨M,by rw[a],by rw[a], ?_,Z⟩
  ·have u:=Sat.BX (s:=1) (m:=n) (cap:=n) h.tail (by rw[length_replicate,Nat.mul_one]) (Nat.le_refl _) (by simp only[maxLen];omega);have x:=Sat.BX (s:=1) (m:=n) (cap:=n) u.p1 (by rw[length_replicate,Nat.mul_one]) (Nat.le_refl _) (by simp only[maxLen];omega);have k:=x.p1;rw[Nat.mul_one,take_of_length_le (by rw[length_replicate];exact Nat.le_refl _),take_of_length_le (by rw[length_replicate];exact Nat.le_refl _)] at k;refine Sat.all (l:=M.parts) (H:=F) ?_;unfold Mw.parts Mw.hs Mw.ds Ai strs;rw[a];dsimp only;rw[length_replicate,length_replicate,map_replicate,map_replicate];exact k
  ·rw[a];unfold Mw.v;dsimp only;rw[length_replicate,length_replicate]
end Go.Proofs.YtcedojacbhnbiaaGreat
