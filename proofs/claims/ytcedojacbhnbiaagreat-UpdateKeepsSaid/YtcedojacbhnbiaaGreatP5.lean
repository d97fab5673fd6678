import Derived.Test.YtcedojacbhnbiaaGreatP4
set_option autoImplicit true
set_option linter.all false
set_option maxHeartbeats 2000000
set_option maxRecDepth 20000
set_option relaxedAutoImplicit true
namespace Go.Proofs.YtcedojacbhnbiaaGreat
open Go.Sl Go.RowKit Tryz List Nat
theorem Ew(k:IntKind)(xs:List Nat):av k xs=ints k (xs.map fun x:Nat=>(x:Int)):=by simp[av,ints]
theorem lY(hs:Seq K F A m 1 (av .u8 xs))(hm:m≤1000000) :
 aB prog 125 #[.slice A m cap] K F (fun v H'=>∃A' cap',v= .slice A' m cap'∧H'=aV (.slice A' m cap') 5 1 m (av .u8 xs)::F):=by
 rw[Ew] at hs ⊢;exact O5 hs hm
theorem BP(hm:0<m):∀w,Sat K w (aV (.slice A m cap) E 1 m cs::F)→∃x:Nat×List Value,(A=some ⟨x.1,0,none⟩∧(cs++x.2).length=cap∧cap≤maxLen)∧Sat K w (ah x.1 E (cs++x.2)::F):=fun w hw=>by
 cases A with
 | none=>have :=(aV.yM hw).1;omega
 | some a =>
  obtain⟨g,rfl⟩:=aV.addr hw;obtain⟨r,⟨h1,h2,h3,h4⟩,h5⟩:=Sat.nU hw;exact⟨(g,r),⟨rfl,by show (cs++r).length=cap;omega,h4⟩,h5⟩
theorem PK{mo:List Nat}(ht:1≤t∧t≤8)(hd:Seq K F A m 1 (av .u8 d))(hm:Seq K F B q 1 (av .u8 mo))(Nf:aA 256 d)(hm8:aA 256 mo)(wF:1≤m∧m≤512)(Oa:q=aR t) :
 aB prog 283 #[.i (t:Int),.slice A m cap,.slice B q cap'] K F
  (fun v H'=>∃bw,∃W:Wd,W.Ok∧W.t=t∧W.d=d∧W.m=jI t mo∧(W.d.length≤W.c1∧W.m.length≤W.c2)∧v= .tuple #[ptr bw 0,.i 0]∧H'=W.parts bw++F):=by
 have hl:d.length=m:=by simpa [av] using hd.len
 have Ki:mo.length=q:=by simpa [av] using hm.len
 have arl:q≤13:=by rw[Oa];unfold aR;omega
 have hq0:0<q:=by rw[Oa];unfold aR;omega
 have hqt:13*t≤8*q:=by rw[Oa];unfold aR;omega
 refine aB.en func283 ntmps283 ?_;refine aj "alY" ?_;refine WL.t2 call278 rfl rfl (P7 ht wF) rfl ?_;refine aj "DfscV~DV~VLb" ?_;refine WC.ni rfl ((by simp;rw[Oa])) ?_;refine aj "Uc" ?_;refine WL.c1 call125 rfl (lY hd ay) rfl ?_;rintro _ _ ⟨A1,c1,rfl,rfl⟩;refine WL.ex (BP ay) (fun ⟨g1,r1⟩ ⟨e1,Dq,aQ⟩=> ?_);dsimp only at e1 Dq ⊢;subst e1;refine WL.mv rfl rfl (WL.c1 call125 rfl (lY hm.up ay) rfl ?_);rintro _ _ ⟨A2,c2,rfl,rfl⟩;refine WL.ex (BP hq0) (fun ⟨g2,r2⟩ ⟨e2,EB,bA⟩=> ?_);dsimp only at e2 EB ⊢;subst e2;have aoY:d.length≤c1:=by rw[←Dq,length_append,au];omega
 have as1:mo.length≤c2:=by rw[←EB,length_append,au];omega
 refine WL.val (V.build (vs:=[(0,_),(1,_),(2,_)]) ⟨ak rfl,ak rfl,ak rfl,trivial⟩ rfl (MH _ _ _ _ _ _ _)) rfl ?_;refine aj "~~8" fun b32=> ?_;refine aj "f~Lgt" ?_;refine WC.loop (σ:=Nat) (fun k=>[(10,ptr b32 0),(8,.i (q:Int)),(11,.i ((13*t+k:Nat):Int))]) (fun k=>ah g2 5 (av .u8 (nQ mo (13*t) k)++r2)::ah b32 370 [.i (t:Int),.slice (some ⟨g1,0,none⟩) m c1,.slice (some ⟨g2,0,none⟩) q c2]::ah g1 5 (av .u8 d++r1)::F) (fun k=>13*t+k≤8*q) (fun k=>8*q-k) 0 (by simpa using hqt) (.cons rfl (.cons (look_eq rfl (by rw[Oa])) bC)) (fun w h=>h.p1) ?_;rintro k hk;refine aj "rc~L4bZ" (aW (fun aQ=> ?_) fun aQ=> ?_)
 ·obtain⟨o,ho⟩:∃o,o=nQ mo (13*t) k:=⟨_,rfl⟩;have Gh:o.length=q:=by rw[ho,sJ,Ki]
  have Zy:aA 256 o:=by rw[ho];exact vD hm8 k
  rw[←ho];obtain⟨i,hi⟩:∃i,i=13*t+k:=⟨_,rfl⟩;rw[←hi];have EH:(av .u8 o++r2)[0+((i:Int)/8).toNat*1]? =some (.int .u8 (o.getD (i/8) 0:Nat)):=by rw[show 0+((i:Int)/8).toNat*1=i/8 by omega];exact mF _ _ _ ay
  have JM:=Lb (Zy.at_ aN (i/8)) (mod_lt i (show 0<8 by decide));refine aj "I" ?_;refine WC.dM (ah b32 370 [.i (t:Int),.slice (some ⟨g1,0,none⟩) m c1,.slice (some ⟨g2,0,none⟩) q c2]::ah g1 5 (av .u8 d++r1)::F) (by kernel_rfl) ?_;refine aj "m0~a102(3m4~~O5~c6m8" ?_;refine WA.t 9 rfl (V.aG (v':= .i ((i%8:Nat):Int)) (V.Av (ak rfl) (ak rfl) (fun _=>by omega)) (fun _=>by simp)) ?_;refine aj "~~*:n7" ?_;refine WL.val (V.load isAgg5 (ak rfl) (fun hc=>Rd.here EH)) rfl ?_;refine WL.nil ?_;refine WA.t 11 rfl (V.aG (v':= .int .u8 ((OI (o.getD (i/8) 0) (i%8):Nat):Int)) (V.andNot (ak rfl) (ak rfl)) (fun _=>by rw[JM.1])) ?_;refine aj "~c<n=" ?_;refine WL.store (cs:=[_]) sizeOf5 (ak rfl) (ak rfl) rfl rfl rfl (bT.at_ (by rw[length_append,au];omega)) ?_;refine aj "bOh$X" ?_;refine⟨k+1,(by show 13*t+(k+1)≤8*q;omega),(by show 8*q-(k+1)<8*q-k;omega),.cons rfl (.cons rfl (.cons (look_eq rfl (by rw[hi];simp;omega)) (.nil _))),fun w h=>Sat.aT h ?_⟩;rw[show 0+((i:Int)/8).toNat*1=i/8 by omega,uj _ _ _ ay,nQ,←ho,←hi]
 ·refine aj "W" ?_;have YX:k=8*aR t-13*t:=ay;have hmm:nQ mo (13*t) k=jI t mo:=by unfold jI;rw[YX]
  rw[hmm];have anH:(jI t mo).length=q:=by unfold jI;rw[sJ,Ki]
  refine aj "hC" ?_;refine aF.ret (H':=Wd.parts b32 ⟨t,d,jI t mo,g1,c1,g2,c2,r1,r2⟩++F) (bJ.eU rfl rfl rfl) (fun w h=> ?_) ⟨b32,⟨t,d,jI t mo,g1,c1,g2,c2,r1,r2⟩,⟨ht,by show 1≤d.length∧d.length≤512;omega,by show (jI t mo).length=aR t;omega,Nf,vD hm8 _⟩,rfl,rfl,rfl,⟨aoY,by show (jI t mo).length≤c2;omega⟩,rfl,rfl⟩;have h':=h.bg 3 [1,2,0] rfl;dsimp only[Wd.parts,Wd.cells,cons_append,nil_append];rw[hl,anH];exact h'
theorem QH{xs:List Nat}:(xs.set i x).getD j 0=if i=j∧j<xs.length then x else xs.getD j 0:=by grind
theorem lN:(x*2^s).testBit i=(decide (s≤i)&&x.testBit (i-s)):=by grind
theorem yB(h:i<8):(x%256).testBit i=x.testBit i:=by
 rw[show (256:Nat)=2^8 from rfl,testBit_mod_two_pow];simp[h]
theorem wV:(x/256).testBit i=x.testBit (8+i):=by grind
theorem vQ(hx:x<256)(hi:8≤i):x.testBit i=false:=testBit_lt_two_pow (Nat.lt_of_lt_of_le hx (Nat.pow_le_pow_right (n:=2) aN hi))
theorem lU(h:8*xs.length≤k):tF xs k=false:=by grind [tF,getD,getElem?_eq_none]
theorem xL(ho:aA 256 out)(hp:aA 256 p):∀(j:Nat),j+at_/8<out.length→∀k,tF (mI out p at_ j) k=(tF out k ^^ (decide (at_≤k)&&decide (k-at_<8*j)&&tF p (k-at_)))
 | 0,_,k=>by simp[-getD_eq_getElem?_getD,mI]
 | j+1,hj,k=>by
  have ih:=xL (at_:=at_) ho hp j ay k;have hlen:=mW out p at_ j
  have hpj:=hp.at_ aN j;have hw:∀i,(p.getD j 0*2^(at_%8)).testBit i=(decide (at_%8≤i)&&(p.getD j 0).testBit (i-at_%8)):=fun i=>lN;have ajb:¬255<p.getD j 0*2^(at_%8)→p.getD j 0*2^(at_%8)/256=0:=fun h=>by omega
  have Ze:∀o:List Nat,o=mI out p at_ j→tF (mI out p at_ (j+1)) k=(tF o k ^^ ((decide (k/8=j+at_/8)&&(p.getD j 0*2^(at_%8)).testBit (k%8))||(decide (k/8=j+at_/8+1)&&(p.getD j 0*2^(at_%8)).testBit (8+k%8)))):=by
   intro o hoe;have hk8:k%8<8:=mod_lt _ aN;have Gh:o.length=out.length:=by rw[hoe];exact hlen
   rw[mI,←hoe];split
   ·unfold tF;simp only[QH,length_set];by_cases h1:j+at_/8+1=k/8
    ·rw[if_pos ⟨h1,by omega⟩,if_neg ay,testBit_xor,wV];have e1:¬k/8=j+at_/8:=ay
     simp[-getD_eq_getElem?_getD,e1,←h1]
    ·rw[if_neg ay];by_cases h2:j+at_/8=k/8
     ·rw[if_pos ⟨h2,by omega⟩,testBit_xor,yB hk8];have e1:¬k/8=j+at_/8+1:=ay
      simp[-getD_eq_getElem?_getD,e1,←h2]
     ·rw[if_neg ay];have e1:¬k/8=j+at_/8+1:=ay
      have e2:¬k/8=j+at_/8:=ay
      simp[-getD_eq_getElem?_getD,e1,e2]
   ·rename_i hs;unfold tF;rw[QH];have hz:(p.getD j 0*2^(at_%8)).testBit (8+k%8)=false:=by rw[←wV,ajb hs];exact zero_testBit _
    by_cases h2:j+at_/8=k/8
    ·rw[if_pos ⟨h2,by omega⟩,testBit_xor,yB hk8];simp[-getD_eq_getElem?_getD,hz,←h2]
    ·rw[if_neg ay];have e2:¬k/8=j+at_/8:=ay
     simp[-getD_eq_getElem?_getD,hz,e2]
  rw[Ze _ rfl,ih,Bool.xor_assoc];congr 1;rw[hw,hw];by_cases hka:at_≤k
  ·obtain⟨r,hr⟩:∃r,r=k-at_:=⟨_,rfl⟩
   rw[←hr];by_cases h1:k/8=j+at_/8
   ·have e1:¬k/8=j+at_/8+1:=by omega
    by_cases h2:at_%8≤k%8
    ·have hrj:r/8=j:=by omega
     have hrm:r%8=k%8-at_%8:=ay
     have RH:tF p r=(p.getD j 0).testBit (k%8-at_%8):=by unfold tF;rw[hrj,hrm]
     have e3:¬r<8*j:=ay;have e4:r<8*(j+1):=ay;simp[-getD_eq_getElem?_getD,h1,e1,h2,hka,RH,e3,e4]
    ·have e3:(r<8*j↔r<8*(j+1)):=by omega
     have e5:decide (r<8*(j+1))=decide (r<8*j):=decide_eq_decide.2 e3.symm;simp[-getD_eq_getElem?_getD,h1,e1,h2,hka,e5]
   ·by_cases h3:k/8=j+at_/8+1
    ·have h8:at_%8≤8+k%8:=by omega
     by_cases h4:8+k%8-at_%8<8
     ·have hrj:r/8=j:=by omega
      have hrm:r%8=8+k%8-at_%8:=ay
      have RH:tF p r=(p.getD j 0).testBit (8+k%8-at_%8):=by unfold tF;rw[hrj,hrm]
      have e3:¬r<8*j:=ay;have e4:r<8*(j+1):=ay;simp[-getD_eq_getElem?_getD,h1,h3,h8,hka,RH,e3,e4]
     ·have hz:=vQ hpj (i:=8+k%8-at_%8) ay;have e3:¬r<8*j:=ay;have e4:¬r<8*(j+1):=ay;simp[-getD_eq_getElem?_getD,h1,h3,hz,e3,e4]
    ·have e5:decide (r<8*(j+1))=decide (r<8*j):=decide_eq_decide.2 ay;simp[-getD_eq_getElem?_getD,h1,h3,e5]
  ·have e1:(decide (k/8=j+at_/8)&&(decide (at_%8≤k%8)&&(p.getD j 0).testBit (k%8-at_%8)))=false:=by
    by_cases h1:k/8=j+at_/8
    ·have :¬at_%8≤k%8:=by omega
     simp[-getD_eq_getElem?_getD,this]
    ·simp[-getD_eq_getElem?_getD,h1]
   have e2:¬k/8=j+at_/8+1:=ay
   simp[-getD_eq_getElem?_getD,hka,e1,e2]
def Uc(q:List Nat)(d:Nat):Prop:=tF q d=true∧∀k,d<k→tF q k=false
theorem DV(hp:aA 256 p)(hq:aA 256 q)(RL:q.length=lq)(RX:lq=d/8+1)(hd:Uc q d):∀k,k≤8*p.length-d→∀b,8*p.length-k≤b→tF (gW p q lq d k) b=false
 | 0,_,b,hb=>by
  rw[gW];unfold tF;by_cases h:b/8=p.length
  ·have e:(p++[0]).getD (b/8) 0=(0:Nat):=by rw[h];simp[getD]
   rw[e];exact zero_testBit _
  ·have e:(p++[0]).getD (b/8) 0=(0:Nat):=by rw[getD,getElem?_eq_none (by simp;omega)];rfl
   rw[e];exact zero_testBit _
 | k+1,hk,b,hb=>by
  have ih:=DV hp hq RL RX hd k ay;subst RL;rw[gW];split
  ·rename_i Ze;rw[xL (jq hp hq k) hq _ (by rw[gy];omega)];obtain⟨i,hi⟩:∃i,i=8*p.length-1-k:=⟨_,rfl⟩;rw[←hi] at Ze ⊢;by_cases h1:b=i
   ·subst h1;have e1:b-(b-d)=d:=ay;rw[Ze,e1,hd.1];have e2:b-d≤b:=ay;have e3:d<8*q.length:=ay;simp[e2,e3]
   ·rw[ih b ay,hd.2 (b-(i-d)) ay];simp
  ·rename_i Ze;by_cases h1:b=8*p.length-1-k
   ·subst h1;simpa using Ze
   ·exact ih b ay
theorem LG(hp:aA 256 p)(hq:aA 256 q)(RL:q.length=lq)(RX:lq=d/8+1)(hd:Uc q d)(hb:d≤b):tF (gW p q lq d (8*p.length-d)) b=false:=by
 by_cases h:d≤8*p.length
 ·exact DV hp hq RL RX hd _ (Nat.le_refl _) b ay
 ·have :=DV hp hq RL RX hd 0 (zero_le _) b ay
  rwa [show 8*p.length-d=0 by omega]
theorem BQ(hx:aA 256 xs)(h:∀k,b≤k→tF xs k=false):∀n,aZ xs n≤(b+7)/8
 | 0=>zero_le _
 | n+1=>by
  rw[aZ];split
  ·exact BQ hx h n
  ·rename_i pq;rcases Nat.lt_or_ge n ((b+7)/8) with h1 | h1
   ·omega
   ·exfalso;apply pq;apply eq_of_testBit_eq;intro i;rw[zero_testBit];by_cases hi:i<8
    ·have :=h (8*n+i) ay;unfold tF at this
     rwa [show (8*n+i)/8=n by omega,show (8*n+i)%8=i by omega] at this
    ·exact vQ (hx.at_ aN _) ay
def P9(t:Nat):Bool:=decide (TW (fO t) (fO t).length=((13*t:Nat):Int))&&decide (aZ (fO t) (fO t).length=13*t/8+1)&&decide ((fO t).length=13*t/8+1)&&tF (fO t) (13*t)&&(List.range (8*(fO t).length)).all (fun k=>decide (k≤13*t)|| !tF (fO t) k)&&(fO t).all (fun x=>decide (x<256))
theorem ad4:[1,2,3,4,5,6,7,8].all P9=true:=by kernel_rfl
theorem uD(ht:1≤t∧t≤8):TW (fO t) (fO t).length=((13*t:Nat):Int)∧aZ (fO t) (fO t).length=13*t/8+1∧(fO t).length=13*t/8+1∧Uc (fO t) (13*t)∧aA 256 (fO t):=by
 have h:=all_eq_true.1 ad4 t (by simp only[mem_cons,not_mem_nil,or_false];omega);simp only[P9,Bool.and_eq_true,decide_eq_true_eq,all_eq_true,mem_range,Bool.or_eq_true,Bool.not_eq_true'] at h;obtain⟨⟨⟨⟨⟨h1,h2⟩,h3⟩,h4⟩,h5⟩,h6⟩:=h;refine⟨h1,h2,h3,⟨h4,fun k hk=> ?_⟩,h6⟩;rcases Nat.lt_or_ge k (8*(fO t).length) with h | h
 ·rcases h5 k h with h' | h'
  ·omega
  ·exact h'
 ·exact lU h
def dY(t:Nat):List Nat:=(replicate (aR t+1) 0).set (13*t/8) (2^(13*t%8))
def jF(t:Nat)(d:List Nat):List Nat:=(iZ (dY t) d).take (aZ (iZ (dY t) d) ((dY t).length+d.length+1))
def xU(t:Nat)(d:List Nat):List Nat:=gW (jF t d) (fO t) (fO t).length (13*t) (8*(jF t d).length-13*t)
def jR(t:Nat)(d:List Nat):Nat:=aZ (xU t d) ((jF t d).length+1)
def mU(t:Nat)(d:List Nat):List Nat:=(xU t d).take (jR t d)++replicate (aR t-jR t d) 0
theorem lg(t:Nat):(dY t).length=aR t+1:=by simp[dY]
theorem MX(t:Nat):aA 256 (dY t):=(aA.wJ aN).set (Gt (mod_lt _ aN))
theorem oF(h:aA 256 d):aA 256 (jF t d):=aA.take (pX h _)
theorem pO(t:Nat)(d:List Nat):(xU t d).length=(jF t d).length+1:=gy _ _ _ _ _
theorem EK(ht:1≤t∧t≤8)(h:aA 256 d):aA 256 (xU t d):=jq (oF h) (uD ht).2.2.2.2 _
theorem Iz(ht:1≤t∧t≤8)(h:aA 256 d):jR t d≤aR t∧jR t d≤(jF t d).length+1:=by
 obtain⟨g1,g2,g3,g4,g5⟩:=uD ht;refine⟨BQ (EK ht h) (fun k hk=>LG (oF h) g5 rfl g3 g4 hk) _,iy _ _⟩
theorem xG(ht:1≤t∧t≤8)(h:aA 256 d):(mU t d).length=aR t:=by grind [Iz,mU,length_append,length_take,length_replicate,pO]
theorem IC(ht:1≤t∧t≤8)(h:aA 256 d):aA 256 (mU t d):=(aA.take (EK ht h)).append (aA.wJ aN)
theorem Uj{t:Nat}(ht:1≤t∧t≤8)(hd:Seq K F A m 1 (av .u8 d))(Nf:aA 256 d)(wF:1≤m∧m≤512) :
 aB prog 242 #[.i (t:Int),.slice A m cap] K F
  (fun v H'=>∃A' cap',v= .tuple #[.slice A' (aR t) cap',.i 0]∧H'=aV (.slice A' (aR t) cap') 5 1 (aR t) (av .u8 (mU t d))::F):=by
 have hl:d.length=m:=by simpa [av] using hd.len
 have akh:2≤aR t∧aR t≤13∧13*t/8≤aR t:=by unfold aR;omega
 obtain⟨n,hn⟩:∃n,n=aR t:=⟨_,rfl⟩;obtain⟨g1,g2,g3,g4,g5⟩:=uD ht;have pG:=Iz ht Nf;have l7:(jF t d).length=aZ (iZ (dY t) d) ((dY t).length+d.length+1):=by
  unfold jF iZ;have :=iy (kY (dY t) d (8*(dY t).length)) ((dY t).length+d.length+1);rw[length_take,iU];omega
 have asG:(jF t d).length≤n+1+m+1:=by rw[l7,lg,hl,←hn];exact iy _ _
 rw[←hn] at akh pG ⊢;refine aB.en func242 ntmps242 ?_;refine aj "alY" ?_;refine WL.t2 call278 rfl rfl (aK.eq (v':= .tuple #[.i (n:Int),.i 0]) (P7 ht wF) (by rw[hn])) rfl ?_;refine aj "Dfs3U" ?_;refine WL.c1 call279 rfl (F7 ht) rfl ?_;rintro _ _ ⟨gg,aiS,ar5,rfl,hgc,hgf,rfl⟩;have Od:∀ {H:List aH},Seq K (ah gg 5 (av .u8 aiS)::H) (some ⟨gg,0,none⟩) (fO t).length 1 (av .u8 (fO t)):=fun {H}=>Seq.here (by rw[au];omega) (by rw[drop_zero];exact rR (by rw[hgf];exact take_prefix _ _));refine aj "Dj$" ?_;refine WL.nM (m:=n+1) underlying34 yL (ak rfl) (ak rfl) ay ay ay rfl rfl rfl (fun Va=> ?_);refine aj "Y~L~*c~L" ?_;refine WL.val (V.aG (v':= .i ((13*t%8:Nat):Int)) (V.Av (ak rfl) (ak rfl) (fun _=>by omega)) (fun _=>by simp)) rfl ?_;refine WL.val (V.aG (v':= .int .u8 ((2^(13*t%8):Nat):Int)) (V.shl (ak rfl) (ak rfl) ay) (fun _=>by rw[Jr ay])) rfl ?_;refine aj "~r" ?_;refine WL.store (cs:=[_]) sizeOf5 (ak rfl) (ak rfl) rfl rfl rfl (bT.at_ (by rw[length_replicate];omega)) ?_;have hsh:(replicate (n+1) (Value.int .u8 0)).set (0+(13*(t:Int)/8).toNat*1) (.int .u8 ((2^(13*t%8):Nat):Int))=av .u8 (dY t):=by
  unfold dY;rw[←lu,eD,←hn,show 0+(13*(t:Int)/8).toNat*1=13*t/8 by omega];rfl
 rw[hsh];refine aj "bec" ?_;refine WL.c2 call281 rfl rfl (KI (ps:=dY t) (qs:=d) (Seq.Gb (by rw[lg,hn])) hd.up.up (MX t) Nf (by rw[lg,hl,←hn];omega)) rfl ?_;rintro _ _ ⟨gp,rfl,rfl⟩;have qY:∀ {H:List aH},Seq K (ah gp 5 (av .u8 (iZ (dY t) d))::H) (some ⟨gp,0,none⟩) (aZ (iZ (dY t) d) ((dY t).length+d.length+1)) 1 (av .u8 (jF t d)):=fun {H}=>Seq.here (by rw[au,l7];omega) (by rw[drop_zero];exact rR (take_prefix _ _));refine WL.mv rfl rfl ?_;refine WL.c2 call280 rfl rfl (Yd (ps:=jF t d) (qs:=fO t) (d:=13*t) qY (by repeat (first | exact Od | apply Seq.up)) (oF Nf) g5 hgc (by rw[g3];omega) g1 (by rw[g2,take_of_length_le ay,←g3];exact g1) (by rw[g2])) rfl ?_;rintro _ _ ⟨gr,rfl,rfl⟩;have RN:gW (jF t d) ((fO t).take (aZ (fO t) (fO t).length)) (aZ (fO t) (fO t).length) (13*t) (8*aZ (iZ (dY t) d) ((dY t).length+d.length+1)-13*t)=xU t d:=by
  unfold xU;rw[g2,take_of_length_le ay,←l7,g3]
 rw[RN];have acQ:aZ (xU t d) (aZ (iZ (dY t) d) ((dY t).length+d.length+1)+1)=jR t d:=by unfold jR;rw[l7]
 rw[acQ,←l7];refine aj "Djzk[" ?_;refine WL.sub (Sub.refl _) (fun w h=>Sat.BX (m:=jR t d) (cap:=(jF t d).length+1) (s:=1) h (by rw[au,pO,Nat.mul_one]) pG.2 (by simp only[maxLen];omega)) ?_;refine WL.Gx (m:=jR t d) (q:=n-jR t d) underlying34 underlying3 yL rfl rfl (ak rfl) (ak rfl) ay ay ay rfl (fun A' c' hn' hc'=> ?_);refine aj "C" ?_;have he:(av .u8 (xU t d)).take (jR t d*1)++replicate (n-jR t d) (.int .u8 0)=av .u8 (mU t d):=by
  unfold mU;rw[dx,Nat.mul_one,dU,←hn,eD];rfl
 have hnn:jR t d+(n-jR t d)=n:=ay;refine aF.ret (H':=aV (.slice A' n c') 5 1 n (av .u8 (mU t d))::F) (bJ.eU rfl (look_eq rfl (by rw[hnn])) rfl) (fun w h=> ?_) ⟨A',c',rfl,rfl⟩;have h':=h.bg 4 [0] rfl;rw[he,hnn] at h';exact h'
theorem Il(hs:Seq K F A m 1 (ints .i64 xs))(hm:m≤1000000) :
 aB prog 103 #[.slice A m cap] K F (fun v H'=>∃A' cap',v= .slice A' m cap'∧H'=aV (.slice A' m cap') 3 1 m (ints .i64 xs)::F):=by
 have hl:xs.length=m:=by simpa [ints] using hs.len
 refine aB.lG (p:=A=none→xs=[]) (fun w hw hA=>by subst hA;simpa [ints] using hs.Rb hw) (fun RB=> ?_);refine aB.en func103 ntmps103 ?_;refine aj "af~~;i" (aW (fun aL=> ?_) fun aL=> ?_)
 ·have hA:A=none:=by cases A<;>simp at aL ⊢
  subst hA;have hx:=RB rfl;subst hx;obtain rfl:m=0:=hl.symm;refine aj "G" ?_;exact qR (aV (.slice none 0 0) _ 1 0 []::F) rfl rfl (fun w h=>Sat.gI h _ _) ⟨none,0,rfl,rfl⟩
 ·refine aj "9" ?_;refine WL.buildSlice (E:=3) (cs:=[]) (vs:=[]) trivial rfl (ZW ) rfl (fun b5=> ?_);refine WL.mv rfl rfl ?_;refine WL.sub (Sub.refl _) (fun w h=>Sat.BX (m:=0) (cap:=0) (s:=1) h rfl (Nat.le_refl _) (zero_le _)) ?_;refine WL.append (m:=0) (cs:=[]) underlying124 Me (ak rfl) (ak rfl) (by repeat (first | exact hs | apply Seq.up)) (xI _ _) ay rfl rfl (fun A' c' hn' hc'=> ?_);refine aj "d" ?_;refine aF.ret (H':=aV (.slice A' m c') _ 1 m (ints .i64 xs)::F) (bJ.tmp rfl (look_eq rfl (by simp))) (fun w h=> ?_) ⟨A',c',rfl,rfl⟩
  simpa using h
theorem EI{p:Int→Bool}(hs:Seq K F A m 1 (ints .i64 xs))(hm:m≤maxLen)(JM:bP prog fid)
 (hf:∀x∈xs,aK prog fid ([Value.int .i64 x]++O1).toArray K F (.bool (p x))) :
 aB prog 188 #[.slice A m cap,.func (.func fid) #[] O1.toArray] K F
  (fun v H'=>H'=F∧((v= .i (-1)∧∀x∈xs,p x=false)∨∃i:Nat,i<m∧v= .i (i:Int)∧(∀x∈xs.take i,p x=false)∧p (xs.getD i 0)=true)):=by
 have hl:xs.length=m:=by simpa [ints] using hs.len
 have zM:m≤9223372036854775807:=by simp only[maxLen] at hm;omega
 refine aB.en func188 ntmps188 ?_;refine aj "afkN" ?_;refine WC.loop (σ:=Nat) (fun i=>[(0,.slice A m cap),(1,.func (.func fid) #[] O1.toArray),(7,.i (m:Int)),(8,.i (i:Int))]) (fun i=>F) (fun i=>i≤m∧∀x∈xs.take i,p x=false) (fun i=>m-i) 0 ⟨zero_le _,fun x hx=>by simp at hx⟩ bC cO ?_;rintro i ⟨hi,hp⟩;refine aj "TZ" (aW (fun aL=> ?_) fun aL=> ?_)
 ·refine aj "1jz" ?_;refine WL.val (V.dw eB (ak rfl) (ak rfl) (fun hc=>by omega) (fun hc=>Seq.dD hs ay)) rfl ?_;refine WL.val (V.load isAgg3 (ak rfl) (fun hc=>Seq.dD hs ay)) rfl ?_;have Bv:(i:Int).toNat=i:=ay;have Kz:xs.getD i 0=xs[i]'ay:=by simp[getD,show i<xs.length by omega]
  refine WL.ny (first:=[]) (vs:=[_]) (captured:=O1) JM (ak rfl) ⟨ak rfl,trivial⟩ (hf (xs.getD i 0) (by rw[Kz];exact getElem_mem _)) rfl ?_;rintro _ H0 ⟨rfl,h0⟩;subst H0;refine aj "i" (aW (fun h1=> ?_) fun h1=> ?_)
  ·refine aj "ed" ?_;refine qR F rfl rfl cO ⟨rfl,.inr ⟨i,by omega,rfl,hp,h1⟩⟩
  ·refine aj "q7" ?_;refine⟨i+1,⟨by show i+1≤m;omega,fun x hx=> ?_⟩,(by show m-(i+1)<m-i;omega),.cons rfl bC,fun w h=>h⟩;rw[take_add_one,getElem?_eq_getElem ay,←Kz] at hx;rcases mem_append.1 hx with hx | hx
   ·exact hp x hx
   ·simp at hx;subst hx;exact h1
 ·refine aj "KG" ?_;obtain rfl:i=m:=by omega
  refine qR F rfl rfl cO ⟨rfl,.inl ⟨rfl,fun x hx=>hp x (by rw[take_of_length_le ay];exact hx)⟩⟩
theorem filter_all{p:Int→Bool}{xs:List Int}(h:∀x∈xs,p x=false):xs.filter (fun x=> !p x)=xs:=by grind [filter_eq_self]
theorem Tk{p:Int→Bool}(JM:bP prog fid)
 (hf:∀x∈xs,∀X,aK prog fid ([Value.int .i64 x]++O1).toArray K (X::F) (.bool (p x))) :
 aB prog 120 #[.slice A m cap,.func (.func fid) #[] O1.toArray] K (aV (.slice A m cap) 3 1 m (ints .i64 xs)::F)
  (fun v H'=>∃q,q=(xs.filter fun x=> !p x).length∧v= .slice A q cap∧H'=aV (.slice A q cap) 3 1 q (ints .i64 (xs.filter fun x=> !p x))::F):=by
 refine aB.lG (p:=xs.length=m) (fun w hw=>by have :=aV.len hw;rwa [bR,Nat.mul_one] at this) (fun hl=> ?_);cases A with
 | none =>
  refine aB.lG (p:=m=0∧cap=0∧xs=[]) (fun w hw=>by have :=aV.yM hw;simpa [ints] using this) (fun ⟨e1,e2,e3⟩=> ?_);subst e1 e2 e3;refine aB.en func120 ntmps120 ?_;refine aj "aY" ?_;refine WL.c2 call188 rfl rfl (EI (xs:=[]) (p:=p) Seq.agZ (zero_le _) JM (fun x hx=>by simp at hx)) rfl ?_;rintro _ _ ⟨rfl,⟨rfl,_⟩ | ⟨i,hi,_⟩⟩
  rotate_left
  ·exact absurd hi ay
  refine aj "f:b5ed" ?_;exact qR (aV (.slice none 0 0) _ 1 0 []::F) rfl rfl cO ⟨0,rfl,rfl,rfl⟩
 | some a =>
  refine aB.lG (p:=∃g,a=⟨g,0,none⟩) (fun w hw=>aV.addr hw) (fun ⟨g,e1⟩=> ?_);subst e1;refine aB.ex (fun w hw=>Sat.nU hw) (fun rs ⟨Dq,_,EB,Mc⟩=> ?_);have zM:m≤maxLen:=ay;have kS:cap≤9223372036854775807:=by simp only[maxLen] at Mc;omega
  have pG:rs.length=cap-m:=by rw[length_append,bR] at Dq;omega
  have yR:∀(ys:List Int) (cs:List Value) (w:World),cs.length=cap→ys.length≤cap→cs.take ys.length=ints .i64 ys→Sat K w (ah g 3 cs::F)→Sat K w (aV (.slice (some ⟨g,0,none⟩) ys.length cap) 3 1 ys.length (ints .i64 ys)::F):=fun ys cs w h1 h2 h3 h=>by
   have :=Sat.BX (s:=1) h (by rw[h1,Nat.mul_one]) h2 Mc;rw[Nat.mul_one,h3] at this;exact this
  have hSq:Seq K (ah g 3 (ints .i64 xs++rs)::F) (some ⟨g,0,none⟩) m 1 (ints .i64 xs):=Seq.here (by rw[bR];omega) (prefix_append _ _);by_cases nT:∀x∈xs,p x=false
  ·skip
   refine aB.en func120 ntmps120 ?_;refine aj "aY" ?_;refine WL.c2 call188 rfl rfl (EI (xs:=xs) (p:=p) hSq zM JM (fun x hx=>hf x hx _)) rfl ?_;rintro _ _ ⟨rfl,⟨rfl,_⟩ | ⟨i0,wR,rfl,alG,Zb⟩⟩
   rotate_left
   ·exfalso;have :xs.getD i0 0=xs[i0]'ay:=by simp[getD,show i0<xs.length by omega]
    rw[this,nT _ (getElem_mem _)] at Zb;cases Zb
   refine aj "f:b5ed" ?_;refine qR (aV (.slice (some ⟨g,0,none⟩) xs.length cap) _ 1 xs.length (ints .i64 xs)::F) rfl rfl (fun w h=>yR xs _ w ay ay (by rw[take_left' (bR _ _)]) h) ⟨xs.length,by rw[filter_all nT],by rw[hl],by rw[filter_all nT]⟩
  ·skip
   refine aB.en func120 ntmps120 ?_;refine aj "aY" ?_;refine WL.c2 call188 rfl rfl (EI (xs:=xs) (p:=p) hSq zM JM (fun x hx=>hf x hx _)) rfl ?_;rintro _ _ ⟨rfl,⟨rfl,uN⟩ | ⟨i0,wR,rfl,alG,Zb⟩⟩
   ·exact absurd uN nT
   have akS:i0<xs.length:=ay;refine aj "f:b" ?_;refine WC.ni rfl ((by simp)) ?_;refine aj "qr$gt" ?_;refine WC.loop (σ:=Nat×Nat×List Value) (fun x=>[(0,.slice (some ⟨g,0,none⟩) m cap),(1,.func (.func fid) #[] O1.toArray),(5,.i (x.1:Int)),(6,.i (x.2.1:Int))]) (fun x=>ah g 3 x.2.2::F) (fun x=>x.1<x.2.1∧x.2.1≤m∧x.2.2.length=cap∧x.1=((xs.take x.2.1).filter fun y=> !p y).length∧x.2.2.take x.1=ints .i64 ((xs.take x.2.1).filter fun y=> !p y)∧x.2.2.drop x.2.1=(ints .i64 xs++rs).drop x.2.1) (fun x=>m-x.2.1) (i0,i0+1,ints .i64 xs++rs) ?_ bC cO ?_
   ·have e1:(xs.take (i0+1)).filter (fun y=> !p y)=xs.take i0:=by
     rw[take_add_one,getElem?_eq_getElem akS,filter_append,filter_all alG];have :p xs[i0]=true:=by simpa [getD,akS] using Zb
     simp[this]
    refine⟨by show i0<i0+1;omega,by show i0+1≤m;omega,by rw[Dq];omega, ?_, ?_,rfl⟩
    ·show i0=((xs.take (i0+1)).filter fun y=> !p y).length;rw[e1,length_take];omega
    ·show (ints .i64 xs++rs).take i0=ints .i64 ((xs.take (i0+1)).filter fun y=> !p y);rw[e1,take_append_of_le_length (by rw[bR];omega),LY]
   rintro⟨i,j,cs⟩ ⟨ZI,hjm,ahV,hi,Du,JI⟩;dsimp only at ZI hjm ahV hi Du JI ⊢;refine aj "rck4bZ" (aW (fun aQ=> ?_) fun aQ=> ?_)
   ·refine aj "IM" ?_;have aq7:j<m:=ay;have hgj:cs[0+(j:Int).toNat*1]? =some (.i (xs.getD j 0)):=by
     have e1:=congrArg (·[0]?) JI;simp only[getElem?_drop,Nat.add_zero] at e1;rw[show 0+(j:Int).toNat*1=j by omega,e1,getElem?_append_left (by rw[bR];omega),tY _ _ ay]
    have hgx:xs.getD j 0=xs[j]'ay:=by simp[getD,show j<xs.length by omega]
    have htj:xs.take (j+1)=xs.take j++[xs.getD j 0]:=by rw[take_add_one,getElem?_eq_getElem ay,hgx];rfl
    refine aj "P~r" ?_;refine WL.val (V.load isAgg3 (ak rfl) (fun _=>Rd.here hgj)) rfl ?_;refine aj "Y" ?_;refine WL.ny (first:=[]) (vs:=[_]) (captured:=O1) JM (ak rfl) ⟨ak rfl,trivial⟩ (hf (xs.getD j 0) (by rw[hgx];exact getElem_mem _) _) rfl ?_;rintro _ H0 ⟨rfl,h0⟩;subst H0;refine aj "*i" (aW (fun h2=> ?_) fun h2=> ?_)
    ·simp only[Bool.not_eq_true',Bool.not_eq_false'] at h2;have dL:[xs.getD j 0].filter (fun y=> !p y)=[xs.getD j 0]:=by rw[filter_cons_of_pos (by rw[h2];rfl)];rfl
     refine aj "ez~r" ?_;refine WL.store (cs:=[_]) sizeOf3 (ak rfl) (ak rfl) rfl rfl rfl (bT.at_ ay) ?_;refine aj "bh$gh$X" ?_;have XR:=dL;refine⟨(i+1,j+1,cs.set (0+(i:Int).toNat*1) (.i (xs.getD j 0))),⟨by show i+1<j+1;omega,by show j+1≤m;omega,by rw[length_set];exact ahV, ?_, ?_, ?_⟩,(by show m-(j+1)<m-j;omega),.cons rfl bC,fun w h=>h⟩
     ·show i+1=((xs.take (j+1)).filter fun y=> !p y).length;rw[htj,filter_append,XR,length_append,←hi];rfl
     ·show (cs.set (0+(i:Int).toNat*1) (.i (xs.getD j 0))).take (i+1)=ints .i64 ((xs.take (j+1)).filter fun y=> !p y);rw[htj,filter_append,XR,gY,←Du,show 0+(i:Int).toNat*1=i by omega,take_add_one,getElem?_set_self ay,take_set_of_le ay];rfl
     ·show (cs.set (0+(i:Int).toNat*1) (.i (xs.getD j 0))).drop (j+1)=(ints .i64 xs++rs).drop (j+1);rw[show 0+(i:Int).toNat*1=i by omega,drop_set_of_lt ay];have :=congrArg (List.drop 1) JI
      rwa [drop_drop,drop_drop] at this
    ·simp only[Bool.not_eq_true',Bool.not_eq_false'] at h2;have hse:[xs.getD j 0].filter (fun y=> !p y)=[]:=by rw[filter_cons_of_neg (by rw[h2];decide)];rfl
     refine aj "qh$X" ?_;refine⟨(i,j+1,cs),⟨by show i<j+1;omega,by show j+1≤m;omega,ahV, ?_, ?_, ?_⟩,(by show m-(j+1)<m-j;omega),.cons rfl bC,fun w h=>h⟩
     ·show i=((xs.take (j+1)).filter fun y=> !p y).length;rw[htj,filter_append,hse,length_append,←hi];rfl
     ·show cs.take i=ints .i64 ((xs.take (j+1)).filter fun y=> !p y);rw[htj,filter_append,hse,append_nil,Du]
     ·have :=congrArg (List.drop 1) JI
      rwa [drop_drop,drop_drop] at this
   ·refine aj "Kec" ?_;have hje:j=m:=ay;subst hje;refine WL.val (V.slice (l:=i) (h:=j) (u:=cap) eB (ak rfl) (OO.some (ak rfl) (fun _=>rfl)) OO.none OO.none (by simp) ay ay (Nat.le_refl _)) rfl ?_;refine WL.agS (b:=g) (o:=i) underlying124 zeroValue3 rfl rfl (ak rfl) (fun hq=>by rw[if_neg ay];simp[jM]) (bT.row (by rw[length_replicate];omega)) ?_;refine aj "bec" ?_;refine WL.val (V.slice (l:=0) (h:=i) (u:=cap) eB (ak rfl) OO.none (OO.some (ak rfl) (fun _=>rfl)) OO.none (by simp) ay ay (Nat.le_refl _)) rfl ?_;refine aj "d" ?_;rw[take_of_length_le (Nat.le_of_eq hl)] at hi Du;refine aF.ret (H':=aV (.slice (some ⟨g,0,none⟩) i cap) _ 1 i (ints .i64 (xs.filter fun y=> !p y))::F) (bJ.tmp rfl (look_eq rfl (by simp[Addr.add]))) (fun w h=> ?_) ⟨i,hi,rfl,rfl⟩;have hlen:(cs.take i++replicate (j-i) (Value.int .i64 0)++cs.drop (i+(replicate (j-i) (Value.int .i64 0)).length)).length=cap:=by
     simp only[length_append,length_take,length_replicate,length_drop];omega
    have :=yR (xs.filter fun y=> !p y) _ w hlen ay (by rw[←hi,append_assoc,take_left' (by rw[length_take];omega),Du]) h;rw[←hi] at this;exact this
structure BM where
 c:List Nat
 b:List Nat
 (length shift last:Nat)
def EX(s c:List Nat)(n:Nat):Nat→Nat
 | 0=>s.getD n 0
 | k+1=>EX s c n k ^^^ kK (c.getD (k+1) 0) (s.getD (n-(k+1)) 0)
def xX(c b:List Nat)(Kc shift:Nat):Nat→List Nat
 | 0=>c
 | k+1=>(xX c b Kc shift k).set (k+shift) ((xX c b Kc shift k).getD (k+shift) 0 ^^^ kK Kc (b.getD k 0))
def bmD(s:List Nat)(n:Nat)(x:BM):Nat:=EX s x.c n (min x.length (x.c.length-1))
def qG(x:BM):List Nat:=x.c++replicate (x.b.length+x.shift-x.c.length) 0
def bmC(x:BM)(d:Nat):List Nat:=xX (qG x) x.b (kK d (ahm x.last)) x.shift x.b.length
def DJ(s:List Nat)(n:Nat)(x:BM):BM :=
 if bmD s n x=0 then { x with shift:=x.shift+1 }
 else if 2*x.length≤n then ⟨bmC x (bmD s n x),x.c,n+1-x.length,1,bmD s n x⟩
 else ⟨bmC x (bmD s n x),x.b,x.length,x.shift+1,x.last⟩
def qO(s:List Nat):Nat→BM
 | 0=>⟨[1],[1],0,1,1⟩
 | n+1=>DJ s n (qO s n)
structure BM.Ok(n:Nat)(x:BM):Prop where
 c1:1≤x.c.length
 c2:x.c.length≤n+1
 b2:x.b.length+x.shift≤n+2
 l:x.length≤n
 cs:aA 8192 x.c
 bs:aA 8192 x.b
 la:x.last<8192
 l0:x.last≠0
theorem Df(hs:aA 8192 s)(hc:aA 8192 c):∀k,EX s c n k<8192
 | 0=>hs.at_ aN _
 | k+1=>je (k:=13) (Df hs hc k) (fD (hc.at_ aN _))
theorem vF(c b:List Nat)(y sh:Nat):∀k,(xX c b y sh k).length=c.length
 | 0=>rfl
 | k+1=>by rw[xX,length_set,vF]
theorem rH(hc:aA 8192 c)(hy:y<8192):∀k,aA 8192 (xX c b y sh k)
 | 0=>hc
 | k+1=>(rH hc hy k).set (je (k:=13) ((rH hc hy k).at_ aN _) (fD hy))
theorem BU(x:BM):(qG x).length=x.c.length+(x.b.length+x.shift-x.c.length):=by simp[qG]
theorem Je(x:BM)(d:Nat):(bmC x d).length=(qG x).length:=vF _ _ _ _ _
theorem WO(hs:aA 8192 s)(h:x.Ok n):(DJ s n x).Ok (n+1):=by
 have hd:bmD s n x<8192:=Df hs h.cs _;have h1:=h.c1;have h2:=h.c2;have h3:=h.b2;have h4:=h.l;have UW:=BU x;have JM:=Je x (bmD s n x);have nS:aA 8192 (bmC x (bmD s n x)):=rH (h.cs.append (aA.wJ aN)) (fD hd) _;unfold DJ;split
 ·exact⟨h.c1,by show x.c.length≤n+1+1;omega,by show x.b.length+(x.shift+1)≤n+1+2;omega,by show x.length≤n+1;omega,h.cs,h.bs,h.la,h.l0⟩
 ·rename_i h0;split
  ·exact⟨by show 1≤(bmC x _).length;omega,by show (bmC x _).length≤n+1+1;omega,by show x.c.length+1≤n+1+2;omega,by show n+1-x.length≤n+1;omega,nS,h.cs,hd,h0⟩
  ·exact⟨by show 1≤(bmC x _).length;omega,by show (bmC x _).length≤n+1+1;omega,by show x.b.length+(x.shift+1)≤n+1+2;omega,by show x.length≤n+1;omega,nS,h.bs,h.la,h.l0⟩
theorem Gz(hs:aA 8192 s):∀n,(qO s n).Ok n
 | 0=>⟨Nat.le_refl 1,Nat.le_refl 1,Nat.le_refl 2,Nat.le_refl 0,fun y hy=>by rw[mem_singleton.1 hy];decide,fun y hy=>by rw[mem_singleton.1 hy];decide,(by decide:1<8192),(by decide:1≠0)⟩
 | n+1=>WO hs (Gz hs n)
def vE(s:List Nat):List Nat:=(qO s s.length).c
def xE(s:List Nat):Nat:=aZ (vE s) (vE s).length
theorem FN(hs:Seq K F A m 1 (av .i64 xs))(hm:m≤1000000) :
 aB prog 103 #[.slice A m cap] K F (fun v H'=>∃A' cap',v= .slice A' m cap'∧H'=aV (.slice A' m cap') 3 1 m (av .i64 xs)::F):=by
 rw[Ew] at hs ⊢;exact Il hs hm
structure LSt where
 n:Nat
 (gc gb cc cb:Nat)
 rc:List Value
 rb:List Value
theorem Qo(hs:Seq K F A m 1 (av .i64 s))(hs8:aA 8192 s)(hm:m≤64) :
 aB prog 284 #[.slice A m cap] K F
  (fun v H'=>∃g cap' r,v= .slice (some ⟨g,0,none⟩) (xE s) cap'∧H'=ah g 3 (av .i64 (vE s)++r)::F):=by
 have hl:s.length=m:=by simpa [av] using hs.len
 refine aB.en func284 ntmps284 ?_;refine aj "av" ?_;refine WL.buildSlice (E:=3) (cs:=[_]) (vs:=[(0,_)]) ⟨ak rfl,trivial⟩ rfl (dJ _) rfl (fun b17=> ?_);refine WL.buildSlice (E:=3) (cs:=[_]) (vs:=[(0,_)]) ⟨ak rfl,trivial⟩ rfl (dJ _) rfl (fun b18=> ?_);refine aj "lvllfkN" ?_;refine WC.loop (σ:=LSt) (fun x=>[(0,.slice A m cap),(3,.slice (some ⟨x.gc,0,none⟩) (qO s x.n).c.length x.cc),(4,.slice (some ⟨x.gb,0,none⟩) (qO s x.n).b.length x.cb),(5,.i ((qO s x.n).length:Nat)),(6,.i ((qO s x.n).shift:Nat)),(7,.i ((qO s x.n).last:Nat)),(20,.i (m:Int)),(21,.i (x.n:Int))]) (fun x=>ah x.gc 3 (av .i64 (qO s x.n).c++x.rc)::ah x.gb 3 (av .i64 (qO s x.n).b++x.rb)::F) (fun x=>x.n≤m∧(qO s x.n).c.length≤x.cc∧(qO s x.n).b.length≤x.cb) (fun x=>m-x.n) ⟨0,b17,b18,1,1,[],[]⟩ ⟨zero_le _,Nat.le_refl _,Nat.le_refl _⟩ bC (fun w h=>h.bg 2 [1,0] rfl) ?_;rintro⟨n,gc,gb,cc,cb,rc,rb⟩ ⟨hn,Dw,FR⟩;dsimp only at hn Dw FR ⊢;obtain⟨x,hx⟩:∃x,x=qO s n:=⟨_,rfl⟩;have Dv:x.Ok n:=by rw[hx];exact Gz hs8 n
 have gL:qO s (n+1)=DJ s n x:=by rw[qO,←hx]
 rw[←hx] at Dw FR ⊢;obtain⟨xc1,xc2,xb2,xl,xcs,xbs,xla,xl0⟩:=Dv;refine aj "TZ" (aW (fun aL=> ?_) fun aL=> ?_)
 ·refine aj "1u" ?_;have hnm:n<m:=ay;have hsu:∀ {X Y:aH},Seq K (X::Y::F) A m 1 (av .i64 s):=fun {X Y}=>hs.up.up;have Zd:∀ {X Y:aH},Rd K (X::Y::F) (A.map (·.add ((n:Int).toNat*1))) (.i (s.getD n 0:Nat)):=fun {X Y}=>by
   rw[show (n:Int).toNat=n by omega];exact hsu.jo ay
  refine aj "P" ?_;refine WL.val (V.dw eB (ak rfl) (ak rfl) (fun hc=>by omega) (fun hc=>Zd)) rfl ?_;refine WL.val (V.load isAgg3 (ak rfl) (fun hc=>Zd)) rfl ?_;refine aj "uagt" ?_;refine WC.loop (σ:=Nat) (fun k=>[(0,.slice A m cap),(3,.slice (some ⟨gc,0,none⟩) x.c.length cc),(4,.slice (some ⟨gb,0,none⟩) x.b.length cb),(5,.i (x.length:Nat)),(6,.i (x.shift:Nat)),(7,.i (x.last:Nat)),(20,.i (m:Int)),(21,.i (n:Int)),(8,.i (n:Int)),(9,.i (EX s x.c n k:Nat)),(10,.i ((k:Int)+1))]) (fun k=>ah gc 3 (av .i64 x.c++rc)::ah gb 3 (av .i64 x.b++rb)::F) (fun k=>k≤min x.length (x.c.length-1)) (fun k=>min x.length (x.c.length-1)-k) 0 (zero_le _) bC cO ?_;rintro k hk;refine aj "rc~>c!!~~m~~qQi" (aW (fun aQ=> ?_) fun aQ=> ?_)
  ·simp only[Gi] at aQ;have h0:=aQ;refine aj "I" ?_;have vX:k+1≤x.length∧k+1<x.c.length:=ay;have hgc:(av .i64 x.c++rc)[0+((k:Int)+1).toNat*1]? =some (.i (x.c.getD (k+1) 0:Nat)):=by rw[show 0+((k:Int)+1).toNat*1=k+1 by omega];exact mF _ _ _ ay
   have ajy:∀ {X Y:aH},Rd K (X::Y::F) (A.map (·.add (((n:Int)-((k:Int)+1)).toNat*1))) (.i (s.getD (n-(k+1)) 0:Nat)):=fun {X Y}=>by
    rw[show ((n:Int)-((k:Int)+1)).toNat=n-(k+1) by omega];exact hsu.jo ay
   have JM:=xcs.at_ aN (k+1);have mR:=hs8.at_ aN (n-(k+1));refine aj "~k&&&" ?_;refine WQ.val (V.FW eB (ak rfl) (ak rfl) (fun hc=>by omega)) rfl ?_;refine WQ.val (V.load isAgg3 (ak rfl) (fun hc=>Rd.here hgc)) rfl ?_;refine aj "&&&~~<" ?_;refine WQ.val (V.dw eB (ak rfl) (ak rfl) (fun hc=>by omega) (fun hc=>ajy)) rfl ?_;refine WQ.val (V.load isAgg3 (ak rfl) (fun hc=>ajy)) rfl ?_;refine WQ.call (vs:=[_,_]) call288 ⟨ak rfl,ak rfl,trivial⟩ (zu JM mR) rfl ?_;refine WQ.val (V.aG (v':= .i (EX s x.c n (k+1):Nat)) (V.xor (ak rfl) (ak rfl)) (fun _=>by rw[nC (by have :=Df hs8 xcs (n:=n) k;omega) (by have :=fD (b:=s.getD (n-(k+1)) 0) JM;omega),EX])) rfl ?_;refine aj "~n~fh$X" ?_;exact⟨k+1,(by show k+1≤min x.length (x.c.length-1);omega),(by show min x.length (x.c.length-1)-(k+1)<min x.length (x.c.length-1)-k;omega),.cons rfl bC,fun w h=>h⟩
  ·simp only[Gi] at aQ;have h0:=aQ;refine aj "WM" ?_;have YX:k=min x.length (x.c.length-1):=by
    rcases h0 with h | h<;>omega
   have hD:EX s x.c n k=bmD s n x:=by rw[YX];rfl
   obtain⟨d,hd⟩:∃d,d=bmD s n x:=⟨_,rfl⟩;rw[hD,←hd];have Nf:d<8192:=by rw[hd];exact Df hs8 xcs _
   unfold DJ at gL;rw[←hd] at gL;refine aj "h:bZ" (aW (fun bA=> ?_) fun bA=> ?_)
   ·have h2:=bA;rw[if_pos ay] at gL;refine aj "e$gK7" ?_;exact⟨⟨n+1,gc,gb,cc,cb,rc,rb⟩,⟨by show n+1≤m;omega,by show (qO s (n+1)).c.length≤cc;rw[gL];exact Dw,by show (qO s (n+1)).b.length≤cb;rw[gL];exact FR⟩,(by show m-(n+1)<m-n;omega),.cons rfl (.cons (look_eq rfl (by rw[gL])) (.cons (look_eq rfl (by rw[gL])) (.cons (look_eq rfl (by rw[gL])) (.cons (look_eq rfl (by rw[gL];simp)) (.cons (look_eq rfl (by rw[gL])) bC))))),fun w h=>by dsimp only;rw[gL];exact h⟩
   ·have h2:=bA;have hd0:d≠0:=ay;rw[if_neg hd0] at gL;refine aj "U" ?_;refine WL.t1 call324 rfl (ahl xla xl0) rfl ?_;refine aj "DY" ?_;refine WL.t2 call288 rfl rfl (zu Nf (U5 xla)) rfl ?_;refine aj "u" ?_;obtain⟨y,hy⟩:∃y,y=kK d (ahm x.last):=⟨_,rfl⟩;have hy8:y<8192:=by rw[hy];exact fD Nf
    rw[←hy];refine aj "h" ?_;refine WL.c1 call103 rfl (FN (xs:=x.c) (Seq.here (by rw[au];omega) (by rw[drop_zero];exact prefix_append _ _)) ay) rfl ?_;rintro _ _ ⟨A1,c1,rfl,rfl⟩;refine WL.ex (BP ay) (fun ⟨go,ro⟩ ⟨e1,Dq,aQ⟩=> ?_);dsimp only at e1 Dq ⊢;subst e1;have hco:x.c.length≤c1:=by rw[←Dq,length_append,au];omega
    refine aj "ut" ?_;refine WC.loop (σ:=Nat×Nat×Nat×List Value) (fun z=>[(0,.slice A m cap),(3,.slice (some ⟨z.2.1,0,none⟩) (x.c.length+z.1) z.2.2.1),(4,.slice (some ⟨gb,0,none⟩) x.b.length cb),(5,.i (x.length:Nat)),(6,.i (x.shift:Nat)),(7,.i (x.last:Nat)),(20,.i (m:Int)),(21,.i (n:Int)),(8,.i (n:Int)),(9,.i (d:Nat)),(13,.i (y:Nat)),(14,.slice (some ⟨go,0,none⟩) x.c.length c1)]) (fun z=>ah z.2.1 3 (av .i64 (x.c++replicate z.1 0)++z.2.2.2)::ah go 3 (av .i64 x.c++ro)::ah gb 3 (av .i64 x.b++rb)::F) (fun z=>z.1≤x.b.length+x.shift-x.c.length∧x.c.length+z.1≤z.2.2.1) (fun z=>x.b.length+x.shift-z.1) (0,gc,cc,rc) ⟨zero_le _,Dw⟩ bC (fun w h=>Sat.aT (h.bg 3 [1,0,2] rfl) (by simp)) ?_;rintro⟨z,g,cz,rz⟩ ⟨hz,hzc⟩;dsimp only at hz hzc ⊢;refine aj "rkckc$4bZ" (aW (fun eu=> ?_) fun eu=> ?_)
    ·refine aj "qtPkck" ?_;refine WL.val (V.aG (v':= .slice (some ⟨g,0,none⟩) (x.c.length+z) (x.c.length+z)) (V.slice (l:=0) (h:=x.c.length+z) (u:=x.c.length+z) eB (ak rfl) OO.none (OO.some (ak rfl) (fun _=>by omega)) (OO.some (ak rfl) (fun _=>by omega)) (by simp) (zero_le _) (Nat.le_refl _) hzc) (fun _=>by simp[jM])) rfl ?_;refine WL.buildSlice (E:=3) (cs:=[_]) (vs:=[(0,_)]) ⟨ak rfl,trivial⟩ rfl (dJ _) rfl (fun b79=> ?_);have hzl:(av .i64 (x.c++replicate z 0)).length=x.c.length+z:=by simp[av]
     refine WL.D7 (m:=x.c.length+z) (q:=1) (cs:=av .i64 (x.c++replicate z 0)) (news:=[.i 0]) underlying124 Me (ak rfl) (ak rfl) (Seq.up (Seq.here ay (by rw[drop_zero];exact prefix_append _ _))) (Seq.all rfl) ay ay aN ay rfl rfl (fun A2 c2 RU bA=> ?_);refine WL.ex (BP ay) (fun ⟨g2,r2⟩ ⟨e2,EB,mV⟩=> ?_);dsimp only at e2 EB ⊢;subst e2;refine aj "X" ?_;exact⟨(z+1,g2,c2,r2),⟨by show z+1≤x.b.length+x.shift-x.c.length;omega,bA⟩,(by show x.b.length+x.shift-(z+1)<x.b.length+x.shift-z;omega),.cons rfl bC,fun w h=>Sat.aT (h.bg 5 [0,3,4] rfl) (by simp[av,replicate_succ'])⟩
    ·refine aj "W" ?_;have hze:z=x.b.length+x.shift-x.c.length:=ay;have hex:x.c++replicate z 0=qG x:=by rw[hze];rfl
     have anX:(qG x).length=x.c.length+z:=by rw[BU,hze]
     have anu:aA 8192 (qG x):=xcs.append (aA.wJ aN);rw[hex,←anX];refine aj "h" ?_;refine WL.c1 call103 rfl (FN (xs:=qG x) (Seq.here (by rw[au];omega) (by rw[drop_zero];exact prefix_append _ _)) ay) rfl ?_;rintro _ _ ⟨A3,c3,rfl,rfl⟩;refine WL.ex (BP ay) (fun ⟨g3,r3⟩ ⟨e3,Mc,eu⟩=> ?_);dsimp only at e3 Mc ⊢;subst e3;have ag1:(qG x).length≤c3:=by rw[←Mc,length_append,au];omega
     refine aj "fkN" ?_;refine WC.loop (σ:=Nat) (fun k=>[(0,.slice A m cap),(3,.slice (some ⟨g3,0,none⟩) (qG x).length c3),(4,.slice (some ⟨gb,0,none⟩) x.b.length cb),(5,.i (x.length:Nat)),(6,.i (x.shift:Nat)),(7,.i (x.last:Nat)),(20,.i (m:Int)),(21,.i (n:Int)),(8,.i (n:Int)),(9,.i (d:Nat)),(13,.i (y:Nat)),(14,.slice (some ⟨go,0,none⟩) x.c.length c1),(83,.slice (some ⟨gb,0,none⟩) x.b.length cb),(84,.i (x.b.length:Nat)),(85,.i (k:Int))]) (fun k=>ah g3 3 (av .i64 (xX (qG x) x.b y x.shift k)++r3)::ah go 3 (av .i64 x.c++ro)::ah gb 3 (av .i64 x.b++rb)::F) (fun k=>k≤x.b.length) (fun k=>x.b.length-k) 0 (zero_le _) bC (fun w h=>h.bg 4 [0,2,3] rfl) ?_;rintro k hk2;refine aj "TZ" (aW (fun mQ=> ?_) fun mQ=> ?_)
     ·refine aj "IM" ?_;have hkb:k<x.b.length:=ay;obtain⟨o,ho⟩:∃o,o=xX (qG x) x.b y x.shift k:=⟨_,rfl⟩;have Gh:o.length=(qG x).length:=by rw[ho,vF]
      have Zy:aA 8192 o:=by rw[ho];exact rH anu hy8 k
      rw[←ho];have RN:Rd K (ah g3 3 (av .i64 o++r3)::ah go 3 (av .i64 x.c++ro)::ah gb 3 (av .i64 x.b++rb)::F) (some ⟨gb,0+(k:Int).toNat*1,none⟩) (.i (x.b.getD k 0:Nat)):=by
       rw[show 0+(k:Int).toNat*1=k by omega];exact Rd.up (Rd.up (Rd.here (mF _ _ _ hkb)))
      have hgo:(av .i64 o++r3)[0+((k:Int)+(x.shift:Int)).toNat*1]? =some (.i (o.getD (k+x.shift) 0:Nat)):=by rw[show 0+((k:Int)+(x.shift:Int)).toNat*1=k+x.shift by omega];exact mF _ _ _ ay
      have BI:=xbs.at_ aN k;refine aj "h~r" ?_;refine WL.val (V.load isAgg3 (ak rfl) (fun hc=>RN)) rfl ?_;refine aj "lg" ?_;refine WC.dM (ah go 3 (av .i64 x.c++ro)::ah gb 3 (av .i64 x.b++rb)::F) (by kernel_rfl) ?_;refine aj "m0m1m2~~=3~c4m6m7" ?_;refine WA.two (i:=5) (j:=8) eO (by kernel_rfl) rfl rfl ?_ ?_
      ·refine WL.val (V.load isAgg3 (ak rfl) (fun hc=>Rd.here hgo)) rfl ?_;refine aj "bn8" ?_;refine WL.t2 call288 rfl rfl (zu hy8 BI) rfl ?_;refine WL.nil ?_;refine WA.t 9 rfl (V.aG (v':= .i ((o.getD (k+x.shift) 0 ^^^ kK y (x.b.getD k 0):Nat):Int)) (V.xor (ak rfl) (ak rfl)) (fun _=>by rw[nC (by have :=Zy.at_ aN (k+x.shift);omega) (by have :=fD (b:=x.b.getD k 0) hy8;omega)])) ?_;refine aj "~c:n;" ?_;refine WL.store (cs:=[_]) sizeOf3 (ak rfl) (ak rfl) rfl rfl rfl (bT.at_ (by rw[length_append,au];omega)) ?_;refine aj "bO7" ?_;refine⟨k+1,(by show k+1≤x.b.length;omega),(by show x.b.length-(k+1)<x.b.length-k;omega),.cons rfl bC,fun w h=>Sat.aT h ?_⟩;rw[show 0+((k:Int)+(x.shift:Int)).toNat*1=k+x.shift by omega,uj _ _ _ ay,xX,←ho]
      ·refine WL.t2 call288 rfl rfl (zu hy8 BI) rfl ?_;refine aj "bn5" ?_;refine WL.val (V.load isAgg3 (ak rfl) (fun hc=>Rd.here hgo)) rfl ?_;refine WL.nil ?_;refine WA.t 9 rfl (V.aG (v':= .i ((o.getD (k+x.shift) 0 ^^^ kK y (x.b.getD k 0):Nat):Int)) (V.xor (ak rfl) (ak rfl)) (fun _=>by rw[nC (by have :=Zy.at_ aN (k+x.shift);omega) (by have :=fD (b:=x.b.getD k 0) hy8;omega)])) ?_;refine aj "~c:n;" ?_;refine WL.store (cs:=[_]) sizeOf3 (ak rfl) (ak rfl) rfl rfl rfl (bT.at_ (by rw[length_append,au];omega)) ?_;refine aj "bO7" ?_;refine⟨k+1,(by show k+1≤x.b.length;omega),(by show x.b.length-(k+1)<x.b.length-k;omega),.cons rfl bC,fun w h=>Sat.aT h ?_⟩;rw[show 0+((k:Int)+(x.shift:Int)).toNat*1=k+x.shift by omega,uj _ _ _ ay,xX,←ho]
     ·refine aj "W" ?_;obtain rfl:k=x.b.length:=by omega
      have hC:xX (qG x) x.b y x.shift x.b.length=bmC x d:=by rw[hy];rfl
      rw[hC];have hCl:(bmC x d).length=(qG x).length:=Je x d;rw[←hCl] at ag1 ⊢;refine aj "h~Lc~>bZ" (aW (fun h5=> ?_) fun h5=> ?_)
      ·rw[if_pos ay] at gL;refine aj "h$c[zlllg7" ?_;exact⟨⟨n+1,g3,go,c3,c1,r3,ro⟩,⟨by show n+1≤m;omega,by show (qO s (n+1)).c.length≤c3;rw[gL];exact ag1,by show (qO s (n+1)).b.length≤c1;rw[gL];exact hco⟩,(by show m-(n+1)<m-n;omega),.cons rfl (.cons (look_eq rfl (by rw[gL])) (.cons (look_eq rfl (by rw[gL])) (.cons (look_eq rfl (by rw[gL];simp;omega)) (.cons (look_eq rfl (by rw[gL];rfl)) (.cons (look_eq rfl (by rw[gL])) bC))))),fun w h=>by dsimp only;rw[gL];exact h.bg 3 [0,1] rfl⟩
      ·rw[if_neg ay] at gL;refine aj "h$g7" ?_;exact⟨⟨n+1,g3,gb,c3,cb,r3,rb⟩,⟨by show n+1≤m;omega,by show (qO s (n+1)).c.length≤c3;rw[gL];exact ag1,by show (qO s (n+1)).b.length≤cb;rw[gL];exact FR⟩,(by show m-(n+1)<m-n;omega),.cons rfl (.cons (look_eq rfl (by rw[gL])) (.cons (look_eq rfl (by rw[gL])) (.cons (look_eq rfl (by rw[gL])) (.cons (look_eq rfl (by rw[gL];simp)) (.cons (look_eq rfl (by rw[gL])) bC))))),fun w h=>by dsimp only;rw[gL];exact h.bg 3 [0,2] rfl⟩
 ·refine aj "Wt" ?_;refine WC.loop (σ:=Nat) (fun j=>[(3,.slice (some ⟨gc,0,none⟩) j cc)]) (fun j=>ah gc 3 (av .i64 x.c++rc)::F) (fun j=>j≤x.c.length∧aZ x.c j=aZ x.c x.c.length) (fun j=>j) x.c.length ⟨Nat.le_refl _,rfl⟩ bC (fun w h=>h.bg 2 [0] rfl) ?_;rintro j ⟨hj,Wx⟩;have hgc:0<j→(av .i64 x.c++rc)[0+((j:Int)-1).toNat*1]? =some (.i (x.c.getD (j-1) 0:Nat)):=fun h=>by rw[show 0+((j:Int)-1).toNat*1=j-1 by omega];exact mF _ _ _ ay
  refine aj "rk~Jc!!~~m~~&" ?_;refine WL.bI (oj:=_) rfl rfl rfl GC.t (V.FW eB (OV.g rfl id) (OV.g rfl id) (fun hc=>by simp at hc;omega)) rfl ?_;refine WL.bI (oj:=_) rfl rfl rfl GC.t (V.load isAgg3 (OV.g rfl id) (fun hc=>Rd.here (hgc (by simp at hc;omega)))) rfl ?_;refine aj "~NQi" (aW (fun h6=> ?_) fun h6=> ?_)
  ·simp only[Gi] at h6;refine aj "qtPk[" ?_;refine WL.val (V.aG (v':= .slice (some ⟨gc,0,none⟩) (j-1) cc) (V.slice (l:=0) (h:=j-1) (u:=cc) eB (ak rfl) OO.none (OO.some (ak rfl) (fun _=>by omega)) OO.none (by simp) (zero_le _) ay (Nat.le_refl _)) (fun _=>by simp[jM])) rfl ?_;refine aj "X" ?_;refine⟨j-1,⟨by show j-1≤x.c.length;omega, ?_⟩,(by show j-1<j;omega),.cons rfl (.nil _),fun w h=>h⟩;obtain⟨i,rfl⟩:∃i,j=i+1:=⟨j-1,by omega⟩;rw[←Wx,aZ,if_pos (by have :=h6.2;simp at this ⊢;omega)];rfl
  ·simp only[Gi] at h6;refine aj "Ked" ?_;obtain rfl:n=m:=by omega
   have hlC:vE s=x.c:=by unfold vE;rw[hl,←hx]
   have hj2:aZ x.c x.c.length=j:=by
    rw[←Wx];cases j with
    | zero=>rfl
    | succ i =>
     rw[aZ,if_neg];intro hz;rcases h6 with h1 | h1
     ·omega
     ·have h2:¬((x.c.getD i 0:Nat):Int)=0:=h1;exact h2 (by rw[hz];rfl)
   refine qR (ah gc _ _::F) rfl rfl cO ⟨gc,cc,rc, ?_,by rw[hlC]⟩;unfold xE;rw[hlC,hj2]
def Dr(x:Nat):Nat:=(List.range 8).countP fun k=>x.testBit k
theorem abo{x:Nat}(hx:x<256)(h0:x≠0):bitsOf .and .u8 (x:Int) ((x:Int)-1)=((x &&& (x-1):Nat):Int)∧Dr (x &&& (x-1))+1=Dr x∧(x &&& (x-1))<x:=by
 have h:((List.range 256).all fun a=>decide (a≠0→bitsOf .and .u8 ((a:Nat):Int) (((a:Nat):Int)-1)=((a &&& (a-1):Nat):Int)∧Dr (a &&& (a-1))+1=Dr a∧(a &&& (a-1))<a))=true:=by kernel_rfl
 have h1:=all_eq_true.1 h x (mem_range.2 hx);exact of_decide_eq_true h1 h0
theorem Vk(x:Nat):Dr x≤8:=by
 have :=countP_le_length (p:=fun k=>x.testBit k) (l:=List.range 8);rw[length_range] at this;exact this
def rE:List Nat→Nat
 | []=>0
 | x::xs=>Dr x+rE xs
theorem ML:∀xs:List Nat,rE xs≤8*xs.length
 | []=>zero_le _
 | x::xs=>by
  have :=ML xs;have :=Vk x;simp only[rE,length_cons];omega
theorem FE:∀xs ys:List Nat,rE (xs++ys)=rE xs+rE ys
 | [],ys=>by simp[rE]
 | x::xs,ys=>by rw[cons_append,rE,rE,FE xs ys];omega
theorem xZ(xs:List Nat)(h:j<xs.length):xs.take (j+1)=xs.take j++[xs.getD j 0]:=by grind [take_add_one,getElem?_eq_getElem,getD]
def nz(x:Nat):Nat:=if x=0 then 0 else 1
def jk(s:List Nat):List Nat:=s.map nz
theorem K6(hs:Seq K F A m 1 (av .u8 xs))(hx:aA 256 xs)(hm:m≤100000000):aK prog 282 #[.slice A m cap] K F (.i (rE xs:Nat)):=by
 have hl:xs.length=m:=by simpa [av] using hs.len
 refine aB.en func282 ntmps282 ?_;refine aj "avfkN" ?_;refine WC.loop (σ:=Nat) (fun j=>[(3,.i (rE (xs.take j):Nat)),(6,.slice A m cap),(7,.i (m:Int)),(8,.i (j:Int))]) (fun _=>F) (fun j=>j≤m) (fun j=>m-j) 0 (zero_le _) bC cO ?_;rintro j hj;refine aj "TZ" (aW (fun aL=> ?_) fun aL=> ?_)
 ·refine aj "IM" ?_;have kr:Rd K F (A.map (·.add ((j:Int).toNat*1))) (.int .u8 (xs.getD j 0:Nat)):=by
   rw[show (j:Int).toNat=j by omega];exact hs.jo ay
  obtain⟨x0,hx0⟩:∃x0,x0=xs.getD j 0:=⟨_,rfl⟩;have hx8:x0<256:=by rw[hx0];exact hx.at_ aN j
  have ZC:rE (xs.take (j+1))=rE (xs.take j)+Dr x0:=by rw[xZ xs ay,FE,←hx0];simp[rE]
  have hob:=ML (xs.take j);rw[length_take] at hob;rw[←hx0] at kr;refine WC.region ?_;refine WL.val (V.dw dO (ak rfl) (ak rfl) (fun hc=>by omega) (fun hc=>kr)) rfl ?_;refine WL.val (V.load isAgg5 (ak rfl) (fun hc=>kr)) rfl ?_;refine aj "gt" ?_;refine WC.loop (σ:=Nat) (fun x=>[(3,.i (rE (xs.take j)+(Dr x0-Dr x):Nat)),(6,.slice A m cap),(7,.i (m:Int)),(8,.i (j:Int)),(5,.int .u8 (x:Int))]) (fun _=>F) (fun x=>x<256∧Dr x≤Dr x0) (fun x=>x) x0 ⟨hx8,Nat.le_refl _⟩ (.cons (look_eq rfl (by rw[Nat.sub_self,Nat.add_zero])) bC) cO ?_;rintro x ⟨Zg,UY⟩;refine aj "rsb~e" (aW (fun h1=> ?_) fun h1=> ?_)
  ·refine aj "I" ?_;have hxn:x≠0:=ay;obtain⟨UZ,RV,hp3⟩:=abo Zg hxn;have V4:=Vk x0;refine aj "h" ?_;refine WL.val (V.aG (v':= .i (rE (xs.take j)+(Dr x0-Dr (x &&& (x-1))):Nat)) (V.CX (ak rfl) (ak rfl) (fun _=>by omega)) (fun _=>by congr 1;omega)) rfl ?_;refine aj "gP" ?_;refine WL.val (V.aG (v':= .int .u8 ((x:Int)-1)) (V.sub (ak rfl) (ak rfl)) (fun _=>by congr 1;simp only[IntKind.wrap,IntKind.bits,IntKind.signed];simp;omega)) rfl ?_;refine WL.val (V.aG (v':= .int .u8 ((x &&& (x-1):Nat):Int)) (V.and (ak rfl) (ak rfl)) (fun _=>by rw[UZ])) rfl ?_;refine aj "X" ?_;exact⟨x &&& (x-1),⟨by show x &&& (x-1)<256;omega,by omega⟩,hp3,.cons rfl bC,fun w h=>h⟩
  ·refine WC.exit ?_;have ao3:x=0:=ay;have hpz:Dr x=0:=by rw[ao3];rfl
   rw[hpz,Nat.sub_zero];refine aj "7" ?_;exact⟨j+1,(by show j+1≤m;omega),(by show m-(j+1)<m-j;omega),.cons (look_eq rfl (by rw[ZC])) bC,fun w h=>h⟩
 ·refine aj "Ked" ?_;obtain rfl:j=m:=by omega
  exact qR F rfl rfl cO ⟨by rw[take_of_length_le ay],rfl⟩
theorem SC(hs:Seq K F A m 1 (av .i64 s))(hs8:aA 8192 s)(hm:m≤1000000) :
 aB prog 290 #[.slice A m cap] K F (fun v H'=>∃g,v= .slice (some ⟨g,0,none⟩) m m∧H'=ah g 5 (av .u8 (jk s))::F):=by
 have hl:s.length=m:=by simpa [av] using hs.len
 refine aB.en func290 ntmps290 ?_;refine aj "ajk" ?_;refine WL.nM (m:=m) underlying34 yL (ak rfl) (ak rfl) ay ay ay rfl rfl rfl (fun b8=> ?_);refine aj "fkN" ?_;refine WC.loop (σ:=Nat) (fun j=>[(3,.slice (some ⟨b8,0,none⟩) m m),(9,.slice A m cap),(10,.i (m:Int)),(11,.i (j:Int))]) (fun j=>ah b8 5 (av .u8 (jk (s.take j)++replicate (m-j) 0))::F) (fun j=>j≤m) (fun j=>m-j) 0 (zero_le _) bC (fun w h=>Sat.aT h (by simp[jk,eD])) ?_;rintro j hj;refine aj "TZ" (aW (fun aL=> ?_) fun aL=> ?_)
 ·refine aj "IM" ?_;have hjm:j<m:=ay;have kr:Rd K (ah b8 5 (av .u8 (jk (s.take j)++replicate (m-j) 0))::F) (A.map (·.add ((j:Int).toNat*1))) (.i (s.getD j 0:Nat)):=by
   rw[show (j:Int).toNat=j by omega];exact (hs.jo ay).up
  obtain⟨x,hx⟩:∃x,x=s.getD j 0:=⟨_,rfl⟩;have Du:=xZ s (j:=j) ay;have htl:(jk (s.take j)).length=j:=by simp[jk];omega
  rw[←hx] at kr Du;refine aj "h" ?_;refine WL.val (V.dw eB (ak rfl) (ak rfl) (fun hc=>by omega) (fun hc=>kr)) rfl ?_;refine WL.val (V.load isAgg3 (ak rfl) (fun hc=>kr)) rfl ?_;refine aj "ljsb~e" (aW (fun h1=> ?_) fun h1=> ?_)
  ·refine aj "P~r" ?_;refine WL.store (cs:=[_]) sizeOf5 (ak rfl) (ak rfl) rfl rfl rfl (bT.at_ (by simp[av,jk];omega)) ?_;refine aj "b7" ?_;refine⟨j+1,(by show j+1≤m;omega),(by show m-(j+1)<m-j;omega),.cons rfl bC,fun w h=>Sat.aT h ?_⟩;have e1:jk (s.take (j+1))=jk (s.take j)++[nz x]:=by rw[Du];simp[jk]
   have e2:m-j=(m-(j+1))+1:=ay;have e3:nz x=1:=by unfold nz;rw[if_neg ay]
   rw[show 0+(j:Int).toNat*1=j by omega,show Value.int .u8 1=Value.int .u8 ((1:Nat):Int) from rfl,lu,e1,e3,e2,set_append_right _ _ ay,htl,Nat.sub_self,replicate_succ,set_cons_zero];simp
  ·refine aj "q7" ?_;refine⟨j+1,(by show j+1≤m;omega),(by show m-(j+1)<m-j;omega),.cons rfl bC,fun w h=>Sat.aT h ?_⟩;have e1:jk (s.take (j+1))=jk (s.take j)++[nz x]:=by rw[Du];simp[jk]
   have e2:m-j=(m-(j+1))+1:=ay;have e3:nz x=0:=by unfold nz;rw[if_pos ay]
   rw[e1,e3,e2,replicate_succ];simp
 ·refine aj "Ked" ?_;obtain rfl:j=m:=by omega
  exact qR (ah b8 _ _::F) rfl rfl (fun w h=>Sat.aT h (by rw[take_of_length_le ay];simp)) ⟨b8,rfl,rfl⟩
abbrev LL:=List Nat×List Nat
def xY(t:Nat)(p:LL)(i:Nat):LL:=if 13*t≤i then (wo p.1 (i-13*t),p.2) else (p.1,wo p.2 i)
def Ib(c:List Nat)(x:Nat):Nat→Nat→Nat
 | 0,v=>v
 | k+1,v=>Ib c x k (kK v x ^^^ c.getD k 0)
def Mv(c:List Nat)(L i:Nat):Bool:=decide (Ib c (gG (-(i:Int))) L 0=0)
def fU(t:Nat)(c:List Nat)(L:Nat)(p:LL):Nat→LL×Nat
 | 0=>(p,0)
 | k+1=>if Mv c L k=true then (xY t (fU t c L p k).1 k,(fU t c L p k).2+1) else fU t c L p k
def iY(t:Nat)(p:LL):List Nat:=qL t (13*t+8*p.1.length) (wAt t p.1 p.2)
def tZ(t:Nat)(d m:List Nat):Option (LL×Nat) :=
 if t+1<xE (iY t (d,jI t m)) then none
 else
  if (fU t (vE (iY t (d,jI t m))) (xE (iY t (d,jI t m))) (d,jI t m) (13*t+8*d.length)).2+1≠xE (iY t (d,jI t m)) then none
  else if 0<rE (jk (iY t (fU t (vE (iY t (d,jI t m))) (xE (iY t (d,jI t m))) (d,jI t m) (13*t+8*d.length)).1)) then none
  else some (fU t (vE (iY t (d,jI t m))) (xE (iY t (d,jI t m))) (d,jI t m) (13*t+8*d.length))
theorem IW:Ib c x (k+1) v=Ib c x k (kK v x ^^^ c.getD k 0):=rfl
theorem Hy(t:Nat)(c:List Nat)(L:Nat)(p:LL):∀k,(fU t c L p k).2≤k
 | 0=>Nat.le_refl _
 | k+1=>by
  have :=Hy t c L p k;rw[fU];split
  ·show (fU t c L p k).2+1≤k+1;omega
  ·omega
theorem WE(t:Nat)(p:LL)(i:Nat):(xY t p i).1.length=p.1.length∧(xY t p i).2.length=p.2.length:=by grind [xY,nu]
theorem ug(t:Nat)(c:List Nat)(L:Nat)(p:LL):∀k,(fU t c L p k).1.1.length=p.1.length∧(fU t c L p k).1.2.length=p.2.length
 | 0=>⟨rfl,rfl⟩
 | k+1=>by
  have ih:=ug t c L p k;rw[fU];split
  ·have :=WE t (fU t c L p k).1 k;exact⟨by show (xY _ _ _).1.length=_;omega,by show (xY _ _ _).2.length=_;omega⟩
  ·exact ih
theorem ET:aA 8192 (qL t len bit):=fun x hx=>by
 obtain⟨k,_,rfl⟩:=mem_map.1 hx;exact ab1 _ _ aN
theorem LQ:(qL t len bit).length=2*t:=by simp[qL]
theorem R7(hs:aA 8192 s):aA 8192 (vE s):=(Gz hs _).cs
theorem adM(hs:aA 8192 s):xE s≤(vE s).length∧(vE s).length≤s.length+1:=⟨iy _ _,(Gz hs _).c2⟩
namespace Wd
def put(W:Wd)(p:LL):Wd:= { W with d:=p.1,m:=p.2 }
theorem Qf(W:Wd)(p:LL)(i:Nat):(W.put p).flip i=W.put (xY W.t p i):=by grind [Wd.flip,xY,put]
end Wd
def ad3(F:List aH)(o:Option (LL×Nat))(v:Value)(H':List aH):Prop :=
 match o with
 | none=>v= .tuple #[.slice none 0 0,.slice none 0 0,.int .i64 0,.int .i64 50]∧H'=F
 | some (p,n)=>∃g1 c1 r1 g2 c2 r2,p.1.length≤c1∧p.2.length≤c2∧v= .tuple #[.slice (some ⟨g1,0,none⟩) p.1.length c1,.slice (some ⟨g2,0,none⟩) p.2.length c2,.int .i64 (n:Int),.int .i64 0]∧H'=ah g1 5 (av .u8 p.1++r1)::ah g2 5 (av .u8 p.2++r2)::F
theorem Jo{V:Wd}(h:V.Ok):aB prog 285 #[ptr bw 0] K (V.parts bw++F) (fun v H'=>∃g,v= .slice (some ⟨g,0,none⟩) (2*V.t) (2*V.t)∧H'=ah g 3 (av .i64 (iY V.t (V.d,V.m)))::(V.parts bw++F)) :=
 Yb h fH.all (Seq.up (Seq.here (by rw[au];omega) (by rw[drop_zero];exact prefix_append _ _))) (Seq.up (Seq.up (Seq.here (by rw[au];omega) (by rw[drop_zero];exact prefix_append _ _))))
theorem Tf{mo:List Nat}(ht:1≤t∧t≤8)(hd:Seq K F A m 1 (av .u8 d))(hm:Seq K F B q 1 (av .u8 mo))(Nf:aA 256 d)(hm8:aA 256 mo)(wF:1≤m∧m≤512)(Oa:q=aR t) :
 aB prog 244 #[.i (t:Int),.slice A m cap,.slice B q cap'] K F (ad3 F (tZ t d mo)):=by
 refine aB.en func244 ntmps244 ?_;refine aj "allljz" ?_;refine WL.c3 call283 rfl rfl rfl (PK ht hd hm Nf hm8 wF Oa) rfl ?_;rintro _ _ ⟨bw,W,hW,hWt,hWd,hWm,hWc,rfl,rfl⟩;obtain⟨p,hp⟩:∃p:LL,p=(d,jI t mo):=⟨_,rfl⟩;have UZ:W.d=p.1:=by rw[hp,hWd]
 have RV:W.m=p.2:=by rw[hp,hWm]
 have hdF:tZ t d mo=(if t+1<xE (iY t p) then none else if (fU t (vE (iY t p)) (xE (iY t p)) p W.len).2+1≠xE (iY t p) then none else if 0<rE (jk (iY t (fU t (vE (iY t p)) (xE (iY t p)) p W.len).1)) then none else some (fU t (vE (iY t p)) (xE (iY t p)) p W.len)):=by
  unfold tZ Wd.len;rw[hp,hWt,hWd]
 rw[hdF];have hWl:W.len≤4200:=by have h1:=hW.t;have h2:=hW.d;unfold Wd.len;omega
 refine aj "Dfs3U" ?_;refine WL.c1 call285 rfl (Jo hW) rfl ?_;rintro _ _ ⟨gs,rfl,rfl⟩;rw[UZ,RV,hWt];obtain⟨s,hs⟩:∃s,s=iY t (p.1,p.2):=⟨_,rfl⟩;have Zp:iY t p=s:=hs.symm;have RF:aA 8192 s:=by rw[hs];exact ET
 have mR:s.length=2*t:=by rw[hs];exact LQ
 rw[Zp];refine WL.c1 call284 rfl (Qo (s:=s) (Seq.Gb mR) RF ay) rfl ?_;rintro _ _ ⟨gl,cl,rl,rfl,rfl⟩;obtain⟨L,hL⟩:∃L,L=xE s:=⟨_,rfl⟩;obtain⟨c,hc⟩:∃c,c=vE s:=⟨_,rfl⟩;have hLc:=adM RF;have qX:=R7 RF;rw[←hL,←hc] at hLc ⊢;rw[←hc] at qX;refine aj "fk[c~JbZ" (aW (fun h1=> ?_) fun h1=> ?_)
 ·rw[if_pos ay];refine aj "allC" ?_;exact aF.ret (H':=F) (bJ.aev rfl rfl rfl rfl rfl) (fun w h=>h.bg 5 [] rfl) ⟨rfl,rfl⟩
 ·rw[if_neg ay];refine aj "," ?_;have hWW:W.put (fU t c L p 0).1=W:=by unfold Wd.put fU;rw[←UZ,←RV]
  have jh:∀k,(W.put (fU t c L p k).1).Ok:=fun k=>by
   induction k with
   | zero=>rw[hWW];exact hW
   | succ k ih =>
    rw[fU];split
    ·have :=ih.flip k;rw[Wd.Qf,hWt] at this;exact this
    ·exact ih
  refine aj "pf" ?_;refine WL.t1 call286 rfl (Rt hW wL) rfl ?_;refine aj "N" ?_;refine WC.loop (σ:=Nat) (fun k=>[(10,ptr bw 0),(12,.slice (some ⟨gl,0,none⟩) L cl),(13,.i ((fU t c L p k).2:Nat)),(37,.i (W.len:Nat)),(38,.i (k:Int))]) (fun k=>(W.put (fU t c L p k).1).parts bw++(ah gl 3 (av .i64 c++rl)::F)) (fun k=>k≤W.len) (fun k=>W.len-k) 0 (zero_le _) bC (fun w h=>by rw[hWW];exact h.bg 5 [2,3,4,0] rfl) ?_;rintro k hk;obtain⟨U,hV⟩:∃U,U=W.put (fU t c L p k).1:=⟨_,rfl⟩;have hVo:U.Ok:=by rw[hV];exact jh k
  have hVt:U.t=t:=by rw[hV];exact hWt
  have hVc:U.d.length=W.d.length:=by rw[hV,UZ];exact (ug t c L p k).1
  have hVl:U.len=W.len:=by unfold Wd.len;rw[hVt,hVc,hWt]
  have wF:=Hy t c L p k;rw[←hV];refine aj "TZ" (aW (fun bA=> ?_) fun bA=> ?_)
  ·refine aj "1u" ?_;obtain⟨x,hx⟩:∃x,x=gG (-(k:Int)):=⟨_,rfl⟩;have hx8:x<8192:=by rw[hx];exact GA _
   refine aj "h~~>" ?_;refine WL.t1 call287 rfl (Tz (-(k:Int)) ay) rfl ?_;refine aj "lfk" ?_;refine WL.val (V.aG (v':= .i ((L:Int)-1)) (V.Eo (ak rfl) (ak rfl) (fun _=>by omega)) (fun _=>rfl)) rfl ?_;rw[←hx];refine aj "gt" ?_;refine WC.loop (σ:=Nat×Nat) (fun y=>[(10,ptr bw 0),(12,.slice (some ⟨gl,0,none⟩) L cl),(13,.i ((fU t c L p k).2:Nat)),(37,.i (W.len:Nat)),(38,.i (k:Int)),(14,.i (k:Int)),(15,.i (x:Int)),(16,.i (y.2:Int)),(17,.i ((y.1:Int)-1))]) (fun _=>U.parts bw++(ah gl 3 (av .i64 c++rl)::F)) (fun y=>y.1≤L∧y.2<8192∧Ib c x y.1 y.2=Ib c x L 0) (fun y=>y.1) (L,0) ⟨Nat.le_refl _,by show 0<8192;decide,rfl⟩ bC cO ?_;rintro⟨j,v⟩ ⟨hj,hv,Y3⟩;dsimp only at hj hv Y3 ⊢;refine aj "r~ibZ" (aW (fun eu=> ?_) fun eu=> ?_)
   ·obtain⟨j',rfl⟩:∃j',j=j'+1:=⟨j-1,by omega⟩;have hj1:((j'+1:Nat):Int)-1=(j':Int):=ay;rw[hj1];rw[IW] at Y3;have anv:=fD (b:=x) hv;have hcj:=qX.at_ aN j';have JJ:Rd K (U.parts bw++(ah gl 3 (av .i64 c++rl)::F)) (some ⟨gl,0+(j':Int).toNat*1,none⟩) (.i (c.getD j' 0:Nat)):=by
     rw[show 0+(j':Int).toNat*1=j' by omega];exact Rd.up (Rd.up (Rd.up (Rd.here (mF _ _ _ ay))))
    refine aj "I~k&&" ?_;refine WQ.call (vs:=[_,_]) call288 ⟨ak rfl,ak rfl,trivial⟩ (zu hv hx8) rfl (aj "&&" ?_);refine WQ.val (V.FW eB (ak rfl) (ak rfl) (fun hc=>by omega)) rfl ?_;refine WQ.val (V.load isAgg3 (ak rfl) (fun hc=>JJ)) rfl ?_;refine WQ.val (V.aG (v':= .i ((kK v x ^^^ c.getD j' 0:Nat):Int)) (V.xor (ak rfl) (ak rfl)) (fun _=>by rw[nC ay ay])) rfl ?_;refine aj "~n~fh[X" ?_;exact⟨(j',kK v x ^^^ c.getD j' 0),⟨by show j'≤L;omega,je (k:=13) anv hcj,Y3⟩,lt_succ_self _,.cons rfl bC,fun w h=>h⟩
   ·refine aj "W" ?_;obtain rfl:j=0:=by omega
    have UO:v=Ib c x L 0:=Y3;have hrt:Mv c L k=decide (v=0):=by unfold Mv;rw[←hx,UO]
    have hk1:k<W.len:=ay;refine aj "h:bZ" (aW (fun h4=> ?_) fun h4=> ?_)
    ·have hdk:fU t c L p (k+1)=(xY t (fU t c L p k).1 k,(fU t c L p k).2+1):=by rw[fU,hrt,if_pos (decide_eq_true (show v=0 by omega))]
     refine aj "ec" ?_;refine WL.c2 call289 rfl rfl (YF hVo (i:=k) ay) rfl ?_;rintro v1 _ rfl;refine aj "bh$g7" ?_;exact⟨k+1,(by show k+1≤W.len;omega),(by show W.len-(k+1)<W.len-k;omega),.cons rfl (.cons rfl (.cons (look_eq rfl (by rw[hdk];simp only[Int.natCast_add];rfl)) bC)),fun w h=>by dsimp only;rw[hdk];dsimp only;rw[hV,Wd.Qf,hWt] at h;exact h⟩
    ·have hdk:fU t c L p (k+1)=fU t c L p k:=by rw[fU,hrt,decide_eq_false (show ¬v=0 by omega)];rfl
     refine aj "q7" ?_;exact⟨k+1,(by show k+1≤W.len;omega),(by show W.len-(k+1)<W.len-k;omega),.cons rfl (.cons rfl (.cons (look_eq rfl (by rw[hdk])) bC)),fun w h=>by dsimp only;rw[hdk,←hV];exact h⟩
  ·refine aj "WM" ?_;obtain rfl:k=W.len:=by omega
   obtain⟨r,hr⟩:∃r,r=fU t c L p W.len:=⟨_,rfl⟩;rw[←hr] at hV wF ⊢;have hVd:U.d=r.1.1:=by rw[hV];rfl
   have hVm:U.m=r.1.2:=by rw[hV];rfl
   obtain⟨bb,hbb⟩:∃bb,bb= !decide ((r.2:Int)=(L:Int)-1):=⟨_,rfl⟩;refine aj "Pk[" ?_;refine WL.val (V.aG (v':= .bool bb) (V.neq (ak rfl) (ak rfl)) (fun _=>by rw[hbb])) rfl ?_;refine aj "~~S" ?_;rcases Bool.eq_false_or_eq_true bb with hb | hb
   ·subst hb;have pq:¬r.2+1=L:=fun h=>by
     have h6:(r.2:Int)=(L:Int)-1:=ay;rw[decide_eq_true h6] at hbb;cases hbb
    rw[if_pos pq];refine WL.BK (oj:=_) rfl rfl rfl rfl rfl (fun d hd=>by injection hd with hd;subst hd;rfl) ?_;refine WL.BK (oj:=_) rfl rfl rfl rfl rfl (fun d hd=>by injection hd with hd;subst hd;rfl) ?_;refine WL.BK (oj:=_) rfl rfl rfl rfl rfl (fun d hd=>by injection hd with hd;subst hd;rfl) ?_;refine WL.BK (oj:=_) rfl rfl rfl rfl rfl (fun d hd=>by injection hd with hd;subst hd;rfl) ?_;refine WL.BK (oj:=_) rfl rfl rfl rfl rfl (fun d hd=>by injection hd with hd;subst hd;rfl) ?_;refine WL.val (V.aas (ak rfl) (ak rfl)) rfl (WL.nil (WC.MI rfl rfl (aj "Mp~<~<~<~<2" ?_)));exact aF.ret (H':=F) (bJ.aev rfl rfl rfl rfl rfl) (fun w h=>h.bg 4 [] rfl) ⟨rfl,rfl⟩
   subst hb;have pq:r.2+1=L:=by
    have h6:(r.2:Int)=(L:Int)-1:=by
     rcases Decidable.em ((r.2:Int)=(L:Int)-1) with h | h
     ·exact h
     ·rw[decide_eq_false h] at hbb;cases hbb
    omega
   rw[if_neg (fun h=>h pq)];refine aj "~Ic~I" ?_;refine WL.c1 call285 rfl (Jo hVo) rfl ?_;rintro _ _ ⟨gs2,rfl,rfl⟩;rw[hVd,hVm,hVt];obtain⟨s2,pI⟩:∃s2,s2=iY t r.1:=⟨_,rfl⟩;have anY:aA 8192 s2:=by rw[pI];exact ET
   have acj:s2.length=2*t:=by rw[pI];exact LQ
   rw[show iY t (r.1.1,r.1.2)=s2 from pI.symm];refine aj "~I" ?_;refine WL.c1 call290 rfl (SC (s:=s2) (Seq.Gb acj) anY ay) rfl ?_;rintro _ _ ⟨gn,rfl,rfl⟩;refine aj "~I" ?_;refine WL.t1 call282 rfl (K6 (xs:=jk s2) (Seq.Gb (by simp[jk];exact acj)) (fun x hx=>by obtain⟨y,_,rfl⟩:=mem_map.1 hx;unfold nz;split<;>decide) ay) rfl ?_;refine aj "~I~J" ?_;refine WL.val (V.DY (ak rfl) (ak rfl)) rfl ?_;refine aj "i" (aW (fun h5=> ?_) fun h5=> ?_)
   ·simp only[Bool.false_or,cZ] at h5;rw[if_pos ay];refine aj "allC" ?_;exact aF.ret (H':=F) (bJ.aev rfl rfl rfl rfl rfl) (fun w h=>h.bg 6 [] rfl) ⟨rfl,rfl⟩
   ·simp only[Bool.false_or,cZ] at h5;rw[if_neg ay];refine aj ",~k&~;~y~G&~;~y~G&~n~n~n~n~f~C" ?_;refine aF.ret (H':=ah U.g1 5 (av .u8 r.1.1++U.r1)::ah U.g2 5 (av .u8 r.1.2++U.r2)::F) (bJ.aev rfl rfl rfl rfl rfl) (fun w h=> ?_) ⟨U.g1,U.c1,U.r1,U.g2,U.c2,U.r2, ?_, ?_, ?_,rfl⟩
    ·have h':=h.bg 6 [3,4] rfl;rw[←hVd,←hVm];exact h'
    ·rw[←hVd,hVc,hV];exact hWc.1
    ·rw[hr,(ug t c L p W.len).2,←RV,hV];exact hWc.2
    ·rw[hVd,hVm]
abbrev NG(bl pg:Int)(S B t:Nat):bQ:=⟨bl,pg,(S:Int),(B:Int),(t:Int)⟩
def kI(S B t:Nat):Nat:=S*(B+aR t)+1
structure zS(S B t:Nat):Prop where
 s:1≤S∧S≤8
 b:4≤B∧B≤512
 t:1≤t∧t≤8
theorem zS.of{t:Nat}(h:(NG bl pg S B t).aU):zS S B t:=by
 unfold bQ.aU at h;dsimp only at h;exact⟨by omega,by omega,by omega⟩
theorem NG.whole:(NG bl pg S B t).whole=((B+aR t:Nat):Int):=by grind [bQ.whole,bQ.more,aR]
theorem NG.raw:(NG bl pg S B t).raw=((kI S B t:Nat):Int):=by grind [bQ.raw,kI,NG.whole]
theorem NG.room:(NG bl pg S B t).room=((S*B:Nat):Int):=by grind [bQ.room,Int.natCast_mul]
def kX(B:Nat)(d:List Nat)(j:Nat):List Nat:=(d.drop (j*B)).take B
def DW(t B:Nat)(d:List Nat):Nat→List Nat
 | 0=>[]
 | j+1=>(DW t B d j++kX B d j)++mU t (kX B d j)
def qE(t S B:Nat)(d:List Nat):List Nat:=DW t B d S++[0]
theorem aA.drop(h:aA b xs):aA b (xs.drop n):=fun y hy=>h y (mem_of_mem_drop hy)
theorem jZ(h:aA 256 d)(j:Nat):aA 256 (kX B d j):=aA.take (aA.drop h)
theorem yx(h:d.length=S*B)(hj:j<S):(kX B d j).length=B:=by
 unfold kX;rw[length_take,length_drop,h];have :(j+1)*B≤S*B:=mul_le_mul_right _ hj;rw[succ_mul] at this;omega
theorem og(ht:1≤t∧t≤8)(h8:aA 256 d)(h:d.length=S*B):∀j,j≤S→(DW t B d j).length=j*(B+aR t)
 | 0,_=>by simp[DW]
 | j+1,hj=>by
  rw[DW,length_append,length_append,og ht h8 h j ay,yx h ay,xG ht (jZ h8 j),succ_mul];omega
theorem G8(ht:1≤t∧t≤8)(h8:aA 256 d):∀j,aA 256 (DW t B d j)
 | 0=>fun x hx=>by simp[DW] at hx
 | j+1=>((G8 ht h8 j).append (jZ h8 j)).append (IC ht (jZ h8 j))
theorem Ch(ht:1≤t∧t≤8)(h8:aA 256 d)(h:d.length=S*B):(qE t S B d).length=kI S B t:=by
 unfold qE kI;rw[length_append,og ht h8 h S (Nat.le_refl _)];rfl
theorem PZ(ht:1≤t∧t≤8)(h8:aA 256 d):aA 256 (qE t S B d):=(G8 ht h8 S).append (fun x hx=>by rw[mem_singleton.1 hx];decide)
theorem _root_.Go.Sl.Seq.OH(hs:Seq K H A m 1 vs)(hl:l≤m)(hu:m≤u):Seq K H (if u=l then A else A.map (·.add (l*1))) (m-l) 1 (vs.drop l):=by
 have hlen:=hs.len;refine⟨by rw[length_drop];omega,fun i v hi=> ?_⟩;rw[getElem?_drop] at hi;have GQ:l+i<vs.length:=(List.getElem?_eq_some_iff.1 hi).1;rw[if_neg ay];have :=hs.rd (l+i) v hi;intro w hw;obtain⟨a,h1,h2⟩:=this w hw;cases A with
 | none=>simp at h1
 | some a' =>
  refine⟨_,rfl, ?_⟩;simp only[Option.map_some,Option.some.injEq] at h1;rw[←h1] at h2;have h3:((a'.add (l*1)).add i)=a'.add (l+i):=by rw[Nat.mul_one];rcases eq_zero_or_pos l with h | h; · { subst h;rw[Nat.zero_add];rfl }; · { rcases eq_zero_or_pos i with h' | h'; · { subst h';rfl }; · { unfold Addr.add;rw[if_neg ay,if_neg ay,if_neg ay,Nat.add_assoc] } }
  show w.cell? ((a'.add (l*1)).add i)=some v;rw[h3];exact h2
theorem Ii(g:bQ):aK prog 122 #[g.v] K F (.tuple (if g.may then #[.i g.room,.i 0] else #[.i 0,.i 1])):=by
 refine aB.en func122 ntmps122 ?_;refine aj "a%" fun b1=> ?_;refine aj "luaB" ?_;refine WL.t1 call161 rfl (KZ g _ _) rfl ?_;refine aj "jsi" (aW (fun aL=> ?_) fun aL=> ?_)
 ·have hm:g.may=false:=by cases h:g.may<;>simp[h] at aL ⊢
  refine aj "eC" ?_;rw[hm];exact aF.ret (H':=F) (bJ.eU rfl rfl rfl) (fun w h=>h.drop 1) ⟨rfl,rfl⟩
 ·have hm:g.may=true:=by cases h:g.may<;>simp[h] at aL ⊢
  have hb:=bQ.rF hm;have hr:=bQ.Bd (a:=g.se) (b:=g.sb) (A:=8) (B:=512) (by unfold bQ.aU at hb;omega) (by unfold bQ.aU at hb;omega) (by unfold bQ.aU at hb;omega) (by unfold bQ.aU at hb;omega);refine aj "9oo" ?_;refine WL.val (V.MK (ak rfl) (ak rfl) (fun hc=>by omega)) rfl ?_;refine aj "C" ?_;refine aF.ret (H':=F) (bJ.eU rfl rfl rfl) (fun w h=>h.drop 1) ⟨?_,rfl⟩;rw[hm];rfl
theorem aay(hg:(NG bl pg S B t).aU)(hd:Seq K F A m 1 (av .u8 d))(h8:aA 256 d)(hm:m=S*B)(Og:m≤cap) :
 aB prog 191 #[(NG bl pg S B t).v,.slice A m cap] K F
  (fun v H'=>∃A' cap',v= .tuple #[.slice A' (kI S B t) cap',.i 0]∧H'=aV (.slice A' (kI S B t) cap') 5 1 (kI S B t) (av .u8 (qE t S B d))::F):=by
 have hl:d.length=m:=by simpa [av] using hd.len
 have EC:(NG bl pg S B t).may=true:=decide_eq_true hg;have hN:=zS.of hg;obtain⟨hs,hb,ht⟩:=hN;have afQ:2≤aR t∧aR t≤13:=by unfold aR;omega
 have asD:m≤4096:=by rw[hm];exact Nat.mul_le_mul hs.2 hb.2
 have hm1:1*4≤m:=by rw[hm];exact Nat.mul_le_mul hs.1 hb.1
 refine aB.en func191 ntmps191 ?_;refine aj "a%" fun b2=> ?_;refine aj "lvB" ?_;refine WL.t1 call122 rfl (aK.eq (v':= .tuple #[.i (m:Int),.i 0]) (Ii (NG bl pg S B t)) (by rw[EC,NG.room,hm];rfl)) rfl ?_;refine aj "DfscV~DV~VL39ut" ?_;refine WC.loop (σ:=Nat×Option Addr×Nat×Option Addr×Nat) (fun x=>[(1,.slice x.2.1 (m-x.1*B) x.2.2.1),(2,ptr b2 0),(8,.slice x.2.2.2.1 (x.1*(B+aR t)) x.2.2.2.2)]) (fun x=>aV (.slice x.2.2.2.1 (x.1*(B+aR t)) x.2.2.2.2) 5 1 (x.1*(B+aR t)) (av .u8 (DW t B d x.1))::ah b2 23 [.i bl,.i pg,.i (S:Int),.i (B:Int),.i (t:Int)]::F) (fun x=>x.1≤S∧m-x.1*B≤x.2.2.1∧Seq K F x.2.1 (m-x.1*B) 1 (av .u8 (d.drop (x.1*B)))) (fun x=>S-x.1) (0,A,cap,none,0) ⟨zero_le _,by show m-0*B≤cap;omega,by simpa using hd⟩ bC (fun w h=>by simpa [DW,av] using Sat.gI h 5 1) ?_;rintro⟨j,Aj,cj,Ao,co⟩ ⟨hj,hjc,hjs⟩;dsimp only at hj hjc hjs ⊢;have hjB:j*B≤m:=by rw[hm];exact mul_le_mul_right _ hj
 have l7:=og ht h8 (hl.trans hm) j hj;refine aj "rk~JbZ" (aW (fun aQ=> ?_) fun aQ=> ?_)
 ·have hjS:j<S:=by
   rcases Nat.lt_or_ge j S with h | h
   ·exact h
   ·exfalso;have :j=S:=ay;rw[this,←hm] at aQ;omega
  have hj1:(j+1)*B≤m:=by rw[hm];exact mul_le_mul_right _ hjS
  rw[succ_mul] at hj1;have mR:=yx (hl.trans hm) hjS;have Oi:Seq K F Aj B 1 (av .u8 (kX B d j)):=by
   have h1:=Seq.take hjs (show B≤m-j*B by omega);rw[dU] at h1;exact h1
  refine aj "1oo" ?_;refine WL.val (V.aG (v':= .slice Aj B B) (V.slice (l:=0) (h:=B) (u:=B) dO (ak rfl) OO.none (OO.some (ak rfl) (fun _=>rfl)) (OO.some (ak rfl) (fun _=>rfl)) (by simp) (zero_le _) (Nat.le_refl _) ay) (fun _=>by rw[show (B-0:Nat)=B from rfl];cases Aj<;>simp[Addr.add])) rfl ?_;refine aj "voc" ?_;refine WL.c2 call242 rfl rfl (Uj ht (Oi.up.up) (jZ h8 j) ay) rfl ?_;rintro _ _ ⟨Ae,ce,rfl,rfl⟩;refine aj "DgP?" ?_;refine WL.append (m:=j*(B+aR t)) (q:=B) underlying34 yL (ak rfl) (ak rfl) (by repeat (first | exact Oi | apply Seq.up)) (jB _ _) (by have :=Nat.mul_le_mul hj (show B+aR t≤525 by omega);omega) rfl rfl (fun A3 c3 hA3 eu=> ?_);refine WL.mv rfl rfl ?_;refine WL.append (m:=j*(B+aR t)+B) (q:=aR t) (news:=av .u8 (mU t (kX B d j))) underlying34 yL (ak rfl) (ak rfl) (aV.seq (by rw[au,xG ht (jZ h8 j),Nat.mul_one])) (jB _ _) (by have :=Nat.mul_le_mul hj (show B+aR t≤525 by omega);omega) rfl rfl (fun A4 c4 hA4 mQ=> ?_);refine aj "gho" ?_;refine WL.val (V.slice (l:=B) (h:=m-j*B) (u:=cj) dO (ak rfl) (OO.some (ak rfl) (fun _=>rfl)) OO.none OO.none (by simp) ay ay (Nat.le_refl _)) rfl ?_;refine aj "X" ?_;refine⟨(j+1,(if cj=B then Aj else Aj.map (·.add (B*1))),cj-B,A4,c4),⟨hjS,by show m-(j+1)*B≤cj-B;rw[succ_mul];omega, ?_⟩,(by show S-(j+1)<S-j;omega),.cons (look_eq rfl (by dsimp only;rw[succ_mul,Nat.sub_sub])) (.cons rfl (.cons (look_eq rfl (by dsimp only;rw[succ_mul,Nat.add_assoc])) (.nil _))),fun w h=> ?_⟩
  ·have h1:=Seq.OH hjs (show B≤m-j*B by omega) hjc;rw[kQ,drop_drop,Nat.sub_sub] at h1;dsimp only;rw[succ_mul];exact h1
  ·dsimp only;rw[succ_mul,←Nat.add_assoc,DW,dx,dx];exact h.bg 3 [0,2] rfl
 ·refine aj "Ke" ?_;refine WL.buildSlice (E:=5) (cs:=[_]) (vs:=[(0,_)]) ⟨ak rfl,trivial⟩ rfl (jc _) rfl (fun b51=> ?_);obtain rfl:j=S:=by
   rcases Nat.lt_or_ge j S with h | h
   ·exfalso;have hj1:(j+1)*B≤m:=by rw[hm];exact mul_le_mul_right _ h
    rw[succ_mul] at hj1;omega
   ·omega
  refine aj "?" ?_;refine WL.append (m:=j*(B+aR t)) (q:=1) (news:=[.int .u8 0]) underlying34 yL (ak rfl) (ak rfl) (Seq.all rfl) (by intro u hu;rw[mem_singleton.1 hu];rfl) (by have :=Nat.mul_le_mul hj (show B+aR t≤525 by omega);omega) rfl rfl (fun A5 c5 Zu wQ=> ?_);refine aj "C" ?_;refine aF.ret (H':=aV (.slice A5 (kI j B t) c5) 5 1 (kI j B t) (av .u8 (qE t j B d))::F) (bJ.eU rfl rfl rfl) (fun w h=> ?_) ⟨A5,c5,rfl,rfl⟩;have h':=h.bg 3 [0] rfl;unfold qE kI;rw[dx];exact h'
def F5:Option (LL×Nat)→List Nat
 | none=>[]
 | some (p,_)=>p.1
def XP:Option (LL×Nat)→Nat
 | none=>0
 | some (_,n)=>n
def aiV:Option (LL×Nat)→Nat
 | none=>50
 | some _=>0
theorem _root_.Go.Sl.Seq.pre(hl:vs.length=m):Seq K (ah b T (vs++cs)::H) (some ⟨b,0,none⟩) m 1 vs:=by simp_all [Seq.here,Nat.mul_one,drop_zero,prefix_append]
theorem _root_.Go.Sl.aB.afS(h:aB P f args K F post)(hp:∀v H',post v H'→∃ou,(∀w,Sat K w H'→Sat K w ou)∧post' v ou):aB P f args K F post':=fun w hw =>
 (h w hw).mono fun e w' ⟨v,H',h1,h2,h3⟩=>by
  obtain⟨ou,h4,h5⟩:=hp v H' h3;exact⟨v,ou,h1,h4 w' h2,h5⟩
theorem Rc{mo:List Nat}(ht:1≤t∧t≤8)(hd:Seq K F A m 1 (av .u8 d))(hm:Seq K F B q 1 (av .u8 mo))(Nf:aA 256 d)(hm8:aA 256 mo)(wF:1≤m∧m≤512)(Oa:q=aR t) :
 aB prog 244 #[.i (t:Int),.slice A m cap,.slice B q cap'] K F
  (fun v H'=>∃A' c mA mm mc l,v= .tuple #[.slice A' (F5 (tZ t d mo)).length c,.slice mA mm mc,.i (XP (tZ t d mo):Nat),.i (aiV (tZ t d mo):Nat)] ∧
   iK l A' (F5 (tZ t d mo)).length 1 (av .u8 (F5 (tZ t d mo)))∧H'=bK l::F):=by
 refine aB.afS (Tf ht hd hm Nf hm8 wF Oa) (fun v H' h=> ?_);cases ho:tZ t d mo with
 | none =>
  rw[ho] at h;obtain⟨rfl,rfl⟩:=h;exact⟨bK []::H',fun w hw=>Sat.all hw,none,0,none,0,0,[],rfl,iK.nil,rfl⟩
 | some r =>
  obtain⟨p,n⟩:=r;rw[ho] at h;obtain⟨g1,c1,r1,g2,c2,r2,h1,h2,rfl,rfl⟩:=h;exact⟨bK [ah g1 5 (av .u8 p.1++r1)]::F,fun w hw=>Sat.all (Sat.bg 2 [0] rfl hw),_,_,_,_,_,_,rfl,iK.here (fun K=>Seq.pre (au _ _)),rfl⟩
def VK(n t:Nat)(raw:List Nat)(j:Nat):Bool:=decide (t<8*n-rE (kX n raw j))
def AP(n t:Nat)(raw:List Nat):Nat→Bool
 | 0=>false
 | j+1=>AP n t raw j||VK n t raw j
theorem FK(h:VK n t raw j=true):∀k,j<k→AP n t raw k=true
 | 0,hk=>absurd hk (not_lt_zero _)
 | k+1,hk=>by
  rw[AP];rcases Nat.lt_or_ge j k with h1 | h1
  ·rw[FK h k h1];rfl
  ·have :j=k:=by omega
   subst this;rw[h,Bool.or_true]
def jf(t S n:Nat)(raw:List Nat):Nat :=
 if raw.getD (S*n) 0=0 then 0 else if raw.getD (S*n) 0≠255 then 60 else if AP n t raw S=true then 60 else 61
theorem Yg(hg:(NG bl pg S B t).aU)(hr:Seq K F A m 1 (av .u8 raw))(h8:aA 256 raw)(hm:m=kI S B t)(Og:m≤cap) :
 aK prog 243 #[(NG bl pg S B t).v,.slice A m cap] K F (.i (jf t S (B+aR t) raw:Nat)):=by
 have hl:raw.length=m:=by simpa [av] using hr.len
 have hN:=zS.of hg;obtain⟨hs,hb,ht⟩:=hN;have afQ:2≤aR t∧aR t≤13:=by unfold aR;omega
 obtain⟨n,hn⟩:∃n,n=B+aR t:=⟨_,rfl⟩;have hm2:m=S*n+1:=by rw[hm,hn];rfl
 have hSn:S*n≤8*525:=Nat.mul_le_mul hs.2 ay;rw[←hn];obtain⟨z,hz⟩:∃z,z=raw.getD (S*n) 0:=⟨_,rfl⟩;have dL:jf t S n raw=if z=0 then 0 else if z≠255 then 60 else if AP n t raw S=true then 60 else 61:=by unfold jf;rw[hz]
 rw[dL];have hz8:z<256:=by rw[hz];exact h8.at_ aN _
 have L6:∀ {X:aH},Rd K (X::F) (A.map (·.add (((m:Int)-1).toNat*1))) (.int .u8 (z:Nat)):=fun {X}=>by
  rw[show ((m:Int)-1).toNat=S*n by omega,hz];exact (hr.jo ay).up
 refine aB.en func243 ntmps243 ?_;refine aj "a%" fun b2=> ?_;refine aj "fck[" ?_;refine WL.val (V.dw dO (ak rfl) (ak rfl) (fun hc=>by omega) (fun hc=>L6)) rfl ?_;refine WL.val (V.load isAgg5 (ak rfl) (fun hc=>L6)) rfl ?_;refine aj "gte:gZ" (aW (fun aL=> ?_) fun aL=> ?_)
 ·rw[if_pos ay];exact aj "G." trivial
 ·rw[if_neg ay];refine aj "esg~e" (aW (fun aQ=> ?_) fun aQ=> ?_)
  ·rw[if_pos ay];exact aj "G." trivial
  ·rw[if_neg ay];refine aj "9B" ?_;refine WL.t1 call162 rfl (aK.eq (v':= .i (n:Int)) (Dz (NG bl pg S B t) hg _ _) (by rw[NG.whole,hn])) rfl ?_;refine aj "uagt" ?_;refine WC.loop (σ:=Nat) (fun j=>[(1,.slice A m cap),(2,ptr b2 0),(6,.i (n:Int)),(7,.i ((j*n:Nat):Int))]) (fun _=>ah b2 23 [.i bl,.i pg,.i (S:Int),.i (B:Int),.i (t:Int)]::F) (fun j=>j≤S∧AP n t raw j=false) (fun j=>S-j) 0 ⟨zero_le _,rfl⟩ bC cO ?_;rintro j ⟨hj,hjt⟩;have Wx:j*n≤S*n:=mul_le_mul_right _ hj;refine aj "rc~~~zck4bZ" (aW (fun bA=> ?_) fun bA=> ?_)
   ·have hjS:j<S:=by
     rcases Nat.lt_or_ge j S with h | h
     ·exact h
     ·exfalso;have :j=S:=ay;rw[this] at bA;omega
    have hj1:(j+1)*n≤S*n:=mul_le_mul_right _ hjS;rw[succ_mul] at hj1;have Oi:Seq K F (A.map (·.add (j*n*1))) n 1 (av .u8 (kX n raw j)):=by
     have h1:=Seq.OH hr (l:=j*n) (u:=cap) ay Og;rw[if_neg ay] at h1;have h2:=Seq.take h1 (show n≤m-j*n by omega);rw[kQ,dU] at h2;exact h2
    have ZC:=ML (kX n raw j);have mR:(kX n raw j).length=n:=by unfold kX;rw[length_take,length_drop];omega
    rw[mR] at ZC;refine aj "IM~k&~~P&&&&" ?_;refine WQ.val (V.CX (ak rfl) (ak rfl) (fun _=>by omega)) rfl ?_;refine WQ.val (V.aG (v':= .slice (A.map (·.add (j*n*1))) n (cap-j*n)) (V.slice (l:=j*n) (h:=j*n+n) (u:=cap) dO (ak rfl) (OO.some (ak rfl) (fun _=>rfl)) (OO.some (ak rfl) (fun _=>by omega)) OO.none (by simp) ay ay (Nat.le_refl _)) (fun _=>by rw[if_neg ay,Nat.add_sub_cancel_left])) rfl ?_;refine WQ.call (vs:=[_]) call282 ⟨ak rfl,trivial⟩ (K6 Oi.up (jZ h8 j) ay) rfl ?_;refine aj "~~<~y~G~_~fZ" (aW (fun eu=> ?_) fun eu=> ?_)
    ·have zN:VK n t raw j=true:=decide_eq_true ay;refine aj "G" ?_;rw[if_pos (FK zN S hjS)];exact aj "." trivial
    ·have zN:VK n t raw j=false:=decide_eq_false ay;refine aj "qP" ?_;refine WL.val (V.aG (v':= .i (((j+1)*n:Nat):Int)) (V.CX (ak rfl) (ak rfl) (fun _=>by omega)) (fun _=>by rw[succ_mul];simp)) rfl ?_;refine aj "X" ?_;exact⟨j+1,⟨hjS,by rw[AP,hjt,zN];rfl⟩,(by show S-(j+1)<S-j;omega),.cons rfl bC,fun w h=>h⟩
   ·refine aj "KG" ?_;obtain rfl:j=S:=by
     rcases Nat.lt_or_ge j S with h | h
     ·exfalso;have hj1:(j+1)*n≤S*n:=mul_le_mul_right _ h;rw[succ_mul] at hj1;omega
     ·omega
    rw[hjt];exact aj "." trivial
def F4(B n:Nat)(raw:List Nat)(j:Nat):List Nat:=(raw.drop (j*n)).take B
def Xf(B n:Nat)(raw:List Nat)(j:Nat):List Nat:=((raw.drop (j*n)).drop B).take (n-B)
def FY(t B n:Nat)(raw:List Nat)(j:Nat):Option (LL×Nat):=tZ t (F4 B n raw j) (Xf B n raw j)
structure Ea where
 A:Option Addr
 c:Nat
 o:Option (LL×Nat)
abbrev Ea.cells(r:Ea):List Value:=[.slice r.A (F5 r.o).length r.c,.i (XP r.o:Nat),.i (aiV r.o:Nat)]
def jD(rs:List Ea):List Value:=rs.flatMap Ea.cells
def aaQ(l:List aH)(rs:List Ea):Prop:=∀r∈rs,iK l r.A (F5 r.o).length 1 (av .u8 (F5 r.o))
theorem FZ(rs ss:List Ea):jD (rs++ss)=jD rs++jD ss:=flatMap_append
theorem CZ:∀(rs:List Ea) (k:Nat) (r:Ea),rs[k]? =some r→∀i v,r.cells[i]? =some v→(jD rs)[k*3+i]? =some v
 | [],k,r,h=>by simp at h
 | r'::rs,0,r,h=>fun i v hi=>by
  simp only[getElem?_cons_zero,Option.some.injEq] at h;subst h;unfold jD;rw[flatMap_cons,Nat.zero_mul,Nat.zero_add,getElem?_append_left (List.getElem?_eq_some_iff.1 hi).1];exact hi
 | r'::rs,k+1,r,h=>fun i v hi=>by
  have ih:=CZ rs k r (by simpa using h) i v hi;unfold jD at ih ⊢;rw[flatMap_cons,getElem?_append_right (by simp[Ea.cells];omega)];rw[←ih];congr 1;simp[Ea.cells];omega
theorem Ik(hg:(NG bl pg S B t).aU)(hr:Seq K F A m 1 (av .u8 raw))(h8:aA 256 raw)(hm:m=kI S B t)(Og:m≤cap) :
 aB prog 193 #[(NG bl pg S B t).v,.slice A m cap] K F
  (fun v H'=>(jf t S (B+aR t) raw≠0∧v= .tuple #[.slice none 0 0,.i (jf t S (B+aR t) raw:Nat)]∧H'=F) ∨
   (jf t S (B+aR t) raw=0∧∃A' cap' l rs,v= .tuple #[.slice A' S cap',.i 0]∧rs.map Ea.o=(List.range S).map (FY t B (B+aR t) raw)∧aaQ l rs ∧
    H'=aV (.slice A' S cap') 296 3 S (jD rs)::bK l::F)):=by
 have hl:raw.length=m:=by simpa [av] using hr.len
 have EC:(NG bl pg S B t).may=true:=decide_eq_true hg;have hN:=zS.of hg;obtain⟨hs,hb,ht⟩:=hN;have afQ:2≤aR t∧aR t≤13:=by unfold aR;omega
 have dL:=fun (K:World) (F:List aH) (hr:Seq K F A m 1 (av .u8 raw))=>Yg hg hr h8 hm Og;obtain⟨n,hn⟩:∃n,n=B+aR t:=⟨_,rfl⟩;have hm2:m=S*n+1:=by rw[hm,hn];rfl
 have hSn:S*n≤8*525:=Nat.mul_le_mul hs.2 ay;rw[←hn] at dL ⊢;obtain⟨st,ada⟩:∃st,st=jf t S n raw:=⟨_,rfl⟩;rw[←ada] at dL ⊢;have XR:st<100:=by rw[ada];unfold jf;repeat (first | split | decide)
 refine aB.en func193 ntmps193 ?_;refine aj "a%" fun b2=> ?_;refine aj "lvB" ?_;refine WL.t1 call96 rfl (aK.eq (v':= .tuple #[.i (m:Int),.i 0]) (Nh (NG bl pg S B t) _ _) (by rw[EC,NG.raw,hm];rfl)) rfl ?_;refine aj "DfscV~DV~VL3,aBc" ?_;refine WL.t2 call243 rfl rfl (dL _ _ hr.up) rfl ?_;refine aj "jsb~e" (aW (fun h1=> ?_) fun h1=> ?_)
 ·refine aj "eC" ?_;exact aF.ret (H':=F) (bJ.eU rfl rfl rfl) (fun w h=>h.drop 1) (.inl ⟨by omega,rfl,rfl⟩)
 ·refine aj "9uaoN" ?_;refine WC.loop (σ:=Nat×Option Addr×Nat×Option Addr×Nat×List aH×List Ea) (fun x=>[(1,.slice x.2.1 (m-x.1*n) x.2.2.1),(2,ptr b2 0),(9,.slice x.2.2.2.1 x.1 x.2.2.2.2.1),(32,.i (S:Int)),(33,.i (x.1:Int))]) (fun x=>aV (.slice x.2.2.2.1 x.1 x.2.2.2.2.1) 296 3 x.1 (jD x.2.2.2.2.2.2)::bK x.2.2.2.2.2.1::ah b2 23 [.i bl,.i pg,.i (S:Int),.i (B:Int),.i (t:Int)]::F) (fun x=>x.1≤S∧m-x.1*n≤x.2.2.1∧Seq K F x.2.1 (m-x.1*n) 1 (av .u8 (raw.drop (x.1*n)))∧x.2.2.2.2.2.2.map Ea.o=(List.range x.1).map (FY t B n raw)∧aaQ x.2.2.2.2.2.1 x.2.2.2.2.2.2) (fun x=>S-x.1) (0,A,cap,none,0,[],[]) ⟨zero_le _,by show m-0*n≤cap;omega,by simpa using hr,rfl,fun r hr=>by simp at hr⟩ bC (fun w h=>Sat.gI (Sat.all h) 296 3) ?_;rintro⟨j,Aj,cj,Ao,co,la,rs⟩ ⟨hj,hjc,hjs,tu,BG⟩;dsimp only at hj hjc hjs tu BG ⊢;have Wx:j*n≤S*n:=mul_le_mul_right _ hj;have pG:rs.length=j:=by have :=congrArg List.length tu;simpa using this
  refine aj "TZ" (aW (fun bA=> ?_) fun bA=> ?_)
  ·refine aj "IM" ?_;have hjS:j<S:=ay;have hj1:(j+1)*n≤S*n:=mul_le_mul_right _ hjS;rw[succ_mul] at hj1;have UN:Seq K F Aj B 1 (av .u8 (F4 B n raw j)):=by
    have h1:=Seq.take hjs (show B≤m-j*n by omega);rw[dU] at h1;exact h1
   have nS:Seq K F (Aj.map (·.add (B*1))) (n-B) 1 (av .u8 (Xf B n raw j)):=by
    have h1:=Seq.OH hjs (l:=B) (u:=cj) ay hjc;rw[if_neg ay] at h1;have h2:=Seq.take h1 (show n-B≤m-j*n-B by omega);rw[kQ,dU] at h2;exact h2
   refine aj "pB" ?_;refine WL.t1 call162 rfl (aK.eq (v':= .i (n:Int)) (Dz (NG bl pg S B t) hg _ _) (by rw[NG.whole,hn])) rfl ?_;refine aj "vw" fun b11=> ?_;refine aj "F" ?_;refine WC.dM (aV (.slice Ao j co) 296 3 j (jD rs)::bK la::ah b2 23 [.i bl,.i pg,.i (S:Int),.i (B:Int),.i (t:Int)]::F) (by kernel_rfl) ?_;refine aj "00(1m203(405(6" ?_;refine WA.t 7 rfl (V.aG (v':= .slice Aj B B) (V.slice (l:=0) (h:=B) (u:=B) dO (ak rfl) OO.none (OO.some (ak rfl) (fun _=>rfl)) (OO.some (ak rfl) (fun _=>rfl)) (by simp) (zero_le _) (Nat.le_refl _) ay) (fun _=>by rw[show (B-0:Nat)=B from rfl];cases Aj<;>simp[Addr.add])) ?_;refine aj "m809(:m;m<" ?_;refine WA.t 13 rfl (V.aG (v':= .slice (Aj.map (·.add (B*1))) (n-B) (n-B)) (V.slice (l:=B) (h:=n) (u:=n) dO (ak rfl) (OO.some (ak rfl) (fun _=>rfl)) (OO.some (ak rfl) (fun _=>rfl)) (OO.some (ak rfl) (fun _=>rfl)) (by simp) ay (Nat.le_refl _) ay) (fun _=>by rw[if_neg ay])) ?_;refine WA.o 14 rfl ?_;refine WL.c3 call244 rfl rfl rfl (Rc ht (by repeat (first | exact UN | apply Seq.up)) (by repeat (first | exact nS | apply Seq.up)) (aA.take (aA.drop h8)) (aA.take (aA.drop (aA.drop h8))) ay ay) rfl ?_;rintro _ _ ⟨A1,c1,mA,mm,mc,l1,rfl,acC,rfl⟩;refine aj "bm?~o@~oA~oB~oC0DnE~~~mb0FnG~~~mb0HnI~~~mbOe~~A" ?_;refine WL.buildSlice (E:=296) (cs:=[_,_,_]) (vs:=[(0,_)]) ⟨ak rfl,trivial⟩ rfl (SL _ _ _) rfl (fun b62=> ?_);refine WL.sub (Sub.refl _) (fun w h=>h.bg 6 [3,0,1,4,5] rfl) ?_;refine WL.append (m:=j) (q:=1) underlying265 ajG (ak rfl) (ak rfl) (Seq.all rfl) (by simp[Value.oneCell']) ay rfl rfl (fun A63 c63 alL asV=> ?_);refine aj "gP" ?_;refine WL.val (V.slice (l:=n) (h:=m-j*n) (u:=cj) dO (ak rfl) (OO.some (ak rfl) (fun _=>rfl)) OO.none OO.none (by simp) ay ay (Nat.le_refl _)) rfl ?_;refine aj "g7" ?_;refine⟨(j+1,(if cj=n then Aj else Aj.map (·.add (n*1))),cj-n,A63,c63,bK l1::la,rs++[⟨A1,c1,FY t B n raw j⟩]),⟨hjS,by show m-(j+1)*n≤cj-n;rw[succ_mul];omega, ?_, ?_, ?_⟩,(by show S-(j+1)<S-j;omega),.cons (look_eq rfl (by dsimp only;rw[succ_mul,Nat.sub_sub])) bC,fun w h=> ?_⟩
   ·have h1:=Seq.OH hjs (show n≤m-j*n by omega) hjc;rw[kQ,drop_drop,Nat.sub_sub] at h1;dsimp only;rw[succ_mul];exact h1
   ·dsimp only;rw[map_append,tu,range_succ,map_append];rfl
   ·intro r EB;rcases mem_append.1 EB with h | h
    ·exact (BG r h).up
    ·rw[mem_singleton] at h;subst h;exact iK.here (fun K=>iK.seq acC)
   ·have h':=(Sat.Bc (h.bg 5 [2,3,0,4] rfl)).p1;dsimp only;rw[FZ];exact h'
  ·refine aj "KeC" ?_;obtain rfl:j=S:=by omega
   exact aF.ret (H':=aV (.slice Ao j co) 296 3 j (jD rs)::bK la::F) (bJ.eU rfl rfl rfl) (fun w h=>h.bg 3 [0,1] rfl) (.inr ⟨by omega,Ao,co,la,rs,rfl,tu,BG,rfl⟩)
structure RR where
 err:Nat
 d:List Nat
 n:Nat
def lV:List (Option (LL×Nat))→List Nat→Nat→RR
 | [],d,n=>⟨0,d,n⟩
 | none::_,_,_=>⟨50,[],0⟩
 | some (p,k)::rest,d,n=>lV rest (d++p.1) (max n k)
def gK(t S B:Nat)(raw:List Nat):RR :=
 if jf t S (B+aR t) raw≠0 then ⟨jf t S (B+aR t) raw,[],0⟩ else lV ((List.range S).map (FY t B (B+aR t) raw)) [] 0
theorem Vu(t:Nat)(d m:List Nat)(h:d.length≤512)(ht:t≤8):(F5 (tZ t d m)).length≤d.length∧XP (tZ t d m)≤5000:=by
 cases ho:tZ t d m with
 | none=>exact⟨zero_le _,zero_le _⟩
 | some r =>
  unfold tZ at ho;split at ho
  ·cases ho
  ·split at ho
   ·cases ho
   ·split at ho
    ·cases ho
    ·injection ho with ho
     subst ho;refine⟨Nat.le_of_eq (ug _ _ _ _ _).1, ?_⟩;have :=Hy t (vE (iY t (d,jI t m))) (xE (iY t (d,jI t m))) (d,jI t m) (13*t+8*d.length);show (fU _ _ _ _ _).2≤5000;omega
theorem abk(hm:0<m):∀w,Sat K w (aV (.slice A m cap) E s m cs::F)→∃x:Nat×List Value,(A=some ⟨x.1,0,none⟩)∧Sat K w (ah x.1 E (cs++x.2)::F):=fun w hw=>by
 cases A with
 | none=>have :=(aV.yM hw).1;omega
 | some a =>
  obtain⟨g,rfl⟩:=aV.addr hw;obtain⟨r,_,h5⟩:=Sat.nU hw;exact⟨(g,r),rfl,h5⟩
theorem abC(hg:(NG bl pg S B t).aU)(hr:Seq K F A m 1 (av .u8 raw))(h8:aA 256 raw)(hm:m=kI S B t)(Og:m≤cap) :
 aB prog 156 #[(NG bl pg S B t).v,.slice A m cap] K F
  (fun v H'=>∃A' cap',v= .tuple #[.slice A' (gK t S B raw).d.length cap',.i ((gK t S B raw).n:Nat),.i ((gK t S B raw).err:Nat)] ∧
   H'=aV (.slice A' (gK t S B raw).d.length cap') 5 1 (gK t S B raw).d.length (av .u8 (gK t S B raw).d)::F):=by
 have hl:raw.length=m:=by simpa [av] using hr.len
 have hN:=zS.of hg;obtain⟨hs,hb,ht⟩:=hN;obtain⟨R,hR⟩:∃R,R=gK t S B raw:=⟨_,rfl⟩;rw[←hR];unfold gK at hR;refine aB.en func156 ntmps156 ?_;refine aj "a%" fun b2=> ?_;refine aj "llvBc" ?_;refine WL.c2 call193 rfl rfl (Ik hg hr.up h8 hm Og) rfl ?_;rintro _ _ (⟨dL,rfl,rfl⟩ | ⟨dL,A1,c1,la,rs,rfl,tu,BG,rfl⟩)
 ·rw[if_pos dL] at hR;obtain⟨st,ada⟩:∃st,st=jf t S (B+aR t) raw:=⟨_,rfl⟩;rw[←ada] at dL hR ⊢;refine aj "~~S" ?_;refine WL.val (V.extract (ak rfl) rfl) rfl (WL.val (V.extract (ak rfl) rfl) rfl (aj "~<~<FMp~~Ssb" ?_));refine WC.MI rfl (by simp;omega) ?_;refine aj "Mp~~S~<~<~<2" ?_;exact aF.ret (H':=aV (.slice none 0 0) 5 1 0 []::F) (bJ.Bl rfl rfl rfl rfl) (fun w h=>Sat.gI (h.drop 1) _ _) ⟨none,0,by rw[hR];rfl,by rw[hR];rfl⟩
 rw[if_neg (fun h=>h dL)] at hR;refine WL.ex (abk ay) (fun ⟨g1,r1⟩ e1=> ?_);dsimp only at e1 ⊢;subst e1;refine aj "Dfs39vuM" ?_;obtain⟨os,Zy⟩:∃os,os=(List.range S).map (FY t B (B+aR t) raw):=⟨_,rfl⟩;rw[←Zy] at tu hR;have Gh:os.length=S:=by rw[Zy];simp
 have pG:rs.length=S:=by rw[←Gh,←tu,length_map]
 have hob:∀o∈os,(F5 o).length≤512∧XP o≤5000:=fun o ho=>by
  rw[Zy] at ho;obtain⟨j,hj,rfl⟩:=mem_map.1 ho;have :=Vu t (F4 B (B+aR t) raw j) (Xf B (B+aR t) raw j) (by unfold F4;rw[length_take];omega) ht.2;have h2:(F4 B (B+aR t) raw j).length≤512:=by unfold F4;rw[length_take];omega
  exact⟨Nat.le_trans this.1 h2,this.2⟩
 refine aj "hkN" ?_;refine WC.loop (σ:=Nat×Option Addr×Nat×List Nat×Nat) (fun x=>[(22,.slice (some ⟨g1,0,none⟩) S c1),(23,.i (S:Int)),(24,.i (x.1:Int)),(9,.slice x.2.1 x.2.2.2.1.length x.2.2.1),(10,.i (x.2.2.2.2:Int))]) (fun x=>aV (.slice x.2.1 x.2.2.2.1.length x.2.2.1) 5 1 x.2.2.2.1.length (av .u8 x.2.2.2.1)::ah g1 296 (jD rs++r1)::bK la::ah b2 23 [.i bl,.i pg,.i (S:Int),.i (B:Int),.i (t:Int)]::F) (fun x=>x.1≤S∧x.2.2.2.1.length≤x.1*512∧x.2.2.2.2≤5000∧lV (os.drop x.1) x.2.2.2.1 x.2.2.2.2=lV os [] 0) (fun x=>S-x.1) (0,none,0,[],0) ⟨zero_le _,zero_le _,zero_le _,rfl⟩ bC (fun w h=>Sat.gI h 5 1) ?_;rintro⟨k,Ao,co,d,mx⟩ ⟨hk,wF,hmx,zN⟩;dsimp only at hk wF hmx zN ⊢;refine aj "TZ" (aW (fun aQ=> ?_) fun aQ=> ?_)
 ·refine aj "IM" ?_;have hkS:k<S:=ay;obtain⟨r,Dq⟩:∃r,rs[k]? =some r:=⟨_,getElem?_eq_getElem ay⟩;have hro:os[k]? =some r.o:=by rw[←tu,getElem?_map,Dq];rfl
  have JI:os.drop k=r.o::os.drop (k+1):=by
   rw[drop_eq_getElem_cons ay];congr 1;rw[getElem?_eq_getElem ay] at hro;exact Option.some.inj hro
  have anO:=BG r (mem_of_getElem? Dq);have RN:=hob r.o (mem_of_getElem? hro);rw[JI] at zN;have anz:∀ {X:aH} {H:List aH},fH K (X::ah g1 296 (jD rs++r1)::H) g1 (0+(k:Int).toNat*3) r.cells:=fun {X H} i v hi=>by
   refine Rd.up (Rd.here ?_);have h1:=CZ rs k r Dq i v hi;rw[show 0+(k:Int).toNat*3=k*3 by omega,getElem?_append_left (List.getElem?_eq_some_iff.1 h1).1];exact h1
  refine aj "p~E" ?_;refine WL.val (V.fE (vs:=r.cells) ⟨isAgg296,sizeOf296⟩ (ak rfl) rfl (fun _=>anz)) rfl ?_;refine aj "w" fun b12=> ?_;refine aj "~@Faosb~e" (aW (fun h2=> ?_) fun h2=> ?_)
  ·refine aj "M~k~y~G~n~n~n~f~C" ?_;have uN:r.o=none:=by
    cases ho:r.o with
    | none=>rfl
    | some q=>rw[ho] at h2;exact absurd rfl h2
   have hR2:R=⟨50,[],0⟩:=by rw[hR,←zN,uN];rfl
   exact aF.ret (H':=aV (.slice none 0 0) 5 1 0 []::F) (bJ.Bl rfl rfl rfl (look_eq rfl (by rw[uN]))) (fun w h=>Sat.gI (h.drop 5) _ _) ⟨none,0,by rw[hR2];rfl,by rw[hR2];rfl⟩
  ·refine aj "Uo" ?_;obtain⟨q,hq⟩:∃q,r.o=some q:=by
    cases ho:r.o with
    | none=>rw[ho] at h2;exact absurd h2 aN
    | some q=>exact⟨q,rfl⟩
   refine aj "?" ?_;refine WL.append (m:=d.length) (q:=(F5 r.o).length) (news:=av .u8 (F5 r.o)) underlying34 yL (ak rfl) (ak rfl) (by repeat (first | exact iK.seq anO | apply Seq.up)) (jB _ _) ay rfl rfl (fun A36 c36 am1 ane=> ?_);refine aj "gho~~sg7" ?_;obtain⟨⟨p1,p2⟩,nq⟩:=q;rw[hq] at RN zN;have hdq:F5 r.o=p1:=by rw[hq];rfl
   have hnq:XP r.o=nq:=by rw[hq];rfl
   refine⟨(k+1,A36,c36,d++p1,max mx nq),⟨hkS,by show (d++p1).length≤(k+1)*512;have :=RN.1;rw[length_append];simp only[F5] at this;omega,by show max mx nq≤5000;have :=RN.2;simp only[XP] at this;omega,by dsimp only;rw[←zN];rfl⟩,(by show S-(k+1)<S-k;omega),.cons rfl (.cons rfl (.cons (look_eq rfl (by simp)) (.cons (look_eq rfl (by dsimp only;rw[length_append,hdq])) (.cons (look_eq rfl (by dsimp only;rw[hnq];congr 1;omega)) (.nil _))))),fun w h=> ?_⟩;have h':=h.bg 5 [0,2,3,4] rfl;rw[hdq,←dx,←length_append] at h';exact h'
 ·refine aj "KeclC" ?_;obtain rfl:k=S:=by omega
  have hR2:R=⟨0,d,mx⟩:=by rw[hR,←zN,drop_of_length_le ay];rfl
  exact aF.ret (H':=aV (.slice Ao d.length co) 5 1 d.length (av .u8 d)::F) (bJ.Bl rfl rfl rfl rfl) (fun w h=>h.bg 4 [0] rfl) ⟨Ao,co,by rw[hR2];rfl,by rw[hR2]⟩
def iB(xs:List Int):List Nat:=xs.map Int.toNat
theorem mJ(h:bF xs):ints .u8 xs=av .u8 (iB xs):=by
 unfold ints av iB;rw[map_map];apply map_congr_left;intro x hx;have :=h x hx;show Value.int .u8 x=Value.int .u8 ((x.toNat:Nat):Int);congr 1;omega
theorem iP(h:bF xs):aA 256 (iB xs):=fun y hy=>by
 obtain⟨x,hx,rfl⟩:=mem_map.1 hy;have :=h x hx;omega
theorem gZ(xs:List Int):(iB xs).length=xs.length:=by simp[iB]
def bH(xs:List Nat):List Int:=xs.map fun x:Nat=>(x:Int)
theorem kR(h:aA 256 xs):bF (bH xs):=fun y hy=>by
 obtain⟨x,hx,rfl⟩:=mem_map.1 hy;have :=h x hx;omega
theorem sG(xs:List Nat):iB (bH xs)=xs:=by
 unfold iB bH;rw[map_map]
 conv=>rhs;rw[←map_id xs]
 apply map_congr_left;intro x _;rfl
theorem jX(k:IntKind)(xs:List Nat):av k xs=ints k (bH xs):=Ew k xs
namespace aD
def ahead(S:aD)(b p:Int)(ok:Bool):Int:=if S.up=false then 70 else if b<0∨S.g.bl≤b∨p<0∨S.g.pg≤p∨ok=false then 1 else if S.bad b then 73 else 0
def done(b:Int)(x:aD×Int):aD×Int:=if x.2≠72 then x else if (x.1.mark b).2≠0 then x.1.mark b else ((x.1.mark b).1,72)
def bB(S:aD)(b:Int):aD×Int:=if S.ahead b 0 true≠0 then (S,S.ahead b 0 true) else done b (S.erase b)
end aD
abbrev dA(bd bc:Nat)(g:bQ):aH:=ah bd 169 [ptr bc 0,.i g.bl,.i g.pg,.i g.se,.i g.sb,.i g.fl]
theorem YS{C:Cw}(hC:C.Ok):aB prog 30 #[ptr bc 0] K (C.A bc::F) (fun v H'=>∃bd,v= .tuple #[ptr bd 0,.i 0]∧H'=C.A bc::dA bd bc C.g::F):=by
 refine aB.en func30 ntmps30 ?_;refine aj "alf]3Uc" ?_;refine WL.t1 call98 rfl (Kk) rfl ?_;refine WL.val (V.build (vs:=[(0,_),(1,_)]) ⟨ak rfl,ak rfl,trivial⟩ rfl (Sj _ _ _ _ _ _)) rfl ?_;refine WL.box (cs:=[_,_,_,_,_,_]) (ak rfl) rfl rfl (fun b10=> ?_);refine aj "C" ?_;exact aF.ret (H':=C.A bc::dA b10 bc C.g::F) (bJ.eU rfl rfl rfl) (fun w h=>h.p1) ⟨b10,rfl,rfl⟩
theorem kg{C:Cw}:aK prog 100 #[ptr bd 0] K (C.A bc::dA bd bc g::F) g.v:=by
 refine aB.en func100 ntmps100 ?_;refine aj "aw" fun b2=> ?_;refine aj "br]3USBE2" ?_;exact aF.ret (H':=C.A bc::dA bd bc g::F) (bJ.one rfl (R1.jQ (vs:=[_,_,_,_,_]) rfl ⟨isAgg23,sizeOf23⟩ rfl tN)) (fun w h=>h.drop 1) ⟨rfl,rfl⟩
theorem rT{C:Cw}(b p:Int)(ok:Bool):aK prog 154 #[ptr bd 0,.i b,.i p,.bool ok] K (C.A bc::dA bd bc C.g::F) (.i (C.aC.ahead b p ok)):=by
 refine aB.en func154 ntmps154 ?_;refine aj "aute]g~Be`o" ?_;refine WL.t1 call185 rfl (V6) rfl ?_;refine aj "*gH" (aW (fun nD=> ?_) fun nD=> ?_)
 ·simp only[Bool.not_eq_true',Bool.not_eq_false'] at nD;refine aj "G" ?_;exact qR (C.A bc::dA bd bc C.g::F) rfl rfl cO ⟨by unfold aD.ahead;rw[if_pos (show C.aC.up=false from nD)],rfl⟩
 ·simp only[Bool.not_eq_true',Bool.not_eq_false'] at nD;refine aj "e4cVV~~r~5~5~b~~RLcV~]LcVV~~r~5~5~b~~RLcV~~CLgH" (aW (fun h2=> ?_) fun h2=> ?_)
  ·simp only[Bool.or_eq_true,Bool.or_eq_false_iff,oK] at h2;refine aj "G" ?_;exact qR (C.A bc::dA bd bc C.g::F) rfl rfl cO ⟨by unfold aD.ahead;rw[if_neg (show ¬C.aC.up=false by rw[show C.aC.up=C.up from rfl,nD];decide),if_pos (by show b<0∨C.g.bl≤b∨p<0∨C.g.pg≤p∨ok=false;simp only[or_assoc] at h2;exact h2)],rfl⟩
  ·simp only[Bool.or_eq_true,Bool.or_eq_false_iff,oK] at h2;refine aj "e`oc" ?_;refine WL.t2 call186 rfl rfl (Qh b) rfl ?_;refine aj "gH" (aW (fun h3=> ?_) fun h3=> ?_)
   ·refine aj "G" ?_;exact qR (C.A bc::dA bd bc C.g::F) rfl rfl cO ⟨by unfold aD.ahead;rw[if_neg (show ¬C.aC.up=false by rw[show C.aC.up=C.up from rfl,nD];decide),if_neg (by show ¬(b<0∨C.g.bl≤b∨p<0∨C.g.pg≤p∨ok=false);obtain⟨⟨⟨⟨q1,q2⟩,q3⟩,q4⟩,q5⟩:=h2;rw[q5];simp;omega),if_pos h3],rfl⟩
   ·refine aj "qG" ?_;exact qR (C.A bc::dA bd bc C.g::F) rfl rfl cO ⟨by unfold aD.ahead;rw[if_neg (show ¬C.aC.up=false by rw[show C.aC.up=C.up from rfl,nD];decide),if_neg (by show ¬(b<0∨C.g.bl≤b∨p<0∨C.g.pg≤p∨ok=false);obtain⟨⟨⟨⟨q1,q2⟩,q3⟩,q4⟩,q5⟩:=h2;rw[q5];simp;omega),if_neg (by rw[h3];decide)],rfl⟩
theorem Qv{C:Cw}(hC:C.Ok)(b e:Int):aB prog 171 #[.i b,.i e,.func (.func 173) #[ptr bc 0] #[]] K (C.A bc::F)
 (fun v H'=>∃C':Cw,C'.Ok∧H'=C'.A bc::F∧C'.aC=(aD.done b (C.aC,e)).1∧v= .i (aD.done b (C.aC,e)).2):=by
 refine aB.en func171 ntmps171 ?_;refine aj "afsb~e" (aW (fun h0=> ?_) fun h0=> ?_)
 ·have hd:aD.done b (C.aC,e)=(C.aC,e):=by unfold aD.done;rw[if_pos h0]
  refine aj "ed" ?_;exact qR (C.A bc::F) rfl rfl cO ⟨C,hC,rfl,by rw[hd],by rw[hd]⟩
 ·have hd:aD.done b (C.aC,e)=if (C.aC.mark b).2≠0 then C.aC.mark b else ((C.aC.mark b).1,72):=by unfold aD.done;rw[if_neg (by simpa using h0)]
  refine aj "qrc" ?_;refine WL.ny (first:=[ptr bc 0]) (vs:=[_]) (captured:=[]) call173 (ak rfl) ⟨ak rfl,trivial⟩ (XZ hC b) rfl ?_;rintro _ _ ⟨C1,RP,rfl,s1,rfl⟩;refine aj "jsb~e" (aW (fun aQ=> ?_) fun aQ=> ?_)
  ·rw[if_pos aQ] at hd;refine aj "ed" ?_;exact qR (C1.A bc::F) rfl rfl cO ⟨C1,RP,rfl,by rw[hd,s1],by rw[hd]⟩
  ·rw[if_neg (by simpa using aQ)] at hd;refine aj "Ud" ?_;exact qR (C1.A bc::F) rfl rfl cO ⟨C1,RP,rfl,by rw[hd,s1],by rw[hd,h0]⟩
theorem Pq{C:Cw}(hC:C.Ok)(b:Int):aB prog 104 #[ptr bd 0,.i b] K (C.A bc::dA bd bc C.g::F)
 (fun v H'=>∃C':Cw,C'.Ok∧H'=C'.A bc::dA bd bc C.g::F∧C'.aC=(C.aC.bB b).1∧v= .i (C.aC.bB b).2):=by
 refine aB.en func104 ntmps104 ?_;refine aj "afc" ?_;refine WL.t4 call154 rfl rfl rfl rfl (rT b 0 true) rfl ?_;refine aj "jsb~e" (aW (fun aL=> ?_) fun aL=> ?_)
 ·have hd:C.aC.bB b=(C.aC,C.aC.ahead b 0 true):=by unfold aD.bB;rw[if_pos aL]
  refine aj "ed" ?_;exact qR (C.A bc::dA bd bc C.g::F) rfl rfl cO ⟨C,hC,rfl,by rw[hd],by rw[hd]⟩
 ·have hd:C.aC.bB b=aD.done b (C.aC.erase b):=by unfold aD.bB;rw[if_neg (by simpa using aL)]
  refine aj "," ?_;refine WC.dM (dA bd bc C.g::F) (by kernel_rfl) ?_;refine aj "m0m1~a203(4m5m7~a809(:" ?_;refine WA.t 11 rfl (V.makeFunc (us:=[_]) (vs:=[]) ⟨ak rfl,trivial⟩ trivial) ?_;refine WA.o 6 rfl ?_;refine WL.c2 call172 rfl rfl (SE hC b) rfl ?_;rintro _ _ ⟨C1,RP,rfl,s1,rfl⟩;refine aj "bn<" ?_;refine WL.c3 call171 rfl rfl rfl (Qv RP b _) rfl ?_;rintro _ _ ⟨C2,Bz,rfl,s2,rfl⟩;refine aj "b~u=O~C" ?_;exact qR (C2.A bc::dA bd bc C.g::F) rfl rfl cO ⟨C2,Bz,rfl,by rw[hd,s2,s1],by rw[hd,s1]⟩
namespace aD
def room(S:aD):Nat:=S.g.se.toNat*S.g.sb.toNat
def fF(g:bQ)(d:List Nat):List Nat:=qE g.fl.toNat g.se.toNat g.sb.toNat d
def dK(S:aD)(b p:Int)(d:List Nat):aD×Int :=
 if S.ahead b p (decide (d.length=S.room))≠0 then (S,S.ahead b p (decide (d.length=S.room))) else done b (S.program b p (bH (fF S.g d)))
structure Got where
 err:Int
 d:List Nat
 n:Nat
def kI(S:aD)(b p:Int):List Nat:=iB (S.reads b p)
def bY(S:aD)(b p:Int):Got :=
 if S.ahead b p true≠0 then ⟨S.ahead b p true,[],0⟩
 else ⟨(gK S.g.fl.toNat S.g.se.toNat S.g.sb.toNat (S.kI b p)).err,(gK S.g.fl.toNat S.g.se.toNat S.g.sb.toNat (S.kI b p)).d,(gK S.g.fl.toNat S.g.se.toNat S.g.sb.toNat (S.kI b p)).n⟩
def oW(S:aD)(b p:Int):Nat:=jf S.g.fl.toNat S.g.se.toNat (S.g.sb.toNat+aR S.g.fl.toNat) (S.kI b p)
def kJ(S:aD)(b:Int):Nat→Bool
 | 0=>true
 | k+1=>kJ S b k&&decide (S.oW b (k:Nat)=0)
def mX(S:aD)(b n:Int):Bool×Int :=
 if S.ahead b 0 (decide (0≤n)&&decide (n≤S.g.pg))=73 then (false,0)
 else if S.ahead b 0 (decide (0≤n)&&decide (n≤S.g.pg))≠0 then (false,S.ahead b 0 (decide (0≤n)&&decide (n≤S.g.pg)))
 else (S.kJ b n.toNat,0)
def fM(S:aD):Nat→List Int
 | 0=>[]
 | k+1=>if (S.up&& !S.bad (k:Int))=true then fM S k++[(k:Int)] else fM S k
def dW(S:aD):List Int:=S.fM S.g.bl.toNat
theorem jK(S:aD):∀k,(S.fM k).length≤k
 | 0=>Nat.le_refl _
 | k+1=>by
  have :=jK S k;rw[fM];split
  ·rw[length_append];simp;omega
  ·omega
theorem Bt{S:aD}(h:S.ahead b p ok=0):S.up=true∧(0≤b∧b<S.g.bl∧0≤p∧p<S.g.pg)∧ok=true∧S.bad b=false:=by
 unfold ahead at h;split at h
 ·cases h
 ·rename_i h1;split at h
  ·cases h
  ·rename_i h2;split at h
   ·cases h
   ·rename_i h3;cases jh:ok with
    | false=>exact absurd (.inr (.inr (.inr (.inr jh)))) h2
    | true=>exact⟨by simpa using h1,by omega,rfl,by simpa using h3⟩
theorem YI{S:aD}(h:S.ahead b p ok=0):S.gU b p=0:=by
 obtain⟨h1,h2,_,_⟩:=Bt h;unfold gU oG block;rw[if_neg (by rw[h1];decide),if_neg (by simp;omega)]
end aD
theorem lS(h:g.aU):g=NG g.bl g.pg g.se.toNat g.sb.toNat g.fl.toNat:=by
 unfold bQ.aU at h;obtain⟨a,b,c,d,e⟩:=g;dsimp only at h ⊢;unfold NG;congr 1<;>omega
theorem bQ.uZ{g:bQ}(h:g.aU):g.raw=((kI g.se.toNat g.sb.toNat g.fl.toNat:Nat):Int):=by
 have h1:=NG.raw (bl:=g.bl) (pg:=g.pg) (S:=g.se.toNat) (B:=g.sb.toNat) (t:=g.fl.toNat);rw[←lS h] at h1;exact h1
theorem bQ.Jv{g:bQ}(h:g.aU):g.room=((g.se.toNat*g.sb.toNat:Nat):Int):=by
 have h1:=NG.room (bl:=g.bl) (pg:=g.pg) (S:=g.se.toNat) (B:=g.sb.toNat) (t:=g.fl.toNat);rw[←lS h] at h1;exact h1
theorem WH(hg:g.aU)(hd:Seq K F A m 1 (av .u8 d))(h8:aA 256 d)(hm:m=g.se.toNat*g.sb.toNat)(Og:m≤cap) :
 aB prog 191 #[g.v,.slice A m cap] K F
  (fun v H'=>∃A' cap',v= .tuple #[.slice A' g.raw.toNat cap',.i 0]∧H'=aV (.slice A' g.raw.toNat cap') 5 1 g.raw.toNat (av .u8 (aD.fF g d))::F):=by
 have h:=aay (bl:=g.bl) (pg:=g.pg) (S:=g.se.toNat) (B:=g.sb.toNat) (t:=g.fl.toNat) (by rw[←lS hg];exact hg) hd h8 hm Og;rw[←lS hg] at h;rw[bQ.uZ hg,Int.toNat_natCast];exact h
theorem WS{g:bQ}(hg:g.aU)(hr:Seq K F A m 1 (av .u8 raw))(h8:aA 256 raw)(hm:m=g.raw.toNat)(Og:m≤cap) :
 aB prog 156 #[g.v,.slice A m cap] K F
  (fun v H'=>∃A' cap',v= .tuple #[.slice A' (gK g.fl.toNat g.se.toNat g.sb.toNat raw).d.length cap',.i ((gK g.fl.toNat g.se.toNat g.sb.toNat raw).n:Nat),.i ((gK g.fl.toNat g.se.toNat g.sb.toNat raw).err:Nat)] ∧
   H'=aV (.slice A' (gK g.fl.toNat g.se.toNat g.sb.toNat raw).d.length cap') 5 1 (gK g.fl.toNat g.se.toNat g.sb.toNat raw).d.length (av .u8 (gK g.fl.toNat g.se.toNat g.sb.toNat raw).d)::F):=by
 have h:=abC (bl:=g.bl) (pg:=g.pg) (S:=g.se.toNat) (B:=g.sb.toNat) (t:=g.fl.toNat) (by rw[←lS hg];exact hg) hr h8 (by rw[hm,bQ.uZ hg,Int.toNat_natCast]) Og;rw[←lS hg] at h;exact h
theorem Q5{g:bQ}(hg:g.aU)(hr:Seq K F A m 1 (av .u8 raw))(h8:aA 256 raw)(hm:m=g.raw.toNat)(Og:m≤cap) :
 aB prog 193 #[g.v,.slice A m cap] K F
  (fun v H'=>∃A' n' cap',v= .tuple #[.slice A' n' cap',.i (jf g.fl.toNat g.se.toNat (g.sb.toNat+aR g.fl.toNat) raw:Nat)]∧H'=F):=by
 have h:=Ik (bl:=g.bl) (pg:=g.pg) (S:=g.se.toNat) (B:=g.sb.toNat) (t:=g.fl.toNat) (by rw[←lS hg];exact hg) hr h8 (by rw[hm,bQ.uZ hg,Int.toNat_natCast]) Og;rw[←lS hg] at h;refine aB.afS h (fun v H' hp=> ?_);rcases hp with ⟨h1,rfl,rfl⟩ | ⟨h1,A',cap',l,rs,rfl,_,_,rfl⟩
 ·exact⟨H',fun w hw=>hw,_,_,_,rfl,rfl⟩
 ·exact⟨F,fun w hw=>hw.drop 2,A',_,cap',by rw[h1];rfl,rfl⟩
theorem Qm{C:Cw}(hC:C.Ok)(b p:Int)(hd:Seq K F A m 1 (av .u8 d))(h8:aA 256 d)(Og:m≤cap)(hm:m≤1000000) :
 aB prog 124 #[ptr bd 0,.i b,.i p,.slice A m cap] K (C.A bc::dA bd bc C.g::F)
 (fun v H'=>∃C':Cw,C'.Ok∧H'=C'.A bc::dA bd bc C.g::F∧C'.aC=(C.aC.dK b p d).1∧v= .i (C.aC.dK b p d).2):=by
 have hl:d.length=m:=by simpa [av] using hd.len
 have EC:C.g.may=true:=decide_eq_true hC.aU;refine aB.en func124 ntmps124 ?_;refine aj "aj" ?_;refine WL.t1 call100 rfl (kg) rfl ?_;refine WL.t1 call122 rfl (aK.eq (v':= .tuple #[.i C.g.room,.i 0]) (Ii C.g) (by rw[EC];rfl)) rfl ?_;refine aj "Dfzckc" ?_;refine WL.val (V.aG (v':= .bool (decide (d.length=C.aC.room))) (V.eql (ak rfl) (ak rfl)) (fun _=>by rw[bQ.Jv hC.aU,hl];congr 1;apply decide_eq_decide.2;show ((m:Int)=((C.g.se.toNat*C.g.sb.toNat:Nat):Int))↔m=C.g.se.toNat*C.g.sb.toNat;omega)) rfl ?_;refine WL.t4 call154 rfl rfl rfl rfl (rT b p _) rfl ?_;refine aj "jsb~e" (aW (fun h0=> ?_) fun h0=> ?_)
 ·have hdw:C.aC.dK b p d=(C.aC,C.aC.ahead b p (decide (d.length=C.aC.room))):=by unfold aD.dK;rw[if_pos h0]
  refine aj "ed" ?_;exact qR (C.A bc::dA bd bc C.g::F) rfl rfl cO ⟨C,hC,rfl,by rw[hdw],by rw[hdw]⟩
 ·have hdw:C.aC.dK b p d=aD.done b (C.aC.program b p (bH (aD.fF C.g d))):=by unfold aD.dK;rw[if_neg (by simpa using h0)];rfl
  have jh:=(aD.Bt h0).2.2.1;have hmr:m=C.g.se.toNat*C.g.sb.toNat:=by rw[←hl];exact of_decide_eq_true jh
  refine aj "USBc" ?_;refine WL.c2 call191 rfl rfl (WH hC.aU hd.up.up h8 hmr Og) rfl ?_;rintro _ _ ⟨Ap,cp,rfl,rfl⟩;refine aj "?" ?_;refine WL.lG (fun w h=>(aV.shape h.p1.head)) (fun ⟨Aq,cq,hq,GL,_⟩=> ?_);have ZG:C.g.raw.toNat≤cp:=by injection hq with q1 q2 q3;omega
  have hN:=zS.of (bl:=C.g.bl) (pg:=C.g.pg) (by rw[←lS hC.aU];exact hC.aU);have l7:(aD.fF C.g d).length=C.g.raw.toNat:=by
   unfold aD.fF;rw[Ch hN.t h8 (hl.trans hmr),bQ.uZ hC.aU,Int.toNat_natCast]
  have qY:aA 256 (aD.fF C.g d):=PZ hN.t h8;refine aj "Du" ?_;refine WC.dM (aV (.slice Ap C.g.raw.toNat cp) 5 1 C.g.raw.toNat (av .u8 (aD.fF C.g d))::dA bd bc C.g::F) (by kernel_rfl) ?_;refine aj "m0m1~a203(4m5m6m7m9~a:0;(<" ?_;refine WA.t 13 rfl (V.makeFunc (us:=[_]) (vs:=[]) ⟨ak rfl,trivial⟩ trivial) ?_;refine WA.o 8 rfl ?_;refine WL.c4 call192 rfl rfl rfl rfl (Nu hC b p (kR qY) (by rw[←jX];exact aV.seq (by rw[au,l7,Nat.mul_one])) ZG) rfl ?_;rintro _ _ ⟨C1,RP,rfl,s1,rfl⟩;refine aj "bn>" ?_;refine WL.c3 call171 rfl rfl rfl (Qv RP b _) rfl ?_;rintro _ _ ⟨C2,Bz,rfl,s2,rfl⟩;refine aj "b~u?O~C" ?_;exact qR (C2.A bc::dA bd bc C.g::F) rfl rfl (fun w h=>h.bg 2 [0] rfl) ⟨C2,Bz,rfl,by rw[hdw,s2,s1],by rw[hdw,s1]⟩
theorem Cw.Ok.Yx{C:Cw}(hC:C.Ok)(b p:Int):bF (C.aC.reads b p):=by
 have hr:=bQ.sS hC.aU;have hl:=hC.Le b p;unfold aD.reads at hl ⊢;rw[mO] at hl;refine IQ (hC.OP b p) (fun i hi=> ?_);obtain⟨A,c,l,h1,h2,h3,h4,h5⟩:=hC.OD b p;rw[←h4] at hi;have :=h3 i hi;rw[hl];omega
theorem Cw.Ok.uO{C:Cw}(hC:C.Ok)(b p:Int):ints .u8 (C.aC.reads b p)=av .u8 (C.aC.kI b p)∧aA 256 (C.aC.kI b p)∧(C.aC.kI b p).length=C.g.raw.toNat:=by
 have h:=hC.Yx b p;exact⟨mJ h,iP h,by unfold aD.kI;rw[gZ,hC.Le]⟩
theorem Uk{C:Cw}(hC:C.Ok)(b p:Int):aB prog 90 #[ptr bd 0,.i b,.i p] K (C.A bc::dA bd bc C.g::F)
 (fun v H'=>∃A' c',v= .tuple #[.slice A' (C.aC.bY b p).d.length c',.i ((C.aC.bY b p).n:Nat),.i (C.aC.bY b p).err] ∧
  H'=aV (.slice A' (C.aC.bY b p).d.length c') 5 1 (C.aC.bY b p).d.length (av .u8 (C.aC.bY b p).d)::C.A bc::dA bd bc C.g::F):=by
 obtain⟨G,hG⟩:∃G,G=C.aC.bY b p:=⟨_,rfl⟩;rw[←hG];obtain⟨r1,r2,r3⟩:=hC.uO b p;have RN:=bQ.sS hC.aU;refine aB.en func90 ntmps90 ?_;refine aj "allfz" ?_;refine WL.t4 call154 rfl rfl rfl rfl (rT b p true) rfl ?_;refine aj "jsb~e" (aW (fun h0=> ?_) fun h0=> ?_)
 ·have hG2:G=⟨C.aC.ahead b p true,[],0⟩:=by rw[hG];unfold aD.bY;rw[if_pos h0]
  refine aj "elC" ?_;exact aF.ret (H':=aV (.slice none 0 0) 5 1 0 []::C.A bc::dA bd bc C.g::F) (bJ.Bl rfl rfl rfl rfl) (fun w h=>Sat.gI h _ _) ⟨none,0,by rw[hG2];rfl,by rw[hG2];rfl⟩
 ·have h0:C.aC.ahead b p true=0:=by simpa using h0
  have hG2:G=⟨(gK C.g.fl.toNat C.g.se.toNat C.g.sb.toNat (C.aC.kI b p)).err,(gK C.g.fl.toNat C.g.se.toNat C.g.sb.toNat (C.aC.kI b p)).d,(gK C.g.fl.toNat C.g.se.toNat C.g.sb.toNat (C.aC.kI b p)).n⟩:=by rw[hG];unfold aD.bY;rw[if_neg (by rw[h0];decide)];rfl
  refine aj "U`oz" ?_;refine WL.c3 call155 rfl rfl rfl (LJ hC b p) rfl ?_;rintro _ _ (⟨_,bo,rfl,rfl⟩ | ⟨uN,rfl,rfl⟩)
  rotate_left
  ·exact (uN (aD.YI h0)).elim
  rw[r1];refine aj "Dfs3USBc" ?_;refine WL.c2 call156 rfl rfl (WS hC.aU (Seq.Gb r3) r2 rfl (Nat.le_refl _)) rfl ?_;rintro _ _ ⟨A',c',rfl,rfl⟩;refine aj "~6~MlC" ?_;refine aF.ret (H':=aV (.slice A' G.d.length c') 5 1 G.d.length (av .u8 G.d)::C.A bc::dA bd bc C.g::F) (bJ.Bl rfl rfl rfl rfl) (fun w h=> ?_) ⟨A',c',by rw[hG2],rfl⟩;rw[hG2];exact h.bg 2 [0] rfl
theorem Rk{C:Cw}(hC:C.Ok)(b n:Int)(hn: -9223372036854775808≤n∧n≤9223372036854775807):aK prog 126 #[ptr bd 0,.i b,.i n] K (C.A bc::dA bd bc C.g::F) (.tuple #[.bool (C.aC.mX b n).1,.i (C.aC.mX b n).2]):=by
 have RN:=bQ.sS hC.aU;have Dt:=hC.aU;unfold bQ.aU at Dt;refine aB.en func126 ntmps126 ?_;refine aj "aljz~ic!!" ?_;refine WL.nL (oj:=_) (vs:=[_]) rfl rfl rfl GC.t call100 ⟨OV.g rfl id,trivial⟩ (fun hg=>kg) rfl ?_;refine WL.bI (oj:=_) rfl rfl rfl GC.t (V.field (OV.g rfl id) (ady _ _ _ _ _)) rfl (aj "~~%Q" ?_);refine WL.t4 call154 rfl rfl rfl rfl (rT b 0 _) rfl ?_;refine aj "uM" ?_;obtain⟨e,he⟩:∃e,e=C.aC.ahead b 0 (decide (0≤n)&&decide (n≤C.g.pg)):=⟨_,rfl⟩;rw[←he];have hW:C.aC.mX b n=if e=73 then (false,0) else if e≠0 then (false,e) else (C.aC.kJ b n.toNat,0):=by unfold aD.mX;rw[he];rfl
 rw[hW];refine aj "h:b~e" (aW (fun aL=> ?_) fun aL=> ?_)
 ·rw[if_pos aL];refine aj "aC" ?_;exact aF.ret (H':=C.A bc::dA bd bc C.g::F) (bJ.eU rfl rfl rfl) cO ⟨rfl,rfl⟩
 ·rw[if_neg aL];refine aj "qrsb~e" (aW (fun aQ=> ?_) fun aQ=> ?_)
  ·rw[if_pos aQ];refine aj "eC" ?_;exact aF.ret (H':=C.A bc::dA bd bc C.g::F) (bJ.eU rfl rfl rfl) cO ⟨rfl,rfl⟩
  ·have he0:e=0:=by simpa using aQ
   rw[if_neg (by rw[he0];decide)];obtain⟨q1,q2,q3,q4⟩:=aD.Bt (he ▸ he0:C.aC.ahead b 0 (decide (0≤n)&&decide (n≤C.g.pg))=0);simp only[Bool.and_eq_true,decide_eq_true_eq] at q3;obtain⟨k,hk⟩:∃k:Nat,n=(k:Int):=⟨n.toNat,by omega⟩;subst hk;rw[Int.toNat_natCast];refine aj "qrN" ?_;refine WC.loop (σ:=Nat) (fun j=>[(0,ptr bd 0),(1,.i b),(31,.i (k:Int)),(32,.i (j:Int))]) (fun _=>C.A bc::dA bd bc C.g::F) (fun j=>j≤k∧C.aC.kJ b j=true) (fun j=>k-j) 0 ⟨zero_le _,rfl⟩ bC cO ?_;rintro j ⟨hj,hjw⟩;refine aj "TZ" (aW (fun bA=> ?_) fun bA=> ?_)
   ·refine aj "1u" ?_;have hjk:j<k:=ay;obtain⟨r1,r2,r3⟩:=hC.uO b (j:Int);have hre:C.aC.gU b (j:Int)=0:=by
     unfold aD.gU aD.oG aD.block;rw[if_neg (by rw[q1];decide),if_neg];have e1:C.aC.g=C.g:=rfl;simp only[e1] at q2 ⊢;simp;omega
    refine aj "h`oz" ?_;refine WL.c3 call155 rfl rfl rfl (LJ hC b (j:Int)) rfl ?_;rintro _ _ (⟨_,bo,rfl,rfl⟩ | ⟨uN,rfl,rfl⟩)
    rotate_left
    ·exact (uN hre).elim
    rw[r1];refine aj "DjSBc" ?_;refine WL.c2 call193 rfl rfl (Q5 hC.aU (Seq.Gb r3) r2 rfl (Nat.le_refl _)) rfl ?_;rintro _ _ ⟨A',n',c',rfl,rfl⟩;refine aj "Djsb~e" (aW (fun eu=> ?_) fun eu=> ?_)
    ·have dL:decide (C.aC.oW b (j:Nat)=0)=false:=decide_eq_false (by intro h;exact eu (by show ((C.aC.oW b (j:Nat):Nat):Int)=0;rw[h];rfl));refine aj "aC" ?_;refine aF.ret (H':=C.A bc::dA bd bc C.g::F) (bJ.eU rfl rfl rfl) (fun w h=>h.drop 1) ⟨?_,rfl⟩;have uN:∀i,j<i→C.aC.kJ b i=false:=fun i hi=>by
      induction i with
      | zero=>omega
      | succ i ih =>
       rw[aD.kJ];rcases Nat.lt_or_ge j i with h | h
       ·rw[ih h];rfl
       ·obtain rfl:j=i:=by omega
        rw[dL,Bool.and_false]
     rw[uN k hjk]
    ·have dL:decide (C.aC.oW b (j:Nat)=0)=true:=decide_eq_true (by have h9:=eu;simp at h9;exact h9);refine aj "q7" ?_;exact⟨j+1,⟨by omega,by rw[aD.kJ,hjw,dL];rfl⟩,(by show k-(j+1)<k-j;omega),.cons rfl bC,fun w h=>h.drop 1⟩
   ·refine aj "KaC" ?_;obtain rfl:j=k:=by omega
    exact aF.ret (H':=C.A bc::dA bd bc C.g::F) (bJ.eU rfl rfl rfl) cO ⟨by rw[hjw],rfl⟩
theorem UC{C:Cw}(hC:C.Ok):aB prog 118 #[ptr bd 0] K (C.A bc::dA bd bc C.g::F)
 (fun v H'=>∃A' c',v= .slice A' C.aC.dW.length c'∧H'=aV (.slice A' C.aC.dW.length c') 3 1 C.aC.dW.length (ints .i64 C.aC.dW)::C.A bc::dA bd bc C.g::F):=by
 have BI:=hC.aU;unfold bQ.aU at BI;obtain⟨n,hn⟩:∃n:Nat,C.g.bl=(n:Int):=⟨C.g.bl.toNat,by omega⟩;have L9:C.aC.dW=C.aC.fM n:=by unfold aD.dW;rw[show C.aC.g.bl=(n:Int) from hn,Int.toNat_natCast]
 rw[L9];refine aB.en func118 ntmps118 ?_;refine aj "avf" ?_;refine WL.t1 call100 rfl (kg) rfl ?_;refine WL.val (V.field (ak rfl) (aew _ _ _ _ _)) rfl (aj "N" ?_);refine WC.loop (σ:=Nat×Option Addr×Nat) (fun x=>[(0,ptr bd 0),(3,.slice x.2.1 (C.aC.fM x.1).length x.2.2),(7,.i C.g.bl),(8,.i (x.1:Int))]) (fun x=>C.A bc::aV (.slice x.2.1 (C.aC.fM x.1).length x.2.2) 3 1 (C.aC.fM x.1).length (ints .i64 (C.aC.fM x.1))::dA bd bc C.g::F) (fun x=>x.1≤n) (fun x=>n-x.1) (0,none,0) (zero_le _) bC (fun w h=>(Sat.gI h 3 1).p1) ?_;rintro⟨k,Ao,co⟩ hk;dsimp only at hk ⊢;have vX:=C.aC.jK k;refine aj "TZ" (aW (fun aL=> ?_) fun aL=> ?_)
 ·refine aj "1j`o" ?_;refine WL.t1 call185 rfl (V6) rfl ?_;refine aj "c!~~D~[_!" ?_;refine WL.nL (oj:=_) (vs:=[_,_]) rfl rfl rfl GC.t call186 ⟨OV.g rfl id,OV.g rfl id,trivial⟩ (fun hg=>Qh (k:Int)) rfl ?_;refine WL.bI (oj:=_) rfl rfl rfl GC.t (V.not (OV.g rfl id)) rfl ?_;refine aj "Qi" (aW (fun h1=> ?_) fun h1=> ?_)
  ·have hgk:C.aC.fM (k+1)=C.aC.fM k++[(k:Int)]:=by rw[aD.fM,if_pos (show (C.aC.up&& !C.aC.bad (k:Int))=true from h1)]
   refine aj "P" ?_;refine WL.buildSlice (E:=3) (cs:=[_]) (vs:=[(0,_)]) ⟨ak rfl,trivial⟩ rfl (dJ _) rfl (fun b27=> ?_);refine WL.sub (Sub.refl _) (fun w h=>h.bg 4 [2,0,1,3] rfl) ?_;refine WL.append (m:=(C.aC.fM k).length) (q:=1) (news:=[.i (k:Int)]) underlying124 Me (ak rfl) (ak rfl) (Seq.all rfl) (by intro u hu;rw[mem_singleton.1 hu];rfl) ay rfl rfl (fun A' c' hA' hc'=> ?_);refine aj "g7" ?_;exact⟨(k+1,A',c'),(by show k+1≤n;omega),(by show n-(k+1)<n-k;omega),.cons rfl (.cons (look_eq rfl (by dsimp only;rw[hgk,length_append];rfl)) bC),fun w h=>by
    dsimp only;rw[hgk,length_append,gY];exact h.bg 4 [2,0,3] rfl⟩
  ·have hgk:C.aC.fM (k+1)=C.aC.fM k:=by rw[aD.fM,if_neg (by rw[show (C.aC.up&& !C.aC.bad (k:Int))=false from h1];decide)]
   refine aj "q7" ?_;exact⟨(k+1,Ao,co),(by show k+1≤n;omega),(by show n-(k+1)<n-k;omega),.cons rfl (.cons (look_eq rfl (by dsimp only;rw[hgk])) bC),fun w h=>by
    dsimp only;rw[hgk];exact h⟩
 ·refine aj "Ked" ?_;obtain rfl:k=n:=by omega
  exact qR (aV (.slice Ao (C.aC.fM k).length co) 3 1 (C.aC.fM k).length (ints .i64 (C.aC.fM k))::C.A bc::dA bd bc C.g::F) rfl rfl (fun w h=>h.p1) ⟨Ao,co,rfl,rfl⟩
namespace aD
theorem Yy(S:aD)(b p:Int)(xs:List Int):(S.program b p xs).1.g=S.g:=by unfold program;repeat (first | rfl | split)
theorem aee(S:aD)(b:Int):(S.erase b).1.g=S.g:=by unfold erase;repeat (first | rfl | split)
theorem abp(S:aD)(b:Int):(S.mark b).1.g=S.g:=by
 unfold mark all;repeat (first | rfl | split)
theorem abN(b:Int)(x:aD×Int):(done b x).1.g=x.1.g:=by
 unfold done;split
 ·rfl
 ·split
  ·exact abp _ _
  ·exact abp _ _
theorem aad(S:aD)(b p:Int)(d:List Nat):(S.dK b p d).1.g=S.g:=by grind [dK,abN,Yy]
theorem aa4(S:aD)(b:Int):(S.bB b).1.g=S.g:=by grind [bB,abN,aee]
end aD
theorem Cw.afo{C C':Cw}(h:C'.aC=S)(hg:S.g=C.aC.g):C'.g=C.g:=by
 have :C'.aC.g=C.aC.g:=by rw[h,hg]
 exact this
theorem M6{C:Cw}(hC:C.Ok)(hg:C.g=g)(b p:Int)(hd:Seq K F A m 1 (av .u8 d))(h8:aA 256 d)(Og:m≤cap)(hm:m≤1000000) :
 aB prog 124 #[ptr bd 0,.i b,.i p,.slice A m cap] K (C.A bc::dA bd bc g::F)
 (fun v H'=>∃C':Cw,C'.Ok∧C'.g=g∧H'=C'.A bc::dA bd bc g::F∧C'.aC=(C.aC.dK b p d).1∧v= .i (C.aC.dK b p d).2):=by
 subst hg;exact (Qm hC b p hd h8 Og hm).mono fun v H' ⟨C',h1,h2,h3,h4⟩=>⟨C',h1,Cw.afo h3 (aD.aad _ _ _ _),h2,h3,h4⟩
theorem Ce{C:Cw}(hC:C.Ok)(hg:C.g=g)(b:Int):aB prog 104 #[ptr bd 0,.i b] K (C.A bc::dA bd bc g::F)
 (fun v H'=>∃C':Cw,C'.Ok∧C'.g=g∧H'=C'.A bc::dA bd bc g::F∧C'.aC=(C.aC.bB b).1∧v= .i (C.aC.bB b).2):=by
 subst hg;exact (Pq hC b).mono fun v H' ⟨C',h1,h2,h3,h4⟩=>⟨C',h1,Cw.afo h3 (aD.aa4 _ _),h2,h3,h4⟩
theorem xB{C:Cw}(hC:C.Ok)(hg:C.g=g)(b p:Int):aB prog 90 #[ptr bd 0,.i b,.i p] K (C.A bc::dA bd bc g::F)
 (fun v H'=>∃A' c',v= .tuple #[.slice A' (C.aC.bY b p).d.length c',.i ((C.aC.bY b p).n:Nat),.i (C.aC.bY b p).err] ∧
  H'=aV (.slice A' (C.aC.bY b p).d.length c') 5 1 (C.aC.bY b p).d.length (av .u8 (C.aC.bY b p).d)::C.A bc::dA bd bc g::F):=by
 subst hg;exact Uk hC b p
theorem vN{C:Cw}(hC:C.Ok)(hg:C.g=g)(b n:Int)(hn: -9223372036854775808≤n∧n≤9223372036854775807):aK prog 126 #[ptr bd 0,.i b,.i n] K (C.A bc::dA bd bc g::F) (.tuple #[.bool (C.aC.mX b n).1,.i (C.aC.mX b n).2]):=by
 subst hg;exact Rk hC b n hn
theorem ER{C:Cw}(hC:C.Ok)(hg:C.g=g):aB prog 118 #[ptr bd 0] K (C.A bc::dA bd bc g::F)
 (fun v H'=>∃A' c',v= .slice A' C.aC.dW.length c'∧H'=aV (.slice A' C.aC.dW.length c') 3 1 C.aC.dW.length (ints .i64 C.aC.dW)::C.A bc::dA bd bc g::F):=by
 subst hg;exact UC hC
theorem UF{C:Cw}(hC:C.Ok)(hg:C.g=g):aB prog 30 #[ptr bc 0] K (C.A bc::F) (fun v H'=>∃bd,v= .tuple #[ptr bd 0,.i 0]∧H'=C.A bc::dA bd bc g::F):=by
 subst hg;exact YS hC
end Go.Proofs.YtcedojacbhnbiaaGreat
