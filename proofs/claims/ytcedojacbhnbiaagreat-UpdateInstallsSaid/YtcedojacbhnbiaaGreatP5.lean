import Derived.Test.YtcedojacbhnbiaaGreatP4
set_option autoImplicit true
set_option linter.all false
set_option maxHeartbeats 2000000
set_option maxRecDepth 20000
set_option relaxedAutoImplicit true
namespace Go.Proofs.YtcedojacbhnbiaaGreat
open Go.Sl Go.RowKit Tryz List Nat
theorem QH{xs:List Nat}:(xs.set i x).getD j 0=if i=j∧j<xs.length then x else xs.getD j 0:=by grind
theorem lN:(x*2^s).testBit i=(decide (s≤i)&&x.testBit (i-s)):=by grind
theorem yB(h:i<8):(x%256).testBit i=x.testBit i:=by
 rw[show (256:Nat)=2^8 from Z,testBit_mod_two_pow];simp[h]
theorem wV:(x/256).testBit i=x.testBit (8+i):=by grind
theorem vQ(hx:x<256)(hi:8≤i):x.testBit i=false:=testBit_lt_two_pow (Nat.lt_of_lt_of_le hx (Nat.pow_le_pow_right (n:=2) aN hi))
theorem lU(h:8*xs.length≤k):Ak xs k=false:=by grind [Ak,getD,getElem?_eq_none]
theorem xL(ho:aA 256 out)(hp:aA 256 p):∀(j:Nat),j+at_/8<out.length→∀k,Ak (mI out p at_ j) k=(Ak out k ^^ (decide (at_≤k)&&decide (k-at_<8*j)&&Ak p (k-at_)))
 | 0,_,k=>by simp[-getD_eq_getElem?_getD,mI]
 | j+1,hj,k=>by
  have ih:=xL (at_:=at_) ho hp j ay k;have x:=mW out p at_ j
  have H:=hp.at_ aN j;have I:∀i,(p.getD j 0*2^(at_%8)).testBit i=(decide (at_%8≤i)&&(p.getD j 0).testBit (i-at_%8)):=λi=>lN;have ajb:¬255<p.getD j 0*2^(at_%8)→p.getD j 0*2^(at_%8)/256=0:=λh=>by omega
  have Ze:∀o:List Nat,o=mI out p at_ j→Ak (mI out p at_ (j+1)) k=(Ak o k ^^ ((decide (k/8=j+at_/8)&&(p.getD j 0*2^(at_%8)).testBit (k%8))||(decide (k/8=j+at_/8+1)&&(p.getD j 0*2^(at_%8)).testBit (8+k%8)))):=by
   intro o y;have B:k%8<8:=mod_lt _ aN;have Gh:o.length=out.length:=by rw[y];exact x
   rw[mI,←y];split
   ·unfold Ak;simp only[QH,length_set];by_cases a:j+at_/8+1=k/8
    ·rw[if_pos ⟨a,by omega⟩,if_neg ay,testBit_xor,wV];have b:¬k/8=j+at_/8:=ay
     simp[-getD_eq_getElem?_getD,b,←a]
    ·rw[if_neg ay];by_cases e:j+at_/8=k/8
     ·rw[if_pos ⟨e,by omega⟩,testBit_xor,yB B];have b:¬k/8=j+at_/8+1:=ay
      simp[-getD_eq_getElem?_getD,b,←e]
     ·rw[if_neg ay];have b:¬k/8=j+at_/8+1:=ay
      have u:¬k/8=j+at_/8:=ay
      simp[-getD_eq_getElem?_getD,b,u]
   ·rename_i hs;unfold Ak;rw[QH];have D:(p.getD j 0*2^(at_%8)).testBit (8+k%8)=false:=by rw[←wV,ajb hs];exact zero_testBit _
    by_cases e:j+at_/8=k/8
    ·rw[if_pos ⟨e,by omega⟩,testBit_xor,yB B];simp[-getD_eq_getElem?_getD,D,←e]
    ·rw[if_neg ay];have u:¬k/8=j+at_/8:=ay
     simp[-getD_eq_getElem?_getD,D,u]
  rw[Ze _ Z,ih,Bool.xor_assoc];congr 1;rw[I,I];by_cases d:at_≤k
  ·obtain⟨r,J⟩:∃r,r=k-at_:=⟨_,Z⟩
   rw[←J];by_cases a:k/8=j+at_/8
   ·have b:¬k/8=j+at_/8+1:=by omega
    by_cases e:at_%8≤k%8
    ·have m:r/8=j:=by omega
     have n:r%8=k%8-at_%8:=ay
     have RH:Ak p r=(p.getD j 0).testBit (k%8-at_%8):=by unfold Ak;rw[m,n]
     have l:¬r<8*j:=ay;have C:r<8*(j+1):=ay;simp[-getD_eq_getElem?_getD,a,b,e,d,RH,l,C]
    ·have l:(r<8*j↔r<8*(j+1)):=by omega
     have F:decide (r<8*(j+1))=decide (r<8*j):=decide_eq_decide.2 l.symm;simp[-getD_eq_getElem?_getD,a,b,e,d,F]
   ·by_cases G:k/8=j+at_/8+1
    ·have K:at_%8≤8+k%8:=by omega
     by_cases L:8+k%8-at_%8<8
     ·have m:r/8=j:=by omega
      have n:r%8=8+k%8-at_%8:=ay
      have RH:Ak p r=(p.getD j 0).testBit (8+k%8-at_%8):=by unfold Ak;rw[m,n]
      have l:¬r<8*j:=ay;have C:r<8*(j+1):=ay;simp[-getD_eq_getElem?_getD,a,G,K,d,RH,l,C]
     ·have D:=vQ H (i:=8+k%8-at_%8) ay;have l:¬r<8*j:=ay;have C:¬r<8*(j+1):=ay;simp[-getD_eq_getElem?_getD,a,G,D,l,C]
    ·have F:decide (r<8*(j+1))=decide (r<8*j):=decide_eq_decide.2 ay;simp[-getD_eq_getElem?_getD,a,G,F]
  ·have b:(decide (k/8=j+at_/8)&&(decide (at_%8≤k%8)&&(p.getD j 0).testBit (k%8-at_%8)))=false:=by
    by_cases a:k/8=j+at_/8
    ·have :¬at_%8≤k%8:=by omega
     simp[-getD_eq_getElem?_getD,this]
    ·simp[-getD_eq_getElem?_getD,a]
   have u:¬k/8=j+at_/8+1:=ay
   simp[-getD_eq_getElem?_getD,d,b,u]
def Uc(q:List Nat)(d:Nat):Prop:=Ak q d=true∧∀k,d<k→Ak q k=false
theorem DV(hp:aA 256 p)(hq:aA 256 q)(RL:q.length=lq)(RX:lq=d/8+1)(hd:Uc q d):∀k,k≤8*p.length-d→∀b,8*p.length-k≤b→Ak (gW p q lq d k) b=false
 | 0,_,b,hb=>by
  rw[gW];unfold Ak;by_cases h:b/8=p.length
  ·have e:(p++[0]).getD (b/8) 0=(0:Nat):=by rw[h];simp[getD]
   rw[e];exact zero_testBit _
  ·have e:(p++[0]).getD (b/8) 0=(0:Nat):=by rw[getD,getElem?_eq_none (by simp;omega)];rfl
   rw[e];exact zero_testBit _
 | k+1,hk,b,hb=>by
  have j:=DV hp hq RL RX hd k ay;subst RL;rw[gW];split
  ·rename_i Ze;rw[xL (jq hp hq k) hq _ (by rw[gy];omega)];obtain⟨i,l⟩:∃i,i=8*p.length-1-k:=⟨_,Z⟩;rw[←l] at Ze ⊢;by_cases a:b=i
   ·subst a;have n:b-(b-d)=d:=ay;rw[Ze,n,hd.1];have m:b-d≤b:=ay;have r:d<8*q.length:=ay;simp[m,r]
   ·rw[j b ay,hd.2 (b-(i-d)) ay];simp
  ·rename_i Ze;by_cases a:b=8*p.length-1-k
   ·subst a;simpa using Ze
   ·exact j b ay
theorem LG(hp:aA 256 p)(hq:aA 256 q)(RL:q.length=lq)(RX:lq=d/8+1)(hd:Uc q d)(hb:d≤b):Ak (gW p q lq d (8*p.length-d)) b=false:=by
 by_cases h:d≤8*p.length
 ·exact DV hp hq RL RX hd _ (Nat.le_refl _) b ay
 ·have :=DV hp hq RL RX hd 0 (zero_le _) b ay
  rwa [show 8*p.length-d=0 by omega]
theorem BQ(hx:aA 256 xs)(h:∀k,b≤k→Ak xs k=false):∀n,aZ xs n≤(b+7)/8
 | 0=>zero_le _
 | n+1=>by
  rw[aZ];split
  ·exact BQ hx h n
  ·rename_i pq;rcases Nat.lt_or_ge n ((b+7)/8) with h1 | h1
   ·omega
   ·exfalso;apply pq;apply eq_of_testBit_eq;intro i;rw[zero_testBit];by_cases hi:i<8
    ·have :=h (8*n+i) ay;unfold Ak at this
     rwa [show (8*n+i)/8=n by omega,show (8*n+i)%8=i by omega] at this
    ·exact vQ (hx.at_ aN _) ay
def P9(t:Nat):Bool:=decide (TW (fO t) (fO t).length=((13*t:Nat):Int))&&decide (aZ (fO t) (fO t).length=13*t/8+1)&&decide ((fO t).length=13*t/8+1)&&Ak (fO t) (13*t)&&(List.range (8*(fO t).length)).all (λk=>decide (k≤13*t)|| !Ak (fO t) k)&&(fO t).all (λx=>decide (x<256))
theorem ad4:[1,2,3,4,5,6,7,8].all P9=true:=by kernel_rfl
theorem uD(ht:1≤t∧t≤8):TW (fO t) (fO t).length=((13*t:Nat):Int)∧aZ (fO t) (fO t).length=13*t/8+1∧(fO t).length=13*t/8+1∧Uc (fO t) (13*t)∧aA 256 (fO t):=by
 have h:=all_eq_true.1 ad4 t (by simp only[mem_cons,not_mem_nil,or_false];omega);simp only[P9,Bool.and_eq_true,decide_eq_true_eq,all_eq_true,mem_range,Bool.or_eq_true,Bool.not_eq_true'] at h;obtain⟨⟨⟨⟨⟨b,d⟩,j⟩,l⟩,m⟩,e⟩:=h;refine⟨b,d,j,⟨l,λk n=> ?_⟩,e⟩;rcases Nat.lt_or_ge k (8*(fO t).length) with h | h
 ·rcases m k h with a | a
  ·omega
  ·exact a
 ·exact lU h
def dY(t:Nat):List Nat:=(replicate (aR t+1) 0).set (13*t/8) (2^(13*t%8))
def jF(t:Nat)(d:List Nat):List Nat:=(iZ (dY t) d).take (aZ (iZ (dY t) d) ((dY t).length+d.length+1))
def xU(t:Nat)(d:List Nat):List Nat:=gW (jF t d) (fO t) (fO t).length (13*t) (8*(jF t d).length-13*t)
def jR(t:Nat)(d:List Nat):Nat:=aZ (xU t d) ((jF t d).length+1)
def mU(t:Nat)(d:List Nat):List Nat:=(xU t d).take (jR t d)++replicate (aR t-jR t d) 0
theorem aaY(t:Nat):(dY t).length=aR t+1:=by simp[dY]
theorem MX(t:Nat):aA 256 (dY t):=(aA.wJ aN).set (Gt (mod_lt _ aN))
theorem oF(h:aA 256 d):aA 256 (jF t d):=aA.take (pX h _)
theorem pO(t:Nat)(d:List Nat):(xU t d).length=(jF t d).length+1:=gy _ _ _ _ _
theorem EK(ht:1≤t∧t≤8)(h:aA 256 d):aA 256 (xU t d):=jq (oF h) (uD ht).2.2.2.2 _
theorem Iz(ht:1≤t∧t≤8)(h:aA 256 d):jR t d≤aR t∧jR t d≤(jF t d).length+1:=by
 obtain⟨l,m,a,j,e⟩:=uD ht;refine⟨BQ (EK ht h) (λk b=>LG (oF h) e Z a j b) _,iy _ _⟩
theorem xG(ht:1≤t∧t≤8)(h:aA 256 d):(mU t d).length=aR t:=by grind [Iz,mU,length_append,length_take,length_replicate,pO]
theorem IC(ht:1≤t∧t≤8)(h:aA 256 d):aA 256 (mU t d):=(aA.take (EK ht h)).append (aA.wJ aN)
theorem Uj{t:Nat}(ht:1≤t∧t≤8)(hd:Seq K F A m 1 (av .u8 d))(Nf:aA 256 d)(wF:1≤m∧m≤512) :
 aB prog 242 #[.i (t:Int),.slice A m cap] K F
  (λv H'=>∃A' cap',v= .tuple #[.slice A' (aR t) cap',.i 0]∧H'=aV (.slice A' (aR t) cap') 5 1 (aR t) (av .u8 (mU t d))::F):=by
 have B:d.length=m:=by simpa [av] using hd.len
 have akh:2≤aR t∧aR t≤13∧13*t/8≤aR t:=by unfold aR;omega
 obtain⟨n,a⟩:∃n,n=aR t:=⟨_,Z⟩;obtain⟨u,l,k,N,J⟩:=uD ht;have pG:=Iz ht Nf;have l7:(jF t d).length=aZ (iZ (dY t) d) ((dY t).length+d.length+1):=by
  unfold jF iZ;have :=iy (kY (dY t) d (8*(dY t).length)) ((dY t).length+d.length+1);rw[length_take,iU];omega
 have asG:(jF t d).length≤n+1+m+1:=by rw[l7,aaY,B,←a];exact iy _ _
 rw[←a] at akh pG ⊢;refine aB.en func242 ntmps242 ?_;refine aj "al0" ?_;refine WL.t2 call278 Z Z (aK.eq (v':= .tuple #[.i (n:Int),.i 0]) (P7 ht wF) (by rw[a])) Z<|aj "Hfu2T" ?_;refine WL.c1 call279 Z (F7 ht) Z ?_;rintro _ _ ⟨D,aiS,ar5,rfl,e,j,rfl⟩;have Od:∀ {H:List aH},Seq K (ah D 5 (av .u8 aiS)::H) (some ⟨D,0,none⟩) (fO t).length 1 (av .u8 (fO t)):=λ{H}=>Seq.here (by rw[au];omega) (by rw[drop_zero];exact rR (by rw[j];exact take_prefix _ _));refine aj "HiZ" ?_;refine WL.nM (m:=n+1) underlying34 yL (ak Z) (ak Z) ay ay ay Z Z Z (λVa=>aj "0~E~:b~E" ?_);refine WL.val (V.aG (v':= .i ((13*t%8:Nat):Int)) (V.Av (ak Z) (ak Z) (λ_=>by omega)) (λ_=>by simp)) Z<|WL.val (V.aG (v':= .int .u8 ((2^(13*t%8):Nat):Int)) (V.shl (ak Z) (ak Z) ay) (λ_=>by rw[Jr ay])) Z<|aj "~x" ?_;refine WL.store (cs:=[_]) sizeOf5 (ak Z) (ak Z) Z Z Z (bT.at_ (by rw[length_replicate];omega)) ?_;have r:(replicate (n+1) (Value.int .u8 0)).set (0+(13*(t:Int)/8).toNat*1) (.int .u8 ((2^(13*t%8):Nat):Int))=av .u8 (dY t):=by
  unfold dY;rw[←lu,eD,←a,show 0+(13*(t:Int)/8).toNat*1=13*t/8 by omega];rfl
 rw[r];refine aj "ceb" ?_;refine WL.c2 call281 Z Z (KI (ps:=dY t) (qs:=d) (Seq.Gb (by rw[aaY,a])) hd.up.up (MX t) Nf (by rw[aaY,B,←a];omega)) Z ?_;rintro _ _ ⟨C,rfl,rfl⟩;have qY:∀ {H:List aH},Seq K (ah C 5 (av .u8 (iZ (dY t) d))::H) (some ⟨C,0,none⟩) (aZ (iZ (dY t) d) ((dY t).length+d.length+1)) 1 (av .u8 (jF t d)):=λ{H}=>Seq.here (by rw[au,l7];omega) (by rw[drop_zero];exact rR (take_prefix _ _));refine WL.mv Z Z<|WL.c2 call280 Z Z (Yd (ps:=jF t d) (qs:=fO t) (d:=13*t) qY (by repeat (first | exact Od | apply Seq.up)) (oF Nf) J e (by rw[k];omega) u (by rw[l,take_of_length_le ay,←k];exact u) (by rw[l])) Z ?_;rintro _ _ ⟨M,rfl,rfl⟩;have RN:gW (jF t d) ((fO t).take (aZ (fO t) (fO t).length)) (aZ (fO t) (fO t).length) (13*t) (8*aZ (iZ (dY t) d) ((dY t).length+d.length+1)-13*t)=xU t d:=by
  unfold xU;rw[l,take_of_length_le ay,←l7,k]
 rw[RN];have acQ:aZ (xU t d) (aZ (iZ (dY t) d) ((dY t).length+d.length+1)+1)=jR t d:=by unfold jR;rw[l7]
 rw[acQ,←l7];refine aj "Hixj)" ?_;refine WL.sub (Sub.refl _) (λw h=>Sat.BX (m:=jR t d) (cap:=(jF t d).length+1) (s:=1) h (by rw[au,pO,Nat.mul_one]) pG.2 (by simp only[maxLen];omega))<|WL.Gx (m:=jR t d) (q:=n-jR t d) underlying34 underlying3 yL Z Z (ak Z) (ak Z) ay ay ay Z (λA' x L I=>aj "F" ?_);have G:(av .u8 (xU t d)).take (jR t d*1)++replicate (n-jR t d) (.int .u8 0)=av .u8 (mU t d):=by
  unfold mU;rw[dx,Nat.mul_one,dU,←a,eD];rfl
 have b:jR t d+(n-jR t d)=n:=ay;refine aF.ret (H':=aV (.slice A' n x) 5 1 n (av .u8 (mU t d))::F) (bJ.eU Z (look_eq Z (by rw[b])) Z) (λw h=> ?_) ⟨A',x,Z,Z⟩;have y:=h.bg 4 [0] Z;rw[G,b] at y;exact y
theorem Il(hs:Seq K F A m 1 (ints .i64 xs))(hm:m≤1000000) :
 aB prog 103 #[.slice A m cap] K F (λv H'=>∃A' cap',v= .slice A' m cap'∧H'=aV (.slice A' m cap') 3 1 m (ints .i64 xs)::F):=by
 have j:xs.length=m:=by simpa [ints] using hs.len
 refine aB.lG (p:=A=none→xs=[]) (λw k a=>by subst a;simpa [ints] using hs.Rb k) (λRB=>aB.en func103 ntmps103 ?_);refine aj "af~~@h" (aW (λaL=> ?_) λaL=> ?_)
 ·have a:A=none:=by cases A<;>simp at aL ⊢
  subst a;have d:=RB Z;subst d;obtain rfl:m=0:=j.symm;refine aj "D" ?_;exact qR (aV (.slice none 0 0) _ 1 0 []::F) Z Z (λw h=>Sat.gI h _ _) ⟨none,0,Z,Z⟩
 ·refine aj "7" ?_;refine WL.buildSlice (E:=3) (cs:=[]) (vs:=[]) trivial Z (ZW ) Z (λn=>WL.mv Z Z<|WL.sub (Sub.refl _) (λw h=>Sat.BX (m:=0) (cap:=0) (s:=1) h Z (Nat.le_refl _) (zero_le _))<|WL.append (m:=0) (cs:=[]) underlying124 Me (ak Z) (ak Z) (by repeat (first | exact hs | apply Seq.up)) (xI _ _) ay Z Z (λA' b e l=>aj "d" ?_));refine aF.ret (H':=aV (.slice A' m b) _ 1 m (ints .i64 xs)::F) (bJ.tmp Z (look_eq Z (by simp))) (λw h=> ?_) ⟨A',b,Z,Z⟩
  simpa using h
theorem EI{p:Int→Bool}(hs:Seq K F A m 1 (ints .i64 xs))(hm:m≤maxLen)(JM:bP prog fid)
 (hf:∀x∈xs,aK prog fid ([Value.int .i64 x]++O1).toArray K F (.bool (p x))) :
 aB prog 188 #[.slice A m cap,.func (.func fid) #[] O1.toArray] K F
  (λv H'=>H'=F∧((v= .i (-1)∧∀x∈xs,p x=false)∨∃i:Nat,i<m∧v= .i (i:Int)∧(∀x∈xs.take i,p x=false)∧p (xs.getD i 0)=true)):=by
 have l:xs.length=m:=by simpa [ints] using hs.len
 have zM:m≤9223372036854775807:=by simp only[maxLen] at hm;omega
 refine aB.en func188 ntmps188 ?_;refine aj "afjR" ?_;refine WC.loop (σ:=Nat) (λi=>[(0,.slice A m cap),(1,.func (.func fid) #[] O1.toArray),(7,.i (m:Int)),(8,.i (i:Int))]) (λi=>F) (λi=>i≤m∧∀x∈xs.take i,p x=false) (λi=>m-i) 0 ⟨zero_le _,λx a=>by simp at a⟩ bC cO ?_;rintro i ⟨k,d⟩;refine aj "V1" (aW (λaL=> ?_) λaL=> ?_)
 ·refine aj "Yix" ?_;refine WL.val (V.dw eB (ak Z) (ak Z) (λe=>by omega) (λe=>Seq.dD hs ay)) Z<|WL.val (V.load isAgg3 (ak Z) (λe=>Seq.dD hs ay)) Z ?_;have Bv:(i:Int).toNat=i:=ay;have Kz:xs.getD i 0=xs[i]'ay:=by simp[getD,show i<xs.length by omega]
  refine WL.ny (first:=[]) (vs:=[_]) (captured:=O1) JM (ak Z) ⟨ak Z,trivial⟩ (hf (xs.getD i 0) (by rw[Kz];exact getElem_mem _)) Z ?_;rintro _ j ⟨rfl,n⟩;subst j;refine aj "h" (aW (λb=> ?_) λb=> ?_)
  ·refine aj "ed" ?_;refine qR F Z Z cO ⟨Z,.inr ⟨i,by omega,Z,d,b⟩⟩
  ·refine aj "q8" ?_;refine⟨i+1,⟨by show i+1≤m;omega,λx a=> ?_⟩,(by show m-(i+1)<m-i;omega),.cons Z bC,λw h=>h⟩;rw[take_add_one,getElem?_eq_getElem ay,←Kz] at a;rcases mem_append.1 a with a | a
   ·exact d x a
   ·simp at a;subst a;exact b
 ·refine aj "KD" ?_;obtain rfl:i=m:=by omega
  refine qR F Z Z cO ⟨Z,.inl ⟨Z,λx a=>d x (by rw[take_of_length_le ay];exact a)⟩⟩
theorem filter_all{p:Int→Bool}{xs:List Int}(h:∀x∈xs,p x=false):xs.filter (λx=> !p x)=xs:=by grind [filter_eq_self]
theorem Tk{p:Int→Bool}(JM:bP prog fid)
 (hf:∀x∈xs,∀X,aK prog fid ([Value.int .i64 x]++O1).toArray K (X::F) (.bool (p x))) :
 aB prog 120 #[.slice A m cap,.func (.func fid) #[] O1.toArray] K (aV (.slice A m cap) 3 1 m (ints .i64 xs)::F)
  (λv H'=>∃q,q=(xs.filter λx=> !p x).length∧v= .slice A q cap∧H'=aV (.slice A q cap) 3 1 q (ints .i64 (xs.filter λx=> !p x))::F):=by
 refine aB.lG (p:=xs.length=m) (λw r=>by have :=aV.len r;rwa [bR,Nat.mul_one] at this) (λO=> ?_);cases A with
 | none =>
  refine aB.lG (p:=m=0∧cap=0∧xs=[]) (λw r=>by have :=aV.yM r;simpa [ints] using this) (λ⟨e,Q,T⟩=> ?_);subst e Q T;refine aB.en func120 ntmps120 ?_;refine aj "a0" ?_;refine WL.c2 call188 Z Z (EI (xs:=[]) (p:=p) Seq.agZ (zero_le _) JM (λx G=>by simp at G)) Z ?_;rintro _ _ ⟨rfl,⟨rfl,_⟩ | ⟨i,n,_⟩⟩
  rotate_left
  ·exact absurd n ay
  refine aj "f;c3ed" ?_;exact qR (aV (.slice none 0 0) _ 1 0 []::F) Z Z cO ⟨0,Z,Z,Z⟩
 | some a =>
  refine aB.lG (p:=∃g,a=⟨g,0,none⟩) (λw r=>aV.addr r) (λ⟨g,e⟩=> ?_);subst e;refine aB.ex (λw r=>Sat.nU r) (λD ⟨Dq,_,EB,Mc⟩=> ?_);have zM:m≤maxLen:=ay;have kS:cap≤9223372036854775807:=by simp only[maxLen] at Mc;omega
  have pG:D.length=cap-m:=by rw[length_append,bR] at Dq;omega
  have yR:∀(C:List Int) (cs:List Value) (w:World),cs.length=cap→C.length≤cap→cs.take C.length=ints .i64 C→Sat K w (ah g 3 cs::F)→Sat K w (aV (.slice (some ⟨g,0,none⟩) C.length cap) 3 1 C.length (ints .i64 C)::F):=λC cs w P B R h=>by
   have :=Sat.BX (s:=1) h (by rw[P,Nat.mul_one]) B Mc;rw[Nat.mul_one,R] at this;exact this
  have J:Seq K (ah g 3 (ints .i64 xs++D)::F) (some ⟨g,0,none⟩) m 1 (ints .i64 xs):=Seq.here (by rw[bR];omega) (prefix_append _ _);by_cases nT:∀x∈xs,p x=false
  ·skip
   refine aB.en func120 ntmps120 ?_;refine aj "a0" ?_;refine WL.c2 call188 Z Z (EI (xs:=xs) (p:=p) J zM JM (λx G=>hf x G _)) Z ?_;rintro _ _ ⟨rfl,⟨rfl,_⟩ | ⟨d,wR,rfl,alG,Zb⟩⟩
   rotate_left
   ·exfalso;have :xs.getD d 0=xs[d]'ay:=by simp[getD,show d<xs.length by omega]
    rw[this,nT _ (getElem_mem _)] at Zb;cases Zb
   refine aj "f;c3ed" ?_;refine qR (aV (.slice (some ⟨g,0,none⟩) xs.length cap) _ 1 xs.length (ints .i64 xs)::F) Z Z (λw h=>yR xs _ w ay ay (by rw[take_left' (bR _ _)]) h) ⟨xs.length,by rw[filter_all nT],by rw[O],by rw[filter_all nT]⟩
  ·skip
   refine aB.en func120 ntmps120 ?_;refine aj "a0" ?_;refine WL.c2 call188 Z Z (EI (xs:=xs) (p:=p) J zM JM (λx G=>hf x G _)) Z ?_;rintro _ _ ⟨rfl,⟨rfl,uN⟩ | ⟨d,wR,rfl,alG,Zb⟩⟩
   ·exact absurd uN nT
   have akS:d<xs.length:=ay;refine aj "f;c" ?_;refine WC.ni Z ((by simp))<|aj "qrZos" ?_;refine WC.loop (σ:=Nat×Nat×List Value) (λx=>[(0,.slice (some ⟨g,0,none⟩) m cap),(1,.func (.func fid) #[] O1.toArray),(5,.i (x.1:Int)),(6,.i (x.2.1:Int))]) (λx=>ah g 3 x.2.2::F) (λx=>x.1<x.2.1∧x.2.1≤m∧x.2.2.length=cap∧x.1=((xs.take x.2.1).filter λy=> !p y).length∧x.2.2.take x.1=ints .i64 ((xs.take x.2.1).filter λy=> !p y)∧x.2.2.drop x.2.1=(ints .i64 xs++D).drop x.2.1) (λx=>m-x.2.1) (d,d+1,ints .i64 xs++D) ?_ bC cO ?_
   ·have e:(xs.take (d+1)).filter (λy=> !p y)=xs.take d:=by
     rw[take_add_one,getElem?_eq_getElem akS,filter_append,filter_all alG];have :p xs[d]=true:=by simpa [getD,akS] using Zb
     simp[this]
    refine⟨by show d<d+1;omega,by show d+1≤m;omega,by rw[Dq];omega, ?_, ?_,Z⟩
    ·show d=((xs.take (d+1)).filter λy=> !p y).length;rw[e,length_take];omega
    ·show (ints .i64 xs++D).take d=ints .i64 ((xs.take (d+1)).filter λy=> !p y);rw[e,take_append_of_le_length (by rw[bR];omega),LY]
   rintro⟨i,j,cs⟩ ⟨ZI,hjm,ahV,n,Du,JI⟩;dsimp only at ZI hjm ahV n Du JI ⊢;refine aj "rbjPc1" (aW (λaQ=> ?_) λaQ=> ?_)
   ·refine aj "EL" ?_;have aq7:j<m:=ay;have M:cs[0+(j:Int).toNat*1]? =some (.i (xs.getD j 0)):=by
     have e:=congrArg (·[0]?) JI;simp only[getElem?_drop,Nat.add_zero] at e;rw[show 0+(j:Int).toNat*1=j by omega,e,getElem?_append_left (by rw[bR];omega),tY _ _ ay]
    have I:xs.getD j 0=xs[j]'ay:=by simp[getD,show j<xs.length by omega]
    have k:xs.take (j+1)=xs.take j++[xs.getD j 0]:=by rw[take_add_one,getElem?_eq_getElem ay,I];rfl
    refine aj "gb~x" ?_;refine WL.val (V.load isAgg3 (ak Z) (λ_=>Rd.here M)) Z<|aj "0" ?_;refine WL.ny (first:=[]) (vs:=[_]) (captured:=O1) JM (ak Z) ⟨ak Z,trivial⟩ (hf (xs.getD j 0) (by rw[I];exact getElem_mem _) _) Z ?_;rintro _ S ⟨rfl,U⟩;subst S;refine aj "9h" (aW (λB=> ?_) λB=> ?_)
    ·simp only[Bool.not_eq_true',Bool.not_eq_false'] at B;have dL:[xs.getD j 0].filter (λy=> !p y)=[xs.getD j 0]:=by rw[filter_cons_of_pos (by rw[B];rfl)];rfl
     refine aj "ex~x" ?_;refine WL.store (cs:=[_]) sizeOf3 (ak Z) (ak Z) Z Z Z (bT.at_ ay)<|aj "cgZOZN" ?_;have XR:=dL;refine⟨(i+1,j+1,cs.set (0+(i:Int).toNat*1) (.i (xs.getD j 0))),⟨by show i+1<j+1;omega,by show j+1≤m;omega,by rw[length_set];exact ahV, ?_, ?_, ?_⟩,(by show m-(j+1)<m-j;omega),.cons Z bC,λw h=>h⟩
     ·show i+1=((xs.take (j+1)).filter λy=> !p y).length;rw[k,filter_append,XR,length_append,←n];rfl
     ·show (cs.set (0+(i:Int).toNat*1) (.i (xs.getD j 0))).take (i+1)=ints .i64 ((xs.take (j+1)).filter λy=> !p y);rw[k,filter_append,XR,gY,←Du,show 0+(i:Int).toNat*1=i by omega,take_add_one,getElem?_set_self ay,take_set_of_le ay];rfl
     ·show (cs.set (0+(i:Int).toNat*1) (.i (xs.getD j 0))).drop (j+1)=(ints .i64 xs++D).drop (j+1);rw[show 0+(i:Int).toNat*1=i by omega,drop_set_of_lt ay];have :=congrArg (List.drop 1) JI
      rwa [drop_drop,drop_drop] at this
    ·simp only[Bool.not_eq_true',Bool.not_eq_false'] at B;have L:[xs.getD j 0].filter (λy=> !p y)=[]:=by rw[filter_cons_of_neg (by rw[B];decide)];rfl
     refine aj "qgZN" ?_;refine⟨(i,j+1,cs),⟨by show i<j+1;omega,by show j+1≤m;omega,ahV, ?_, ?_, ?_⟩,(by show m-(j+1)<m-j;omega),.cons Z bC,λw h=>h⟩
     ·show i=((xs.take (j+1)).filter λy=> !p y).length;rw[k,filter_append,L,length_append,←n];rfl
     ·show cs.take i=ints .i64 ((xs.take (j+1)).filter λy=> !p y);rw[k,filter_append,L,append_nil,Du]
     ·have :=congrArg (List.drop 1) JI
      rwa [drop_drop,drop_drop] at this
   ·refine aj "Keb" ?_;have N:j=m:=ay;subst N;refine WL.val (V.slice (l:=i) (h:=j) (u:=cap) eB (ak Z) (OO.some (ak Z) (λ_=>Z)) OO.none OO.none (by simp) ay ay (Nat.le_refl _)) Z<|WL.agS (b:=g) (o:=i) underlying124 zeroValue3 Z Z (ak Z) (λW=>by rw[if_neg ay];simp[jM]) (bT.row (by rw[length_replicate];omega))<|aj "ceb" ?_;refine WL.val (V.slice (l:=0) (h:=i) (u:=cap) eB (ak Z) OO.none (OO.some (ak Z) (λ_=>Z)) OO.none (by simp) ay ay (Nat.le_refl _)) Z<|aj "d" ?_;rw[take_of_length_le (Nat.le_of_eq O)] at n Du;refine aF.ret (H':=aV (.slice (some ⟨g,0,none⟩) i cap) _ 1 i (ints .i64 (xs.filter λy=> !p y))::F) (bJ.tmp Z (look_eq Z (by simp[Addr.add]))) (λw h=> ?_) ⟨i,n,Z,Z⟩;have H:(cs.take i++replicate (j-i) (Value.int .i64 0)++cs.drop (i+(replicate (j-i) (Value.int .i64 0)).length)).length=cap:=by
     simp only[length_append,length_take,length_replicate,length_drop];omega
    have :=yR (xs.filter λy=> !p y) _ w H ay (by rw[←n,append_assoc,take_left' (by rw[length_take];omega),Du]) h;rw[←n] at this;exact this
structure BM where
 c:List Nat
 b:List Nat
 (length shift last:Nat)
def EX(s c:List Nat)(n:Nat):Nat→Nat
 | 0=>s.getD n 0
 | k+1=>EX s c n k ^^^ kK (c.getD (k+1) 0) (s.getD (n-(k+1)) 0)
def xX(c b:List Nat)(Kc shift:Nat):Nat→List Nat
 | 0=>c
 | k+1=>(xX c b Kc shift k).set (k+shift) ((xX c b Kc shift k).getD (k+shift) 0 ^^^ kK Kc (b.getD k 0))
def bmD(s:List Nat)(n:Nat)(x:BM):Nat:=EX s x.c n (min x.length (x.c.length-1))
def qG(x:BM):List Nat:=x.c++replicate (x.b.length+x.shift-x.c.length) 0
def bmC(x:BM)(d:Nat):List Nat:=xX (qG x) x.b (kK d (ahm x.last)) x.shift x.b.length
def DJ(s:List Nat)(n:Nat)(x:BM):BM :=
 if bmD s n x=0 then { x with shift:=x.shift+1 }
 else if 2*x.length≤n then ⟨bmC x (bmD s n x),x.c,n+1-x.length,1,bmD s n x⟩
 else ⟨bmC x (bmD s n x),x.b,x.length,x.shift+1,x.last⟩
def qO(s:List Nat):Nat→BM
 | 0=>⟨[1],[1],0,1,1⟩
 | n+1=>DJ s n (qO s n)
structure BM.Ok(n:Nat)(x:BM):Prop where
 c1:1≤x.c.length
 c2:x.c.length≤n+1
 b2:x.b.length+x.shift≤n+2
 l:x.length≤n
 cs:aA 8192 x.c
 bs:aA 8192 x.b
 la:x.last<8192
 l0:x.last≠0
theorem Df(hs:aA 8192 s)(hc:aA 8192 c):∀k,EX s c n k<8192
 | 0=>hs.at_ aN _
 | k+1=>je (k:=13) (Df hs hc k) (fD (hc.at_ aN _))
theorem vF(c b:List Nat)(y sh:Nat):∀k,(xX c b y sh k).length=c.length
 | 0=>rfl
 | k+1=>by rw[xX,length_set,vF]
theorem rH(hc:aA 8192 c)(hy:y<8192):∀k,aA 8192 (xX c b y sh k)
 | 0=>hc
 | k+1=>(rH hc hy k).set (je (k:=13) ((rH hc hy k).at_ aN _) (fD hy))
theorem BU(x:BM):(qG x).length=x.c.length+(x.b.length+x.shift-x.c.length):=by simp[qG]
theorem Je(x:BM)(d:Nat):(bmC x d).length=(qG x).length:=vF _ _ _ _ _
theorem WO(hs:aA 8192 s)(h:x.Ok n):(DJ s n x).Ok (n+1):=by
 have hd:bmD s n x<8192:=Df hs h.cs _;have b:=h.c1;have d:=h.c2;have e:=h.b2;have j:=h.l;have UW:=BU x;have JM:=Je x (bmD s n x);have nS:aA 8192 (bmC x (bmD s n x)):=rH (h.cs.append (aA.wJ aN)) (fD hd) _;unfold DJ;split
 ·exact⟨h.c1,by show x.c.length≤n+1+1;omega,by show x.b.length+(x.shift+1)≤n+1+2;omega,by show x.length≤n+1;omega,h.cs,h.bs,h.la,h.l0⟩
 ·rename_i a;split
  ·exact⟨by show 1≤(bmC x _).length;omega,by show (bmC x _).length≤n+1+1;omega,by show x.c.length+1≤n+1+2;omega,by show n+1-x.length≤n+1;omega,nS,h.cs,hd,a⟩
  ·exact⟨by show 1≤(bmC x _).length;omega,by show (bmC x _).length≤n+1+1;omega,by show x.b.length+(x.shift+1)≤n+1+2;omega,by show x.length≤n+1;omega,nS,h.bs,h.la,h.l0⟩
theorem Gz(hs:aA 8192 s):∀n,(qO s n).Ok n
 | 0=>⟨Nat.le_refl 1,Nat.le_refl 1,Nat.le_refl 2,Nat.le_refl 0,λy hy=>by rw[mem_singleton.1 hy];decide,λy hy=>by rw[mem_singleton.1 hy];decide,(by decide:1<8192),(by decide:1≠0)⟩
 | n+1=>WO hs (Gz hs n)
def vE(s:List Nat):List Nat:=(qO s s.length).c
def xE(s:List Nat):Nat:=aZ (vE s) (vE s).length
theorem FN(hs:Seq K F A m 1 (av .i64 xs))(hm:m≤1000000) :
 aB prog 103 #[.slice A m cap] K F (λv H'=>∃A' cap',v= .slice A' m cap'∧H'=aV (.slice A' m cap') 3 1 m (av .i64 xs)::F):=by
 rw[Ew] at hs ⊢;exact Il hs hm
structure LSt where
 n:Nat
 (gc gb cc cb:Nat)
 rc:List Value
 rb:List Value
theorem Qo(hs:Seq K F A m 1 (av .i64 s))(hs8:aA 8192 s)(hm:m≤64) :
 aB prog 284 #[.slice A m cap] K F
  (λv H'=>∃g cap' r,v= .slice (some ⟨g,0,none⟩) (xE s) cap'∧H'=ah g 3 (av .i64 (vE s)++r)::F):=by
 have hl:s.length=m:=by simpa [av] using hs.len
 refine aB.en func284 ntmps284 ?_;refine aj "aw" ?_;refine WL.buildSlice (E:=3) (cs:=[_]) (vs:=[(0,_)]) ⟨ak Z,trivial⟩ Z (dJ _) Z (λx0=>WL.buildSlice (E:=3) (cs:=[_]) (vs:=[(0,_)]) ⟨ak Z,trivial⟩ Z (dJ _) Z (λU=>aj "lwllfjR" ?_));refine WC.loop (σ:=LSt) (λx=>[(0,.slice A m cap),(3,.slice (some ⟨x.gc,0,none⟩) (qO s x.n).c.length x.cc),(4,.slice (some ⟨x.gb,0,none⟩) (qO s x.n).b.length x.cb),(5,.i ((qO s x.n).length:Nat)),(6,.i ((qO s x.n).shift:Nat)),(7,.i ((qO s x.n).last:Nat)),(20,.i (m:Int)),(21,.i (x.n:Int))]) (λx=>ah x.gc 3 (av .i64 (qO s x.n).c++x.rc)::ah x.gb 3 (av .i64 (qO s x.n).b++x.rb)::F) (λx=>x.n≤m∧(qO s x.n).c.length≤x.cc∧(qO s x.n).b.length≤x.cb) (λx=>m-x.n) ⟨0,x0,U,1,1,[],[]⟩ ⟨zero_le _,Nat.le_refl _,Nat.le_refl _⟩ bC (λw h=>h.bg 2 [1,0] Z) ?_;rintro⟨n,gc,gb,cc,cb,rc,rb⟩ ⟨hn,Dw,FR⟩;dsimp only at hn Dw FR ⊢;obtain⟨x,R⟩:∃x,x=qO s n:=⟨_,Z⟩;have Dv:x.Ok n:=by rw[R];exact Gz hs8 n
 have gL:qO s (n+1)=DJ s n x:=by rw[qO,←R]
 rw[←R] at Dw FR ⊢;obtain⟨x8,y3,y1,xl,B,x7,N,W⟩:=Dv;refine aj "V1" (aW (λaL=> ?_) λaL=> ?_)
 ·refine aj "Yt" ?_;have y0:n<m:=ay;have H:∀ {X Y:aH},Seq K (X::Y::F) A m 1 (av .i64 s):=λ{X Y}=>hs.up.up;have Zd:∀ {X Y:aH},Rd K (X::Y::F) (A.map (·.add ((n:Int).toNat*1))) (.i (s.getD n 0:Nat)):=λ{X Y}=>by
   rw[show (n:Int).toNat=n by omega];exact H.jo ay
  refine aj "gb" ?_;refine WL.val (V.dw eB (ak Z) (ak Z) (λa=>by omega) (λa=>Zd)) Z<|WL.val (V.load isAgg3 (ak Z) (λa=>Zd)) Z<|aj "taos" ?_;refine WC.loop (σ:=Nat) (λk=>[(0,.slice A m cap),(3,.slice (some ⟨gc,0,none⟩) x.c.length cc),(4,.slice (some ⟨gb,0,none⟩) x.b.length cb),(5,.i (x.length:Nat)),(6,.i (x.shift:Nat)),(7,.i (x.last:Nat)),(20,.i (m:Int)),(21,.i (n:Int)),(8,.i (n:Int)),(9,.i (EX s x.c n k:Nat)),(10,.i ((k:Int)+1))]) (λk=>ah gc 3 (av .i64 x.c++rc)::ah gb 3 (av .i64 x.b++rb)::F) (λk=>k≤min x.length (x.c.length-1)) (λk=>min x.length (x.c.length-1)-k) 0 (zero_le _) bC cO ?_;rintro k hk;refine aj "rb~^b!!~~r~~vSh" (aW (λaQ=> ?_) λaQ=> ?_)
  ·simp only[Gi] at aQ;have h0:=aQ;refine aj "E" ?_;have vX:k+1≤x.length∧k+1<x.c.length:=ay;have D:(av .i64 x.c++rc)[0+((k:Int)+1).toNat*1]? =some (.i (x.c.getD (k+1) 0:Nat)):=by rw[show 0+((k:Int)+1).toNat*1=k+1 by omega];exact mF _ _ _ ay
   have ajy:∀ {X Y:aH},Rd K (X::Y::F) (A.map (·.add (((n:Int)-((k:Int)+1)).toNat*1))) (.i (s.getD (n-(k+1)) 0:Nat)):=λ{X Y}=>by
    rw[show ((n:Int)-((k:Int)+1)).toNat=n-(k+1) by omega];exact H.jo ay
   have JM:=B.at_ aN (k+1);have mR:=hs8.at_ aN (n-(k+1));refine aj "~i$$$" ?_;refine WQ.val (V.FW eB (ak Z) (ak Z) (λa=>by omega)) Z<|WQ.val (V.load isAgg3 (ak Z) (λa=>Rd.here D)) Z<|aj "$$$~~^" ?_;refine WQ.val (V.dw eB (ak Z) (ak Z) (λa=>by omega) (λa=>ajy)) Z<|WQ.val (V.load isAgg3 (ak Z) (λa=>ajy)) Z<|WQ.call (vs:=[_,_]) call288 ⟨ak Z,ak Z,trivial⟩ (zu JM mR) Z<|WQ.val (V.aG (v':= .i (EX s x.c n (k+1):Nat)) (V.xor (ak Z) (ak Z)) (λ_=>by rw[nC (by have :=Df hs8 B (n:=n) k;omega) (by have :=fD (b:=s.getD (n-(k+1)) 0) JM;omega),EX])) Z<|aj "~n~dgZN" ?_;exact⟨k+1,(by show k+1≤min x.length (x.c.length-1);omega),(by show min x.length (x.c.length-1)-(k+1)<min x.length (x.c.length-1)-k;omega),.cons Z bC,λw h=>h⟩
  ·simp only[Gi] at aQ;have h0:=aQ;refine aj "WL" ?_;have YX:k=min x.length (x.c.length-1):=by
    rcases h0 with h | h<;>omega
   have hD:EX s x.c n k=bmD s n x:=by rw[YX];rfl
   obtain⟨d,hd⟩:∃d,d=bmD s n x:=⟨_,Z⟩;rw[hD,←hd];have Nf:d<8192:=by rw[hd];exact Df hs8 B _
   unfold DJ at gL;rw[←hd] at gL;refine aj "g;c1" (aW (λbA=> ?_) λbA=> ?_)
   ·have h2:=bA;rw[if_pos ay] at gL;refine aj "eZoK8" ?_;exact⟨⟨n+1,gc,gb,cc,cb,rc,rb⟩,⟨by show n+1≤m;omega,by show (qO s (n+1)).c.length≤cc;rw[gL];exact Dw,by show (qO s (n+1)).b.length≤cb;rw[gL];exact FR⟩,(by show m-(n+1)<m-n;omega),.cons Z (.cons (look_eq Z (by rw[gL])) (.cons (look_eq Z (by rw[gL])) (.cons (look_eq Z (by rw[gL])) (.cons (look_eq Z (by rw[gL];simp)) (.cons (look_eq Z (by rw[gL])) bC))))),λw h=>by dsimp only;rw[gL];exact h⟩
   ·have h2:=bA;have x3:d≠0:=ay;rw[if_neg x3] at gL;refine aj "T" ?_;refine WL.t1 call324 Z (ahl N W) Z<|aj "H0" ?_;refine WL.t2 call288 Z Z (zu Nf (U5 N)) Z<|aj "t" ?_;obtain⟨y,T⟩:∃y,y=kK d (ahm x.last):=⟨_,Z⟩;have e:y<8192:=by rw[T];exact fD Nf
    rw[←T];refine aj "g" ?_;refine WL.c1 call103 Z (FN (xs:=x.c) (Seq.here (by rw[au];omega) (by rw[drop_zero];exact prefix_append _ _)) ay) Z ?_;rintro _ _ ⟨A1,c1,rfl,rfl⟩;refine WL.ex (BP ay) (λ⟨C,M⟩ ⟨e1,Dq,aQ⟩=> ?_);dsimp only at e1 Dq ⊢;subst e1;have x4:x.c.length≤c1:=by rw[←Dq,length_append,au];omega
    refine aj "ts" ?_;refine WC.loop (σ:=Nat×Nat×Nat×List Value) (λz=>[(0,.slice A m cap),(3,.slice (some ⟨z.2.1,0,none⟩) (x.c.length+z.1) z.2.2.1),(4,.slice (some ⟨gb,0,none⟩) x.b.length cb),(5,.i (x.length:Nat)),(6,.i (x.shift:Nat)),(7,.i (x.last:Nat)),(20,.i (m:Int)),(21,.i (n:Int)),(8,.i (n:Int)),(9,.i (d:Nat)),(13,.i (y:Nat)),(14,.slice (some ⟨C,0,none⟩) x.c.length c1)]) (λz=>ah z.2.1 3 (av .i64 (x.c++replicate z.1 0)++z.2.2.2)::ah C 3 (av .i64 x.c++M)::ah gb 3 (av .i64 x.b++rb)::F) (λz=>z.1≤x.b.length+x.shift-x.c.length∧x.c.length+z.1≤z.2.2.1) (λz=>x.b.length+x.shift-z.1) (0,gc,cc,rc) ⟨zero_le _,Dw⟩ bC (λw h=>Sat.aT (h.bg 3 [1,0,2] Z) (by simp)) ?_;rintro⟨z,g,cz,rz⟩ ⟨hz,hzc⟩;dsimp only at hz hzc ⊢;refine aj "rjbjbZPc1" (aW (λeu=> ?_) λeu=> ?_)
    ·refine aj "qsgbjbj" ?_;refine WL.val (V.aG (v':= .slice (some ⟨g,0,none⟩) (x.c.length+z) (x.c.length+z)) (V.slice (l:=0) (h:=x.c.length+z) (u:=x.c.length+z) eB (ak Z) OO.none (OO.some (ak Z) (λ_=>by omega)) (OO.some (ak Z) (λ_=>by omega)) (by simp) (zero_le _) (Nat.le_refl _) hzc) (λ_=>by simp[jM])) Z<|WL.buildSlice (E:=3) (cs:=[_]) (vs:=[(0,_)]) ⟨ak Z,trivial⟩ Z (dJ _) Z (λy2=> ?_);have x9:(av .i64 (x.c++replicate z 0)).length=x.c.length+z:=by simp[av]
     refine WL.D7 (m:=x.c.length+z) (q:=1) (cs:=av .i64 (x.c++replicate z 0)) (news:=[.i 0]) underlying124 Me (ak Z) (ak Z) (Seq.up (Seq.here ay (by rw[drop_zero];exact prefix_append _ _))) (Seq.all Z) ay ay aN ay Z Z (λA2 c2 RU bA=>WL.ex (BP ay) (λ⟨g2,r2⟩ ⟨e2,EB,mV⟩=> ?_));dsimp only at e2 EB ⊢;subst e2;refine aj "N" ?_;exact⟨(z+1,g2,c2,r2),⟨by show z+1≤x.b.length+x.shift-x.c.length;omega,bA⟩,(by show x.b.length+x.shift-(z+1)<x.b.length+x.shift-z;omega),.cons Z bC,λw h=>Sat.aT (h.bg 5 [0,3,4] Z) (by simp[av,replicate_succ'])⟩
    ·refine aj "W" ?_;have Q:z=x.b.length+x.shift-x.c.length:=ay;have x5:x.c++replicate z 0=qG x:=by rw[Q];rfl
     have anX:(qG x).length=x.c.length+z:=by rw[BU,Q]
     have anu:aA 8192 (qG x):=B.append (aA.wJ aN);rw[x5,←anX];refine aj "g" ?_;refine WL.c1 call103 Z (FN (xs:=qG x) (Seq.here (by rw[au];omega) (by rw[drop_zero];exact prefix_append _ _)) ay) Z ?_;rintro _ _ ⟨A3,c3,rfl,rfl⟩;refine WL.ex (BP ay) (λ⟨G,J⟩ ⟨e3,Mc,eu⟩=> ?_);dsimp only at e3 Mc ⊢;subst e3;have ag1:(qG x).length≤c3:=by rw[←Mc,length_append,au];omega
     refine aj "fjR" ?_;refine WC.loop (σ:=Nat) (λk=>[(0,.slice A m cap),(3,.slice (some ⟨G,0,none⟩) (qG x).length c3),(4,.slice (some ⟨gb,0,none⟩) x.b.length cb),(5,.i (x.length:Nat)),(6,.i (x.shift:Nat)),(7,.i (x.last:Nat)),(20,.i (m:Int)),(21,.i (n:Int)),(8,.i (n:Int)),(9,.i (d:Nat)),(13,.i (y:Nat)),(14,.slice (some ⟨C,0,none⟩) x.c.length c1),(83,.slice (some ⟨gb,0,none⟩) x.b.length cb),(84,.i (x.b.length:Nat)),(85,.i (k:Int))]) (λk=>ah G 3 (av .i64 (xX (qG x) x.b y x.shift k)++J)::ah C 3 (av .i64 x.c++M)::ah gb 3 (av .i64 x.b++rb)::F) (λk=>k≤x.b.length) (λk=>x.b.length-k) 0 (zero_le _) bC (λw h=>h.bg 4 [0,2,3] Z) ?_;rintro k y4;refine aj "V1" (aW (λmQ=> ?_) λmQ=> ?_)
     ·refine aj "EL" ?_;have x6:k<x.b.length:=ay;obtain⟨o,P⟩:∃o,o=xX (qG x) x.b y x.shift k:=⟨_,Z⟩;have Gh:o.length=(qG x).length:=by rw[P,vF]
      have Zy:aA 8192 o:=by rw[P];exact rH anu e k
      rw[←P];have RN:Rd K (ah G 3 (av .i64 o++J)::ah C 3 (av .i64 x.c++M)::ah gb 3 (av .i64 x.b++rb)::F) (some ⟨gb,0+(k:Int).toNat*1,none⟩) (.i (x.b.getD k 0:Nat)):=by
       rw[show 0+(k:Int).toNat*1=k by omega];exact Rd.up (Rd.up (Rd.here (mF _ _ _ x6)))
      have O:(av .i64 o++J)[0+((k:Int)+(x.shift:Int)).toNat*1]? =some (.i (o.getD (k+x.shift) 0:Nat)):=by rw[show 0+((k:Int)+(x.shift:Int)).toNat*1=k+x.shift by omega];exact mF _ _ _ ay
      have BI:=x7.at_ aN k;refine aj "g~x" ?_;refine WL.val (V.load isAgg3 (ak Z) (λa=>RN)) Z<|aj "lo" ?_;refine WC.dM (ah C 3 (av .i64 x.c++M)::ah gb 3 (av .i64 x.b++rb)::F) (by kernel_rfl)<|aj "n0n1n2~~H3~e4n6n7" ?_;refine WA.two (i:=5) (j:=8) eO (by kernel_rfl) Z Z ?_ ?_
      ·refine WL.val (V.load isAgg3 (ak Z) (λa=>Rd.here O)) Z<|aj "cm8" ?_;refine WL.t2 call288 Z Z (zu e BI) Z<|WL.nil<|WA.t 9 Z (V.aG (v':= .i ((o.getD (k+x.shift) 0 ^^^ kK y (x.b.getD k 0):Nat):Int)) (V.xor (ak Z) (ak Z)) (λ_=>by rw[nC (by have :=Zy.at_ aN (k+x.shift);omega) (by have :=fD (b:=x.b.getD k 0) e;omega)])) ?_;refine aj "~e:m;" ?_;refine WL.store (cs:=[_]) sizeOf3 (ak Z) (ak Z) Z Z Z (bT.at_ (by rw[length_append,au];omega))<|aj "*8" ?_;refine⟨k+1,(by show k+1≤x.b.length;omega),(by show x.b.length-(k+1)<x.b.length-k;omega),.cons Z bC,λw h=>Sat.aT h ?_⟩;rw[show 0+((k:Int)+(x.shift:Int)).toNat*1=k+x.shift by omega,uj _ _ _ ay,xX,←P]
      ·refine WL.t2 call288 Z Z (zu e BI) Z<|aj "cm5" ?_;refine WL.val (V.load isAgg3 (ak Z) (λa=>Rd.here O)) Z<|WL.nil<|WA.t 9 Z (V.aG (v':= .i ((o.getD (k+x.shift) 0 ^^^ kK y (x.b.getD k 0):Nat):Int)) (V.xor (ak Z) (ak Z)) (λ_=>by rw[nC (by have :=Zy.at_ aN (k+x.shift);omega) (by have :=fD (b:=x.b.getD k 0) e;omega)])) ?_;refine aj "~e:m;" ?_;refine WL.store (cs:=[_]) sizeOf3 (ak Z) (ak Z) Z Z Z (bT.at_ (by rw[length_append,au];omega))<|aj "*8" ?_;refine⟨k+1,(by show k+1≤x.b.length;omega),(by show x.b.length-(k+1)<x.b.length-k;omega),.cons Z bC,λw h=>Sat.aT h ?_⟩;rw[show 0+((k:Int)+(x.shift:Int)).toNat*1=k+x.shift by omega,uj _ _ _ ay,xX,←P]
     ·refine aj "W" ?_;obtain rfl:k=x.b.length:=by omega
      have hC:xX (qG x) x.b y x.shift x.b.length=bmC x d:=by rw[T];rfl
      rw[hC];have S:(bmC x d).length=(qG x).length:=Je x d;rw[←S] at ag1 ⊢;refine aj "g~Eb~^c1" (aW (λh5=> ?_) λh5=> ?_)
      ·rw[if_pos ay] at gL;refine aj "gZb)xlllo8" ?_;exact⟨⟨n+1,G,C,c3,c1,J,M⟩,⟨by show n+1≤m;omega,by show (qO s (n+1)).c.length≤c3;rw[gL];exact ag1,by show (qO s (n+1)).b.length≤c1;rw[gL];exact x4⟩,(by show m-(n+1)<m-n;omega),.cons Z (.cons (look_eq Z (by rw[gL])) (.cons (look_eq Z (by rw[gL])) (.cons (look_eq Z (by rw[gL];simp;omega)) (.cons (look_eq Z (by rw[gL];rfl)) (.cons (look_eq Z (by rw[gL])) bC))))),λw h=>by dsimp only;rw[gL];exact h.bg 3 [0,1] Z⟩
      ·rw[if_neg ay] at gL;refine aj "gZo8" ?_;exact⟨⟨n+1,G,gb,c3,cb,J,rb⟩,⟨by show n+1≤m;omega,by show (qO s (n+1)).c.length≤c3;rw[gL];exact ag1,by show (qO s (n+1)).b.length≤cb;rw[gL];exact FR⟩,(by show m-(n+1)<m-n;omega),.cons Z (.cons (look_eq Z (by rw[gL])) (.cons (look_eq Z (by rw[gL])) (.cons (look_eq Z (by rw[gL])) (.cons (look_eq Z (by rw[gL];simp)) (.cons (look_eq Z (by rw[gL])) bC))))),λw h=>by dsimp only;rw[gL];exact h.bg 3 [0,2] Z⟩
 ·refine aj "Ws" ?_;refine WC.loop (σ:=Nat) (λj=>[(3,.slice (some ⟨gc,0,none⟩) j cc)]) (λj=>ah gc 3 (av .i64 x.c++rc)::F) (λj=>j≤x.c.length∧aZ x.c j=aZ x.c x.c.length) (λj=>j) x.c.length ⟨Nat.le_refl _,Z⟩ bC (λw h=>h.bg 2 [0] Z) ?_;rintro j ⟨hj,Wx⟩;have D:0<j→(av .i64 x.c++rc)[0+((j:Int)-1).toNat*1]? =some (.i (x.c.getD (j-1) 0:Nat)):=λh=>by rw[show 0+((j:Int)-1).toNat*1=j-1 by omega];exact mF _ _ _ ay
  refine aj "rj~Hb!!~~r~~:" ?_;refine WL.bI (oj:=_) Z Z Z GC.t (V.FW eB (OV.g Z id) (OV.g Z id) (λa=>by simp at a;omega)) Z<|WL.bI (oj:=_) Z Z Z GC.t (V.load isAgg3 (OV.g Z id) (λa=>Rd.here (D (by simp at a;omega)))) Z<|aj "~SSh" (aW (λI=> ?_) λI=> ?_)
  ·simp only[Gi] at I;refine aj "qsgbj)" ?_;refine WL.val (V.aG (v':= .slice (some ⟨gc,0,none⟩) (j-1) cc) (V.slice (l:=0) (h:=j-1) (u:=cc) eB (ak Z) OO.none (OO.some (ak Z) (λ_=>by omega)) OO.none (by simp) (zero_le _) ay (Nat.le_refl _)) (λ_=>by simp[jM])) Z<|aj "N" ?_;refine⟨j-1,⟨by show j-1≤x.c.length;omega, ?_⟩,(by show j-1<j;omega),.cons Z (.nil _),λw h=>h⟩;obtain⟨i,rfl⟩:∃i,j=i+1:=⟨j-1,by omega⟩;rw[←Wx,aZ,if_pos (by have :=I.2;simp at this ⊢;omega)];rfl
  ·simp only[Gi] at I;refine aj "Ked" ?_;obtain rfl:n=m:=by omega
   have L:vE s=x.c:=by unfold vE;rw[hl,←R]
   have x2:aZ x.c x.c.length=j:=by
    rw[←Wx];cases j with
    | zero=>rfl
    | succ i =>
     rw[aZ,if_neg];intro hz;rcases I with h1 | h1
     ·omega
     ·have h2:¬((x.c.getD i 0:Nat):Int)=0:=h1;exact h2 (by rw[hz];rfl)
   refine qR (ah gc _ _::F) Z Z cO ⟨gc,cc,rc, ?_,by rw[L]⟩;unfold xE;rw[L,x2]
def Dr(x:Nat):Nat:=(List.range 8).countP λk=>x.testBit k
theorem abo{x:Nat}(hx:x<256)(h0:x≠0):bitsOf .and .u8 (x:Int) ((x:Int)-1)=((x &&& (x-1):Nat):Int)∧Dr (x &&& (x-1))+1=Dr x∧(x &&& (x-1))<x:=by
 have h:((List.range 256).all λa=>decide (a≠0→bitsOf .and .u8 ((a:Nat):Int) (((a:Nat):Int)-1)=((a &&& (a-1):Nat):Int)∧Dr (a &&& (a-1))+1=Dr a∧(a &&& (a-1))<a))=true:=by kernel_rfl
 have b:=all_eq_true.1 h x (mem_range.2 hx);exact of_decide_eq_true b h0
theorem Vk(x:Nat):Dr x≤8:=by
 have :=countP_le_length (p:=λk=>x.testBit k) (l:=List.range 8);rw[length_range] at this;exact this
def rE:List Nat→Nat
 | []=>0
 | x::xs=>Dr x+rE xs
theorem ML:∀xs:List Nat,rE xs≤8*xs.length
 | []=>zero_le _
 | x::xs=>by
  have :=ML xs;have :=Vk x;simp only[rE,length_cons];omega
theorem FE:∀xs ys:List Nat,rE (xs++ys)=rE xs+rE ys
 | [],ys=>by simp[rE]
 | x::xs,ys=>by rw[cons_append,rE,rE,FE xs ys];omega
theorem xZ(xs:List Nat)(h:j<xs.length):xs.take (j+1)=xs.take j++[xs.getD j 0]:=by grind [take_add_one,getElem?_eq_getElem,getD]
def nz(x:Nat):Nat:=if x=0 then 0 else 1
def jk(s:List Nat):List Nat:=s.map nz
theorem K6(hs:Seq K F A m 1 (av .u8 xs))(hx:aA 256 xs)(hm:m≤100000000):aK prog 282 #[.slice A m cap] K F (.i (rE xs:Nat)):=by
 have y:xs.length=m:=by simpa [av] using hs.len
 refine aB.en func282 ntmps282 ?_;refine aj "awfjR" ?_;refine WC.loop (σ:=Nat) (λj=>[(3,.i (rE (xs.take j):Nat)),(6,.slice A m cap),(7,.i (m:Int)),(8,.i (j:Int))]) (λ_=>F) (λj=>j≤m) (λj=>m-j) 0 (zero_le _) bC cO ?_;rintro j B;refine aj "V1" (aW (λaL=> ?_) λaL=> ?_)
 ·refine aj "EL" ?_;have kr:Rd K F (A.map (·.add ((j:Int).toNat*1))) (.int .u8 (xs.getD j 0:Nat)):=by
   rw[show (j:Int).toNat=j by omega];exact hs.jo ay
  obtain⟨a,b⟩:∃a,a=xs.getD j 0:=⟨_,Z⟩;have k:a<256:=by rw[b];exact hx.at_ aN j
  have ZC:rE (xs.take (j+1))=rE (xs.take j)+Dr a:=by rw[xZ xs ay,FE,←b];simp[rE]
  have n:=ML (xs.take j);rw[length_take] at n;rw[←b] at kr;refine WC.region<|WL.val (V.dw dO (ak Z) (ak Z) (λr=>by omega) (λr=>kr)) Z<|WL.val (V.load isAgg5 (ak Z) (λr=>kr)) Z<|aj "os" ?_;refine WC.loop (σ:=Nat) (λx=>[(3,.i (rE (xs.take j)+(Dr a-Dr x):Nat)),(6,.slice A m cap),(7,.i (m:Int)),(8,.i (j:Int)),(5,.int .u8 (x:Int))]) (λ_=>F) (λx=>x<256∧Dr x≤Dr a) (λx=>x) a ⟨k,Nat.le_refl _⟩ (.cons (look_eq Z (by rw[Nat.sub_self,Nat.add_zero])) bC) cO ?_;rintro x ⟨Zg,UY⟩;refine aj "ruc~h" (aW (λu=> ?_) λu=> ?_)
  ·refine aj "E" ?_;have e:x≠0:=ay;obtain⟨UZ,RV,d⟩:=abo Zg e;have V4:=Vk a;refine aj "g" ?_;refine WL.val (V.aG (v':= .i (rE (xs.take j)+(Dr a-Dr (x &&& (x-1))):Nat)) (V.CX (ak Z) (ak Z) (λ_=>by omega)) (λ_=>by congr 1;omega)) Z<|aj "Ob" ?_;refine WL.val (V.aG (v':= .int .u8 ((x:Int)-1)) (V.sub (ak Z) (ak Z)) (λ_=>by congr 1;simp only[IntKind.wrap,IntKind.bits,IntKind.signed];simp;omega)) Z<|WL.val (V.aG (v':= .int .u8 ((x &&& (x-1):Nat):Int)) (V.and (ak Z) (ak Z)) (λ_=>by rw[UZ])) Z<|aj "N" ?_;exact⟨x &&& (x-1),⟨by show x &&& (x-1)<256;omega,by omega⟩,d,.cons Z bC,λw h=>h⟩
  ·refine WC.exit ?_;have ao3:x=0:=ay;have l:Dr x=0:=by rw[ao3];rfl
   rw[l,Nat.sub_zero];refine aj "8" ?_;exact⟨j+1,(by show j+1≤m;omega),(by show m-(j+1)<m-j;omega),.cons (look_eq Z (by rw[ZC])) bC,λw h=>h⟩
 ·refine aj "Ked" ?_;obtain rfl:j=m:=by omega
  exact qR F Z Z cO ⟨by rw[take_of_length_le ay],Z⟩
theorem SC(hs:Seq K F A m 1 (av .i64 s))(hs8:aA 8192 s)(hm:m≤1000000) :
 aB prog 290 #[.slice A m cap] K F (λv H'=>∃g,v= .slice (some ⟨g,0,none⟩) m m∧H'=ah g 5 (av .u8 (jk s))::F):=by
 have y:s.length=m:=by simpa [av] using hs.len
 refine aB.en func290 ntmps290 ?_;refine aj "aij" ?_;refine WL.nM (m:=m) underlying34 yL (ak Z) (ak Z) ay ay ay Z Z Z (λa=>aj "fjR" ?_);refine WC.loop (σ:=Nat) (λj=>[(3,.slice (some ⟨a,0,none⟩) m m),(9,.slice A m cap),(10,.i (m:Int)),(11,.i (j:Int))]) (λj=>ah a 5 (av .u8 (jk (s.take j)++replicate (m-j) 0))::F) (λj=>j≤m) (λj=>m-j) 0 (zero_le _) bC (λw h=>Sat.aT h (by simp[jk,eD])) ?_;rintro j B;refine aj "V1" (aW (λaL=> ?_) λaL=> ?_)
 ·refine aj "EL" ?_;have u:j<m:=ay;have kr:Rd K (ah a 5 (av .u8 (jk (s.take j)++replicate (m-j) 0))::F) (A.map (·.add ((j:Int).toNat*1))) (.i (s.getD j 0:Nat)):=by
   rw[show (j:Int).toNat=j by omega];exact (hs.jo ay).up
  obtain⟨x,r⟩:∃x,x=s.getD j 0:=⟨_,Z⟩;have Du:=xZ s (j:=j) ay;have e:(jk (s.take j)).length=j:=by simp[jk];omega
  rw[←r] at kr Du;refine aj "g" ?_;refine WL.val (V.dw eB (ak Z) (ak Z) (λl=>by omega) (λl=>kr)) Z<|WL.val (V.load isAgg3 (ak Z) (λl=>kr)) Z<|aj "liuc~h" (aW (λn=> ?_) λn=> ?_)
  ·refine aj "gb~x" ?_;refine WL.store (cs:=[_]) sizeOf5 (ak Z) (ak Z) Z Z Z (bT.at_ (by simp[av,jk];omega))<|aj "c8" ?_;refine⟨j+1,(by show j+1≤m;omega),(by show m-(j+1)<m-j;omega),.cons Z bC,λw h=>Sat.aT h ?_⟩;have d:jk (s.take (j+1))=jk (s.take j)++[nz x]:=by rw[Du];simp[jk]
   have b:m-j=(m-(j+1))+1:=ay;have k:nz x=1:=by unfold nz;rw[if_neg ay]
   rw[show 0+(j:Int).toNat*1=j by omega,show Value.int .u8 1=Value.int .u8 ((1:Nat):Int) from Z,lu,d,k,b,set_append_right _ _ ay,e,Nat.sub_self,replicate_succ,set_cons_zero];simp
  ·refine aj "q8" ?_;refine⟨j+1,(by show j+1≤m;omega),(by show m-(j+1)<m-j;omega),.cons Z bC,λw h=>Sat.aT h ?_⟩;have d:jk (s.take (j+1))=jk (s.take j)++[nz x]:=by rw[Du];simp[jk]
   have b:m-j=(m-(j+1))+1:=ay;have k:nz x=0:=by unfold nz;rw[if_pos ay]
   rw[d,k,b,replicate_succ];simp
 ·refine aj "Ked" ?_;obtain rfl:j=m:=by omega
  exact qR (ah a _ _::F) Z Z (λw h=>Sat.aT h (by rw[take_of_length_le ay];simp)) ⟨a,Z,Z⟩
abbrev LL:=List Nat×List Nat
def xY(t:Nat)(p:LL)(i:Nat):LL:=if 13*t≤i then (wo p.1 (i-13*t),p.2) else (p.1,wo p.2 i)
def Ib(c:List Nat)(x:Nat):Nat→Nat→Nat
 | 0,v=>v
 | k+1,v=>Ib c x k (kK v x ^^^ c.getD k 0)
def Mv(c:List Nat)(L i:Nat):Bool:=decide (Ib c (gG (-(i:Int))) L 0=0)
def fU(t:Nat)(c:List Nat)(L:Nat)(p:LL):Nat→LL×Nat
 | 0=>(p,0)
 | k+1=>if Mv c L k=true then (xY t (fU t c L p k).1 k,(fU t c L p k).2+1) else fU t c L p k
def iY(t:Nat)(p:LL):List Nat:=qL t (13*t+8*p.1.length) (wAt t p.1 p.2)
def tZ(t:Nat)(d m:List Nat):Option (LL×Nat) :=
 if t+1<xE (iY t (d,jI t m)) then none
 else
  if (fU t (vE (iY t (d,jI t m))) (xE (iY t (d,jI t m))) (d,jI t m) (13*t+8*d.length)).2+1≠xE (iY t (d,jI t m)) then none
  else if 0<rE (jk (iY t (fU t (vE (iY t (d,jI t m))) (xE (iY t (d,jI t m))) (d,jI t m) (13*t+8*d.length)).1)) then none
  else some (fU t (vE (iY t (d,jI t m))) (xE (iY t (d,jI t m))) (d,jI t m) (13*t+8*d.length))
theorem IW:Ib c x (k+1) v=Ib c x k (kK v x ^^^ c.getD k 0):=rfl
theorem Hy(t:Nat)(c:List Nat)(L:Nat)(p:LL):∀k,(fU t c L p k).2≤k
 | 0=>Nat.le_refl _
 | k+1=>by
  have :=Hy t c L p k;rw[fU];split
  ·show (fU t c L p k).2+1≤k+1;omega
  ·omega
theorem WE(t:Nat)(p:LL)(i:Nat):(xY t p i).1.length=p.1.length∧(xY t p i).2.length=p.2.length:=by grind [xY,nu]
theorem ug(t:Nat)(c:List Nat)(L:Nat)(p:LL):∀k,(fU t c L p k).1.1.length=p.1.length∧(fU t c L p k).1.2.length=p.2.length
 | 0=>⟨Z,Z⟩
 | k+1=>by
  have ih:=ug t c L p k;rw[fU];split
  ·have :=WE t (fU t c L p k).1 k;exact⟨by show (xY _ _ _).1.length=_;omega,by show (xY _ _ _).2.length=_;omega⟩
  ·exact ih
theorem ET:aA 8192 (qL t len bit):=λx a=>by
 obtain⟨k,_,rfl⟩:=mem_map.1 a;exact ab1 _ _ aN
theorem LQ:(qL t len bit).length=2*t:=by simp[qL]
theorem R7(hs:aA 8192 s):aA 8192 (vE s):=(Gz hs _).cs
theorem adM(hs:aA 8192 s):xE s≤(vE s).length∧(vE s).length≤s.length+1:=⟨iy _ _,(Gz hs _).c2⟩
namespace Wd
def put(W:Wd)(p:LL):Wd:= { W with d:=p.1,m:=p.2 }
theorem Qf(W:Wd)(p:LL)(i:Nat):(W.put p).flip i=W.put (xY W.t p i):=by grind [Wd.flip,xY,put]
end Wd
def ad3(F:List aH)(o:Option (LL×Nat))(v:Value)(H':List aH):Prop :=
 match o with
 | none=>v= .tuple #[.slice none 0 0,.slice none 0 0,.int .i64 0,.int .i64 50]∧H'=F
 | some (p,n)=>∃g1 c1 r1 g2 c2 r2,p.1.length≤c1∧p.2.length≤c2∧v= .tuple #[.slice (some ⟨g1,0,none⟩) p.1.length c1,.slice (some ⟨g2,0,none⟩) p.2.length c2,.int .i64 (n:Int),.int .i64 0]∧H'=ah g1 5 (av .u8 p.1++r1)::ah g2 5 (av .u8 p.2++r2)::F
theorem Jo{V:Wd}(h:V.Ok):aB prog 285 #[ptr bw 0] K (V.parts bw++F) (λv H'=>∃g,v= .slice (some ⟨g,0,none⟩) (2*V.t) (2*V.t)∧H'=ah g 3 (av .i64 (iY V.t (V.d,V.m)))::(V.parts bw++F)) :=
 Yb h fH.all (Seq.up (Seq.here (by rw[au];omega) (by rw[drop_zero];exact prefix_append _ _))) (Seq.up (Seq.up (Seq.here (by rw[au];omega) (by rw[drop_zero];exact prefix_append _ _))))
theorem Tf{mo:List Nat}(ht:1≤t∧t≤8)(hd:Seq K F A m 1 (av .u8 d))(hm:Seq K F B q 1 (av .u8 mo))(Nf:aA 256 d)(hm8:aA 256 mo)(wF:1≤m∧m≤512)(Oa:q=aR t) :
 aB prog 244 #[.i (t:Int),.slice A m cap,.slice B q cap'] K F (ad3 F (tZ t d mo)):=by
 refine aB.en func244 ntmps244 ?_;refine aj "alllix" ?_;refine WL.c3 call283 Z Z Z (PK ht hd hm Nf hm8 wF Oa) Z ?_;rintro _ _ ⟨N,W,R,a,J,x3,S,rfl,rfl⟩;obtain⟨p,hp⟩:∃p:LL,p=(d,jI t mo):=⟨_,Z⟩;have UZ:W.d=p.1:=by rw[hp,J]
 have RV:W.m=p.2:=by rw[hp,x3]
 have x5:tZ t d mo=(if t+1<xE (iY t p) then none else if (fU t (vE (iY t p)) (xE (iY t p)) p W.len).2+1≠xE (iY t p) then none else if 0<rE (jk (iY t (fU t (vE (iY t p)) (xE (iY t p)) p W.len).1)) then none else some (fU t (vE (iY t p)) (xE (iY t p)) p W.len)):=by
  unfold tZ Wd.len;rw[hp,a,J]
 rw[x5];have x7:W.len≤4200:=by have h1:=R.t;have h2:=R.d;unfold Wd.len;omega
 refine aj "Hfu2T" ?_;refine WL.c1 call285 Z (Jo R) Z ?_;rintro _ _ ⟨gs,rfl,rfl⟩;rw[UZ,RV,a];obtain⟨s,hs⟩:∃s,s=iY t (p.1,p.2):=⟨_,Z⟩;have Zp:iY t p=s:=hs.symm;have RF:aA 8192 s:=by rw[hs];exact ET
 have mR:s.length=2*t:=by rw[hs];exact LQ
 rw[Zp];refine WL.c1 call284 Z (Qo (s:=s) (Seq.Gb mR) RF ay) Z ?_;rintro _ _ ⟨H,cl,rl,rfl,rfl⟩;obtain⟨L,hL⟩:∃L,L=xE s:=⟨_,Z⟩;obtain⟨c,Y⟩:∃c,c=vE s:=⟨_,Z⟩;have x6:=adM RF;have qX:=R7 RF;rw[←hL,←Y] at x6 ⊢;rw[←Y] at qX;refine aj "fj)b~Hc1" (aW (λh1=> ?_) λh1=> ?_)
 ·rw[if_pos ay];refine aj "allF" ?_;exact aF.ret (H':=F) (bJ.aev Z Z Z Z Z) (λw h=>h.bg 5 [] Z) ⟨Z,Z⟩
 ·rw[if_neg ay];refine aj "|" ?_;have P:W.put (fU t c L p 0).1=W:=by unfold Wd.put fU;rw[←UZ,←RV]
  have jh:∀k,(W.put (fU t c L p k).1).Ok:=λk=>by
   induction k with
   | zero=>rw[P];exact R
   | succ k ih =>
    rw[fU];split
    ·have :=ih.flip k;rw[Wd.Qf,a] at this;exact this
    ·exact ih
  refine aj "pf" ?_;refine WL.t1 call286 Z (Rt R wL) Z<|aj "R" ?_;refine WC.loop (σ:=Nat) (λk=>[(10,ptr N 0),(12,.slice (some ⟨H,0,none⟩) L cl),(13,.i ((fU t c L p k).2:Nat)),(37,.i (W.len:Nat)),(38,.i (k:Int))]) (λk=>(W.put (fU t c L p k).1).parts N++(ah H 3 (av .i64 c++rl)::F)) (λk=>k≤W.len) (λk=>W.len-k) 0 (zero_le _) bC (λw h=>by rw[P];exact h.bg 5 [2,3,4,0] Z) ?_;rintro k hk;obtain⟨U,n⟩:∃U,U=W.put (fU t c L p k).1:=⟨_,Z⟩;have M:U.Ok:=by rw[n];exact jh k
  have O:U.t=t:=by rw[n];exact a
  have I:U.d.length=W.d.length:=by rw[n,UZ];exact (ug t c L p k).1
  have x9:U.len=W.len:=by unfold Wd.len;rw[O,I,a]
  have wF:=Hy t c L p k;rw[←n];refine aj "V1" (aW (λbA=> ?_) λbA=> ?_)
  ·refine aj "Yt" ?_;obtain⟨x,Q⟩:∃x,x=gG (-(k:Int)):=⟨_,Z⟩;have x0:x<8192:=by rw[Q];exact GA _
   refine aj "g~~_" ?_;refine WL.t1 call287 Z (Tz (-(k:Int)) ay) Z<|aj "lfj" ?_;refine WL.val (V.aG (v':= .i ((L:Int)-1)) (V.Eo (ak Z) (ak Z) (λ_=>by omega)) (λ_=>Z)) Z ?_;rw[←Q];refine aj "os" ?_;refine WC.loop (σ:=Nat×Nat) (λy=>[(10,ptr N 0),(12,.slice (some ⟨H,0,none⟩) L cl),(13,.i ((fU t c L p k).2:Nat)),(37,.i (W.len:Nat)),(38,.i (k:Int)),(14,.i (k:Int)),(15,.i (x:Int)),(16,.i (y.2:Int)),(17,.i ((y.1:Int)-1))]) (λ_=>U.parts N++(ah H 3 (av .i64 c++rl)::F)) (λy=>y.1≤L∧y.2<8192∧Ib c x y.1 y.2=Ib c x L 0) (λy=>y.1) (L,0) ⟨Nat.le_refl _,by show 0<8192;decide,Z⟩ bC cO ?_;rintro⟨j,v⟩ ⟨hj,hv,Y3⟩;dsimp only at hj hv Y3 ⊢;refine aj "r~gc1" (aW (λeu=> ?_) λeu=> ?_)
   ·obtain⟨e,rfl⟩:∃e,j=e+1:=⟨j-1,by omega⟩;have x2:((e+1:Nat):Int)-1=(e:Int):=ay;rw[x2];rw[IW] at Y3;have anv:=fD (b:=x) hv;have x4:=qX.at_ aN e;have JJ:Rd K (U.parts N++(ah H 3 (av .i64 c++rl)::F)) (some ⟨H,0+(e:Int).toNat*1,none⟩) (.i (c.getD e 0:Nat)):=by
     rw[show 0+(e:Int).toNat*1=e by omega];exact Rd.up (Rd.up (Rd.up (Rd.here (mF _ _ _ ay))))
    refine aj "E~i$$" ?_;refine WQ.call (vs:=[_,_]) call288 ⟨ak Z,ak Z,trivial⟩ (zu hv x0) Z (aj "$$" ?_);refine WQ.val (V.FW eB (ak Z) (ak Z) (λY=>by omega)) Z<|WQ.val (V.load isAgg3 (ak Z) (λY=>JJ)) Z<|WQ.val (V.aG (v':= .i ((kK v x ^^^ c.getD e 0:Nat):Int)) (V.xor (ak Z) (ak Z)) (λ_=>by rw[nC ay ay])) Z<|aj "~n~dg)N" ?_;exact⟨(e,kK v x ^^^ c.getD e 0),⟨by show e≤L;omega,je (k:=13) anv x4,Y3⟩,lt_succ_self _,.cons Z bC,λw h=>h⟩
   ·refine aj "W" ?_;obtain rfl:j=0:=by omega
    have UO:v=Ib c x L 0:=Y3;have T:Mv c L k=decide (v=0):=by unfold Mv;rw[←Q,UO]
    have y0:k<W.len:=ay;refine aj "g;c1" (aW (λh4=> ?_) λh4=> ?_)
    ·have l:fU t c L p (k+1)=(xY t (fU t c L p k).1 k,(fU t c L p k).2+1):=by rw[fU,T,if_pos (decide_eq_true (show v=0 by omega))]
     refine aj "eb" ?_;refine WL.c2 call289 Z Z (YF M (i:=k) ay) Z ?_;rintro v1 _ rfl;refine aj "cgZo8" ?_;exact⟨k+1,(by show k+1≤W.len;omega),(by show W.len-(k+1)<W.len-k;omega),.cons Z (.cons Z (.cons (look_eq Z (by rw[l];simp only[Int.natCast_add];rfl)) bC)),λw h=>by dsimp only;rw[l];dsimp only;rw[n,Wd.Qf,a] at h;exact h⟩
    ·have l:fU t c L p (k+1)=fU t c L p k:=by rw[fU,T,decide_eq_false (show ¬v=0 by omega)];rfl
     refine aj "q8" ?_;exact⟨k+1,(by show k+1≤W.len;omega),(by show W.len-(k+1)<W.len-k;omega),.cons Z (.cons Z (.cons (look_eq Z (by rw[l])) bC)),λw h=>by dsimp only;rw[l,←n];exact h⟩
  ·refine aj "WL" ?_;obtain rfl:k=W.len:=by omega
   obtain⟨r,hr⟩:∃r,r=fU t c L p W.len:=⟨_,Z⟩;rw[←hr] at n wF ⊢;have C:U.d=r.1.1:=by rw[n];rfl
   have D:U.m=r.1.2:=by rw[n];rfl
   obtain⟨X,u⟩:∃X,X= !decide ((r.2:Int)=(L:Int)-1):=⟨_,Z⟩;refine aj "gbj)" ?_;refine WL.val (V.aG (v':= .bool X) (V.neq (ak Z) (ak Z)) (λ_=>by rw[u])) Z<|aj "~~Y" ?_;rcases Bool.eq_false_or_eq_true X with hb | hb
   ·subst hb;have pq:¬r.2+1=L:=λh=>by
     have h6:(r.2:Int)=(L:Int)-1:=ay;rw[decide_eq_true h6] at u;cases u
    rw[if_pos pq];refine WL.BK (oj:=_) Z Z Z Z Z (λd hd=>by injection hd with hd;subst hd;rfl)<|WL.BK (oj:=_) Z Z Z Z Z (λd hd=>by injection hd with hd;subst hd;rfl)<|WL.BK (oj:=_) Z Z Z Z Z (λd hd=>by injection hd with hd;subst hd;rfl)<|WL.BK (oj:=_) Z Z Z Z Z (λd hd=>by injection hd with hd;subst hd;rfl)<|WL.BK (oj:=_) Z Z Z Z Z (λd hd=>by injection hd with hd;subst hd;rfl)<|WL.val (V.aas (ak Z) (ak Z)) Z (WL.nil (WC.MI Z Z (aj "Lp~?~?~?~?6" ?_)));exact aF.ret (H':=F) (bJ.aev Z Z Z Z Z) (λw h=>h.bg 4 [] Z) ⟨Z,Z⟩
   subst hb;have pq:r.2+1=L:=by
    have h6:(r.2:Int)=(L:Int)-1:=by
     rcases Decidable.em ((r.2:Int)=(L:Int)-1) with h | h
     ·exact h
     ·rw[decide_eq_false h] at u;cases u
    omega
   rw[if_neg (λh=>h pq)];refine aj "~Ob~O" ?_;refine WL.c1 call285 Z (Jo M) Z ?_;rintro _ _ ⟨x8,rfl,rfl⟩;rw[C,D,O];obtain⟨G,pI⟩:∃G,G=iY t r.1:=⟨_,Z⟩;have anY:aA 8192 G:=by rw[pI];exact ET
   have acj:G.length=2*t:=by rw[pI];exact LQ
   rw[show iY t (r.1.1,r.1.2)=G from pI.symm];refine aj "~O" ?_;refine WL.c1 call290 Z (SC (s:=G) (Seq.Gb acj) anY ay) Z ?_;rintro _ _ ⟨gn,rfl,rfl⟩;refine aj "~O" ?_;refine WL.t1 call282 Z (K6 (xs:=jk G) (Seq.Gb (by simp[jk];exact acj)) (λx Q=>by obtain⟨y,_,rfl⟩:=mem_map.1 Q;unfold nz;split<;>decide) ay) Z<|aj "~O~H" ?_;refine WL.val (V.DY (ak Z) (ak Z)) Z<|aj "h" (aW (λh5=> ?_) λh5=> ?_)
   ·simp only[Bool.false_or,cZ] at h5;rw[if_pos ay];refine aj "allF" ?_;exact aF.ret (H':=F) (bJ.aev Z Z Z Z Z) (λw h=>h.bg 6 [] Z) ⟨Z,Z⟩
   ·simp only[Bool.false_or,cZ] at h5;rw[if_neg ay];refine aj "|~i$~>~t~F$~>~t~F$~n~n~n~n~d~J" ?_;refine aF.ret (H':=ah U.g1 5 (av .u8 r.1.1++U.r1)::ah U.g2 5 (av .u8 r.1.2++U.r2)::F) (bJ.aev Z Z Z Z Z) (λw h=> ?_) ⟨U.g1,U.c1,U.r1,U.g2,U.c2,U.r2, ?_, ?_, ?_,Z⟩
    ·have h':=h.bg 6 [3,4] Z;rw[←C,←D];exact h'
    ·rw[←C,I,n];exact S.1
    ·rw[hr,(ug t c L p W.len).2,←RV,n];exact S.2
    ·rw[C,D]
abbrev NG(bl pg:Int)(S B t:Nat):bQ:=⟨bl,pg,(S:Int),(B:Int),(t:Int)⟩
def kI(S B t:Nat):Nat:=S*(B+aR t)+1
structure zS(S B t:Nat):Prop where
 s:1≤S∧S≤8
 b:4≤B∧B≤512
 t:1≤t∧t≤8
theorem zS.of{t:Nat}(h:(NG bl pg S B t).aU):zS S B t:=by
 unfold bQ.aU at h;dsimp only at h;exact⟨by omega,by omega,by omega⟩
theorem NG.whole:(NG bl pg S B t).whole=((B+aR t:Nat):Int):=by grind [bQ.whole,bQ.more,aR]
theorem NG.raw:(NG bl pg S B t).raw=((kI S B t:Nat):Int):=by grind [bQ.raw,kI,NG.whole]
theorem NG.room:(NG bl pg S B t).room=((S*B:Nat):Int):=by grind [bQ.room,Int.natCast_mul]
def kX(B:Nat)(d:List Nat)(j:Nat):List Nat:=(d.drop (j*B)).take B
def DW(t B:Nat)(d:List Nat):Nat→List Nat
 | 0=>[]
 | j+1=>(DW t B d j++kX B d j)++mU t (kX B d j)
def qE(t S B:Nat)(d:List Nat):List Nat:=DW t B d S++[0]
theorem aA.drop(h:aA b xs):aA b (xs.drop n):=λy a=>h y (mem_of_mem_drop a)
theorem jZ(h:aA 256 d)(j:Nat):aA 256 (kX B d j):=aA.take (aA.drop h)
theorem yx(h:d.length=S*B)(hj:j<S):(kX B d j).length=B:=by
 unfold kX;rw[length_take,length_drop,h];have :(j+1)*B≤S*B:=mul_le_mul_right _ hj;rw[succ_mul] at this;omega
theorem og(ht:1≤t∧t≤8)(h8:aA 256 d)(h:d.length=S*B):∀j,j≤S→(DW t B d j).length=j*(B+aR t)
 | 0,_=>by simp[DW]
 | j+1,hj=>by
  rw[DW,length_append,length_append,og ht h8 h j ay,yx h ay,xG ht (jZ h8 j),succ_mul];omega
theorem G8(ht:1≤t∧t≤8)(h8:aA 256 d):∀j,aA 256 (DW t B d j)
 | 0=>λx hx=>by simp[DW] at hx
 | j+1=>((G8 ht h8 j).append (jZ h8 j)).append (IC ht (jZ h8 j))
theorem Ch(ht:1≤t∧t≤8)(h8:aA 256 d)(h:d.length=S*B):(qE t S B d).length=kI S B t:=by
 unfold qE kI;rw[length_append,og ht h8 h S (Nat.le_refl _)];rfl
theorem PZ(ht:1≤t∧t≤8)(h8:aA 256 d):aA 256 (qE t S B d):=(G8 ht h8 S).append (λx a=>by rw[mem_singleton.1 a];decide)
theorem _root_.Go.Sl.Seq.OH(hs:Seq K H A m 1 vs)(hl:l≤m)(hu:m≤u):Seq K H (if u=l then A else A.map (·.add (l*1))) (m-l) 1 (vs.drop l):=by
 have j:=hs.len;refine⟨by rw[length_drop];omega,λi v b=> ?_⟩;rw[getElem?_drop] at b;have GQ:l+i<vs.length:=(List.getElem?_eq_some_iff.1 b).1;rw[if_neg ay];have :=hs.rd (l+i) v b;intro w r;obtain⟨a,d,e⟩:=this w r;cases A with
 | none=>simp at d
 | some a' =>
  refine⟨_,Z, ?_⟩;simp only[Option.map_some,Option.some.injEq] at d;rw[←d] at e;have n:((a'.add (l*1)).add i)=a'.add (l+i):=by rw[Nat.mul_one];rcases eq_zero_or_pos l with h | h; · { subst h;rw[Nat.zero_add];rfl }; · { rcases eq_zero_or_pos i with k | k; · { subst k;rfl }; · { unfold Addr.add;rw[if_neg ay,if_neg ay,if_neg ay,Nat.add_assoc] } }
  show w.cell? ((a'.add (l*1)).add i)=some v;rw[n];exact e
theorem Ii(g:bQ):aK prog 122 #[g.v] K F (.tuple (if g.may then #[.i g.room,.i 0] else #[.i 0,.i 1])):=by
 refine aB.en func122 ntmps122 ?_;refine aj "a&" λl=> ?_;refine aj "ltay" ?_;refine WL.t1 call161 Z (KZ g _ _) Z<|aj "iuh" (aW (λaL=> ?_) λaL=> ?_)
 ·have e:g.may=false:=by cases h:g.may<;>simp[h] at aL ⊢
  refine aj "eF" ?_;rw[e];exact aF.ret (H':=F) (bJ.eU Z Z Z) (λw h=>h.drop 1) ⟨Z,Z⟩
 ·have e:g.may=true:=by cases h:g.may<;>simp[h] at aL ⊢
  have d:=bQ.rF e;have j:=bQ.Bd (a:=g.se) (b:=g.sb) (A:=8) (B:=512) (by unfold bQ.aU at d;omega) (by unfold bQ.aU at d;omega) (by unfold bQ.aU at d;omega) (by unfold bQ.aU at d;omega);refine aj "7kk" ?_;refine WL.val (V.MK (ak Z) (ak Z) (λk=>by omega)) Z<|aj "F" ?_;refine aF.ret (H':=F) (bJ.eU Z Z Z) (λw h=>h.drop 1) ⟨?_,Z⟩;rw[e];rfl
theorem aay(hg:(NG bl pg S B t).aU)(hd:Seq K F A m 1 (av .u8 d))(h8:aA 256 d)(hm:m=S*B)(Og:m≤cap) :
 aB prog 191 #[(NG bl pg S B t).v,.slice A m cap] K F
  (λv H'=>∃A' cap',v= .tuple #[.slice A' (kI S B t) cap',.i 0]∧H'=aV (.slice A' (kI S B t) cap') 5 1 (kI S B t) (av .u8 (qE t S B d))::F):=by
 have n:d.length=m:=by simpa [av] using hd.len
 have EC:(NG bl pg S B t).may=true:=decide_eq_true hg;have O:=zS.of hg;obtain⟨hs,y,k⟩:=O;have afQ:2≤aR t∧aR t≤13:=by unfold aR;omega
 have asD:m≤4096:=by rw[hm];exact Nat.mul_le_mul hs.2 y.2
 have I:1*4≤m:=by rw[hm];exact Nat.mul_le_mul hs.1 y.1
 refine aB.en func191 ntmps191 ?_;refine aj "a&" λr=> ?_;refine aj "lwy" ?_;refine WL.t1 call122 Z (aK.eq (v':= .tuple #[.i (m:Int),.i 0]) (Ii (NG bl pg S B t)) (by rw[EC,NG.room,hm];rfl)) Z<|aj "Hfu%~p~z~QI27ts" ?_;refine WC.loop (σ:=Nat×Option Addr×Nat×Option Addr×Nat) (λx=>[(1,.slice x.2.1 (m-x.1*B) x.2.2.1),(2,ptr r 0),(8,.slice x.2.2.2.1 (x.1*(B+aR t)) x.2.2.2.2)]) (λx=>aV (.slice x.2.2.2.1 (x.1*(B+aR t)) x.2.2.2.2) 5 1 (x.1*(B+aR t)) (av .u8 (DW t B d x.1))::ah r 23 [.i bl,.i pg,.i (S:Int),.i (B:Int),.i (t:Int)]::F) (λx=>x.1≤S∧m-x.1*B≤x.2.2.1∧Seq K F x.2.1 (m-x.1*B) 1 (av .u8 (d.drop (x.1*B)))) (λx=>S-x.1) (0,A,cap,none,0) ⟨zero_le _,by show m-0*B≤cap;omega,by simpa using hd⟩ bC (λw h=>by simpa [DW,av] using Sat.gI h 5 1) ?_;rintro⟨j,Aj,cj,Ao,co⟩ ⟨hj,hjc,hjs⟩;dsimp only at hj hjc hjs ⊢;have H:j*B≤m:=by rw[hm];exact mul_le_mul_right _ hj
 have l7:=og k h8 (n.trans hm) j hj;refine aj "rj~Hc1" (aW (λaQ=> ?_) λaQ=> ?_)
 ·have a:j<S:=by
   rcases Nat.lt_or_ge j S with h | h
   ·exact h
   ·exfalso;have :j=S:=ay;rw[this,←hm] at aQ;omega
  have b:(j+1)*B≤m:=by rw[hm];exact mul_le_mul_right _ a
  rw[succ_mul] at b;have mR:=yx (n.trans hm) a;have Oi:Seq K F Aj B 1 (av .u8 (kX B d j)):=by
   have e:=Seq.take hjs (show B≤m-j*B by omega);rw[dU] at e;exact e
  refine aj "Ykk" ?_;refine WL.val (V.aG (v':= .slice Aj B B) (V.slice (l:=0) (h:=B) (u:=B) dO (ak Z) OO.none (OO.some (ak Z) (λ_=>Z)) (OO.some (ak Z) (λ_=>Z)) (by simp) (zero_le _) (Nat.le_refl _) ay) (λ_=>by rw[show (B-0:Nat)=B from Z];cases Aj<;>simp[Addr.add])) Z<|aj "wkb" ?_;refine WL.c2 call242 Z Z (Uj k (Oi.up.up) (jZ h8 j) ay) Z ?_;rintro _ _ ⟨T,Q,rfl,rfl⟩;refine aj "HOb?" ?_;refine WL.append (m:=j*(B+aR t)) (q:=B) underlying34 yL (ak Z) (ak Z) (by repeat (first | exact Oi | apply Seq.up)) (jB _ _) (by have :=Nat.mul_le_mul hj (show B+aR t≤525 by omega);omega) Z Z (λR c3 P eu=> ?_);refine WL.mv Z Z<|WL.append (m:=j*(B+aR t)+B) (q:=aR t) (news:=av .u8 (mU t (kX B d j))) underlying34 yL (ak Z) (ak Z) (aV.seq (by rw[au,xG k (jZ h8 j),Nat.mul_one])) (jB _ _) (by have :=Nat.mul_le_mul hj (show B+aR t≤525 by omega);omega) Z Z (λN c4 M mQ=>aj "Ok" ?_);refine WL.val (V.slice (l:=B) (h:=m-j*B) (u:=cj) dO (ak Z) (OO.some (ak Z) (λ_=>Z)) OO.none OO.none (by simp) ay ay (Nat.le_refl _)) Z<|aj "N" ?_;refine⟨(j+1,(if cj=B then Aj else Aj.map (·.add (B*1))),cj-B,N,c4),⟨a,by show m-(j+1)*B≤cj-B;rw[succ_mul];omega, ?_⟩,(by show S-(j+1)<S-j;omega),.cons (look_eq Z (by dsimp only;rw[succ_mul,Nat.sub_sub])) (.cons Z (.cons (look_eq Z (by dsimp only;rw[succ_mul,Nat.add_assoc])) (.nil _))),λw h=> ?_⟩
  ·have e:=Seq.OH hjs (show B≤m-j*B by omega) hjc;rw[kQ,drop_drop,Nat.sub_sub] at e;dsimp only;rw[succ_mul];exact e
  ·dsimp only;rw[succ_mul,←Nat.add_assoc,DW,dx,dx];exact h.bg 3 [0,2] Z
 ·refine aj "Ke" ?_;refine WL.buildSlice (E:=5) (cs:=[_]) (vs:=[(0,_)]) ⟨ak Z,trivial⟩ Z (jc _) Z (λJ=> ?_);obtain rfl:j=S:=by
   rcases Nat.lt_or_ge j S with h | h
   ·exfalso;have b:(j+1)*B≤m:=by rw[hm];exact mul_le_mul_right _ h
    rw[succ_mul] at b;omega
   ·omega
  refine aj "?" ?_;refine WL.append (m:=j*(B+aR t)) (q:=1) (news:=[.int .u8 0]) underlying34 yL (ak Z) (ak Z) (Seq.all Z) (by intro u G;rw[mem_singleton.1 G];rfl) (by have :=Nat.mul_le_mul hj (show B+aR t≤525 by omega);omega) Z Z (λC D Zu wQ=>aj "F" ?_);refine aF.ret (H':=aV (.slice C (kI j B t) D) 5 1 (kI j B t) (av .u8 (qE t j B d))::F) (bJ.eU Z Z Z) (λw h=> ?_) ⟨C,D,Z,Z⟩;have L:=h.bg 3 [0] Z;unfold qE kI;rw[dx];exact L
def F5:Option (LL×Nat)→List Nat
 | none=>[]
 | some (p,_)=>p.1
def XP:Option (LL×Nat)→Nat
 | none=>0
 | some (_,n)=>n
def aiV:Option (LL×Nat)→Nat
 | none=>50
 | some _=>0
theorem _root_.Go.Sl.Seq.pre(hl:vs.length=m):Seq K (ah b T (vs++cs)::H) (some ⟨b,0,none⟩) m 1 vs:=by simp_all [Seq.here,Nat.mul_one,drop_zero,prefix_append]
theorem _root_.Go.Sl.aB.afS(h:aB P f args K F post)(hp:∀v H',post v H'→∃ou,(∀w,Sat K w H'→Sat K w ou)∧post' v ou):aB P f args K F post':=λw j =>
 (h w j).mono λe m ⟨v,H',a,b,d⟩=>by
  obtain⟨ou,k,l⟩:=hp v H' d;exact⟨v,ou,a,k m b,l⟩
theorem Rc{mo:List Nat}(ht:1≤t∧t≤8)(hd:Seq K F A m 1 (av .u8 d))(hm:Seq K F B q 1 (av .u8 mo))(Nf:aA 256 d)(hm8:aA 256 mo)(wF:1≤m∧m≤512)(Oa:q=aR t) :
 aB prog 244 #[.i (t:Int),.slice A m cap,.slice B q cap'] K F
  (λv H'=>∃A' c mA mm mc l,v= .tuple #[.slice A' (F5 (tZ t d mo)).length c,.slice mA mm mc,.i (XP (tZ t d mo):Nat),.i (aiV (tZ t d mo):Nat)] ∧
   iK l A' (F5 (tZ t d mo)).length 1 (av .u8 (F5 (tZ t d mo)))∧H'=bK l::F):=by
 refine aB.afS (Tf ht hd hm Nf hm8 wF Oa) (λv H' h=> ?_);cases ho:tZ t d mo with
 | none =>
  rw[ho] at h;obtain⟨rfl,rfl⟩:=h;exact⟨bK []::H',λw a=>Sat.all a,none,0,none,0,0,[],Z,iK.nil,Z⟩
 | some r =>
  obtain⟨p,n⟩:=r;rw[ho] at h;obtain⟨b,c1,e,x,c2,k,j,u,rfl,rfl⟩:=h;exact⟨bK [ah b 5 (av .u8 p.1++e)]::F,λw a=>Sat.all (Sat.bg 2 [0] Z a),_,_,_,_,_,_,Z,iK.here (λK=>Seq.pre (au _ _)),Z⟩
def VK(n t:Nat)(raw:List Nat)(j:Nat):Bool:=decide (t<8*n-rE (kX n raw j))
def AP(n t:Nat)(raw:List Nat):Nat→Bool
 | 0=>false
 | j+1=>AP n t raw j||VK n t raw j
theorem FK(h:VK n t raw j=true):∀k,j<k→AP n t raw k=true
 | 0,hk=>absurd hk (not_lt_zero _)
 | k+1,hk=>by
  rw[AP];rcases Nat.lt_or_ge j k with h1 | h1
  ·rw[FK h k h1];rfl
  ·have :j=k:=by omega
   subst this;rw[h,Bool.or_true]
def jf(t S n:Nat)(raw:List Nat):Nat :=
 if raw.getD (S*n) 0=0 then 0 else if raw.getD (S*n) 0≠255 then 60 else if AP n t raw S=true then 60 else 61
theorem Yg(hg:(NG bl pg S B t).aU)(hr:Seq K F A m 1 (av .u8 raw))(h8:aA 256 raw)(hm:m=kI S B t)(Og:m≤cap) :
 aK prog 243 #[(NG bl pg S B t).v,.slice A m cap] K F (.i (jf t S (B+aR t) raw:Nat)):=by
 have L:raw.length=m:=by simpa [av] using hr.len
 have I:=zS.of hg;obtain⟨hs,N,M⟩:=I;have afQ:2≤aR t∧aR t≤13:=by unfold aR;omega
 obtain⟨n,e⟩:∃n,n=B+aR t:=⟨_,Z⟩;have D:m=S*n+1:=by rw[hm,e];rfl
 have H:S*n≤8*525:=Nat.mul_le_mul hs.2 ay;rw[←e];obtain⟨z,k⟩:∃z,z=raw.getD (S*n) 0:=⟨_,Z⟩;have dL:jf t S n raw=if z=0 then 0 else if z≠255 then 60 else if AP n t raw S=true then 60 else 61:=by unfold jf;rw[k]
 rw[dL];have G:z<256:=by rw[k];exact h8.at_ aN _
 have L6:∀ {X:aH},Rd K (X::F) (A.map (·.add (((m:Int)-1).toNat*1))) (.int .u8 (z:Nat)):=λ{X}=>by
  rw[show ((m:Int)-1).toNat=S*n by omega,k];exact (hr.jo ay).up
 refine aB.en func243 ntmps243 ?_;refine aj "a&" λC=> ?_;refine aj "fbj)" ?_;refine WL.val (V.dw dO (ak Z) (ak Z) (λx=>by omega) (λx=>L6)) Z<|WL.val (V.load isAgg5 (ak Z) (λx=>L6)) Z<|aj "ose;o1" (aW (λaL=> ?_) λaL=> ?_)
 ·rw[if_pos ay];exact aj "D+" trivial
 ·rw[if_neg ay];refine aj "euo~h" (aW (λaQ=> ?_) λaQ=> ?_)
  ·rw[if_pos ay];exact aj "D+" trivial
  ·rw[if_neg ay];refine aj "7y" ?_;refine WL.t1 call162 Z (aK.eq (v':= .i (n:Int)) (Dz (NG bl pg S B t) hg _ _) (by rw[NG.whole,e])) Z<|aj "taos" ?_;refine WC.loop (σ:=Nat) (λj=>[(1,.slice A m cap),(2,ptr C 0),(6,.i (n:Int)),(7,.i ((j*n:Nat):Int))]) (λ_=>ah C 23 [.i bl,.i pg,.i (S:Int),.i (B:Int),.i (t:Int)]::F) (λj=>j≤S∧AP n t raw j=false) (λj=>S-j) 0 ⟨zero_le _,Z⟩ bC cO ?_;rintro j ⟨J,d⟩;have Wx:j*n≤S*n:=mul_le_mul_right _ J;refine aj "rb~~~GbjPc1" (aW (λbA=> ?_) λbA=> ?_)
   ·have b:j<S:=by
     rcases Nat.lt_or_ge j S with h | h
     ·exact h
     ·exfalso;have :j=S:=ay;rw[this] at bA;omega
    have a:(j+1)*n≤S*n:=mul_le_mul_right _ b;rw[succ_mul] at a;have Oi:Seq K F (A.map (·.add (j*n*1))) n 1 (av .u8 (kX n raw j)):=by
     have r:=Seq.OH hr (l:=j*n) (u:=cap) ay Og;rw[if_neg ay] at r;have y:=Seq.take r (show n≤m-j*n by omega);rw[kQ,dU] at y;exact y
    have ZC:=ML (kX n raw j);have mR:(kX n raw j).length=n:=by unfold kX;rw[length_take,length_drop];omega
    rw[mR] at ZC;refine aj "EL~i$~~V$$$$" ?_;refine WQ.val (V.CX (ak Z) (ak Z) (λ_=>by omega)) Z<|WQ.val (V.aG (v':= .slice (A.map (·.add (j*n*1))) n (cap-j*n)) (V.slice (l:=j*n) (h:=j*n+n) (u:=cap) dO (ak Z) (OO.some (ak Z) (λ_=>Z)) (OO.some (ak Z) (λ_=>by omega)) OO.none (by simp) ay ay (Nat.le_refl _)) (λ_=>by rw[if_neg ay,Nat.add_sub_cancel_left])) Z<|WQ.call (vs:=[_]) call282 ⟨ak Z,trivial⟩ (K6 Oi.up (jZ h8 j) ay) Z<|aj "~~^~t~F~[~d1" (aW (λeu=> ?_) λeu=> ?_)
    ·have zN:VK n t raw j=true:=decide_eq_true ay;refine aj "D" ?_;rw[if_pos (FK zN S b)];exact aj "+" trivial
    ·have zN:VK n t raw j=false:=decide_eq_false ay;refine aj "qgb" ?_;refine WL.val (V.aG (v':= .i (((j+1)*n:Nat):Int)) (V.CX (ak Z) (ak Z) (λ_=>by omega)) (λ_=>by rw[succ_mul];simp)) Z<|aj "N" ?_;exact⟨j+1,⟨b,by rw[AP,d,zN];rfl⟩,(by show S-(j+1)<S-j;omega),.cons Z bC,λw h=>h⟩
   ·refine aj "KD" ?_;obtain rfl:j=S:=by
     rcases Nat.lt_or_ge j S with h | h
     ·exfalso;have a:(j+1)*n≤S*n:=mul_le_mul_right _ h;rw[succ_mul] at a;omega
     ·omega
    rw[d];exact aj "+" trivial
def F4(B n:Nat)(raw:List Nat)(j:Nat):List Nat:=(raw.drop (j*n)).take B
def Xf(B n:Nat)(raw:List Nat)(j:Nat):List Nat:=((raw.drop (j*n)).drop B).take (n-B)
def FY(t B n:Nat)(raw:List Nat)(j:Nat):Option (LL×Nat):=tZ t (F4 B n raw j) (Xf B n raw j)
structure Ea where
 A:Option Addr
 c:Nat
 o:Option (LL×Nat)
abbrev Ea.cells(r:Ea):List Value:=[.slice r.A (F5 r.o).length r.c,.i (XP r.o:Nat),.i (aiV r.o:Nat)]
def jD(rs:List Ea):List Value:=rs.flatMap Ea.cells
def aaQ(l:List aH)(rs:List Ea):Prop:=∀r∈rs,iK l r.A (F5 r.o).length 1 (av .u8 (F5 r.o))
theorem FZ(rs ss:List Ea):jD (rs++ss)=jD rs++jD ss:=flatMap_append
theorem CZ:∀(rs:List Ea) (k:Nat) (r:Ea),rs[k]? =some r→∀i v,r.cells[i]? =some v→(jD rs)[k*3+i]? =some v
 | [],k,r,h=>by simp at h
 | r'::rs,0,r,h=>λi v hi=>by
  simp only[getElem?_cons_zero,Option.some.injEq] at h;subst h;unfold jD;rw[flatMap_cons,Nat.zero_mul,Nat.zero_add,getElem?_append_left (List.getElem?_eq_some_iff.1 hi).1];exact hi
 | r'::rs,k+1,r,h=>λi v hi=>by
  have ih:=CZ rs k r (by simpa using h) i v hi;unfold jD at ih ⊢;rw[flatMap_cons,getElem?_append_right (by simp[Ea.cells];omega)];rw[←ih];congr 1;simp[Ea.cells];omega
theorem Ik(hg:(NG bl pg S B t).aU)(hr:Seq K F A m 1 (av .u8 raw))(h8:aA 256 raw)(hm:m=kI S B t)(Og:m≤cap) :
 aB prog 193 #[(NG bl pg S B t).v,.slice A m cap] K F
  (λv H'=>(jf t S (B+aR t) raw≠0∧v= .tuple #[.slice none 0 0,.i (jf t S (B+aR t) raw:Nat)]∧H'=F) ∨
   (jf t S (B+aR t) raw=0∧∃A' cap' l rs,v= .tuple #[.slice A' S cap',.i 0]∧rs.map Ea.o=(List.range S).map (FY t B (B+aR t) raw)∧aaQ l rs ∧
    H'=aV (.slice A' S cap') 296 3 S (jD rs)::bK l::F)):=by
 have R:raw.length=m:=by simpa [av] using hr.len
 have EC:(NG bl pg S B t).may=true:=decide_eq_true hg;have O:=zS.of hg;obtain⟨hs,X,P⟩:=O;have afQ:2≤aR t∧aR t≤13:=by unfold aR;omega
 have dL:=λ(K:World) (F:List aH) (hr:Seq K F A m 1 (av .u8 raw))=>Yg hg hr h8 hm Og;obtain⟨n,D⟩:∃n,n=B+aR t:=⟨_,Z⟩;have N:m=S*n+1:=by rw[hm,D];rfl
 have I:S*n≤8*525:=Nat.mul_le_mul hs.2 ay;rw[←D] at dL ⊢;obtain⟨e,ada⟩:∃e,e=jf t S n raw:=⟨_,Z⟩;rw[←ada] at dL ⊢;have XR:e<100:=by rw[ada];unfold jf;repeat (first | split | decide)
 refine aB.en func193 ntmps193 ?_;refine aj "a&" λy=> ?_;refine aj "lwy" ?_;refine WL.t1 call96 Z (aK.eq (v':= .tuple #[.i (m:Int),.i 0]) (Nh (NG bl pg S B t) _ _) (by rw[EC,NG.raw,hm];rfl)) Z<|aj "Hfu%~p~z~QI2|ayb" ?_;refine WL.t2 call243 Z Z (dL _ _ hr.up) Z<|aj "iuc~h" (aW (λa=> ?_) λa=> ?_)
 ·refine aj "eF" ?_;exact aF.ret (H':=F) (bJ.eU Z Z Z) (λw h=>h.drop 1) (.inl ⟨by omega,Z,Z⟩)
 ·refine aj "7takR" ?_;refine WC.loop (σ:=Nat×Option Addr×Nat×Option Addr×Nat×List aH×List Ea) (λx=>[(1,.slice x.2.1 (m-x.1*n) x.2.2.1),(2,ptr y 0),(9,.slice x.2.2.2.1 x.1 x.2.2.2.2.1),(32,.i (S:Int)),(33,.i (x.1:Int))]) (λx=>aV (.slice x.2.2.2.1 x.1 x.2.2.2.2.1) 296 3 x.1 (jD x.2.2.2.2.2.2)::bK x.2.2.2.2.2.1::ah y 23 [.i bl,.i pg,.i (S:Int),.i (B:Int),.i (t:Int)]::F) (λx=>x.1≤S∧m-x.1*n≤x.2.2.1∧Seq K F x.2.1 (m-x.1*n) 1 (av .u8 (raw.drop (x.1*n)))∧x.2.2.2.2.2.2.map Ea.o=(List.range x.1).map (FY t B n raw)∧aaQ x.2.2.2.2.2.1 x.2.2.2.2.2.2) (λx=>S-x.1) (0,A,cap,none,0,[],[]) ⟨zero_le _,by show m-0*n≤cap;omega,by simpa using hr,Z,λr hr=>by simp at hr⟩ bC (λw h=>Sat.gI (Sat.all h) 296 3) ?_;rintro⟨j,Aj,cj,Ao,co,la,rs⟩ ⟨hj,hjc,hjs,tu,BG⟩;dsimp only at hj hjc hjs tu BG ⊢;have Wx:j*n≤S*n:=mul_le_mul_right _ hj;have pG:rs.length=j:=by have :=congrArg List.length tu;simpa using this
  refine aj "V1" (aW (λbA=> ?_) λbA=> ?_)
  ·refine aj "EL" ?_;have b:j<S:=ay;have C:(j+1)*n≤S*n:=mul_le_mul_right _ b;rw[succ_mul] at C;have UN:Seq K F Aj B 1 (av .u8 (F4 B n raw j)):=by
    have a:=Seq.take hjs (show B≤m-j*n by omega);rw[dU] at a;exact a
   have nS:Seq K F (Aj.map (·.add (B*1))) (n-B) 1 (av .u8 (Xf B n raw j)):=by
    have a:=Seq.OH hjs (l:=B) (u:=cj) ay hjc;rw[if_neg ay] at a;have G:=Seq.take a (show n-B≤m-j*n-B by omega);rw[kQ,dU] at G;exact G
   refine aj "py" ?_;refine WL.t1 call162 Z (aK.eq (v':= .i (n:Int)) (Dz (NG bl pg S B t) hg _ _) (by rw[NG.whole,D])) Z<|aj "wv" λQ=> ?_;refine aj "G" ?_;refine WC.dM (aV (.slice Ao j co) 296 3 j (jD rs)::bK la::ah y 23 [.i bl,.i pg,.i (S:Int),.i (B:Int),.i (t:Int)]::F) (by kernel_rfl)<|aj "40]1n243]445]6" ?_;refine WA.t 7 Z (V.aG (v':= .slice Aj B B) (V.slice (l:=0) (h:=B) (u:=B) dO (ak Z) OO.none (OO.some (ak Z) (λ_=>Z)) (OO.some (ak Z) (λ_=>Z)) (by simp) (zero_le _) (Nat.le_refl _) ay) (λ_=>by rw[show (B-0:Nat)=B from Z];cases Aj<;>simp[Addr.add])) ?_;refine aj "n849]:n;n<" ?_;refine WA.t 13 Z (V.aG (v':= .slice (Aj.map (·.add (B*1))) (n-B) (n-B)) (V.slice (l:=B) (h:=n) (u:=n) dO (ak Z) (OO.some (ak Z) (λ_=>Z)) (OO.some (ak Z) (λ_=>Z)) (OO.some (ak Z) (λ_=>Z)) (by simp) ay (Nat.le_refl _) ay) (λ_=>by rw[if_neg ay])) ?_;refine WA.o 14 Z ?_;refine WL.c3 call244 Z Z Z (Rc P (by repeat (first | exact UN | apply Seq.up)) (by repeat (first | exact nS | apply Seq.up)) (aA.take (aA.drop h8)) (aA.take (aA.drop (aA.drop h8))) ay ay) Z ?_;rintro _ _ ⟨J,c1,W,T,U,H,rfl,acC,rfl⟩;refine aj "cn?~q@~qA~qB~qC4DmE~~~rc4FmG~~~rc4HmI~~~r*e~~D" ?_;refine WL.buildSlice (E:=296) (cs:=[_,_,_]) (vs:=[(0,_)]) ⟨ak Z,trivial⟩ Z (SL _ _ _) Z (λM=>WL.sub (Sub.refl _) (λw h=>h.bg 6 [3,0,1,4,5] Z)<|WL.append (m:=j) (q:=1) underlying265 ajG (ak Z) (ak Z) (Seq.all Z) (by simp[Value.oneCell']) ay Z Z (λd k alL asV=>aj "Ob" ?_));refine WL.val (V.slice (l:=n) (h:=m-j*n) (u:=cj) dO (ak Z) (OO.some (ak Z) (λ_=>Z)) OO.none OO.none (by simp) ay ay (Nat.le_refl _)) Z<|aj "o8" ?_;refine⟨(j+1,(if cj=n then Aj else Aj.map (·.add (n*1))),cj-n,d,k,bK H::la,rs++[⟨J,c1,FY t B n raw j⟩]),⟨b,by show m-(j+1)*n≤cj-n;rw[succ_mul];omega, ?_, ?_, ?_⟩,(by show S-(j+1)<S-j;omega),.cons (look_eq Z (by dsimp only;rw[succ_mul,Nat.sub_sub])) bC,λw h=> ?_⟩
   ·have a:=Seq.OH hjs (show n≤m-j*n by omega) hjc;rw[kQ,drop_drop,Nat.sub_sub] at a;dsimp only;rw[succ_mul];exact a
   ·dsimp only;rw[map_append,tu,range_succ,map_append];rfl
   ·intro r EB;rcases mem_append.1 EB with h | h
    ·exact (BG r h).up
    ·rw[mem_singleton] at h;subst h;exact iK.here (λK=>iK.seq acC)
   ·have L:=(Sat.Bc (h.bg 5 [2,3,0,4] Z)).p1;dsimp only;rw[FZ];exact L
  ·refine aj "KeF" ?_;obtain rfl:j=S:=by omega
   exact aF.ret (H':=aV (.slice Ao j co) 296 3 j (jD rs)::bK la::F) (bJ.eU Z Z Z) (λw h=>h.bg 3 [0,1] Z) (.inr ⟨by omega,Ao,co,la,rs,Z,tu,BG,Z⟩)
structure RR where
 err:Nat
 d:List Nat
 n:Nat
def lV:List (Option (LL×Nat))→List Nat→Nat→RR
 | [],d,n=>⟨0,d,n⟩
 | none::_,_,_=>⟨50,[],0⟩
 | some (p,k)::rest,d,n=>lV rest (d++p.1) (max n k)
def gK(t S B:Nat)(raw:List Nat):RR :=
 if jf t S (B+aR t) raw≠0 then ⟨jf t S (B+aR t) raw,[],0⟩ else lV ((List.range S).map (FY t B (B+aR t) raw)) [] 0
theorem Vu(t:Nat)(d m:List Nat)(h:d.length≤512)(ht:t≤8):(F5 (tZ t d m)).length≤d.length∧XP (tZ t d m)≤5000:=by
 cases a:tZ t d m with
 | none=>exact⟨zero_le _,zero_le _⟩
 | some r =>
  unfold tZ at a;split at a
  ·cases a
  ·split at a
   ·cases a
   ·split at a
    ·cases a
    ·injection a with a
     subst a;refine⟨Nat.le_of_eq (ug _ _ _ _ _).1, ?_⟩;have :=Hy t (vE (iY t (d,jI t m))) (xE (iY t (d,jI t m))) (d,jI t m) (13*t+8*d.length);show (fU _ _ _ _ _).2≤5000;omega
theorem abk(hm:0<m):∀w,Sat K w (aV (.slice A m cap) E s m cs::F)→∃x:Nat×List Value,(A=some ⟨x.1,0,none⟩)∧Sat K w (ah x.1 E (cs++x.2)::F):=λw b=>by
 cases A with
 | none=>have :=(aV.yM b).1;omega
 | some a =>
  obtain⟨g,rfl⟩:=aV.addr b;obtain⟨r,_,d⟩:=Sat.nU b;exact⟨(g,r),Z,d⟩
theorem abC(hg:(NG bl pg S B t).aU)(hr:Seq K F A m 1 (av .u8 raw))(h8:aA 256 raw)(hm:m=kI S B t)(Og:m≤cap) :
 aB prog 156 #[(NG bl pg S B t).v,.slice A m cap] K F
  (λv H'=>∃A' cap',v= .tuple #[.slice A' (gK t S B raw).d.length cap',.i ((gK t S B raw).n:Nat),.i ((gK t S B raw).err:Nat)] ∧
   H'=aV (.slice A' (gK t S B raw).d.length cap') 5 1 (gK t S B raw).d.length (av .u8 (gK t S B raw).d)::F):=by
 have hl:raw.length=m:=by simpa [av] using hr.len
 have hN:=zS.of hg;obtain⟨hs,hb,ht⟩:=hN;obtain⟨R,b⟩:∃R,R=gK t S B raw:=⟨_,Z⟩;rw[←b];unfold gK at b;refine aB.en func156 ntmps156 ?_;refine aj "a&" λb2=> ?_;refine aj "llwyb" ?_;refine WL.c2 call193 Z Z (Ik hg hr.up h8 hm Og) Z ?_;rintro _ _ (⟨dL,rfl,rfl⟩ | ⟨dL,A1,c1,la,y,rfl,tu,BG,rfl⟩)
 ·rw[if_pos dL] at b;obtain⟨Q,ada⟩:∃Q,Q=jf t S (B+aR t) raw:=⟨_,Z⟩;rw[←ada] at dL b ⊢;refine aj "~~Y" ?_;refine WL.val (V.extract (ak Z) Z) Z (WL.val (V.extract (ak Z) Z) Z (aj "~?~?GLp~~Yuc" ?_));refine WC.MI Z (by simp;omega)<|aj "Lp~~Y~?~?~?6" ?_;exact aF.ret (H':=aV (.slice none 0 0) 5 1 0 []::F) (bJ.Bl Z Z Z Z) (λw h=>Sat.gI (h.drop 1) _ _) ⟨none,0,by rw[b];rfl,by rw[b];rfl⟩
 rw[if_neg (λh=>h dL)] at b;refine WL.ex (abk ay) (λ⟨D,W⟩ T=> ?_);dsimp only at T ⊢;subst T;refine aj "Hfu27wtL" ?_;obtain⟨e,Zy⟩:∃e,e=(List.range S).map (FY t B (B+aR t) raw):=⟨_,Z⟩;rw[←Zy] at tu b;have Gh:e.length=S:=by rw[Zy];simp
 have pG:y.length=S:=by rw[←Gh,←tu,length_map]
 have J:∀o∈e,(F5 o).length≤512∧XP o≤5000:=λo u=>by
  rw[Zy] at u;obtain⟨j,hj,rfl⟩:=mem_map.1 u;have :=Vu t (F4 B (B+aR t) raw j) (Xf B (B+aR t) raw j) (by unfold F4;rw[length_take];omega) ht.2;have l:(F4 B (B+aR t) raw j).length≤512:=by unfold F4;rw[length_take];omega
  exact⟨Nat.le_trans this.1 l,this.2⟩
 refine aj "gjR" ?_;refine WC.loop (σ:=Nat×Option Addr×Nat×List Nat×Nat) (λx=>[(22,.slice (some ⟨D,0,none⟩) S c1),(23,.i (S:Int)),(24,.i (x.1:Int)),(9,.slice x.2.1 x.2.2.2.1.length x.2.2.1),(10,.i (x.2.2.2.2:Int))]) (λx=>aV (.slice x.2.1 x.2.2.2.1.length x.2.2.1) 5 1 x.2.2.2.1.length (av .u8 x.2.2.2.1)::ah D 296 (jD y++W)::bK la::ah b2 23 [.i bl,.i pg,.i (S:Int),.i (B:Int),.i (t:Int)]::F) (λx=>x.1≤S∧x.2.2.2.1.length≤x.1*512∧x.2.2.2.2≤5000∧lV (e.drop x.1) x.2.2.2.1 x.2.2.2.2=lV e [] 0) (λx=>S-x.1) (0,none,0,[],0) ⟨zero_le _,zero_le _,zero_le _,Z⟩ bC (λw h=>Sat.gI h 5 1) ?_;rintro⟨k,Ao,co,d,mx⟩ ⟨hk,wF,hmx,zN⟩;dsimp only at hk wF hmx zN ⊢;refine aj "V1" (aW (λaQ=> ?_) λaQ=> ?_)
 ·refine aj "EL" ?_;have O:k<S:=ay;obtain⟨r,Dq⟩:∃r,y[k]? =some r:=⟨_,getElem?_eq_getElem ay⟩;have n:e[k]? =some r.o:=by rw[←tu,getElem?_map,Dq];rfl
  have JI:e.drop k=r.o::e.drop (k+1):=by
   rw[drop_eq_getElem_cons ay];congr 1;rw[getElem?_eq_getElem ay] at n;exact Option.some.inj n
  have anO:=BG r (mem_of_getElem? Dq);have RN:=J r.o (mem_of_getElem? n);rw[JI] at zN;have anz:∀ {X:aH} {H:List aH},fH K (X::ah D 296 (jD y++W)::H) D (0+(k:Int).toNat*3) r.cells:=λ{X H} i v hi=>by
   refine Rd.up (Rd.here ?_);have P:=CZ y k r Dq i v hi;rw[show 0+(k:Int).toNat*3=k*3 by omega,getElem?_append_left (List.getElem?_eq_some_iff.1 P).1];exact P
  refine aj "p~u" ?_;refine WL.val (V.fE (vs:=r.cells) ⟨isAgg296,sizeOf296⟩ (ak Z) Z (λ_=>anz)) Z<|aj "v" λY=> ?_;refine aj "~|Gakuc~h" (aW (λl=> ?_) λl=> ?_)
  ·refine aj "L~i~t~F~n~n~n~d~J" ?_;have uN:r.o=none:=by
    cases u:r.o with
    | none=>rfl
    | some q=>rw[u] at l;exact absurd Z l
   have a:R=⟨50,[],0⟩:=by rw[b,←zN,uN];rfl
   exact aF.ret (H':=aV (.slice none 0 0) 5 1 0 []::F) (bJ.Bl Z Z Z (look_eq Z (by rw[uN]))) (λw h=>Sat.gI (h.drop 5) _ _) ⟨none,0,by rw[a];rfl,by rw[a];rfl⟩
  ·refine aj "Tk" ?_;obtain⟨q,L⟩:∃q,r.o=some q:=by
    cases u:r.o with
    | none=>rw[u] at l;exact absurd l aN
    | some q=>exact⟨q,Z⟩
   refine aj "?" ?_;refine WL.append (m:=d.length) (q:=(F5 r.o).length) (news:=av .u8 (F5 r.o)) underlying34 yL (ak Z) (ak Z) (by repeat (first | exact iK.seq anO | apply Seq.up)) (jB _ _) ay Z Z (λN I am1 ane=>aj "Ok~~xo8" ?_);obtain⟨⟨p1,p2⟩,M⟩:=q;rw[L] at RN zN;have C:F5 r.o=p1:=by rw[L];rfl
   have G:XP r.o=M:=by rw[L];rfl
   refine⟨(k+1,N,I,d++p1,max mx M),⟨O,by show (d++p1).length≤(k+1)*512;have :=RN.1;rw[length_append];simp only[F5] at this;omega,by show max mx M≤5000;have :=RN.2;simp only[XP] at this;omega,by dsimp only;rw[←zN];rfl⟩,(by show S-(k+1)<S-k;omega),.cons Z (.cons Z (.cons (look_eq Z (by simp)) (.cons (look_eq Z (by dsimp only;rw[length_append,C])) (.cons (look_eq Z (by dsimp only;rw[G];congr 1;omega)) (.nil _))))),λw h=> ?_⟩;have U:=h.bg 5 [0,2,3,4] Z;rw[C,←dx,←length_append] at U;exact U
 ·refine aj "KeblF" ?_;obtain rfl:k=S:=by omega
  have a:R=⟨0,d,mx⟩:=by rw[b,←zN,drop_of_length_le ay];rfl
  exact aF.ret (H':=aV (.slice Ao d.length co) 5 1 d.length (av .u8 d)::F) (bJ.Bl Z Z Z Z) (λw h=>h.bg 4 [0] Z) ⟨Ao,co,by rw[a];rfl,by rw[a]⟩
def iB(xs:List Int):List Nat:=xs.map Int.toNat
theorem mJ(h:bF xs):ints .u8 xs=av .u8 (iB xs):=by
 unfold ints av iB;rw[map_map];apply map_congr_left;intro x a;have :=h x a;show Value.int .u8 x=Value.int .u8 ((x.toNat:Nat):Int);congr 1;omega
theorem iP(h:bF xs):aA 256 (iB xs):=λy a=>by
 obtain⟨x,b,rfl⟩:=mem_map.1 a;have :=h x b;omega
theorem gZ(xs:List Int):(iB xs).length=xs.length:=by simp[iB]
def bH(xs:List Nat):List Int:=xs.map λx:Nat=>(x:Int)
theorem kR(h:aA 256 xs):bF (bH xs):=λy a=>by
 obtain⟨x,b,rfl⟩:=mem_map.1 a;have :=h x b;omega
theorem sG(xs:List Nat):iB (bH xs)=xs:=by
 unfold iB bH;rw[map_map]
 conv=>rhs;rw[←map_id xs]
 apply map_congr_left;intro x _;rfl
theorem jX(k:IntKind)(xs:List Nat):av k xs=ints k (bH xs):=Ew k xs
namespace aD
def ahead(S:aD)(b p:Int)(ok:Bool):Int:=if S.up=false then 70 else if b<0∨S.g.bl≤b∨p<0∨S.g.pg≤p∨ok=false then 1 else if S.bad b then 73 else 0
def done(b:Int)(x:aD×Int):aD×Int:=if x.2≠72 then x else if (x.1.mark b).2≠0 then x.1.mark b else ((x.1.mark b).1,72)
def bB(S:aD)(b:Int):aD×Int:=if S.ahead b 0 true≠0 then (S,S.ahead b 0 true) else done b (S.erase b)
end aD
abbrev dA(bd bc:Nat)(g:bQ):aH:=ah bd 169 [ptr bc 0,.i g.bl,.i g.pg,.i g.se,.i g.sb,.i g.fl]
theorem YS{C:Cw}(hC:C.Ok):aB prog 30 #[ptr bc 0] K (C.A bc::F) (λv H'=>∃bd,v= .tuple #[ptr bd 0,.i 0]∧H'=C.A bc::dA bd bc C.g::F):=by
 refine aB.en func30 ntmps30 ?_;refine aj "alf~b2Tb" ?_;refine WL.t1 call98 Z (Kk) Z<|WL.val (V.build (vs:=[(0,_),(1,_)]) ⟨ak Z,ak Z,trivial⟩ Z (Sj _ _ _ _ _ _)) Z<|WL.box (cs:=[_,_,_,_,_,_]) (ak Z) Z Z (λa=>aj "F" ?_);exact aF.ret (H':=C.A bc::dA a bc C.g::F) (bJ.eU Z Z Z) (λw h=>h.p1) ⟨a,Z,Z⟩
theorem kg{C:Cw}:aK prog 100 #[ptr bd 0] K (C.A bc::dA bd bc g::F) g.v:=by
 refine aB.en func100 ntmps100 ?_;refine aj "av" λa=> ?_;refine aj "cr~b2TUyC6" ?_;exact aF.ret (H':=C.A bc::dA bd bc g::F) (bJ.one Z (R1.jQ (vs:=[_,_,_,_,_]) Z ⟨isAgg23,sizeOf23⟩ Z tN)) (λw h=>h.drop 1) ⟨Z,Z⟩
theorem rT{C:Cw}(b p:Int)(ok:Bool):aK prog 154 #[ptr bd 0,.i b,.i p,.bool ok] K (C.A bc::dA bd bc C.g::F) (.i (C.aC.ahead b p ok)):=by
 refine aB.en func154 ntmps154 ?_;refine aj "atse~bo~Ie[k" ?_;refine WL.t1 call185 Z (V6) Z<|aj "9oJ" (aW (λnD=> ?_) λnD=> ?_)
 ·simp only[Bool.not_eq_true',Bool.not_eq_false'] at nD;refine aj "D" ?_;exact qR (C.A bc::dA bd bc C.g::F) Z Z cO ⟨by unfold aD.ahead;rw[if_pos (show C.aC.up=false from nD)],Z⟩
 ·simp only[Bool.not_eq_true',Bool.not_eq_false'] at nD;refine aj "eP%~z~~w~!~!@~~XI%~,I%~z~~w~!~!@~~XI%~(IoJ" (aW (λa=> ?_) λa=> ?_)
  ·simp only[Bool.or_eq_true,Bool.or_eq_false_iff,oK] at a;refine aj "D" ?_;exact qR (C.A bc::dA bd bc C.g::F) Z Z cO ⟨by unfold aD.ahead;rw[if_neg (show ¬C.aC.up=false by rw[show C.aC.up=C.up from Z,nD];decide),if_pos (by show b<0∨C.g.bl≤b∨p<0∨C.g.pg≤p∨ok=false;simp only[or_assoc] at a;exact a)],Z⟩
  ·simp only[Bool.or_eq_true,Bool.or_eq_false_iff,oK] at a;refine aj "e[kb" ?_;refine WL.t2 call186 Z Z (Qh b) Z<|aj "oJ" (aW (λd=> ?_) λd=> ?_)
   ·refine aj "D" ?_;exact qR (C.A bc::dA bd bc C.g::F) Z Z cO ⟨by unfold aD.ahead;rw[if_neg (show ¬C.aC.up=false by rw[show C.aC.up=C.up from Z,nD];decide),if_neg (by show ¬(b<0∨C.g.bl≤b∨p<0∨C.g.pg≤p∨ok=false);obtain⟨⟨⟨⟨j,l⟩,k⟩,h⟩,e⟩:=a;rw[e];simp;omega),if_pos d],Z⟩
   ·refine aj "qD" ?_;exact qR (C.A bc::dA bd bc C.g::F) Z Z cO ⟨by unfold aD.ahead;rw[if_neg (show ¬C.aC.up=false by rw[show C.aC.up=C.up from Z,nD];decide),if_neg (by show ¬(b<0∨C.g.bl≤b∨p<0∨C.g.pg≤p∨ok=false);obtain⟨⟨⟨⟨j,l⟩,k⟩,h⟩,e⟩:=a;rw[e];simp;omega),if_neg (by rw[d];decide)],Z⟩
theorem Qv{C:Cw}(hC:C.Ok)(b e:Int):aB prog 171 #[.i b,.i e,.func (.func 173) #[ptr bc 0] #[]] K (C.A bc::F)
 (λv H'=>∃C':Cw,C'.Ok∧H'=C'.A bc::F∧C'.aC=(aD.done b (C.aC,e)).1∧v= .i (aD.done b (C.aC,e)).2):=by
 refine aB.en func171 ntmps171 ?_;refine aj "afuc~h" (aW (λd=> ?_) λd=> ?_)
 ·have hd:aD.done b (C.aC,e)=(C.aC,e):=by unfold aD.done;rw[if_pos d]
  refine aj "ed" ?_;exact qR (C.A bc::F) Z Z cO ⟨C,hC,Z,by rw[hd],by rw[hd]⟩
 ·have hd:aD.done b (C.aC,e)=if (C.aC.mark b).2≠0 then C.aC.mark b else ((C.aC.mark b).1,72):=by unfold aD.done;rw[if_neg (by simpa using d)]
  refine aj "qrb" ?_;refine WL.ny (first:=[ptr bc 0]) (vs:=[_]) (captured:=[]) call173 (ak Z) ⟨ak Z,trivial⟩ (XZ hC b) Z ?_;rintro _ _ ⟨a,RP,rfl,h,rfl⟩;refine aj "iuc~h" (aW (λaQ=> ?_) λaQ=> ?_)
  ·rw[if_pos aQ] at hd;refine aj "ed" ?_;exact qR (a.A bc::F) Z Z cO ⟨a,RP,Z,by rw[hd,h],by rw[hd]⟩
  ·rw[if_neg (by simpa using aQ)] at hd;refine aj "Td" ?_;exact qR (a.A bc::F) Z Z cO ⟨a,RP,Z,by rw[hd,h],by rw[hd,d]⟩
theorem Pq{C:Cw}(hC:C.Ok)(b:Int):aB prog 104 #[ptr bd 0,.i b] K (C.A bc::dA bd bc C.g::F)
 (λv H'=>∃C':Cw,C'.Ok∧H'=C'.A bc::dA bd bc C.g::F∧C'.aC=(C.aC.bB b).1∧v= .i (C.aC.bB b).2):=by
 refine aB.en func104 ntmps104 ?_;refine aj "afb" ?_;refine WL.t4 call154 Z Z Z Z (rT b 0 true) Z<|aj "iuc~h" (aW (λaL=> ?_) λaL=> ?_)
 ·have hd:C.aC.bB b=(C.aC,C.aC.ahead b 0 true):=by unfold aD.bB;rw[if_pos aL]
  refine aj "ed" ?_;exact qR (C.A bc::dA bd bc C.g::F) Z Z cO ⟨C,hC,Z,by rw[hd],by rw[hd]⟩
 ·have hd:C.aC.bB b=aD.done b (C.aC.erase b):=by unfold aD.bB;rw[if_neg (by simpa using aL)]
  refine aj "|" ?_;refine WC.dM (dA bd bc C.g::F) (by kernel_rfl)<|aj "n0n1~c243]4n5n7~c849]:" ?_;refine WA.t 11 Z (V.makeFunc (us:=[_]) (vs:=[]) ⟨ak Z,trivial⟩ trivial) ?_;refine WA.o 6 Z ?_;refine WL.c2 call172 Z Z (SE hC b) Z ?_;rintro _ _ ⟨h,RP,rfl,d,rfl⟩;refine aj "cm<" ?_;refine WL.c3 call171 Z Z Z (Qv RP b _) Z ?_;rintro _ _ ⟨a,Bz,rfl,e,rfl⟩;refine aj "c~A=~r~J" ?_;exact qR (a.A bc::dA bd bc C.g::F) Z Z cO ⟨a,Bz,Z,by rw[hd,e,d],by rw[hd,d]⟩
namespace aD
def room(S:aD):Nat:=S.g.se.toNat*S.g.sb.toNat
def fF(g:bQ)(d:List Nat):List Nat:=qE g.fl.toNat g.se.toNat g.sb.toNat d
def dK(S:aD)(b p:Int)(d:List Nat):aD×Int :=
 if S.ahead b p (decide (d.length=S.room))≠0 then (S,S.ahead b p (decide (d.length=S.room))) else done b (S.program b p (bH (fF S.g d)))
structure Got where
 err:Int
 d:List Nat
 n:Nat
def kI(S:aD)(b p:Int):List Nat:=iB (S.reads b p)
def bY(S:aD)(b p:Int):Got :=
 if S.ahead b p true≠0 then ⟨S.ahead b p true,[],0⟩
 else ⟨(gK S.g.fl.toNat S.g.se.toNat S.g.sb.toNat (S.kI b p)).err,(gK S.g.fl.toNat S.g.se.toNat S.g.sb.toNat (S.kI b p)).d,(gK S.g.fl.toNat S.g.se.toNat S.g.sb.toNat (S.kI b p)).n⟩
def oW(S:aD)(b p:Int):Nat:=jf S.g.fl.toNat S.g.se.toNat (S.g.sb.toNat+aR S.g.fl.toNat) (S.kI b p)
def kJ(S:aD)(b:Int):Nat→Bool
 | 0=>true
 | k+1=>kJ S b k&&decide (S.oW b (k:Nat)=0)
def mX(S:aD)(b n:Int):Bool×Int :=
 if S.ahead b 0 (decide (0≤n)&&decide (n≤S.g.pg))=73 then (false,0)
 else if S.ahead b 0 (decide (0≤n)&&decide (n≤S.g.pg))≠0 then (false,S.ahead b 0 (decide (0≤n)&&decide (n≤S.g.pg)))
 else (S.kJ b n.toNat,0)
def fM(S:aD):Nat→List Int
 | 0=>[]
 | k+1=>if (S.up&& !S.bad (k:Int))=true then fM S k++[(k:Int)] else fM S k
def dW(S:aD):List Int:=S.fM S.g.bl.toNat
theorem jK(S:aD):∀k,(S.fM k).length≤k
 | 0=>Nat.le_refl _
 | k+1=>by
  have :=jK S k;rw[fM];split
  ·rw[length_append];simp;omega
  ·omega
theorem Bt{S:aD}(h:S.ahead b p ok=0):S.up=true∧(0≤b∧b<S.g.bl∧0≤p∧p<S.g.pg)∧ok=true∧S.bad b=false:=by
 unfold ahead at h;split at h
 ·cases h
 ·rename_i a;split at h
  ·cases h
  ·rename_i e;split at h
   ·cases h
   ·rename_i d;cases jh:ok with
    | false=>exact absurd (.inr (.inr (.inr (.inr jh)))) e
    | true=>exact⟨by simpa using a,by omega,Z,by simpa using d⟩
theorem YI{S:aD}(h:S.ahead b p ok=0):S.gU b p=0:=by
 obtain⟨a,d,_,_⟩:=Bt h;unfold gU oG block;rw[if_neg (by rw[a];decide),if_neg (by simp;omega)]
end aD
theorem lS(h:g.aU):g=NG g.bl g.pg g.se.toNat g.sb.toNat g.fl.toNat:=by
 unfold bQ.aU at h;obtain⟨a,b,c,d,e⟩:=g;dsimp only at h ⊢;unfold NG;congr 1<;>omega
theorem bQ.uZ{g:bQ}(h:g.aU):g.raw=((kI g.se.toNat g.sb.toNat g.fl.toNat:Nat):Int):=by
 have a:=NG.raw (bl:=g.bl) (pg:=g.pg) (S:=g.se.toNat) (B:=g.sb.toNat) (t:=g.fl.toNat);rw[←lS h] at a;exact a
theorem bQ.Jv{g:bQ}(h:g.aU):g.room=((g.se.toNat*g.sb.toNat:Nat):Int):=by
 have a:=NG.room (bl:=g.bl) (pg:=g.pg) (S:=g.se.toNat) (B:=g.sb.toNat) (t:=g.fl.toNat);rw[←lS h] at a;exact a
theorem WH(hg:g.aU)(hd:Seq K F A m 1 (av .u8 d))(h8:aA 256 d)(hm:m=g.se.toNat*g.sb.toNat)(Og:m≤cap) :
 aB prog 191 #[g.v,.slice A m cap] K F
  (λv H'=>∃A' cap',v= .tuple #[.slice A' g.raw.toNat cap',.i 0]∧H'=aV (.slice A' g.raw.toNat cap') 5 1 g.raw.toNat (av .u8 (aD.fF g d))::F):=by
 have h:=aay (bl:=g.bl) (pg:=g.pg) (S:=g.se.toNat) (B:=g.sb.toNat) (t:=g.fl.toNat) (by rw[←lS hg];exact hg) hd h8 hm Og;rw[←lS hg] at h;rw[bQ.uZ hg,Int.toNat_natCast];exact h
theorem WS{g:bQ}(hg:g.aU)(hr:Seq K F A m 1 (av .u8 raw))(h8:aA 256 raw)(hm:m=g.raw.toNat)(Og:m≤cap) :
 aB prog 156 #[g.v,.slice A m cap] K F
  (λv H'=>∃A' cap',v= .tuple #[.slice A' (gK g.fl.toNat g.se.toNat g.sb.toNat raw).d.length cap',.i ((gK g.fl.toNat g.se.toNat g.sb.toNat raw).n:Nat),.i ((gK g.fl.toNat g.se.toNat g.sb.toNat raw).err:Nat)] ∧
   H'=aV (.slice A' (gK g.fl.toNat g.se.toNat g.sb.toNat raw).d.length cap') 5 1 (gK g.fl.toNat g.se.toNat g.sb.toNat raw).d.length (av .u8 (gK g.fl.toNat g.se.toNat g.sb.toNat raw).d)::F):=by
 have h:=abC (bl:=g.bl) (pg:=g.pg) (S:=g.se.toNat) (B:=g.sb.toNat) (t:=g.fl.toNat) (by rw[←lS hg];exact hg) hr h8 (by rw[hm,bQ.uZ hg,Int.toNat_natCast]) Og;rw[←lS hg] at h;exact h
theorem Q5{g:bQ}(hg:g.aU)(hr:Seq K F A m 1 (av .u8 raw))(h8:aA 256 raw)(hm:m=g.raw.toNat)(Og:m≤cap) :
 aB prog 193 #[g.v,.slice A m cap] K F
  (λv H'=>∃A' n' cap',v= .tuple #[.slice A' n' cap',.i (jf g.fl.toNat g.se.toNat (g.sb.toNat+aR g.fl.toNat) raw:Nat)]∧H'=F):=by
 have h:=Ik (bl:=g.bl) (pg:=g.pg) (S:=g.se.toNat) (B:=g.sb.toNat) (t:=g.fl.toNat) (by rw[←lS hg];exact hg) hr h8 (by rw[hm,bQ.uZ hg,Int.toNat_natCast]) Og;rw[←lS hg] at h;refine aB.afS h (λv H' d=> ?_);rcases d with ⟨b,rfl,rfl⟩ | ⟨b,A',cap',l,e,rfl,_,_,rfl⟩
 ·exact⟨H',λw a=>a,_,_,_,Z,Z⟩
 ·exact⟨F,λw a=>a.drop 2,A',_,cap',by rw[b];rfl,Z⟩
theorem Qm{C:Cw}(hC:C.Ok)(b p:Int)(hd:Seq K F A m 1 (av .u8 d))(h8:aA 256 d)(Og:m≤cap)(hm:m≤1000000) :
 aB prog 124 #[ptr bd 0,.i b,.i p,.slice A m cap] K (C.A bc::dA bd bc C.g::F)
 (λv H'=>∃C':Cw,C'.Ok∧H'=C'.A bc::dA bd bc C.g::F∧C'.aC=(C.aC.dK b p d).1∧v= .i (C.aC.dK b p d).2):=by
 have k:d.length=m:=by simpa [av] using hd.len
 have EC:C.g.may=true:=decide_eq_true hC.aU;refine aB.en func124 ntmps124 ?_;refine aj "ai" ?_;refine WL.t1 call100 Z (kg) Z<|WL.t1 call122 Z (aK.eq (v':= .tuple #[.i C.g.room,.i 0]) (Ii C.g) (by rw[EC];rfl)) Z<|aj "Hfxbjb" ?_;refine WL.val (V.aG (v':= .bool (decide (d.length=C.aC.room))) (V.eql (ak Z) (ak Z)) (λ_=>by rw[bQ.Jv hC.aU,k];congr 1;apply decide_eq_decide.2;show ((m:Int)=((C.g.se.toNat*C.g.sb.toNat:Nat):Int))↔m=C.g.se.toNat*C.g.sb.toNat;omega)) Z<|WL.t4 call154 Z Z Z Z (rT b p _) Z<|aj "iuc~h" (aW (λj=> ?_) λj=> ?_)
 ·have a:C.aC.dK b p d=(C.aC,C.aC.ahead b p (decide (d.length=C.aC.room))):=by unfold aD.dK;rw[if_pos j]
  refine aj "ed" ?_;exact qR (C.A bc::dA bd bc C.g::F) Z Z cO ⟨C,hC,Z,by rw[a],by rw[a]⟩
 ·have a:C.aC.dK b p d=aD.done b (C.aC.program b p (bH (aD.fF C.g d))):=by unfold aD.dK;rw[if_neg (by simpa using j)];rfl
  have jh:=(aD.Bt j).2.2.1;have e:m=C.g.se.toNat*C.g.sb.toNat:=by rw[←k];exact of_decide_eq_true jh
  refine aj "TUyb" ?_;refine WL.c2 call191 Z Z (WH hC.aU hd.up.up h8 e Og) Z ?_;rintro _ _ ⟨B,n,rfl,rfl⟩;refine aj "?" ?_;refine WL.lG (λw h=>(aV.shape h.p1.head)) (λ⟨J,H,y,GL,_⟩=> ?_);have ZG:C.g.raw.toNat≤n:=by injection y with G L I;omega
  have u:=zS.of (bl:=C.g.bl) (pg:=C.g.pg) (by rw[←lS hC.aU];exact hC.aU);have l7:(aD.fF C.g d).length=C.g.raw.toNat:=by
   unfold aD.fF;rw[Ch u.t h8 (k.trans e),bQ.uZ hC.aU,Int.toNat_natCast]
  have qY:aA 256 (aD.fF C.g d):=PZ u.t h8;refine aj "Ht" ?_;refine WC.dM (aV (.slice B C.g.raw.toNat n) 5 1 C.g.raw.toNat (av .u8 (aD.fF C.g d))::dA bd bc C.g::F) (by kernel_rfl)<|aj "n0n1~c243]4n5n6n7n9~c:4;]<" ?_;refine WA.t 13 Z (V.makeFunc (us:=[_]) (vs:=[]) ⟨ak Z,trivial⟩ trivial) ?_;refine WA.o 8 Z ?_;refine WL.c4 call192 Z Z Z Z (Nu hC b p (kR qY) (by rw[←jX];exact aV.seq (by rw[au,l7,Nat.mul_one])) ZG) Z ?_;rintro _ _ ⟨D,RP,rfl,r,rfl⟩;refine aj "cm>" ?_;refine WL.c3 call171 Z Z Z (Qv RP b _) Z ?_;rintro _ _ ⟨l,Bz,rfl,x,rfl⟩;refine aj "c~A?~r~J" ?_;exact qR (l.A bc::dA bd bc C.g::F) Z Z (λw h=>h.bg 2 [0] Z) ⟨l,Bz,Z,by rw[a,x,r],by rw[a,r]⟩
theorem Cw.Ok.Yx{C:Cw}(hC:C.Ok)(b p:Int):bF (C.aC.reads b p):=by
 have j:=bQ.sS hC.aU;have a:=hC.Le b p;unfold aD.reads at a ⊢;rw[mO] at a;refine IQ (hC.OP b p) (λi d=> ?_);obtain⟨A,c,l,k,m,e,h,n⟩:=hC.OD b p;rw[←h] at d;have :=e i d;rw[a];omega
theorem Cw.Ok.uO{C:Cw}(hC:C.Ok)(b p:Int):ints .u8 (C.aC.reads b p)=av .u8 (C.aC.kI b p)∧aA 256 (C.aC.kI b p)∧(C.aC.kI b p).length=C.g.raw.toNat:=by
 have h:=hC.Yx b p;exact⟨mJ h,iP h,by unfold aD.kI;rw[gZ,hC.Le]⟩
theorem Uk{C:Cw}(hC:C.Ok)(b p:Int):aB prog 90 #[ptr bd 0,.i b,.i p] K (C.A bc::dA bd bc C.g::F)
 (λv H'=>∃A' c',v= .tuple #[.slice A' (C.aC.bY b p).d.length c',.i ((C.aC.bY b p).n:Nat),.i (C.aC.bY b p).err] ∧
  H'=aV (.slice A' (C.aC.bY b p).d.length c') 5 1 (C.aC.bY b p).d.length (av .u8 (C.aC.bY b p).d)::C.A bc::dA bd bc C.g::F):=by
 obtain⟨G,e⟩:∃G,G=C.aC.bY b p:=⟨_,Z⟩;rw[←e];obtain⟨k,l,j⟩:=hC.uO b p;have RN:=bQ.sS hC.aU;refine aB.en func90 ntmps90 ?_;refine aj "allfx" ?_;refine WL.t4 call154 Z Z Z Z (rT b p true) Z<|aj "iuc~h" (aW (λd=> ?_) λd=> ?_)
 ·have a:G=⟨C.aC.ahead b p true,[],0⟩:=by rw[e];unfold aD.bY;rw[if_pos d]
  refine aj "elF" ?_;exact aF.ret (H':=aV (.slice none 0 0) 5 1 0 []::C.A bc::dA bd bc C.g::F) (bJ.Bl Z Z Z Z) (λw h=>Sat.gI h _ _) ⟨none,0,by rw[a];rfl,by rw[a];rfl⟩
 ·have d:C.aC.ahead b p true=0:=by simpa using d
  have a:G=⟨(gK C.g.fl.toNat C.g.se.toNat C.g.sb.toNat (C.aC.kI b p)).err,(gK C.g.fl.toNat C.g.se.toNat C.g.sb.toNat (C.aC.kI b p)).d,(gK C.g.fl.toNat C.g.se.toNat C.g.sb.toNat (C.aC.kI b p)).n⟩:=by rw[e];unfold aD.bY;rw[if_neg (by rw[d];decide)];rfl
  refine aj "T[kx" ?_;refine WL.c3 call155 Z Z Z (LJ hC b p) Z ?_;rintro _ _ (⟨_,m,rfl,rfl⟩ | ⟨uN,rfl,rfl⟩)
  rotate_left
  ·exact (uN (aD.YI d)).elim
  rw[k];refine aj "Hfu2TUyb" ?_;refine WL.c2 call156 Z Z (WS hC.aU (Seq.Gb j) l Z (Nat.le_refl _)) Z ?_;rintro _ _ ⟨A',c',rfl,rfl⟩;refine aj "~$~MlF" ?_;refine aF.ret (H':=aV (.slice A' G.d.length c') 5 1 G.d.length (av .u8 G.d)::C.A bc::dA bd bc C.g::F) (bJ.Bl Z Z Z Z) (λw h=> ?_) ⟨A',c',by rw[a],Z⟩;rw[a];exact h.bg 2 [0] Z
theorem Rk{C:Cw}(hC:C.Ok)(b n:Int)(hn: -9223372036854775808≤n∧n≤9223372036854775807):aK prog 126 #[ptr bd 0,.i b,.i n] K (C.A bc::dA bd bc C.g::F) (.tuple #[.bool (C.aC.mX b n).1,.i (C.aC.mX b n).2]):=by
 have RN:=bQ.sS hC.aU;have Dt:=hC.aU;unfold bQ.aU at Dt;refine aB.en func126 ntmps126 ?_;refine aj "alix~gb!!" ?_;refine WL.nL (oj:=_) (vs:=[_]) Z Z Z GC.t call100 ⟨OV.g Z id,trivial⟩ (λR=>kg) Z<|WL.bI (oj:=_) Z Z Z GC.t (V.field (OV.g Z id) (ady _ _ _ _ _)) Z (aj "~~.S" ?_);refine WL.t4 call154 Z Z Z Z (rT b 0 _) Z<|aj "tL" ?_;obtain⟨e,r⟩:∃e,e=C.aC.ahead b 0 (decide (0≤n)&&decide (n≤C.g.pg)):=⟨_,Z⟩;rw[←r];have y:C.aC.mX b n=if e=73 then (false,0) else if e≠0 then (false,e) else (C.aC.kJ b n.toNat,0):=by unfold aD.mX;rw[r];rfl
 rw[y];refine aj "g;c~h" (aW (λaL=> ?_) λaL=> ?_)
 ·rw[if_pos aL];refine aj "aF" ?_;exact aF.ret (H':=C.A bc::dA bd bc C.g::F) (bJ.eU Z Z Z) cO ⟨Z,Z⟩
 ·rw[if_neg aL];refine aj "qruc~h" (aW (λaQ=> ?_) λaQ=> ?_)
  ·rw[if_pos aQ];refine aj "eF" ?_;exact aF.ret (H':=C.A bc::dA bd bc C.g::F) (bJ.eU Z Z Z) cO ⟨Z,Z⟩
  ·have a:e=0:=by simpa using aQ
   rw[if_neg (by rw[a];decide)];obtain⟨G,D,H,O⟩:=aD.Bt (r ▸ a:C.aC.ahead b 0 (decide (0≤n)&&decide (n≤C.g.pg))=0);simp only[Bool.and_eq_true,decide_eq_true_eq] at H;obtain⟨k,L⟩:∃k:Nat,n=(k:Int):=⟨n.toNat,by omega⟩;subst L;rw[Int.toNat_natCast];refine aj "qrR" ?_;refine WC.loop (σ:=Nat) (λj=>[(0,ptr bd 0),(1,.i b),(31,.i (k:Int)),(32,.i (j:Int))]) (λ_=>C.A bc::dA bd bc C.g::F) (λj=>j≤k∧C.aC.kJ b j=true) (λj=>k-j) 0 ⟨zero_le _,Z⟩ bC cO ?_;rintro j ⟨T,d⟩;refine aj "V1" (aW (λbA=> ?_) λbA=> ?_)
   ·refine aj "Yt" ?_;have m:j<k:=ay;obtain⟨I,J,B⟩:=hC.uO b (j:Int);have l:C.aC.gU b (j:Int)=0:=by
     unfold aD.gU aD.oG aD.block;rw[if_neg (by rw[G];decide),if_neg];have x:C.aC.g=C.g:=rfl;simp only[x] at D ⊢;simp;omega
    refine aj "g[kx" ?_;refine WL.c3 call155 Z Z Z (LJ hC b (j:Int)) Z ?_;rintro _ _ (⟨_,P,rfl,rfl⟩ | ⟨uN,rfl,rfl⟩)
    rotate_left
    ·exact (uN l).elim
    rw[I];refine aj "HiUyb" ?_;refine WL.c2 call193 Z Z (Q5 hC.aU (Seq.Gb B) J Z (Nat.le_refl _)) Z ?_;rintro _ _ ⟨N,Q,M,rfl,rfl⟩;refine aj "Hiuc~h" (aW (λeu=> ?_) λeu=> ?_)
    ·have dL:decide (C.aC.oW b (j:Nat)=0)=false:=decide_eq_false (by intro h;exact eu (by show ((C.aC.oW b (j:Nat):Nat):Int)=0;rw[h];rfl));refine aj "aF" ?_;refine aF.ret (H':=C.A bc::dA bd bc C.g::F) (bJ.eU Z Z Z) (λw h=>h.drop 1) ⟨?_,Z⟩;have uN:∀i,j<i→C.aC.kJ b i=false:=λi S=>by
      induction i with
      | zero=>omega
      | succ i ih =>
       rw[aD.kJ];rcases Nat.lt_or_ge j i with h | h
       ·rw[ih h];rfl
       ·obtain rfl:j=i:=by omega
        rw[dL,Bool.and_false]
     rw[uN k m]
    ·have dL:decide (C.aC.oW b (j:Nat)=0)=true:=decide_eq_true (by have u:=eu;simp at u;exact u);refine aj "q8" ?_;exact⟨j+1,⟨by omega,by rw[aD.kJ,d,dL];rfl⟩,(by show k-(j+1)<k-j;omega),.cons Z bC,λw h=>h.drop 1⟩
   ·refine aj "KaF" ?_;obtain rfl:j=k:=by omega
    exact aF.ret (H':=C.A bc::dA bd bc C.g::F) (bJ.eU Z Z Z) cO ⟨by rw[d],Z⟩
theorem UC{C:Cw}(hC:C.Ok):aB prog 118 #[ptr bd 0] K (C.A bc::dA bd bc C.g::F)
 (λv H'=>∃A' c',v= .slice A' C.aC.dW.length c'∧H'=aV (.slice A' C.aC.dW.length c') 3 1 C.aC.dW.length (ints .i64 C.aC.dW)::C.A bc::dA bd bc C.g::F):=by
 have BI:=hC.aU;unfold bQ.aU at BI;obtain⟨n,l⟩:∃n:Nat,C.g.bl=(n:Int):=⟨C.g.bl.toNat,by omega⟩;have L9:C.aC.dW=C.aC.fM n:=by unfold aD.dW;rw[show C.aC.g.bl=(n:Int) from l,Int.toNat_natCast]
 rw[L9];refine aB.en func118 ntmps118 ?_;refine aj "awf" ?_;refine WL.t1 call100 Z (kg) Z<|WL.val (V.field (ak Z) (aew _ _ _ _ _)) Z (aj "R" ?_);refine WC.loop (σ:=Nat×Option Addr×Nat) (λx=>[(0,ptr bd 0),(3,.slice x.2.1 (C.aC.fM x.1).length x.2.2),(7,.i C.g.bl),(8,.i (x.1:Int))]) (λx=>C.A bc::aV (.slice x.2.1 (C.aC.fM x.1).length x.2.2) 3 1 (C.aC.fM x.1).length (ints .i64 (C.aC.fM x.1))::dA bd bc C.g::F) (λx=>x.1≤n) (λx=>n-x.1) (0,none,0) (zero_le _) bC (λw h=>(Sat.gI h 3 1).p1) ?_;rintro⟨k,Ao,co⟩ hk;dsimp only at hk ⊢;have vX:=C.aC.jK k;refine aj "V1" (aW (λaL=> ?_) λaL=> ?_)
 ·refine aj "Yi[k" ?_;refine WL.t1 call185 Z (V6) Z<|aj "b!~~G~~e`!" ?_;refine WL.nL (oj:=_) (vs:=[_,_]) Z Z Z GC.t call186 ⟨OV.g Z id,OV.g Z id,trivial⟩ (λy=>Qh (k:Int)) Z<|WL.bI (oj:=_) Z Z Z GC.t (V.not (OV.g Z id)) Z<|aj "Sh" (aW (λb=> ?_) λb=> ?_)
  ·have a:C.aC.fM (k+1)=C.aC.fM k++[(k:Int)]:=by rw[aD.fM,if_pos (show (C.aC.up&& !C.aC.bad (k:Int))=true from b)]
   refine aj "gb" ?_;refine WL.buildSlice (E:=3) (cs:=[_]) (vs:=[(0,_)]) ⟨ak Z,trivial⟩ Z (dJ _) Z (λe=> ?_);refine WL.sub (Sub.refl _) (λw h=>h.bg 4 [2,0,1,3] Z) ?_;refine WL.append (m:=(C.aC.fM k).length) (q:=1) (news:=[.i (k:Int)]) underlying124 Me (ak Z) (ak Z) (Seq.all Z) (by intro u d;rw[mem_singleton.1 d];rfl) ay Z Z (λA' c' r j=> ?_);refine aj "o8" ?_;exact⟨(k+1,A',c'),(by show k+1≤n;omega),(by show n-(k+1)<n-k;omega),.cons Z (.cons (look_eq Z (by dsimp only;rw[a,length_append];rfl)) bC),λw h=>by
    dsimp only;rw[a,length_append,gY];exact h.bg 4 [2,0,3] Z⟩
  ·have a:C.aC.fM (k+1)=C.aC.fM k:=by rw[aD.fM,if_neg (by rw[show (C.aC.up&& !C.aC.bad (k:Int))=false from b];decide)]
   refine aj "q8" ?_;exact⟨(k+1,Ao,co),(by show k+1≤n;omega),(by show n-(k+1)<n-k;omega),.cons Z (.cons (look_eq Z (by dsimp only;rw[a])) bC),λw h=>by
    dsimp only;rw[a];exact h⟩
 ·refine aj "Ked" ?_;obtain rfl:k=n:=by omega
  exact qR (aV (.slice Ao (C.aC.fM k).length co) 3 1 (C.aC.fM k).length (ints .i64 (C.aC.fM k))::C.A bc::dA bd bc C.g::F) Z Z (λw h=>h.p1) ⟨Ao,co,Z,Z⟩
namespace aD
theorem Yy(S:aD)(b p:Int)(xs:List Int):(S.program b p xs).1.g=S.g:=by unfold program;repeat (first | rfl | split)
theorem aee(S:aD)(b:Int):(S.erase b).1.g=S.g:=by unfold erase;repeat (first | rfl | split)
theorem abp(S:aD)(b:Int):(S.mark b).1.g=S.g:=by
 unfold mark all;repeat (first | rfl | split)
theorem abN(b:Int)(x:aD×Int):(done b x).1.g=x.1.g:=by
 unfold done;split
 ·rfl
 ·split
  ·exact abp _ _
  ·exact abp _ _
theorem aad(S:aD)(b p:Int)(d:List Nat):(S.dK b p d).1.g=S.g:=by grind [dK,abN,Yy]
theorem aa4(S:aD)(b:Int):(S.bB b).1.g=S.g:=by grind [bB,abN,aee]
end aD
theorem Cw.afo{C C':Cw}(h:C'.aC=S)(hg:S.g=C.aC.g):C'.g=C.g:=by
 have :C'.aC.g=C.aC.g:=by rw[h,hg]
 exact this
theorem M6{C:Cw}(hC:C.Ok)(hg:C.g=g)(b p:Int)(hd:Seq K F A m 1 (av .u8 d))(h8:aA 256 d)(Og:m≤cap)(hm:m≤1000000) :
 aB prog 124 #[ptr bd 0,.i b,.i p,.slice A m cap] K (C.A bc::dA bd bc g::F)
 (λv H'=>∃C':Cw,C'.Ok∧C'.g=g∧H'=C'.A bc::dA bd bc g::F∧C'.aC=(C.aC.dK b p d).1∧v= .i (C.aC.dK b p d).2):=by
 subst hg;exact (Qm hC b p hd h8 Og hm).mono λv H' ⟨C',h,j,a,e⟩=>⟨C',h,Cw.afo a (aD.aad _ _ _ _),j,a,e⟩
theorem Ce{C:Cw}(hC:C.Ok)(hg:C.g=g)(b:Int):aB prog 104 #[ptr bd 0,.i b] K (C.A bc::dA bd bc g::F)
 (λv H'=>∃C':Cw,C'.Ok∧C'.g=g∧H'=C'.A bc::dA bd bc g::F∧C'.aC=(C.aC.bB b).1∧v= .i (C.aC.bB b).2):=by
 subst hg;exact (Pq hC b).mono λv H' ⟨C',e,h,a,d⟩=>⟨C',e,Cw.afo a (aD.aa4 _ _),h,a,d⟩
theorem xB{C:Cw}(hC:C.Ok)(hg:C.g=g)(b p:Int):aB prog 90 #[ptr bd 0,.i b,.i p] K (C.A bc::dA bd bc g::F)
 (λv H'=>∃A' c',v= .tuple #[.slice A' (C.aC.bY b p).d.length c',.i ((C.aC.bY b p).n:Nat),.i (C.aC.bY b p).err] ∧
  H'=aV (.slice A' (C.aC.bY b p).d.length c') 5 1 (C.aC.bY b p).d.length (av .u8 (C.aC.bY b p).d)::C.A bc::dA bd bc g::F):=by
 subst hg;exact Uk hC b p
theorem vN{C:Cw}(hC:C.Ok)(hg:C.g=g)(b n:Int)(hn: -9223372036854775808≤n∧n≤9223372036854775807):aK prog 126 #[ptr bd 0,.i b,.i n] K (C.A bc::dA bd bc g::F) (.tuple #[.bool (C.aC.mX b n).1,.i (C.aC.mX b n).2]):=by
 subst hg;exact Rk hC b n hn
theorem ER{C:Cw}(hC:C.Ok)(hg:C.g=g):aB prog 118 #[ptr bd 0] K (C.A bc::dA bd bc g::F)
 (λv H'=>∃A' c',v= .slice A' C.aC.dW.length c'∧H'=aV (.slice A' C.aC.dW.length c') 3 1 C.aC.dW.length (ints .i64 C.aC.dW)::C.A bc::dA bd bc g::F):=by
 subst hg;exact UC hC
theorem UF{C:Cw}(hC:C.Ok)(hg:C.g=g):aB prog 30 #[ptr bc 0] K (C.A bc::F) (λv H'=>∃bd,v= .tuple #[ptr bd 0,.i 0]∧H'=C.A bc::dA bd bc g::F):=by
 subst hg;exact YS hC
theorem afV(a b c d:Nat):(a ^^^ b) ^^^ (c ^^^ d)=(a ^^^ c) ^^^ (b ^^^ d):=by grind
theorem NQ(h:a<8192):red (2*a)=2*a ^^^ (if a.testBit 12=true then 8219 else 0):=by unfold red;grind
theorem adT(a b:Nat):2*(a ^^^ b)=2*a ^^^ 2*b:=by
 apply eq_of_testBit_eq;intro i;rw[testBit_xor,Nat.mul_comm 2,Nat.mul_comm 2,Nat.mul_comm 2,←Nat.pow_one 2];rw[lN,lN,lN,testBit_xor];cases decide (1≤i)<;>simp
theorem adH(ha:a<8192)(hb:b<8192):red (2*(a ^^^ b))=red (2*a) ^^^ red (2*b):=by
 rw[NQ ha,NQ hb,NQ (je (k:=13) ha hb),adT,afV,testBit_xor];congr 1;cases a.testBit 12<;>cases b.testBit 12<;>simp
theorem Ed:∀(k o1 o2 a1 a2 b:Nat),a1<8192→a2<8192→uq k (o1 ^^^ o2) (a1 ^^^ a2) b=uq k o1 a1 b ^^^ uq k o2 a2 b
 | 0,_,_,_,_,_,_,_=>rfl
 | k+1,o1,o2,a1,a2,b,h1,h2=>by
  rw[uq,uq,uq];by_cases hb:b=0
  ·rw[if_pos hb,if_pos hb,if_pos hb]
  ·rw[if_neg hb,if_neg hb,if_neg hb,adH h1 h2];by_cases h3:b%2=1
   ·rw[if_pos h3,if_pos h3,if_pos h3,afV];exact Ed k _ _ _ _ _ (vH h1) (vH h2)
   ·rw[if_neg h3,if_neg h3,if_neg h3];exact Ed k _ _ _ _ _ (vH h1) (vH h2)
theorem OG(x:Nat)(ha:a<8192)(hb:b<8192):kK (a ^^^ b) x=kK a x ^^^ kK b x:=by
 have h:=Ed 13 0 0 a b x ha hb
 rwa [Nat.xor_self] at h
theorem KS(x:Nat):kK 0 x=0:=by
 have h:=OG (a:=0) (b:=0) x aN aN
 rwa [Nat.xor_self,Nat.xor_self] at h
def it(x:Nat):Nat→Nat→Nat
 | 0,v=>v
 | n+1,v=>it x n (kK v x)
theorem aao:∀(n v:Nat),v<8192→it x n v<8192
 | 0,v,h=>h
 | n+1,v,h=>aao n _ (fD h)
theorem Nk:∀(n v u:Nat),v<8192→u<8192→it x n (v ^^^ u)=it x n v ^^^ it x n u
 | 0,_,_,_,_=>rfl
 | n+1,v,u,h1,h2=>by
  rw[it,it,it,OG x h1 h2];exact Nk n _ _ (fD h1) (fD h2)
theorem vI(x:Nat):∀n,it x n 0=0
 | 0=>rfl
 | n+1=>by rw[it,KS];exact vI x n
theorem ab8(x:Nat):∀(m n v:Nat),it x (m+n) v=it x n (it x m v)
 | 0,n,v=>by rw[Nat.zero_add];rfl
 | m+1,n,v=>by rw[succ_add_eq_add_succ,add_succ,it,it];exact ab8 x m n _
def ev(x:Nat)(f:Nat→Bool):Nat→Nat
 | 0=>0
 | n+1=>it x n (H8 (f n)) ^^^ ev x f n
theorem y8(b:Bool):H8 b<8192:=by cases b<;>decide
theorem ae1:∀n,ev x f n<8192
 | 0=>(by decide:0<8192)
 | n+1=>je (k:=13) (aao _ _ (y8 _)) (ae1 n)
theorem R4:∀(n v:Nat),v<8192→RI f x n v=it x n v ^^^ ev x f n
 | 0,v,_=>by rw[RI,it,ev,xor_zero]
 | n+1,v,h=>by
  rw[RI,R4 n _ (je (k:=13) (fD h) (y8 _)),Nk n _ _ (fD h) (y8 _),it,ev,Nat.xor_assoc]
theorem uG:∀n,(∀i,i<n→f i=g i)→ev x f n=ev x g n
 | 0,_=>rfl
 | n+1,h=>by rw[ev,ev,h n (lt_succ_self _),uG n (λi hi=>h i (lt_succ_of_lt hi))]
theorem Sm:∀n,ev x (λi=>f i ^^ g i) n=ev x f n ^^^ ev x g n
 | 0=>(Nat.xor_self 0).symm
 | n+1=>by
  have h:H8 (f n ^^ g n)=H8 (f n) ^^^ H8 (g n):=by cases f n<;>cases g n<;>rfl
  rw[ev,ev,ev,Sm n,h,Nk _ _ _ (y8 _) (y8 _),afV]
theorem aaS(h:∀i,n≤i→f i=false):∀m,ev x f (n+m)=ev x f n
 | 0=>rfl
 | m+1=>by
  rw[add_succ,ev,h _ (le_add_right _ _),show H8 false=0 from Z,vI,zero_xor,aaS h m]
theorem zy(h:∀i,n≤i→f i=false)(hm:n≤m):ev x f m=ev x f n:=by grind [aaS,Nat.add_sub_cancel']
theorem ME:∀n,(∀i,i<n→f i=false)→ev x f n=0
 | 0,_=>rfl
 | n+1,h=>by rw[ev,h n (lt_succ_self _),show H8 false=0 from Z,vI,zero_xor,ME n (λi hi=>h i (lt_succ_of_lt hi))]
theorem P8:∀n,ev x (λi=>decide (m≤i)&&f (i-m)) (n+m)=it x m (ev x f n)
 | 0=>by
  rw[Nat.zero_add,ME m (λi hi=>by rw[decide_eq_false ay];rfl),ev,vI]
 | n+1=>by
  rw[succ_add,ev,ev,Nk _ _ _ (aao _ _ (y8 _)) (ae1 _),P8 n,decide_eq_true ay,Bool.true_and,Nat.add_sub_cancel,ab8]
theorem LZ(hf:∀i,n≤i→f i=false)(hN:n+m≤N):ev x (λi=>decide (m≤i)&&f (i-m)) N=it x m (ev x f n):=by
 rw[←P8 n];refine zy (λi a=> ?_) hN;rw[hf _ ay,Bool.and_false]
theorem Ow(ho:aA 256 out)(hp:aA 256 p)(hl:p.length+at_/8<out.length) :
 ev x (Ak (mI out p at_ p.length)) (8*out.length)=ev x (Ak out) (8*out.length) ^^^ it x at_ (ev x (Ak p) (8*p.length)):=by
 rw[←LZ (x:=x) (m:=at_) (N:=8*out.length) (λi a=>lU a) ay,←Sm];refine uG _ (λi _=> ?_);rw[xL ho hp _ hl];congr 1;by_cases h:i-at_<8*p.length
 ·rw[decide_eq_true h,Bool.and_true]
 ·rw[decide_eq_false h,Bool.and_false,Bool.false_and,lU ay,Bool.and_false]
theorem ZM(hp:aA 256 p)(hq:aA 256 q)(RL:q.length=lq)(RX:lq=d/8+1)(hx:ev x (Ak q) (8*q.length)=0):∀k,k≤8*p.length-d →
 ev x (Ak (gW p q lq d k)) (8*(p.length+1))=ev x (Ak p) (8*p.length)
 | 0,_=>by
  rw[gW];have h1:∀i,Ak (p++[0]) i=Ak p i:=λi=>by
   unfold Ak;congr 1;by_cases h:i/8<p.length
   ·simp[getD,getElem?_append_left h]
   ·simp only[getD];rw[getElem?_append_right ay,getElem?_eq_none (by omega:p.length≤i/8)];rcases eq_zero_or_pos (i/8-p.length) with a | a
    ·rw[a];rfl
    ·rw[getElem?_eq_none (by simp;omega)]
  rw[uG _ (λi _=>h1 i)];exact zy (λi e=>lU e) ay
 | k+1,hk=>by
  have b:=ZM hp hq RL RX hx k ay;rw[gW];split
  ·have h:=Ow (x:=x) (at_:=8*p.length-1-k-d) (jq (lq:=lq) (d:=d) hp hq k) hq (by rw[gy,RL];omega);rw[gy,hx,vI,xor_zero,b,RL] at h;exact h
  ·exact b
theorem Cv:∀n j,aZ xs n≤j→j<n→xs.getD j 0=0
 | 0,_,_,h=>absurd h (not_lt_zero _)
 | n+1,j,h1,h2=>by
  rw[aZ] at h1;split at h1
  ·rename_i h3;rcases Nat.lt_or_ge j n with h | h
   ·exact Cv n j h1 h
   ·have :j=n:=by omega
    subst this;exact h3
  ·omega
theorem H9(hn:n=xs.length)(k:Nat):Ak (xs.take (aZ xs n)) k=Ak xs k:=by
 unfold Ak;congr 1;by_cases h:k/8<aZ xs n
 ·simp[getD,getElem?_take,h]
 ·have b:(xs.take (aZ xs n)).getD (k/8) 0=0:=by simp[getD,getElem?_take,h]
  rw[b];by_cases a:k/8<n
  ·exact (Cv n _ ay a).symm
  ·rw[getD,getElem?_eq_none ay];rfl
theorem Qd(n k:Nat):Ak (replicate n 0) k=false:=by unfold Ak;grind
theorem SA(xs:List Nat)(n k:Nat):Ak (xs++replicate n 0) k=Ak xs k:=by unfold Ak;grind
theorem R5(t i:Nat):Ak (dY t) i=decide (i=13*t):=by unfold Ak dY aR;grind
theorem KY:∀i,kY (dY t) d i=if i≤13*t then replicate ((dY t).length+d.length+1) 0 else mI (replicate ((dY t).length+d.length+1) 0) d (13*t) d.length
 | 0=>by rw[kY,if_pos (zero_le _)]
 | i+1=>by
  rw[kY,KY i,R5];by_cases h:i=13*t
  ·rw[decide_eq_true h,if_pos Z,if_pos ay,if_neg ay,h]
  ·rw[decide_eq_false h];by_cases h2:i≤13*t
   ·rw[if_neg Bool.false_ne_true,if_pos h2,if_pos ay]
   ·rw[if_neg Bool.false_ne_true,if_neg h2,if_neg ay]
def Yv(t:Nat):Bool:=(List.range (2*t)).all λk=>decide (RI (Ak (fO t)) (gG ((k+1:Nat):Int)) (8*(fO t).length) 0=0)
theorem WT:[1,2,3,4,5,6,7,8].all Yv=true:=by kernel_rfl
theorem aaL(ht:1≤t∧t≤8)(hk:k<2*t):ev (gG ((k+1:Nat):Int)) (Ak (fO t)) (8*(fO t).length)=0:=by
 have h:=all_eq_true.1 WT t (by simp only[mem_cons,not_mem_nil,or_false];omega);have a:=of_decide_eq_true (all_eq_true.1 h k (mem_range.2 hk));rw[R4 _ _ aN,vI,zero_xor] at a;exact a
theorem TF(t:Nat)(d:List Nat):iZ (dY t) d=mI (replicate ((dY t).length+d.length+1) 0) d (13*t) d.length:=by
 unfold iZ;rw[KY,if_neg];rw[aaY];unfold aR;omega
theorem adZ(hd:aA 256 d):ev x (Ak (jF t d)) (8*(jF t d).length)=it x (13*t) (ev x (Ak d) (8*d.length)):=by
 have a:(iZ (dY t) d).length=(dY t).length+d.length+1:=iU _ _ _;have h:∀k,Ak (jF t d) k=Ak (iZ (dY t) d) k:=λk=>by unfold jF;exact H9 a.symm k
 have b:=Ow (x:=x) (at_:=13*t) (out:=replicate ((dY t).length+d.length+1) 0) (p:=d) (aA.wJ aN) hd (by rw[length_replicate,aaY];unfold aR;omega);rw[←TF,ME _ (λi _=>Qd _ i),zero_xor,length_replicate,←a] at b;rw[←b,←zy (x:=x) (f:=Ak (jF t d)) (n:=8*(jF t d).length) (m:=8*(iZ (dY t) d).length) (λi e=>lU e) (by unfold jF;rw[length_take];omega)];exact uG _ (λi _=>h i)
theorem Jf(k:Nat):Ak (mU t d) k=Ak (xU t d) k:=by grind [mU,SA,jR,H9,pO]
theorem ze(ht:1≤t∧t≤8)(hd:aA 256 d)(hk:13*t≤k):Ak (mU t d) k=false:=by
 obtain⟨h,j,a,e,b⟩:=uD ht;rw[Jf];exact LG (oF hd) b Z a e hk
theorem adg(ht:1≤t∧t≤8)(hd:aA 256 d)(hk:k<2*t) :
 RI (wAt t d (mU t d)) (gG ((k+1:Nat):Int)) (13*t+8*d.length) 0=0:=by
 obtain⟨B,C,y,D,m⟩:=uD ht;obtain⟨x,j⟩:∃x,x=gG ((k+1:Nat):Int):=⟨_,Z⟩;have b:=aaL ht hk;rw[←j] at b ⊢;rw[R4 _ _ aN,vI,zero_xor];have e:∀i,wAt t d (mU t d) i=((decide (13*t≤i)&&Ak d (i-13*t)) ^^ Ak (mU t d) i):=λi=>by
  unfold wAt;by_cases h:13*t≤i
  ·rw[if_pos h,decide_eq_true h,Bool.true_and,ze ht hd h,Bool.xor_false]
  ·rw[if_neg h,decide_eq_false h,Bool.false_and,Bool.false_xor]
 rw[uG _ (λi _=>e i),Sm,LZ (n:=8*d.length) (λi a=>lU a) ay];have l:ev x (Ak (mU t d)) (13*t+8*d.length)=ev x (Ak (mU t d)) (13*t):=zy (λi a=>ze ht hd a) ay;have r:ev x (Ak (xU t d)) (8*((jF t d).length+1))=ev x (Ak (jF t d)) (8*(jF t d).length):=ZM (oF hd) m Z y b _ (Nat.le_refl _);have u:ev x (Ak (xU t d)) (8*((jF t d).length+1))=ev x (Ak (mU t d)) (13*t):=by
  rw[←uG _ (λi _=>Jf (t:=t) (d:=d) i)];rcases Nat.le_total (13*t) (8*((jF t d).length+1)) with h | h
  ·exact zy (λi a=>ze ht hd a) h
  ·refine (zy (λi a=> ?_) h).symm;rw[Jf];exact lU (by rw[pO];exact a)
 rw[l,←u,r,adZ hd,Nat.xor_self]
theorem YV(hx:x<256)(hj:x.testBit j=false):OI x j=x:=by
 unfold OI;apply eq_of_testBit_eq;intro i;rw[testBit_and,testBit_xor,testBit_two_pow];by_cases a:i<8
 ·have :(255:Nat).testBit i=true:=by
   have :∀i,i<8→(255:Nat).testBit i=true:=by decide
   exact this i a
  rw[this];by_cases h:j=i
  ·subst h;rw[hj];rfl
  ·rw[decide_eq_false h];simp
 ·rw[vQ hx ay,Bool.false_and]
theorem aaH{xs:List Nat}:xs.set i (xs.getD i 0)=xs:=by
 apply ext_getElem?;intro k;rw[getElem?_set];by_cases h:i=k
 ·subst h;by_cases a:i<xs.length
  ·simp[getD,a]
  ·simp[getElem?_eq_none (Nat.le_of_not_lt a),a]
 ·simp[h]
theorem EY(hm:aA 256 m)(h:∀k,i0≤k→Ak m k=false):∀k,nQ m i0 k=m
 | 0=>rfl
 | k+1=>by
  rw[nQ,EY hm h k,YV (hm.at_ aN _) (h (i0+k) ay),aaH]
theorem YQ(ht:1≤t∧t≤8)(hd:aA 256 d):jI t (mU t d)=mU t d:=EY (IC ht hd) (λk a=>ze ht hd a) _
theorem Ox(ht:1≤t∧t≤8)(hd:aA 256 d):iY t (d,mU t d)=replicate (2*t) 0:=by
 unfold iY qL;apply ext_getElem
 ·simp
 ·intro i a b;simp only[getElem_map,getElem_range,getElem_replicate];exact adg ht hd (by simpa using a)
theorem Ig(m:Nat):∀n,qO (replicate m 0) n=⟨[1],[1],0,n+1,1⟩
 | 0=>rfl
 | n+1=>by
  have h0:(replicate m 0).getD n 0=0:=by
   by_cases h:n<m<;>simp[getD,getElem?_replicate,h]
  rw[qO,Ig m n];unfold DJ;rw[if_pos];show EX _ _ _ (min 0 _)=0;rw[Nat.zero_min];exact h0
theorem Yn(m:Nat):vE (replicate m 0)=[1]∧xE (replicate m 0)=1:=by
 have h:vE (replicate m 0)=[1]:=by unfold vE;rw[Ig]
 refine⟨h, ?_⟩;unfold xE;rw[h];rfl
theorem LC(t:Nat)(p:LL):∀k,fU t [1] 1 p k=(p,0)
 | 0=>rfl
 | k+1=>by
  rw[fU,if_neg,LC t p k];unfold Mv;rw[IW,KS];show ¬decide ((0 ^^^ 1:Nat)=0)=true;decide
theorem Jz:∀m,rE (replicate m 0)=0
 | 0=>rfl
 | m+1=>by rw[replicate_succ,rE,Jz m];rfl
theorem ad9(ht:1≤t∧t≤8)(hd:aA 256 d):tZ t d (mU t d)=some ((d,mU t d),0):=by
 obtain⟨a,b⟩:=Yn (2*t);unfold tZ;rw[YQ ht hd,Ox ht hd,a,b,LC,if_neg ay,if_neg (λh=>h Z),if_neg];show ¬0<rE (jk (iY t (d,mU t d)));rw[Ox ht hd];unfold jk;rw[map_replicate,show nz 0=0 from Z,Jz];decide
theorem I4:∀(S j:Nat),j<S→∃rest,DW t B d S=DW t B d j++((kX B d j++mU t (kX B d j))++rest)
 | 0,j,h=>absurd h (not_lt_zero _)
 | S+1,j,h=>by
  rw[DW];rcases Nat.lt_or_ge j S with h1 | h1
  ·obtain⟨r,hr⟩:=I4 S j h1;exact⟨r++(kX B d S++mU t (kX B d S)),by rw[hr];simp only[append_assoc]⟩
  ·have :j=S:=by omega
   subst this;exact⟨[],by simp only[append_assoc,append_nil]⟩
theorem Qx(ht:1≤t∧t≤8)(h8:aA 256 d)(hl:d.length=S*B)(hj:j<S) :
 F4 B (B+aR t) (qE t S B d) j=kX B d j∧Xf B (B+aR t) (qE t S B d) j=mU t (kX B d j):=by
 obtain⟨r,e⟩:=I4 (t:=t) (B:=B) (d:=d) S j hj;have b:=og ht h8 hl j ay;have a:=yx hl hj;have h:=xG ht (jZ h8 j (B:=B));have alP:(qE t S B d).drop (j*(B+aR t))=kX B d j++(mU t (kX B d j)++(r++[0])):=by
  unfold qE;rw[e,append_assoc,drop_left' b];simp only[append_assoc]
 unfold F4 Xf;rw[alP];refine⟨take_left' a, ?_⟩;rw[drop_left' a,Nat.add_sub_cancel_left];exact take_left' h
theorem Fv(ht:1≤t∧t≤8)(h8:aA 256 d)(hl:d.length=S*B):jf t S (B+aR t) (qE t S B d)=0:=by
 have a:=og ht h8 hl S (Nat.le_refl _);unfold jf qE;rw[if_pos];rw[getD,getElem?_append_right ay,a,Nat.sub_self];rfl
theorem Fa(ht:1≤t∧t≤8)(h8:aA 256 d):∀(k j:Nat) (acc:List Nat),lV ((range' j k).map λi=>some ((kX B d i,mU t (kX B d i)),0)) acc 0=⟨0,acc++(d.drop (j*B)).take (k*B),0⟩
 | 0,j,acc=>by simp[lV]
 | k+1,j,acc=>by
  rw[range'_succ,map_cons,lV,Nat.max_self,Fa ht h8 k (j+1) _];congr 1;rw[append_assoc];congr 1;unfold kX;rw[show (k+1)*B=B+k*B by rw[succ_mul,Nat.add_comm],take_add,drop_drop,succ_mul]
theorem Yk(ht:1≤t∧t≤8)(h8:aA 256 d)(hl:d.length=S*B):gK t S B (qE t S B d)=⟨0,d,0⟩:=by
 unfold gK;rw[if_neg (λh=>h (Fv ht h8 hl))];have e:(List.range S).map (FY t B (B+aR t) (qE t S B d))=(range' 0 S).map λi=>some ((kX B d i,mU t (kX B d i)),0):=by
  rw[←range_eq_range'];apply map_congr_left;intro j a;have a:=mem_range.1 a;unfold FY;obtain⟨b,k⟩:=Qx ht h8 hl a;rw[b,k,ad9 ht (jZ h8 j)]
 rw[e,Fa ht h8 S 0 []];rw[Nat.zero_mul,drop_zero,nil_append,←hl,take_length]
end Go.Proofs.YtcedojacbhnbiaaGreat
