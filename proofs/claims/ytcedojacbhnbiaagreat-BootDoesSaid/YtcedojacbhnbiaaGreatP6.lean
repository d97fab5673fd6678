import Derived.Test.YtcedojacbhnbiaaGreatP5
import Derived.Test.YtcedojacbhnbiaaGreatP3
import Derived.Recover
set_option autoImplicit true
set_option linter.all false
set_option maxHeartbeats 2000000
set_option maxRecDepth 20000
set_option relaxedAutoImplicit true
namespace Go.Proofs.YtcedojacbhnbiaaGreat
open Go.Sl Go.RowKit Tryz List Nat
theorem afV(a b c d:Nat):(a ^^^ b) ^^^ (c ^^^ d)=(a ^^^ c) ^^^ (b ^^^ d):=by grind
theorem NQ(h:a<8192):red (2*a)=2*a ^^^ (if a.testBit 12=true then 8219 else 0):=by unfold red;grind
theorem adT(a b:Nat):2*(a ^^^ b)=2*a ^^^ 2*b:=by
 apply eq_of_testBit_eq;intro i;rw[testBit_xor,Nat.mul_comm 2,Nat.mul_comm 2,Nat.mul_comm 2,←Nat.pow_one 2];rw[lN,lN,lN,testBit_xor];cases decide (1≤i)<;>simp
theorem adH(ha:a<8192)(hb:b<8192):red (2*(a ^^^ b))=red (2*a) ^^^ red (2*b):=by
 rw[NQ ha,NQ hb,NQ (je (k:=13) ha hb),adT,afV,testBit_xor];congr 1;cases a.testBit 12<;>cases b.testBit 12<;>simp
theorem Ed:∀(k o1 o2 a1 a2 b:Nat),a1<8192→a2<8192→uq k (o1 ^^^ o2) (a1 ^^^ a2) b=uq k o1 a1 b ^^^ uq k o2 a2 b
 | 0,_,_,_,_,_,_,_=>rfl
 | k+1,o1,o2,a1,a2,b,h1,h2=>by
  rw[uq,uq,uq];by_cases hb:b=0
  ·rw[if_pos hb,if_pos hb,if_pos hb]
  ·rw[if_neg hb,if_neg hb,if_neg hb,adH h1 h2];by_cases h3:b%2=1
   ·rw[if_pos h3,if_pos h3,if_pos h3,afV];exact Ed k _ _ _ _ _ (vH h1) (vH h2)
   ·rw[if_neg h3,if_neg h3,if_neg h3];exact Ed k _ _ _ _ _ (vH h1) (vH h2)
theorem OG(x:Nat)(ha:a<8192)(hb:b<8192):kK (a ^^^ b) x=kK a x ^^^ kK b x:=by
 have h:=Ed 13 0 0 a b x ha hb
 rwa [Nat.xor_self] at h
theorem KS(x:Nat):kK 0 x=0:=by
 have h:=OG (a:=0) (b:=0) x aN aN
 rwa [Nat.xor_self,Nat.xor_self] at h
def it(x:Nat):Nat→Nat→Nat
 | 0,v=>v
 | n+1,v=>it x n (kK v x)
theorem aao:∀(n v:Nat),v<8192→it x n v<8192
 | 0,v,h=>h
 | n+1,v,h=>aao n _ (fD h)
theorem Nk:∀(n v u:Nat),v<8192→u<8192→it x n (v ^^^ u)=it x n v ^^^ it x n u
 | 0,_,_,_,_=>rfl
 | n+1,v,u,h1,h2=>by
  rw[it,it,it,OG x h1 h2];exact Nk n _ _ (fD h1) (fD h2)
theorem vI(x:Nat):∀n,it x n 0=0
 | 0=>rfl
 | n+1=>by rw[it,KS];exact vI x n
theorem ab8(x:Nat):∀(m n v:Nat),it x (m+n) v=it x n (it x m v)
 | 0,n,v=>by rw[Nat.zero_add];rfl
 | m+1,n,v=>by rw[succ_add_eq_add_succ,add_succ,it,it];exact ab8 x m n _
def ev(x:Nat)(f:Nat→Bool):Nat→Nat
 | 0=>0
 | n+1=>it x n (H8 (f n)) ^^^ ev x f n
theorem y8(b:Bool):H8 b<8192:=by cases b<;>decide
theorem ae1:∀n,ev x f n<8192
 | 0=>(by decide:0<8192)
 | n+1=>je (k:=13) (aao _ _ (y8 _)) (ae1 n)
theorem R4:∀(n v:Nat),v<8192→RI f x n v=it x n v ^^^ ev x f n
 | 0,v,_=>by rw[RI,it,ev,xor_zero]
 | n+1,v,h=>by
  rw[RI,R4 n _ (je (k:=13) (fD h) (y8 _)),Nk n _ _ (fD h) (y8 _),it,ev,Nat.xor_assoc]
theorem uG:∀n,(∀i,i<n→f i=g i)→ev x f n=ev x g n
 | 0,_=>rfl
 | n+1,h=>by rw[ev,ev,h n (lt_succ_self _),uG n (fun i hi=>h i (lt_succ_of_lt hi))]
theorem Sm:∀n,ev x (fun i=>f i ^^ g i) n=ev x f n ^^^ ev x g n
 | 0=>(Nat.xor_self 0).symm
 | n+1=>by
  have h:H8 (f n ^^ g n)=H8 (f n) ^^^ H8 (g n):=by cases f n<;>cases g n<;>rfl
  rw[ev,ev,ev,Sm n,h,Nk _ _ _ (y8 _) (y8 _),afV]
theorem aaS(h:∀i,n≤i→f i=false):∀m,ev x f (n+m)=ev x f n
 | 0=>rfl
 | m+1=>by
  rw[add_succ,ev,h _ (le_add_right _ _),show H8 false=0 from rfl,vI,zero_xor,aaS h m]
theorem zy(h:∀i,n≤i→f i=false)(hm:n≤m):ev x f m=ev x f n:=by grind [aaS,Nat.add_sub_cancel']
theorem ME:∀n,(∀i,i<n→f i=false)→ev x f n=0
 | 0,_=>rfl
 | n+1,h=>by rw[ev,h n (lt_succ_self _),show H8 false=0 from rfl,vI,zero_xor,ME n (fun i hi=>h i (lt_succ_of_lt hi))]
theorem P8:∀n,ev x (fun i=>decide (m≤i)&&f (i-m)) (n+m)=it x m (ev x f n)
 | 0=>by
  rw[Nat.zero_add,ME m (fun i hi=>by rw[decide_eq_false ay];rfl),ev,vI]
 | n+1=>by
  rw[succ_add,ev,ev,Nk _ _ _ (aao _ _ (y8 _)) (ae1 _),P8 n,decide_eq_true ay,Bool.true_and,Nat.add_sub_cancel,ab8]
theorem LZ(hf:∀i,n≤i→f i=false)(hN:n+m≤N):ev x (fun i=>decide (m≤i)&&f (i-m)) N=it x m (ev x f n):=by
 rw[←P8 n];refine zy (fun i hi=> ?_) hN;rw[hf _ ay,Bool.and_false]
theorem Ow(ho:aA 256 out)(hp:aA 256 p)(hl:p.length+at_/8<out.length) :
 ev x (bS (mI out p at_ p.length)) (8*out.length)=ev x (bS out) (8*out.length) ^^^ it x at_ (ev x (bS p) (8*p.length)):=by
 rw[←LZ (x:=x) (m:=at_) (N:=8*out.length) (fun i hi=>lU hi) ay,←Sm];refine uG _ (fun i _=> ?_);rw[xL ho hp _ hl];congr 1;by_cases h:i-at_<8*p.length
 ·rw[decide_eq_true h,Bool.and_true]
 ·rw[decide_eq_false h,Bool.and_false,Bool.false_and,lU ay,Bool.and_false]
theorem ZM(hp:aA 256 p)(hq:aA 256 q)(RL:q.length=lq)(RX:lq=d/8+1)(hx:ev x (bS q) (8*q.length)=0):∀k,k≤8*p.length-d →
 ev x (bS (gW p q lq d k)) (8*(p.length+1))=ev x (bS p) (8*p.length)
 | 0,_=>by
  rw[gW];have h1:∀i,bS (p++[0]) i=bS p i:=fun i=>by
   unfold bS;congr 1;by_cases h:i/8<p.length
   ·simp[getD,getElem?_append_left h]
   ·simp only[getD];rw[getElem?_append_right ay,getElem?_eq_none (by omega:p.length≤i/8)];rcases eq_zero_or_pos (i/8-p.length) with h2 | h2
    ·rw[h2];rfl
    ·rw[getElem?_eq_none (by simp;omega)]
  rw[uG _ (fun i _=>h1 i)];exact zy (fun i hi=>lU hi) ay
 | k+1,hk=>by
  have ih:=ZM hp hq RL RX hx k ay;rw[gW];split
  ·have h:=Ow (x:=x) (at_:=8*p.length-1-k-d) (jq (lq:=lq) (d:=d) hp hq k) hq (by rw[gy,RL];omega);rw[gy,hx,vI,xor_zero,ih,RL] at h;exact h
  ·exact ih
theorem Cv:∀n j,aZ xs n≤j→j<n→xs.getD j 0=0
 | 0,_,_,h=>absurd h (not_lt_zero _)
 | n+1,j,h1,h2=>by
  rw[aZ] at h1;split at h1
  ·rename_i h3;rcases Nat.lt_or_ge j n with h | h
   ·exact Cv n j h1 h
   ·have :j=n:=by omega
    subst this;exact h3
  ·omega
theorem H9(hn:n=xs.length)(k:Nat):bS (xs.take (aZ xs n)) k=bS xs k:=by
 unfold bS;congr 1;by_cases h:k/8<aZ xs n
 ·simp[getD,getElem?_take,h]
 ·have h0:(xs.take (aZ xs n)).getD (k/8) 0=0:=by simp[getD,getElem?_take,h]
  rw[h0];by_cases h2:k/8<n
  ·exact (Cv n _ ay h2).symm
  ·rw[getD,getElem?_eq_none ay];rfl
theorem Qd(n k:Nat):bS (replicate n 0) k=false:=by unfold bS;grind
theorem SA(xs:List Nat)(n k:Nat):bS (xs++replicate n 0) k=bS xs k:=by unfold bS;grind
theorem R5(t i:Nat):bS (dY t) i=decide (i=13*t):=by unfold bS dY aR;grind
theorem KY:∀i,kY (dY t) d i=if i≤13*t then replicate ((dY t).length+d.length+1) 0 else mI (replicate ((dY t).length+d.length+1) 0) d (13*t) d.length
 | 0=>by rw[kY,if_pos (zero_le _)]
 | i+1=>by
  rw[kY,KY i,R5];by_cases h:i=13*t
  ·rw[decide_eq_true h,if_pos rfl,if_pos ay,if_neg ay,h]
  ·rw[decide_eq_false h];by_cases h2:i≤13*t
   ·rw[if_neg Bool.false_ne_true,if_pos h2,if_pos ay]
   ·rw[if_neg Bool.false_ne_true,if_neg h2,if_neg ay]
def Yv(t:Nat):Bool:=(List.range (2*t)).all fun k=>decide (RI (bS (fO t)) (gG ((k+1:Nat):Int)) (8*(fO t).length) 0=0)
theorem WT:[1,2,3,4,5,6,7,8].all Yv=true:=by kernel_rfl
theorem aaL(ht:1≤t∧t≤8)(hk:k<2*t):ev (gG ((k+1:Nat):Int)) (bS (fO t)) (8*(fO t).length)=0:=by
 have h:=all_eq_true.1 WT t (by simp only[mem_cons,not_mem_nil,or_false];omega);have h1:=of_decide_eq_true (all_eq_true.1 h k (mem_range.2 hk));rw[R4 _ _ aN,vI,zero_xor] at h1;exact h1
theorem TF(t:Nat)(d:List Nat):iZ (dY t) d=mI (replicate ((dY t).length+d.length+1) 0) d (13*t) d.length:=by
 unfold iZ;rw[KY,if_neg];rw[lg];unfold aR;omega
theorem adZ(hd:aA 256 d):ev x (bS (jF t d)) (8*(jF t d).length)=it x (13*t) (ev x (bS d) (8*d.length)):=by
 have hl:(iZ (dY t) d).length=(dY t).length+d.length+1:=iU _ _ _;have h1:∀k,bS (jF t d) k=bS (iZ (dY t) d) k:=fun k=>by unfold jF;exact H9 hl.symm k
 have h2:=Ow (x:=x) (at_:=13*t) (out:=replicate ((dY t).length+d.length+1) 0) (p:=d) (aA.wJ aN) hd (by rw[length_replicate,lg];unfold aR;omega);rw[←TF,ME _ (fun i _=>Qd _ i),zero_xor,length_replicate,←hl] at h2;rw[←h2,←zy (x:=x) (f:=bS (jF t d)) (n:=8*(jF t d).length) (m:=8*(iZ (dY t) d).length) (fun i hi=>lU hi) (by unfold jF;rw[length_take];omega)];exact uG _ (fun i _=>h1 i)
theorem Jf(k:Nat):bS (mU t d) k=bS (xU t d) k:=by grind [mU,SA,jR,H9,pO]
theorem ze(ht:1≤t∧t≤8)(hd:aA 256 d)(hk:13*t≤k):bS (mU t d) k=false:=by
 obtain⟨g1,g2,g3,g4,g5⟩:=uD ht;rw[Jf];exact LG (oF hd) g5 rfl g3 g4 hk
theorem adg(ht:1≤t∧t≤8)(hd:aA 256 d)(hk:k<2*t) :
 RI (wAt t d (mU t d)) (gG ((k+1:Nat):Int)) (13*t+8*d.length) 0=0:=by
 obtain⟨g1,g2,g3,g4,g5⟩:=uD ht;obtain⟨x,hx⟩:∃x,x=gG ((k+1:Nat):Int):=⟨_,rfl⟩;have hr:=aaL ht hk;rw[←hx] at hr ⊢;rw[R4 _ _ aN,vI,zero_xor];have h1:∀i,wAt t d (mU t d) i=((decide (13*t≤i)&&bS d (i-13*t)) ^^ bS (mU t d) i):=fun i=>by
  unfold wAt;by_cases h:13*t≤i
  ·rw[if_pos h,decide_eq_true h,Bool.true_and,ze ht hd h,Bool.xor_false]
  ·rw[if_neg h,decide_eq_false h,Bool.false_and,Bool.false_xor]
 rw[uG _ (fun i _=>h1 i),Sm,LZ (n:=8*d.length) (fun i hi=>lU hi) ay];have h2:ev x (bS (mU t d)) (13*t+8*d.length)=ev x (bS (mU t d)) (13*t):=zy (fun i hi=>ze ht hd hi) ay;have h3:ev x (bS (xU t d)) (8*((jF t d).length+1))=ev x (bS (jF t d)) (8*(jF t d).length):=ZM (oF hd) g5 rfl g3 hr _ (Nat.le_refl _);have h4:ev x (bS (xU t d)) (8*((jF t d).length+1))=ev x (bS (mU t d)) (13*t):=by
  rw[←uG _ (fun i _=>Jf (t:=t) (d:=d) i)];rcases Nat.le_total (13*t) (8*((jF t d).length+1)) with h | h
  ·exact zy (fun i hi=>ze ht hd hi) h
  ·refine (zy (fun i hi=> ?_) h).symm;rw[Jf];exact lU (by rw[pO];exact hi)
 rw[h2,←h4,h3,adZ hd,Nat.xor_self]
theorem YV(hx:x<256)(hj:x.testBit j=false):OI x j=x:=by
 unfold OI;apply eq_of_testBit_eq;intro i;rw[testBit_and,testBit_xor,testBit_two_pow];by_cases h8:i<8
 ·have :(255:Nat).testBit i=true:=by
   have :∀i,i<8→(255:Nat).testBit i=true:=by decide
   exact this i h8
  rw[this];by_cases h:j=i
  ·subst h;rw[hj];rfl
  ·rw[decide_eq_false h];simp
 ·rw[vQ hx ay,Bool.false_and]
theorem aaH{xs:List Nat}:xs.set i (xs.getD i 0)=xs:=by
 apply ext_getElem?;intro k;rw[getElem?_set];by_cases h:i=k
 ·subst h;by_cases hl:i<xs.length
  ·simp[getD,hl]
  ·simp[getElem?_eq_none (Nat.le_of_not_lt hl),hl]
 ·simp[h]
theorem EY(hm:aA 256 m)(h:∀k,i0≤k→bS m k=false):∀k,nQ m i0 k=m
 | 0=>rfl
 | k+1=>by
  rw[nQ,EY hm h k,YV (hm.at_ aN _) (h (i0+k) ay),aaH]
theorem YQ(ht:1≤t∧t≤8)(hd:aA 256 d):jI t (mU t d)=mU t d:=EY (IC ht hd) (fun k hk=>ze ht hd hk) _
theorem Ox(ht:1≤t∧t≤8)(hd:aA 256 d):iY t (d,mU t d)=replicate (2*t) 0:=by
 unfold iY qL;apply ext_getElem
 ·simp
 ·intro i h1 h2;simp only[getElem_map,getElem_range,getElem_replicate];exact adg ht hd (by simpa using h1)
theorem Ig(m:Nat):∀n,qO (replicate m 0) n=⟨[1],[1],0,n+1,1⟩
 | 0=>rfl
 | n+1=>by
  have h0:(replicate m 0).getD n 0=0:=by
   by_cases h:n<m<;>simp[getD,getElem?_replicate,h]
  rw[qO,Ig m n];unfold DJ;rw[if_pos];show EX _ _ _ (min 0 _)=0;rw[Nat.zero_min];exact h0
theorem Yn(m:Nat):vE (replicate m 0)=[1]∧xE (replicate m 0)=1:=by
 have h:vE (replicate m 0)=[1]:=by unfold vE;rw[Ig]
 refine⟨h, ?_⟩;unfold xE;rw[h];rfl
theorem LC(t:Nat)(p:LL):∀k,fU t [1] 1 p k=(p,0)
 | 0=>rfl
 | k+1=>by
  rw[fU,if_neg,LC t p k];unfold Mv;rw[IW,KS];show ¬decide ((0 ^^^ 1:Nat)=0)=true;decide
theorem Jz:∀m,rE (replicate m 0)=0
 | 0=>rfl
 | m+1=>by rw[replicate_succ,rE,Jz m];rfl
theorem ad9(ht:1≤t∧t≤8)(hd:aA 256 d):tZ t d (mU t d)=some ((d,mU t d),0):=by
 obtain⟨l1,l2⟩:=Yn (2*t);unfold tZ;rw[YQ ht hd,Ox ht hd,l1,l2,LC,if_neg ay,if_neg (fun h=>h rfl),if_neg];show ¬0<rE (jk (iY t (d,mU t d)));rw[Ox ht hd];unfold jk;rw[map_replicate,show nz 0=0 from rfl,Jz];decide
theorem I4:∀(S j:Nat),j<S→∃rest,DW t B d S=DW t B d j++((kX B d j++mU t (kX B d j))++rest)
 | 0,j,h=>absurd h (not_lt_zero _)
 | S+1,j,h=>by
  rw[DW];rcases Nat.lt_or_ge j S with h1 | h1
  ·obtain⟨r,hr⟩:=I4 S j h1;exact⟨r++(kX B d S++mU t (kX B d S)),by rw[hr];simp only[append_assoc]⟩
  ·have :j=S:=by omega
   subst this;exact⟨[],by simp only[append_assoc,append_nil]⟩
theorem Qx(ht:1≤t∧t≤8)(h8:aA 256 d)(hl:d.length=S*B)(hj:j<S) :
 F4 B (B+aR t) (qE t S B d) j=kX B d j∧Xf B (B+aR t) (qE t S B d) j=mU t (kX B d j):=by
 obtain⟨r,hr⟩:=I4 (t:=t) (B:=B) (d:=d) S j hj;have h1:=og ht h8 hl j ay;have h2:=yx hl hj;have h3:=xG ht (jZ h8 j (B:=B));have alP:(qE t S B d).drop (j*(B+aR t))=kX B d j++(mU t (kX B d j)++(r++[0])):=by
  unfold qE;rw[hr,append_assoc,drop_left' h1];simp only[append_assoc]
 unfold F4 Xf;rw[alP];refine⟨take_left' h2, ?_⟩;rw[drop_left' h2,Nat.add_sub_cancel_left];exact take_left' h3
theorem Fv(ht:1≤t∧t≤8)(h8:aA 256 d)(hl:d.length=S*B):jf t S (B+aR t) (qE t S B d)=0:=by
 have h1:=og ht h8 hl S (Nat.le_refl _);unfold jf qE;rw[if_pos];rw[getD,getElem?_append_right ay,h1,Nat.sub_self];rfl
theorem Fa(ht:1≤t∧t≤8)(h8:aA 256 d):∀(k j:Nat) (acc:List Nat),lV ((range' j k).map fun i=>some ((kX B d i,mU t (kX B d i)),0)) acc 0=⟨0,acc++(d.drop (j*B)).take (k*B),0⟩
 | 0,j,acc=>by simp[lV]
 | k+1,j,acc=>by
  rw[range'_succ,map_cons,lV,Nat.max_self,Fa ht h8 k (j+1) _];congr 1;rw[append_assoc];congr 1;unfold kX;rw[show (k+1)*B=B+k*B by rw[succ_mul,Nat.add_comm],take_add,drop_drop,succ_mul]
theorem Yk(ht:1≤t∧t≤8)(h8:aA 256 d)(hl:d.length=S*B):gK t S B (qE t S B d)=⟨0,d,0⟩:=by
 unfold gK;rw[if_neg (fun h=>h (Fv ht h8 hl))];have h1:(List.range S).map (FY t B (B+aR t) (qE t S B d))=(range' 0 S).map fun i=>some ((kX B d i,mU t (kX B d i)),0):=by
  rw[←range_eq_range'];apply map_congr_left;intro j hj;have hj:=mem_range.1 hj;unfold FY;obtain⟨e1,e2⟩:=Qx ht h8 hl hj;rw[e1,e2,ad9 ht (jZ h8 j)]
 rw[h1,Fa ht h8 S 0 []];rw[Nat.zero_mul,drop_zero,nil_append,←hl,take_length]
structure Hd where
 (aS len num:Int)
 deriving DecidableEq
abbrev Hd.v(h:Hd):Value:= .agg #[.i h.aS,.i h.len,.i h.num]
def bQ.cap(g:bQ):Int:=(g.pg-1)*g.room
def bQ.bN(g:bQ)(n:Int):Int:=(n+g.room-1)/g.room
def bQ.fits(g:bQ)(n:Int):Bool:=decide (0≤n)&&decide (n≤g.cap)
def Hd.may(g:bQ)(h:Hd):Bool:=g.fits h.len&&decide (0≤h.aS)&&decide (h.aS<64)&&decide (1≤h.num)&&decide (h.num≤1000000000)
def MN(n:Int):List Nat:=[n.toNat%256,n.toNat/256%256,n.toNat/65536%256,n.toNat/16777216%256]
def jP(g:bQ)(h:Hd):List Nat:=[99,97,115,101]++MN h.aS++MN h.len++MN h.num++replicate (g.room.toNat-16) 0
def AB(d:List Nat)(i:Nat):Int:=((d.getD i 0+256*d.getD (i+1) 0+65536*d.getD (i+2) 0+16777216*d.getD (i+3) 0:Nat):Int)
def DN(d:List Nat):Hd:=⟨AB d 4,AB d 8,AB d 12⟩
def jr(g:bQ)(d:List Nat):Option Hd:=if (DN d).may g&&decide (jP g (DN d)=d) then some (DN d) else none
theorem DF(n:Int):aA 256 (MN n):=fun x hx=>by
 unfold MN at hx;simp only[mem_cons,not_mem_nil,or_false] at hx;rcases hx with rfl | rfl | rfl | rfl<;>exact mod_lt _ aN
theorem yN(g:bQ)(h:Hd):aA 256 (jP g h):=by
 unfold jP;refine aA.append (aA.append (aA.append (aA.append ?_ (DF _)) (DF _)) (DF _)) (aA.wJ aN);intro x hx;simp only[mem_cons,not_mem_nil,or_false] at hx;omega
theorem pQ(hg:g.aU)(h:Hd):(jP g h).length=g.room.toNat:=by
 unfold jP MN;unfold bQ.aU at hg;simp only[length_append,length_cons,length_nil,length_replicate];have :16≤g.room:=by unfold bQ.room;omega
 omega
theorem bQ.kP{g:bQ}(hg:g.aU):16≤g.room∧g.room≤4096:=by
 unfold bQ.aU at hg;have :=bQ.Bd (a:=g.se) (b:=g.sb) (A:=8) (B:=512) ay ay ay ay;unfold bQ.room;omega
theorem bQ.vL{g:bQ}(hg:g.aU):16≤g.cap∧g.cap≤258048:=by
 have h1:=bQ.kP hg;unfold bQ.aU at hg;have h2:=bQ.Bd (a:=g.pg-1) (b:=g.room) (A:=63) (B:=4096) ay ay ay ay;have h3:1*g.room≤(g.pg-1)*g.room:=Int.mul_le_mul_of_nonneg_right ay ay;unfold bQ.cap;omega
theorem NT(h0:0≤n)(h:n<4294967296)(p q:List Nat):AB (p++(MN n++q)) p.length=n:=by
 unfold AB MN;have e:∀i,(p++([n.toNat%256,n.toNat/256%256,n.toNat/65536%256,n.toNat/16777216%256]++q)).getD (p.length+i) 0=([n.toNat%256,n.toNat/256%256,n.toNat/65536%256,n.toNat/16777216%256]++q).getD i 0:=fun i=>by
  simp[getD,getElem?_append_right]
 have e0:=e 0;rw[Nat.add_zero] at e0;rw[e0,e 1,e 2,e 3];simp only[cons_append,getD_cons_zero,getD_cons_succ];omega
theorem Nr(hm:h.may g=true)(hg:g.aU):DN (jP g h)=h:=by
 have hc:=bQ.vL hg;unfold Hd.may bQ.fits at hm;simp only[Bool.and_eq_true,decide_eq_true_eq] at hm;unfold DN jP;have h1:=NT (n:=h.aS) ay ay [99,97,115,101] (MN h.len++(MN h.num++replicate (g.room.toNat-16) 0));have h2:=NT (n:=h.len) ay ay ([99,97,115,101]++MN h.aS) (MN h.num++replicate (g.room.toNat-16) 0);have h3:=NT (n:=h.num) ay ay ([99,97,115,101]++MN h.aS++MN h.len) (replicate (g.room.toNat-16) 0);simp only[←append_assoc] at h1 h2 h3;rw[show ([99,97,115,101]:List Nat).length=4 from rfl] at h1;rw[show (([99,97,115,101]:List Nat)++MN h.aS).length=8 from rfl] at h2;rw[show (([99,97,115,101]:List Nat)++MN h.aS++MN h.len).length=12 from rfl] at h3;rw[h1,h2,h3]
theorem yI(hm:h.may g=true)(hg:g.aU):jr g (jP g h)=some h:=by
 unfold jr;rw[Nr hm hg,hm,decide_eq_true rfl];rfl
theorem lW{g:bQ}(hg:g.aU):aK prog 122 #[g.v] K F (.tuple #[.i g.room,.i 0]):=(Ii g).eq (by rw[show g.may=true from decide_eq_true hg];rfl)
theorem QE{g:bQ}(hg:g.aU):aK prog 110 #[g.v] K F (.tuple #[.i g.cap,.i 0]):=by
 have hc:=bQ.vL hg;have uJ:=hg;unfold bQ.aU at uJ;have hmx:max (g.pg-1) 0=g.pg-1:=ay;refine aB.en func110 ntmps110 ?_;refine aj "a*" fun b1=> ?_;refine aj "owB" ?_;refine WL.t1 call122 rfl (lW hg) rfl<|aj "Ewp`~~dc" ?_;refine WL.val (V.aG (v':= .i g.cap) (V.MK (ak rfl) (ak rfl) (fun _=>by rw[hmx];unfold bQ.cap at hc;omega)) (fun _=>by rw[hmx];rfl)) rfl<|aj "cG" ?_;exact aF.ret (H':=F) (bJ.eU rfl rfl rfl) (fun w h=>h.drop 1) ⟨rfl,rfl⟩
theorem AL{g:bQ}(hg:g.aU)(hn:n≤1099511627776):aK prog 92 #[g.v,.i n] K F (.tuple (if g.fits n then #[.i (g.bN n),.i 0] else #[.i 0,.i 1])):=by
 have hc:=bQ.vL hg;have hr:=bQ.kP hg;refine aB.en func92 ntmps92 ?_;refine aj "a*" fun b2=> ?_;refine aj "owB" ?_;refine WL.t1 call110 rfl (QE hg) rfl<|aj "EfscV~,OcVV" ?_;refine WL.bI (oj:=_) rfl rfl rfl GC.f (V.gtr (OV.g rfl id) (OV.g rfl id)) rfl<|aj "Oj" (aW (fun h0=> ?_) fun h0=> ?_)
 ·have he:g.fits n= !(!decide ((0:Int)=0)||decide (n<0)||decide (g.cap<n)):=by
   unfold bQ.fits;by_cases h1:0≤n<;>by_cases h2:n≤g.cap<;>simp[h1,h2]<;>omega
  have hf:=he;rw[h0] at hf;rw[hf];refine aj "aG" ?_;exact aF.ret (H':=F) (bJ.eU rfl rfl rfl) (fun w h=>h.drop 1) ⟨rfl,rfl⟩
 ·have he:g.fits n= !(!decide ((0:Int)=0)||decide (n<0)||decide (g.cap<n)):=by
   unfold bQ.fits;by_cases h1:0≤n<;>by_cases h2:n≤g.cap<;>simp[h1,h2]<;>omega
  have hf:=he;rw[h0] at hf;rw[hf];have hfb:=hf;unfold bQ.fits at hfb;simp only[Bool.not_false,Bool.and_eq_true,decide_eq_true_eq] at hfb;refine aj "iaB" ?_;refine WL.t1 call122 rfl (lW hg) rfl<|aj "EX$`c~8G" ?_;exact aF.ret (H':=F) (bJ.eU rfl rfl rfl) (fun w h=>h.drop 1) ⟨rfl,rfl⟩
theorem acg(hg:g.aU)(h:Hd)(hn:h.len≤1099511627776):aK prog 189 #[g.v,h.v] K F (.bool (h.may g)):=by
 obtain⟨e,he⟩:∃e:Int,e=if g.fits h.len then 0 else 1:=⟨_,rfl⟩
 obtain⟨pn,hp⟩:∃pn:Int,pn=if g.fits h.len then g.bN h.len else 0:=⟨_,rfl⟩
 refine aB.en func189 ntmps189 ?_;refine aj "a*" fun b2=> ?_;refine aj "~~0" fun b3=> ?_;refine aj "wBp" ?_;refine WL.t2 call92 rfl rfl (aK.eq (v':= .tuple #[.i pn,.i e]) (AL hg hn) (by rw[hp,he];cases g.fits h.len<;>rfl)) rfl<|aj "Ek9c(|~Q3c(|~~~f3c(|~Q3c(|~X3d:" ?_;unfold Hd.may;congr 1;cases hf:g.fits h.len with
 | true=>rw[hf] at he;rw[he];rfl
 | false=>rw[hf] at he;rw[he];rfl
def J8(n:Int):List Value:=[.int .u8 (IntKind.u8.wrap n),.int .u8 (IntKind.u8.wrap (n.fdiv (2^(min (8:Int).toNat IntKind.i64.bits)))),.int .u8 (IntKind.u8.wrap (n.fdiv (2^(min (16:Int).toNat IntKind.i64.bits)))),.int .u8 (IntKind.u8.wrap (n.fdiv (2^(min (24:Int).toNat IntKind.i64.bits))))]
theorem Vx(n:Int):IntKind.u8.wrap n=n%256:=by grind [IntKind.wrap,IntKind.bits,IntKind.signed]
theorem D5(h:0≤n):J8 n=av .u8 (MN n):=by
 unfold J8 MN av;rw[Vx,Vx,Vx,Vx,show (2:Int)^(min (8:Int).toNat IntKind.i64.bits)=256 from rfl,show (2:Int)^(min (16:Int).toNat IntKind.i64.bits)=65536 from rfl,show (2:Int)^(min (24:Int).toNat IntKind.i64.bits)=16777216 from rfl,
  Int.fdiv_eq_ediv_of_nonneg _ aN,Int.fdiv_eq_ediv_of_nonneg _ aN,Int.fdiv_eq_ediv_of_nonneg _ aN]
 simp only[map_cons,map_nil];congr 1
 ·congr 1;omega
 congr 1
 ·congr 1;omega
 congr 1
 ·congr 1;omega
 congr 1;congr 1;omega
theorem Ry(n:Int):∀u∈J8 n,u.oneCell'=true:=by unfold J8;simp[Value.oneCell']
theorem aaE(hs:Seq K F A 4 1 cs)(hq:Seq K F B 3 1 [.i x,.i y,.i z]) :
 aB prog 190 #[.slice A 4 4,.slice B 3 3] K F (fun v H'=>∃A' c',v= .slice A' 16 c'∧H'=aV (.slice A' 16 c') 5 1 16 (cs++J8 x++J8 y++J8 z)::F):=by
 have mR:=hs.len;have rd:∀(i:Nat) v,[Value.int .i64 x,.i y,.i z][i]? =some v→Rd K F (B.map (·.add (i*1))) v:=fun i v hi=>by rw[Nat.mul_one];exact hq.rd i v hi
 refine aB.en func190 ntmps190 ?_;refine aj "afnQ" ?_;refine WC.rounds 4 (aj "S2Ha" ?_);refine WL.val (V.dw eB (ak rfl) (ak rfl) (fun _=>by decide) (fun _=>by first | exact rd 0 _ rfl | exact Rd.up (rd 1 _ rfl) | exact Rd.up (Rd.up (rd 1 _ rfl)) | exact Rd.up (Rd.up (rd 2 _ rfl)) | exact Rd.up (Rd.up (Rd.up (rd 2 _ rfl))) | exact Rd.up (Rd.up (Rd.up (Rd.up (rd 2 _ rfl)))))) rfl<|WL.val (V.load isAgg3 (ak rfl) (fun _=>by first | exact rd 0 _ rfl | exact Rd.up (rd 1 _ rfl) | exact Rd.up (Rd.up (rd 1 _ rfl)) | exact Rd.up (Rd.up (rd 2 _ rfl)) | exact Rd.up (Rd.up (Rd.up (rd 2 _ rfl))) | exact Rd.up (Rd.up (Rd.up (Rd.up (rd 2 _ rfl)))))) rfl<|aj "gM~vc~<~vc~<~vc~<~v" ?_;refine WL.buildSlice (E:=5) (cs:=[_,_,_,_]) (vs:=[(0,_),(1,_),(2,_),(3,_)]) ⟨ak rfl,ak rfl,ak rfl,ak rfl,trivial⟩ rfl (fJ _ _ _ _) rfl (fun b25=>WL.D7 (m:=4) (q:=4) (cs:=cs) (news:=J8 x) underlying34 yL (ak rfl) (ak rfl) (by repeat (first | exact hs | apply Seq.up)) (Seq.all rfl) aN aN aN aN rfl rfl (fun A1 c1 UM aQ=>aj "gq~M~uS2Ha" ?_));refine WL.val (V.dw eB (ak rfl) (ak rfl) (fun _=>by decide) (fun _=>by first | exact rd 0 _ rfl | exact Rd.up (rd 1 _ rfl) | exact Rd.up (Rd.up (rd 1 _ rfl)) | exact Rd.up (Rd.up (rd 2 _ rfl)) | exact Rd.up (Rd.up (Rd.up (rd 2 _ rfl))) | exact Rd.up (Rd.up (Rd.up (Rd.up (rd 2 _ rfl)))))) rfl<|WL.val (V.load isAgg3 (ak rfl) (fun _=>by first | exact rd 0 _ rfl | exact Rd.up (rd 1 _ rfl) | exact Rd.up (Rd.up (rd 1 _ rfl)) | exact Rd.up (Rd.up (rd 2 _ rfl)) | exact Rd.up (Rd.up (Rd.up (rd 2 _ rfl))) | exact Rd.up (Rd.up (Rd.up (Rd.up (rd 2 _ rfl)))))) rfl<|aj "gM~vc~<~vc~<~vc~<~v" ?_;refine WL.buildSlice (E:=5) (cs:=[_,_,_,_]) (vs:=[(0,_),(1,_),(2,_),(3,_)]) ⟨ak rfl,ak rfl,ak rfl,ak rfl,trivial⟩ rfl (fJ _ _ _ _) rfl (fun b25=>aj "~+" ?_);refine WL.append (m:=8) (q:=4) (news:=J8 y) underlying34 yL (ak rfl) (ak rfl) (Seq.all rfl) (Ry _) aN rfl rfl (fun A2 c2 RU bA=>aj "gq~r~uS2Ha" ?_);refine WL.val (V.dw eB (ak rfl) (ak rfl) (fun _=>by decide) (fun _=>by first | exact rd 0 _ rfl | exact Rd.up (rd 1 _ rfl) | exact Rd.up (Rd.up (rd 1 _ rfl)) | exact Rd.up (Rd.up (rd 2 _ rfl)) | exact Rd.up (Rd.up (Rd.up (rd 2 _ rfl))) | exact Rd.up (Rd.up (Rd.up (Rd.up (rd 2 _ rfl)))))) rfl<|WL.val (V.load isAgg3 (ak rfl) (fun _=>by first | exact rd 0 _ rfl | exact Rd.up (rd 1 _ rfl) | exact Rd.up (Rd.up (rd 1 _ rfl)) | exact Rd.up (Rd.up (rd 2 _ rfl)) | exact Rd.up (Rd.up (Rd.up (rd 2 _ rfl))) | exact Rd.up (Rd.up (Rd.up (Rd.up (rd 2 _ rfl)))))) rfl<|aj "gM~vc~<~vc~<~vc~<~v" ?_;refine WL.buildSlice (E:=5) (cs:=[_,_,_,_]) (vs:=[(0,_),(1,_),(2,_),(3,_)]) ⟨ak rfl,ak rfl,ak rfl,ak rfl,trivial⟩ rfl (fJ _ _ _ _) rfl (fun b25=>aj "~+" ?_);refine WL.append (m:=12) (q:=4) (news:=J8 z) underlying34 yL (ak rfl) (ak rfl) (Seq.all rfl) (Ry _) aN rfl rfl (fun A3 c3 hA3 eu=>aj "gq" ?_);refine WL.val (V.aG (v':= .i (3)) (V.add (ak rfl) (ak rfl)) (fun _=>rfl)) rfl<|aj "~uS~zNed" ?_;exact qR (aV (.slice A3 16 c3) _ 1 16 _::F) rfl rfl (fun w h=>h.bg 4 [0] rfl) ⟨A3,c3,rfl,rfl⟩
end Go.Proofs.YtcedojacbhnbiaaGreat
namespace Go.Sl
open Go.RowKit List Nat
theorem WQ.Sg{dj:Nat}{oj:Oper}
 (hj:ops[j]? =some oj) (EG:oj.dst=some dj) (hl:look e dj=some gv) (hG:GC gv want c) (hf:bP P f) (hy:OV c e y (.func (.func f) first.toArray captured.toArray)) (gL:Ga c e xs vs) (hF:c=true→aK P f (first++vs++captured).toArray K H v) (hd:blt d n=true)
 (h:WQ Mo P K n ops rest R ((d,cv c v)::e) H):WQ Mo P K n ops (⟨some d,.call ⟨.value y,xs.toArray,ats⟩,ty,pos,af,some (j,want)⟩::rest) R e H:=fun a ha=>by
 refine wpQuiet_step fun S hS=> ?_;rw[Region.jv (o:=⟨some d,.call ⟨.value y,xs.toArray,ats⟩,ty,pos,af,some (j,want)⟩) rfl hj EG hl ha hG];cases c with
 | false=>exact hS _ (h _ (ha.put d hd _))
 | true =>
  simp only[if_true];refine⟨v,fun w hw=> ?_,hS _ (h _ (ha.put d hd v))⟩;unfold Oper.quietAt;rw[tO hf (hy.ev rfl ha) (gL.ev ha rfl)];exact⟨rfl,(hF rfl).call hw⟩
theorem WQ.ny
 (hf:bP P f) (hy:OV true e y (.func (.func f) first.toArray captured.toArray)) (gL:Ga true e xs vs) (hF:aK P f (first++vs++captured).toArray K H v) (hd:blt d n=true)
 (h:WQ Mo P K n ops rest R ((d,v)::e) H):WQ Mo P K n ops (⟨some d,.call ⟨.value y,xs.toArray,ats⟩,ty,pos,af,none⟩::rest) R e H:=fun a ha=>by
 refine wpQuiet_step fun S hS=> ?_;simp only[Region.wanted,if_true];refine⟨v,fun w hw=> ?_,hS _ (h _ (ha.put d hd v))⟩;unfold Oper.quietAt;rw[tO hf (hy.ev rfl ha) (gL.ev ha rfl)];exact⟨rfl,hF.call hw⟩
theorem O9:∀(vs cs r:List Value) (o:Nat),o+vs.length≤cs.length→oU (cs++r) o vs=oU cs o vs++r
 | [],_,_,_,_=>rfl
 | v::vs,cs,r,o,h=>by
  rw[length_cons] at h;show oU ((cs++r).set o v) (o+1) vs=oU (cs.set o v) (o+1) vs++r;rw[set_append_left _ _ ay];exact O9 vs (cs.set o v) r (o+1) (by rw[length_set];omega)
end Go.Sl
namespace Go.Proofs.YtcedojacbhnbiaaGreat
open Go.Sl Go.RowKit Tryz List Nat
structure Fd where
 block:Int
 hd:Hd
 whole:Bool
 deriving DecidableEq
abbrev Fd.cells(x:Fd):List Value:=[.i x.block,.i x.hd.aS,.i x.hd.len,.i x.hd.num,.bool x.whole]
abbrev Fd.v(x:Fd):Value:= .agg #[.i x.block,.i x.hd.aS,.i x.hd.len,.i x.hd.num,.bool x.whole]
theorem Fd.len(x:Fd):x.cells.length=5:=rfl
def JF:Fd:=⟨0,⟨0,0,0⟩,false⟩
abbrev dF(l:List Fd):List Value:=l.flatMap Fd.cells
theorem gT(l:List Fd):(dF l).length=l.length*5:=rW Fd.len l
theorem Lh(hj:j<l.length):fH K (ah b T (dF l++r)::H) b (j*5) (l.getD j JF).cells:=fun i v hi=>by
 have hg:l[j]? =some (l.getD j JF):=by simp[getD,hj]
 have h1:=JK (s:=5) Fd.len l j i _ v hg hi;refine Rd.here ?_;rw[getElem?_append_left (List.getElem?_eq_some_iff.1 h1).1];exact h1
theorem YA(hj:j<l.length)(y:Fd):oU (dF l++r) (j*5) y.cells=dF (l.set j y)++r:=by
 have hg:l[j]? =some (l.getD j JF):=by simp[getD,hj]
 rw[O9 _ _ _ _ (by rw[gT,Fd.len];omega),ab6 (s:=5) Fd.len l j _ y hg]
theorem zi(hj:j<l.length)(ho:o=j*5):bT K (ah b T (dF l++r)::H) b o y.cells (ah b T (dF (l.set j y)++r)::H) :=
 bT.here (ble_eq_true_of_le (by rw[ho,length_append,gT,Fd.len];omega)) (by rw[ho];exact YA hj y)
theorem DC(y:Fd):y.cells.all (·.oneCell')=true:=rfl
section
variable(lt:Fd→Fd→Bool)
def bub(ys:List Fd):Nat→List Fd
 | 0=>ys
 | j+1=>if lt (ys.getD (j+1) JF) (ys.getD j JF) then bub ((ys.set (j+1) (ys.getD j JF)).set j (ys.getD (j+1) JF)) j else ys
def DL(ys:List Fd):Nat→List Fd
 | 0=>ys
 | i+1=>bub lt (DL ys i) i
def wX:List Fd→Fd→List Fd
 | [],x=>[x]
 | y::q,x=>if lt x y then y::wX q x else x::y::q
def eP(ys:List Fd):List Fd:=(ys.foldl (wX lt) []).reverse
end
theorem Jl:∀(j:Nat) (ys:List Fd),(bub lt ys j).length=ys.length
 | 0,_=>rfl
 | j+1,ys=>by
  rw[bub];split
  ·rw[Jl j];simp
  ·rfl
theorem sj(ys:List Fd):∀i,(DL lt ys i).length=ys.length
 | 0=>rfl
 | i+1=>by rw[DL,Jl,sj]
theorem VW:∀(q:List Fd) (x:Fd) (r:List Fd),bub lt (q.reverse++x::r) q.length=(wX lt q x).reverse++r
 | [],x,r=>rfl
 | y::q,x,r=>by
  rw[length_cons,bub,wX];have hq:q.reverse.length=q.length:=length_reverse;have e1:((y::q).reverse++x::r).getD (q.length+1) JF=x:=by
   rw[reverse_cons,append_assoc,getD,getElem?_append_right ay,hq];simp
  have e2:((y::q).reverse++x::r).getD q.length JF=y:=by
   rw[reverse_cons,append_assoc,getD,getElem?_append_right ay,hq];simp
  rw[e1,e2];split
  ·have e3:(((y::q).reverse++x::r).set (q.length+1) y).set q.length x=q.reverse++x::(y::r):=by
    rw[reverse_cons,append_assoc,set_append_right _ _ ay,set_append_right _ _ ay,hq];simp
   rw[e3,VW q x (y::r),reverse_cons,append_assoc];rfl
  ·rw[reverse_cons,reverse_cons];simp
theorem Px(ys:List Fd):∀i,i≤ys.length→DL lt ys i=((ys.take i).foldl (wX lt) []).reverse++ys.drop i∧((ys.take i).foldl (wX lt) []).length=i
 | 0,_=>⟨by simp[DL],rfl⟩
 | i+1,h=>by
  obtain⟨ih,il⟩:=Px ys i ay;have hlen:∀(q:List Fd) (x:Fd),(wX lt q x).length=q.length+1:=fun q x=>by
   induction q with
   | nil=>rfl
   | cons y q ih=>rw[wX];split<;>simp[ih]
  have ht:ys.take (i+1)=ys.take i++[ys[i]'ay]:=by rw[take_add_one,getElem?_eq_getElem ay];rfl
  have hd:ys.drop i=ys[i]'ay::ys.drop (i+1):=drop_eq_getElem_cons ay;have hb:=VW (lt:=lt) ((ys.take i).foldl (wX lt) []) (ys[i]'ay) (ys.drop (i+1));rw[il,←hd] at hb;rw[DL,ih,hb,ht,foldl_append];exact⟨rfl,by show (wX lt _ _).length=_;rw[hlen,il]⟩
theorem KE(ys:List Fd):DL lt ys ys.length=eP lt ys:=by
 rw[(Px ys ys.length (Nat.le_refl _)).1,take_length,drop_length,append_nil];rfl
theorem iO(ys:List Fd):(eP lt ys).length=ys.length:=by rw[←KE,sj]
theorem Et:∀(q:List Fd) (x:Fd),Perm (wX lt q x) (x::q)
 | [],x=>Perm.refl _
 | y::q,x=>by
  rw[wX];split
  ·exact (Perm.cons y (Et q x)).trans (Perm.swap x y q)
  ·exact Perm.refl _
theorem Ji:∀(ys q:List Fd),Perm (ys.foldl (wX lt) q) (ys++q)
 | [],q=>Perm.refl _
 | x::ys,q=>by
  rw[foldl_cons];refine (Ji ys (wX lt q x)).trans ((Perm.append_left ys (Et q x)).trans ?_);exact perm_middle
theorem Ja(ys:List Fd):Perm (eP lt ys) ys:=by grind [eP,reverse_perm,Ji]
theorem zk:x∈eP lt ys↔x∈ys:=(Ja ys).mem_iff
theorem EU(htr:∀a b c,lt a b=false→lt b c=false→lt a c=false)(has:∀a b,lt a b=true→lt b a=false):∀(q:List Fd) (x:Fd),q.Pairwise (fun a b=>lt a b=false)→(wX lt q x).Pairwise (fun a b=>lt a b=false)
 | [],x,_=>pairwise_singleton _ _
 | y::q,x,h=>by
  have hp:=pairwise_cons.1 h;rw[wX];by_cases hx:lt x y=true
  ·rw[if_pos hx];refine pairwise_cons.2 ⟨fun z hz=> ?_,EU htr has q x hp.2⟩;rcases mem_cons.1 ((Et q x).mem_iff.1 hz) with rfl | hz
   ·exact has _ _ hx
   ·exact hp.1 z hz
  ·rw[if_neg hx];have Wz:lt x y=false:=by simpa using hx
   refine pairwise_cons.2 ⟨fun z hz=> ?_,h⟩;rcases mem_cons.1 hz with rfl | hz
   ·exact Wz
   ·exact htr _ _ _ Wz (hp.1 z hz)
theorem BJ(htr:∀a b c,lt a b=false→lt b c=false→lt a c=false)(has:∀a b,lt a b=true→lt b a=false):∀(ys q:List Fd),q.Pairwise (fun a b=>lt a b=false)→(ys.foldl (wX lt) q).Pairwise (fun a b=>lt a b=false)
 | [],_,h=>h
 | x::ys,q,h=>BJ htr has ys _ (EU htr has q x h)
theorem Ns(htr:∀a b c,lt a b=false→lt b c=false→lt a c=false)(has:∀a b,lt a b=true→lt b a=false)(ys:List Fd):(eP lt ys).Pairwise (fun a b=>lt b a=false):=by grind [eP,BJ,Pairwise.nil]
def FI(f:Nat)(c:Fd→Fd→Int):Prop:=bP prog f∧∀(K:World) (F:List aH) (x y:Fd),aK prog f #[x.v,y.v] K F (.i (c x y))
theorem F6(hf:FI f c)(hm:ys.length=m)(hb:m≤1000000) :
 aB prog 265 #[.slice (some ⟨b,0,none⟩) m cap,.i 0,.i (m:Int),.func (.func f) #[] #[]] K (ah b 237 (dF ys++r)::F)
  (fun v H'=>H'=ah b 237 (dF (eP (fun x y=>decide (c x y<0)) ys)++r)::F):=by
 obtain⟨lt,o7⟩:∃lt:Fd→Fd→Bool,lt=fun x y=>decide (c x y<0):=⟨_,rfl⟩;rw[←o7];refine aB.en func265 ntmps265 ?_;refine aj "e$gu" ?_;refine WC.loop (σ:=Nat) (fun i=>[(0,.slice (some ⟨b,0,none⟩) m cap),(1,.i 0),(2,.i (m:Int)),(3,.func (.func f) #[] #[]),(8,.i (i:Int))]) (fun i=>ah b 237 (dF (DL lt ys i)++r)::F) (fun i=>1≤i∧(i=1∨i≤m)) (fun i=>m+1-i) 1 ⟨Nat.le_refl _,.inl rfl⟩ bC cO ?_;rintro i ⟨hi1,him⟩;refine aj "rc1bU" (aW (fun aL=> ?_) fun aL=> ?_)
 ·have hi2:i<m:=ay;refine aj "4gu" ?_;refine WC.loop (σ:=Nat×List Fd) (fun s=>[(0,.slice (some ⟨b,0,none⟩) m cap),(1,.i 0),(2,.i (m:Int)),(3,.func (.func f) #[] #[]),(8,.i (i:Int)),(9,.i (s.1:Int))]) (fun s=>ah b 237 (dF s.2++r)::F) (fun s=>s.1≤i∧s.2.length=m∧bub lt s.2 s.1=DL lt ys (i+1)) (fun s=>s.1) (i,DL lt ys i) ⟨Nat.le_refl _,by rw[sj,hm],rfl⟩ bC cO ?_;rintro⟨j,zs⟩ ⟨hji,hzl,hzb⟩;dsimp only at hji hzl hzb ⊢;obtain⟨za,hza⟩:∃za,za=zs.getD j JF:=⟨_,rfl⟩;obtain⟨zb,Z9⟩:∃zb,zb=zs.getD (j-1) JF:=⟨_,rfl⟩;have hja:fH K (ah b 237 (dF zs++r)::F) b (0+(j:Int).toNat*5) za.cells:=by
   rw[show 0+(j:Int).toNat*5=j*5 by omega,hza];exact Lh ay
  have hjb:j≠0→fH K (ah b 237 (dF zs++r)::F) b (0+((j:Int)-1).toNat*5) zb.cells:=fun h0=>by
   rw[show 0+((j:Int)-1).toNat*5=(j-1)*5 by omega,Z9];exact Lh ay
  refine aj "PP~m..~~q.~~C~~C~~C" ?_;refine WQ.bI (oj:=_) rfl rfl rfl GC.t (V.FW zX (OV.g rfl id) (OV.g rfl id) (fun hc=>by omega)) rfl<|WQ.bI (oj:=_) rfl rfl rfl GC.t (V.fE (vs:=za.cells) ⟨isAgg237,sizeOf237⟩ (OV.g rfl id) rfl (fun _=>hja)) rfl<|aj "~~C~~C" ?_;refine WQ.bI (oj:=_) rfl rfl rfl GC.t (V.Eo (OV.g rfl id) (ak rfl) Jy) rfl<|WQ.bI (oj:=_) rfl rfl rfl GC.t (V.FW zX (OV.g rfl id) (OV.g rfl id) (fun hc=>by simp at hc;omega)) rfl<|WQ.bI (oj:=_) rfl rfl rfl GC.t (V.fE (vs:=zb.cells) ⟨isAgg237,sizeOf237⟩ (OV.g rfl id) rfl (fun hc=>hjb (by simp at hc;omega))) rfl<|WQ.Sg (oj:=_) (first:=[]) (vs:=[_,_]) (captured:=[]) rfl rfl rfl GC.t hf.1 (OV.g rfl id) ⟨OV.g rfl id,OV.g rfl id,trivial⟩ (fun _=>hf.2 _ _ za zb) rfl<|WQ.bI (oj:=_) rfl rfl rfl GC.t (V.lss (OV.g rfl id) (ak rfl)) rfl (WQ.val (V.Ci (ak rfl) (OV.g rfl id)) rfl ?_);refine aj "~iF" (aW (fun h1=> ?_) fun h1=> ?_)
  ·simp only[Gi] at h1;obtain⟨j',rfl⟩:∃j',j=j'+1:=⟨j-1,by omega⟩;rw[Nat.add_sub_cancel] at Z9;have agv:lt za zb=true:=by rw[o7];exact decide_eq_true h1.2
   rw[bub,←hza,←Z9,if_pos agv] at hzb;have ak4:=hjb ay;refine aj "H" ?_;refine WC.dM F (by kernel_rfl)<|aj "m0m1m2m3" ?_;refine WA.t 4 rfl (V.Eo (ak rfl) (ak rfl) Jy) ?_;refine aj "m5m6" ?_;refine WA.t 7 rfl (V.Eo (ak rfl) (ak rfl) Jy) ?_;refine aj "~c8m:m;~c<" ?_;refine WA.two (i:=9) (j:=13) eO (by kernel_rfl) rfl rfl ?_ ?_
   ·refine WL.val (V.fE (vs:=zb.cells) ⟨isAgg237,sizeOf237⟩ (ak rfl) rfl (fun _=>ak4)) rfl<|aj "bl=" ?_;refine WL.val (V.fE (vs:=za.cells) ⟨isAgg237,sizeOf237⟩ (ak rfl) rfl (fun _=>hja)) rfl<|aj "b~c>l?" ?_;refine WL.store (cs:=zb.cells) sizeOf237 (ak rfl) (ak rfl) rfl rfl rfl (zi (j:=j'+1) (y:=zb) ay ay)<|aj "b~c@lA" ?_;refine WL.store (cs:=za.cells) sizeOf237 (ak rfl) (ak rfl) rfl rfl rfl (zi (j:=j') (y:=za) (by rw[length_set];omega) ay)<|aj "bKh`Y" ?_;exact⟨(j',(zs.set (j'+1) zb).set j' za),⟨by show j'≤i;omega,by show ((zs.set _ _).set _ _).length=m;simp[hzl],hzb⟩,lt_succ_self _,.cons rfl bC,fun w h=>h⟩
   ·refine WL.val (V.fE (vs:=za.cells) ⟨isAgg237,sizeOf237⟩ (ak rfl) rfl (fun _=>hja)) rfl<|aj "bl9" ?_;refine WL.val (V.fE (vs:=zb.cells) ⟨isAgg237,sizeOf237⟩ (ak rfl) rfl (fun _=>ak4)) rfl<|aj "b~c>l?" ?_;refine WL.store (cs:=zb.cells) sizeOf237 (ak rfl) (ak rfl) rfl rfl rfl (zi (j:=j'+1) (y:=zb) ay ay)<|aj "b~c@lA" ?_;refine WL.store (cs:=za.cells) sizeOf237 (ak rfl) (ak rfl) rfl rfl rfl (zi (j:=j') (y:=za) (by rw[length_set];omega) ay)<|aj "bKh`Y" ?_;exact⟨(j',(zs.set (j'+1) zb).set j' za),⟨by show j'≤i;omega,by show ((zs.set _ _).set _ _).length=m;simp[hzl],hzb⟩,lt_succ_self _,.cons rfl bC,fun w h=>h⟩
  ·simp only[Gi] at h1;have acN:DL lt ys (i+1)=zs:=by
    rw[←hzb];cases j with
    | zero=>rfl
    | succ j' =>
     rw[Nat.add_sub_cancel] at Z9;have agv:lt za zb=false:=by
      rw[o7];rcases h1 with h | h
      ·omega
      ·exact decide_eq_false h
     rw[bub,←hza,←Z9,if_neg (by rw[agv];decide)]
   refine aj "Nh$Y" ?_;exact⟨i+1,⟨by show 1≤i+1;omega,.inr hi2⟩,(by show m+1-(i+1)<m+1-i;omega),.cons rfl bC,fun w h=>Sat.aT h (by rw[acN])⟩
 ·refine WC.exit ?_;have sW:DL lt ys i=eP lt ys:=by
   rw[←KE,hm];rcases eq_zero_or_pos m with h0 | h0
   ·have :ys=[]:=eq_nil_of_length_eq_zero ay;subst this;have key:∀k,DL lt [] k=[]:=fun k=>eq_nil_of_length_eq_zero (by rw[sj];rfl);rw[key,key]
   ·obtain rfl:i=m:=by omega
    rfl
  exact aF.normal (H':=ah b _ _::F) (bJ.none rfl) (fun w h=>Sat.aT h (by rw[sW])) rfl
def uw(x y:Int):Int:=if x<y then-1 else if y<x then 1 else 0
def orI(a b:Int):Int:=if a≠0 then a else b
def qK(x y:Fd):Int:=orI (uw x.hd.num y.hd.num) (uw y.block x.block)
def aaz(x y:Fd):Int:=orI (uw x.hd.num y.hd.num) (uw x.block y.block)
def Kr(x y:Fd):Int:=uw x.hd.num y.hd.num
theorem LX(x:Int):aK prog 228 #[.i x] K F (.bool false):=by
 refine aB.en func228 ntmps228 ?_;refine aj "aXsd" ?_;exact qR F rfl rfl cO ⟨by simp,rfl⟩
theorem l9(x y:Int):aK prog 167 #[.i x,.i y] K F (.i (uw x y)):=by
 refine aB.en func167 ntmps167 ?_;refine aj "ak" ?_;refine WL.t1 call228 rfl (LX _) rfl<|aj "k" ?_;refine WL.t1 call228 rfl (LX _) rfl<|aj "f5ir5irc1bU" (aW (fun h3=> ?_) fun h3=> ?_)
 ·refine aj "I" ?_;exact qR F rfl rfl cO ⟨by unfold uw;rw[if_pos h3],rfl⟩
 ·refine aj "irc~NbU" (aW (fun h4=> ?_) fun h4=> ?_)
  ·refine aj "I" ?_;exact qR F rfl rfl cO ⟨by unfold uw;rw[if_neg h3,if_pos ay],rfl⟩
  ·refine aj "iI" ?_;exact qR F rfl rfl cO ⟨by unfold uw;rw[if_neg h3,if_neg ay],rfl⟩
theorem V7(hq:Seq K F B 2 1 [.i x,.i y]):aK prog 170 #[.slice B 2 cap] K F (.i (orI x y)):=by
 have rd:∀(i:Nat) v,[Value.int .i64 x,.i y][i]? =some v→Rd K F (B.map (·.add (i*1))) v:=fun i v hi=>by rw[Nat.mul_one];exact hq.rd i v hi
 refine aB.en func170 ntmps170 ?_;refine aj "awfnQ~6S2Ha" ?_;refine WL.val (V.dw eB (ak rfl) (ak rfl) (fun _=>by decide) (fun _=>by first | exact rd 0 _ rfl | exact rd 1 _ rfl)) rfl<|WL.val (V.load isAgg3 (ak rfl) (fun _=>by first | exact rd 0 _ rfl | exact rd 1 _ rfl)) rfl<|aj "Xsb~e" (aW (fun h1=> ?_) fun h1=> ?_)
 ·refine aj "ed" ?_;exact qR F rfl rfl cO ⟨by unfold orI;rw[if_pos h1],rfl⟩
 ·refine aj "iq~M~uS2Ha" ?_;refine WL.val (V.dw eB (ak rfl) (ak rfl) (fun _=>by decide) (fun _=>by first | exact rd 0 _ rfl | exact rd 1 _ rfl)) rfl<|WL.val (V.load isAgg3 (ak rfl) (fun _=>by first | exact rd 0 _ rfl | exact rd 1 _ rfl)) rfl<|aj "Xsb~e" (aW (fun h1=> ?_) fun h1=> ?_)
  ·refine aj "ed:" ?_;unfold orI;rw[if_neg ay]
  ·refine aj "iq~r~uS~zNed:" ?_;unfold orI;rw[if_neg ay];congr 1;omega
theorem yg:FI 164 qK:=⟨call164,fun K F x y=>by
 refine aB.en func164 ntmps164 ?_;refine aj "a*" fun b2=> ?_;refine aj "*" fun b3=> ?_;refine aj "t~SZ0Z1^2Z3Z4^5Z7^8Z9^:l6" ?_;refine WL.t2 call167 rfl rfl (l9 _ _) rfl<|aj "bl;" ?_;refine WL.t2 call167 rfl rfl (l9 _ _) rfl<|aj "bl<" ?_;refine WL.buildSlice (E:=3) (cs:=[_,_]) (vs:=[(0,_),(1,_)]) ⟨ak rfl,ak rfl,trivial⟩ rfl (p9 _ _) rfl (fun b17=>aj "bl=" ?_);exact WL.t1 call170 rfl (V7 (Seq.all rfl)) rfl<|aj "b~p>K~C+" trivial
 ⟩
theorem Yq:FI 169 aaz:=⟨call169,fun K F x y=>by
 refine aB.en func169 ntmps169 ?_;refine aj "a*" fun b2=> ?_;refine aj "*" fun b3=> ?_;refine aj "t~SZ0Z1^2Z3Z4^5Z7^8Z9^:l6" ?_;refine WL.t2 call167 rfl rfl (l9 _ _) rfl<|aj "bl;" ?_;refine WL.t2 call167 rfl rfl (l9 _ _) rfl<|aj "bl<" ?_;refine WL.buildSlice (E:=3) (cs:=[_,_]) (vs:=[(0,_),(1,_)]) ⟨ak rfl,ak rfl,trivial⟩ rfl (p9 _ _) rfl (fun b17=>aj "bl=" ?_);exact WL.t1 call170 rfl (V7 (Seq.all rfl)) rfl<|aj "b~p>K~C+" trivial
 ⟩
theorem abK:FI 166 Kr:=⟨call166,fun K F x y=>by
 refine aB.en func166 ntmps166 ?_;refine aj "a*" fun b2=> ?_;refine aj "*" fun b3=> ?_;refine aj "w7p7p" ?_;exact WL.t2 call167 rfl rfl (l9 _ _) rfl<|aj "d+" trivial
 ⟩
abbrev jU(c:Fd→Fd→Int):Fd→Fd→Bool:=fun x y=>decide (c x y<0)
theorem J4{f:Nat}:aB prog 265 #[.slice none 0 0,.i 0,.i 0,.func (.func f) #[] #[]] K F (fun v H'=>H'=F):=by
 refine aB.en func265 ntmps265 ?_;refine aj "e$gu" ?_;refine WC.rounds 1 (aj "rc15N" ?_);exact aF.normal (H':=F) (bJ.none rfl) cO rfl
theorem CV{f m:Nat}(ao6:aB prog 265 #[S,.i 0,.i (m:Int),.func (.func f) #[] #[]] K F (fun v H'=>H'=H2))(hm:m<20) :
 aB prog 229 #[S,.i (m:Int),.func (.func f) #[] #[]] K F (fun v H'=>H'=H2):=by
 refine aB.en func229 ntmps229 ?_;refine aj "akotu" ?_;refine WC.rounds 1 (aj "rc~;5Nezc" ?_);refine WL.c4 call265 rfl rfl rfl rfl (ao6) rfl ?_;rintro v H0 h0;subst h0;refine aj "bu" ?_;refine WC.rounds 1 (aj "rc15N" ?_);exact aF.normal (H':=H0) (bJ.none rfl) cO rfl
theorem AV(hf:FI f c)(hm:ys.length=m)(h20:m<20) :
 aB prog 168 #[.slice A m cap,.func (.func f) #[] #[]] K (aV (.slice A m cap) 237 5 m (dF ys)::F)
  (fun v H'=>∀w,Sat K w H'→Sat K w (aV (.slice A m cap) 237 5 m (dF (eP (jU c) ys))::F)):=by
 cases A with
 | none =>
  refine aB.lG (p:=m=0∧cap=0) (fun w hw=>⟨(aV.yM hw).1,(aV.yM hw).2.1⟩) (fun h0=> ?_);obtain⟨h1,h2⟩:=h0;subst h2;have hy:ys=[]:=eq_nil_of_length_eq_zero ay;subst hy;obtain rfl:m=0:=by omega
  have dL:=CV (K:=K) (F:=aV (.slice none 0 0) 237 5 0 (dF [])::F) (f:=f) (m:=0) (S:= .slice none 0 0) J4 aN;refine aB.en func168 ntmps168 ?_;refine aj "Mnc" ?_;refine WL.c3 call229 rfl rfl rfl (dL) rfl ?_;rintro v H0 h0;subst h0;exact WL.nil<|aF.normal (H':=aV (.slice none 0 0) 237 5 0 (dF [])::F) (bJ.none rfl) cO cO
 | some a =>
  refine aB.lG (p:=∃g,a=⟨g,0,none⟩) (fun w hw=>aV.addr hw) (fun ⟨g,hg⟩=> ?_);subst hg;refine aB.ex (fun w hw=>Sat.nU hw) (fun r hr=> ?_);obtain⟨r1,r2,r3,r4⟩:=hr;have dL:=CV (F6 (K:=K) (F:=F) hf (b:=g) (m:=m) (cap:=cap) (ys:=ys) (r:=r) hm ay) h20;refine aB.en func168 ntmps168 ?_;refine aj "Mnc" ?_;refine WL.c3 call229 rfl rfl rfl (dL) rfl ?_;rintro v H0 h0;subst h0;refine WL.nil<|aF.normal (H':=ah g 237 (dF (eP (jU c) ys)++r)::F) (bJ.none rfl) cO (fun w h=> ?_);have hfl:(dF (eP (jU c) ys)).length=m*5:=by rw[gT,iO,hm]
  have asi:(dF ys).length=m*5:=by rw[gT,hm]
  have h':=Sat.BX (m:=m) (cap:=cap) (s:=5) h (by rw[length_append] at r1 ⊢;omega) r3 r4;rw[take_left' hfl] at h';exact h'
structure bX where
 A:Option Addr
 c:Nat
 l:List Fd
abbrev bX.v(x:bX):Value:= .slice x.A x.l.length x.c
def bX.row(x:bX):aH:=aV (.slice x.A x.l.length x.c) 237 5 x.l.length (dF x.l)
def nE(aS:Nat)(x:Fd):Bool:=x.whole&&decide (x.hd.aS=(aS:Int))
def ji(aJ:Nat)(fs:List Fd):List (List Fd):=(List.range aJ).map fun aS=>fs.filter (nE aS)
theorem Ct(aJ:Nat)(fs:List Fd):(ji aJ fs).length=aJ:=by simp[ji]
theorem KN{aJ:Nat}(hl:aS<aJ)(hx:x.whole=true)(uI:x.hd.aS=(aS:Int)):ji aJ (fs++[x])=(ji aJ fs).set aS (fs.filter (nE aS)++[x]):=by
 apply ext_getElem
 ·simp[ji]
 ·intro i h1 h2;rw[getElem_set];simp only[ji,getElem_map,getElem_range,filter_append];by_cases h:aS=i
  ·subst h;rw[if_pos rfl];congr 1;rw[filter_cons,if_pos (by unfold nE;rw[hx,uI];simp)];rfl
  ·rw[if_neg h,filter_cons,if_neg (by unfold nE;rw[hx,uI];simp;omega)];simp
theorem SF(h:∀aS,aS<aJ→nE aS x=false):ji aJ (fs++[x])=ji aJ fs:=by simp_all [ji,map_congr_left,filter_append,filter_cons,if_neg,mem_range]
end Go.Proofs.YtcedojacbhnbiaaGreat
namespace Go.Sl
open Go Go.RowKit Go.BigFrame List Nat
abbrev F8(bad:Value):List PanicEntry:=[{ v:=bad,recovered:=false }]
def pF(P:Program)(f:FuncId)(args:Array Value)(K:World)(H:List aH)(bad:Value)(post:Value→List aH→Prop)(LD:List aH→Prop):Prop :=
 ∀ w,Sat K w H→Calls P f args w fun e w'=>∃H',Sat K w' H'∧((∃v,e= .returned v∧post v H')∨(e= .panicked (F8 bad)∧LD H'))
theorem pF.mono(h:pF P f args K H bad post LD)(hp:∀v H',post v H'→post' v H')(hq:∀H',LD H'→anW H'):pF P f args K H bad post' anW :=
 fun w hw=>(h w hw).mono fun e w' ⟨H',h1,h2⟩=>⟨H',h1,h2.imp (fun ⟨v,a,b⟩=>⟨v,a,hp _ _ b⟩) (fun ⟨a,b⟩=>⟨a,hq _ b⟩)⟩
def aaA(P:Program)(K:World)(n:Nat)(fn:Func)(bad:Value)(post:Value→List aH→Prop)(LD:List aH→Prop):iX
 | Mo,.normal,e,H | Mo,.ret,e,H=>Mo.ds=[]∧∃v H',bJ Mo P K n fn e H v∧(∀w,Sat K w H→Sat K w H')∧post v H'
 | Mo,.panic c,e,H=>Mo.ds=[]∧c=F8 bad∧∃H',(∀w,Sat K w H→Sat K w H')∧LD H'
 | _,_,_,_=>False
theorem AX{fn:Func}(hn:fn.ntmps=n)(hl:ble vs.length n=true):eF ⟨none,[]⟩ n (kV 0 vs) { tmps:=vs.toArray++Array.replicate (fn.ntmps-vs.toArray.size) undef,defers:=[] }:=by
 have Dp:vs.length≤n:=by simpa using hl
 refine⟨rfl,by simp[hn];omega,fun t v hv=> ?_⟩;obtain⟨_,h2⟩:=nO vs 0 t v hv;simp only[Nat.sub_zero] at h2;have ht:t<vs.length:=by
  rcases Nat.lt_or_ge t vs.length with h | h
  ·exact h
  ·simp[getElem?_eq_none h] at h2
 rw[Array.getD_eq_getD_getElem?,Array.getElem?_append_left (by simpa using ht)];simp[h2]
section
variable{P:Program}{K:World}{n:Nat}{Q:iX}{e:Env}{H:List aH}{bad:Value}{post:Value→List aH→Prop}{LD:List aH→Prop}
theorem aB.Er(hf:P.funcs[f]? =some fn)(hb:fn.body=some c)(hn:fn.ntmps=n)(hl:ble vs.length n=true)
 (h:WC ⟨none,[]⟩ P K n c (aaA P K n fn bad post LD) (kV 0 vs) H):pF P f vs.toArray K H bad post LD:=by
 intro w hw;refine calls_of_wp hf hb (wp_mono (h _ w (AX hn hl) hw) ?_);rintro x a w ⟨ds,e',H',h1,h2,h3⟩;cases x<;>first
  | (obtain⟨k0,v,ou,k1,k2,k3⟩:=h3;exact⟨h1.defers.trans k0,v,k1 a w h1 h2,ou,k2 w h2,.inl ⟨v,rfl,k3⟩⟩)
  | (obtain⟨k0,rfl,ou,k2,k3⟩:=h3;exact⟨h1.defers.trans k0,ou,k2 w h2,.inr ⟨rfl,k3⟩⟩)
  | exact h3.elim
theorem aaA.panic(hs:∀w,Sat K w H→Sat K w H')(hp:LD H'):aaA P K n fn bad post LD ⟨r,[]⟩ (.panic (F8 bad)) e H:=⟨rfl,rfl,H',hs,hp⟩
theorem WL.aaX{d:Nat}{vs:List Value}(hr:∀a w,eF ⟨none,ds⟩ n e a→(execOp a.eval ⟨some d,op,ty,pos,af,none⟩).run P w= .ok (.enter f vs.toArray) w)
 (hF:pF P f vs.toArray K H bad post LD) (hd:blt d n=true) (hp:∀H',LD H'→Q ⟨none,ds⟩ (.panic (F8 bad)) e H') (h:∀v H',post v H'→WL ⟨none,ds⟩ P K n ops rest Q ((d,v)::e) H'):WL ⟨none,ds⟩ P K n ops (⟨some d,op,ty,pos,af,none⟩::rest) Q e H:=fun a w ha hw=>by
 refine kH rfl fun S hS=> ?_;show Oper.wp P _ a w S _;unfold Oper.wp;rw[hr a w ha,Oper.upon_enter];refine (hF w hw).mono ?_;rintro x w' ⟨H',h1,⟨v,rfl,h2⟩ | ⟨rfl,h2⟩⟩
 ·exact hS _ _ (h v H' h2 _ w' (ha.put d hd v) h1)
 ·exact⟨ds,e,H',ha,h1,hp H' h2⟩
theorem WL.jG(hf:bP P f)(gL:Ga true e xs vs)
 (hF:pF P f vs.toArray K H bad post LD) (hd:blt d n=true) (hp:∀H',LD H'→Q ⟨none,ds⟩ (.panic (F8 bad)) e H') (h:∀v H',post v H'→WL ⟨none,ds⟩ P K n ops rest Q ((d,v)::e) H'):WL ⟨none,ds⟩ P K n ops (⟨some d,.call ⟨.value (.func f),xs.toArray,ats⟩,ty,pos,af,none⟩::rest) Q e H :=
 WL.aaX (fun a w ha=>xS hf (gL.ev ha rfl)) hF hd hp h
theorem WL.agn(hf:bP P f)(hy:OV true e y (.func (.func f) first.toArray captured.toArray))(gL:Ga true e xs vs)
 (hF:pF P f (first++vs++captured).toArray K H bad post LD) (hd:blt d n=true) (hp:∀H',LD H'→Q ⟨none,ds⟩ (.panic (F8 bad)) e H') (h:∀v H',post v H'→WL ⟨none,ds⟩ P K n ops rest Q ((d,v)::e) H'):WL ⟨none,ds⟩ P K n ops (⟨some d,.call ⟨.value y,xs.toArray,ats⟩,ty,pos,af,none⟩::rest) Q e H :=
 WL.aaX (fun a w ha=>tO hf (hy.ev rfl ha) (gL.ev ha rfl)) hF hd hp h
theorem WL.agf{dst:Option Nat}(hx:OV true e x (.iface t v))
 (h:Q ⟨none,ds⟩ (.panic (F8 (.iface t v))) e H):WL ⟨none,ds⟩ P K n ops (⟨dst,.panic x,ty,pos,af,none⟩::rest) Q e H:=fun a w ha hw=>by
 refine kH rfl fun S hS=> ?_;show Oper.wp P _ a w S _;unfold Oper.wp;have h1:(execOp a.eval ⟨dst,.panic x,ty,pos,af,none⟩).run P w= .halt (.panic (.iface t v)) w:=by
  show ((do pure (Next.value (←Instr.panic (a.eval x)))):Sem Next).run P w=_;rw[hx.ev rfl ha];rfl
 rw[h1,Oper.upon_panic];exact⟨ds,e,H,ha,hw,h⟩
def akl(P:Program)(f:FuncId)(args:Array Value)(K:World)(H:List aH)(bad:Value)(post:List aH→Prop):Prop :=
 ∀ w,Sat K w H→CallsD P f args (.panicking (F8 bad)) w fun e u' w'=>u'= .panicking [{ v:=bad,recovered:=true }]∧∃v H',e= .returned v∧Sat K w' H'∧post H'
def akb(P:Program)(K:World)(n:Nat)(fn:Func)(bad:Value)(post:Value→List aH→Prop):iX
 | Mo,.normal,e,H | Mo,.ret,e,H=>∃f cap,Mo.ds=[⟨.fn (.func f) cap,#[]⟩]∧bP P f∧∃pd,Fp P f cap K H pd∧∀H',pd H'→∃v ou,bJ Mo P K n fn e H' v∧(∀w,Sat K w H'→Sat K w ou)∧post v ou
 | Mo,.panic c,e,H=>c=F8 bad∧∃f cap,Mo.ds=[⟨.fn (.func f) cap,#[]⟩]∧bP P f∧∃pd,akl P f cap K H bad pd∧∀H',pd H'→∃v ou,bJ Mo P K n fn e H' v∧(∀w,Sat K w H'→Sat K w ou)∧post v ou
 | _,_,_,_=>False
theorem aB.agw(hf:P.funcs[f]? =some fn)(hb:fn.body=some c)(hn:fn.ntmps=n)(hl:ble vs.length n=true)
 (h:WC ⟨none,[]⟩ P K n c (akb P K n fn bad post) (kV 0 vs) H):aB P f vs.toArray K H post:=by
 intro w hw;refine calls_of_wp_defers hf hb (wp_mono (h _ w (AX hn hl) hw) ?_);rintro x a w ⟨ds,e',H',h1,h2,h3⟩;have key:(∃f cap,ds=[⟨.fn (.func f) cap,#[]⟩]∧bP P f∧∃pd,Fp P f cap K H' pd∧∀H2,pd H2→∃v ou,bJ ⟨none,ds⟩ P K n fn e' H2 v∧(∀w,Sat K w H2→Sat K w ou)∧post v ou) →
  Leaves P fn a.tmps (fun e w'=>∃v H',e= .returned v∧Sat K w' H'∧post v H') a.defers .returning w:=by
  rintro⟨g,cap,k0,k1,pd,k2,k3⟩;rw[h1.defers.trans k0];refine leaves_cons (f:=g) (args:=cap) (by simp) (by show (callFunc g (#[]++cap)).run P w=_;rw[k1];simp)<|(k2 w h2).mono ?_;rintro e2 u' w' ⟨rfl,v,H2,rfl,k4,k5⟩;obtain⟨v2,H3,k6,k7,k8⟩:=k3 H2 k5;exact⟨v2,k6 a w' h1 k4,v2,H3,rfl,k7 w' k4,k8⟩
 cases x<;>first
  | exact key h3
  | skip
 case panic c =>
  obtain⟨rfl,g,cap,k0,k1,pd,k2,k3⟩:=h3;show Leaves P fn a.tmps _ a.defers (.panicking (F8 bad)) w;rw[h1.defers.trans k0];refine leaves_cons (f:=g) (args:=cap) (by simp) (by show (callFunc g (#[]++cap)).run P w=_;rw[k1];simp)<|(k2 w h2).mono ?_;rintro e2 u' w' ⟨rfl,v,H2,rfl,k4,k5⟩;obtain⟨v2,H3,k6,k7,k8⟩:=k3 H2 k5;exact⟨v2,k6 a w' h1 k4,v2,H3,rfl,k7 w' k4,k8⟩
 all_goals exact h3.elim
theorem aaZ{o:Oper}(hn:∀a w,next a w→next' a w)(hq:∀e a w,Q1 e a w→Q2 e a w)(hl:¬LetsOut Q1)(r:Result Next)(h:o.upon P a next Q1 r):o.upon P a next' Q2 r:=by
 unfold Oper.upon at h ⊢;split at h<;>first
  | exact hn _ _ h
  | exact hq _ _ _ h
  | exact h.elim
  | exact Rows.mono h (fun _ _ he=>hn _ _ he)
  | (
   refine Calls.mono h (fun e w'' he=> ?_);cases e
   ·exact hn _ _ he
   ·exact hq _ _ _ he
   ·exact absurd he hl)
theorem Fg{ops:Array Oper}{Q1:Exit→Act→World→Prop}{Q2:Exit→Act→List Frame→World→Prop}{cs:List Frame}(hl:¬LetsOut Q1)(hq:∀e a w,Q1 e a w→Q2 e a cs w):∀(l:List Oper) (k:Nat),(∀j,l[j]? =ops[k+j]?)→∀(a:Act) (w:World),wpList P ops Q1 l a w→wpOpsS P ops Q2 (range' k l.length) a cs w
 | [],k,_,a,w,h=>hq _ _ _ h
 | o::l,k,hj,a,w,h=>by
  have h0:ops[k]? =some o:=by simpa using (hj 0).symm
  have ih:=Fg (Q2:=Q2) (cs:=cs) hl hq l (k+1) (fun j=>by have :=hj (j+1);simpa [Nat.add_assoc,Nat.add_comm 1 j] using this);rw[length_cons,range'_succ,wpOpsS,h0];unfold wpList at h;dsimp only;split
  ·rename_i hw;rw[if_pos hw] at h;rcases h with h | h
   ·unfold Oper.wp at h;split
    ·rename_i w' hr;rw[hr] at h;exact h.elim
    ·exact aaZ ih hq hl _ h
   ·exact absurd h.2 hl
  ·rename_i hw;rw[if_neg hw] at h;exact ih _ _ h
theorem J3{fn:Func}{id d:Nat}{pd:List aH→Prop}(hf:P.funcs[f]? =some fn)(hb:fn.body=some (.seq (.region id (⟨some d,.call ⟨.builtin .recover,#[],#[]⟩,ty,pos,af,none⟩::l).toArray false) c))(hn:fn.ntmps=n)(hl:ble vs.length n=true)(hd:blt d n=true)
 (ahP:∀(c₀:Frame) cs,c₀.mode=u→recoverD (c₀::cs)=some (v0,{ c₀ with mode:=u' }::cs)∨(recoverD (c₀::cs)=none∧v0= .nilIface∧u'=u))
 (h:WL ⟨none,[]⟩ P K n (⟨some d,.call ⟨.builtin .recover,#[],#[]⟩,ty,pos,af,none⟩::l).toArray l (zO (fun Mo=>WC Mo P K n c (aF P K n fn fun v H'=>pd H')) (aF P K n fn fun v H'=>pd H')) ((d,v0)::kV 0 vs) H) :
 ∀ w,Sat K w H→CallsD P f vs.toArray u w fun e u2 w'=>u2=u'∧∃v H',e= .returned v∧Sat K w' H'∧pd H':=by
 intro w hw;refine callsD_of_wpS hf hb fun c₀ cs hu=> ?_;apply wpS_seq;apply wpS_region;have hs:(⟨some d,.call ⟨.builtin .recover,#[],#[]⟩,ty,pos,af,none⟩::l:List Oper).toArray.size=l.length+1:=by simp
 rw[hs,range_eq_range',range'_succ,wpOpsS];simp only[getElem?_toArray,getElem?_cons_zero,Region.wanted,if_true];have hr:∀(a:Act),(execOp a.eval ⟨some d,.call ⟨.builtin .recover,#[],#[]⟩,ty,pos,af,none⟩).run P w= .ok .recover w:=fun a=>by rw[execOp_builtin];rfl
 rw[hr];have L8:¬LetsOut (lift none K n (zO (fun Mo=>WC Mo P K n c (aF P K n fn fun v H'=>pd H')) (aF P K n fn fun v H'=>pd H'))):=by
  rintro⟨a,w,ds,e,H,_,_,h3⟩;exact h3
 have key:∀(cs1:List Frame),cs1= { c₀ with mode:=u' }::cs→wpOpsS P (⟨some d,.call ⟨.builtin .recover,#[],#[]⟩,ty,pos,af,none⟩::l).toArray (Exit.thenS (c.wpS P (bodyPostS P fn c₀ cs (fun e u2 w'=>u2=u'∧∃v H',e= .returned v∧Sat K w' H'∧pd H'))) (bodyPostS P fn c₀ cs (fun e u2 w'=>u2=u'∧∃v H',e= .returned v∧Sat K w' H'∧pd H'))) (range' 1 l.length) (({ tmps:=vs.toArray++Array.replicate (fn.ntmps-vs.toArray.size) undef,defers:=[] }:Act).put (some d) v0) cs1 w:=by
  rintro cs1 rfl;refine Fg L8 ?_ l 1 (fun j=>by simp[Nat.add_comm 1 j]) _ _ (h _ w ((AX hn hl).put d hd v0) hw);rintro x a w ⟨ds,e',H',h1,h2,h3⟩;cases x
  case normal =>
   show c.wpS P _ a _ w;refine wpS_of_wp (wp_mono (h3 a w h1 h2) ?_);rintro x a w ⟨ds,e'',ou,k1,k2,k3⟩;cases x<;>first
    | (obtain⟨k0,v,H3,k4,k5,k6⟩:=k3;exact⟨k1.defers.trans k0,u',rfl,v,k4 a w k1 k2,rfl,v,H3,rfl,k5 w k2,k6⟩)
    | exact k3.elim
  case ret =>
   obtain⟨k0,v,H3,k4,k5,k6⟩:=h3;exact⟨h1.defers.trans k0,u',rfl,v,k4 a w h1 h2,rfl,v,H3,rfl,k5 w h2,k6⟩
  all_goals exact h3.elim
 rcases ahP c₀ cs hu with h1 | ⟨h1,rfl,rfl⟩
 ·rw[h1];exact key _ rfl
 ·rw[h1];exact key _ (by subst hu;rfl)
def NoP(Q:iX):iX
 | Mo,.panic c,e,H=>False
 | Mo,x,e,H=>Q Mo x e H
theorem WC.noP(h:WC Mo P K n c (NoP Q) e H):WC Mo P K n c Q e H:=WC.mono h fun Mo x e H hh=>by
 cases x<;>first | exact hh | exact hh.elim
theorem pF.aoK(h:pF P f args K H bad post LD)(hp:∀H',¬LD H'):aB P f args K H post:=fun w hw=>(h w hw).mono fun e w' ⟨H',h1,h2⟩=>by
 rcases h2 with ⟨v,a,b⟩ | ⟨_,b⟩
 ·exact⟨v,H',a,h1,b⟩
 ·exact absurd b (hp H')
theorem V.Yu{T:Nat}(hx:OV c e x v)(hI:∀w,(Instr.makeInterface T v).run P w= .ok u w):eX Mo P K n c e H ⟨dst,.makeInterface T x,ty,pos,af,gd⟩ u:=fun hc a w ha hw=>by
 show ((do pure (Next.value (←Instr.makeInterface T (a.eval x)))):Sem Next).run P w=_;rw[hx.ev hc ha];simp[hI w]
theorem V.typeAssert{T S:Nat}(hx:OV c e x v)(hI:∀w,(Instr.typeAssert v S T b).run P w= .ok u w):eX Mo P K n c e H ⟨dst,.typeAssert x S T b,ty,pos,af,gd⟩ u:=fun hc a w ha hw=>by
 show ((do pure (Next.value (←Instr.typeAssert (a.eval x) S T b))):Sem Next).run P w=_;rw[hx.ev hc ha];simp[hI w]
end
end Go.Sl
namespace Go.Proofs.YtcedojacbhnbiaaGreat
open Go.Sl Go.RowKit Tryz List Nat
def bX.sort(c:Fd→Fd→Int)(x:bX):bX:= { x with l:=eP (jU c) x.l }
theorem bX.agz(c:Fd→Fd→Int)(x:bX):(x.sort c).v=x.v:=by
 show Value.slice x.A (eP (jU c) x.l).length x.c=_;rw[iO]
def fr0:bX:=⟨none,0,[]⟩
def ow(c:Fd→Fd→Int)(rs:List bX):Nat→List bX
 | 0=>rs
 | j+1=>(ow c rs j).set j ((rs.getD j fr0).sort c)
theorem qd(c:Fd→Fd→Int)(rs:List bX):∀j,(ow c rs j).length=rs.length
 | 0=>rfl
 | j+1=>by rw[ow,length_set,qd]
theorem zf(c:Fd→Fd→Int)(rs:List bX):∀j,j≤rs.length→∀i,(ow c rs j)[i]? =if i<j then (rs[i]?).map (bX.sort c) else rs[i]?
 | 0,_,i=>by simp[ow]
 | j+1,hj,i=>by
  rw[ow,getElem?_set,qd,zf c rs j ay];by_cases h:j=i
  ·subst h;rw[if_pos rfl,if_pos ay,if_pos ay];simp[getD,show j<rs.length by omega]
  ·rw[if_neg h];by_cases h2:i<j
   ·rw[if_pos h2,if_pos ay]
   ·rw[if_neg h2,if_neg ay]
theorem adQ(c:Fd→Fd→Int)(rs:List bX)(j:Nat)(hj:j≤rs.length):(ow c rs j).map bX.v=rs.map bX.v:=by
 apply ext_getElem?;intro i;rw[getElem?_map,getElem?_map,zf c rs j hj];split
 ·rw[Option.map_map];congr 1;funext x;exact bX.agz c x
 ·rfl
theorem adP(c:Fd→Fd→Int)(rs:List bX):(ow c rs rs.length).map bX.l=(rs.map bX.l).map (eP (jU c)):=by
 apply ext_getElem?;intro i;rw[getElem?_map,getElem?_map,getElem?_map,zf c rs _ (Nat.le_refl _)];by_cases h:i<rs.length
 ·rw[if_pos h,Option.map_map,Option.map_map];rfl
 ·rw[if_neg h,getElem?_eq_none ay];rfl
theorem uW(l:List Fd)(x:Fd):dF (l++[x])=dF l++x.cells:=by simp[dF]
theorem CP(hs:Seq K F A n 5 (dF fs))(hx:fs[k]? =some x)(hj:x.cells[j]? =some v):Rd K F (A.map (·.add (k*5+j))) v :=
 hs.rd _ _ (JK (s:=5) Fd.len fs k j x v hx hj)
def Uh(f:Nat)(c:Fd→Fd→Int)(ys:List Fd):Prop:=∀(K:World) (F:List aH) (A:Option Addr) (cap:Nat),aB prog 168 #[.slice A ys.length cap,.func (.func f) #[] #[]] K (aV (.slice A ys.length cap) 237 5 ys.length (dF ys)::F)
 (fun v H'=>∀w,Sat K w H'→Sat K w (aV (.slice A ys.length cap) 237 5 ys.length (dF (eP (jU c) ys))::F))
theorem zP(hf:FI f c)(hl:1≤aJ∧aJ≤64)(hs:Seq K F A n 5 (dF fs))(hn:fs.length=n)(h20:n<1000)(UU:∀aS,aS<aJ→Uh f c (fs.filter (nE aS))) :
 aB prog 163 #[.i (aJ:Int),.slice A n cap,.func (.func f) #[] #[]] K F
  (fun v H'=>∃bo:Nat,∃rs:List bX,rs.length=aJ∧rs.map bX.l=(ji aJ fs).map (eP (jU c))∧v= .tuple #[.slice (some ⟨bo,0,none⟩) aJ aJ,.i 0]∧H'=ah bo 170 (rs.map bX.v)::bK (rs.map bX.row)::F):=by
 refine aB.en func163 ntmps163 ?_;refine aj "aof1cV~lOb~3W" ?_;refine WL.nM (m:=aJ) underlying238 akR (ak rfl) (ak rfl) rfl rfl ay rfl rfl rfl (fun bo=> ?_);refine aj "fnQ" ?_;refine WC.loop (σ:=Nat×List bX) (fun s=>[(0,.i (aJ:Int)),(2,.func (.func f) #[] #[]),(8,.slice (some ⟨bo,0,none⟩) aJ aJ),(22,.slice A n cap),(23,.i (n:Int)),(24,.i (s.1:Int))]) (fun s=>ah bo 170 (s.2.map bX.v)::bK (s.2.map bX.row)::F) (fun s=>s.1≤n∧s.2.length=aJ∧s.2.map bX.l=ji aJ (fs.take s.1)) (fun s=>n-s.1) (0,replicate aJ fr0) ⟨zero_le _,length_replicate,by
  rw[map_replicate];apply ext_getElem
  ·simp[ji]
  ·intro i h1 h2;simp[ji,fr0]⟩ bC (fun w h=>by
  dsimp only;rw[map_replicate,map_replicate];have key:∀m,∀H,Sat K w H→Sat K w (replicate m fr0.row++H):=fun m=>by
   induction m with
   | zero=>intro H h;exact h
   | succ m ih=>intro H h;exact Sat.gI (ih H h) _ _
  have h1:Sat K w (replicate aJ fr0.row++(ah bo 170 (replicate aJ fr0.v)::F)):=key aJ _ h;exact (Sat.all h1).p1) ?_
 rintro⟨k,rs⟩ ⟨hk,pG,tu⟩;dsimp only at hk pG tu ⊢;refine aj "SU" (aW (fun aQ=> ?_) fun aQ=> ?_)
 ·obtain⟨x,hx⟩:∃x,fs[k]? =some x:=⟨_,getElem?_eq_getElem ay⟩;have UW:∀(j:Nat) v,x.cells[j]? =some v→Rd K F (A.map (·.add (k*5+j))) v:=fun j v hj=>CP hs hx hj;have Du:fs.take (k+1)=fs.take k++[x]:=by rw[take_add_one,hx];rfl
  have Bv:(k:Int).toNat=k:=ay;refine aj "Ha" ?_;refine WL.val (V.aG (v':=sp A (k*5)) (V.dw zX (ak rfl) (ak rfl) (fun hc=>by omega) (fun hc=>by rw[Bv];repeat (first | exact UW 0 _ rfl | apply Rd.up))) (fun _=>by rw[Bv])) rfl<|WL.val (V.tX (vs:=x.cells) ⟨isAgg237,sizeOf237⟩ (ak rfl) rfl aN (fun _ j v hj=>by repeat (first | exact UW j v hj | apply Rd.up))) rfl<|aj "v" fun b10=> ?_;refine aj "CL7pwpc!~Q3c!!~~B3j" (aW (fun h2=> ?_) fun h2=> ?_)
  ·simp only[Gi] at h2;obtain⟨lb,hlb⟩:∃lb:Nat,x.hd.aS=(lb:Int):=⟨x.hd.aS.toNat,by omega⟩;have hll:lb<aJ:=ay;obtain⟨r,hr⟩:∃r,r=rs[lb]'ay:=⟨_,rfl⟩;have RZ:rs[lb]? =some r:=by rw[hr];exact getElem?_eq_getElem ay
   have acQ:r.l=(fs.take k).filter (nE lb):=by
    have h3:(rs.map bX.l)[lb]? =some r.l:=by rw[getElem?_map,RZ];rfl
    rw[tu] at h3;simp only[ji,getElem?_map,getElem?_range hll,Option.map_some] at h3;injection h3 with h3
    exact h3.symm
   have RN:r.l.length≤1000:=by rw[acQ];exact Nat.le_trans (length_filter_le _ _) (by rw[length_take];omega)
   have acy:(rs.map bX.row)[lb]'(by rw[length_map];omega)=r.row:=by rw[getElem_map,hr]
   have hvg:(rs.map bX.v)[0+x.hd.aS.toNat*1]? =some r.v:=by rw[hlb,show 0+((lb:Nat):Int).toNat*1=lb by omega,getElem?_map,RZ];rfl
   refine WC.sub (H':=aV (.slice r.A r.l.length r.c) 237 5 r.l.length (dF r.l)::ah bo 170 (rs.map bX.v)::bK ((rs.map bX.row).eraseIdx lb)::ah b10 237 x.cells::F) (Sub.refl _) (fun w h=>by
    have h4:=Sat.FQ (k:=lb) (by rw[length_map];omega) (h.bg 3 [2,1,0] rfl);rw[acy] at h4;exact h4.bg 4 [0,2,1,3] rfl) ?_
   refine WC.dM (bK ((rs.map bX.row).eraseIdx lb)::ah b10 237 x.cells::F) (by kernel_rfl)<|aj "m0m1m2m3~c4~~e6" ?_;refine WA.two (i:=5) (j:=7) eO (by kernel_rfl) rfl rfl ?_ ?_
   ·refine WL.val (V.load isAgg170 (ak rfl) (fun _=>by repeat (first | exact Rd.here hvg | apply Rd.up))) rfl<|aj "bl7" ?_;refine WL.buildSlice (E:=237) (cs:=[_,_,_,_,_]) (vs:=[(0,_)]) ⟨ak rfl,trivial⟩ rfl (Bj _ _ _ _ _) rfl (fun b49=>aj "bl8=" ?_);refine WL.append (m:=r.l.length) (q:=1) (news:=x.cells) underlying170 aa6 (ak rfl) (ak rfl) (Seq.all rfl) (fun u hu=>by simpa using all_eq_true.1 (DC x) u hu) ay rfl rfl (fun A5 c5 Zu wQ=>aj "b~c9l:" ?_);refine WL.store (cs:=[_]) sizeOf170 (ak rfl) (ak rfl) rfl rfl rfl (bT.up (bT.up (bT.at_ (by rw[length_map];omega))))<|aj "bK6" ?_;refine⟨(k+1,rs.set lb ⟨A5,c5,r.l++[x]⟩),⟨by show k+1≤n;omega,by show (rs.set _ _).length=aJ;rw[length_set];exact pG, ?_⟩,(by show n-(k+1)<n-k;omega),.cons rfl bC,fun w h=> ?_⟩
    ·show (rs.set lb _).map bX.l=_;rw[Du,KN hll h2.1.1 hlb,map_set,tu,←acQ]
    ·have h5:=h.bg 5 [0,3,2] rfl;have e1:aV (.slice A5 (r.l.length+1) c5) 237 5 (r.l.length+1) (dF r.l++x.cells)=bX.row ⟨A5,c5,r.l++[x]⟩:=by
      unfold bX.row;rw[uW,length_append];rfl
     rw[e1] at h5;have h6:=Sat.Na (l:=rs.map bX.row) (k:=lb) (by rw[length_map];omega) h5;have e2:(rs.map bX.v).set (0+x.hd.aS.toNat*1) (.slice A5 (r.l.length+1) c5)=(rs.set lb ⟨A5,c5,r.l++[x]⟩).map bX.v:=by
      rw[hlb,show 0+((lb:Nat):Int).toNat*1=lb by omega,map_set];show _=(rs.map bX.v).set lb (.slice A5 (r.l++[x]).length c5);rw[length_append];rfl
     rw[e2,←map_set] at h6;exact h6.p1
   ·refine WL.buildSlice (E:=237) (cs:=[_,_,_,_,_]) (vs:=[(0,_)]) ⟨ak rfl,trivial⟩ rfl (Bj _ _ _ _ _) rfl (fun b49=>aj "bl5" ?_);refine WL.val (V.load isAgg170 (ak rfl) (fun _=>by repeat (first | exact Rd.here hvg | apply Rd.up))) rfl<|aj "bl8=" ?_;refine WL.append (m:=r.l.length) (q:=1) (news:=x.cells) underlying170 aa6 (ak rfl) (ak rfl) (Seq.all rfl) (fun u hu=>by simpa using all_eq_true.1 (DC x) u hu) ay rfl rfl (fun A5 c5 Zu wQ=>aj "b~c9l:" ?_);refine WL.store (cs:=[_]) sizeOf170 (ak rfl) (ak rfl) rfl rfl rfl (bT.up (bT.up (bT.at_ (by rw[length_map];omega))))<|aj "bK6" ?_;refine⟨(k+1,rs.set lb ⟨A5,c5,r.l++[x]⟩),⟨by show k+1≤n;omega,by show (rs.set _ _).length=aJ;rw[length_set];exact pG, ?_⟩,(by show n-(k+1)<n-k;omega),.cons rfl bC,fun w h=> ?_⟩
    ·show (rs.set lb _).map bX.l=_;rw[Du,KN hll h2.1.1 hlb,map_set,tu,←acQ]
    ·have h5:=h.bg 5 [0,3,2] rfl;have e1:aV (.slice A5 (r.l.length+1) c5) 237 5 (r.l.length+1) (dF r.l++x.cells)=bX.row ⟨A5,c5,r.l++[x]⟩:=by
      unfold bX.row;rw[uW,length_append];rfl
     rw[e1] at h5;have h6:=Sat.Na (l:=rs.map bX.row) (k:=lb) (by rw[length_map];omega) h5;have e2:(rs.map bX.v).set (0+x.hd.aS.toNat*1) (.slice A5 (r.l.length+1) c5)=(rs.set lb ⟨A5,c5,r.l++[x]⟩).map bX.v:=by
      rw[hlb,show 0+((lb:Nat):Int).toNat*1=lb by omega,map_set];show _=(rs.map bX.v).set lb (.slice A5 (r.l++[x]).length c5);rw[length_append];rfl
     rw[e2,←map_set] at h6;exact h6.p1
  ·simp only[Gi] at h2;have abe:∀aS,aS<aJ→nE aS x=false:=fun aS hl2=>by
    unfold nE;rcases h2 with (h | h) | h
    ·rw[h];rfl
    ·rw[decide_eq_false (show ¬x.hd.aS=(aS:Int) by omega),Bool.and_false]
    ·rw[decide_eq_false (show ¬x.hd.aS=(aS:Int) by omega),Bool.and_false]
   refine aj "i6" ?_;refine⟨(k+1,rs),⟨by show k+1≤n;omega,pG, ?_⟩,(by show n-(k+1)<n-k;omega),.cons rfl bC,fun w h=>h.drop 1⟩;show rs.map bX.l=_;rw[Du,SF abe,tu]
 ·refine aj "TP" ?_;obtain rfl:k=n:=by omega
  rw[take_of_length_le ay] at tu;refine aj "hnQ" ?_;refine WC.loop (σ:=Nat) (fun j=>[(2,.func (.func f) #[] #[]),(8,.slice (some ⟨bo,0,none⟩) aJ aJ),(53,.slice (some ⟨bo,0,none⟩) aJ aJ),(54,.i (aJ:Int)),(55,.i (j:Int))]) (fun j=>ah bo 170 (rs.map bX.v)::bK ((ow c rs j).map bX.row)::F) (fun j=>j≤aJ) (fun j=>aJ-j) 0 (zero_le _) bC cO ?_;rintro j hj;refine aj "SU" (aW (fun eu=> ?_) fun eu=> ?_)
  ·have BF:j<aJ:=ay;obtain⟨r,hr⟩:∃r,r=rs[j]'ay:=⟨_,rfl⟩;have RZ:rs[j]? =some r:=by rw[hr];exact getElem?_eq_getElem ay
   have mR:=qd c rs j;have hrj:(ow c rs j)[j]? =some r:=by rw[zf c rs j ay,if_neg (Nat.lt_irrefl _)];exact RZ
   have acy:((ow c rs j).map bX.row)[j]'(by rw[length_map];omega)=r.row:=by
    rw[getElem_map];congr 1;rw[getElem?_eq_getElem ay] at hrj;injection hrj
   have hvg:(rs.map bX.v)[0+((j:Nat):Int).toNat*1]? =some r.v:=by rw[show 0+((j:Nat):Int).toNat*1=j by omega,getElem?_map,RZ];rfl
   have RN:Uh f c r.l:=by
    have h3:(rs.map bX.l)[j]? =some r.l:=by rw[getElem?_map,RZ];rfl
    rw[tu] at h3;simp only[ji,getElem?_map,getElem?_range BF,Option.map_some] at h3;injection h3 with h3
    rw[←h3];exact UU j BF
   refine aj "Ha~t" ?_;refine WL.val (V.load isAgg170 (ak rfl) (fun _=>Rd.here hvg)) rfl ?_;refine aj "g" ?_;refine WC.sub (H':=aV (.slice r.A r.l.length r.c) 237 5 r.l.length (dF r.l)::bK (((ow c rs j).map bX.row).eraseIdx j)::ah bo 170 (rs.map bX.v)::F) (Sub.refl _) (fun w h=>by
    have h4:=Sat.FQ (k:=j) (by rw[length_map];omega) h.p1;rw[acy] at h4;exact h4) ?_
   refine aj "M" ?_;refine WL.c2 call168 rfl rfl (RN _ _ _ _) rfl ?_;rintro v0 H0 h0;refine aj "b6" ?_;refine⟨j+1,BF,(by show aJ-(j+1)<aJ-j;omega),.cons rfl bC,fun w h=> ?_⟩;have h5:=h0 w h;have e1:aV (.slice r.A r.l.length r.c) 237 5 r.l.length (dF (eP (jU c) r.l))=(r.sort c).row:=by
    unfold bX.row bX.sort;rw[iO]
   rw[e1] at h5;have h6:=Sat.Na (l:=(ow c rs j).map bX.row) (k:=j) (by rw[length_map];omega) h5;have e3:rs.getD j fr0=r:=by simp[getD,RZ]
   rw[←map_set] at h6;dsimp only;rw[ow,e3];exact h6.p1
  ·refine aj "NeG" ?_;obtain rfl:j=aJ:=by omega
   refine aF.ret (H':=ah bo 170 ((ow c rs j).map bX.v)::bK ((ow c rs j).map bX.row)::F) (bJ.eU rfl rfl rfl) (fun w h=>by rw[adQ c rs j ay];exact h) ⟨bo,ow c rs j,by rw[qd,pG], ?_,rfl,rfl⟩;have h7:=adP c rs;rw[pG] at h7;rw[h7,tu]
theorem MJ(hf:FI f c){aJ:Nat}(hl:1≤aJ∧aJ≤64)(hs:Seq K F A n 5 (dF fs))(hn:fs.length=n)(h20:n<20) :
 aB prog 163 #[.i (aJ:Int),.slice A n cap,.func (.func f) #[] #[]] K F
  (fun v H'=>∃bo:Nat,∃rs:List bX,rs.length=aJ∧rs.map bX.l=(ji aJ fs).map (eP (jU c))∧v= .tuple #[.slice (some ⟨bo,0,none⟩) aJ aJ,.i 0]∧H'=ah bo 170 (rs.map bX.v)::bK (rs.map bX.row)::F) :=
 zP hf hl hs hn ay (fun aS _ _ _ _ _=>AV hf rfl (Nat.lt_of_le_of_lt (length_filter_le _ _) ay))
theorem uf{a:Nat}(ha:a<2^n)(hb:b*2^n<4611686018427387904)(ha2:a<4611686018427387904):bitsOf .or .i64 (a:Int) ((b*2^n:Nat):Int)=((a+b*2^n:Nat):Int):=by
 have h1:a+b*2^n<9223372036854775808:=ay;unfold bitsOf;dsimp only;rw[iG,iG,BitVec.toNat_or,BitVec.toNat_ofNat,BitVec.toNat_ofNat];have e1:a%2^IntKind.i64.bits=a:=mod_eq_of_lt (by show a<2^64;omega);have e2:b*2^n%2^IntKind.i64.bits=b*2^n:=mod_eq_of_lt (by show b*2^n<2^64;omega);rw[e1,e2];have e3:a ||| b*2^n=a+b*2^n:=by
  have :=two_pow_add_eq_or_of_lt ha b;rw[Nat.mul_comm b,Nat.or_comm,←this,Nat.add_comm]
 rw[e3];exact wrap_i64 ay
theorem zq{x n:Nat}(hn:n≤24)(hx:x<256):IntKind.i64.wrap ((x:Int)*2^(min (n:Int).toNat IntKind.i64.bits))=((x*2^n:Nat):Int):=by
 have h1:min (n:Int).toNat IntKind.i64.bits=n:=by rw[Int.toNat_natCast];exact Nat.min_eq_left (by show n≤64;omega)
 have h2:x*2^n≤255*2^24:=Nat.mul_le_mul ay (Nat.pow_le_pow_right aN hn);rw[h1,show (x:Int)*2^n=((x*2^n:Nat):Int) by rw[Int.natCast_mul,Int.natCast_pow];rfl];exact wrap_i64 ay
theorem um(hg:g.aU)(hp:jr g d=some h):d.length=g.room.toNat∧h.may g=true∧d=jP g h:=by
 unfold jr at hp;split at hp
 ·rename_i h1;injection hp with hp
  subst hp;simp only[Bool.and_eq_true,decide_eq_true_eq] at h1;exact⟨by rw[←h1.2,pQ hg],h1.1,h1.2.symm⟩
 ·cases hp
theorem Az(hg:g.aU)(h:Hd)(hn:h.len≤1099511627776)(hl:0≤h.aS)(hk:0≤h.num) :
 aB prog 123 #[g.v,h.v] K F (fun v H'=>(h.may g=true∧∃A' c',v= .tuple #[.slice A' g.room.toNat c',.i 0]∧H'=aV (.slice A' g.room.toNat c') 5 1 g.room.toNat (av .u8 (jP g h))::F) ∨
  (h.may g=false∧v= .tuple #[.slice none 0 0,.i 1]∧H'=F)):=by
 have hr:=bQ.kP hg;refine aB.en func123 ntmps123 ?_;refine aj "a*" fun b2=> ?_;refine aj "~~0" fun b3=> ?_;refine aj "otaB~~t" ?_;refine WL.t2 call189 rfl rfl (acg hg h hn) rfl<|aj "%j" (aW (fun h0=> ?_) fun h0=> ?_)
 ·simp only[Bool.not_eq_true',Bool.not_eq_false'] at h0;refine aj "aG" ?_;exact aF.ret (H':=F) (bJ.eU rfl rfl rfl) (fun w h=>h.drop 2) (.inr ⟨h0,rfl,rfl⟩)
 ·simp only[Bool.not_eq_true',Bool.not_eq_false'] at h0;have JG:=h0;unfold Hd.may bQ.fits at JG;simp only[Bool.and_eq_true,decide_eq_true_eq] at JG;refine aj "iaB" ?_;refine WL.t1 call122 rfl (lW hg) rfl<|aj "Ew" ?_;refine WL.buildSlice (E:=5) (cs:=[_,_,_,_]) (vs:=[(0,_),(1,_),(2,_),(3,_)]) ⟨ak rfl,ak rfl,ak rfl,ak rfl,trivial⟩ rfl (fJ _ _ _ _) rfl (fun b18=>aj "~~^ppp" ?_);refine WL.buildSlice (E:=3) (cs:=[_,_,_]) (vs:=[(0,_),(1,_),(2,_)]) ⟨ak rfl,ak rfl,ak rfl,trivial⟩ rfl (Hl _ _ _) rfl (fun b26=>WL.c2 call190 rfl rfl (aaE (cs:=[.int .u8 99,.int .u8 97,.int .u8 115,.int .u8 101]) (by repeat (first | exact Seq.agX rfl | apply Seq.up)) (Seq.all rfl)) rfl ?_);rintro _ _ ⟨A1,c1,rfl,rfl⟩;refine aj "X`" ?_;refine WL.Gx (m:=16) (q:=g.room.toNat-16) underlying34 underlying3 yL rfl rfl (ak rfl) (ak rfl) ay ay ay rfl (fun A2 c2 RU bA=>aj "G" ?_);have e1:16+(g.room.toNat-16)=g.room.toNat:=ay;refine aF.ret (H':=aV (.slice A2 g.room.toNat c2) 5 1 g.room.toNat (av .u8 (jP g h))::F) (bJ.eU rfl (look_eq rfl (by rw[e1])) rfl) (fun w hw=> ?_) (.inl ⟨h0,A2,c2,rfl,rfl⟩);have h':=hw.bg 5 [0] rfl;rw[e1,D5 hl,D5 JG.1.1.1.1.1,D5 hk] at h';unfold jP;rw[dx,dx,dx,dx,eD];exact h'
theorem mP(hs:Seq K F A m 1 (av .u8 d))(h8:aA 256 d)(hb:Rd K F (some ⟨b,0,none⟩) (.slice A m cap))(hi:i+3<m)(hm:m≤1000000) :
 aK prog 157 #[.i (i:Int),ptr b 0] K F (.i (AB d i)):=by
 have hl:d.length=m:=by simpa [av] using hs.len
 obtain⟨x0,e0⟩:∃x,x=d.getD i 0:=⟨_,rfl⟩;obtain⟨x1,e1⟩:∃x,x=d.getD (i+1) 0:=⟨_,rfl⟩;obtain⟨x2,e2⟩:∃x,x=d.getD (i+2) 0:=⟨_,rfl⟩;obtain⟨x3,e3⟩:∃x,x=d.getD (i+3) 0:=⟨_,rfl⟩;have b0:x0<256:=by rw[e0];exact h8.at_ aN _
 have b1:x1<256:=by rw[e1];exact h8.at_ aN _
 have b2:x2<256:=by rw[e2];exact h8.at_ aN _
 have b3:x3<256:=by rw[e3];exact h8.at_ aN _
 have rd:∀(k:Nat) (j:Int) x,j=(i+k:Nat)→k≤3→x=d.getD (i+k) 0→Rd K F (A.map (·.add (j.toNat*1))) (.int .u8 (x:Int)):=fun k j x hj hk hx=>by
  rw[hj,hx,Int.toNat_natCast];exact hs.jo ay
 have r0:=rd 0 (i:Int) x0 ay ay e0;have r1:=rd 1 ((i:Int)+1) x1 ay ay e1;have r2:=rd 2 ((i:Int)+2) x2 ay ay e2;have r3:=rd 3 ((i:Int)+3) x3 ay ay e3;have U0:AB d i=((x0+x1*2^8+x2*2^16+x3*2^24:Nat):Int):=by unfold AB;rw[←e0,←e1,←e2,←e3];omega
 rw[U0];refine aB.en func157 ntmps157 ?_;refine aj "at~m" ?_;refine WQ.val (V.load isAgg34 (ak rfl) (fun _=>hb)) rfl<|aj "." ?_;refine WQ.val (V.dw dO (ak rfl) (ak rfl) (fun hc=>by omega) (fun hc=>r0)) rfl<|WQ.val (V.load isAgg5 (ak rfl) (fun hc=>r0)) rfl<|aj "~^" ?_;refine WQ.val (V.load isAgg34 (ak rfl) (fun _=>hb)) rfl<|aj ".~~o" ?_;refine WQ.val (V.dw dO (ak rfl) (ak rfl) (fun hc=>by omega) (fun hc=>r1)) rfl<|WQ.val (V.load isAgg5 (ak rfl) (fun hc=>r1)) rfl<|aj "~^" ?_;refine WQ.val (V.aG (v':= .i ((x1*2^8:Nat):Int)) (V.shl (ak rfl) (ak rfl) ay) (fun _=>congrArg _ (zq (n:=8) aN b1))) rfl<|WQ.val (V.aG (v':= .i ((x0+x1*2^8:Nat):Int)) (V.or (ak rfl) (ak rfl)) (fun _=>congrArg _ (uf (n:=8) ay ay ay))) rfl<|WQ.val (V.load isAgg34 (ak rfl) (fun _=>hb)) rfl<|aj ".~~o" ?_;refine WQ.val (V.dw dO (ak rfl) (ak rfl) (fun hc=>by omega) (fun hc=>r2)) rfl<|WQ.val (V.load isAgg5 (ak rfl) (fun hc=>r2)) rfl<|aj "~^" ?_;refine WQ.val (V.aG (v':= .i ((x2*2^16:Nat):Int)) (V.shl (ak rfl) (ak rfl) ay) (fun _=>congrArg _ (zq (n:=16) aN b2))) rfl<|WQ.val (V.aG (v':= .i ((x0+x1*2^8+x2*2^16:Nat):Int)) (V.or (ak rfl) (ak rfl)) (fun _=>congrArg _ (uf (n:=16) ay ay ay))) rfl<|WQ.val (V.load isAgg34 (ak rfl) (fun _=>hb)) rfl<|aj ".~~o" ?_;refine WQ.val (V.dw dO (ak rfl) (ak rfl) (fun hc=>by omega) (fun hc=>r3)) rfl<|WQ.val (V.load isAgg5 (ak rfl) (fun hc=>r3)) rfl<|aj "~^" ?_;exact WQ.val (V.aG (v':= .i ((x3*2^24:Nat):Int)) (V.shl (ak rfl) (ak rfl) ay) (fun _=>congrArg _ (zq (n:=24) aN b3))) rfl<|WQ.val (V.aG (v':= .i ((x0+x1*2^8+x2*2^16+x3*2^24:Nat):Int)) (V.or (ak rfl) (ak rfl)) (fun _=>congrArg _ (uf (n:=24) ay ay ay))) rfl<|aj "~n~i~C+" trivial
theorem RG(hs:Seq K F A m 1 (av .u8 d))(hq:Seq K F B q 1 (av .u8 e))(hd:aA 256 d)(he:aA 256 e) :
 aK prog 158 #[.slice A m cap,.slice B q cap'] K F (.bool (decide (d=e))):=by
 refine aB.en func158 ntmps158 ?_;refine aj "ak" ?_;refine WL.val (V.iM (xs:=bH d) underlying34 underlying5 underlying9 (ak rfl) (fun _=>by rw[←jX];exact hs)) rfl<|WL.mv rfl rfl<|WL.val (V.iM (xs:=bH e) underlying34 underlying5 underlying9 (ak rfl) (fun _=>by rw[←jX];exact hq)) rfl<|WL.val (V.ajB (ak rfl) (ak rfl)) rfl (aj "d:" ?_);rw[sZ (kR hd) (kR he)];congr 1;apply decide_eq_decide.2;exact⟨fun h=>by rw[←sG d,h,sG],fun h=>by rw[h]⟩
def gQ(g:bQ)(d:List Nat):Hd:=(jr g d).getD ⟨0,0,0⟩
def iR(g:bQ)(d:List Nat):Int:=match jr g d with | some _=>0 | none=>if d.length=g.room.toNat then 4 else 1
theorem IK(hg:g.aU)(hs:Seq K F A m 1 (av .u8 d))(h8:aA 256 d)(hm:m≤1000000) :
 aK prog 91 #[g.v,.slice A m cap] K F (.tuple #[(gQ g d).v,.i (iR g d)]):=by
 have hl:d.length=m:=by simpa [av] using hs.len
 have hr:=bQ.kP hg;by_cases hlen:(m:Int)=g.room
 rotate_left
 ·have hn:jr g d=none:=by
   cases hp:jr g d with
   | none=>rfl
   | some h=>have :=(um hg hp).1;omega
  have e1:gQ g d=⟨0,0,0⟩:=by unfold gQ;rw[hn];rfl
  have e2:iR g d=1:=by unfold iR;rw[hn];exact if_neg ay
  rw[e1,e2];refine aB.en func91 ntmps91 ?_;refine aj "a*" fun b2=> ?_;refine aj "~k" fun b3=> ?_;refine aj "v" fun b4=> ?_;refine aj "wB" ?_;refine WL.t1 call122 rfl (lW hg) rfl<|aj "Efsc~~_~JV~WOb" ?_;refine WC.MI rfl ((by simp;omega))<|aj "a?~7d" ?_;exact aF.ret (H':=F) (bJ.two rfl (R1.jQ (vs:=[_,_,_]) rfl ⟨isAgg157,sizeOf157⟩ rfl adS) (R1.tmp rfl)) (fun w h=>h.drop 3) ⟨rfl,rfl⟩
 obtain⟨h,hh⟩:∃h,h=DN d:=⟨_,rfl⟩;have db:∀i,0≤AB d i∧AB d i<4294967296:=fun i=>by
  have x0:=h8.at_ aN i;have x1:=h8.at_ aN (i+1);have x2:=h8.at_ aN (i+2);have x3:=h8.at_ aN (i+3);unfold AB;omega
 have hb:h=⟨AB d 4,AB d 8,AB d 12⟩:=hh;have h0l:0≤h.aS:=by rw[hb];exact (db 4).1
 have h0k:0≤h.num:=by rw[hb];exact (db 12).1
 have h0n:h.len≤1099511627776:=by rw[hb];have :=(db 8).2;show AB d 8≤_;omega
 cases Oj:h.may g with
 | false =>
  have hn:jr g d=none:=by unfold jr;rw[←hh,Oj];rfl
  have e1:gQ g d=⟨0,0,0⟩:=by unfold gQ;rw[hn];rfl
  have e2:iR g d=4:=by unfold iR;rw[hn];exact if_pos ay
  rw[e1,e2];have JC:∀(K:World) (F:List aH),aK prog 123 #[g.v,h.v] K F (.tuple #[.slice none 0 0,.i 1]):=fun K F=>(Az hg h h0n h0l h0k).mono (fun v H' hx=>by
   rcases hx with ⟨h1,_⟩ | ⟨_,h2,h3⟩
   ·rw[Oj] at h1;cases h1
   ·exact⟨h2,h3⟩)
  rw[hb] at JC;refine aB.en func91 ntmps91 ?_;refine aj "a*" fun b2=> ?_;refine aj "~k" fun b3=> ?_;refine aj "v" fun b4=> ?_;refine aj "wB" ?_;refine WL.t1 call122 rfl (lW hg) rfl<|aj "Efsc~~_~JV~WOb~3ia~5k" ?_;refine WL.ny (first:=[]) (vs:=[_]) (captured:=[ptr b3 0]) call157 (ak rfl) ⟨ak rfl,trivial⟩ (mP (i:=4) (by repeat (first | exact hs | apply Seq.up)) h8 lD ay hm) rfl ?_;rintro _ _ ⟨rfl,rfl⟩;refine WL.mv rfl rfl<|WL.ny (first:=[]) (vs:=[_]) (captured:=[ptr b3 0]) call157 (ak rfl) ⟨ak rfl,trivial⟩ (mP (i:=8) (by repeat (first | exact hs | apply Seq.up)) h8 lD ay hm) rfl ?_;rintro _ _ ⟨rfl,rfl⟩;refine WL.mv rfl rfl<|WL.ny (first:=[]) (vs:=[_]) (captured:=[ptr b3 0]) call157 (ak rfl) ⟨ak rfl,trivial⟩ (mP (i:=12) (by repeat (first | exact hs | apply Seq.up)) h8 lD ay hm) rfl ?_;rintro _ _ ⟨rfl,rfl⟩;refine WL.val (V.build (vs:=[(0,_),(1,_),(2,_)]) ⟨ak rfl,ak rfl,ak rfl,trivial⟩ rfl (u7 _ _ _)) rfl<|aj "v" fun b9=> ?_;refine aj "~7DaB~~t" ?_;refine WL.t2 call123 rfl rfl (JC _ _) rfl<|aj "Eksc" ?_;refine WL.BK (oj:=_) rfl rfl rfl rfl rfl (fun d hd=>by injection hd with hd;subst hd;rfl)<|WL.BK (oj:=_) rfl rfl rfl rfl rfl (fun d hd=>by injection hd with hd;subst hd;rfl)<|WL.BK (oj:=_) rfl rfl rfl rfl rfl (fun d hd=>by injection hd with hd;subst hd;rfl)<|WL.BK (oj:=_) rfl rfl rfl rfl rfl (fun d hd=>by injection hd with hd;subst hd;rfl)<|WL.val (V.aas (ak rfl) (ak rfl)) rfl (aj "b2a?~7d" ?_);exact aF.ret (H':=F) (bJ.two rfl (R1.jQ (vs:=[_,_,_]) rfl ⟨isAgg157,sizeOf157⟩ rfl adS) (R1.tmp rfl)) (fun w h=>h.drop 4) ⟨rfl,rfl⟩
 | true =>
  have JC:∀(K:World) (F:List aH),aB prog 123 #[g.v,h.v] K F (fun v H'=>∃A' c',v= .tuple #[.slice A' g.room.toNat c',.i 0]∧H'=aV (.slice A' g.room.toNat c') 5 1 g.room.toNat (av .u8 (jP g h))::F):=fun K F=>(Az hg h h0n h0l h0k).mono (fun v H' hx=>by
   rcases hx with ⟨_,h2⟩ | ⟨h1,_⟩
   ·exact h2
   ·rw[Oj] at h1;cases h1)
  have hpf:jr g d=if jP g h=d then some h else none:=by
   unfold jr;rw[←hh,Oj,Bool.true_and];by_cases he:jP g h=d
   ·rw[decide_eq_true he,if_pos rfl,if_pos he]
   ·rw[decide_eq_false he,if_neg Bool.false_ne_true,if_neg he]
  have BI:=pQ hg h;have hb8:=yN g h;obtain⟨hB,hhB⟩:∃hB,hB=jP g h:=⟨_,rfl⟩;rw[←hhB] at BI hb8 hpf JC;rw[hb] at JC;refine aB.en func91 ntmps91 ?_;refine aj "a*" fun b2=> ?_;refine aj "~k" fun b3=> ?_;refine aj "v" fun b4=> ?_;refine aj "wB" ?_;refine WL.t1 call122 rfl (lW hg) rfl<|aj "Efsc~~_~JV~WOb~3ia~5k" ?_;refine WL.ny (first:=[]) (vs:=[_]) (captured:=[ptr b3 0]) call157 (ak rfl) ⟨ak rfl,trivial⟩ (mP (i:=4) (by repeat (first | exact hs | apply Seq.up)) h8 lD ay hm) rfl ?_;rintro _ _ ⟨rfl,rfl⟩;refine WL.mv rfl rfl<|WL.ny (first:=[]) (vs:=[_]) (captured:=[ptr b3 0]) call157 (ak rfl) ⟨ak rfl,trivial⟩ (mP (i:=8) (by repeat (first | exact hs | apply Seq.up)) h8 lD ay hm) rfl ?_;rintro _ _ ⟨rfl,rfl⟩;refine WL.mv rfl rfl<|WL.ny (first:=[]) (vs:=[_]) (captured:=[ptr b3 0]) call157 (ak rfl) ⟨ak rfl,trivial⟩ (mP (i:=12) (by repeat (first | exact hs | apply Seq.up)) h8 lD ay hm) rfl ?_;rintro _ _ ⟨rfl,rfl⟩;refine WL.val (V.build (vs:=[(0,_),(1,_),(2,_)]) ⟨ak rfl,ak rfl,ak rfl,trivial⟩ rfl (u7 _ _ _)) rfl<|aj "v" fun b9=> ?_;refine aj "~7DaB~~t" ?_;refine WL.c2 call123 rfl rfl (JC _ _) rfl ?_;rintro _ _ ⟨A6,c6,rfl,rfl⟩;refine aj "Eksc~Ic~I_~I" ?_;refine WL.t2 call158 rfl rfl (RG (d:=hB) (e:=d) (by repeat (first | exact aV.seq (by rw[au,BI,Nat.mul_one]) | apply Seq.up)) (by repeat (first | exact hs | apply Seq.up)) hb8 h8) rfl<|aj "~I%" ?_;refine WL.val (V.DY (ak rfl) (ak rfl)) rfl<|aj "j" (aW (fun h1=> ?_) fun h1=> ?_)
  ·simp at h1;have e1:gQ g d=⟨0,0,0⟩:=by unfold gQ;rw[hpf,if_neg h1];rfl
   have e2:iR g d=4:=by unfold iR;rw[hpf,if_neg h1];exact if_pos ay
   refine aj "a?~7d" ?_;rw[e1,e2];exact aF.ret (H':=F) (bJ.two rfl (R1.jQ (vs:=[_,_,_]) rfl ⟨isAgg157,sizeOf157⟩ rfl adS) (R1.tmp rfl)) (fun w h=>h.bg 5 [] rfl) ⟨rfl,rfl⟩
  ·simp at h1;have e1:gQ g d=h:=by unfold gQ;rw[hpf,if_pos h1];rfl
   have e2:iR g d=0:=by unfold iR;rw[hpf,if_pos h1]
   refine aj "ia~~t~7d" ?_;rw[e1,e2,hb];exact aF.ret (H':=F) (bJ.two rfl (R1.jQ (vs:=[_,_,_]) rfl ⟨isAgg157,sizeOf157⟩ rfl adS) (R1.tmp rfl)) (fun w h=>h.bg 5 [] rfl) ⟨rfl,rfl⟩
namespace aD
def ko(S:aD)(b:Int):Option Fd :=
 if (S.bY b 0).err≠0 then none
 else match jr S.g (S.bY b 0).d with
  | none=>none
  | some h=>some ⟨b,h,(S.mX b (1+S.g.bN h.len)).1⟩
def dV(S:aD):List Fd:=S.dW.filterMap S.ko
def om(S:aD):Int:=(S.mX 0 0).2
theorem qB(S:aD):∀k x,x∈S.fM k→0≤x∧x<(k:Int)∧S.up=true∧S.bad x=false
 | 0,x,h=>by simp[fM] at h
 | k+1,x,h=>by
  rw[fM] at h;split at h
  ·rename_i hg;rcases mem_append.1 h with h | h
   ·have :=qB S k x h;exact⟨this.1,by omega,this.2.2⟩
   ·have :=mem_singleton.1 h;subst this;simp only[Bool.and_eq_true,Bool.not_eq_true'] at hg;exact⟨by omega,by omega,hg⟩
  ·have :=qB S k x h;exact⟨this.1,by omega,this.2.2⟩
end aD
theorem C8:∀(l:List (Option (LL×Nat))) (d:List Nat) (n:Nat),aA 256 d→(∀o∈l,∀p k,o=some (p,k)→aA 256 p.1)→aA 256 (lV l d n).d
 | [],d,n,h,_=>h
 | none::l,d,n,h,_=>fun x hx=>by simp[lV] at hx
 |
  some (p,k)::l,d,n,h,hl=>by
  rw[lV];exact C8 l _ _ (h.append (hl _ (.head _) p k rfl)) (fun o ho=>hl o (.tail _ ho))
theorem Db(h:aA 256 p.1):∀k,aA 256 (fU t c L p k).1.1
 | 0=>h
 | k+1=>by
  have ih:=Db (c:=c) (L:=L) (t:=t) h k;rw[fU];split
  ·show aA 256 (xY t _ k).1;unfold xY;split
   ·exact yF ih _
   ·exact ih
  ·exact ih
theorem Uz(h:aA 256 d)(hd:tZ t d m=some (p,k)):aA 256 p.1:=by grind [tZ,Db]
theorem Ov(h:aA 256 raw):aA 256 (gK t S B raw).d:=by
 unfold gK;split
 ·intro x hx;simp at hx
 ·refine C8 _ _ _ (fun x hx=>by simp at hx) (fun o ho p k hp=> ?_);obtain⟨j,_,rfl⟩:=mem_map.1 ho;unfold FY at hp;exact Uz (aA.take (aA.drop h)) hp
theorem X3(ht:t≤8)(hS:S≤8)(hB:B≤512):(gK t S B raw).d.length≤S*B:=by
 unfold gK;split
 ·exact zero_le _
 ·have key:∀(l:List (Option (LL×Nat))) (d:List Nat) (n:Nat),(∀o∈l,∀p k,o=some (p,k)→p.1.length≤B)→(lV l d n).d.length≤d.length+l.length*B:=fun l=>by
   induction l with
   | nil=>intro d n _;show d.length≤_;omega
   | cons o l ih =>
    intro d n h;cases o with
    | none=>exact zero_le _
    | some r =>
     obtain⟨p,k⟩:=r;rw[lV];have h1:=ih (d++p.1) (max n k) (fun o ho=>h o (.tail _ ho));have h2:=h _ (.head _) p k rfl;rw[length_append] at h1;rw[length_cons,succ_mul];omega
  have :=key ((List.range S).map (FY t B (B+aR t) raw)) [] 0 (fun o ho p k hp=>by
   obtain⟨j,_,rfl⟩:=mem_map.1 ho;unfold FY at hp;have h1:(F4 B (B+aR t) raw j).length≤B:=by unfold F4;rw[length_take];omega
   have h2:=(Vu t (F4 B (B+aR t) raw j) (Xf B (B+aR t) raw j) ay ht).1;rw[hp] at h2;exact Nat.le_trans h2 h1)
  rw[length_map,length_range] at this
  simpa using this
theorem Cw.Ok.rQ{C:Cw}(hC:C.Ok)(b p:Int):aA 256 (C.aC.bY b p).d∧(C.aC.bY b p).d.length≤4096:=by
 have hg:=hC.aU;unfold bQ.aU at hg;unfold aD.bY;split
 ·exact⟨fun x hx=>by simp at hx,zero_le _⟩
 ·refine⟨Ov (hC.uO b p).2.1, ?_⟩;have h1:=X3 (t:=C.aC.g.fl.toNat) (S:=C.aC.g.se.toNat) (B:=C.aC.g.sb.toNat) (raw:=C.aC.kI b p) (by show C.g.fl.toNat≤8;omega) (by show C.g.se.toNat≤8;omega) (by show C.g.sb.toNat≤512;omega);have h2:C.aC.g.se.toNat*C.aC.g.sb.toNat≤8*512:=Nat.mul_le_mul (by show C.g.se.toNat≤8;omega) (by show C.g.sb.toNat≤512;omega);exact Nat.le_trans h1 h2
theorem QT{C:Cw}(hC:C.Ok)(hg:C.g=g)(h12:g.bl≤19)(he:C.aC.om=0):aB prog 99 #[ptr bd 0] K (C.A bc::dA bd bc g::F)
 (fun v H'=>∃A' c',v= .tuple #[.slice A' C.aC.dV.length c',.i 0]∧H'=C.A bc::dA bd bc g::aV (.slice A' C.aC.dV.length c') 237 5 C.aC.dV.length (dF C.aC.dV)::F):=by
 have yO:g.aU:=by rw[←hg];exact hC.aU
 have uJ:=yO;unfold bQ.aU at uJ;obtain⟨gd,L9⟩:∃gd,gd=C.aC.dW:=⟨_,rfl⟩;have hgl:gd.length≤19:=by
  have :=aD.jK C.aC C.aC.g.bl.toNat;have h2:C.aC.g.bl.toNat≤19:=by rw[show C.aC.g=C.g from rfl,hg];omega
  rw[L9];unfold aD.dW;omega
 have alg:C.aC.dV=gd.filterMap C.aC.ko:=by rw[L9];rfl
 refine aB.en func99 ntmps99 ?_;refine aj "aof]5W" ?_;refine WL.t1 call100 rfl (kg) rfl<|aj "v" fun b4=> ?_;refine aj "Cbr~~g" ?_;refine WL.c3 call126 rfl rfl rfl (vN hC hg 0 0 aN) rfl ?_;rintro _ _ ⟨rfl,rfl⟩;refine aj "Eksb" ?_;refine WC.ni rfl ((by simp;exact he))<|aj "iaf" ?_;refine WL.c1 call118 rfl (ER hC hg) rfl ?_;rintro _ _ ⟨Ag,cg,rfl,rfl⟩;rw[←L9];refine aj "nQ" ?_;refine WC.loop (σ:=Nat×Option Addr×Nat) (fun s=>[(0,ptr bd 0),(4,ptr b4 0),(7,.slice s.2.1 (((gd.take s.1).filterMap C.aC.ko).length) s.2.2),(31,.slice Ag gd.length cg),(32,.i (gd.length:Int)),(33,.i (s.1:Int))]) (fun s=>C.A bc::dA bd bc g::aV (.slice s.2.1 (((gd.take s.1).filterMap C.aC.ko).length) s.2.2) 237 5 (((gd.take s.1).filterMap C.aC.ko).length) (dF ((gd.take s.1).filterMap C.aC.ko))::aV (.slice Ag gd.length cg) 3 1 gd.length (ints .i64 gd)::ah b4 23 [.i g.bl,.i g.pg,.i g.se,.i g.sb,.i g.fl]::F) (fun s=>s.1≤gd.length) (fun s=>gd.length-s.1) (0,none,0) (zero_le _) bC (fun w h=>(Sat.gI h 237 5).bg 5 [2,3,0,1,4] rfl) ?_;rintro⟨k,Ao,co⟩ hk;dsimp only at hk ⊢;obtain⟨fs,hfs⟩:∃fs,fs=(gd.take k).filterMap C.aC.ko:=⟨_,rfl⟩;have hfl:fs.length≤19:=by rw[hfs];exact Nat.le_trans (length_filterMap_le _ _) (by rw[length_take];omega)
 rw[←hfs];refine aj "SU" (aW (fun bA=> ?_) fun bA=> ?_)
 ·have hkg:k<gd.length:=ay;obtain⟨b,hb⟩:∃b,b=gd.getD k 0:=⟨_,rfl⟩;have Du:gd.take (k+1)=gd.take k++[b]:=by rw[take_add_one,getElem?_eq_getElem hkg,hb];simp[getD,hkg]
  have RS:(gd.take (k+1)).filterMap C.aC.ko=fs++(C.aC.ko b).toList:=by rw[Du,filterMap_append,←hfs];cases hsb:C.aC.ko b<;>simp[hsb]
  have RZ:∀ {X:List aH},Rd K (aV (.slice Ag gd.length cg) 3 1 gd.length (ints .i64 gd)::X) (Ag.map (·.add ((k:Int).toNat*1))) (.i b):=fun {X}=>by
   have h1:Seq K (aV (.slice Ag gd.length cg) 3 1 gd.length (ints .i64 gd)::X) Ag gd.length 1 (ints .i64 gd):=aV.seq (by rw[bR,Nat.mul_one]);have h2:=Seq.dD h1 (j:=(k:Int)) ay;rw[hb]
   rwa [show (k:Int).toNat=k by omega] at h2 ⊢
  have hbm:=aD.qB C.aC C.aC.g.bl.toNat b (by show b∈C.aC.dW;rw[←L9,hb];simp only[getD,getElem?_eq_getElem hkg];exact getElem_mem _);refine aj "Ha" ?_;refine WL.val (V.dw eB (ak rfl) (ak rfl) (fun hc=>by omega) (fun hc=>by repeat (first | exact RZ | apply Rd.up))) rfl<|WL.val (V.load isAgg3 (ak rfl) (fun hc=>by repeat (first | exact RZ | apply Rd.up))) rfl<|aj "X" ?_;refine WL.c3 call90 rfl rfl rfl (xB hC hg b 0) rfl ?_;rintro _ _ ⟨Ad,cd,rfl,rfl⟩;obtain⟨G,hG⟩:∃G,G=C.aC.bY b 0:=⟨_,rfl⟩;have hGf:=hC.rQ b 0;have hsb:C.aC.ko b=if G.err≠0 then none else match jr g G.d with
   | none=>none
   | some h=>some ⟨b,h,(C.aC.mX b (1+g.bN h.len)).1⟩:=by unfold aD.ko;rw[←hG,show C.aC.g=g from hg]
  rw[←hG] at hGf ⊢;refine aj "~~g8~Toofsb~e" (aW (fun h3=> ?_) fun h3=> ?_)
  ·rw[if_pos h3] at hsb;rw[hsb] at RS;refine aj "N6" ?_;refine⟨(k+1,Ao,co),hkg,(by show gd.length-(k+1)<gd.length-k;omega),.cons rfl (.cons rfl (.cons (look_eq rfl (by dsimp only;rw[RS];simp)) bC)),fun w h=> ?_⟩;dsimp only;rw[RS,Option.toList_none,append_nil];first
    | exact h.bg 6 [0,1,3,4,5] rfl
    | exact h.bg 7 [1,2,4,5,6] rfl
  ·rw[if_neg (fun h=>h ay)] at hsb;obtain⟨pe,ZF⟩:∃pe,pe=iR g G.d:=⟨_,rfl⟩;obtain⟨ph,hph⟩:∃ph,ph=gQ g G.d:=⟨_,rfl⟩;have qY:(pe≠0∧C.aC.ko b=none)∨(pe=0∧ph.may g=true∧C.aC.ko b=some ⟨b,ph,(C.aC.mX b (1+g.bN ph.len)).1⟩):=by
    unfold iR at ZF;unfold gQ at hph;cases hp:jr g G.d with
    | none =>
     rw[hp] at hsb ZF;exact .inl ⟨by rw[ZF];dsimp only;split<;>decide,hsb⟩
    | some h =>
     rw[hp] at hsb ZF hph;have anF:ph=h:=hph;subst anF;exact .inr ⟨ZF,(um yO hp).2.1,hsb⟩
   refine aj "iaBc" ?_;refine WL.t2 call91 rfl rfl (aK.eq (v':= .tuple #[ph.v,.i pe]) (IK (d:=G.d) yO (by repeat (first | exact aV.seq (by rw[au,Nat.mul_one]) | apply Seq.up)) hGf.1 ay) (by rw[hph,ZF])) rfl<|aj "8v" fun b13=> ?_;refine aj "~7fsb~e" (aW (fun h4=> ?_) fun h4=> ?_)
   ·rcases qY with ⟨_,Zd⟩ | ⟨h5,_⟩
    rotate_left
    ·exact absurd h5 h4
    rw[Zd] at RS;refine aj "N6" ?_;refine⟨(k+1,Ao,co),hkg,(by show gd.length-(k+1)<gd.length-k;omega),.cons rfl (.cons rfl (.cons (look_eq rfl (by dsimp only;rw[RS];simp)) bC)),fun w h=> ?_⟩;dsimp only;rw[RS,Option.toList_none,append_nil];first
     | exact h.bg 6 [0,1,3,4,5] rfl
     | exact h.bg 7 [1,2,4,5,6] rfl
   ·rcases qY with ⟨h5,_⟩ | ⟨_,Oj,RF⟩
    ·exact absurd ay h5
    rw[RF] at RS;have JG:=Oj;unfold Hd.may at JG;simp only[Bool.and_eq_true,decide_eq_true_eq] at JG;have JD:=JG.1.1.1.1;have hfb:=JD;unfold bQ.fits at hfb;simp only[Bool.and_eq_true,decide_eq_true_eq] at hfb;have FR:=bQ.vL yO;have RN:=bQ.kP yO;have JO:0≤g.bN ph.len∧g.bN ph.len≤1000000:=by
     unfold bQ.bN;exact⟨Int.ediv_nonneg ay ay,Int.le_trans (Int.ediv_le_self _ ay) ay⟩
    refine aj "iaBp" ?_;refine WL.t2 call92 rfl rfl (aK.eq (v':= .tuple #[.i (g.bN ph.len),.i 0]) (AL yO ay) (by rw[JD];rfl)) rfl<|aj "Ekz$~~g" ?_;refine WL.c3 call126 rfl rfl rfl (vN hC hg b (1+g.bN ph.len) ay) rfl ?_;rintro _ _ ⟨rfl,rfl⟩;refine aj "EgM~~tc" ?_;refine WL.val (V.build (vs:=[(0,_),(1,_),(2,_)]) ⟨ak rfl,ak rfl,ak rfl,trivial⟩ rfl (NW _ _ _ _ _)) rfl<|WL.buildSlice (E:=237) (cs:=[_,_,_,_,_]) (vs:=[(0,_)]) ⟨ak rfl,trivial⟩ rfl (Bj _ _ _ _ _) rfl (fun b74=>aj "~~S" ?_);refine WL.append (m:=fs.length) (q:=1) (news:=Fd.cells ⟨b,ph,(C.aC.mX b (1+g.bN ph.len)).1⟩) underlying170 aa6 (ak rfl) (ak rfl) (Seq.all rfl) (fun u hu=>by simpa using all_eq_true.1 (DC _) u hu) ay rfl rfl (fun A5 c5 Zu wQ=>aj "g6" ?_);refine⟨(k+1,A5,c5),hkg,(by show gd.length-(k+1)<gd.length-k;omega),.cons rfl (.cons rfl (.cons (look_eq rfl (by dsimp only;rw[RS,length_append];rfl)) bC)),fun w h=> ?_⟩;dsimp only;rw[RS,length_append,Option.toList_some,uW];exact h.bg 8 [2,3,0,6,7] rfl
 ·refine aj "NeG" ?_;obtain rfl:k=gd.length:=by omega
  have acM:fs=C.aC.dV:=by rw[hfs,take_of_length_le (Nat.le_refl _),alg]
  rw[←acM];exact aF.ret (H':=C.A bc::dA bd bc g::aV (.slice Ao fs.length co) 237 5 fs.length (dF fs)::F) (bJ.eU rfl rfl rfl) (fun w h=>h.bg 5 [0,1,2] rfl) ⟨Ao,co,rfl,rfl⟩
def xD(c:Fd→Fd→Int)(fs:List Fd):Nat→Fd
 | 0=>fs.getD 0 JF
 | i+1=>if 0<c (fs.getD (i+1) JF) (xD c fs i) then fs.getD (i+1) JF else xD c fs i
def wG(l:List Fd):Int:=match l.getLast? with | none=> -1 | some x=>x.block
def kT(aJ:Nat)(fs:List Fd):List Int:=(ji aJ fs).map fun l=>wG (eP (jU qK) l)
def pE(fs:List Fd):Int:=if fs.length=0 then 1 else (xD Kr fs (fs.length-1)).hd.num+1
def qy(aJ:Nat)(fs:List Fd):List (List Int):=(ji aJ fs).map fun l=>(eP (jU aaz) (eP (jU qK) l).dropLast).map Fd.block
theorem mY(aJ:Nat)(fs:List Fd):(kT aJ fs).length=aJ:=by grind [kT,length_map,Ct]
theorem sN(aJ:Nat)(fs:List Fd):(qy aJ fs).length=aJ:=by grind [qy,length_map,Ct]
structure bW where
 A:Option Addr
 c:Nat
 l:List Int
abbrev bW.v(x:bW):Value:= .slice x.A x.l.length x.c
def bW.row(x:bW):aH:=aV (.slice x.A x.l.length x.c) 3 1 x.l.length (ints .i64 x.l)
def ir0:bW:=⟨none,0,[]⟩
theorem Rd.xM(hA:A∈l)(h:Rd K [A] p v):Rd K (bK l::H) p v:=fun w hw=>h w (hw.amR hA)
theorem bX.rd{r:bX}{v:Value}(hi:r.l[i]? =some x)(hj:x.cells[j]? =some v):Rd K [r.row] (r.A.map (·.add (i*5+j))) v:=by
 have h:Seq K [r.row] r.A r.l.length 5 (dF r.l):=aV.seq (gT _);exact CP h hi hj
theorem XT(hf:FI f c)(hs:Seq K F A n 5 (dF fs))(hn:fs.length=n)(h0:0<n)(hn2:n≤1000000) :
 aK prog 165 #[.slice A n cap,.func (.func f) #[] #[]] K F (xD c fs (n-1)).v:=by
 have UW:∀ {X:List aH} (k:Nat),k<n→(∀w,Sat K w X→Sat K w F)→∀(j:Nat) v,(fs.getD k JF).cells[j]? =some v→Rd K X (A.map (·.add (k*5+j))) v:=fun k hk hX j v hj=>by
  have hx:fs[k]? =some (fs.getD k JF):=by simp[getD,show k<fs.length by omega]
  exact CP (hs.sat hX) hx hj
 have nD:∀ {X:aH} {Y:List aH},(∀w,Sat K w Y→Sat K w F)→∀w,Sat K w (X::Y)→Sat K w F:=fun h w hw=>h w hw.tail;refine aB.en func165 ntmps165 ?_;refine aj "av" fun b4=> ?_;refine aj "brn1b" ?_;refine WC.ni rfl ((decide_eq_false ay)) (aj "W" ?_);refine WL.val (V.aG (v':=sp A (0*5)) (V.dw zX (ak rfl) (ak rfl) (fun hc=>by omega) (fun hc=>by rw[show ((0:Int)).toNat=0 from rfl];exact UW 0 h0 (by repeat (first | exact cO | apply nD)) 0 _ rfl)) (fun _=>rfl)) rfl<|WL.val (V.tX (vs:=(fs.getD 0 JF).cells) ⟨isAgg237,sizeOf237⟩ (ak rfl) rfl aN (fun _ j v hj=>by exact UW 0 h0 (by repeat (first | exact cO | apply nD)) j v hj)) rfl<|aj "v" fun b5=> ?_;refine aj "CDagu" ?_;refine WC.loop (σ:=Nat) (fun i=>[(0,.slice A n cap),(1,.func (.func f) #[] #[]),(4,ptr b4 0),(5,ptr b5 0),(6,.i ((i+1:Nat):Int))]) (fun i=>ah b5 237 (xD c fs i).cells::ah b4 237 [.i 0,.i 0,.i 0,.i 0,.bool false]::F) (fun i=>i<n) (fun i=>n-i) 0 h0 bC cO ?_;rintro i hi;obtain⟨m,hm⟩:∃m,m=xD c fs i:=⟨_,rfl⟩;rw[←hm];refine aj "rcn1bU" (aW (fun aQ=> ?_) fun aQ=> ?_)
 ·have hi1:i+1<n:=ay;obtain⟨x,hx⟩:∃x,x=fs.getD (i+1) JF:=⟨_,rfl⟩;have Bv:(((i+1:Nat):Int)).toNat=i+1:=ay;have hxe:∀ {X:List aH},(∀w,Sat K w X→Sat K w F)→∀(j:Nat) v,x.cells[j]? =some v→Rd K X (A.map (·.add ((i+1)*5+j))) v:=fun hX j v hj=>UW (i+1) hi1 hX j v (by rw[←hx];exact hj);have dL:xD c fs (i+1)=if 0<c x m then x else m:=by rw[xD,←hx,←hm]
  refine aj "HP~m..." ?_;refine WQ.val (V.aG (v':=sp A ((i+1)*5)) (V.dw zX (ak rfl) (ak rfl) (fun hc=>by omega) (fun hc=>by rw[Bv];exact hxe (by repeat (first | exact cO | apply nD)) 0 _ rfl)) (fun _=>by rw[Bv])) rfl<|WQ.val (V.tX (vs:=x.cells) ⟨isAgg237,sizeOf237⟩ (ak rfl) rfl aN (fun _ j v hj=>by exact hxe (by repeat (first | exact cO | apply nD)) j v hj)) rfl<|aj "~~G" ?_;refine WQ.ny (first:=[]) (vs:=[_,_]) (captured:=[]) hf.1 (ak rfl) ⟨ak rfl,ak rfl,trivial⟩ (hf.2 _ _ x m) rfl<|aj "~~q~iU" (aW (fun h2=> ?_) fun h2=> ?_)
  ·rw[if_pos h2] at dL;refine aj "M" ?_;refine WL.val (V.aG (v':=sp A ((i+1)*5)) (V.dw zX (ak rfl) (ak rfl) (fun hc=>by omega) (fun hc=>by rw[Bv];exact hxe (by repeat (first | exact cO | apply nD)) 0 _ rfl)) (fun _=>by rw[Bv])) rfl<|WL.val (V.tX (vs:=x.cells) ⟨isAgg237,sizeOf237⟩ (ak rfl) rfl aN (fun _ j v hj=>by exact hxe (by repeat (first | exact cO | apply nD)) j v hj)) rfl<|WL.store (cs:=x.cells) sizeOf237 (ak rfl) (ak rfl) rfl rfl rfl (by repeat (first | exact bT.here (cs':=[_,_,_,_,_]) rfl rfl | apply bT.up))<|aj "bh$Y" ?_;refine⟨i+1,hi1,(by show n-(i+1)<n-i;omega),.cons rfl bC,fun w h=> ?_⟩;dsimp only;rw[dL];exact h
  ·rw[if_neg ay] at dL;refine aj "ih$Y" ?_;refine⟨i+1,hi1,(by show n-(i+1)<n-i;omega),.cons rfl bC,fun w h=> ?_⟩;dsimp only;rw[dL];exact h
 ·refine aj "NaB~F0" ?_;obtain rfl:i=n-1:=by omega
  rw[←hm];exact aF.normal (H':=F) (bJ.one rfl (R1.jQ (vs:=[_,_,_,_,_]) rfl ⟨isAgg237,sizeOf237⟩ rfl tN)) (fun w h=>h.drop 2) ⟨rfl,rfl⟩
theorem Mk(hl:1≤aJ∧aJ≤64)(hs:Seq K F A n 5 (dF fs))(hn:fs.length=n)(h20:n<1000)(UU:∀aS,aS<aJ→Uh 164 qK (fs.filter (nE aS)))(NC:∀x∈fs,x.hd.num≤1000000001∧0≤x.hd.num) :
 aB prog 101 #[.i (aJ:Int),.slice A n cap] K F
  (fun v H'=>∃A' c',v= .tuple #[.slice A' aJ c',.i (pE fs),.i 0]∧H'=aV (.slice A' aJ c') 3 1 aJ (ints .i64 (kT aJ fs))::F):=by
 obtain⟨pk,hpk⟩:∃pk,pk=kT aJ fs:=⟨_,rfl⟩;have l7:pk.length=aJ:=by rw[hpk];exact mY _ _
 refine aB.en func101 ntmps101 ?_;refine aj "aooX" ?_;refine WL.c3 call163 rfl rfl rfl (zP yg hl hs hn h20 UU) rfl ?_;rintro _ _ ⟨bo,rs,pG,tu,rfl,rfl⟩;have hpr:∀j r,rs[j]? =some r→pk.getD j 0=wG r.l∧j<aJ:=fun j r hj=>by
  have h1:(rs.map bX.l)[j]? =some r.l:=by rw[getElem?_map,hj];rfl
  have BF:j<aJ:=by rw[←pG];exact (List.getElem?_eq_some_iff.1 hj).1
  refine⟨?_,BF⟩;rw[tu] at h1;simp only[getElem?_map,ji,getElem?_range BF,Option.map_some] at h1;injection h1 with h1
  rw[hpk];unfold kT;simp only[getD,getElem?_map,ji,getElem?_range BF,Option.map_some,Option.getD_some];rw[h1]
 refine aj "Efs5iafnQ" ?_;refine WC.loop (σ:=Nat×Option Addr×Nat) (fun s=>[(1,.slice A n cap),(9,.slice s.2.1 s.1 s.2.2),(22,.slice (some ⟨bo,0,none⟩) aJ aJ),(23,.i (aJ:Int)),(24,.i (s.1:Int))]) (fun s=>aV (.slice s.2.1 s.1 s.2.2) 3 1 s.1 (ints .i64 (pk.take s.1))::ah bo 170 (rs.map bX.v)::bK (rs.map bX.row)::F) (fun s=>s.1≤aJ) (fun s=>aJ-s.1) (0,none,0) (zero_le _) bC (fun w h=>Sat.gI h _ _) ?_;rintro⟨j,Ao,co⟩ hj;dsimp only at hj ⊢;refine aj "SU" (aW (fun aQ=> ?_) fun aQ=> ?_)
 ·have BF:j<aJ:=ay;obtain⟨r,hr⟩:∃r,rs[j]? =some r:=⟨_,getElem?_eq_getElem ay⟩;have hvg:(rs.map bX.v)[0+((j:Nat):Int).toNat*1]? =some r.v:=by rw[show 0+((j:Nat):Int).toNat*1=j by omega,getElem?_map,hr];rfl
  have uH:r.row∈rs.map bX.row:=mem_map.2 ⟨r,mem_of_getElem? hr,rfl⟩;have Du:pk.take (j+1)=pk.take j++[wG r.l]:=by rw[take_add_one,getElem?_eq_getElem ay,←(hpr j r hr).1];simp[getD,show j<pk.length by omega]
  refine aj "Ha~t" ?_;refine WL.val (V.load isAgg170 (ak rfl) (fun _=>by repeat (first | exact Rd.here hvg | apply Rd.up))) rfl<|aj "kn9bU" (aW (fun h2=> ?_) fun h2=> ?_)
  ·have L6:wG r.l= -1:=by
    have :r.l=[]:=eq_nil_of_length_eq_zero ay;unfold wG;rw[this];rfl
   refine aj "h" ?_;refine WL.buildSlice (E:=3) (cs:=[_]) (vs:=[(0,_)]) ⟨ak rfl,trivial⟩ rfl (dJ _) rfl (fun b32=>aj "=" ?_);refine WL.append (m:=j) (q:=1) (news:=[.i (-1)]) underlying124 Me (ak rfl) (ak rfl) (Seq.all rfl) (by intro u hu;rw[mem_singleton.1 hu];rfl) ay rfl rfl (fun A5 c5 Zu wQ=>aj "g6" ?_);refine⟨(j+1,A5,c5),BF,(by show aJ-(j+1)<aJ-j;omega),.cons rfl bC,fun w h=> ?_⟩;dsimp only;rw[Du,L6,gY];exact h.bg 2 [0] rfl
  ·obtain⟨x,hx⟩:∃x,r.l[r.l.length-1]? =some x:=⟨_,getElem?_eq_getElem ay⟩;have L6:wG r.l=x.block:=by unfold wG;rw[getLast?_eq_getElem?,hx]
   have hrx:∀(i:Nat) v,x.cells[i]? =some v→∀ {X:List aH},Rd K (bK (rs.map bX.row)::X) (r.A.map (·.add ((r.l.length-1)*5+i))) v:=fun i v hi X=>Rd.xM uH (bX.rd hx hi);have hri:((r.l.length:Int)-1).toNat=r.l.length-1:=ay;have ang:r.l.length≤1000000:=by
    have h3:(rs.map bX.l)[j]? =some r.l:=by rw[getElem?_map,hr];rfl
    rw[tu] at h3;simp only[ji,getElem?_map,getElem?_range BF,Option.map_some] at h3;injection h3 with h3
    rw[←h3,iO];exact Nat.le_trans (length_filter_le _ _) ay
   refine aj "hzn`" ?_;refine WL.val (V.aG (v':=sp r.A ((r.l.length-1)*5)) (V.dw zX (ak rfl) (ak rfl) (fun hc=>by omega) (fun hc=>by rw[hri];repeat (first | exact hrx 0 _ rfl | apply Rd.up))) (fun _=>by rw[hri])) rfl<|WL.val (V.uY (k':=(r.l.length-1)*5) Vv (ak rfl) (fun _=>by repeat (first | exact hrx 0 _ rfl | apply Rd.up))) rfl<|WL.val (V.load isAgg3 (ak rfl) (fun _=>by repeat (first | exact hrx 0 _ rfl | apply Rd.up))) rfl<|WL.buildSlice (E:=3) (cs:=[_]) (vs:=[(0,_)]) ⟨ak rfl,trivial⟩ rfl (dJ _) rfl (fun b42=>aj "=" ?_);refine WL.append (m:=j) (q:=1) (news:=[.i x.block]) underlying124 Me (ak rfl) (ak rfl) (Seq.all rfl) (by intro u hu;rw[mem_singleton.1 hu];rfl) ay rfl rfl (fun A5 c5 Zu wQ=>aj "g6" ?_);refine⟨(j+1,A5,c5),BF,(by show aJ-(j+1)<aJ-j;omega),.cons rfl bC,fun w h=> ?_⟩;dsimp only;rw[Du,L6,gY];exact h.bg 2 [0] rfl
 ·refine aj "TP" ?_;obtain rfl:j=aJ:=by omega
  rw[take_of_length_le ay,hpk];refine WC.sub (Sub.refl _) (fun w h=>h.bg 3 [0] rfl)<|aj "hn9bU" (aW (fun h3=> ?_) fun h3=> ?_)
  ·have Zk:pE fs=1:=by unfold pE;rw[if_pos ay]
   refine aj "eoG" ?_;rw[Zk];exact aF.ret (H':=aV (.slice Ao j co) 3 1 j (ints .i64 (kT j fs))::F) (bJ.Bl rfl rfl rfl rfl) cO ⟨Ao,co,rfl,rfl⟩
  ·have Zk:pE fs=(xD Kr fs (n-1)).hd.num+1:=by unfold pE;rw[if_neg ay,hn]
   have uH:∀k,k<n→xD Kr fs k∈fs:=fun k=>by
    induction k with
    | zero=>intro hk;show fs.getD 0 JF∈fs;simp only[getD,getElem?_eq_getElem (show 0<fs.length by omega)];exact getElem_mem _
    | succ k ih =>
     intro hk;rw[xD];split
     ·simp only[getD,getElem?_eq_getElem (show k+1<fs.length by omega)];exact getElem_mem _
     ·exact ih ay
   have JG:=NC _ (uH (n-1) ay);refine aj "W" ?_;refine WL.t2 call165 rfl rfl (XT abK (by repeat (first | exact hs | apply Seq.up)) hn ay ay) rfl<|aj "v" fun b12=> ?_;refine aj "CD~m.~y~y~H~~o~n~n~n~i~C" ?_;rw[Zk];exact aF.ret (H':=aV (.slice Ao j co) 3 1 j (ints .i64 (kT j fs))::F) (bJ.Bl rfl rfl rfl rfl) (fun w h=>h.drop 1) ⟨Ao,co,rfl,rfl⟩
theorem Qr{aJ:Nat}(hl:1≤aJ∧aJ≤64)(hs:Seq K F A n 5 (dF fs))(hn:fs.length=n)(h20:n<20)(NC:∀x∈fs,x.hd.num≤1000000001∧0≤x.hd.num) :
 aB prog 101 #[.i (aJ:Int),.slice A n cap] K F
  (fun v H'=>∃A' c',v= .tuple #[.slice A' aJ c',.i (pE fs),.i 0]∧H'=aV (.slice A' aJ c') 3 1 aJ (ints .i64 (kT aJ fs))::F) :=
 Mk hl hs hn ay (fun aS _ _ _ _ _=>AV yg rfl (Nat.lt_of_le_of_lt (length_filter_le _ _) ay)) NC
structure aY where
 (f t0:Int) (g0:Bool) (t1:Int) (g1:Bool)
 deriving DecidableEq
namespace aY
abbrev v(s:aY):Value:= .agg #[.i s.f,.i s.t0,.bool s.g0,.i s.t1,.bool s.g1]
def zero:aY:=⟨0,0,false,0,false⟩
def ok(s:aY):Bool:=(decide (s.f=0)||decide (s.f=1))&&decide (0≤s.t0)&&decide (s.t0≤7)&&decide (0≤s.t1)&&decide (s.t1≤7)
def V3(s:aY):Int:=if s.ok then 0 else 1
def Ol(s:aY)(slot:Int):Int:=if s.ok&&(decide (slot=0)||decide (slot=1)) then 0 else 1
def t(s:aY)(slot:Int):Int:=if slot=0 then s.t0 else s.t1
def g(s:aY)(slot:Int):Bool:=if slot=0 then s.g0 else s.g1
def put(s:aY)(slot first t:Int)(g:Bool):aY:=if slot=0 then ⟨first,t,g,s.t1,s.g1⟩ else ⟨first,s.t0,s.g0,t,g⟩
def may(s:aY)(slot:Int):Bool:=s.g slot||decide (0<s.t slot)
def gM(s:aY)(slot:Int):aY×Int :=
 if s.Ol slot≠0 then (zero,1) else if s.may slot then (s.put slot s.f (if s.g slot then s.t slot else s.t slot-1) (s.g slot),0) else (zero,240)
def dR(s:aY)(slot:Int):aY×Int:=if s.Ol slot≠0 then (zero,1) else (s.put slot slot 0 true,0)
def order(s:aY):List Int:=if s.ok then [s.f,1-s.f].filter s.may else []
def Zf(b:Bool):Int:=if b then 1 else 0
def bytes(s:aY):List Int:=if s.ok then [115,108,111,116,s.f,s.t0,Zf s.g0,s.t1,Zf s.g1] else []
theorem Uf{s:aY}(h:s.Ol slot=0):s.ok=true∧(slot=0∨slot=1):=by grind [Ol]
theorem aaV{s:aY}(h:s.V3=0):s.ok=true:=by grind [V3]
theorem lJ{s:aY}(h:s.ok=true):(s.f=0∨s.f=1)∧0≤s.t0∧s.t0≤7∧0≤s.t1∧s.t1≤7:=by simp[ok] at h;omega
end aY
abbrev sl(t:Int)(g:Bool):Value:= .agg #[.i t,.bool g]
theorem yV(t:Int)(g:Bool)(K:World)(F:List aH):aK prog 128 #[sl t g] K F (.bool (g||decide (0<t))):=by
 refine aB.en func128 ntmps128 ?_;refine aj "a~9" fun b1=> ?_;exact aj "wpc~g~f~lOd+" trivial
theorem xA(s:aY)(K:World)(F:List aH):aK prog 127 #[s.v] K F (.i s.V3):=by
 refine aB.en func127 ntmps127 ?_;refine aj "a*" fun b1=> ?_;refine aj "tapsc(|~~~g3j" (aW (fun aL=> ?_) fun aL=> ?_)
 ·try simp only[iC] at aL
  refine aj "I:" ?_;congr 1;unfold aY.V3 aY.ok;first | rw[if_pos (by simp;omega)] | rw[if_neg (by simp;omega)]
 ·try simp only[iC] at aL
  refine aj "~ba7~~~lQ~6S2Ha~~Dv" fun b4=> ?_;refine aj "~~jLp1c~g~f~lOj" (aW (fun bA=> ?_) fun bA=> ?_)
  ·try simp only[iC] at bA
   refine aj "I:" ?_;congr 1;unfold aY.V3 aY.ok;first | rw[if_pos (by simp;omega)] | rw[if_neg (by simp;omega)]
  ·try simp only[iC] at bA
   refine aj "iq~M~uS2Ha~~Dv" fun b4=> ?_;refine aj "~~jLp1c~g~f~lOj" (aW (fun mV=> ?_) fun mV=> ?_)
   ·try simp only[iC] at mV
    refine aj "I:" ?_;congr 1;unfold aY.V3 aY.ok;first | rw[if_pos (by simp;omega)] | rw[if_neg (by simp;omega)]
   ·try simp only[iC] at mV
    refine aj "iq~r~uS~zNI:" ?_;congr 1;unfold aY.V3 aY.ok;first | rw[if_pos (by simp;omega)] | rw[if_neg (by simp;omega)]
theorem OW(K:World)(F:List aH):aK prog 89 #[] K F aY.zero.v:=by
 refine aB.en func89 ntmps89 ?_;refine aj "av" fun b0=> ?_;refine aj "L?C0" ?_;exact aF.ret (H':=F) (bJ.one rfl (R1.jQ (vs:=[_,_,_,_,_]) rfl ⟨isAgg58,sizeOf58⟩ rfl tN)) eO ⟨rfl,rfl⟩
theorem Fb(s:aY)(slot:Int)(K:World)(F:List aH):aK prog 129 #[s.v,.i slot] K F (.i (s.Ol slot)):=by
 refine aB.en func129 ntmps129 ?_;refine aj "a*" fun b2=> ?_;refine aj "taB" ?_;refine WL.t1 call127 rfl (xA s _ _) rfl<|aj "kscV~~u~~K~~y~~(~~LOj" (aW (fun aL=> ?_) fun aL=> ?_)
 ·try simp only[iC] at aL
  refine aj "I:" ?_;congr 1;unfold aY.Ol;cases jh:s.ok<;>simp[aY.V3,jh] at aL ⊢ <;>omega
 ·try simp only[iC] at aL
  refine aj "iI:" ?_;congr 1;unfold aY.Ol;cases jh:s.ok<;>simp[aY.V3,jh] at aL ⊢ <;>omega
theorem Br(s:aY)(slot first t:Int)(g:Bool)(h:slot=0∨slot=1)(K:World)(F:List aH) :
 aK prog 130 #[s.v,.i slot,.i first,sl t g] K F (.tuple #[(s.put slot first t g).v,.i 0]):=by
 rcases h with rfl | rfl
 all_goals
  refine aB.en func130 ntmps130 ?_;refine aj "a*" fun b4=> ?_;refine aj "~9" fun b7=> ?_;refine aj "v" fun b8=> ?_;refine aj "t" ?_;refine WC.dM F (by kernel_rfl)<|aj "m0m1Z3Z5" ?_;refine WA.two (i:=2) (j:=4) eO (by kernel_rfl) rfl rfl ?_ ?_
  ·refine aj "~Bbl4~>b~~r6l7~_bKaBCd" ?_;exact aF.ret (H':=F) (rA rfl rfl ⟨isAgg58,sizeOf58⟩ rfl) eO ⟨rfl,rfl⟩
  ·refine aj "~>bl2~Bb~~r6l7~_bKaBCd" ?_;exact aF.ret (H':=F) (rA rfl rfl ⟨isAgg58,sizeOf58⟩ rfl) eO ⟨rfl,rfl⟩
theorem Yr(s:aY)(slot:Int)(K:World)(F:List aH):aK prog 68 #[s.v,.i slot] K F (.tuple #[(s.gM slot).1.v,.i (s.gM slot).2]):=by
 refine aB.en func68 ntmps68 ?_;refine aj "a*" fun b2=> ?_;refine aj "v" fun b4=> ?_;refine aj "taBc" ?_;refine WL.t2 call129 rfl rfl (Fb s slot _ _) rfl<|aj "ksb~e" (aW (fun aL=> ?_) fun aL=> ?_)
 ·have e1:s.gM slot=(aY.zero,1):=by unfold aY.gM;rw[if_pos aL]
  have e2:s.Ol slot=1:=by unfold aY.Ol at aL ⊢;split<;>simp_all
  refine aj "a?cCd" ?_;refine aF.ret (H':=F) (rA rfl rfl ⟨isAgg58,sizeOf58⟩ rfl) eO ⟨?_,rfl⟩;rw[e1,e2];rfl
 ·obtain⟨jh,mR⟩:=aY.Uf aL;have hs:=aY.lJ jh;have e1:s.gM slot=if s.may slot then (s.put slot s.f (if s.g slot then s.t slot else s.t slot-1) (s.g slot),0) else (aY.zero,240):=by unfold aY.gM;rw[if_neg (by simp[aL])]
  rcases mR with rfl | rfl
  all_goals
   refine aj "W7~o~Bv" fun b7=> ?_;refine aj "~~jDua~B" ?_;refine WL.t1 call128 rfl (yV _ _ _ _) rfl<|aj "%gF" (aW (fun aQ=> ?_) fun aQ=> ?_)
   ·simp only[Gd] at aQ;refine aj "a?Cd" ?_;refine aF.ret (H':=F) (rA rfl rfl ⟨isAgg58,sizeOf58⟩ rfl) eO ⟨?_,rfl⟩;rw[e1];simp[*,aY.may,aY.g,aY.t,aY.put,aY.zero]
   ·simp only[Gd] at aQ;refine aj "ap%gF" (aW (fun bA=> ?_) fun bA=> ?_)
    ·simp only[Gd] at bA;simp[bA] at aQ;refine aj "qp`7~~~dLBcp~B" ?_;refine WL.t4 call130 rfl rfl rfl rfl (Br s _ _ _ _ (by simp) _ _) rfl<|aj "~1Cd" ?_;refine aF.ret (H':=F) (rA rfl rfl ⟨isAgg58,sizeOf58⟩ rfl) eO ⟨?_,rfl⟩;rw[e1];simp[*,aY.may,aY.g,aY.t,aY.put,aY.zero]
    ·simp only[Gd] at bA;refine aj "iaBcp~B" ?_;refine WL.t4 call130 rfl rfl rfl rfl (Br s _ _ _ _ (by simp) _ _) rfl<|aj "~1Cd" ?_;refine aF.ret (H':=F) (rA rfl rfl ⟨isAgg58,sizeOf58⟩ rfl) eO ⟨?_,rfl⟩;rw[e1];simp[*,aY.may,aY.g,aY.t,aY.put,aY.zero]
theorem JY(s:aY)(slot:Int)(K:World)(F:List aH):aK prog 94 #[s.v,.i slot] K F (.tuple #[(s.dR slot).1.v,.i (s.dR slot).2]):=by
 refine aB.en func94 ntmps94 ?_;refine aj "a*" fun b2=> ?_;refine aj "v" fun b4=> ?_;refine aj "taBc" ?_;refine WL.t2 call129 rfl rfl (Fb s slot _ _) rfl<|aj "ksb~e" (aW (fun aL=> ?_) fun aL=> ?_)
 ·have e2:s.Ol slot=1:=by unfold aY.Ol at aL ⊢;split<;>simp_all
  refine aj "a?cCd" ?_;refine aF.ret (H':=F) (rA rfl rfl ⟨isAgg58,sizeOf58⟩ rfl) eO ⟨?_,rfl⟩;unfold aY.dR;rw[if_pos aL,e2];rfl
 ·obtain⟨jh,mR⟩:=aY.Uf aL;refine aj "iaBz" ?_;refine WL.val (V.build (vs:=[(1,_)]) ⟨ak rfl,trivial⟩ rfl (Vo _)) rfl (WL.t4 call130 rfl rfl rfl rfl (Br s _ _ _ _ mR _ _) rfl ?_);refine aj "~1Cd" ?_;refine aF.ret (H':=F) (rA rfl rfl ⟨isAgg58,sizeOf58⟩ rfl) eO ⟨?_,rfl⟩;unfold aY.dR;rw[if_neg (by simp[aL])]
theorem EW(s:aY)(K:World)(F:List aH):aB prog 67 #[s.v] K F (fun v H'=>∃A cap,v= .tuple #[.slice A s.order.length cap,.i s.V3]∧H'=aV (.slice A s.order.length cap) 3 1 s.order.length (ints .i64 s.order)::F):=by
 obtain⟨f,t0,g0,t1,g1⟩:=s;dsimp only[aY.v];refine aB.en func67 ntmps67 ?_;refine aj "a*" fun b1=> ?_;refine aj "otaB" ?_;refine WL.t1 call127 rfl (xA ⟨_,_,_,_,_⟩ _ _) rfl<|aj "ksj" (aW (fun aL=> ?_) fun aL=> ?_)
 ·simp only[iC] at aL;refine aj "eG" ?_;refine aF.ret (H':=aV (.slice none 0 0) 3 1 0 []::F) (bJ.eU rfl rfl rfl) (fun w h=>Sat.gI (by revert h;exact fun h=>by repeat (first | exact h | replace h:=h.tail)) _ _) ⟨none,0, ?_⟩;have e1:(aY.mk f t0 g0 t1 g1).order=[]:=by unfold aY.order;rw[if_neg (by intro h;apply aL;unfold aY.V3;rw[if_pos h])]
  rw[e1];exact⟨rfl,rfl⟩
 ·simp only[iC] at aL;have jh:=aY.aaV aL;have hf:=(aY.lJ jh).1;have e1:(aY.mk f t0 g0 t1 g1).order=[f,1-f].filter (aY.mk f t0 g0 t1 g1).may:=by unfold aY.order;rw[if_pos jh]
  dsimp only at hf;rcases hf with rfl | rfl
  all_goals
   refine aj "~b" ?_;refine WC.sub (Sub.refl _) (fun w h=>h.gI 3 1)<|aj "qtapp`" ?_;refine WL.val (V.build (vs:=[(0,_),(1,_)]) ⟨ak rfl,ak rfl,trivial⟩ rfl (Uo _ _)) rfl (aj "Q~6S2Ha~~)k7~o~B" ?_);refine WL.t1 call128 rfl (yV _ _ _ _) rfl<|aj "j" (aW (fun bA=> ?_) fun bA=> ?_)
   ·refine aj "M" ?_;refine WL.buildSlice (E:=3) (cs:=[_]) (vs:=[(0,_)]) ⟨ak rfl,trivial⟩ rfl (dJ _) rfl (fun Va=>aj "=" ?_);refine WL.append underlying124 Me (ak rfl) (ak rfl) (by repeat (first | exact Seq.all rfl | apply Seq.up)) (by simp[Value.oneCell']) (by first | omega | (simp;omega)) rfl rfl (fun A30 c30 agy ag3=>aj "gq~M~uS2Ha~~)k7~o~B" ?_);refine WL.t1 call128 rfl (yV _ _ _ _) rfl<|aj "j" (aW (fun mV=> ?_) fun mV=> ?_)
    ·refine aj "M" ?_;refine WL.buildSlice (E:=3) (cs:=[_]) (vs:=[(0,_)]) ⟨ak rfl,trivial⟩ rfl (dJ _) rfl (fun Va=>aj "=" ?_);refine WL.append underlying124 Me (ak rfl) (ak rfl) (by repeat (first | exact Seq.all rfl | apply Seq.up)) (by simp[Value.oneCell']) (by first | omega | (simp;omega)) rfl rfl (fun A30 c30 agy ag3=>aj "gq~r~uS~zNeG" ?_);simp only[filter,aY.may,aY.g,aY.t,Int.reduceSub,Int.reduceEq,↓reduceIte, *] at e1;exact aF.ret (H':=aV _ 3 1 _ _::F) (bJ.eU rfl rfl rfl) (fun w h=>by repeat (first | exact h | replace h:=h.oJ)) ⟨_,_,by rw[e1,aL];rfl,by rw[e1];rfl⟩
    ·refine aj "iq~r~uS~zNeG" ?_;simp only[filter,aY.may,aY.g,aY.t,Int.reduceSub,Int.reduceEq,↓reduceIte, *] at e1;exact aF.ret (H':=aV _ 3 1 _ _::F) (bJ.eU rfl rfl rfl) (fun w h=>by repeat (first | exact h | replace h:=h.oJ)) ⟨_,_,by rw[e1,aL];rfl,by rw[e1];rfl⟩
   ·refine aj "iq~M~uS2Ha~~)k7~o~B" ?_;refine WL.t1 call128 rfl (yV _ _ _ _) rfl<|aj "j" (aW (fun mV=> ?_) fun mV=> ?_)
    ·refine aj "M" ?_;refine WL.buildSlice (E:=3) (cs:=[_]) (vs:=[(0,_)]) ⟨ak rfl,trivial⟩ rfl (dJ _) rfl (fun Va=>aj "=" ?_);refine WL.append underlying124 Me (ak rfl) (ak rfl) (by repeat (first | exact Seq.all rfl | apply Seq.up)) (by simp[Value.oneCell']) (by first | omega | (simp;omega)) rfl rfl (fun A30 c30 agy ag3=>aj "gq~r~uS~zNeG" ?_);simp only[filter,aY.may,aY.g,aY.t,Int.reduceSub,Int.reduceEq,↓reduceIte, *] at e1;exact aF.ret (H':=aV _ 3 1 _ _::F) (bJ.eU rfl rfl rfl) (fun w h=>by repeat (first | exact h | replace h:=h.oJ)) ⟨_,_,by rw[e1,aL];rfl,by rw[e1];rfl⟩
    ·refine aj "iq~r~uS~zNeG" ?_;simp only[filter,aY.may,aY.g,aY.t,Int.reduceSub,Int.reduceEq,↓reduceIte, *] at e1;exact aF.ret (H':=aV _ 3 1 _ _::F) (bJ.eU rfl rfl rfl) (fun w h=>by repeat (first | exact h | replace h:=h.oJ)) ⟨_,_,by rw[e1,aL];rfl,by rw[e1];rfl⟩
theorem wrap_u8(h:0≤i∧i<256):IntKind.u8.wrap i=i:=by grind [IntKind.wrap,IntKind.signed,IntKind.bits]
theorem EP(s:aY)(K:World)(F:List aH):aB prog 131 #[s.v] K F (fun v H'=>(s.ok=true∧∃b,v= .tuple #[.slice (some ⟨b,0,none⟩) 9 9,.i 0]∧H'=ah b 5 (ints .u8 s.bytes)::F)∨(s.ok=false∧v= .tuple #[.slice none 0 0,.i 1]∧H'=F)):=by
 obtain⟨f,t0,g0,t1,g1⟩:=s;dsimp only[aY.v];refine aB.en func131 ntmps131 ?_;refine aj "a*" fun b1=> ?_;refine aj "otaB" ?_;refine WL.t1 call127 rfl (xA ⟨_,_,_,_,_⟩ _ _) rfl<|aj "ksj" (aW (fun aL=> ?_) fun aL=> ?_)
 ·simp only[iC] at aL;refine aj "eG" ?_;have e1:(aY.mk f t0 g0 t1 g1).ok=false:=by
   cases h:(aY.mk f t0 g0 t1 g1).ok with
   | false=>rfl
   | true=>exact (aL (by unfold aY.V3;rw[if_pos h])).elim
  exact aF.ret (H':=F) (bJ.eU rfl rfl rfl) eO (.inr ⟨e1,by unfold aY.V3;rw[if_neg (by simp[e1])],rfl⟩)
 ·simp only[iC] at aL;have jh:=aY.aaV aL;have hs:=aY.lJ jh;dsimp only at hs;refine aj "ia" ?_;refine WL.af0 9 (cs:=[_,_,_,_,_,_,_,_,_]) underlying34 yL (ak rfl) (ak rfl) rfl rfl ay rfl rfl rfl rfl (fun b13=>aj "k" ?_);refine WL.adU (news:=[_,_,_,_]) dO (ak rfl) rfl rfl (by repeat (first | exact bT.here (cs':=[_,_,_,_,_,_,_,_,_]) rfl rfl | apply bT.up)) rfl<|aj "bep~v~D~~iDa7~~~lQ~6S24~~Dv" fun b7=> ?_;refine aj "o~~jbec" ?_;refine WL.val (V.aG (v':= .i (0)) (V.mul (ak rfl) (ak rfl)) (fun _=>rfl)) rfl<|WL.val (V.aG (v':= .i (5)) (V.add (ak rfl) (ak rfl)) (fun _=>rfl)) rfl<|aj "p~v~D~~iLpj" (aW (fun bA=> ?_) fun bA=> ?_)
  ·try simp only[iC] at bA
   refine aj "M" ?_;refine WL.val (V.aG (v':= .i (0)) (V.mul (ak rfl) (ak rfl)) (fun _=>rfl)) rfl<|WL.val (V.aG (v':= .i (6)) (V.add (ak rfl) (ak rfl)) (fun _=>rfl)) rfl<|aj "~D~~ibq~M~uS24~~Dv" fun b7=> ?_;refine aj "o~~jbec~~U" ?_;refine WL.val (V.aG (v':= .i (7)) (V.add (ak rfl) (ak rfl)) (fun _=>rfl)) rfl<|aj "p~v~D~~iLpj" (aW (fun mV=> ?_) fun mV=> ?_)
   ·try simp only[iC] at mV
    refine aj "M~~U" ?_;refine WL.val (V.aG (v':= .i (8)) (V.add (ak rfl) (ak rfl)) (fun _=>rfl)) rfl<|aj "~D~~ibq~r~uS~zNeG" ?_;refine aF.ret (H':=ah b13 _ (ints .u8 (aY.mk f t0 g0 t1 g1).bytes)::F) (bJ.eU rfl rfl rfl) (fun w h=> ?_) (.inl ⟨jh,b13,rfl,rfl⟩);replace h:=h.tail.tail.oJ;refine Sat.aT h ?_;rw[wrap_u8 ay,wrap_u8 ay,wrap_u8 ay];unfold aY.bytes;rw[if_pos jh];simp[oU,ints,aY.Zf, *]
   ·try simp only[iC] at mV
    refine aj "iq~r~uS~zNeG" ?_;refine aF.ret (H':=ah b13 _ (ints .u8 (aY.mk f t0 g0 t1 g1).bytes)::F) (bJ.eU rfl rfl rfl) (fun w h=> ?_) (.inl ⟨jh,b13,rfl,rfl⟩);replace h:=h.tail.tail.oJ;refine Sat.aT h ?_;rw[wrap_u8 ay,wrap_u8 ay,wrap_u8 ay];unfold aY.bytes;rw[if_pos jh];simp[oU,ints,aY.Zf, *]
  ·try simp only[iC] at bA
   refine aj "iq~M~uS24~~Dv" fun b7=> ?_;refine aj "o~~jbec~~U" ?_;refine WL.val (V.aG (v':= .i (7)) (V.add (ak rfl) (ak rfl)) (fun _=>rfl)) rfl<|aj "p~v~D~~iLpj" (aW (fun mV=> ?_) fun mV=> ?_)
   ·try simp only[iC] at mV
    refine aj "M~~U" ?_;refine WL.val (V.aG (v':= .i (8)) (V.add (ak rfl) (ak rfl)) (fun _=>rfl)) rfl<|aj "~D~~ibq~r~uS~zNeG" ?_;refine aF.ret (H':=ah b13 _ (ints .u8 (aY.mk f t0 g0 t1 g1).bytes)::F) (bJ.eU rfl rfl rfl) (fun w h=> ?_) (.inl ⟨jh,b13,rfl,rfl⟩);replace h:=h.tail.tail.oJ;refine Sat.aT h ?_;rw[wrap_u8 ay,wrap_u8 ay,wrap_u8 ay];unfold aY.bytes;rw[if_pos jh];simp[oU,ints,aY.Zf, *]
   ·try simp only[iC] at mV
    refine aj "iq~r~uS~zNeG" ?_;refine aF.ret (H':=ah b13 _ (ints .u8 (aY.mk f t0 g0 t1 g1).bytes)::F) (bJ.eU rfl rfl rfl) (fun w h=> ?_) (.inl ⟨jh,b13,rfl,rfl⟩);replace h:=h.tail.tail.oJ;refine Sat.aT h ?_;rw[wrap_u8 ay,wrap_u8 ay,wrap_u8 ay];unfold aY.bytes;rw[if_pos jh];simp[oU,ints,aY.Zf, *]
namespace aY
def of(xs:List Int):aY:=⟨xs.getD 4 0,xs.getD 5 0,decide (xs.getD 6 0=1),xs.getD 7 0,decide (xs.getD 8 0=1)⟩
theorem fC{s:aY}(h:s.ok=true):s.bytes.length=9:=by unfold bytes;rw[if_pos h];rfl
theorem gJ{s:aY}(h:s.ok=true):bF s.bytes:=by
 have hs:=lJ h;unfold bytes;rw[if_pos h];have hb:∀b,0≤Zf b∧Zf b<256:=fun b=>by cases b<;>simp[Zf]
 have h0:=hb s.g0;have h1:=hb s.g1;intro x hx;simp only[mem_cons,not_mem_nil,or_false] at hx;omega
def dW(xs:List Int):Bool:=decide (xs.length=9)&&(of xs).ok&&decide ((of xs).bytes=xs)
def parse(xs:List Int):aY×Int:=if dW xs then (of xs,0) else (zero,4)
end aY
theorem Ot(hx:bF xs)(K:World)(F:List aH)(hs:Seq K F A m 1 (ints .u8 xs)) :
 aK prog 88 #[.slice A m cap] K F (.tuple #[(aY.parse xs).1.v,.i (aY.parse xs).2]):=by
 have hl:xs.length=m:=by simpa [ints] using hs.len
 refine aB.en func88 ntmps88 ?_;refine aj "av" fun b2=> ?_;refine aj "fnsj" (aW (fun aL=> ?_) fun aL=> ?_)
 ·simp only[iC] at aL;refine aj "a?Cd" ?_;refine aF.ret (H':=F) (rA rfl rfl ⟨isAgg58,sizeOf58⟩ rfl) eO ⟨?_,rfl⟩;unfold aY.parse;rw[if_neg (by simp[aY.dW];omega)];rfl
 ·simp only[iC] at aL;obtain rfl:m=9:=by omega
  refine aj "~b~Sm0" ?_;refine WA.t 1 rfl (V.dw dO (ak rfl) (ak rfl) Jy (fun hc=>by repeat (first | exact Seq.dD hs (by first | omega | (simp at hc;omega)) | apply Rd.up))) ?_;refine WA.t 2 rfl (V.load isAgg5 (ak rfl) (fun hc=>by repeat (first | exact Seq.dD hs (by first | omega | (simp at hc;omega)) | apply Rd.up))) ?_;refine WA.t 3 rfl (V.uy runUnderlying5 runUnderlying3 (ak rfl) (fun _=>wrap_i64 (bF.wide hx _))) ?_;refine aj "m4" ?_;refine WA.t 5 rfl (V.dw dO (ak rfl) (ak rfl) Jy (fun hc=>by repeat (first | exact Seq.dD hs (by first | omega | (simp at hc;omega)) | apply Rd.up))) ?_;refine WA.t 6 rfl (V.load isAgg5 (ak rfl) (fun hc=>by repeat (first | exact Seq.dD hs (by first | omega | (simp at hc;omega)) | apply Rd.up))) ?_;refine WA.t 7 rfl (V.uy runUnderlying5 runUnderlying3 (ak rfl) (fun _=>wrap_i64 (bF.wide hx _))) ?_;refine aj "m8" ?_;refine WA.t 9 rfl (V.dw dO (ak rfl) (ak rfl) Jy (fun hc=>by repeat (first | exact Seq.dD hs (by first | omega | (simp at hc;omega)) | apply Rd.up))) ?_;refine WA.t 10 rfl (V.load isAgg5 (ak rfl) (fun hc=>by repeat (first | exact Seq.dD hs (by first | omega | (simp at hc;omega)) | apply Rd.up))) ?_;refine aj "~~s;" ?_;refine WA.t 12 rfl (V.build (vs:=[(0,_),(1,_)]) ⟨ak rfl,ak rfl,trivial⟩ rfl (qj _ _)) ?_;refine aj "m=" ?_;refine WA.t 14 rfl (V.dw dO (ak rfl) (ak rfl) Jy (fun hc=>by repeat (first | exact Seq.dD hs (by first | omega | (simp at hc;omega)) | apply Rd.up))) ?_;refine WA.t 15 rfl (V.load isAgg5 (ak rfl) (fun hc=>by repeat (first | exact Seq.dD hs (by first | omega | (simp at hc;omega)) | apply Rd.up))) ?_;refine WA.t 16 rfl (V.uy runUnderlying5 runUnderlying3 (ak rfl) (fun _=>wrap_i64 (bF.wide hx _))) ?_;refine aj "mA" ?_;refine WA.t 18 rfl (V.dw dO (ak rfl) (ak rfl) Jy (fun hc=>by repeat (first | exact Seq.dD hs (by first | omega | (simp at hc;omega)) | apply Rd.up))) ?_;refine WA.t 19 rfl (V.load isAgg5 (ak rfl) (fun hc=>by repeat (first | exact Seq.dD hs (by first | omega | (simp at hc;omega)) | apply Rd.up))) ?_;refine aj "~~sD" ?_;refine WA.t 21 rfl (V.build (vs:=[(0,_),(1,_)]) ⟨ak rfl,ak rfl,trivial⟩ rfl (qj _ _)) ?_;refine WA.t 22 rfl (V.build (vs:=[(0,_),(1,_)]) ⟨ak rfl,ak rfl,trivial⟩ rfl (Xg _ _ _ _)) ?_;refine WA.t 23 rfl (V.build (vs:=[(0,_),(1,_)]) ⟨ak rfl,ak rfl,trivial⟩ rfl (Xw _ _ _ _ _)) ?_;refine aj "lHv" fun b4=> ?_;refine aj "blICbKPaB" ?_;refine WL.c1 call131 rfl (EP (aY.of xs) _ _) rfl ?_;rintro v H' (⟨jh,bb,rfl,rfl⟩ | ⟨jh,rfl,rfl⟩);all_goals
   refine aj "EkscV" ?_;refine WL.bI (oj:=_) rfl rfl rfl GC.f (V.iM underlying34 underlying5 underlying9 (OV.g rfl id) (fun hc=>by first | exact Seq.agZ | exact Seq.allI (aY.fC jh))) rfl<|aj "V" ?_;refine WL.bI (oj:=_) rfl rfl rfl GC.f (V.iM underlying34 underlying5 underlying9 (OV.g rfl id) (fun hc=>by repeat (first | exact Seq.agZ | exact Seq.allI (by simp) | assumption | apply Seq.up))) rfl<|WL.bI (oj:=_) rfl rfl rfl GC.f (V.agA (OV.g rfl id) (OV.g rfl id)) rfl<|aj "Oj" (aW (fun aQ=> ?_) fun aQ=> ?_)
   ·have hng:aY.dW xs=false:=by first | (simp[aY.dW,jh];done) | (rw[sZ (aY.gJ jh) hx] at aQ;simp at aQ;simp[aY.dW,aQ])
    refine aj "a?Cd" ?_;refine aF.ret (H':=F) (rA rfl rfl ⟨isAgg58,sizeOf58⟩ rfl) eO ⟨?_,rfl⟩;unfold aY.parse;rw[if_neg (by simp[hng])];rfl
   ·have hg:aY.dW xs=true:=by first | (exfalso;revert aQ;simp;done) | (rw[sZ (aY.gJ jh) hx] at aQ;simp at aQ;simp[aY.dW,jh,hl,aQ])
    refine aj "iaBCd" ?_;refine aF.ret (H':=F) (rA rfl rfl ⟨isAgg58,sizeOf58⟩ rfl) eO ⟨?_,rfl⟩;unfold aY.parse;rw[if_pos hg];rfl
end Go.Proofs.YtcedojacbhnbiaaGreat
