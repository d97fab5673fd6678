import Derived.Test.YtcedojacbhnbiaaGreatP5
import Derived.Test.YtcedojacbhnbiaaGreatP3
set_option autoImplicit true
set_option linter.all false
set_option maxHeartbeats 2000000
set_option maxRecDepth 20000
set_option relaxedAutoImplicit true
namespace Go.Proofs.YtcedojacbhnbiaaGreat
open Go.Sl Go.RowKit Tryz List Nat
theorem afV(a b c d:Nat):(a ^^^ b) ^^^ (c ^^^ d)=(a ^^^ c) ^^^ (b ^^^ d):=by grind
theorem NQ(h:a<8192):red (2*a)=2*a ^^^ (if a.testBit 12=true then 8219 else 0):=by unfold red;grind
theorem adT(a b:Nat):2*(a ^^^ b)=2*a ^^^ 2*b:=by
 apply eq_of_testBit_eq;intro i;rw[testBit_xor,Nat.mul_comm 2,Nat.mul_comm 2,Nat.mul_comm 2,←Nat.pow_one 2];rw[lN,lN,lN,testBit_xor];cases decide (1≤i)<;>simp
theorem adH(ha:a<8192)(hb:b<8192):red (2*(a ^^^ b))=red (2*a) ^^^ red (2*b):=by
 rw[NQ ha,NQ hb,NQ (je (k:=13) ha hb),adT,afV,testBit_xor];congr 1;cases a.testBit 12<;>cases b.testBit 12<;>simp
theorem Ed:∀(k o1 o2 a1 a2 b:Nat),a1<8192→a2<8192→uq k (o1 ^^^ o2) (a1 ^^^ a2) b=uq k o1 a1 b ^^^ uq k o2 a2 b
 | 0,_,_,_,_,_,_,_=>rfl
 | k+1,o1,o2,a1,a2,b,h1,h2=>by
  rw[uq,uq,uq];by_cases hb:b=0
  ·rw[if_pos hb,if_pos hb,if_pos hb]
  ·rw[if_neg hb,if_neg hb,if_neg hb,adH h1 h2];by_cases h3:b%2=1
   ·rw[if_pos h3,if_pos h3,if_pos h3,afV];exact Ed k _ _ _ _ _ (vH h1) (vH h2)
   ·rw[if_neg h3,if_neg h3,if_neg h3];exact Ed k _ _ _ _ _ (vH h1) (vH h2)
theorem OG(x:Nat)(ha:a<8192)(hb:b<8192):kK (a ^^^ b) x=kK a x ^^^ kK b x:=by
 have h:=Ed 13 0 0 a b x ha hb
 rwa [Nat.xor_self] at h
theorem KS(x:Nat):kK 0 x=0:=by
 have h:=OG (a:=0) (b:=0) x aN aN
 rwa [Nat.xor_self,Nat.xor_self] at h
def it(x:Nat):Nat→Nat→Nat
 | 0,v=>v
 | n+1,v=>it x n (kK v x)
theorem aao:∀(n v:Nat),v<8192→it x n v<8192
 | 0,v,h=>h
 | n+1,v,h=>aao n _ (fD h)
theorem Nk:∀(n v u:Nat),v<8192→u<8192→it x n (v ^^^ u)=it x n v ^^^ it x n u
 | 0,_,_,_,_=>rfl
 | n+1,v,u,h1,h2=>by
  rw[it,it,it,OG x h1 h2];exact Nk n _ _ (fD h1) (fD h2)
theorem vI(x:Nat):∀n,it x n 0=0
 | 0=>rfl
 | n+1=>by rw[it,KS];exact vI x n
theorem ab8(x:Nat):∀(m n v:Nat),it x (m+n) v=it x n (it x m v)
 | 0,n,v=>by rw[Nat.zero_add];rfl
 | m+1,n,v=>by rw[succ_add_eq_add_succ,add_succ,it,it];exact ab8 x m n _
def ev(x:Nat)(f:Nat→Bool):Nat→Nat
 | 0=>0
 | n+1=>it x n (H8 (f n)) ^^^ ev x f n
theorem y8(b:Bool):H8 b<8192:=by cases b<;>decide
theorem ae1:∀n,ev x f n<8192
 | 0=>(by decide:0<8192)
 | n+1=>je (k:=13) (aao _ _ (y8 _)) (ae1 n)
theorem R4:∀(n v:Nat),v<8192→RI f x n v=it x n v ^^^ ev x f n
 | 0,v,_=>by rw[RI,it,ev,xor_zero]
 | n+1,v,h=>by
  rw[RI,R4 n _ (je (k:=13) (fD h) (y8 _)),Nk n _ _ (fD h) (y8 _),it,ev,Nat.xor_assoc]
theorem uG:∀n,(∀i,i<n→f i=g i)→ev x f n=ev x g n
 | 0,_=>rfl
 | n+1,h=>by rw[ev,ev,h n (lt_succ_self _),uG n (fun i hi=>h i (lt_succ_of_lt hi))]
theorem Sm:∀n,ev x (fun i=>f i ^^ g i) n=ev x f n ^^^ ev x g n
 | 0=>(Nat.xor_self 0).symm
 | n+1=>by
  have h:H8 (f n ^^ g n)=H8 (f n) ^^^ H8 (g n):=by cases f n<;>cases g n<;>rfl
  rw[ev,ev,ev,Sm n,h,Nk _ _ _ (y8 _) (y8 _),afV]
theorem aaS(h:∀i,n≤i→f i=false):∀m,ev x f (n+m)=ev x f n
 | 0=>rfl
 | m+1=>by
  rw[add_succ,ev,h _ (le_add_right _ _),show H8 false=0 from rfl,vI,zero_xor,aaS h m]
theorem zy(h:∀i,n≤i→f i=false)(hm:n≤m):ev x f m=ev x f n:=by grind [aaS,Nat.add_sub_cancel']
theorem ME:∀n,(∀i,i<n→f i=false)→ev x f n=0
 | 0,_=>rfl
 | n+1,h=>by rw[ev,h n (lt_succ_self _),show H8 false=0 from rfl,vI,zero_xor,ME n (fun i hi=>h i (lt_succ_of_lt hi))]
theorem P8:∀n,ev x (fun i=>decide (m≤i)&&f (i-m)) (n+m)=it x m (ev x f n)
 | 0=>by
  rw[Nat.zero_add,ME m (fun i hi=>by rw[decide_eq_false ay];rfl),ev,vI]
 | n+1=>by
  rw[succ_add,ev,ev,Nk _ _ _ (aao _ _ (y8 _)) (ae1 _),P8 n,decide_eq_true ay,Bool.true_and,Nat.add_sub_cancel,ab8]
theorem LZ(hf:∀i,n≤i→f i=false)(hN:n+m≤N):ev x (fun i=>decide (m≤i)&&f (i-m)) N=it x m (ev x f n):=by
 rw[←P8 n];refine zy (fun i hi=> ?_) hN;rw[hf _ ay,Bool.and_false]
theorem Ow(ho:aA 256 out)(hp:aA 256 p)(hl:p.length+at_/8<out.length) :
 ev x (tF (mI out p at_ p.length)) (8*out.length)=ev x (tF out) (8*out.length) ^^^ it x at_ (ev x (tF p) (8*p.length)):=by
 rw[←LZ (x:=x) (m:=at_) (N:=8*out.length) (fun i hi=>lU hi) ay,←Sm];refine uG _ (fun i _=> ?_);rw[xL ho hp _ hl];congr 1;by_cases h:i-at_<8*p.length
 ·rw[decide_eq_true h,Bool.and_true]
 ·rw[decide_eq_false h,Bool.and_false,Bool.false_and,lU ay,Bool.and_false]
theorem ZM(hp:aA 256 p)(hq:aA 256 q)(RL:q.length=lq)(RX:lq=d/8+1)(hx:ev x (tF q) (8*q.length)=0):∀k,k≤8*p.length-d →
 ev x (tF (gW p q lq d k)) (8*(p.length+1))=ev x (tF p) (8*p.length)
 | 0,_=>by
  rw[gW];have h1:∀i,tF (p++[0]) i=tF p i:=fun i=>by
   unfold tF;congr 1;by_cases h:i/8<p.length
   ·simp[getD,getElem?_append_left h]
   ·simp only[getD];rw[getElem?_append_right ay,getElem?_eq_none (by omega:p.length≤i/8)];rcases eq_zero_or_pos (i/8-p.length) with h2 | h2
    ·rw[h2];rfl
    ·rw[getElem?_eq_none (by simp;omega)]
  rw[uG _ (fun i _=>h1 i)];exact zy (fun i hi=>lU hi) ay
 | k+1,hk=>by
  have ih:=ZM hp hq RL RX hx k ay;rw[gW];split
  ·have h:=Ow (x:=x) (at_:=8*p.length-1-k-d) (jq (lq:=lq) (d:=d) hp hq k) hq (by rw[gy,RL];omega);rw[gy,hx,vI,xor_zero,ih,RL] at h;exact h
  ·exact ih
theorem Cv:∀n j,aZ xs n≤j→j<n→xs.getD j 0=0
 | 0,_,_,h=>absurd h (not_lt_zero _)
 | n+1,j,h1,h2=>by
  rw[aZ] at h1;split at h1
  ·rename_i h3;rcases Nat.lt_or_ge j n with h | h
   ·exact Cv n j h1 h
   ·have :j=n:=by omega
    subst this;exact h3
  ·omega
theorem H9(hn:n=xs.length)(k:Nat):tF (xs.take (aZ xs n)) k=tF xs k:=by
 unfold tF;congr 1;by_cases h:k/8<aZ xs n
 ·simp[getD,getElem?_take,h]
 ·have h0:(xs.take (aZ xs n)).getD (k/8) 0=0:=by simp[getD,getElem?_take,h]
  rw[h0];by_cases h2:k/8<n
  ·exact (Cv n _ ay h2).symm
  ·rw[getD,getElem?_eq_none ay];rfl
theorem Qd(n k:Nat):tF (replicate n 0) k=false:=by unfold tF;grind
theorem SA(xs:List Nat)(n k:Nat):tF (xs++replicate n 0) k=tF xs k:=by unfold tF;grind
theorem R5(t i:Nat):tF (dY t) i=decide (i=13*t):=by unfold tF dY aR;grind
theorem KY:∀i,kY (dY t) d i=if i≤13*t then replicate ((dY t).length+d.length+1) 0 else mI (replicate ((dY t).length+d.length+1) 0) d (13*t) d.length
 | 0=>by rw[kY,if_pos (zero_le _)]
 | i+1=>by
  rw[kY,KY i,R5];by_cases h:i=13*t
  ·rw[decide_eq_true h,if_pos rfl,if_pos ay,if_neg ay,h]
  ·rw[decide_eq_false h];by_cases h2:i≤13*t
   ·rw[if_neg Bool.false_ne_true,if_pos h2,if_pos ay]
   ·rw[if_neg Bool.false_ne_true,if_neg h2,if_neg ay]
def Yv(t:Nat):Bool:=(List.range (2*t)).all fun k=>decide (RI (tF (fO t)) (gG ((k+1:Nat):Int)) (8*(fO t).length) 0=0)
theorem WT:[1,2,3,4,5,6,7,8].all Yv=true:=by kernel_rfl
theorem aaL(ht:1≤t∧t≤8)(hk:k<2*t):ev (gG ((k+1:Nat):Int)) (tF (fO t)) (8*(fO t).length)=0:=by
 have h:=all_eq_true.1 WT t (by simp only[mem_cons,not_mem_nil,or_false];omega);have h1:=of_decide_eq_true (all_eq_true.1 h k (mem_range.2 hk));rw[R4 _ _ aN,vI,zero_xor] at h1;exact h1
theorem TF(t:Nat)(d:List Nat):iZ (dY t) d=mI (replicate ((dY t).length+d.length+1) 0) d (13*t) d.length:=by
 unfold iZ;rw[KY,if_neg];rw[lg];unfold aR;omega
theorem adZ(hd:aA 256 d):ev x (tF (jF t d)) (8*(jF t d).length)=it x (13*t) (ev x (tF d) (8*d.length)):=by
 have hl:(iZ (dY t) d).length=(dY t).length+d.length+1:=iU _ _ _;have h1:∀k,tF (jF t d) k=tF (iZ (dY t) d) k:=fun k=>by unfold jF;exact H9 hl.symm k
 have h2:=Ow (x:=x) (at_:=13*t) (out:=replicate ((dY t).length+d.length+1) 0) (p:=d) (aA.wJ aN) hd (by rw[length_replicate,lg];unfold aR;omega);rw[←TF,ME _ (fun i _=>Qd _ i),zero_xor,length_replicate,←hl] at h2;rw[←h2,←zy (x:=x) (f:=tF (jF t d)) (n:=8*(jF t d).length) (m:=8*(iZ (dY t) d).length) (fun i hi=>lU hi) (by unfold jF;rw[length_take];omega)];exact uG _ (fun i _=>h1 i)
theorem Jf(k:Nat):tF (mU t d) k=tF (xU t d) k:=by grind [mU,SA,jR,H9,pO]
theorem ze(ht:1≤t∧t≤8)(hd:aA 256 d)(hk:13*t≤k):tF (mU t d) k=false:=by
 obtain⟨g1,g2,g3,g4,g5⟩:=uD ht;rw[Jf];exact LG (oF hd) g5 rfl g3 g4 hk
theorem adg(ht:1≤t∧t≤8)(hd:aA 256 d)(hk:k<2*t) :
 RI (wAt t d (mU t d)) (gG ((k+1:Nat):Int)) (13*t+8*d.length) 0=0:=by
 obtain⟨g1,g2,g3,g4,g5⟩:=uD ht;obtain⟨x,hx⟩:∃x,x=gG ((k+1:Nat):Int):=⟨_,rfl⟩;have hr:=aaL ht hk;rw[←hx] at hr ⊢;rw[R4 _ _ aN,vI,zero_xor];have h1:∀i,wAt t d (mU t d) i=((decide (13*t≤i)&&tF d (i-13*t)) ^^ tF (mU t d) i):=fun i=>by
  unfold wAt;by_cases h:13*t≤i
  ·rw[if_pos h,decide_eq_true h,Bool.true_and,ze ht hd h,Bool.xor_false]
  ·rw[if_neg h,decide_eq_false h,Bool.false_and,Bool.false_xor]
 rw[uG _ (fun i _=>h1 i),Sm,LZ (n:=8*d.length) (fun i hi=>lU hi) ay];have h2:ev x (tF (mU t d)) (13*t+8*d.length)=ev x (tF (mU t d)) (13*t):=zy (fun i hi=>ze ht hd hi) ay;have h3:ev x (tF (xU t d)) (8*((jF t d).length+1))=ev x (tF (jF t d)) (8*(jF t d).length):=ZM (oF hd) g5 rfl g3 hr _ (Nat.le_refl _);have h4:ev x (tF (xU t d)) (8*((jF t d).length+1))=ev x (tF (mU t d)) (13*t):=by
  rw[←uG _ (fun i _=>Jf (t:=t) (d:=d) i)];rcases Nat.le_total (13*t) (8*((jF t d).length+1)) with h | h
  ·exact zy (fun i hi=>ze ht hd hi) h
  ·refine (zy (fun i hi=> ?_) h).symm;rw[Jf];exact lU (by rw[pO];exact hi)
 rw[h2,←h4,h3,adZ hd,Nat.xor_self]
theorem YV(hx:x<256)(hj:x.testBit j=false):OI x j=x:=by
 unfold OI;apply eq_of_testBit_eq;intro i;rw[testBit_and,testBit_xor,testBit_two_pow];by_cases h8:i<8
 ·have :(255:Nat).testBit i=true:=by
   have :∀i,i<8→(255:Nat).testBit i=true:=by decide
   exact this i h8
  rw[this];by_cases h:j=i
  ·subst h;rw[hj];rfl
  ·rw[decide_eq_false h];simp
 ·rw[vQ hx ay,Bool.false_and]
theorem aaH{xs:List Nat}:xs.set i (xs.getD i 0)=xs:=by
 apply ext_getElem?;intro k;rw[getElem?_set];by_cases h:i=k
 ·subst h;by_cases hl:i<xs.length
  ·simp[getD,hl]
  ·simp[getElem?_eq_none (Nat.le_of_not_lt hl),hl]
 ·simp[h]
theorem EY(hm:aA 256 m)(h:∀k,i0≤k→tF m k=false):∀k,nQ m i0 k=m
 | 0=>rfl
 | k+1=>by
  rw[nQ,EY hm h k,YV (hm.at_ aN _) (h (i0+k) ay),aaH]
theorem YQ(ht:1≤t∧t≤8)(hd:aA 256 d):jI t (mU t d)=mU t d:=EY (IC ht hd) (fun k hk=>ze ht hd hk) _
theorem Ox(ht:1≤t∧t≤8)(hd:aA 256 d):iY t (d,mU t d)=replicate (2*t) 0:=by
 unfold iY qL;apply ext_getElem
 ·simp
 ·intro i h1 h2;simp only[getElem_map,getElem_range,getElem_replicate];exact adg ht hd (by simpa using h1)
theorem Ig(m:Nat):∀n,qO (replicate m 0) n=⟨[1],[1],0,n+1,1⟩
 | 0=>rfl
 | n+1=>by
  have h0:(replicate m 0).getD n 0=0:=by
   by_cases h:n<m<;>simp[getD,getElem?_replicate,h]
  rw[qO,Ig m n];unfold DJ;rw[if_pos];show EX _ _ _ (min 0 _)=0;rw[Nat.zero_min];exact h0
theorem Yn(m:Nat):vE (replicate m 0)=[1]∧xE (replicate m 0)=1:=by
 have h:vE (replicate m 0)=[1]:=by unfold vE;rw[Ig]
 refine⟨h, ?_⟩;unfold xE;rw[h];rfl
theorem LC(t:Nat)(p:LL):∀k,fU t [1] 1 p k=(p,0)
 | 0=>rfl
 | k+1=>by
  rw[fU,if_neg,LC t p k];unfold Mv;rw[IW,KS];show ¬decide ((0 ^^^ 1:Nat)=0)=true;decide
theorem Jz:∀m,rE (replicate m 0)=0
 | 0=>rfl
 | m+1=>by rw[replicate_succ,rE,Jz m];rfl
theorem ad9(ht:1≤t∧t≤8)(hd:aA 256 d):tZ t d (mU t d)=some ((d,mU t d),0):=by
 obtain⟨l1,l2⟩:=Yn (2*t);unfold tZ;rw[YQ ht hd,Ox ht hd,l1,l2,LC,if_neg ay,if_neg (fun h=>h rfl),if_neg];show ¬0<rE (jk (iY t (d,mU t d)));rw[Ox ht hd];unfold jk;rw[map_replicate,show nz 0=0 from rfl,Jz];decide
theorem I4:∀(S j:Nat),j<S→∃rest,DW t B d S=DW t B d j++((kX B d j++mU t (kX B d j))++rest)
 | 0,j,h=>absurd h (not_lt_zero _)
 | S+1,j,h=>by
  rw[DW];rcases Nat.lt_or_ge j S with h1 | h1
  ·obtain⟨r,hr⟩:=I4 S j h1;exact⟨r++(kX B d S++mU t (kX B d S)),by rw[hr];simp only[append_assoc]⟩
  ·have :j=S:=by omega
   subst this;exact⟨[],by simp only[append_assoc,append_nil]⟩
theorem Qx(ht:1≤t∧t≤8)(h8:aA 256 d)(hl:d.length=S*B)(hj:j<S) :
 F4 B (B+aR t) (qE t S B d) j=kX B d j∧Xf B (B+aR t) (qE t S B d) j=mU t (kX B d j):=by
 obtain⟨r,hr⟩:=I4 (t:=t) (B:=B) (d:=d) S j hj;have h1:=og ht h8 hl j ay;have h2:=yx hl hj;have h3:=xG ht (jZ h8 j (B:=B));have alP:(qE t S B d).drop (j*(B+aR t))=kX B d j++(mU t (kX B d j)++(r++[0])):=by
  unfold qE;rw[hr,append_assoc,drop_left' h1];simp only[append_assoc]
 unfold F4 Xf;rw[alP];refine⟨take_left' h2, ?_⟩;rw[drop_left' h2,Nat.add_sub_cancel_left];exact take_left' h3
theorem Fv(ht:1≤t∧t≤8)(h8:aA 256 d)(hl:d.length=S*B):jf t S (B+aR t) (qE t S B d)=0:=by
 have h1:=og ht h8 hl S (Nat.le_refl _);unfold jf qE;rw[if_pos];rw[getD,getElem?_append_right ay,h1,Nat.sub_self];rfl
theorem Fa(ht:1≤t∧t≤8)(h8:aA 256 d):∀(k j:Nat) (acc:List Nat),lV ((range' j k).map fun i=>some ((kX B d i,mU t (kX B d i)),0)) acc 0=⟨0,acc++(d.drop (j*B)).take (k*B),0⟩
 | 0,j,acc=>by simp[lV]
 | k+1,j,acc=>by
  rw[range'_succ,map_cons,lV,Nat.max_self,Fa ht h8 k (j+1) _];congr 1;rw[append_assoc];congr 1;unfold kX;rw[show (k+1)*B=B+k*B by rw[succ_mul,Nat.add_comm],take_add,drop_drop,succ_mul]
theorem Yk(ht:1≤t∧t≤8)(h8:aA 256 d)(hl:d.length=S*B):gK t S B (qE t S B d)=⟨0,d,0⟩:=by
 unfold gK;rw[if_neg (fun h=>h (Fv ht h8 hl))];have h1:(List.range S).map (FY t B (B+aR t) (qE t S B d))=(range' 0 S).map fun i=>some ((kX B d i,mU t (kX B d i)),0):=by
  rw[←range_eq_range'];apply map_congr_left;intro j hj;have hj:=mem_range.1 hj;unfold FY;obtain⟨e1,e2⟩:=Qx ht h8 hl hj;rw[e1,e2,ad9 ht (jZ h8 j)]
 rw[h1,Fa ht h8 S 0 []];rw[Nat.zero_mul,drop_zero,nil_append,←hl,take_length]
structure Hd where
 (aS len num:Int)
 deriving DecidableEq
abbrev Hd.v(h:Hd):Value:= .agg #[.i h.aS,.i h.len,.i h.num]
def bQ.cap(g:bQ):Int:=(g.pg-1)*g.room
def bQ.bN(g:bQ)(n:Int):Int:=(n+g.room-1)/g.room
def bQ.fits(g:bQ)(n:Int):Bool:=decide (0≤n)&&decide (n≤g.cap)
def Hd.may(g:bQ)(h:Hd):Bool:=g.fits h.len&&decide (0≤h.aS)&&decide (h.aS<64)&&decide (1≤h.num)&&decide (h.num≤1000000000)
def MN(n:Int):List Nat:=[n.toNat%256,n.toNat/256%256,n.toNat/65536%256,n.toNat/16777216%256]
def jP(g:bQ)(h:Hd):List Nat:=[99,97,115,101]++MN h.aS++MN h.len++MN h.num++replicate (g.room.toNat-16) 0
def AB(d:List Nat)(i:Nat):Int:=((d.getD i 0+256*d.getD (i+1) 0+65536*d.getD (i+2) 0+16777216*d.getD (i+3) 0:Nat):Int)
def DN(d:List Nat):Hd:=⟨AB d 4,AB d 8,AB d 12⟩
def jr(g:bQ)(d:List Nat):Option Hd:=if (DN d).may g&&decide (jP g (DN d)=d) then some (DN d) else none
theorem DF(n:Int):aA 256 (MN n):=fun x hx=>by
 unfold MN at hx;simp only[mem_cons,not_mem_nil,or_false] at hx;rcases hx with rfl | rfl | rfl | rfl<;>exact mod_lt _ aN
theorem yN(g:bQ)(h:Hd):aA 256 (jP g h):=by
 unfold jP;refine aA.append (aA.append (aA.append (aA.append ?_ (DF _)) (DF _)) (DF _)) (aA.wJ aN);intro x hx;simp only[mem_cons,not_mem_nil,or_false] at hx;omega
theorem pQ(hg:g.aU)(h:Hd):(jP g h).length=g.room.toNat:=by
 unfold jP MN;unfold bQ.aU at hg;simp only[length_append,length_cons,length_nil,length_replicate];have :16≤g.room:=by unfold bQ.room;omega
 omega
theorem bQ.kP{g:bQ}(hg:g.aU):16≤g.room∧g.room≤4096:=by
 unfold bQ.aU at hg;have :=bQ.Bd (a:=g.se) (b:=g.sb) (A:=8) (B:=512) ay ay ay ay;unfold bQ.room;omega
theorem bQ.vL{g:bQ}(hg:g.aU):16≤g.cap∧g.cap≤258048:=by
 have h1:=bQ.kP hg;unfold bQ.aU at hg;have h2:=bQ.Bd (a:=g.pg-1) (b:=g.room) (A:=63) (B:=4096) ay ay ay ay;have h3:1*g.room≤(g.pg-1)*g.room:=Int.mul_le_mul_of_nonneg_right ay ay;unfold bQ.cap;omega
theorem NT(h0:0≤n)(h:n<4294967296)(p q:List Nat):AB (p++(MN n++q)) p.length=n:=by
 unfold AB MN;have e:∀i,(p++([n.toNat%256,n.toNat/256%256,n.toNat/65536%256,n.toNat/16777216%256]++q)).getD (p.length+i) 0=([n.toNat%256,n.toNat/256%256,n.toNat/65536%256,n.toNat/16777216%256]++q).getD i 0:=fun i=>by
  simp[getD,getElem?_append_right]
 have e0:=e 0;rw[Nat.add_zero] at e0;rw[e0,e 1,e 2,e 3];simp only[cons_append,getD_cons_zero,getD_cons_succ];omega
theorem Nr(hm:h.may g=true)(hg:g.aU):DN (jP g h)=h:=by
 have hc:=bQ.vL hg;unfold Hd.may bQ.fits at hm;simp only[Bool.and_eq_true,decide_eq_true_eq] at hm;unfold DN jP;have h1:=NT (n:=h.aS) ay ay [99,97,115,101] (MN h.len++(MN h.num++replicate (g.room.toNat-16) 0));have h2:=NT (n:=h.len) ay ay ([99,97,115,101]++MN h.aS) (MN h.num++replicate (g.room.toNat-16) 0);have h3:=NT (n:=h.num) ay ay ([99,97,115,101]++MN h.aS++MN h.len) (replicate (g.room.toNat-16) 0);simp only[←append_assoc] at h1 h2 h3;rw[show ([99,97,115,101]:List Nat).length=4 from rfl] at h1;rw[show (([99,97,115,101]:List Nat)++MN h.aS).length=8 from rfl] at h2;rw[show (([99,97,115,101]:List Nat)++MN h.aS++MN h.len).length=12 from rfl] at h3;rw[h1,h2,h3]
theorem yI(hm:h.may g=true)(hg:g.aU):jr g (jP g h)=some h:=by
 unfold jr;rw[Nr hm hg,hm,decide_eq_true rfl];rfl
theorem lW{g:bQ}(hg:g.aU):aK prog 122 #[g.v] K F (.tuple #[.i g.room,.i 0]):=(Ii g).eq (by rw[show g.may=true from decide_eq_true hg];rfl)
theorem QE{g:bQ}(hg:g.aU):aK prog 110 #[g.v] K F (.tuple #[.i g.cap,.i 0]):=by
 have hc:=bQ.vL hg;have uJ:=hg;unfold bQ.aU at uJ;have hmx:max (g.pg-1) 0=g.pg-1:=ay;refine aB.en func110 ntmps110 ?_;refine aj "a%" fun b1=> ?_;refine aj "lvB" ?_;refine WL.t1 call122 rfl (lW hg) rfl ?_;refine aj "Dvo[~~sc" ?_;refine WL.val (V.aG (v':= .i g.cap) (V.MK (ak rfl) (ak rfl) (fun _=>by rw[hmx];unfold bQ.cap at hc;omega)) (fun _=>by rw[hmx];rfl)) rfl ?_;refine aj "cC" ?_;exact aF.ret (H':=F) (bJ.eU rfl rfl rfl) (fun w h=>h.drop 1) ⟨rfl,rfl⟩
theorem AL{g:bQ}(hg:g.aU)(hn:n≤1099511627776):aK prog 92 #[g.v,.i n] K F (.tuple (if g.fits n then #[.i (g.bN n),.i 0] else #[.i 0,.i 1])):=by
 have hc:=bQ.vL hg;have hr:=bQ.kP hg;refine aB.en func92 ntmps92 ?_;refine aj "a%" fun b2=> ?_;refine aj "lvB" ?_;refine WL.t1 call110 rfl (QE hg) rfl ?_;refine aj "DfscV~]LcVV" ?_;refine WL.bI (oj:=_) rfl rfl rfl GC.f (V.gtr (OV.g rfl id) (OV.g rfl id)) rfl ?_;refine aj "Li" (aW (fun h0=> ?_) fun h0=> ?_)
 ·have he:g.fits n= !(!decide ((0:Int)=0)||decide (n<0)||decide (g.cap<n)):=by
   unfold bQ.fits;by_cases h1:0≤n<;>by_cases h2:n≤g.cap<;>simp[h1,h2]<;>omega
  have hf:=he;rw[h0] at hf;rw[hf];refine aj "aC" ?_;exact aF.ret (H':=F) (bJ.eU rfl rfl rfl) (fun w h=>h.drop 1) ⟨rfl,rfl⟩
 ·have he:g.fits n= !(!decide ((0:Int)=0)||decide (n<0)||decide (g.cap<n)):=by
   unfold bQ.fits;by_cases h1:0≤n<;>by_cases h2:n≤g.cap<;>simp[h1,h2]<;>omega
  have hf:=he;rw[h0] at hf;rw[hf];have hfb:=hf;unfold bQ.fits at hfb;simp only[Bool.not_false,Bool.and_eq_true,decide_eq_true_eq] at hfb;refine aj "9B" ?_;refine WL.t1 call122 rfl (lW hg) rfl ?_;refine aj "DY$[c~*C" ?_;exact aF.ret (H':=F) (bJ.eU rfl rfl rfl) (fun w h=>h.drop 1) ⟨rfl,rfl⟩
theorem acg(hg:g.aU)(h:Hd)(hn:h.len≤1099511627776):aK prog 189 #[g.v,h.v] K F (.bool (h.may g)):=by
 obtain⟨e,he⟩:∃e:Int,e=if g.fits h.len then 0 else 1:=⟨_,rfl⟩
 obtain⟨pn,hp⟩:∃pn:Int,pn=if g.fits h.len then g.bN h.len else 0:=⟨_,rfl⟩
 refine aB.en func189 ntmps189 ?_;refine aj "a%" fun b2=> ?_;refine aj "~~8" fun b3=> ?_;refine aj "vBo" ?_;refine WL.t2 call92 rfl rfl (aK.eq (v':= .tuple #[.i pn,.i e]) (AL hg hn) (by rw[hp,he];cases g.fits h.len<;>rfl)) rfl ?_;refine aj "Dj:c^_~OQc^_~~~nQc^_~OQc^_~PQd;" ?_;unfold Hd.may;congr 1;cases hf:g.fits h.len with
 | true=>rw[hf] at he;rw[he];rfl
 | false=>rw[hf] at he;rw[he];rfl
def J8(n:Int):List Value:=[.int .u8 (IntKind.u8.wrap n),.int .u8 (IntKind.u8.wrap (n.fdiv (2^(min (8:Int).toNat IntKind.i64.bits)))),.int .u8 (IntKind.u8.wrap (n.fdiv (2^(min (16:Int).toNat IntKind.i64.bits)))),.int .u8 (IntKind.u8.wrap (n.fdiv (2^(min (24:Int).toNat IntKind.i64.bits))))]
theorem Vx(n:Int):IntKind.u8.wrap n=n%256:=by grind [IntKind.wrap,IntKind.bits,IntKind.signed]
theorem D5(h:0≤n):J8 n=av .u8 (MN n):=by
 unfold J8 MN av;rw[Vx,Vx,Vx,Vx,show (2:Int)^(min (8:Int).toNat IntKind.i64.bits)=256 from rfl,show (2:Int)^(min (16:Int).toNat IntKind.i64.bits)=65536 from rfl,show (2:Int)^(min (24:Int).toNat IntKind.i64.bits)=16777216 from rfl,
  Int.fdiv_eq_ediv_of_nonneg _ aN,Int.fdiv_eq_ediv_of_nonneg _ aN,Int.fdiv_eq_ediv_of_nonneg _ aN]
 simp only[map_cons,map_nil];congr 1
 ·congr 1;omega
 congr 1
 ·congr 1;omega
 congr 1
 ·congr 1;omega
 congr 1;congr 1;omega
theorem Ry(n:Int):∀u∈J8 n,u.oneCell'=true:=by unfold J8;simp[Value.oneCell']
theorem aaE(hs:Seq K F A 4 1 cs)(hq:Seq K F B 3 1 [.i x,.i y,.i z]) :
 aB prog 190 #[.slice A 4 4,.slice B 3 3] K F (fun v H'=>∃A' c',v= .slice A' 16 c'∧H'=aV (.slice A' 16 c') 5 1 16 (cs++J8 x++J8 y++J8 z)::F):=by
 have mR:=hs.len;have rd:∀(i:Nat) v,[Value.int .i64 x,.i y,.i z][i]? =some v→Rd K F (B.map (·.add (i*1))) v:=fun i v hi=>by rw[Nat.mul_one];exact hq.rd i v hi
 refine aB.en func190 ntmps190 ?_;refine aj "afkN" ?_;refine WC.rounds 4 (aj "T5Ia" ?_);refine WL.val (V.dw eB (ak rfl) (ak rfl) (fun _=>by decide) (fun _=>by first | exact rd 0 _ rfl | exact Rd.up (rd 1 _ rfl) | exact Rd.up (Rd.up (rd 1 _ rfl)) | exact Rd.up (Rd.up (rd 2 _ rfl)) | exact Rd.up (Rd.up (Rd.up (rd 2 _ rfl))) | exact Rd.up (Rd.up (Rd.up (Rd.up (rd 2 _ rfl)))))) rfl ?_;refine WL.val (V.load isAgg3 (ak rfl) (fun _=>by first | exact rd 0 _ rfl | exact Rd.up (rd 1 _ rfl) | exact Rd.up (Rd.up (rd 1 _ rfl)) | exact Rd.up (Rd.up (rd 2 _ rfl)) | exact Rd.up (Rd.up (Rd.up (rd 2 _ rfl))) | exact Rd.up (Rd.up (Rd.up (Rd.up (rd 2 _ rfl)))))) rfl ?_;refine aj "gP~lc~0~lc~0~lc~0~l" ?_;refine WL.buildSlice (E:=5) (cs:=[_,_,_,_]) (vs:=[(0,_),(1,_),(2,_),(3,_)]) ⟨ak rfl,ak rfl,ak rfl,ak rfl,trivial⟩ rfl (fJ _ _ _ _) rfl (fun b25=> ?_);refine WL.D7 (m:=4) (q:=4) (cs:=cs) (news:=J8 x) underlying34 yL (ak rfl) (ak rfl) (by repeat (first | exact hs | apply Seq.up)) (Seq.all rfl) aN aN aN aN rfl rfl (fun A1 c1 UM aQ=> ?_);refine aj "gp~Q~sT5Ia" ?_;refine WL.val (V.dw eB (ak rfl) (ak rfl) (fun _=>by decide) (fun _=>by first | exact rd 0 _ rfl | exact Rd.up (rd 1 _ rfl) | exact Rd.up (Rd.up (rd 1 _ rfl)) | exact Rd.up (Rd.up (rd 2 _ rfl)) | exact Rd.up (Rd.up (Rd.up (rd 2 _ rfl))) | exact Rd.up (Rd.up (Rd.up (Rd.up (rd 2 _ rfl)))))) rfl ?_;refine WL.val (V.load isAgg3 (ak rfl) (fun _=>by first | exact rd 0 _ rfl | exact Rd.up (rd 1 _ rfl) | exact Rd.up (Rd.up (rd 1 _ rfl)) | exact Rd.up (Rd.up (rd 2 _ rfl)) | exact Rd.up (Rd.up (Rd.up (rd 2 _ rfl))) | exact Rd.up (Rd.up (Rd.up (Rd.up (rd 2 _ rfl)))))) rfl ?_;refine aj "gP~lc~0~lc~0~lc~0~l" ?_;refine WL.buildSlice (E:=5) (cs:=[_,_,_,_]) (vs:=[(0,_),(1,_),(2,_),(3,_)]) ⟨ak rfl,ak rfl,ak rfl,ak rfl,trivial⟩ rfl (fJ _ _ _ _) rfl (fun b25=> ?_);refine aj "~!" ?_;refine WL.append (m:=8) (q:=4) (news:=J8 y) underlying34 yL (ak rfl) (ak rfl) (Seq.all rfl) (Ry _) aN rfl rfl (fun A2 c2 RU bA=> ?_);refine aj "gp~t~sT5Ia" ?_;refine WL.val (V.dw eB (ak rfl) (ak rfl) (fun _=>by decide) (fun _=>by first | exact rd 0 _ rfl | exact Rd.up (rd 1 _ rfl) | exact Rd.up (Rd.up (rd 1 _ rfl)) | exact Rd.up (Rd.up (rd 2 _ rfl)) | exact Rd.up (Rd.up (Rd.up (rd 2 _ rfl))) | exact Rd.up (Rd.up (Rd.up (Rd.up (rd 2 _ rfl)))))) rfl ?_;refine WL.val (V.load isAgg3 (ak rfl) (fun _=>by first | exact rd 0 _ rfl | exact Rd.up (rd 1 _ rfl) | exact Rd.up (Rd.up (rd 1 _ rfl)) | exact Rd.up (Rd.up (rd 2 _ rfl)) | exact Rd.up (Rd.up (Rd.up (rd 2 _ rfl))) | exact Rd.up (Rd.up (Rd.up (Rd.up (rd 2 _ rfl)))))) rfl ?_;refine aj "gP~lc~0~lc~0~lc~0~l" ?_;refine WL.buildSlice (E:=5) (cs:=[_,_,_,_]) (vs:=[(0,_),(1,_),(2,_),(3,_)]) ⟨ak rfl,ak rfl,ak rfl,ak rfl,trivial⟩ rfl (fJ _ _ _ _) rfl (fun b25=> ?_);refine aj "~!" ?_;refine WL.append (m:=12) (q:=4) (news:=J8 z) underlying34 yL (ak rfl) (ak rfl) (Seq.all rfl) (Ry _) aN rfl rfl (fun A3 c3 hA3 eu=> ?_);refine aj "gp" ?_;refine WL.val (V.aG (v':= .i (3)) (V.add (ak rfl) (ak rfl)) (fun _=>rfl)) rfl ?_;refine aj "~sT~BKed" ?_;exact qR (aV (.slice A3 16 c3) _ 1 16 _::F) rfl rfl (fun w h=>h.bg 4 [0] rfl) ⟨A3,c3,rfl,rfl⟩
end Go.Proofs.YtcedojacbhnbiaaGreat
namespace Go.Sl
open Go.RowKit List Nat
theorem WQ.Sg{dj:Nat}{oj:Oper}
 (hj:ops[j]? =some oj) (EG:oj.dst=some dj) (hl:look e dj=some gv) (hG:GC gv want c) (hf:bP P f) (hy:OV c e y (.func (.func f) first.toArray captured.toArray)) (gL:Ga c e xs vs) (hF:c=true→aK P f (first++vs++captured).toArray K H v) (hd:blt d n=true)
 (h:WQ Mo P K n ops rest R ((d,cv c v)::e) H):WQ Mo P K n ops (⟨some d,.call ⟨.value y,xs.toArray,ats⟩,ty,pos,af,some (j,want)⟩::rest) R e H:=fun a ha=>by
 refine wpQuiet_step fun S hS=> ?_;rw[Region.jv (o:=⟨some d,.call ⟨.value y,xs.toArray,ats⟩,ty,pos,af,some (j,want)⟩) rfl hj EG hl ha hG];cases c with
 | false=>exact hS _ (h _ (ha.put d hd _))
 | true =>
  simp only[if_true];refine⟨v,fun w hw=> ?_,hS _ (h _ (ha.put d hd v))⟩;unfold Oper.quietAt;rw[tO hf (hy.ev rfl ha) (gL.ev ha rfl)];exact⟨rfl,(hF rfl).call hw⟩
theorem WQ.ny
 (hf:bP P f) (hy:OV true e y (.func (.func f) first.toArray captured.toArray)) (gL:Ga true e xs vs) (hF:aK P f (first++vs++captured).toArray K H v) (hd:blt d n=true)
 (h:WQ Mo P K n ops rest R ((d,v)::e) H):WQ Mo P K n ops (⟨some d,.call ⟨.value y,xs.toArray,ats⟩,ty,pos,af,none⟩::rest) R e H:=fun a ha=>by
 refine wpQuiet_step fun S hS=> ?_;simp only[Region.wanted,if_true];refine⟨v,fun w hw=> ?_,hS _ (h _ (ha.put d hd v))⟩;unfold Oper.quietAt;rw[tO hf (hy.ev rfl ha) (gL.ev ha rfl)];exact⟨rfl,hF.call hw⟩
theorem O9:∀(vs cs r:List Value) (o:Nat),o+vs.length≤cs.length→oU (cs++r) o vs=oU cs o vs++r
 | [],_,_,_,_=>rfl
 | v::vs,cs,r,o,h=>by
  rw[length_cons] at h;show oU ((cs++r).set o v) (o+1) vs=oU (cs.set o v) (o+1) vs++r;rw[set_append_left _ _ ay];exact O9 vs (cs.set o v) r (o+1) (by rw[length_set];omega)
end Go.Sl
namespace Go.Proofs.YtcedojacbhnbiaaGreat
open Go.Sl Go.RowKit Tryz List Nat
structure Fd where
 block:Int
 hd:Hd
 whole:Bool
 deriving DecidableEq
abbrev Fd.cells(x:Fd):List Value:=[.i x.block,.i x.hd.aS,.i x.hd.len,.i x.hd.num,.bool x.whole]
abbrev Fd.v(x:Fd):Value:= .agg #[.i x.block,.i x.hd.aS,.i x.hd.len,.i x.hd.num,.bool x.whole]
theorem Fd.len(x:Fd):x.cells.length=5:=rfl
def JF:Fd:=⟨0,⟨0,0,0⟩,false⟩
abbrev dF(l:List Fd):List Value:=l.flatMap Fd.cells
theorem gT(l:List Fd):(dF l).length=l.length*5:=rW Fd.len l
theorem Lh(hj:j<l.length):fH K (ah b T (dF l++r)::H) b (j*5) (l.getD j JF).cells:=fun i v hi=>by
 have hg:l[j]? =some (l.getD j JF):=by simp[getD,hj]
 have h1:=JK (s:=5) Fd.len l j i _ v hg hi;refine Rd.here ?_;rw[getElem?_append_left (List.getElem?_eq_some_iff.1 h1).1];exact h1
theorem YA(hj:j<l.length)(y:Fd):oU (dF l++r) (j*5) y.cells=dF (l.set j y)++r:=by
 have hg:l[j]? =some (l.getD j JF):=by simp[getD,hj]
 rw[O9 _ _ _ _ (by rw[gT,Fd.len];omega),ab6 (s:=5) Fd.len l j _ y hg]
theorem zi(hj:j<l.length)(ho:o=j*5):bT K (ah b T (dF l++r)::H) b o y.cells (ah b T (dF (l.set j y)++r)::H) :=
 bT.here (ble_eq_true_of_le (by rw[ho,length_append,gT,Fd.len];omega)) (by rw[ho];exact YA hj y)
theorem DC(y:Fd):y.cells.all (·.oneCell')=true:=rfl
section
variable(lt:Fd→Fd→Bool)
def bub(ys:List Fd):Nat→List Fd
 | 0=>ys
 | j+1=>if lt (ys.getD (j+1) JF) (ys.getD j JF) then bub ((ys.set (j+1) (ys.getD j JF)).set j (ys.getD (j+1) JF)) j else ys
def acT(ys:List Fd):Nat→List Fd
 | 0=>ys
 | i+1=>bub lt (acT ys i) i
def wX:List Fd→Fd→List Fd
 | [],x=>[x]
 | y::q,x=>if lt x y then y::wX q x else x::y::q
def eP(ys:List Fd):List Fd:=(ys.foldl (wX lt) []).reverse
end
theorem Jl:∀(j:Nat) (ys:List Fd),(bub lt ys j).length=ys.length
 | 0,_=>rfl
 | j+1,ys=>by
  rw[bub];split
  ·rw[Jl j];simp
  ·rfl
theorem sj(ys:List Fd):∀i,(acT lt ys i).length=ys.length
 | 0=>rfl
 | i+1=>by rw[acT,Jl,sj]
theorem VW:∀(q:List Fd) (x:Fd) (r:List Fd),bub lt (q.reverse++x::r) q.length=(wX lt q x).reverse++r
 | [],x,r=>rfl
 | y::q,x,r=>by
  rw[length_cons,bub,wX];have hq:q.reverse.length=q.length:=length_reverse;have e1:((y::q).reverse++x::r).getD (q.length+1) JF=x:=by
   rw[reverse_cons,append_assoc,getD,getElem?_append_right ay,hq];simp
  have e2:((y::q).reverse++x::r).getD q.length JF=y:=by
   rw[reverse_cons,append_assoc,getD,getElem?_append_right ay,hq];simp
  rw[e1,e2];split
  ·have e3:(((y::q).reverse++x::r).set (q.length+1) y).set q.length x=q.reverse++x::(y::r):=by
    rw[reverse_cons,append_assoc,set_append_right _ _ ay,set_append_right _ _ ay,hq];simp
   rw[e3,VW q x (y::r),reverse_cons,append_assoc];rfl
  ·rw[reverse_cons,reverse_cons];simp
theorem Px(ys:List Fd):∀i,i≤ys.length→acT lt ys i=((ys.take i).foldl (wX lt) []).reverse++ys.drop i∧((ys.take i).foldl (wX lt) []).length=i
 | 0,_=>⟨by simp[acT],rfl⟩
 | i+1,h=>by
  obtain⟨ih,il⟩:=Px ys i ay;have hlen:∀(q:List Fd) (x:Fd),(wX lt q x).length=q.length+1:=fun q x=>by
   induction q with
   | nil=>rfl
   | cons y q ih=>rw[wX];split<;>simp[ih]
  have ht:ys.take (i+1)=ys.take i++[ys[i]'ay]:=by rw[take_add_one,getElem?_eq_getElem ay];rfl
  have hd:ys.drop i=ys[i]'ay::ys.drop (i+1):=drop_eq_getElem_cons ay;have hb:=VW (lt:=lt) ((ys.take i).foldl (wX lt) []) (ys[i]'ay) (ys.drop (i+1));rw[il,←hd] at hb;rw[acT,ih,hb,ht,foldl_append];exact⟨rfl,by show (wX lt _ _).length=_;rw[hlen,il]⟩
theorem KE(ys:List Fd):acT lt ys ys.length=eP lt ys:=by
 rw[(Px ys ys.length (Nat.le_refl _)).1,take_length,drop_length,append_nil];rfl
theorem iO(ys:List Fd):(eP lt ys).length=ys.length:=by rw[←KE,sj]
theorem Et:∀(q:List Fd) (x:Fd),Perm (wX lt q x) (x::q)
 | [],x=>Perm.refl _
 | y::q,x=>by
  rw[wX];split
  ·exact (Perm.cons y (Et q x)).trans (Perm.swap x y q)
  ·exact Perm.refl _
theorem Ji:∀(ys q:List Fd),Perm (ys.foldl (wX lt) q) (ys++q)
 | [],q=>Perm.refl _
 | x::ys,q=>by
  rw[foldl_cons];refine (Ji ys (wX lt q x)).trans ((Perm.append_left ys (Et q x)).trans ?_);exact perm_middle
theorem Ja(ys:List Fd):Perm (eP lt ys) ys:=by grind [eP,reverse_perm,Ji]
theorem zk:x∈eP lt ys↔x∈ys:=(Ja ys).mem_iff
theorem EU(htr:∀a b c,lt a b=false→lt b c=false→lt a c=false)(has:∀a b,lt a b=true→lt b a=false):∀(q:List Fd) (x:Fd),q.Pairwise (fun a b=>lt a b=false)→(wX lt q x).Pairwise (fun a b=>lt a b=false)
 | [],x,_=>pairwise_singleton _ _
 | y::q,x,h=>by
  have hp:=pairwise_cons.1 h;rw[wX];by_cases hx:lt x y=true
  ·rw[if_pos hx];refine pairwise_cons.2 ⟨fun z hz=> ?_,EU htr has q x hp.2⟩;rcases mem_cons.1 ((Et q x).mem_iff.1 hz) with rfl | hz
   ·exact has _ _ hx
   ·exact hp.1 z hz
  ·rw[if_neg hx];have Wz:lt x y=false:=by simpa using hx
   refine pairwise_cons.2 ⟨fun z hz=> ?_,h⟩;rcases mem_cons.1 hz with rfl | hz
   ·exact Wz
   ·exact htr _ _ _ Wz (hp.1 z hz)
theorem BJ(htr:∀a b c,lt a b=false→lt b c=false→lt a c=false)(has:∀a b,lt a b=true→lt b a=false):∀(ys q:List Fd),q.Pairwise (fun a b=>lt a b=false)→(ys.foldl (wX lt) q).Pairwise (fun a b=>lt a b=false)
 | [],_,h=>h
 | x::ys,q,h=>BJ htr has ys _ (EU htr has q x h)
theorem Ns(htr:∀a b c,lt a b=false→lt b c=false→lt a c=false)(has:∀a b,lt a b=true→lt b a=false)(ys:List Fd):(eP lt ys).Pairwise (fun a b=>lt b a=false):=by grind [eP,BJ,Pairwise.nil]
def FI(f:Nat)(c:Fd→Fd→Int):Prop:=bP prog f∧∀(K:World) (F:List aH) (x y:Fd),aK prog f #[x.v,y.v] K F (.i (c x y))
theorem F6(hf:FI f c)(hm:ys.length=m)(hb:m≤1000000) :
 aB prog 265 #[.slice (some ⟨b,0,none⟩) m cap,.i 0,.i (m:Int),.func (.func f) #[] #[]] K (ah b 237 (dF ys++r)::F)
  (fun v H'=>H'=ah b 237 (dF (eP (fun x y=>decide (c x y<0)) ys)++r)::F):=by
 obtain⟨lt,o7⟩:∃lt:Fd→Fd→Bool,lt=fun x y=>decide (c x y<0):=⟨_,rfl⟩;rw[←o7];refine aB.en func265 ntmps265 ?_;refine aj "e$gt" ?_;refine WC.loop (σ:=Nat) (fun i=>[(0,.slice (some ⟨b,0,none⟩) m cap),(1,.i 0),(2,.i (m:Int)),(3,.func (.func f) #[] #[]),(8,.i (i:Int))]) (fun i=>ah b 237 (dF (acT lt ys i)++r)::F) (fun i=>1≤i∧(i=1∨i≤m)) (fun i=>m+1-i) 1 ⟨Nat.le_refl _,.inl rfl⟩ bC cO ?_;rintro i ⟨hi1,him⟩;refine aj "rc4bZ" (aW (fun aL=> ?_) fun aL=> ?_)
 ·have hi2:i<m:=ay;refine aj "1gt" ?_;refine WC.loop (σ:=Nat×List Fd) (fun s=>[(0,.slice (some ⟨b,0,none⟩) m cap),(1,.i 0),(2,.i (m:Int)),(3,.func (.func f) #[] #[]),(8,.i (i:Int)),(9,.i (s.1:Int))]) (fun s=>ah b 237 (dF s.2++r)::F) (fun s=>s.1≤i∧s.2.length=m∧bub lt s.2 s.1=acT lt ys (i+1)) (fun s=>s.1) (i,acT lt ys i) ⟨Nat.le_refl _,by rw[sj,hm],rfl⟩ bC cO ?_;rintro⟨j,zs⟩ ⟨hji,hzl,hzb⟩;dsimp only at hji hzl hzb ⊢;obtain⟨za,hza⟩:∃za,za=zs.getD j JF:=⟨_,rfl⟩;obtain⟨zb,Z9⟩:∃zb,zb=zs.getD (j-1) JF:=⟨_,rfl⟩;have hja:fH K (ah b 237 (dF zs++r)::F) b (0+(j:Int).toNat*5) za.cells:=by
   rw[show 0+(j:Int).toNat*5=j*5 by omega,hza];exact Lh ay
  have hjb:j≠0→fH K (ah b 237 (dF zs++r)::F) b (0+((j:Int)-1).toNat*5) zb.cells:=fun h0=>by
   rw[show 0+((j:Int)-1).toNat*5=(j-1)*5 by omega,Z9];exact Lh ay
  refine aj "MM~k&&~_&~~t~~t~~t" ?_;refine WQ.bI (oj:=_) rfl rfl rfl GC.t (V.FW zX (OV.g rfl id) (OV.g rfl id) (fun hc=>by omega)) rfl ?_;refine WQ.bI (oj:=_) rfl rfl rfl GC.t (V.fE (vs:=za.cells) ⟨isAgg237,sizeOf237⟩ (OV.g rfl id) rfl (fun _=>hja)) rfl ?_;refine aj "~~t~~t" ?_;refine WQ.bI (oj:=_) rfl rfl rfl GC.t (V.Eo (OV.g rfl id) (ak rfl) Jy) rfl ?_;refine WQ.bI (oj:=_) rfl rfl rfl GC.t (V.FW zX (OV.g rfl id) (OV.g rfl id) (fun hc=>by simp at hc;omega)) rfl ?_;refine WQ.bI (oj:=_) rfl rfl rfl GC.t (V.fE (vs:=zb.cells) ⟨isAgg237,sizeOf237⟩ (OV.g rfl id) rfl (fun hc=>hjb (by simp at hc;omega))) rfl ?_;refine WQ.Sg (oj:=_) (first:=[]) (vs:=[_,_]) (captured:=[]) rfl rfl rfl GC.t hf.1 (OV.g rfl id) ⟨OV.g rfl id,OV.g rfl id,trivial⟩ (fun _=>hf.2 _ _ za zb) rfl ?_;refine WQ.bI (oj:=_) rfl rfl rfl GC.t (V.lss (OV.g rfl id) (ak rfl)) rfl ?_;refine aj "~~E~fH" (aW (fun h1=> ?_) fun h1=> ?_)
  ·simp only[Gi] at h1;obtain⟨j',rfl⟩:∃j',j=j'+1:=⟨j-1,by omega⟩;rw[Nat.add_sub_cancel] at Z9;have agv:lt za zb=true:=by rw[o7];exact decide_eq_true h1.2
   rw[bub,←hza,←Z9,if_pos agv] at hzb;have ak4:=hjb ay;refine aj "I" ?_;refine WC.dM F (by kernel_rfl) ?_;refine aj "m0m1m2m3" ?_;refine WA.t 4 rfl (V.Eo (ak rfl) (ak rfl) Jy) ?_;refine aj "m5m6" ?_;refine WA.t 7 rfl (V.Eo (ak rfl) (ak rfl) Jy) ?_;refine aj "~c8m:m;~c<" ?_;refine WA.two (i:=9) (j:=13) eO (by kernel_rfl) rfl rfl ?_ ?_
   ·refine WL.val (V.fE (vs:=zb.cells) ⟨isAgg237,sizeOf237⟩ (ak rfl) rfl (fun _=>ak4)) rfl ?_;refine aj "bn=" ?_;refine WL.val (V.fE (vs:=za.cells) ⟨isAgg237,sizeOf237⟩ (ak rfl) rfl (fun _=>hja)) rfl ?_;refine aj "b~c>n?" ?_;refine WL.store (cs:=zb.cells) sizeOf237 (ak rfl) (ak rfl) rfl rfl rfl (zi (j:=j'+1) (y:=zb) ay ay) ?_;refine aj "b~c@nA" ?_;refine WL.store (cs:=za.cells) sizeOf237 (ak rfl) (ak rfl) rfl rfl rfl (zi (j:=j') (y:=za) (by rw[length_set];omega) ay) ?_;refine aj "bOh[X" ?_;exact⟨(j',(zs.set (j'+1) zb).set j' za),⟨by show j'≤i;omega,by show ((zs.set _ _).set _ _).length=m;simp[hzl],hzb⟩,lt_succ_self _,.cons rfl bC,fun w h=>h⟩
   ·refine WL.val (V.fE (vs:=za.cells) ⟨isAgg237,sizeOf237⟩ (ak rfl) rfl (fun _=>hja)) rfl ?_;refine aj "bn9" ?_;refine WL.val (V.fE (vs:=zb.cells) ⟨isAgg237,sizeOf237⟩ (ak rfl) rfl (fun _=>ak4)) rfl ?_;refine aj "b~c>n?" ?_;refine WL.store (cs:=zb.cells) sizeOf237 (ak rfl) (ak rfl) rfl rfl rfl (zi (j:=j'+1) (y:=zb) ay ay) ?_;refine aj "b~c@nA" ?_;refine WL.store (cs:=za.cells) sizeOf237 (ak rfl) (ak rfl) rfl rfl rfl (zi (j:=j') (y:=za) (by rw[length_set];omega) ay) ?_;refine aj "bOh[X" ?_;exact⟨(j',(zs.set (j'+1) zb).set j' za),⟨by show j'≤i;omega,by show ((zs.set _ _).set _ _).length=m;simp[hzl],hzb⟩,lt_succ_self _,.cons rfl bC,fun w h=>h⟩
  ·simp only[Gi] at h1;have acN:acT lt ys (i+1)=zs:=by
    rw[←hzb];cases j with
    | zero=>rfl
    | succ j' =>
     rw[Nat.add_sub_cancel] at Z9;have agv:lt za zb=false:=by
      rw[o7];rcases h1 with h | h
      ·omega
      ·exact decide_eq_false h
     rw[bub,←hza,←Z9,if_neg (by rw[agv];decide)]
   refine aj "Kh$X" ?_;exact⟨i+1,⟨by show 1≤i+1;omega,.inr hi2⟩,(by show m+1-(i+1)<m+1-i;omega),.cons rfl bC,fun w h=>Sat.aT h (by rw[acN])⟩
 ·refine WC.exit ?_;have sW:acT lt ys i=eP lt ys:=by
   rw[←KE,hm];rcases eq_zero_or_pos m with h0 | h0
   ·have :ys=[]:=eq_nil_of_length_eq_zero ay;subst this;have key:∀k,acT lt [] k=[]:=fun k=>eq_nil_of_length_eq_zero (by rw[sj];rfl);rw[key,key]
   ·obtain rfl:i=m:=by omega
    rfl
  exact aF.normal (H':=ah b _ _::F) (bJ.none rfl) (fun w h=>Sat.aT h (by rw[sW])) rfl
def uw(x y:Int):Int:=if x<y then-1 else if y<x then 1 else 0
def orI(a b:Int):Int:=if a≠0 then a else b
def qK(x y:Fd):Int:=orI (uw x.hd.num y.hd.num) (uw y.block x.block)
def aaz(x y:Fd):Int:=orI (uw x.hd.num y.hd.num) (uw x.block y.block)
def Kr(x y:Fd):Int:=uw x.hd.num y.hd.num
theorem LX(x:Int):aK prog 228 #[.i x] K F (.bool false):=by
 refine aB.en func228 ntmps228 ?_;refine aj "aYsd" ?_;exact qR F rfl rfl cO ⟨by simp,rfl⟩
theorem l9(x y:Int):aK prog 167 #[.i x,.i y] K F (.i (uw x y)):=by
 refine aB.en func167 ntmps167 ?_;refine aj "aj" ?_;refine WL.t1 call228 rfl (LX _) rfl ?_;refine aj "j" ?_;refine WL.t1 call228 rfl (LX _) rfl ?_;refine aj "f3qr3qrc4bZ" (aW (fun h3=> ?_) fun h3=> ?_)
 ·refine aj "G" ?_;exact qR F rfl rfl cO ⟨by unfold uw;rw[if_pos h3],rfl⟩
 ·refine aj "qrc~JbZ" (aW (fun h4=> ?_) fun h4=> ?_)
  ·refine aj "G" ?_;exact qR F rfl rfl cO ⟨by unfold uw;rw[if_neg h3,if_pos ay],rfl⟩
  ·refine aj "qG" ?_;exact qR F rfl rfl cO ⟨by unfold uw;rw[if_neg h3,if_neg ay],rfl⟩
theorem V7(hq:Seq K F B 2 1 [.i x,.i y]):aK prog 170 #[.slice B 2 cap] K F (.i (orI x y)):=by
 have rd:∀(i:Nat) v,[Value.int .i64 x,.i y][i]? =some v→Rd K F (B.map (·.add (i*1))) v:=fun i v hi=>by rw[Nat.mul_one];exact hq.rd i v hi
 refine aB.en func170 ntmps170 ?_;refine aj "avfkN~=T5Ia" ?_;refine WL.val (V.dw eB (ak rfl) (ak rfl) (fun _=>by decide) (fun _=>by first | exact rd 0 _ rfl | exact rd 1 _ rfl)) rfl ?_;refine WL.val (V.load isAgg3 (ak rfl) (fun _=>by first | exact rd 0 _ rfl | exact rd 1 _ rfl)) rfl ?_;refine aj "Ysb~e" (aW (fun h1=> ?_) fun h1=> ?_)
 ·refine aj "ed" ?_;exact qR F rfl rfl cO ⟨by unfold orI;rw[if_pos h1],rfl⟩
 ·refine aj "qp~Q~sT5Ia" ?_;refine WL.val (V.dw eB (ak rfl) (ak rfl) (fun _=>by decide) (fun _=>by first | exact rd 0 _ rfl | exact rd 1 _ rfl)) rfl ?_;refine WL.val (V.load isAgg3 (ak rfl) (fun _=>by first | exact rd 0 _ rfl | exact rd 1 _ rfl)) rfl ?_;refine aj "Ysb~e" (aW (fun h1=> ?_) fun h1=> ?_)
  ·refine aj "ed;" ?_;unfold orI;rw[if_neg ay]
  ·refine aj "qp~t~sT~BKed;" ?_;unfold orI;rw[if_neg ay];congr 1;omega
theorem yg:FI 164 qK:=⟨call164,fun K F x y=>by
 refine aB.en func164 ntmps164 ?_;refine aj "a%" fun b2=> ?_;refine aj "%" fun b3=> ?_;refine aj "u~Z0001(20304(507(809(:n6" ?_;refine WL.t2 call167 rfl rfl (l9 _ _) rfl ?_;refine aj "bn;" ?_;refine WL.t2 call167 rfl rfl (l9 _ _) rfl ?_;refine aj "bn<" ?_;refine WL.buildSlice (E:=3) (cs:=[_,_]) (vs:=[(0,_),(1,_)]) ⟨ak rfl,ak rfl,trivial⟩ rfl (p9 _ _) rfl (fun b17=> ?_);refine aj "bn=" ?_;refine WL.t1 call170 rfl (V7 (Seq.all rfl)) rfl ?_;exact aj "b~u>O~C." trivial
 ⟩
theorem Yq:FI 169 aaz:=⟨call169,fun K F x y=>by
 refine aB.en func169 ntmps169 ?_;refine aj "a%" fun b2=> ?_;refine aj "%" fun b3=> ?_;refine aj "u~Z0001(20304(507(809(:n6" ?_;refine WL.t2 call167 rfl rfl (l9 _ _) rfl ?_;refine aj "bn;" ?_;refine WL.t2 call167 rfl rfl (l9 _ _) rfl ?_;refine aj "bn<" ?_;refine WL.buildSlice (E:=3) (cs:=[_,_]) (vs:=[(0,_),(1,_)]) ⟨ak rfl,ak rfl,trivial⟩ rfl (p9 _ _) rfl (fun b17=> ?_);refine aj "bn=" ?_;refine WL.t1 call170 rfl (V7 (Seq.all rfl)) rfl ?_;exact aj "b~u>O~C." trivial
 ⟩
theorem abK:FI 166 Kr:=⟨call166,fun K F x y=>by
 refine aB.en func166 ntmps166 ?_;refine aj "a%" fun b2=> ?_;refine aj "%" fun b3=> ?_;refine aj "v8o8o" ?_;refine WL.t2 call167 rfl rfl (l9 _ _) rfl ?_;exact aj "d." trivial
 ⟩
abbrev jU(c:Fd→Fd→Int):Fd→Fd→Bool:=fun x y=>decide (c x y<0)
theorem J4{f:Nat}:aB prog 265 #[.slice none 0 0,.i 0,.i 0,.func (.func f) #[] #[]] K F (fun v H'=>H'=F):=by
 refine aB.en func265 ntmps265 ?_;refine aj "e$gt" ?_;refine WC.rounds 1 (aj "rc43K" ?_);exact aF.normal (H':=F) (bJ.none rfl) cO rfl
theorem CV{f m:Nat}(ao6:aB prog 265 #[S,.i 0,.i (m:Int),.func (.func f) #[] #[]] K F (fun v H'=>H'=H2))(hm:m<20) :
 aB prog 229 #[S,.i (m:Int),.func (.func f) #[] #[]] K F (fun v H'=>H'=H2):=by
 refine aB.en func229 ntmps229 ?_;refine aj "ajlut" ?_;refine WC.rounds 1 (aj "rc~>3Kezc" ?_);refine WL.c4 call265 rfl rfl rfl rfl (ao6) rfl ?_;rintro v H0 h0;subst h0;refine aj "bt" ?_;refine WC.rounds 1 (aj "rc43K" ?_);exact aF.normal (H':=H0) (bJ.none rfl) cO rfl
theorem AV(hf:FI f c)(hm:ys.length=m)(h20:m<20) :
 aB prog 168 #[.slice A m cap,.func (.func f) #[] #[]] K (aV (.slice A m cap) 237 5 m (dF ys)::F)
  (fun v H'=>∀w,Sat K w H'→Sat K w (aV (.slice A m cap) 237 5 m (dF (eP (jU c) ys))::F)):=by
 cases A with
 | none =>
  refine aB.lG (p:=m=0∧cap=0) (fun w hw=>⟨(aV.yM hw).1,(aV.yM hw).2.1⟩) (fun h0=> ?_);obtain⟨h1,h2⟩:=h0;subst h2;have hy:ys=[]:=eq_nil_of_length_eq_zero ay;subst hy;obtain rfl:m=0:=by omega
  have dL:=CV (K:=K) (F:=aV (.slice none 0 0) 237 5 0 (dF [])::F) (f:=f) (m:=0) (S:= .slice none 0 0) J4 aN;refine aB.en func168 ntmps168 ?_;refine aj "Pkc" ?_;refine WL.c3 call229 rfl rfl rfl (dL) rfl ?_;rintro v H0 h0;subst h0;refine WL.nil ?_;exact aF.normal (H':=aV (.slice none 0 0) 237 5 0 (dF [])::F) (bJ.none rfl) cO cO
 | some a =>
  refine aB.lG (p:=∃g,a=⟨g,0,none⟩) (fun w hw=>aV.addr hw) (fun ⟨g,hg⟩=> ?_);subst hg;refine aB.ex (fun w hw=>Sat.nU hw) (fun r hr=> ?_);obtain⟨r1,r2,r3,r4⟩:=hr;have dL:=CV (F6 (K:=K) (F:=F) hf (b:=g) (m:=m) (cap:=cap) (ys:=ys) (r:=r) hm ay) h20;refine aB.en func168 ntmps168 ?_;refine aj "Pkc" ?_;refine WL.c3 call229 rfl rfl rfl (dL) rfl ?_;rintro v H0 h0;subst h0;refine WL.nil ?_;refine aF.normal (H':=ah g 237 (dF (eP (jU c) ys)++r)::F) (bJ.none rfl) cO (fun w h=> ?_);have hfl:(dF (eP (jU c) ys)).length=m*5:=by rw[gT,iO,hm]
  have asi:(dF ys).length=m*5:=by rw[gT,hm]
  have h':=Sat.BX (m:=m) (cap:=cap) (s:=5) h (by rw[length_append] at r1 ⊢;omega) r3 r4;rw[take_left' hfl] at h';exact h'
structure bX where
 A:Option Addr
 c:Nat
 l:List Fd
abbrev bX.v(x:bX):Value:= .slice x.A x.l.length x.c
def bX.row(x:bX):aH:=aV (.slice x.A x.l.length x.c) 237 5 x.l.length (dF x.l)
def nE(aS:Nat)(x:Fd):Bool:=x.whole&&decide (x.hd.aS=(aS:Int))
def ji(aJ:Nat)(fs:List Fd):List (List Fd):=(List.range aJ).map fun aS=>fs.filter (nE aS)
theorem Ct(aJ:Nat)(fs:List Fd):(ji aJ fs).length=aJ:=by simp[ji]
theorem KN{aJ:Nat}(hl:aS<aJ)(hx:x.whole=true)(uI:x.hd.aS=(aS:Int)):ji aJ (fs++[x])=(ji aJ fs).set aS (fs.filter (nE aS)++[x]):=by
 apply ext_getElem
 ·simp[ji]
 ·intro i h1 h2;rw[getElem_set];simp only[ji,getElem_map,getElem_range,filter_append];by_cases h:aS=i
  ·subst h;rw[if_pos rfl];congr 1;rw[filter_cons,if_pos (by unfold nE;rw[hx,uI];simp)];rfl
  ·rw[if_neg h,filter_cons,if_neg (by unfold nE;rw[hx,uI];simp;omega)];simp
theorem SF(h:∀aS,aS<aJ→nE aS x=false):ji aJ (fs++[x])=ji aJ fs:=by simp_all [ji,map_congr_left,filter_append,filter_cons,if_neg,mem_range]
def bX.sort(c:Fd→Fd→Int)(x:bX):bX:= { x with l:=eP (jU c) x.l }
theorem bX.agz(c:Fd→Fd→Int)(x:bX):(x.sort c).v=x.v:=by
 show Value.slice x.A (eP (jU c) x.l).length x.c=_;rw[iO]
def fr0:bX:=⟨none,0,[]⟩
def ow(c:Fd→Fd→Int)(rs:List bX):Nat→List bX
 | 0=>rs
 | j+1=>(ow c rs j).set j ((rs.getD j fr0).sort c)
theorem qd(c:Fd→Fd→Int)(rs:List bX):∀j,(ow c rs j).length=rs.length
 | 0=>rfl
 | j+1=>by rw[ow,length_set,qd]
theorem zf(c:Fd→Fd→Int)(rs:List bX):∀j,j≤rs.length→∀i,(ow c rs j)[i]? =if i<j then (rs[i]?).map (bX.sort c) else rs[i]?
 | 0,_,i=>by simp[ow]
 | j+1,hj,i=>by
  rw[ow,getElem?_set,qd,zf c rs j ay];by_cases h:j=i
  ·subst h;rw[if_pos rfl,if_pos ay,if_pos ay];simp[getD,show j<rs.length by omega]
  ·rw[if_neg h];by_cases h2:i<j
   ·rw[if_pos h2,if_pos ay]
   ·rw[if_neg h2,if_neg ay]
theorem adQ(c:Fd→Fd→Int)(rs:List bX)(j:Nat)(hj:j≤rs.length):(ow c rs j).map bX.v=rs.map bX.v:=by
 apply ext_getElem?;intro i;rw[getElem?_map,getElem?_map,zf c rs j hj];split
 ·rw[Option.map_map];congr 1;funext x;exact bX.agz c x
 ·rfl
theorem adP(c:Fd→Fd→Int)(rs:List bX):(ow c rs rs.length).map bX.l=(rs.map bX.l).map (eP (jU c)):=by
 apply ext_getElem?;intro i;rw[getElem?_map,getElem?_map,getElem?_map,zf c rs _ (Nat.le_refl _)];by_cases h:i<rs.length
 ·rw[if_pos h,Option.map_map,Option.map_map];rfl
 ·rw[if_neg h,getElem?_eq_none ay];rfl
theorem uW(l:List Fd)(x:Fd):dF (l++[x])=dF l++x.cells:=by simp[dF]
theorem CP(hs:Seq K F A n 5 (dF fs))(hx:fs[k]? =some x)(hj:x.cells[j]? =some v):Rd K F (A.map (·.add (k*5+j))) v :=
 hs.rd _ _ (JK (s:=5) Fd.len fs k j x v hx hj)
def Uh(f:Nat)(c:Fd→Fd→Int)(ys:List Fd):Prop:=∀(K:World) (F:List aH) (A:Option Addr) (cap:Nat),aB prog 168 #[.slice A ys.length cap,.func (.func f) #[] #[]] K (aV (.slice A ys.length cap) 237 5 ys.length (dF ys)::F)
 (fun v H'=>∀w,Sat K w H'→Sat K w (aV (.slice A ys.length cap) 237 5 ys.length (dF (eP (jU c) ys))::F))
theorem zP(hf:FI f c)(hl:1≤aJ∧aJ≤64)(hs:Seq K F A n 5 (dF fs))(hn:fs.length=n)(h20:n<1000)(UU:∀aS,aS<aJ→Uh f c (fs.filter (nE aS))) :
 aB prog 163 #[.i (aJ:Int),.slice A n cap,.func (.func f) #[] #[]] K F
  (fun v H'=>∃bo:Nat,∃rs:List bX,rs.length=aJ∧rs.map bX.l=(ji aJ fs).map (eP (jU c))∧v= .tuple #[.slice (some ⟨bo,0,none⟩) aJ aJ,.i 0]∧H'=ah bo 170 (rs.map bX.v)::bK (rs.map bX.row)::F):=by
 refine aB.en func163 ntmps163 ?_;refine aj "alf4cV~mLb~9U" ?_;refine WL.nM (m:=aJ) underlying238 akR (ak rfl) (ak rfl) rfl rfl ay rfl rfl rfl (fun bo=> ?_);refine aj "fkN" ?_;refine WC.loop (σ:=Nat×List bX) (fun s=>[(0,.i (aJ:Int)),(2,.func (.func f) #[] #[]),(8,.slice (some ⟨bo,0,none⟩) aJ aJ),(22,.slice A n cap),(23,.i (n:Int)),(24,.i (s.1:Int))]) (fun s=>ah bo 170 (s.2.map bX.v)::bK (s.2.map bX.row)::F) (fun s=>s.1≤n∧s.2.length=aJ∧s.2.map bX.l=ji aJ (fs.take s.1)) (fun s=>n-s.1) (0,replicate aJ fr0) ⟨zero_le _,length_replicate,by
  rw[map_replicate];apply ext_getElem
  ·simp[ji]
  ·intro i h1 h2;simp[ji,fr0]⟩ bC (fun w h=>by
  dsimp only;rw[map_replicate,map_replicate];have key:∀m,∀H,Sat K w H→Sat K w (replicate m fr0.row++H):=fun m=>by
   induction m with
   | zero=>intro H h;exact h
   | succ m ih=>intro H h;exact Sat.gI (ih H h) _ _
  have h1:Sat K w (replicate aJ fr0.row++(ah bo 170 (replicate aJ fr0.v)::F)):=key aJ _ h;exact (Sat.all h1).p1) ?_
 rintro⟨k,rs⟩ ⟨hk,pG,tu⟩;dsimp only at hk pG tu ⊢;refine aj "TZ" (aW (fun aQ=> ?_) fun aQ=> ?_)
 ·obtain⟨x,hx⟩:∃x,fs[k]? =some x:=⟨_,getElem?_eq_getElem ay⟩;have UW:∀(j:Nat) v,x.cells[j]? =some v→Rd K F (A.map (·.add (k*5+j))) v:=fun j v hj=>CP hs hx hj;have Du:fs.take (k+1)=fs.take k++[x]:=by rw[take_add_one,hx];rfl
  have Bv:(k:Int).toNat=k:=ay;refine aj "Ia" ?_;refine WL.val (V.aG (v':=sp A (k*5)) (V.dw zX (ak rfl) (ak rfl) (fun hc=>by omega) (fun hc=>by rw[Bv];repeat (first | exact UW 0 _ rfl | apply Rd.up))) (fun _=>by rw[Bv])) rfl ?_;refine WL.val (V.tX (vs:=x.cells) ⟨isAgg237,sizeOf237⟩ (ak rfl) rfl aN (fun _ j v hj=>by repeat (first | exact UW j v hj | apply Rd.up))) rfl ?_;refine aj "w" fun b10=> ?_;refine aj "ER8ovoc!~OQc!!~~qQi" (aW (fun h2=> ?_) fun h2=> ?_)
  ·simp only[Gi] at h2;obtain⟨lb,hlb⟩:∃lb:Nat,x.hd.aS=(lb:Int):=⟨x.hd.aS.toNat,by omega⟩;have hll:lb<aJ:=ay;obtain⟨r,hr⟩:∃r,r=rs[lb]'ay:=⟨_,rfl⟩;have RZ:rs[lb]? =some r:=by rw[hr];exact getElem?_eq_getElem ay
   have acQ:r.l=(fs.take k).filter (nE lb):=by
    have h3:(rs.map bX.l)[lb]? =some r.l:=by rw[getElem?_map,RZ];rfl
    rw[tu] at h3;simp only[ji,getElem?_map,getElem?_range hll,Option.map_some] at h3;injection h3 with h3
    exact h3.symm
   have RN:r.l.length≤1000:=by rw[acQ];exact Nat.le_trans (length_filter_le _ _) (by rw[length_take];omega)
   have acy:(rs.map bX.row)[lb]'(by rw[length_map];omega)=r.row:=by rw[getElem_map,hr]
   have hvg:(rs.map bX.v)[0+x.hd.aS.toNat*1]? =some r.v:=by rw[hlb,show 0+((lb:Nat):Int).toNat*1=lb by omega,getElem?_map,RZ];rfl
   refine WC.sub (H':=aV (.slice r.A r.l.length r.c) 237 5 r.l.length (dF r.l)::ah bo 170 (rs.map bX.v)::bK ((rs.map bX.row).eraseIdx lb)::ah b10 237 x.cells::F) (Sub.refl _) (fun w h=>by
    have h4:=Sat.FQ (k:=lb) (by rw[length_map];omega) (h.bg 3 [2,1,0] rfl);rw[acy] at h4;exact h4.bg 4 [0,2,1,3] rfl) ?_
   refine WC.dM (bK ((rs.map bX.row).eraseIdx lb)::ah b10 237 x.cells::F) (by kernel_rfl) ?_;refine aj "m0m1m2m3~c4~~f6" ?_;refine WA.two (i:=5) (j:=7) eO (by kernel_rfl) rfl rfl ?_ ?_
   ·refine WL.val (V.load isAgg170 (ak rfl) (fun _=>by repeat (first | exact Rd.here hvg | apply Rd.up))) rfl ?_;refine aj "bn7" ?_;refine WL.buildSlice (E:=237) (cs:=[_,_,_,_,_]) (vs:=[(0,_)]) ⟨ak rfl,trivial⟩ rfl (Bj _ _ _ _ _) rfl (fun b49=> ?_);refine aj "bn8?" ?_;refine WL.append (m:=r.l.length) (q:=1) (news:=x.cells) underlying170 aa6 (ak rfl) (ak rfl) (Seq.all rfl) (fun u hu=>by simpa using all_eq_true.1 (DC x) u hu) ay rfl rfl (fun A5 c5 Zu wQ=> ?_);refine aj "b~c9n:" ?_;refine WL.store (cs:=[_]) sizeOf170 (ak rfl) (ak rfl) rfl rfl rfl (bT.up (bT.up (bT.at_ (by rw[length_map];omega)))) ?_;refine aj "bO7" ?_;refine⟨(k+1,rs.set lb ⟨A5,c5,r.l++[x]⟩),⟨by show k+1≤n;omega,by show (rs.set _ _).length=aJ;rw[length_set];exact pG, ?_⟩,(by show n-(k+1)<n-k;omega),.cons rfl bC,fun w h=> ?_⟩
    ·show (rs.set lb _).map bX.l=_;rw[Du,KN hll h2.1.1 hlb,map_set,tu,←acQ]
    ·have h5:=h.bg 5 [0,3,2] rfl;have e1:aV (.slice A5 (r.l.length+1) c5) 237 5 (r.l.length+1) (dF r.l++x.cells)=bX.row ⟨A5,c5,r.l++[x]⟩:=by
      unfold bX.row;rw[uW,length_append];rfl
     rw[e1] at h5;have h6:=Sat.Na (l:=rs.map bX.row) (k:=lb) (by rw[length_map];omega) h5;have e2:(rs.map bX.v).set (0+x.hd.aS.toNat*1) (.slice A5 (r.l.length+1) c5)=(rs.set lb ⟨A5,c5,r.l++[x]⟩).map bX.v:=by
      rw[hlb,show 0+((lb:Nat):Int).toNat*1=lb by omega,map_set];show _=(rs.map bX.v).set lb (.slice A5 (r.l++[x]).length c5);rw[length_append];rfl
     rw[e2,←map_set] at h6;exact h6.p1
   ·refine WL.buildSlice (E:=237) (cs:=[_,_,_,_,_]) (vs:=[(0,_)]) ⟨ak rfl,trivial⟩ rfl (Bj _ _ _ _ _) rfl (fun b49=> ?_);refine aj "bn5" ?_;refine WL.val (V.load isAgg170 (ak rfl) (fun _=>by repeat (first | exact Rd.here hvg | apply Rd.up))) rfl ?_;refine aj "bn8?" ?_;refine WL.append (m:=r.l.length) (q:=1) (news:=x.cells) underlying170 aa6 (ak rfl) (ak rfl) (Seq.all rfl) (fun u hu=>by simpa using all_eq_true.1 (DC x) u hu) ay rfl rfl (fun A5 c5 Zu wQ=> ?_);refine aj "b~c9n:" ?_;refine WL.store (cs:=[_]) sizeOf170 (ak rfl) (ak rfl) rfl rfl rfl (bT.up (bT.up (bT.at_ (by rw[length_map];omega)))) ?_;refine aj "bO7" ?_;refine⟨(k+1,rs.set lb ⟨A5,c5,r.l++[x]⟩),⟨by show k+1≤n;omega,by show (rs.set _ _).length=aJ;rw[length_set];exact pG, ?_⟩,(by show n-(k+1)<n-k;omega),.cons rfl bC,fun w h=> ?_⟩
    ·show (rs.set lb _).map bX.l=_;rw[Du,KN hll h2.1.1 hlb,map_set,tu,←acQ]
    ·have h5:=h.bg 5 [0,3,2] rfl;have e1:aV (.slice A5 (r.l.length+1) c5) 237 5 (r.l.length+1) (dF r.l++x.cells)=bX.row ⟨A5,c5,r.l++[x]⟩:=by
      unfold bX.row;rw[uW,length_append];rfl
     rw[e1] at h5;have h6:=Sat.Na (l:=rs.map bX.row) (k:=lb) (by rw[length_map];omega) h5;have e2:(rs.map bX.v).set (0+x.hd.aS.toNat*1) (.slice A5 (r.l.length+1) c5)=(rs.set lb ⟨A5,c5,r.l++[x]⟩).map bX.v:=by
      rw[hlb,show 0+((lb:Nat):Int).toNat*1=lb by omega,map_set];show _=(rs.map bX.v).set lb (.slice A5 (r.l++[x]).length c5);rw[length_append];rfl
     rw[e2,←map_set] at h6;exact h6.p1
  ·simp only[Gi] at h2;have abe:∀aS,aS<aJ→nE aS x=false:=fun aS hl2=>by
    unfold nE;rcases h2 with (h | h) | h
    ·rw[h];rfl
    ·rw[decide_eq_false (show ¬x.hd.aS=(aS:Int) by omega),Bool.and_false]
    ·rw[decide_eq_false (show ¬x.hd.aS=(aS:Int) by omega),Bool.and_false]
   refine aj "q7" ?_;refine⟨(k+1,rs),⟨by show k+1≤n;omega,pG, ?_⟩,(by show n-(k+1)<n-k;omega),.cons rfl bC,fun w h=>h.drop 1⟩;show rs.map bX.l=_;rw[Du,SF abe,tu]
 ·refine aj "WM" ?_;obtain rfl:k=n:=by omega
  rw[take_of_length_le ay] at tu;refine aj "hkN" ?_;refine WC.loop (σ:=Nat) (fun j=>[(2,.func (.func f) #[] #[]),(8,.slice (some ⟨bo,0,none⟩) aJ aJ),(53,.slice (some ⟨bo,0,none⟩) aJ aJ),(54,.i (aJ:Int)),(55,.i (j:Int))]) (fun j=>ah bo 170 (rs.map bX.v)::bK ((ow c rs j).map bX.row)::F) (fun j=>j≤aJ) (fun j=>aJ-j) 0 (zero_le _) bC cO ?_;rintro j hj;refine aj "TZ" (aW (fun eu=> ?_) fun eu=> ?_)
  ·have BF:j<aJ:=ay;obtain⟨r,hr⟩:∃r,r=rs[j]'ay:=⟨_,rfl⟩;have RZ:rs[j]? =some r:=by rw[hr];exact getElem?_eq_getElem ay
   have mR:=qd c rs j;have hrj:(ow c rs j)[j]? =some r:=by rw[zf c rs j ay,if_neg (Nat.lt_irrefl _)];exact RZ
   have acy:((ow c rs j).map bX.row)[j]'(by rw[length_map];omega)=r.row:=by
    rw[getElem_map];congr 1;rw[getElem?_eq_getElem ay] at hrj;injection hrj
   have hvg:(rs.map bX.v)[0+((j:Nat):Int).toNat*1]? =some r.v:=by rw[show 0+((j:Nat):Int).toNat*1=j by omega,getElem?_map,RZ];rfl
   have RN:Uh f c r.l:=by
    have h3:(rs.map bX.l)[j]? =some r.l:=by rw[getElem?_map,RZ];rfl
    rw[tu] at h3;simp only[ji,getElem?_map,getElem?_range BF,Option.map_some] at h3;injection h3 with h3
    rw[←h3];exact UU j BF
   refine aj "Ia~r" ?_;refine WL.val (V.load isAgg170 (ak rfl) (fun _=>Rd.here hvg)) rfl ?_;refine aj "g" ?_;refine WC.sub (H':=aV (.slice r.A r.l.length r.c) 237 5 r.l.length (dF r.l)::bK (((ow c rs j).map bX.row).eraseIdx j)::ah bo 170 (rs.map bX.v)::F) (Sub.refl _) (fun w h=>by
    have h4:=Sat.FQ (k:=j) (by rw[length_map];omega) h.p1;rw[acy] at h4;exact h4) ?_
   refine aj "P" ?_;refine WL.c2 call168 rfl rfl (RN _ _ _ _) rfl ?_;rintro v0 H0 h0;refine aj "b7" ?_;refine⟨j+1,BF,(by show aJ-(j+1)<aJ-j;omega),.cons rfl bC,fun w h=> ?_⟩;have h5:=h0 w h;have e1:aV (.slice r.A r.l.length r.c) 237 5 r.l.length (dF (eP (jU c) r.l))=(r.sort c).row:=by
    unfold bX.row bX.sort;rw[iO]
   rw[e1] at h5;have h6:=Sat.Na (l:=(ow c rs j).map bX.row) (k:=j) (by rw[length_map];omega) h5;have e3:rs.getD j fr0=r:=by simp[getD,RZ]
   rw[←map_set] at h6;dsimp only;rw[ow,e3];exact h6.p1
  ·refine aj "KeC" ?_;obtain rfl:j=aJ:=by omega
   refine aF.ret (H':=ah bo 170 ((ow c rs j).map bX.v)::bK ((ow c rs j).map bX.row)::F) (bJ.eU rfl rfl rfl) (fun w h=>by rw[adQ c rs j ay];exact h) ⟨bo,ow c rs j,by rw[qd,pG], ?_,rfl,rfl⟩;have h7:=adP c rs;rw[pG] at h7;rw[h7,tu]
theorem MJ(hf:FI f c){aJ:Nat}(hl:1≤aJ∧aJ≤64)(hs:Seq K F A n 5 (dF fs))(hn:fs.length=n)(h20:n<20) :
 aB prog 163 #[.i (aJ:Int),.slice A n cap,.func (.func f) #[] #[]] K F
  (fun v H'=>∃bo:Nat,∃rs:List bX,rs.length=aJ∧rs.map bX.l=(ji aJ fs).map (eP (jU c))∧v= .tuple #[.slice (some ⟨bo,0,none⟩) aJ aJ,.i 0]∧H'=ah bo 170 (rs.map bX.v)::bK (rs.map bX.row)::F) :=
 zP hf hl hs hn ay (fun aS _ _ _ _ _=>AV hf rfl (Nat.lt_of_le_of_lt (length_filter_le _ _) ay))
theorem uf{a:Nat}(ha:a<2^n)(hb:b*2^n<4611686018427387904)(ha2:a<4611686018427387904):bitsOf .or .i64 (a:Int) ((b*2^n:Nat):Int)=((a+b*2^n:Nat):Int):=by
 have h1:a+b*2^n<9223372036854775808:=ay;unfold bitsOf;dsimp only;rw[iG,iG,BitVec.toNat_or,BitVec.toNat_ofNat,BitVec.toNat_ofNat];have e1:a%2^IntKind.i64.bits=a:=mod_eq_of_lt (by show a<2^64;omega);have e2:b*2^n%2^IntKind.i64.bits=b*2^n:=mod_eq_of_lt (by show b*2^n<2^64;omega);rw[e1,e2];have e3:a ||| b*2^n=a+b*2^n:=by
  have :=two_pow_add_eq_or_of_lt ha b;rw[Nat.mul_comm b,Nat.or_comm,←this,Nat.add_comm]
 rw[e3];exact wrap_i64 ay
theorem zq{x n:Nat}(hn:n≤24)(hx:x<256):IntKind.i64.wrap ((x:Int)*2^(min (n:Int).toNat IntKind.i64.bits))=((x*2^n:Nat):Int):=by
 have h1:min (n:Int).toNat IntKind.i64.bits=n:=by rw[Int.toNat_natCast];exact Nat.min_eq_left (by show n≤64;omega)
 have h2:x*2^n≤255*2^24:=Nat.mul_le_mul ay (Nat.pow_le_pow_right aN hn);rw[h1,show (x:Int)*2^n=((x*2^n:Nat):Int) by rw[Int.natCast_mul,Int.natCast_pow];rfl];exact wrap_i64 ay
theorem um(hg:g.aU)(hp:jr g d=some h):d.length=g.room.toNat∧h.may g=true∧d=jP g h:=by
 unfold jr at hp;split at hp
 ·rename_i h1;injection hp with hp
  subst hp;simp only[Bool.and_eq_true,decide_eq_true_eq] at h1;exact⟨by rw[←h1.2,pQ hg],h1.1,h1.2.symm⟩
 ·cases hp
theorem Az(hg:g.aU)(h:Hd)(hn:h.len≤1099511627776)(hl:0≤h.aS)(hk:0≤h.num) :
 aB prog 123 #[g.v,h.v] K F (fun v H'=>(h.may g=true∧∃A' c',v= .tuple #[.slice A' g.room.toNat c',.i 0]∧H'=aV (.slice A' g.room.toNat c') 5 1 g.room.toNat (av .u8 (jP g h))::F) ∨
  (h.may g=false∧v= .tuple #[.slice none 0 0,.i 1]∧H'=F)):=by
 have hr:=bQ.kP hg;refine aB.en func123 ntmps123 ?_;refine aj "a%" fun b2=> ?_;refine aj "~~8" fun b3=> ?_;refine aj "luaB~~A" ?_;refine WL.t2 call189 rfl rfl (acg hg h hn) rfl ?_;refine aj "*i" (aW (fun h0=> ?_) fun h0=> ?_)
 ·simp only[Bool.not_eq_true',Bool.not_eq_false'] at h0;refine aj "aC" ?_;exact aF.ret (H':=F) (bJ.eU rfl rfl rfl) (fun w h=>h.drop 2) (.inr ⟨h0,rfl,rfl⟩)
 ·simp only[Bool.not_eq_true',Bool.not_eq_false'] at h0;have JG:=h0;unfold Hd.may bQ.fits at JG;simp only[Bool.and_eq_true,decide_eq_true_eq] at JG;refine aj "9B" ?_;refine WL.t1 call122 rfl (lW hg) rfl ?_;refine aj "Dv" ?_;refine WL.buildSlice (E:=5) (cs:=[_,_,_,_]) (vs:=[(0,_),(1,_),(2,_),(3,_)]) ⟨ak rfl,ak rfl,ak rfl,ak rfl,trivial⟩ rfl (fJ _ _ _ _) rfl (fun b18=> ?_);refine aj "~~uooo" ?_;refine WL.buildSlice (E:=3) (cs:=[_,_,_]) (vs:=[(0,_),(1,_),(2,_)]) ⟨ak rfl,ak rfl,ak rfl,trivial⟩ rfl (Hl _ _ _) rfl (fun b26=> ?_);refine WL.c2 call190 rfl rfl (aaE (cs:=[.int .u8 99,.int .u8 97,.int .u8 115,.int .u8 101]) (by repeat (first | exact Seq.agX rfl | apply Seq.up)) (Seq.all rfl)) rfl ?_;rintro _ _ ⟨A1,c1,rfl,rfl⟩;refine aj "Y[" ?_;refine WL.Gx (m:=16) (q:=g.room.toNat-16) underlying34 underlying3 yL rfl rfl (ak rfl) (ak rfl) ay ay ay rfl (fun A2 c2 RU bA=> ?_);refine aj "C" ?_;have e1:16+(g.room.toNat-16)=g.room.toNat:=ay;refine aF.ret (H':=aV (.slice A2 g.room.toNat c2) 5 1 g.room.toNat (av .u8 (jP g h))::F) (bJ.eU rfl (look_eq rfl (by rw[e1])) rfl) (fun w hw=> ?_) (.inl ⟨h0,A2,c2,rfl,rfl⟩);have h':=hw.bg 5 [0] rfl;rw[e1,D5 hl,D5 JG.1.1.1.1.1,D5 hk] at h';unfold jP;rw[dx,dx,dx,dx,eD];exact h'
theorem mP(hs:Seq K F A m 1 (av .u8 d))(h8:aA 256 d)(hb:Rd K F (some ⟨b,0,none⟩) (.slice A m cap))(hi:i+3<m)(hm:m≤1000000) :
 aK prog 157 #[.i (i:Int),ptr b 0] K F (.i (AB d i)):=by
 have hl:d.length=m:=by simpa [av] using hs.len
 obtain⟨x0,e0⟩:∃x,x=d.getD i 0:=⟨_,rfl⟩;obtain⟨x1,e1⟩:∃x,x=d.getD (i+1) 0:=⟨_,rfl⟩;obtain⟨x2,e2⟩:∃x,x=d.getD (i+2) 0:=⟨_,rfl⟩;obtain⟨x3,e3⟩:∃x,x=d.getD (i+3) 0:=⟨_,rfl⟩;have b0:x0<256:=by rw[e0];exact h8.at_ aN _
 have b1:x1<256:=by rw[e1];exact h8.at_ aN _
 have b2:x2<256:=by rw[e2];exact h8.at_ aN _
 have b3:x3<256:=by rw[e3];exact h8.at_ aN _
 have rd:∀(k:Nat) (j:Int) x,j=(i+k:Nat)→k≤3→x=d.getD (i+k) 0→Rd K F (A.map (·.add (j.toNat*1))) (.int .u8 (x:Int)):=fun k j x hj hk hx=>by
  rw[hj,hx,Int.toNat_natCast];exact hs.jo ay
 have r0:=rd 0 (i:Int) x0 ay ay e0;have r1:=rd 1 ((i:Int)+1) x1 ay ay e1;have r2:=rd 2 ((i:Int)+2) x2 ay ay e2;have r3:=rd 3 ((i:Int)+3) x3 ay ay e3;have U0:AB d i=((x0+x1*2^8+x2*2^16+x3*2^24:Nat):Int):=by unfold AB;rw[←e0,←e1,←e2,←e3];omega
 rw[U0];refine aB.en func157 ntmps157 ?_;refine aj "au~k" ?_;refine WQ.val (V.load isAgg34 (ak rfl) (fun _=>hb)) rfl ?_;refine aj "&" ?_;refine WQ.val (V.dw dO (ak rfl) (ak rfl) (fun hc=>by omega) (fun hc=>r0)) rfl ?_;refine WQ.val (V.load isAgg5 (ak rfl) (fun hc=>r0)) rfl ?_;refine aj "~|" ?_;refine WQ.val (V.load isAgg34 (ak rfl) (fun _=>hb)) rfl ?_;refine aj "&~~p" ?_;refine WQ.val (V.dw dO (ak rfl) (ak rfl) (fun hc=>by omega) (fun hc=>r1)) rfl ?_;refine WQ.val (V.load isAgg5 (ak rfl) (fun hc=>r1)) rfl ?_;refine aj "~|" ?_;refine WQ.val (V.aG (v':= .i ((x1*2^8:Nat):Int)) (V.shl (ak rfl) (ak rfl) ay) (fun _=>congrArg _ (zq (n:=8) aN b1))) rfl ?_;refine WQ.val (V.aG (v':= .i ((x0+x1*2^8:Nat):Int)) (V.or (ak rfl) (ak rfl)) (fun _=>congrArg _ (uf (n:=8) ay ay ay))) rfl ?_;refine WQ.val (V.load isAgg34 (ak rfl) (fun _=>hb)) rfl ?_;refine aj "&~~p" ?_;refine WQ.val (V.dw dO (ak rfl) (ak rfl) (fun hc=>by omega) (fun hc=>r2)) rfl ?_;refine WQ.val (V.load isAgg5 (ak rfl) (fun hc=>r2)) rfl ?_;refine aj "~|" ?_;refine WQ.val (V.aG (v':= .i ((x2*2^16:Nat):Int)) (V.shl (ak rfl) (ak rfl) ay) (fun _=>congrArg _ (zq (n:=16) aN b2))) rfl ?_;refine WQ.val (V.aG (v':= .i ((x0+x1*2^8+x2*2^16:Nat):Int)) (V.or (ak rfl) (ak rfl)) (fun _=>congrArg _ (uf (n:=16) ay ay ay))) rfl ?_;refine WQ.val (V.load isAgg34 (ak rfl) (fun _=>hb)) rfl ?_;refine aj "&~~p" ?_;refine WQ.val (V.dw dO (ak rfl) (ak rfl) (fun hc=>by omega) (fun hc=>r3)) rfl ?_;refine WQ.val (V.load isAgg5 (ak rfl) (fun hc=>r3)) rfl ?_;refine aj "~|" ?_;refine WQ.val (V.aG (v':= .i ((x3*2^24:Nat):Int)) (V.shl (ak rfl) (ak rfl) ay) (fun _=>congrArg _ (zq (n:=24) aN b3))) rfl ?_;refine WQ.val (V.aG (v':= .i ((x0+x1*2^8+x2*2^16+x3*2^24:Nat):Int)) (V.or (ak rfl) (ak rfl)) (fun _=>congrArg _ (uf (n:=24) ay ay ay))) rfl ?_;exact aj "~n~f~C." trivial
theorem RG(hs:Seq K F A m 1 (av .u8 d))(hq:Seq K F B q 1 (av .u8 e))(hd:aA 256 d)(he:aA 256 e) :
 aK prog 158 #[.slice A m cap,.slice B q cap'] K F (.bool (decide (d=e))):=by
 refine aB.en func158 ntmps158 ?_;refine aj "aj" ?_;refine WL.val (V.iM (xs:=bH d) underlying34 underlying5 underlying9 (ak rfl) (fun _=>by rw[←jX];exact hs)) rfl ?_;refine WL.mv rfl rfl ?_;refine WL.val (V.iM (xs:=bH e) underlying34 underlying5 underlying9 (ak rfl) (fun _=>by rw[←jX];exact hq)) rfl ?_;refine WL.val (V.ajB (ak rfl) (ak rfl)) rfl (aj "d;" ?_);rw[sZ (kR hd) (kR he)];congr 1;apply decide_eq_decide.2;exact⟨fun h=>by rw[←sG d,h,sG],fun h=>by rw[h]⟩
def gQ(g:bQ)(d:List Nat):Hd:=(jr g d).getD ⟨0,0,0⟩
def iR(g:bQ)(d:List Nat):Int:=match jr g d with | some _=>0 | none=>if d.length=g.room.toNat then 4 else 1
theorem IK(hg:g.aU)(hs:Seq K F A m 1 (av .u8 d))(h8:aA 256 d)(hm:m≤1000000) :
 aK prog 91 #[g.v,.slice A m cap] K F (.tuple #[(gQ g d).v,.i (iR g d)]):=by
 have hl:d.length=m:=by simpa [av] using hs.len
 have hr:=bQ.kP hg;by_cases hlen:(m:Int)=g.room
 rotate_left
 ·have hn:jr g d=none:=by
   cases hp:jr g d with
   | none=>rfl
   | some h=>have :=(um hg hp).1;omega
  have e1:gQ g d=⟨0,0,0⟩:=by unfold gQ;rw[hn];rfl
  have e2:iR g d=1:=by unfold iR;rw[hn];exact if_neg ay
  rw[e1,e2];refine aB.en func91 ntmps91 ?_;refine aj "a%" fun b2=> ?_;refine aj "~h" fun b3=> ?_;refine aj "w" fun b4=> ?_;refine aj "vB" ?_;refine WL.t1 call122 rfl (lW hg) rfl ?_;refine aj "Dfsc~~?~DV~VLb" ?_;refine WC.MI rfl ((by simp;omega)) ?_;refine aj "a@~@d" ?_;exact aF.ret (H':=F) (bJ.two rfl (R1.jQ (vs:=[_,_,_]) rfl ⟨isAgg157,sizeOf157⟩ rfl adS) (R1.tmp rfl)) (fun w h=>h.drop 3) ⟨rfl,rfl⟩
 obtain⟨h,hh⟩:∃h,h=DN d:=⟨_,rfl⟩;have db:∀i,0≤AB d i∧AB d i<4294967296:=fun i=>by
  have x0:=h8.at_ aN i;have x1:=h8.at_ aN (i+1);have x2:=h8.at_ aN (i+2);have x3:=h8.at_ aN (i+3);unfold AB;omega
 have hb:h=⟨AB d 4,AB d 8,AB d 12⟩:=hh;have h0l:0≤h.aS:=by rw[hb];exact (db 4).1
 have h0k:0≤h.num:=by rw[hb];exact (db 12).1
 have h0n:h.len≤1099511627776:=by rw[hb];have :=(db 8).2;show AB d 8≤_;omega
 cases Oj:h.may g with
 | false =>
  have hn:jr g d=none:=by unfold jr;rw[←hh,Oj];rfl
  have e1:gQ g d=⟨0,0,0⟩:=by unfold gQ;rw[hn];rfl
  have e2:iR g d=4:=by unfold iR;rw[hn];exact if_pos ay
  rw[e1,e2];have JC:∀(K:World) (F:List aH),aK prog 123 #[g.v,h.v] K F (.tuple #[.slice none 0 0,.i 1]):=fun K F=>(Az hg h h0n h0l h0k).mono (fun v H' hx=>by
   rcases hx with ⟨h1,_⟩ | ⟨_,h2,h3⟩
   ·rw[Oj] at h1;cases h1
   ·exact⟨h2,h3⟩)
  rw[hb] at JC;refine aB.en func91 ntmps91 ?_;refine aj "a%" fun b2=> ?_;refine aj "~h" fun b3=> ?_;refine aj "w" fun b4=> ?_;refine aj "vB" ?_;refine WL.t1 call122 rfl (lW hg) rfl ?_;refine aj "Dfsc~~?~DV~VLb~99~Uj" ?_;refine WL.ny (first:=[]) (vs:=[_]) (captured:=[ptr b3 0]) call157 (ak rfl) ⟨ak rfl,trivial⟩ (mP (i:=4) (by repeat (first | exact hs | apply Seq.up)) h8 lD ay hm) rfl ?_;rintro _ _ ⟨rfl,rfl⟩;refine WL.mv rfl rfl ?_;refine WL.ny (first:=[]) (vs:=[_]) (captured:=[ptr b3 0]) call157 (ak rfl) ⟨ak rfl,trivial⟩ (mP (i:=8) (by repeat (first | exact hs | apply Seq.up)) h8 lD ay hm) rfl ?_;rintro _ _ ⟨rfl,rfl⟩;refine WL.mv rfl rfl ?_;refine WL.ny (first:=[]) (vs:=[_]) (captured:=[ptr b3 0]) call157 (ak rfl) ⟨ak rfl,trivial⟩ (mP (i:=12) (by repeat (first | exact hs | apply Seq.up)) h8 lD ay hm) rfl ?_;rintro _ _ ⟨rfl,rfl⟩;refine WL.val (V.build (vs:=[(0,_),(1,_),(2,_)]) ⟨ak rfl,ak rfl,ak rfl,trivial⟩ rfl (u7 _ _ _)) rfl ?_;refine aj "w" fun b9=> ?_;refine aj "~@FaB~~A" ?_;refine WL.t2 call123 rfl rfl (JC _ _) rfl ?_;refine aj "Djsc" ?_;refine WL.BK (oj:=_) rfl rfl rfl rfl rfl (fun d hd=>by injection hd with hd;subst hd;rfl) ?_;refine WL.BK (oj:=_) rfl rfl rfl rfl rfl (fun d hd=>by injection hd with hd;subst hd;rfl) ?_;refine WL.BK (oj:=_) rfl rfl rfl rfl rfl (fun d hd=>by injection hd with hd;subst hd;rfl) ?_;refine WL.BK (oj:=_) rfl rfl rfl rfl rfl (fun d hd=>by injection hd with hd;subst hd;rfl) ?_;refine WL.val (V.aas (ak rfl) (ak rfl)) rfl (aj "b5a@~@d" ?_);exact aF.ret (H':=F) (bJ.two rfl (R1.jQ (vs:=[_,_,_]) rfl ⟨isAgg157,sizeOf157⟩ rfl adS) (R1.tmp rfl)) (fun w h=>h.drop 4) ⟨rfl,rfl⟩
 | true =>
  have JC:∀(K:World) (F:List aH),aB prog 123 #[g.v,h.v] K F (fun v H'=>∃A' c',v= .tuple #[.slice A' g.room.toNat c',.i 0]∧H'=aV (.slice A' g.room.toNat c') 5 1 g.room.toNat (av .u8 (jP g h))::F):=fun K F=>(Az hg h h0n h0l h0k).mono (fun v H' hx=>by
   rcases hx with ⟨_,h2⟩ | ⟨h1,_⟩
   ·exact h2
   ·rw[Oj] at h1;cases h1)
  have hpf:jr g d=if jP g h=d then some h else none:=by
   unfold jr;rw[←hh,Oj,Bool.true_and];by_cases he:jP g h=d
   ·rw[decide_eq_true he,if_pos rfl,if_pos he]
   ·rw[decide_eq_false he,if_neg Bool.false_ne_true,if_neg he]
  have BI:=pQ hg h;have hb8:=yN g h;obtain⟨hB,hhB⟩:∃hB,hB=jP g h:=⟨_,rfl⟩;rw[←hhB] at BI hb8 hpf JC;rw[hb] at JC;refine aB.en func91 ntmps91 ?_;refine aj "a%" fun b2=> ?_;refine aj "~h" fun b3=> ?_;refine aj "w" fun b4=> ?_;refine aj "vB" ?_;refine WL.t1 call122 rfl (lW hg) rfl ?_;refine aj "Dfsc~~?~DV~VLb~99~Uj" ?_;refine WL.ny (first:=[]) (vs:=[_]) (captured:=[ptr b3 0]) call157 (ak rfl) ⟨ak rfl,trivial⟩ (mP (i:=4) (by repeat (first | exact hs | apply Seq.up)) h8 lD ay hm) rfl ?_;rintro _ _ ⟨rfl,rfl⟩;refine WL.mv rfl rfl ?_;refine WL.ny (first:=[]) (vs:=[_]) (captured:=[ptr b3 0]) call157 (ak rfl) ⟨ak rfl,trivial⟩ (mP (i:=8) (by repeat (first | exact hs | apply Seq.up)) h8 lD ay hm) rfl ?_;rintro _ _ ⟨rfl,rfl⟩;refine WL.mv rfl rfl ?_;refine WL.ny (first:=[]) (vs:=[_]) (captured:=[ptr b3 0]) call157 (ak rfl) ⟨ak rfl,trivial⟩ (mP (i:=12) (by repeat (first | exact hs | apply Seq.up)) h8 lD ay hm) rfl ?_;rintro _ _ ⟨rfl,rfl⟩;refine WL.val (V.build (vs:=[(0,_),(1,_),(2,_)]) ⟨ak rfl,ak rfl,ak rfl,trivial⟩ rfl (u7 _ _ _)) rfl ?_;refine aj "w" fun b9=> ?_;refine aj "~@FaB~~A" ?_;refine WL.c2 call123 rfl rfl (JC _ _) rfl ?_;rintro _ _ ⟨A6,c6,rfl,rfl⟩;refine aj "Djsc~Ic~I<~I" ?_;refine WL.t2 call158 rfl rfl (RG (d:=hB) (e:=d) (by repeat (first | exact aV.seq (by rw[au,BI,Nat.mul_one]) | apply Seq.up)) (by repeat (first | exact hs | apply Seq.up)) hb8 h8) rfl ?_;refine aj "~I*" ?_;refine WL.val (V.DY (ak rfl) (ak rfl)) rfl ?_;refine aj "i" (aW (fun h1=> ?_) fun h1=> ?_)
  ·simp at h1;have e1:gQ g d=⟨0,0,0⟩:=by unfold gQ;rw[hpf,if_neg h1];rfl
   have e2:iR g d=4:=by unfold iR;rw[hpf,if_neg h1];exact if_pos ay
   refine aj "a@~@d" ?_;rw[e1,e2];exact aF.ret (H':=F) (bJ.two rfl (R1.jQ (vs:=[_,_,_]) rfl ⟨isAgg157,sizeOf157⟩ rfl adS) (R1.tmp rfl)) (fun w h=>h.bg 5 [] rfl) ⟨rfl,rfl⟩
  ·simp at h1;have e1:gQ g d=h:=by unfold gQ;rw[hpf,if_pos h1];rfl
   have e2:iR g d=0:=by unfold iR;rw[hpf,if_pos h1]
   refine aj "9~~A~@d" ?_;rw[e1,e2,hb];exact aF.ret (H':=F) (bJ.two rfl (R1.jQ (vs:=[_,_,_]) rfl ⟨isAgg157,sizeOf157⟩ rfl adS) (R1.tmp rfl)) (fun w h=>h.bg 5 [] rfl) ⟨rfl,rfl⟩
namespace aD
def ko(S:aD)(b:Int):Option Fd :=
 if (S.bY b 0).err≠0 then none
 else match jr S.g (S.bY b 0).d with
  | none=>none
  | some h=>some ⟨b,h,(S.mX b (1+S.g.bN h.len)).1⟩
def dV(S:aD):List Fd:=S.dW.filterMap S.ko
def om(S:aD):Int:=(S.mX 0 0).2
theorem qB(S:aD):∀k x,x∈S.fM k→0≤x∧x<(k:Int)∧S.up=true∧S.bad x=false
 | 0,x,h=>by simp[fM] at h
 | k+1,x,h=>by
  rw[fM] at h;split at h
  ·rename_i hg;rcases mem_append.1 h with h | h
   ·have :=qB S k x h;exact⟨this.1,by omega,this.2.2⟩
   ·have :=mem_singleton.1 h;subst this;simp only[Bool.and_eq_true,Bool.not_eq_true'] at hg;exact⟨by omega,by omega,hg⟩
  ·have :=qB S k x h;exact⟨this.1,by omega,this.2.2⟩
end aD
theorem C8:∀(l:List (Option (LL×Nat))) (d:List Nat) (n:Nat),aA 256 d→(∀o∈l,∀p k,o=some (p,k)→aA 256 p.1)→aA 256 (lV l d n).d
 | [],d,n,h,_=>h
 | none::l,d,n,h,_=>fun x hx=>by simp[lV] at hx
 |
  some (p,k)::l,d,n,h,hl=>by
  rw[lV];exact C8 l _ _ (h.append (hl _ (.head _) p k rfl)) (fun o ho=>hl o (.tail _ ho))
theorem Db(h:aA 256 p.1):∀k,aA 256 (fU t c L p k).1.1
 | 0=>h
 | k+1=>by
  have ih:=Db (c:=c) (L:=L) (t:=t) h k;rw[fU];split
  ·show aA 256 (xY t _ k).1;unfold xY;split
   ·exact yF ih _
   ·exact ih
  ·exact ih
theorem Uz(h:aA 256 d)(hd:tZ t d m=some (p,k)):aA 256 p.1:=by grind [tZ,Db]
theorem Ov(h:aA 256 raw):aA 256 (gK t S B raw).d:=by
 unfold gK;split
 ·intro x hx;simp at hx
 ·refine C8 _ _ _ (fun x hx=>by simp at hx) (fun o ho p k hp=> ?_);obtain⟨j,_,rfl⟩:=mem_map.1 ho;unfold FY at hp;exact Uz (aA.take (aA.drop h)) hp
theorem X3(ht:t≤8)(hS:S≤8)(hB:B≤512):(gK t S B raw).d.length≤S*B:=by
 unfold gK;split
 ·exact zero_le _
 ·have key:∀(l:List (Option (LL×Nat))) (d:List Nat) (n:Nat),(∀o∈l,∀p k,o=some (p,k)→p.1.length≤B)→(lV l d n).d.length≤d.length+l.length*B:=fun l=>by
   induction l with
   | nil=>intro d n _;show d.length≤_;omega
   | cons o l ih =>
    intro d n h;cases o with
    | none=>exact zero_le _
    | some r =>
     obtain⟨p,k⟩:=r;rw[lV];have h1:=ih (d++p.1) (max n k) (fun o ho=>h o (.tail _ ho));have h2:=h _ (.head _) p k rfl;rw[length_append] at h1;rw[length_cons,succ_mul];omega
  have :=key ((List.range S).map (FY t B (B+aR t) raw)) [] 0 (fun o ho p k hp=>by
   obtain⟨j,_,rfl⟩:=mem_map.1 ho;unfold FY at hp;have h1:(F4 B (B+aR t) raw j).length≤B:=by unfold F4;rw[length_take];omega
   have h2:=(Vu t (F4 B (B+aR t) raw j) (Xf B (B+aR t) raw j) ay ht).1;rw[hp] at h2;exact Nat.le_trans h2 h1)
  rw[length_map,length_range] at this
  simpa using this
theorem Cw.Ok.rQ{C:Cw}(hC:C.Ok)(b p:Int):aA 256 (C.aC.bY b p).d∧(C.aC.bY b p).d.length≤4096:=by
 have hg:=hC.aU;unfold bQ.aU at hg;unfold aD.bY;split
 ·exact⟨fun x hx=>by simp at hx,zero_le _⟩
 ·refine⟨Ov (hC.uO b p).2.1, ?_⟩;have h1:=X3 (t:=C.aC.g.fl.toNat) (S:=C.aC.g.se.toNat) (B:=C.aC.g.sb.toNat) (raw:=C.aC.kI b p) (by show C.g.fl.toNat≤8;omega) (by show C.g.se.toNat≤8;omega) (by show C.g.sb.toNat≤512;omega);have h2:C.aC.g.se.toNat*C.aC.g.sb.toNat≤8*512:=Nat.mul_le_mul (by show C.g.se.toNat≤8;omega) (by show C.g.sb.toNat≤512;omega);exact Nat.le_trans h1 h2
theorem QT{C:Cw}(hC:C.Ok)(hg:C.g=g)(h12:g.bl≤19)(he:C.aC.om=0):aB prog 99 #[ptr bd 0] K (C.A bc::dA bd bc g::F)
 (fun v H'=>∃A' c',v= .tuple #[.slice A' C.aC.dV.length c',.i 0]∧H'=C.A bc::dA bd bc g::aV (.slice A' C.aC.dV.length c') 237 5 C.aC.dV.length (dF C.aC.dV)::F):=by
 have yO:g.aU:=by rw[←hg];exact hC.aU
 have uJ:=yO;unfold bQ.aU at uJ;obtain⟨gd,L9⟩:∃gd,gd=C.aC.dW:=⟨_,rfl⟩;have hgl:gd.length≤19:=by
  have :=aD.jK C.aC C.aC.g.bl.toNat;have h2:C.aC.g.bl.toNat≤19:=by rw[show C.aC.g=C.g from rfl,hg];omega
  rw[L9];unfold aD.dW;omega
 have alg:C.aC.dV=gd.filterMap C.aC.ko:=by rw[L9];rfl
 refine aB.en func99 ntmps99 ?_;refine aj "alf]3U" ?_;refine WL.t1 call100 rfl (kg) rfl ?_;refine aj "w" fun b4=> ?_;refine aj "Ebr~~g" ?_;refine WL.c3 call126 rfl rfl rfl (vN hC hg 0 0 aN) rfl ?_;rintro _ _ ⟨rfl,rfl⟩;refine aj "Djsb" ?_;refine WC.ni rfl ((by simp;exact he)) ?_;refine aj "9f" ?_;refine WL.c1 call118 rfl (ER hC hg) rfl ?_;rintro _ _ ⟨Ag,cg,rfl,rfl⟩;rw[←L9];refine aj "kN" ?_;refine WC.loop (σ:=Nat×Option Addr×Nat) (fun s=>[(0,ptr bd 0),(4,ptr b4 0),(7,.slice s.2.1 (((gd.take s.1).filterMap C.aC.ko).length) s.2.2),(31,.slice Ag gd.length cg),(32,.i (gd.length:Int)),(33,.i (s.1:Int))]) (fun s=>C.A bc::dA bd bc g::aV (.slice s.2.1 (((gd.take s.1).filterMap C.aC.ko).length) s.2.2) 237 5 (((gd.take s.1).filterMap C.aC.ko).length) (dF ((gd.take s.1).filterMap C.aC.ko))::aV (.slice Ag gd.length cg) 3 1 gd.length (ints .i64 gd)::ah b4 23 [.i g.bl,.i g.pg,.i g.se,.i g.sb,.i g.fl]::F) (fun s=>s.1≤gd.length) (fun s=>gd.length-s.1) (0,none,0) (zero_le _) bC (fun w h=>(Sat.gI h 237 5).bg 5 [2,3,0,1,4] rfl) ?_;rintro⟨k,Ao,co⟩ hk;dsimp only at hk ⊢;obtain⟨fs,hfs⟩:∃fs,fs=(gd.take k).filterMap C.aC.ko:=⟨_,rfl⟩;have hfl:fs.length≤19:=by rw[hfs];exact Nat.le_trans (length_filterMap_le _ _) (by rw[length_take];omega)
 rw[←hfs];refine aj "TZ" (aW (fun bA=> ?_) fun bA=> ?_)
 ·have hkg:k<gd.length:=ay;obtain⟨b,hb⟩:∃b,b=gd.getD k 0:=⟨_,rfl⟩;have Du:gd.take (k+1)=gd.take k++[b]:=by rw[take_add_one,getElem?_eq_getElem hkg,hb];simp[getD,hkg]
  have RS:(gd.take (k+1)).filterMap C.aC.ko=fs++(C.aC.ko b).toList:=by rw[Du,filterMap_append,←hfs];cases hsb:C.aC.ko b<;>simp[hsb]
  have RZ:∀ {X:List aH},Rd K (aV (.slice Ag gd.length cg) 3 1 gd.length (ints .i64 gd)::X) (Ag.map (·.add ((k:Int).toNat*1))) (.i b):=fun {X}=>by
   have h1:Seq K (aV (.slice Ag gd.length cg) 3 1 gd.length (ints .i64 gd)::X) Ag gd.length 1 (ints .i64 gd):=aV.seq (by rw[bR,Nat.mul_one]);have h2:=Seq.dD h1 (j:=(k:Int)) ay;rw[hb]
   rwa [show (k:Int).toNat=k by omega] at h2 ⊢
  have hbm:=aD.qB C.aC C.aC.g.bl.toNat b (by show b∈C.aC.dW;rw[←L9,hb];simp only[getD,getElem?_eq_getElem hkg];exact getElem_mem _);refine aj "Ia" ?_;refine WL.val (V.dw eB (ak rfl) (ak rfl) (fun hc=>by omega) (fun hc=>by repeat (first | exact RZ | apply Rd.up))) rfl ?_;refine WL.val (V.load isAgg3 (ak rfl) (fun hc=>by repeat (first | exact RZ | apply Rd.up))) rfl ?_;refine aj "Y" ?_;refine WL.c3 call90 rfl rfl rfl (xB hC hg b 0) rfl ?_;rintro _ _ ⟨Ad,cd,rfl,rfl⟩;obtain⟨G,hG⟩:∃G,G=C.aC.bY b 0:=⟨_,rfl⟩;have hGf:=hC.rQ b 0;have hsb:C.aC.ko b=if G.err≠0 then none else match jr g G.d with
   | none=>none
   | some h=>some ⟨b,h,(C.aC.mX b (1+g.bN h.len)).1⟩:=by unfold aD.ko;rw[←hG,show C.aC.g=g from hg]
  rw[←hG] at hGf ⊢;refine aj "~~g6~Mllfsb~e" (aW (fun h3=> ?_) fun h3=> ?_)
  ·rw[if_pos h3] at hsb;rw[hsb] at RS;refine aj "K7" ?_;refine⟨(k+1,Ao,co),hkg,(by show gd.length-(k+1)<gd.length-k;omega),.cons rfl (.cons rfl (.cons (look_eq rfl (by dsimp only;rw[RS];simp)) bC)),fun w h=> ?_⟩;dsimp only;rw[RS,Option.toList_none,append_nil];first
    | exact h.bg 6 [0,1,3,4,5] rfl
    | exact h.bg 7 [1,2,4,5,6] rfl
  ·rw[if_neg (fun h=>h ay)] at hsb;obtain⟨pe,ZF⟩:∃pe,pe=iR g G.d:=⟨_,rfl⟩;obtain⟨ph,hph⟩:∃ph,ph=gQ g G.d:=⟨_,rfl⟩;have qY:(pe≠0∧C.aC.ko b=none)∨(pe=0∧ph.may g=true∧C.aC.ko b=some ⟨b,ph,(C.aC.mX b (1+g.bN ph.len)).1⟩):=by
    unfold iR at ZF;unfold gQ at hph;cases hp:jr g G.d with
    | none =>
     rw[hp] at hsb ZF;exact .inl ⟨by rw[ZF];dsimp only;split<;>decide,hsb⟩
    | some h =>
     rw[hp] at hsb ZF hph;have anF:ph=h:=hph;subst anF;exact .inr ⟨ZF,(um yO hp).2.1,hsb⟩
   refine aj "9Bc" ?_;refine WL.t2 call91 rfl rfl (aK.eq (v':= .tuple #[ph.v,.i pe]) (IK (d:=G.d) yO (by repeat (first | exact aV.seq (by rw[au,Nat.mul_one]) | apply Seq.up)) hGf.1 ay) (by rw[hph,ZF])) rfl ?_;refine aj "6w" fun b13=> ?_;refine aj "~@fsb~e" (aW (fun h4=> ?_) fun h4=> ?_)
   ·rcases qY with ⟨_,Zd⟩ | ⟨h5,_⟩
    rotate_left
    ·exact absurd h5 h4
    rw[Zd] at RS;refine aj "K7" ?_;refine⟨(k+1,Ao,co),hkg,(by show gd.length-(k+1)<gd.length-k;omega),.cons rfl (.cons rfl (.cons (look_eq rfl (by dsimp only;rw[RS];simp)) bC)),fun w h=> ?_⟩;dsimp only;rw[RS,Option.toList_none,append_nil];first
     | exact h.bg 6 [0,1,3,4,5] rfl
     | exact h.bg 7 [1,2,4,5,6] rfl
   ·rcases qY with ⟨h5,_⟩ | ⟨_,Oj,RF⟩
    ·exact absurd ay h5
    rw[RF] at RS;have JG:=Oj;unfold Hd.may at JG;simp only[Bool.and_eq_true,decide_eq_true_eq] at JG;have JD:=JG.1.1.1.1;have hfb:=JD;unfold bQ.fits at hfb;simp only[Bool.and_eq_true,decide_eq_true_eq] at hfb;have FR:=bQ.vL yO;have RN:=bQ.kP yO;have JO:0≤g.bN ph.len∧g.bN ph.len≤1000000:=by
     unfold bQ.bN;exact⟨Int.ediv_nonneg ay ay,Int.le_trans (Int.ediv_le_self _ ay) ay⟩
    refine aj "9Bo" ?_;refine WL.t2 call92 rfl rfl (aK.eq (v':= .tuple #[.i (g.bN ph.len),.i 0]) (AL yO ay) (by rw[JD];rfl)) rfl ?_;refine aj "Djz$~~g" ?_;refine WL.c3 call126 rfl rfl rfl (vN hC hg b (1+g.bN ph.len) ay) rfl ?_;rintro _ _ ⟨rfl,rfl⟩;refine aj "DgP~~Ac" ?_;refine WL.val (V.build (vs:=[(0,_),(1,_),(2,_)]) ⟨ak rfl,ak rfl,ak rfl,trivial⟩ rfl (NW _ _ _ _ _)) rfl ?_;refine WL.buildSlice (E:=237) (cs:=[_,_,_,_,_]) (vs:=[(0,_)]) ⟨ak rfl,trivial⟩ rfl (Bj _ _ _ _ _) rfl (fun b74=> ?_);refine aj "~~T" ?_;refine WL.append (m:=fs.length) (q:=1) (news:=Fd.cells ⟨b,ph,(C.aC.mX b (1+g.bN ph.len)).1⟩) underlying170 aa6 (ak rfl) (ak rfl) (Seq.all rfl) (fun u hu=>by simpa using all_eq_true.1 (DC _) u hu) ay rfl rfl (fun A5 c5 Zu wQ=> ?_);refine aj "g7" ?_;refine⟨(k+1,A5,c5),hkg,(by show gd.length-(k+1)<gd.length-k;omega),.cons rfl (.cons rfl (.cons (look_eq rfl (by dsimp only;rw[RS,length_append];rfl)) bC)),fun w h=> ?_⟩;dsimp only;rw[RS,length_append,Option.toList_some,uW];exact h.bg 8 [2,3,0,6,7] rfl
 ·refine aj "KeC" ?_;obtain rfl:k=gd.length:=by omega
  have acM:fs=C.aC.dV:=by rw[hfs,take_of_length_le (Nat.le_refl _),alg]
  rw[←acM];exact aF.ret (H':=C.A bc::dA bd bc g::aV (.slice Ao fs.length co) 237 5 fs.length (dF fs)::F) (bJ.eU rfl rfl rfl) (fun w h=>h.bg 5 [0,1,2] rfl) ⟨Ao,co,rfl,rfl⟩
def xD(c:Fd→Fd→Int)(fs:List Fd):Nat→Fd
 | 0=>fs.getD 0 JF
 | i+1=>if 0<c (fs.getD (i+1) JF) (xD c fs i) then fs.getD (i+1) JF else xD c fs i
def wG(l:List Fd):Int:=match l.getLast? with | none=> -1 | some x=>x.block
def kT(aJ:Nat)(fs:List Fd):List Int:=(ji aJ fs).map fun l=>wG (eP (jU qK) l)
def pE(fs:List Fd):Int:=if fs.length=0 then 1 else (xD Kr fs (fs.length-1)).hd.num+1
def qy(aJ:Nat)(fs:List Fd):List (List Int):=(ji aJ fs).map fun l=>(eP (jU aaz) (eP (jU qK) l).dropLast).map Fd.block
theorem mY(aJ:Nat)(fs:List Fd):(kT aJ fs).length=aJ:=by grind [kT,length_map,Ct]
theorem sN(aJ:Nat)(fs:List Fd):(qy aJ fs).length=aJ:=by grind [qy,length_map,Ct]
structure bW where
 A:Option Addr
 c:Nat
 l:List Int
abbrev bW.v(x:bW):Value:= .slice x.A x.l.length x.c
def bW.row(x:bW):aH:=aV (.slice x.A x.l.length x.c) 3 1 x.l.length (ints .i64 x.l)
def ir0:bW:=⟨none,0,[]⟩
theorem Rd.xM(hA:A∈l)(h:Rd K [A] p v):Rd K (bK l::H) p v:=fun w hw=>h w (hw.amR hA)
theorem bX.rd{r:bX}{v:Value}(hi:r.l[i]? =some x)(hj:x.cells[j]? =some v):Rd K [r.row] (r.A.map (·.add (i*5+j))) v:=by
 have h:Seq K [r.row] r.A r.l.length 5 (dF r.l):=aV.seq (gT _);exact CP h hi hj
theorem XT(hf:FI f c)(hs:Seq K F A n 5 (dF fs))(hn:fs.length=n)(h0:0<n)(hn2:n≤1000000) :
 aK prog 165 #[.slice A n cap,.func (.func f) #[] #[]] K F (xD c fs (n-1)).v:=by
 have UW:∀ {X:List aH} (k:Nat),k<n→(∀w,Sat K w X→Sat K w F)→∀(j:Nat) v,(fs.getD k JF).cells[j]? =some v→Rd K X (A.map (·.add (k*5+j))) v:=fun k hk hX j v hj=>by
  have hx:fs[k]? =some (fs.getD k JF):=by simp[getD,show k<fs.length by omega]
  exact CP (hs.sat hX) hx hj
 have nD:∀ {X:aH} {Y:List aH},(∀w,Sat K w Y→Sat K w F)→∀w,Sat K w (X::Y)→Sat K w F:=fun h w hw=>h w hw.tail;refine aB.en func165 ntmps165 ?_;refine aj "aw" fun b4=> ?_;refine aj "brk4b" ?_;refine WC.ni rfl ((decide_eq_false ay)) (aj "U" ?_);refine WL.val (V.aG (v':=sp A (0*5)) (V.dw zX (ak rfl) (ak rfl) (fun hc=>by omega) (fun hc=>by rw[show ((0:Int)).toNat=0 from rfl];exact UW 0 h0 (by repeat (first | exact cO | apply nD)) 0 _ rfl)) (fun _=>rfl)) rfl ?_;refine WL.val (V.tX (vs:=(fs.getD 0 JF).cells) ⟨isAgg237,sizeOf237⟩ (ak rfl) rfl aN (fun _ j v hj=>by exact UW 0 h0 (by repeat (first | exact cO | apply nD)) j v hj)) rfl ?_;refine aj "w" fun b5=> ?_;refine aj "EFagt" ?_;refine WC.loop (σ:=Nat) (fun i=>[(0,.slice A n cap),(1,.func (.func f) #[] #[]),(4,ptr b4 0),(5,ptr b5 0),(6,.i ((i+1:Nat):Int))]) (fun i=>ah b5 237 (xD c fs i).cells::ah b4 237 [.i 0,.i 0,.i 0,.i 0,.bool false]::F) (fun i=>i<n) (fun i=>n-i) 0 h0 bC cO ?_;rintro i hi;obtain⟨m,hm⟩:∃m,m=xD c fs i:=⟨_,rfl⟩;rw[←hm];refine aj "rck4bZ" (aW (fun aQ=> ?_) fun aQ=> ?_)
 ·have hi1:i+1<n:=ay;obtain⟨x,hx⟩:∃x,x=fs.getD (i+1) JF:=⟨_,rfl⟩;have Bv:(((i+1:Nat):Int)).toNat=i+1:=ay;have hxe:∀ {X:List aH},(∀w,Sat K w X→Sat K w F)→∀(j:Nat) v,x.cells[j]? =some v→Rd K X (A.map (·.add ((i+1)*5+j))) v:=fun hX j v hj=>UW (i+1) hi1 hX j v (by rw[←hx];exact hj);have dL:xD c fs (i+1)=if 0<c x m then x else m:=by rw[xD,←hx,←hm]
  refine aj "IM~k&&&" ?_;refine WQ.val (V.aG (v':=sp A ((i+1)*5)) (V.dw zX (ak rfl) (ak rfl) (fun hc=>by omega) (fun hc=>by rw[Bv];exact hxe (by repeat (first | exact cO | apply nD)) 0 _ rfl)) (fun _=>by rw[Bv])) rfl ?_;refine WQ.val (V.tX (vs:=x.cells) ⟨isAgg237,sizeOf237⟩ (ak rfl) rfl aN (fun _ j v hj=>by exact hxe (by repeat (first | exact cO | apply nD)) j v hj)) rfl ?_;refine aj "~~B" ?_;refine WQ.ny (first:=[]) (vs:=[_,_]) (captured:=[]) hf.1 (ak rfl) ⟨ak rfl,ak rfl,trivial⟩ (hf.2 _ _ x m) rfl ?_;refine aj "~_~fZ" (aW (fun h2=> ?_) fun h2=> ?_)
  ·rw[if_pos h2] at dL;refine aj "P" ?_;refine WL.val (V.aG (v':=sp A ((i+1)*5)) (V.dw zX (ak rfl) (ak rfl) (fun hc=>by omega) (fun hc=>by rw[Bv];exact hxe (by repeat (first | exact cO | apply nD)) 0 _ rfl)) (fun _=>by rw[Bv])) rfl ?_;refine WL.val (V.tX (vs:=x.cells) ⟨isAgg237,sizeOf237⟩ (ak rfl) rfl aN (fun _ j v hj=>by exact hxe (by repeat (first | exact cO | apply nD)) j v hj)) rfl ?_;refine WL.store (cs:=x.cells) sizeOf237 (ak rfl) (ak rfl) rfl rfl rfl (by repeat (first | exact bT.here (cs':=[_,_,_,_,_]) rfl rfl | apply bT.up)) ?_;refine aj "bh$X" ?_;refine⟨i+1,hi1,(by show n-(i+1)<n-i;omega),.cons rfl bC,fun w h=> ?_⟩;dsimp only;rw[dL];exact h
  ·rw[if_neg ay] at dL;refine aj "qh$X" ?_;refine⟨i+1,hi1,(by show n-(i+1)<n-i;omega),.cons rfl bC,fun w h=> ?_⟩;dsimp only;rw[dL];exact h
 ·refine aj "KaB~K2" ?_;obtain rfl:i=n-1:=by omega
  rw[←hm];exact aF.normal (H':=F) (bJ.one rfl (R1.jQ (vs:=[_,_,_,_,_]) rfl ⟨isAgg237,sizeOf237⟩ rfl tN)) (fun w h=>h.drop 2) ⟨rfl,rfl⟩
theorem Mk(hl:1≤aJ∧aJ≤64)(hs:Seq K F A n 5 (dF fs))(hn:fs.length=n)(h20:n<1000)(UU:∀aS,aS<aJ→Uh 164 qK (fs.filter (nE aS)))(NC:∀x∈fs,x.hd.num≤1000000001∧0≤x.hd.num) :
 aB prog 101 #[.i (aJ:Int),.slice A n cap] K F
  (fun v H'=>∃A' c',v= .tuple #[.slice A' aJ c',.i (pE fs),.i 0]∧H'=aV (.slice A' aJ c') 3 1 aJ (ints .i64 (kT aJ fs))::F):=by
 obtain⟨pk,hpk⟩:∃pk,pk=kT aJ fs:=⟨_,rfl⟩;have l7:pk.length=aJ:=by rw[hpk];exact mY _ _
 refine aB.en func101 ntmps101 ?_;refine aj "allY" ?_;refine WL.c3 call163 rfl rfl rfl (zP yg hl hs hn h20 UU) rfl ?_;rintro _ _ ⟨bo,rs,pG,tu,rfl,rfl⟩;have hpr:∀j r,rs[j]? =some r→pk.getD j 0=wG r.l∧j<aJ:=fun j r hj=>by
  have h1:(rs.map bX.l)[j]? =some r.l:=by rw[getElem?_map,hj];rfl
  have BF:j<aJ:=by rw[←pG];exact (List.getElem?_eq_some_iff.1 hj).1
  refine⟨?_,BF⟩;rw[tu] at h1;simp only[getElem?_map,ji,getElem?_range BF,Option.map_some] at h1;injection h1 with h1
  rw[hpk];unfold kT;simp only[getD,getElem?_map,ji,getElem?_range BF,Option.map_some,Option.getD_some];rw[h1]
 refine aj "Dfs39fkN" ?_;refine WC.loop (σ:=Nat×Option Addr×Nat) (fun s=>[(1,.slice A n cap),(9,.slice s.2.1 s.1 s.2.2),(22,.slice (some ⟨bo,0,none⟩) aJ aJ),(23,.i (aJ:Int)),(24,.i (s.1:Int))]) (fun s=>aV (.slice s.2.1 s.1 s.2.2) 3 1 s.1 (ints .i64 (pk.take s.1))::ah bo 170 (rs.map bX.v)::bK (rs.map bX.row)::F) (fun s=>s.1≤aJ) (fun s=>aJ-s.1) (0,none,0) (zero_le _) bC (fun w h=>Sat.gI h _ _) ?_;rintro⟨j,Ao,co⟩ hj;dsimp only at hj ⊢;refine aj "TZ" (aW (fun aQ=> ?_) fun aQ=> ?_)
 ·have BF:j<aJ:=ay;obtain⟨r,hr⟩:∃r,rs[j]? =some r:=⟨_,getElem?_eq_getElem ay⟩;have hvg:(rs.map bX.v)[0+((j:Nat):Int).toNat*1]? =some r.v:=by rw[show 0+((j:Nat):Int).toNat*1=j by omega,getElem?_map,hr];rfl
  have uH:r.row∈rs.map bX.row:=mem_map.2 ⟨r,mem_of_getElem? hr,rfl⟩;have Du:pk.take (j+1)=pk.take j++[wG r.l]:=by rw[take_add_one,getElem?_eq_getElem ay,←(hpr j r hr).1];simp[getD,show j<pk.length by omega]
  refine aj "Ia~r" ?_;refine WL.val (V.load isAgg170 (ak rfl) (fun _=>by repeat (first | exact Rd.here hvg | apply Rd.up))) rfl ?_;refine aj "jk:bZ" (aW (fun h2=> ?_) fun h2=> ?_)
  ·have L6:wG r.l= -1:=by
    have :r.l=[]:=eq_nil_of_length_eq_zero ay;unfold wG;rw[this];rfl
   refine aj "h" ?_;refine WL.buildSlice (E:=3) (cs:=[_]) (vs:=[(0,_)]) ⟨ak rfl,trivial⟩ rfl (dJ _) rfl (fun b32=> ?_);refine aj "?" ?_;refine WL.append (m:=j) (q:=1) (news:=[.i (-1)]) underlying124 Me (ak rfl) (ak rfl) (Seq.all rfl) (by intro u hu;rw[mem_singleton.1 hu];rfl) ay rfl rfl (fun A5 c5 Zu wQ=> ?_);refine aj "g7" ?_;refine⟨(j+1,A5,c5),BF,(by show aJ-(j+1)<aJ-j;omega),.cons rfl bC,fun w h=> ?_⟩;dsimp only;rw[Du,L6,gY];exact h.bg 2 [0] rfl
  ·obtain⟨x,hx⟩:∃x,r.l[r.l.length-1]? =some x:=⟨_,getElem?_eq_getElem ay⟩;have L6:wG r.l=x.block:=by unfold wG;rw[getLast?_eq_getElem?,hx]
   have hrx:∀(i:Nat) v,x.cells[i]? =some v→∀ {X:List aH},Rd K (bK (rs.map bX.row)::X) (r.A.map (·.add ((r.l.length-1)*5+i))) v:=fun i v hi X=>Rd.xM uH (bX.rd hx hi);have hri:((r.l.length:Int)-1).toNat=r.l.length-1:=ay;have ang:r.l.length≤1000000:=by
    have h3:(rs.map bX.l)[j]? =some r.l:=by rw[getElem?_map,hr];rfl
    rw[tu] at h3;simp only[ji,getElem?_map,getElem?_range BF,Option.map_some] at h3;injection h3 with h3
    rw[←h3,iO];exact Nat.le_trans (length_filter_le _ _) ay
   refine aj "hzk[" ?_;refine WL.val (V.aG (v':=sp r.A ((r.l.length-1)*5)) (V.dw zX (ak rfl) (ak rfl) (fun hc=>by omega) (fun hc=>by rw[hri];repeat (first | exact hrx 0 _ rfl | apply Rd.up))) (fun _=>by rw[hri])) rfl ?_;refine WL.val (V.uY (k':=(r.l.length-1)*5) Vv (ak rfl) (fun _=>by repeat (first | exact hrx 0 _ rfl | apply Rd.up))) rfl ?_;refine WL.val (V.load isAgg3 (ak rfl) (fun _=>by repeat (first | exact hrx 0 _ rfl | apply Rd.up))) rfl ?_;refine WL.buildSlice (E:=3) (cs:=[_]) (vs:=[(0,_)]) ⟨ak rfl,trivial⟩ rfl (dJ _) rfl (fun b42=> ?_);refine aj "?" ?_;refine WL.append (m:=j) (q:=1) (news:=[.i x.block]) underlying124 Me (ak rfl) (ak rfl) (Seq.all rfl) (by intro u hu;rw[mem_singleton.1 hu];rfl) ay rfl rfl (fun A5 c5 Zu wQ=> ?_);refine aj "g7" ?_;refine⟨(j+1,A5,c5),BF,(by show aJ-(j+1)<aJ-j;omega),.cons rfl bC,fun w h=> ?_⟩;dsimp only;rw[Du,L6,gY];exact h.bg 2 [0] rfl
 ·refine aj "WM" ?_;obtain rfl:j=aJ:=by omega
  rw[take_of_length_le ay,hpk];refine WC.sub (Sub.refl _) (fun w h=>h.bg 3 [0] rfl) ?_;refine aj "hk:bZ" (aW (fun h3=> ?_) fun h3=> ?_)
  ·have Zk:pE fs=1:=by unfold pE;rw[if_pos ay]
   refine aj "elC" ?_;rw[Zk];exact aF.ret (H':=aV (.slice Ao j co) 3 1 j (ints .i64 (kT j fs))::F) (bJ.Bl rfl rfl rfl rfl) cO ⟨Ao,co,rfl,rfl⟩
  ·have Zk:pE fs=(xD Kr fs (n-1)).hd.num+1:=by unfold pE;rw[if_neg ay,hn]
   have uH:∀k,k<n→xD Kr fs k∈fs:=fun k=>by
    induction k with
    | zero=>intro hk;show fs.getD 0 JF∈fs;simp only[getD,getElem?_eq_getElem (show 0<fs.length by omega)];exact getElem_mem _
    | succ k ih =>
     intro hk;rw[xD];split
     ·simp only[getD,getElem?_eq_getElem (show k+1<fs.length by omega)];exact getElem_mem _
     ·exact ih ay
   have JG:=NC _ (uH (n-1) ay);refine aj "U" ?_;refine WL.t2 call165 rfl rfl (XT abK (by repeat (first | exact hs | apply Seq.up)) hn ay ay) rfl ?_;refine aj "w" fun b12=> ?_;refine aj "EF~k&~y~y~G~~p~n~n~n~f~C" ?_;rw[Zk];exact aF.ret (H':=aV (.slice Ao j co) 3 1 j (ints .i64 (kT j fs))::F) (bJ.Bl rfl rfl rfl rfl) (fun w h=>h.drop 1) ⟨Ao,co,rfl,rfl⟩
theorem Qr{aJ:Nat}(hl:1≤aJ∧aJ≤64)(hs:Seq K F A n 5 (dF fs))(hn:fs.length=n)(h20:n<20)(NC:∀x∈fs,x.hd.num≤1000000001∧0≤x.hd.num) :
 aB prog 101 #[.i (aJ:Int),.slice A n cap] K F
  (fun v H'=>∃A' c',v= .tuple #[.slice A' aJ c',.i (pE fs),.i 0]∧H'=aV (.slice A' aJ c') 3 1 aJ (ints .i64 (kT aJ fs))::F) :=
 Mk hl hs hn ay (fun aS _ _ _ _ _=>AV yg rfl (Nat.lt_of_le_of_lt (length_filter_le _ _) ay)) NC
theorem abI(hm:l.length=m)(h0:0<m):∀w,Sat K w (aV (.slice A m cap) 237 5 m (dF l)::F)→Sat K w (aV (.slice A (m-1) cap) 237 5 (m-1) (dF l.dropLast)::F):=fun w h=>by
 cases A with
 | none=>have :=(aV.yM h).1;omega
 | some a =>
  obtain⟨g,rfl⟩:=aV.addr h;obtain⟨r,⟨h1,h2,h3,h4⟩,h5⟩:=Sat.nU h;have h6:=Sat.BX (m:=m-1) (cap:=cap) (s:=5) h5 h1 ay h4;have pq:l≠[]:=fun e=>by rw[e] at hm;simp at hm;omega
  have e1:dF l=dF l.dropLast++(l.getLast pq).cells:=by
   conv=>lhs;rw[←dropLast_concat_getLast pq]
   exact uW _ _
  have e2:(dF l++r).take ((m-1)*5)=dF l.dropLast:=by
   rw[e1,append_assoc,take_left'];rw[gT,length_dropLast,hm]
  rw[e2] at h6;exact h6
theorem Mx{aJ:Nat}(hl:1≤aJ∧aJ≤64)(hs:Seq K F A n 5 (dF fs))(hn:fs.length=n)(h20:n<20) :
 aB prog 102 #[.i (aJ:Int),.slice A n cap] K F
  (fun v H'=>∃b8:Nat,∃fA:List bW,fA.length=aJ∧fA.map bW.l=qy aJ fs∧v= .tuple #[.slice (some ⟨b8,0,none⟩) aJ aJ,.i 0]∧H'=ah b8 124 (fA.map bW.v)::bK (fA.map bW.row)::F):=by
 obtain⟨st,dL⟩:∃st,st=qy aJ fs:=⟨_,rfl⟩;have qU:st.length=aJ:=by rw[dL];exact sN _ _
 rw[←dL];refine aB.en func102 ntmps102 ?_;refine aj "alY" ?_;refine WL.c3 call163 rfl rfl rfl (MJ yg hl hs hn h20) rfl ?_;rintro _ _ ⟨bo,rs,pG,tu,rfl,rfl⟩;have hpr:∀j r,rs[j]? =some r→st.getD j []=(eP (jU aaz) r.l.dropLast).map Fd.block∧j<aJ∧r.l.length≤19:=fun j r hj=>by
  have h1:(rs.map bX.l)[j]? =some r.l:=by rw[getElem?_map,hj];rfl
  have BF:j<aJ:=by rw[←pG];exact (List.getElem?_eq_some_iff.1 hj).1
  rw[tu] at h1;simp only[getElem?_map,ji,getElem?_range BF,Option.map_some] at h1;injection h1 with h1
  refine⟨?_,BF, ?_⟩
  ·rw[dL];unfold qy;simp only[getD,getElem?_map,ji,getElem?_range BF,Option.map_some,Option.getD_some];rw[h1]
  ·rw[←h1,iO];exact Nat.le_trans (length_filter_le _ _) ay
 refine aj "Dfs3U" ?_;refine WL.nM (m:=aJ) underlying125 akd (ak rfl) (ak rfl) rfl rfl ay rfl rfl rfl (fun b8=> ?_);refine aj "fkN" ?_;refine WC.loop (σ:=Nat×List bW) (fun s=>[(8,.slice (some ⟨b8,0,none⟩) aJ aJ),(24,.slice (some ⟨bo,0,none⟩) aJ aJ),(25,.i (aJ:Int)),(26,.i (s.1:Int))]) (fun s=>ah b8 124 (s.2.map bW.v)::bK (s.2.map bW.row)::ah bo 170 (rs.map bX.v)::bK ((rs.drop s.1).map bX.row)::F) (fun s=>s.1≤aJ∧s.2.length=aJ∧s.2.map bW.l=st.take s.1++replicate (aJ-s.1) []) (fun s=>aJ-s.1) (0,replicate aJ ir0) ⟨zero_le _,length_replicate,by
  rw[map_replicate];rfl⟩ bC (fun w h=>by
  dsimp only;rw[map_replicate,map_replicate];have key:∀m,∀H,Sat K w H→Sat K w (replicate m ir0.row++H):=fun m=>by
   induction m with
   | zero=>intro H h;exact h
   | succ m ih=>intro H h;exact Sat.gI (ih H h) _ _
  have h1:Sat K w (replicate aJ ir0.row++(ah b8 124 (replicate aJ ir0.v)::ah bo 170 (rs.map bX.v)::bK (rs.map bX.row)::F)):=key aJ _ h;exact (Sat.all h1).p1) ?_
 rintro⟨j,fA⟩ ⟨hj,GQ,ZA⟩;dsimp only at hj GQ ZA ⊢;refine aj "TZ" (aW (fun aQ=> ?_) fun aQ=> ?_)
 ·have BF:j<aJ:=ay;obtain⟨r,hr⟩:∃r,r=rs[j]'ay:=⟨_,rfl⟩;have RZ:rs[j]? =some r:=by rw[hr];exact getElem?_eq_getElem ay
  obtain⟨hpv,_,ang⟩:=hpr j r RZ;have hvg:(rs.map bX.v)[0+((j:Nat):Int).toNat*1]? =some r.v:=by rw[show 0+((j:Nat):Int).toNat*1=j by omega,getElem?_map,RZ];rfl
  have JI:rs.drop j=r::rs.drop (j+1):=by rw[hr];exact drop_eq_getElem_cons ay
  have Du:st.take (j+1)=st.take j++[st.getD j []]:=by rw[take_add_one,getElem?_eq_getElem ay];simp[getD,show j<st.length by omega]
  have ahU:replicate (aJ-j) ([]:List Int)=[]::replicate (aJ-(j+1)) []:=by rw[show aJ-j=(aJ-(j+1))+1 by omega,replicate_succ]
  have aef:(st.take j).length=j:=by rw[length_take];omega
  refine aj "1~r" ?_;refine WL.val (V.load isAgg170 (ak rfl) (fun _=>by repeat (first | exact Rd.here hvg | apply Rd.up))) rfl ?_;refine aj "lfk:bZ" (aW (fun h2=> ?_) fun h2=> ?_)
  ·have RB:r.l=[]:=eq_nil_of_length_eq_zero ay;have hsj:st.getD j []=[]:=by rw[hpv,RB];rfl
   refine aj "K7" ?_;refine⟨(j+1,fA),⟨BF,GQ, ?_⟩,(by show aJ-(j+1)<aJ-j;omega),.cons rfl bC,fun w h=> ?_⟩
   ·show fA.map bW.l=_;rw[ZA,Du,hsj,ahU,append_assoc];rfl
   ·rw[JI,map_cons] at h;have h4:=Sat.FQ (k:=0) (by simp) (h.bg 4 [3,0,1,2] rfl);have h5:Sat K w (r.row::bK ((rs.drop (j+1)).map bX.row)::ah b8 124 (fA.map bW.v)::bK (fA.map bW.row)::ah bo 170 (rs.map bX.v)::F):=h4;exact h5.bg 5 [2,3,4,1] rfl
  ·have afv:0<r.l.length:=ay;obtain⟨ll,hll⟩:∃ll,ll=eP (jU aaz) r.l.dropLast:=⟨_,rfl⟩;have anN:ll.length=r.l.length-1:=by rw[hll,iO,length_dropLast]
   have hsj:st.getD j []=ll.map Fd.block:=by rw[hpv,hll]
   refine WC.sub (H':=aV (.slice r.A (r.l.length-1) r.c) 237 5 (r.l.length-1) (dF r.l.dropLast)::ah b8 124 (fA.map bW.v)::bK (fA.map bW.row)::ah bo 170 (rs.map bX.v)::bK ((rs.drop (j+1)).map bX.row)::F) (Sub.refl _) (fun w h=>by
    rw[JI,map_cons] at h;have h4:=Sat.FQ (k:=0) (by simp) (h.bg 4 [3,0,1,2] rfl);have h5:Sat K w (r.row::bK ((rs.drop (j+1)).map bX.row)::ah b8 124 (fA.map bW.v)::bK (fA.map bW.row)::ah bo 170 (rs.map bX.v)::F):=h4;exact (abI (l:=r.l) rfl afv w h5).bg 5 [0,2,3,4,1] rfl) ?_
   refine aj "," ?_;refine WC.lG (p:=r.l.length-1≤r.c) (fun w h=>by
    obtain⟨_,cap',hv,hle,_⟩:=aV.shape h.head;injection hv with _ _ e3
    rw[e3];exact hle) (fun JJ=> ?_)
   refine aj "Pk[" ?_;refine WL.val (V.aG (v':= .slice r.A (r.l.length-1) r.c) (V.slice (l:=0) (h:=r.l.length-1) (u:=r.c) zX (ak rfl) OO.none (OO.some (ak rfl) (fun _=>by omega)) OO.none (by simp) (zero_le _) JJ (Nat.le_refl _)) (fun _=>by rw[Nat.sub_zero,Nat.sub_zero,zK])) rfl ?_;refine aj "j" ?_;refine WL.c2 call168 rfl rfl (AV Yq (by rw[length_dropLast]) ay) rfl ?_;rintro v0 H0 h0;refine WL.sub (H':=aV (.slice r.A (r.l.length-1) r.c) 237 5 (r.l.length-1) (dF ll)::ah b8 124 (fA.map bW.v)::bK (fA.map bW.row)::ah bo 170 (rs.map bX.v)::bK ((rs.drop (j+1)).map bX.row)::F) (Sub.refl _) (fun w h=>by rw[hll];exact h0 w h) ?_;refine aj "F" ?_;have hnj:(fA.map bW.l)[j]? =some []:=by rw[ZA,getElem?_append_right ay,aef,Nat.sub_self,ahU];rfl
   have aoh:∀ {X:List aH} (k:Nat) (x:Fd),ll[k]? =some x→∀i v,x.cells[i]? =some v→Rd K (aV (.slice r.A (r.l.length-1) r.c) 237 5 (r.l.length-1) (dF ll)::X) (r.A.map (·.add (k*5+i))) v:=fun {X} k x hk i v hi=>by
    have h9:Seq K (aV (.slice r.A (r.l.length-1) r.c) 237 5 (r.l.length-1) (dF ll)::X) r.A (r.l.length-1) 5 (dF ll):=aV.seq (by rw[gT,anN]);exact CP h9 hk hi
   refine aj "hkN" ?_;refine WC.loop (σ:=Nat×List bW) (fun s=>[(8,.slice (some ⟨b8,0,none⟩) aJ aJ),(9,.i (j:Int)),(24,.slice (some ⟨bo,0,none⟩) aJ aJ),(25,.i (aJ:Int)),(26,.i (j:Int)),(41,.slice r.A (r.l.length-1) r.c),(42,.i ((r.l.length-1:Nat):Int)),(43,.i (s.1:Int))]) (fun s=>aV (.slice r.A (r.l.length-1) r.c) 237 5 (r.l.length-1) (dF ll)::ah b8 124 (s.2.map bW.v)::bK (s.2.map bW.row)::ah bo 170 (rs.map bX.v)::bK ((rs.drop (j+1)).map bX.row)::F) (fun s=>s.1≤r.l.length-1∧s.2.length=aJ∧s.2.map bW.l=st.take j++((ll.take s.1).map Fd.block::replicate (aJ-(j+1)) [])) (fun s=>r.l.length-1-s.1) (0,fA) ⟨zero_le _,GQ,by rw[ZA,ahU];rfl⟩ bC cO ?_;rintro⟨k,GD⟩ ⟨hk,Ki,U7⟩;dsimp only at hk Ki U7 ⊢;refine aj "TZ" (aW (fun eu=> ?_) fun eu=> ?_)
   ·have vX:k<r.l.length-1:=ay;obtain⟨x,hx⟩:∃x,ll[k]? =some x:=⟨_,getElem?_eq_getElem ay⟩;have hxr:=fun {X:List aH} i v hi=>aoh (X:=X) k x hx i v hi;have Bv:(k:Int).toNat=k:=ay;have hlk:ll.take (k+1)=ll.take k++[x]:=by rw[take_add_one,hx];rfl
    obtain⟨q,hq⟩:∃q,q=GD[j]'ay:=⟨_,rfl⟩;have hqg:GD[j]? =some q:=by rw[hq];exact getElem?_eq_getElem ay
    have agE:q.l=(ll.take k).map Fd.block:=by
     have h3:(GD.map bW.l)[j]? =some q.l:=by rw[getElem?_map,hqg];rfl
     rw[U7,getElem?_append_right ay,aef,Nat.sub_self] at h3;injection h3 with h3
     exact h3.symm
    have hqb:q.l.length≤20:=by rw[agE,length_map,length_take];omega
    have aaq:(GD.map bW.row)[j]'(by rw[length_map];omega)=q.row:=by rw[getElem_map,hq]
    have hqv:(GD.map bW.v)[0+(j:Int).toNat*1]? =some q.v:=by rw[show 0+((j:Nat):Int).toNat*1=j by omega,getElem?_map,hqg];rfl
    refine aj "Ia" ?_;refine WL.val (V.aG (v':=sp r.A (k*5)) (V.dw zX (ak rfl) (ak rfl) (fun hc=>by omega) (fun hc=>by rw[Bv];repeat (first | exact hxr 0 _ rfl | apply Rd.up))) (fun _=>by rw[Bv])) rfl ?_;refine WL.val (V.tX (vs:=x.cells) ⟨isAgg237,sizeOf237⟩ (ak rfl) rfl aN (fun _ i v hi=>by repeat (first | exact hxr i v hi | apply Rd.up))) rfl ?_;refine aj "w" fun b12=> ?_;refine aj "Eb" ?_;refine WC.sub (H':=aV (.slice q.A q.l.length q.c) 3 1 q.l.length (ints .i64 q.l)::ah b8 124 (GD.map bW.v)::bK ((GD.map bW.row).eraseIdx j)::ah b12 237 x.cells::aV (.slice r.A (r.l.length-1) r.c) 237 5 (r.l.length-1) (dF ll)::ah bo 170 (rs.map bX.v)::bK ((rs.drop (j+1)).map bX.row)::F) (Sub.refl _) (fun w h=>by
     have h4:=Sat.FQ (k:=j) (by rw[length_map];omega) (h.bg 4 [3,2,0,1] rfl);rw[aaq] at h4;exact h4.bg 5 [0,2,1,3,4] rfl) ?_
    refine WC.dM (bK ((GD.map bW.row).eraseIdx j)::ah b12 237 x.cells::aV (.slice r.A (r.l.length-1) r.c) 237 5 (r.l.length-1) (dF ll)::ah bo 170 (rs.map bX.v)::bK ((rs.drop (j+1)).map bX.row)::F) (by kernel_rfl) ?_;refine aj "m0m1m2m3~c406(7" ?_;refine WA.two (i:=5) (j:=8) eO (by kernel_rfl) rfl rfl ?_ ?_
    ·refine WL.val (V.load isAgg124 (ak rfl) (fun _=>by repeat (first | exact Rd.here hqv | apply Rd.up))) rfl ?_;refine aj "bn8" ?_;refine WL.buildSlice (E:=3) (cs:=[_]) (vs:=[(0,_)]) ⟨ak rfl,trivial⟩ rfl (dJ _) rfl (fun b55=> ?_);refine aj "bn9?" ?_;refine WL.append (m:=q.l.length) (q:=1) (news:=[.i x.block]) underlying124 Me (ak rfl) (ak rfl) (Seq.all rfl) (by intro u hu;rw[mem_singleton.1 hu];rfl) ay rfl rfl (fun A5 c5 Zu wQ=> ?_);refine aj "b~c:n;" ?_;refine WL.store (cs:=[_]) sizeOf124 (ak rfl) (ak rfl) rfl rfl rfl (bT.up (bT.up (bT.at_ (by rw[length_map];omega)))) ?_;refine aj "bO7" ?_;refine⟨(k+1,GD.set j ⟨A5,c5,q.l++[x.block]⟩),⟨vX,by show (GD.set _ _).length=aJ;rw[length_set];exact Ki, ?_⟩,(by show r.l.length-1-(k+1)<r.l.length-1-k;omega),.cons rfl bC,fun w h=> ?_⟩
     ·show (GD.set j _).map bW.l=_;rw[map_set,U7,set_append_right _ _ ay,aef,Nat.sub_self,set_cons_zero,hlk,map_append,←agE];rfl
     ·have h5:=h.bg 5 [0,3,2,4] rfl;have e1:aV (.slice A5 (q.l.length+1) c5) 3 1 (q.l.length+1) (ints .i64 q.l++[.i x.block])=bW.row ⟨A5,c5,q.l++[x.block]⟩:=by
       unfold bW.row;rw[gY,length_append];rfl
      rw[e1] at h5;have h6:=Sat.Na (l:=GD.map bW.row) (k:=j) (by rw[length_map];omega) h5;have e2:(GD.map bW.v).set (0+(j:Int).toNat*1) (.slice A5 (q.l.length+1) c5)=(GD.set j ⟨A5,c5,q.l++[x.block]⟩).map bW.v:=by
       rw[show 0+((j:Nat):Int).toNat*1=j by omega,map_set];show _=(GD.map bW.v).set j (.slice A5 (q.l++[x.block]).length c5);rw[length_append];rfl
      rw[e2,←map_set] at h6;exact h6.bg 4 [3,1,0] rfl
    ·refine WL.buildSlice (E:=3) (cs:=[_]) (vs:=[(0,_)]) ⟨ak rfl,trivial⟩ rfl (dJ _) rfl (fun b55=> ?_);refine aj "bn5" ?_;refine WL.val (V.load isAgg124 (ak rfl) (fun _=>by repeat (first | exact Rd.here hqv | apply Rd.up))) rfl ?_;refine aj "bn9?" ?_;refine WL.append (m:=q.l.length) (q:=1) (news:=[.i x.block]) underlying124 Me (ak rfl) (ak rfl) (Seq.all rfl) (by intro u hu;rw[mem_singleton.1 hu];rfl) ay rfl rfl (fun A5 c5 Zu wQ=> ?_);refine aj "b~c:n;" ?_;refine WL.store (cs:=[_]) sizeOf124 (ak rfl) (ak rfl) rfl rfl rfl (bT.up (bT.up (bT.at_ (by rw[length_map];omega)))) ?_;refine aj "bO7" ?_;refine⟨(k+1,GD.set j ⟨A5,c5,q.l++[x.block]⟩),⟨vX,by show (GD.set _ _).length=aJ;rw[length_set];exact Ki, ?_⟩,(by show r.l.length-1-(k+1)<r.l.length-1-k;omega),.cons rfl bC,fun w h=> ?_⟩
     ·show (GD.set j _).map bW.l=_;rw[map_set,U7,set_append_right _ _ ay,aef,Nat.sub_self,set_cons_zero,hlk,map_append,←agE];rfl
     ·have h5:=h.bg 5 [0,3,2,4] rfl;have e1:aV (.slice A5 (q.l.length+1) c5) 3 1 (q.l.length+1) (ints .i64 q.l++[.i x.block])=bW.row ⟨A5,c5,q.l++[x.block]⟩:=by
       unfold bW.row;rw[gY,length_append];rfl
      rw[e1] at h5;have h6:=Sat.Na (l:=GD.map bW.row) (k:=j) (by rw[length_map];omega) h5;have e2:(GD.map bW.v).set (0+(j:Int).toNat*1) (.slice A5 (q.l.length+1) c5)=(GD.set j ⟨A5,c5,q.l++[x.block]⟩).map bW.v:=by
       rw[show 0+((j:Nat):Int).toNat*1=j by omega,map_set];show _=(GD.map bW.v).set j (.slice A5 (q.l++[x.block]).length c5);rw[length_append];rfl
      rw[e2,←map_set] at h6;exact h6.bg 4 [3,1,0] rfl
   ·refine aj "K7" ?_;refine⟨(j+1,GD),⟨BF,Ki, ?_⟩,(by show aJ-(j+1)<aJ-j;omega),.cons rfl bC,fun w h=>h.bg 1 [] rfl⟩;obtain rfl:k=r.l.length-1:=by omega
    show GD.map bW.l=_;rw[U7,Du,hsj,take_of_length_le (l:=ll) ay,append_assoc];rfl
 ·refine aj "KeC" ?_;obtain rfl:j=aJ:=by omega
  refine aF.ret (H':=ah b8 124 (fA.map bW.v)::bK (fA.map bW.row)::F) (bJ.eU rfl rfl rfl) (fun w h=>h.bg 4 [0,1] rfl) ⟨b8,fA,GQ, ?_,rfl,rfl⟩;rw[ZA,take_of_length_le ay,Nat.sub_self,replicate_zero,append_nil]
structure St where
 stands:List Int
 cu:List (List Int)
 (next at_:Int)
 dead:Bool
def oh(S:aD)(aJ:Nat):St:=⟨kT aJ S.dV,qy aJ S.dV,pE S.dV,0,false⟩
namespace St
def ready(T:St)(aS:Int):Int:=if T.dead then 70 else if aS<0∨(T.stands.length:Int)≤aS then 1 else 0
def told(T:St)(e:Int):St:= { T with dead:=T.dead||decide (e=70) }
def lF(T:St)(aS:Int):Int:=T.stands.getD aS.toNat 0
end St
structure bZ where
 stands:List Int
 sA:Option Addr
 sc:Nat
 b8:Nat
 fA:List bW
 (next at_:Int)
 dead:Bool
namespace bZ
def aC(T:bZ):St:=⟨T.stands,T.fA.map bW.l,T.next,T.at_,T.dead⟩
abbrev cells(T:bZ)(bd:Nat)(g:bQ):List Value:=[ptr bd 0,.i g.bl,.i g.pg,.i g.se,.i g.sb,.i g.fl,.slice T.sA T.stands.length T.sc,.slice (some ⟨T.b8,0,none⟩) T.fA.length T.fA.length,.i T.next,.i T.at_,.bool T.dead]
abbrev sl(T:bZ):aH:=aV (.slice T.sA T.stands.length T.sc) 3 1 T.stands.length (ints .i64 T.stands)
abbrev parts(bs bd:Nat)(g:bQ)(T:bZ):List aH:=[ah bs 127 (T.cells bd g),T.sl,ah T.b8 124 (T.fA.map bW.v),bK (T.fA.map bW.row)]
def A(bs bd:Nat)(g:bQ)(T:bZ):aH:=bK (parts bs bd g T)
structure Ok(g:bQ)(T:bZ):Prop where
 len:T.fA.length=T.stands.length
 aJ:1≤T.stands.length∧T.stands.length≤64
 next:1≤T.next∧T.next≤1000000001
 at_:0≤T.at_∧T.at_<g.bl
 Md:∀b∈T.stands,-1≤b∧b<g.bl
end bZ
theorem Seq.xM(hA:A∈l)(h:Seq K [A] B m s vs):Seq K (bK l::H) B m s vs:=⟨h.len,fun i v hi=>Rd.xM hA (h.rd i v hi)⟩
theorem bZ.FH:fH K (bZ.A bs bd g T::F) bs 0 (T.cells bd g):=fun i v hi=>by
 show Rd K (bK (bZ.parts bs bd g T)::F) _ v;refine Rd.xM (A:=ah bs 127 (T.cells bd g)) (.head _) (Rd.here ?_);rw[Nat.zero_add];exact hi
theorem bZ.rdg:fH K (bZ.A bs bd g T::F) bs 1 [.i g.bl,.i g.pg,.i g.se,.i g.sb,.i g.fl]:=fun i v hi=>by
 have key:∀k v,(T.cells bd g)[k]? =some v→Rd K (bZ.A bs bd g T::F) (some ⟨bs,k,none⟩) v:=fun k v hk=>by
  have :=bZ.FH (K:=K) (F:=F) (bs:=bs) (bd:=bd) (g:=g) (T:=T) k v hk
  rwa [Nat.zero_add] at this
 match i,hi with
 | 0,hi=>exact key 1 v hi
 | 1,hi=>exact key 2 v hi
 | 2,hi=>exact key 3 v hi
 | 3,hi=>exact key 4 v hi
 | 4,hi=>exact key 5 v hi
theorem bZ.aks:Seq K (bZ.A bs bd g T::F) T.sA T.stands.length 1 (ints .i64 T.stands) :=
 Seq.xM (A:=T.sl) (l:=bZ.parts bs bd g T) (.tail _ (.head _)) (aV.seq (by rw[bR,Nat.mul_one]))
theorem bZ.rdS(h:0≤aS∧aS<T.stands.length):Rd K (bZ.A bs bd g T::F) (T.sA.map (·.add (aS.toNat*1))) (.i (T.aC.lF aS)):=Seq.dD bZ.aks h
theorem aB.afd(h:aB prog f args K (bZ.parts bs bd g T++F) post):aB prog f args K (bZ.A bs bd g T::F) post:=h.sat fun w hw=>hw.yJ
theorem aav(h:∀x∈fs,0≤x.block∧x.block<B)(hB:0<B):∀b∈kT aJ fs,-1≤b∧b<B:=fun b hb=>by
 unfold kT at hb;obtain⟨l,hl,rfl⟩:=mem_map.1 hb;unfold ji at hl;obtain⟨aS,_,rfl⟩:=mem_map.1 hl;unfold wG;cases hx:(eP (jU qK) (fs.filter (nE aS))).getLast? with
 | none=>exact⟨by decide,by dsimp only;omega⟩
 | some x =>
  have h1:=zk.1 (mem_of_getLast? hx);have :=h x (mem_filter.1 h1).1;exact⟨by dsimp only;omega,this.2⟩
theorem xq{S:aD}(hg:S.g.aU)(h:S.ko b=some x):x.block=b∧x.hd.may S.g=true:=by
 unfold aD.ko at h;split at h
 ·cases h
 ·split at h
  ·cases h
  ·rename_i hp;injection h with h
   subst h;exact⟨rfl,(um hg hp).2.1⟩
theorem FL{S:aD}(hg:S.g.aU):∀x∈S.dV,(0≤x.block∧x.block<S.g.bl)∧x.hd.may S.g=true:=fun x hx=>by
 unfold aD.dV at hx;obtain⟨b,hb,hs⟩:=mem_filterMap.1 hx;obtain⟨h1,h2⟩:=xq hg hs;have h3:=aD.qB S _ b hb;unfold bQ.aU at hg;exact⟨by rw[h1];omega,h2⟩
theorem Hd.Ud{h:Hd}(hm:h.may g=true):1≤h.num∧h.num≤1000000000:=by simp_all [Hd.may,Bool.and_eq_true,decide_eq_true_eq]
theorem Qw(h0:0<fs.length):∀k,k<fs.length→xD c fs k∈fs
 | 0,_=>by show fs.getD 0 JF∈fs;simp only[getD,getElem?_eq_getElem h0];exact getElem_mem _
 | k+1,hk=>by
  rw[xD];split
  ·simp only[getD,getElem?_eq_getElem hk];exact getElem_mem _
  ·exact Qw h0 k ay
theorem O7(h:∀x∈fs,1≤x.hd.num∧x.hd.num≤1000000000):1≤pE fs∧pE fs≤1000000001:=by grind [pE,Qw]
theorem Te{C:Cw}(hC:C.Ok)(hg:C.g=g){aJ:Nat}(hl:1≤aJ∧aJ≤64)(h19:g.bl≤19)(he:C.aC.om=0):aB prog 31 #[ptr bd 0,.i (aJ:Int)] K (C.A bc::dA bd bc g::F)
 (fun v H'=>∃bs:Nat,∃T:bZ,T.Ok g∧T.aC=oh C.aC aJ∧v= .tuple #[ptr bs 0,.i 0]∧H'=C.A bc::dA bd bc g::T.A bs bd g::F):=by
 have yO:g.aU:=by rw[←hg];exact hC.aU
 have uJ:=yO;unfold bQ.aU at uJ;have Zo:=FL (S:=C.aC) hC.aU;have hfl:C.aC.dV.length≤19:=by
  have h1:=aD.jK C.aC C.aC.g.bl.toNat;have h2:C.aC.g.bl.toNat≤19:=by rw[show C.aC.g=C.g from rfl,hg];omega
  unfold aD.dV;refine Nat.le_trans (length_filterMap_le _ _) ?_;unfold aD.dW;omega
 obtain⟨fs,hfs⟩:∃fs,fs=C.aC.dV:=⟨_,rfl⟩;have Zk:=O7 (fs:=fs) (fun x hx=>Hd.Ud (Zo x (by rw[←hfs];exact hx)).2);refine aB.en func31 ntmps31 ?_;refine aj "alf]3qr4cV~mLb~9U" ?_;refine WL.c1 call99 rfl (QT hC hg h19 he) rfl ?_;rintro _ _ ⟨Af,cf,rfl,rfl⟩;rw[←hfs] at hfl Zo ⊢;refine aj "Dfs3Uc" ?_;refine WL.t1 call100 rfl (kg) rfl ?_;refine WL.val (V.build (vs:=[(0,_),(1,_)]) ⟨ak rfl,ak rfl,trivial⟩ rfl (Tp _ _ _ _ _ _)) rfl ?_;refine WL.box (cs:=[_,_,_,_,_,_,_,_,_,_,_]) (ak rfl) rfl rfl (fun Va=> ?_);refine aj "jzc" ?_;refine WL.c2 call101 rfl rfl (Qr (fs:=fs) hl (by repeat (first | exact aV.seq (gT _) | apply Seq.up)) rfl ay (fun x hx=>by have :=Hd.Ud (Zo x hx).2;omega)) rfl ?_;rintro _ _ ⟨Ap,cp,rfl,rfl⟩;refine aj "6~MS~~@S~~@bez" ?_;refine WL.c2 call102 rfl rfl (Mx (fs:=fs) hl (by repeat (first | exact aV.seq (gT _) | apply Seq.up)) rfl ay) rfl ?_;rintro _ _ ⟨b8,fA,GQ,ZA,rfl,rfl⟩;refine aj "6S~~@beC" ?_;obtain⟨T,hT⟩:∃T:bZ,T=⟨kT aJ fs,Ap,cp,b8,fA,pE fs,0,false⟩:=⟨_,rfl⟩;have l7:=mY aJ fs;refine aF.ret (H':=C.A bc::dA bd bc g::T.A Va bd g::F) (bJ.eU rfl rfl rfl) (fun w h=> ?_) ⟨Va,T, ?_, ?_,rfl,rfl⟩
 ·have h1:=h.bg 7 [3,2,0,1,4,5] rfl;have h2:=Sat.all (l:=bZ.parts Va bd g T) (H:=C.A bc::dA bd bc g::F) (K:=K) (w:=w) (by
   unfold bZ.parts bZ.cells bZ.sl;rw[hT];dsimp only;rw[l7,GQ];exact h1)
  exact h2.bg 3 [1,2,0] rfl
 ·rw[hT];refine⟨by show fA.length=(kT aJ fs).length;omega,by show 1≤(kT aJ fs).length∧(kT aJ fs).length≤64;omega,by show 1≤pE fs∧pE fs≤1000000001;omega,by show (0:Int)≤0∧0<g.bl;omega, ?_⟩;exact aav (fun x hx=>by have :=(Zo x hx).1;rw[show C.aC.g=C.g from rfl,hg] at this;exact this) ay
 ·rw[hT];unfold bZ.aC oh;rw[←hfs,ZA]
theorem Ut{T:bZ}:aK prog 87 #[ptr bs 0] K (T.A bs bd g::F) (.i (T.stands.length:Int)):=by
 refine aB.en func87 ntmps87 ?_;refine aj "af]3US" ?_;refine WL.val (V.load isAgg124 (ak rfl) (fun _=>bZ.FH 6 _ rfl)) rfl ?_;refine aj "kd" ?_;exact qR (T.A bs bd g::F) rfl rfl cO ⟨rfl,rfl⟩
theorem X4{T:bZ}(hg:g.aU):aK prog 50 #[ptr bs 0] K (T.A bs bd g::F) (.i g.cap):=by
 refine aB.en func50 ntmps50 ?_;refine aj "af]3US" ?_;refine WL.val (V.fE (vs:=[.i g.bl,.i g.pg,.i g.se,.i g.sb,.i g.fl]) ⟨isAgg23,sizeOf23⟩ (ak rfl) rfl (fun _=>bZ.rdg)) rfl ?_;refine WL.t1 call110 rfl (QE hg) rfl ?_;refine aj "Djd" ?_;exact qR (T.A bs bd g::F) rfl rfl cO ⟨rfl,rfl⟩
theorem xk{T:bZ}(aS:Int):aK prog 61 #[ptr bs 0,.i aS] K (T.A bs bd g::F) (.i (T.aC.ready aS)):=by
 obtain⟨X,hX⟩:∃X,X=T.aC.ready aS:=⟨_,rfl⟩;rw[←hX];unfold St.ready bZ.aC at hX;dsimp only at hX;refine aB.en func61 ntmps61 ?_;refine aj "aute]g~BeS" ?_;refine WL.val (V.load isAgg4 (ak rfl) (fun _=>bZ.FH 10 _ rfl)) rfl ?_;refine aj "gH" (aW (fun h1=> ?_) fun h1=> ?_)
 ·rw[h1] at hX;refine aj "G" ?_;exact qR (T.A bs bd g::F) rfl rfl cO ⟨by rw[hX];rfl,rfl⟩
 ·rw[h1] at hX;rw[if_neg Bool.false_ne_true] at hX;refine aj "e4cVV~~r~5" ?_;refine WL.bI (oj:=_) rfl rfl rfl GC.f (V.load isAgg124 (OV.g rfl id) (fun _=>bZ.FH 6 _ rfl)) rfl ?_;refine aj "~D~~RLgH" (aW (fun h2=> ?_) fun h2=> ?_)
  ·simp only[Bool.or_eq_true,Bool.or_eq_false_iff,cZ] at h2;rw[if_pos h2] at hX;refine aj "G" ?_;exact qR (T.A bs bd g::F) rfl rfl cO ⟨by rw[hX],rfl⟩
  ·simp only[Bool.or_eq_true,Bool.or_eq_false_iff,cZ] at h2;rw[if_neg (by rintro (h | h);exact h2.1 h;exact h2.2 h)] at hX;refine aj "qG" ?_;exact qR (T.A bs bd g::F) rfl rfl cO ⟨by rw[hX],rfl⟩
def bZ.told(T:bZ)(e:Int):bZ:= { T with dead:=T.dead||decide (e=70) }
theorem bZ.Ok.told{T:bZ}(h:T.Ok g)(e:Int):(T.told e).Ok g:=⟨h.len,h.aJ,h.next,h.at_,h.Md⟩
theorem qx{T:bZ}(e:Int):aB prog 65 #[ptr bs 0,.i e] K (T.A bs bd g::F) (fun v H'=>v= .i e∧H'=(T.told e).A bs bd g::F):=by
 refine aB.afd ?_;dsimp only[bZ.parts,cons_append,nil_append];refine aB.en func65 ntmps65 ?_;refine aj "aY`ocV~~7LS~pbed" ?_;exact qR ((T.told e).A bs bd g::F) rfl rfl (fun w h=>Sat.all (l:=bZ.parts bs bd g (T.told e)) h) ⟨rfl,rfl⟩
theorem TP{T:bZ}{C:Cw}(hC:C.Ok)(hg:C.g=g):aK prog 66 #[ptr bs 0] K (C.A bc::dA bd bc g::T.A bs bd g::F) (.i (if C.aC.om=70 then 70 else 6)):=by
 refine aB.en func66 ntmps66 ?_;refine aj "afS" ?_;refine WL.val (V.load isAgg70 (ak rfl) (fun _=>Rd.up (Rd.up (bZ.FH 0 _ rfl)))) rfl ?_;refine WL.t3 call126 rfl rfl rfl (vN hC hg 0 0 aN) rfl ?_;refine aj "Dj:bZ" (aW (fun h0=> ?_) fun h0=> ?_)
 ·refine aj "ed" ?_;exact qR (C.A bc::dA bd bc g::T.A bs bd g::F) rfl rfl cO ⟨by rw[if_pos (show C.aC.om=70 from h0)];exact congrArg _ h0,rfl⟩
 ·refine aj "qG" ?_;exact qR (C.A bc::dA bd bc g::T.A bs bd g::F) rfl rfl cO ⟨by rw[if_neg (show ¬C.aC.om=70 from h0)],rfl⟩
end Go.Proofs.YtcedojacbhnbiaaGreat
