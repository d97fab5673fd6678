import Derived.Test.YtcedojacbhnbiaaGreatP9
set_option autoImplicit true
set_option linter.all false
set_option maxHeartbeats 2000000
set_option maxRecDepth 20000
set_option relaxedAutoImplicit true
namespace Go.Proofs.YtcedojacbhnbiaaGreat
open Go.Sl Go.RowKit Tryz List Nat
structure By where
 A:Option Addr
 M:Nat
 m:Nat
 cap:Nat
 n:Nat
abbrev By.v(r:By):Value:= .slice r.A r.m r.cap
abbrev By.E(r:By):aH:=aV (.slice r.A r.M r.cap) 5 1 r.M (av .u8 (bG 256 r.M r.n))
structure By.Ok(r:By):Prop where
 mM:r.m≤r.M
 M:r.M≤10000
 cap:r.m≤r.cap
 lt:r.n<256^r.m
 top:0<r.m→r.n/256^(r.m-1)%256≠0
theorem By.seq{r:By}(h:r.Ok):Seq K (r.E::H) r.A r.m 1 (av .u8 (bG 256 r.m r.n)):=by
 have a:Seq K (r.E::H) r.A r.M 1 (av .u8 (bG 256 r.M r.n)):=aV.seq (by rw[au,aI,Nat.mul_one]);have b:=a.take h.mM
 rwa [dU,Ca h.mM] at b
theorem By.vl{r:By}(h:r.Ok):vl 256 (bG 256 r.m r.n)=r.n:=by rw[xV,mod_eq_of_lt h.lt]
theorem YT(hs:Seq K F A0 m0 1 (av .u64 (bG 18446744073709551616 m0 n)))(hL:m0≤1000)(hc:m0≤cap)(hn:n<18446744073709551616^m0):aB prog 303 #[.slice A0 m0 cap] K F (λv H'=>∃r:By,r.Ok∧r.n=n∧v=r.v∧H'=r.E::F):=by
 refine aB.en func303 ntmps303 ?_;refine aj "awf" ?_;refine WL.c1 call300 Z (I6 hs hL hc) Z ?_;rintro _ M ⟨O,m,rfl,D,Gf,ak3⟩;subst M;have H:n<18446744073709551616^m:=by
  have x:=nH (B:=18446744073709551616) (l:=(bG 18446744073709551616 m0 n).take m) (λy P=>bL aN _ _ y (mem_of_mem_take P));rw[Gf,xV,mod_eq_of_lt hn,length_take,aI,Nat.min_eq_left D] at x;exact x
 refine aj "jR" ?_;refine WC.loop (σ:=Nat×Option Addr×Nat) (λs=>[(3,.slice s.2.1 (8*s.1) s.2.2),(8,(.slice A0 m cap)),(9,.i ((m:Nat):Int)),(10,.i ((s.1:Nat):Int))]) (λs=>aV (.slice s.2.1 (8*s.1) s.2.2) 5 1 (8*s.1) (av .u8 (bG 256 (8*s.1) n))::F) (λs=>s.1≤m∧8*s.1≤s.2.2) (λs=>m-s.1) (0,none,0) ⟨zero_le _,zero_le _⟩ bC (λw h=>h.gI _ _) ?_;rintro⟨i,A,cp⟩ ⟨hi,ZG⟩;dsimp only at hi ZG ⊢;refine aP "a~lGJ" (aW (λG=> ?_) λG=> ?_)
 ·simp only[cZ] at G;refine aj "Ea" ?_;refine WL.val (V.jW (v:= .int .u64 ((n/18446744073709551616^i%18446744073709551616:Nat):Int)) Ls (ak Z) (ak Z) (hr:=λ_=>by
   have b:=Seq.qH hs (show i<m0 by omega);rw[bV _ _ _ _ ay] at b;exact b.up)) Z ?_
  refine WL.val (V.d9 (v:= .int .u64 ((n/18446744073709551616^i%18446744073709551616:Nat):Int)) isAgg306 (ak Z) (λ_=>by
   have b:=Seq.qH hs (show i<m0 by omega);rw[bV _ _ _ _ ay] at b;exact b.up)) Z ?_
  refine aj "ics" ?_;refine WC.loop (σ:=Nat×Option Addr×Nat) (λs=>[(3,.slice s.2.1 (8*i+s.1) s.2.2),(5,.int .u64 ((n/18446744073709551616^i%18446744073709551616:Nat):Int)),(8,(.slice A0 m cap)),(9,.i ((m:Nat):Int)),(10,.i ((i:Nat):Int)),(14,.i ((s.1:Nat):Int))]) (λs=>aV (.slice s.2.1 (8*i+s.1) s.2.2) 5 1 (8*i+s.1) (av .u8 (bG 256 (8*i+s.1) n))::F) (λs=>s.1≤8∧8*i+s.1≤s.2.2) (λs=>8-s.1) (0,A,cp) ⟨zero_le _,ZG⟩ bC cO ?_;rintro⟨k,A,cp⟩ ⟨hk,ao0⟩;dsimp only at hk ao0 ⊢;refine aP "a~~sGJ" (aW (λb=> ?_) λb=> ?_)
  ·simp only[cZ] at b;refine aP "YOx~~h~%~1" ?_;refine WL.buildSlice (E:=5) (cs:=av .u8 [_]) (vs:=[(0,_)]) ⟨ak Z,trivial⟩ Z (jc _) Z (λL=> ?_);refine aP "?~7" λI e aod aov=> ?_;refine aP "op=>" ?_;refine⟨(k+1,I,e),⟨by show k+1≤8;omega,by show 8*i+(k+1)≤e;omega⟩,(by show 8-(k+1)<8-k;omega),.cons Z bC,λw h=> ?_⟩;have a:=Sat.wm (h.bg 2 [0] Z) (show av .u8 (bG 256 (8*i+k) n++[n/18446744073709551616^i%18446744073709551616/2^(8*k)%256])=av .u8 (bG 256 (8*i+(k+1)) n) by
    rw[←Nat.add_assoc,xK];congr 3;rw[show (18446744073709551616:Nat)=256^8 by decide,show 2^(8*k)=256^k by rw[Nat.pow_mul],mg _ b,←Nat.pow_mul,Nat.div_div_eq_div_mul,←Nat.pow_add])
   exact a
  ·simp only[cZ] at b;refine WC.exit ?_;obtain rfl:k=8:=by omega
   refine aP "p=>" ?_;exact⟨(i+1,A,cp),⟨by show i+1≤m;omega,by show 8*(i+1)≤cp;omega⟩,(by show m-(i+1)<m-i;omega),.cons Z bC,λw h=>h⟩
 ·simp only[cZ] at G;refine aj "Ws" ?_;obtain rfl:m=i:=by omega
  refine WC.loop (σ:=Nat) (λq=>[(3,.slice A q cp)]) (λ_=>aV (.slice A (8*m) cp) 5 1 (8*m) (av .u8 (bG 256 (8*m) n))::F) (λq=>q≤8*m∧n<256^q) (λq=>q) (8*m) ⟨Nat.le_refl _,by rw[Nat.pow_mul];exact H⟩ bC cO ?_;rintro q ⟨N,d⟩;have J:Seq K (aV (.slice A (8*m) cp) 5 1 (8*m) (av .u8 (bG 256 (8*m) n))::F) A (8*m) 1 (av .u8 (bG 256 (8*m) n)):=aV.seq (by rw[au,aI,Nat.mul_one]);refine aP "rj~`b!!~~r" ?_;refine WL.bI (oj:=_) Z Z Z GC.t (V.rD (j:=1) (OV.g Z id) (ak Z)) Z<|WL.bI (oj:=_) Z Z Z GC.t (V.jW (m:=q) (j:=q-1) (v:= .int .u8 (((bG 256 (8*m) n).getD (q-1) 0:Nat):Int)) dO (OV.g Z id) (OV.g Z id) (hb:=λhc=>by simp at hc;omega) (hr:=λhc=>Seq.qH J (by simp at hc;omega))) Z<|WL.bI (oj:=_) Z Z Z GC.t (V.d9 (v:= .int .u8 (((bG 256 (8*m) n).getD (q-1) 0:Nat):Int)) isAgg5 (OV.g Z id) (λhc=>Seq.qH J (by simp at hc;omega))) Z<|aP "~~ASh" (aW (λa=> ?_) λa=> ?_)
  ·simp only[Gi] at a;refine aP "qsgbj~~~b" ?_;refine WL.val (V.slice (m:=q) (cap:=cp) (l:=0) (h:=q-1) (u:=cp) dO (ak Z) OO.none (OO.some (ak Z) (λ_=>Z)) OO.none (by simp) ay ay ay) Z<|aj "N" ?_;refine⟨q-1,⟨by show q-1≤_;omega, ?_⟩,(by show q-1<q;omega),.cons (look_eq Z (by rw[zK,Nat.sub_zero,Nat.sub_zero])) (.nil _),λw h=>h⟩;rw[bV _ _ _ _ ay] at a;have Q:n/256^(q-1)<256:=Nat.div_lt_of_lt_mul (by rw[←Nat.pow_succ,show (q-1).succ=q by omega];exact d);rw[mod_eq_of_lt Q] at a;have x:0<256^(q-1):=Nat.pow_pos aN;show n<256^(q-1);rcases Nat.lt_or_ge n (256^(q-1)) with C | C
   ·exact C
   ·have :=div_pos C x;omega
  ·simp only[Gi] at a;refine aj "Ked" ?_;refine qR _ Z Z cO ⟨⟨A,8*m,q,cp,n⟩,⟨N,by show 8*m≤10000;omega,by show q≤cp;omega,d,λh=> ?_⟩,Z,Z,Z⟩;have h:0<q:=h;rcases a with a | a
   ·omega
   ·rw[bV _ _ _ _ ay] at a;exact a
theorem aaw(hs:Seq K F A m 1 (av .u8 xs))(pI:Seq K F B m2 1 (av .u8 ys))(hx:aA 256 xs)(hy:aA 256 ys)(hm:m≤2000)(hm2:m2≤2000) :
 aK prog 207 #[.slice A m cap,.slice B m2 cap2] K F (.i (rM (vl 256 xs) (vl 256 ys))):=by
 refine aB.en func207 ntmps207 ?_;refine aj "ai" ?_;refine WL.c1 call259 Z (zl hs hx hm) Z ?_;rintro _ _ ⟨r,a,d,rfl,rfl⟩;refine WL.mv Z Z (WL.c1 call259 Z (zl pI.up hy hm2) Z ?_);rintro _ _ ⟨e,EB,b,rfl,rfl⟩;refine WL.t2 call258 Z Z (Fy (Rw.seq a).up (Rw.seq EB) (bL aN _ _) (bL aN _ _) (by have :=a.L;have :=a.mL;omega) (by have :=EB.L;have :=EB.mL;omega)) Z<|aj "d:" ?_;rw[Rw.vl a,Rw.vl EB,d,b]
set_option exponentiation.threshold 5000
theorem Rw.le{r:Rw}(h:r.Ok)(hk:r.n<18446744073709551616^k):r.m≤k:=by
 rcases Nat.lt_or_ge k r.m with a | a
 ·have b:=h.top ay;rw[div_eq_of_lt (Nat.lt_of_lt_of_le hk (Nat.pow_le_pow_right aN ay))] at b;exact absurd Z b
 ·exact a
theorem adr(h:a≤b):18446744073709551616^a≤18446744073709551616^b:=Nat.pow_le_pow_right aN h
theorem aiN(hs:Seq K F A m 1 (av .u8 xs))(pI:Seq K F B m2 1 (av .u8 ys))(hx:aA 256 xs)(hy:aA 256 ys)(hm:m≤2000)(hm2:m2≤2000) :
 aB prog 273 #[.slice A m cap,.slice B m2 cap2] K F (λv H'=>∃r:By,r.Ok∧r.n=vl 256 xs+vl 256 ys∧v=r.v∧∃X,H'=r.E::X::F):=by
 refine aB.en func273 ntmps273 ?_;refine aj "ai" ?_;refine WL.c1 call259 Z (zl hs hx hm) Z ?_;rintro _ _ ⟨r,e,C,rfl,rfl⟩;refine WL.mv Z Z (WL.c1 call259 Z (zl pI.up hy hm2) Z ?_);rintro _ _ ⟨a,EB,j,rfl,rfl⟩;have G:=e.L;have S:=EB.L;have P:=e.mL;have J:=EB.mL;have N:r.m≤250:=Rw.le e (by rw[C];refine Nat.lt_of_lt_of_le (nH hx) ?_;have :=hs.len;rw[au,Nat.mul_one] at this;rw[this,show (18446744073709551616:Nat)=256^8 by decide,←Nat.pow_mul];exact Nat.pow_le_pow_right aN ay);have Q:a.m≤250:=Rw.le EB (by rw[j];refine Nat.lt_of_lt_of_le (nH hy) ?_;have :=pI.len;rw[au,Nat.mul_one] at this;rw[this,show (18446744073709551616:Nat)=256^8 by decide,←Nat.pow_mul];exact Nat.pow_le_pow_right aN ay);refine aj "lijbj" ?_;obtain⟨M,T⟩:∃M,M=max r.m a.m:=⟨_,Z⟩;refine WL.val (V.aG (v':= .i ((M:Nat):Int)) (V.max (ak Z) (ak Z)) (λ_=>by congr 1;show max (r.m:Int) (a.m:Int)=((M:Nat):Int);omega)) Z<|aP "=" ?_;refine WL.Vf (m:=M+1) underlying330 Vn (ak Z) (ak Z) (λd=>aj "wfjR" ?_);have Zg:r.n<18446744073709551616^(M+1):=Nat.lt_of_lt_of_le e.lt (adr ay);have x:a.n<18446744073709551616^(M+1):=Nat.lt_of_lt_of_le EB.lt (adr ay);refine WC.loop (σ:=Nat×List Nat×Nat) (λs=>[(5,r.v),(6,a.v),(7,.slice (some ⟨d,0,none⟩) (M+1) (M+1)),(8,.int .u64 ((s.2.2:Nat):Int)),(22,.i ((M+1:Nat):Int)),(23,.i ((s.1:Nat):Int))]) (λs=>ah d 306 (av .u64 s.2.1)::a.A::r.A::F)
  (λs=>s.1≤M+1∧s.2.1.length=M+1∧aA 18446744073709551616 s.2.1∧s.2.2≤1∧vl 18446744073709551616 (s.2.1.take s.1)+s.2.2*18446744073709551616^s.1=r.n%18446744073709551616^s.1+a.n%18446744073709551616^s.1) (λs=>M+1-s.1) (0,replicate (M+1) 0,0) ⟨zero_le _,length_replicate,aA.wJ aN,zero_le _,by simp[vl,mod_one]⟩ bC cO ?_
 rintro⟨i,ws,b⟩ ⟨hi,hl,nS,EA,hv⟩;dsimp only at hi hl nS EA hv ⊢;refine aP "a~lGJ" (aW (λaL=> ?_) λaL=> ?_)
 ·simp only[cZ] at aL;refine aj "YOxb" ?_;refine WL.t2 call299 Z Z (TM (i:=i) (Rw.seq e).up.up) Z<|aj "x" ?_;refine WL.t2 call299 Z Z (TM (i:=i) (Rw.seq EB).up) Z<|WL.mv Z Z<|WL.val (V.ext (λU=>jJ _ _ _ ay) ⟨ak Z,ak Z,ak Z,trivial⟩) Z<|aP "5~*~Bop=>" ?_;rw[Eh aN (bL aN _ _),Eh aN (bL aN _ _),Rw.vl e,Rw.vl EB];have I:r.n/18446744073709551616^i%18446744073709551616<18446744073709551616:=mod_lt _ aN;have O:a.n/18446744073709551616^i%18446744073709551616<18446744073709551616:=mod_lt _ aN;refine⟨(i+1,_,(r.n/18446744073709551616^i%18446744073709551616+a.n/18446744073709551616^i%18446744073709551616+b)/18446744073709551616),⟨by show i+1≤M+1;omega,by show (ws.set i _).length=M+1;rw[length_set];exact hl,nS.set (mod_lt _ aN),(by dsimp only;omega), ?_⟩,(by show M+1-(i+1)<M+1-i;omega),.cons Z bC,λw h=>h⟩;dsimp only;rw[oD _ _ _ ay,mod_succ r.n,mod_succ a.n,Nat.pow_succ];exact Tv hv ay
 ·simp only[cZ] at aL;refine aj "W" ?_;obtain rfl:i=M+1:=by omega
  rw[take_of_length_le ay,mod_eq_of_lt Zg,mod_eq_of_lt x] at hv;have n:=nH nS;rw[hl] at n;have D:=Nat.lt_of_lt_of_le e.lt (adr (show r.m≤M by omega));have L:=Nat.lt_of_lt_of_le EB.lt (adr (show a.m≤M by omega));have atQ:r.n+a.n<18446744073709551616^(M+1):=by rw[Nat.pow_succ];omega
  have k:b=0:=by
   rcases (show b=0∨b=1 by omega) with h | h
   ·exact h
   ·subst h;omega
  rw[k,Nat.zero_mul,Nat.add_zero] at hv;have H:av .u64 ws=av .u64 (bG 18446744073709551616 (M+1) (r.n+a.n)):=by rw[←hv,ng nS hl]
  rw[H];refine aj "g" ?_;refine WL.c1 call303 Z (YT (Seq.pz (aI _ _ _)) ay (Nat.le_refl _) atQ) Z ?_;rintro _ _ ⟨y,u,R,rfl,rfl⟩;refine aj "d" ?_;exact aF.ret (H':=y.E::bK [ah d 306 (av .u64 (bG 18446744073709551616 (M+1) (r.n+a.n))),a.A,r.A]::F) (bJ.tmp Z Z) (λw h=>(Sat.Vl (l:=[ah d 306 (av .u64 (bG 18446744073709551616 (M+1) (r.n+a.n))),a.A,r.A]) h)) ⟨y,u,by rw[R,C,j],Z,_,Z⟩
theorem aiQ(hs:Seq K F A m 1 (av .u8 xs))(pI:Seq K F B m2 1 (av .u8 ys))(hx:aA 256 xs)(hy:aA 256 ys)(hm:m≤2000)(hm2:m2≤2000) :
 aB prog 274 #[.slice A m cap,.slice B m2 cap2] K F (λv H'=>∃r:By,r.Ok∧r.n=vl 256 xs*vl 256 ys∧v=r.v∧∃X,H'=r.E::X::F):=by
 refine aB.en func274 ntmps274 ?_;refine aj "ai" ?_;refine WL.c1 call259 Z (zl hs hx hm) Z ?_;rintro _ _ ⟨r,L,P,rfl,rfl⟩;refine WL.mv Z Z (WL.c1 call259 Z (zl pI.up hy hm2) Z ?_);rintro _ _ ⟨a,EB,G,rfl,rfl⟩;have T:=L.L;have x0:=EB.L;have U:=L.mL;have R:=EB.mL;have S:r.m≤250:=Rw.le L (by rw[P];refine Nat.lt_of_lt_of_le (nH hx) ?_;have :=hs.len;rw[au,Nat.mul_one] at this;rw[this,show (18446744073709551616:Nat)=256^8 by decide,←Nat.pow_mul];exact Nat.pow_le_pow_right aN ay);have W:a.m≤250:=Rw.le EB (by rw[G];refine Nat.lt_of_lt_of_le (nH hy) ?_;have :=pI.len;rw[au,Nat.mul_one] at this;rw[this,show (18446744073709551616:Nat)=256^8 by decide,←Nat.pow_mul];exact Nat.pow_le_pow_right aN ay);rw[←P,←G];obtain⟨x,e⟩:∃x,x=r.n:=⟨_,Z⟩;obtain⟨y,n⟩:∃y,y=a.n:=⟨_,Z⟩;have uI:x<18446744073709551616^r.m:=by rw[e];exact L.lt
 have C:y<18446744073709551616^a.m:=by rw[n];exact EB.lt
 have gL:∀ {H:List aH} {i:Nat},i<r.m→Rd K (r.A::H) (some ⟨r.b,i,none⟩) (.int .u64 ((x/18446744073709551616^i%18446744073709551616:Nat):Int)):=λ{H i} hi=>by
  have d:Rd K (r.A::H) (some ⟨r.b,i,none⟩) (.int .u64 (((bG 18446744073709551616 r.L r.n).getD i 0:Nat):Int)):=Rd.nat (by rw[aI];omega)
  rwa [bV _ _ _ _ ay,←e] at d
 have M:∀ {H:List aH} {i:Nat},i<a.m→Rd K (a.A::H) (some ⟨a.b,i,none⟩) (.int .u64 ((y/18446744073709551616^i%18446744073709551616:Nat):Int)):=λ{H i} hi=>by
  have d:Rd K (a.A::H) (some ⟨a.b,i,none⟩) (.int .u64 (((bG 18446744073709551616 a.L a.n).getD i 0:Nat):Int)):=Rd.nat (by rw[aI];omega)
  rwa [bV _ _ _ _ ay,←n] at d
 rw[←e,←n];refine aP "lijbj~W" ?_;refine WL.Vf (m:=r.m+a.m) underlying330 Vn (ak Z) (ak Z) (λb=>aj "fjR" ?_);refine WC.loop (σ:=Nat×List Nat) (λs=>[(5,r.v),(6,a.v),(7,.slice (some ⟨b,0,none⟩) (r.m+a.m) (r.m+a.m)),(26,r.v),(27,.i ((r.m:Nat):Int)),(28,.i ((s.1:Nat):Int))]) (λs=>ah b 306 (av .u64 s.2)::a.A::r.A::F)
  (λs=>s.1≤r.m∧s.2.length=r.m+a.m∧aA 18446744073709551616 s.2∧(∀j,s.1+a.m≤j→s.2.getD j 0=0)∧vl 18446744073709551616 s.2=x%18446744073709551616^s.1*y) (λs=>r.m-s.1) (0,replicate (r.m+a.m) 0) ⟨zero_le _,length_replicate,aA.wJ aN,λj _=>y7 _ _,by rw[GY];simp[mod_one]⟩ bC cO ?_
 rintro⟨i,wide⟩ ⟨hi,hl,nS,hz,hv⟩;dsimp only at hi hl nS hz hv ⊢;refine aP "a~lGJ" (aW (λJ=> ?_) λJ=> ?_)
 ·simp only[cZ] at J;refine aP "Y~*" ?_;refine WL.val (V.d9 (v:= .int .u64 ((x/18446744073709551616^i%18446744073709551616:Nat):Int)) isAgg306 (ak Z) (λ_=>(gL J).up.up)) Z<|aj "lt" ?_;have D:x/18446744073709551616^i%18446744073709551616<18446744073709551616:=mod_lt _ aN;refine aj "pfjR" ?_;refine WC.loop (σ:=Nat×List Nat×Nat) (λs=>[(5,r.v),(6,a.v),(7,.slice (some ⟨b,0,none⟩) (r.m+a.m) (r.m+a.m)),(26,r.v),(27,.i ((r.m:Nat):Int)),(28,.i ((i:Nat):Int)),(8,.i ((i:Nat):Int)),(9,.int .u64 ((x/18446744073709551616^i%18446744073709551616:Nat):Int)),(33,a.v),(34,.i ((a.m:Nat):Int)),(35,.i ((s.1:Nat):Int)),(10,.int .u64 ((s.2.2:Nat):Int))]) (λs=>ah b 306 (av .u64 s.2.1)::a.A::r.A::F)
   (λs=>s.1≤a.m∧s.2.1.length=r.m+a.m∧aA 18446744073709551616 s.2.1∧(∀j,i+a.m≤j→s.2.1.getD j 0=0)∧s.2.2<18446744073709551616∧vl 18446744073709551616 s.2.1+s.2.2*18446744073709551616^(i+s.1)=x%18446744073709551616^i*y+x/18446744073709551616^i%18446744073709551616*(y%18446744073709551616^s.1)*18446744073709551616^i) (λs=>a.m-s.1) (0,wide,0) ⟨zero_le _,hl,nS,hz,(by show 0<_;decide),by dsimp only;rw[hv];simp[mod_one]⟩ bC cO ?_
  rintro⟨k,wd,cy⟩ ⟨hk,RY,uM,JN,Y5,Gf⟩;dsimp only at hk RY uM JN Y5 Gf ⊢;refine aP "a~lGJ" (aW (λd=> ?_) λd=> ?_)
  ·simp only[cZ] at d;refine aP "Y~*" ?_;refine WL.val (V.d9 (v:= .int .u64 ((y/18446744073709551616^k%18446744073709551616:Nat):Int)) isAgg306 (ak Z) (λ_=>(M d).up)) Z<|aj "lt" ?_;have u:y/18446744073709551616^k%18446744073709551616<18446744073709551616:=mod_lt _ aN;have Gh:=uM.at_ aN (i+k);refine aj "gb" ?_;refine WL.t2 call293 Z Z (ku D u) Z<|aP "Hwixb~W~*~4~=H0~00~=HOx~Wxb~0~*~Bop=>" ?_;have hm:=TU D u Gh Y5;refine⟨(k+1,_,XF (x/18446744073709551616^i%18446744073709551616) (y/18446744073709551616^k%18446744073709551616) (wd.getD (i+k) 0) cy),⟨by show k+1≤a.m;omega,by show (wd.set _ _).length=_;rw[length_set];exact RY,uM.set (mod_lt _ aN),λj I=> ?_,NY _ _ _ _, ?_⟩,(by show a.m-(k+1)<a.m-k;omega),.cons Z bC,λw h=>h⟩
   ·dsimp only;rw[getD_set_ne ay];exact JN j I
   ·dsimp only;rw[mod_succ y,Qy,←Nat.add_assoc i k 1,Nat.pow_succ];exact Rn Gf (Hf _ _ _ _ ay) hm
  ·simp only[cZ] at d;refine aj "W" ?_;obtain rfl:k=a.m:=by omega
   rw[mod_eq_of_lt C] at Gf;refine aP "gj~`h" (aW (λO=> ?_) λO=> ?_)
   ·simp only[cZ] at O;refine aP "gxj~Wb~*~Bcp=>" ?_;refine⟨(i+1,wd.set (i+a.m) cy),⟨by show i+1≤r.m;omega,by show (wd.set _ _).length=_;rw[length_set];exact RY,uM.set Y5,λj I=> ?_, ?_⟩,(by show r.m-(i+1)<r.m-i;omega),.cons Z bC,λw h=>h⟩
    ·dsimp only at I ⊢;rw[getD_set_ne ay];exact JN j ay
    ·dsimp only;have d:=Hf 18446744073709551616 wd (i+a.m) cy ay;rw[JN (i+a.m) (Nat.le_refl _),Nat.zero_mul,Nat.add_zero] at d;rw[d,Gf,mod_succ x,Nat.add_mul];congr 1;simp only[Nat.mul_assoc,Nat.mul_comm,Nat.mul_left_comm]
   ·simp only[cZ] at O;refine aP "qp=>" ?_;have Y0:y=0:=by rw[show a.m=0 by omega,Nat.pow_zero] at C;omega
    refine⟨(i+1,wd),⟨by show i+1≤r.m;omega,RY,uM,λj I=>JN j (by have :i+1+a.m≤j:=I;omega), ?_⟩,(by show r.m-(i+1)<r.m-i;omega),.cons Z bC,λw h=>h⟩;show vl 18446744073709551616 wd=x%18446744073709551616^(i+1)*y;rw[Y0,Nat.mul_zero] at Gf ⊢;have hp:0<18446744073709551616^(i+a.m):=Nat.pow_pos aN;rw[Nat.mul_zero,Nat.zero_mul,Nat.add_zero] at Gf;omega
 ·simp only[cZ] at J;refine aj "W" ?_;obtain rfl:i=r.m:=by omega
  rw[mod_eq_of_lt uI] at hv;have aqw:x*y<18446744073709551616^(r.m+a.m):=by have :=nH nS;rwa [hl,hv] at this
  have Q:av .u64 wide=av .u64 (bG 18446744073709551616 (r.m+a.m) (x*y)):=by rw[←hv,ng nS hl]
  rw[Q];refine aj "g" ?_;refine WL.c1 call303 Z (YT (Seq.pz (aI _ _ _)) ay (Nat.le_refl _) aqw) Z ?_;rintro _ _ ⟨z,N,Y,rfl,rfl⟩;refine aj "d" ?_;exact aF.ret (H':=z.E::bK [ah b 306 (av .u64 (bG 18446744073709551616 (r.m+a.m) (x*y))),a.A,r.A]::F) (bJ.tmp Z Z) (λw h=>(Sat.Vl (l:=[ah b 306 (av .u64 (bG 18446744073709551616 (r.m+a.m) (x*y))),a.A,r.A]) h)) ⟨z,N,Y,Z,_,Z⟩
def oA:Option Rw→Option Addr | none=>none | some r=>some ⟨r.b,0,none⟩
def oM:Option Rw→Nat | none=>0 | some r=>r.m
def oC:Option Rw→Nat | none=>0 | some r=>r.cap
def oN:Option Rw→Nat | none=>0 | some r=>r.n
def oE:Option Rw→aH | none=>Zt | some r=>r.A
def oOk:Option Rw→Prop | none=>True | some r=>r.Ok
theorem akp:∀ {o:Option Rw},oOk o→∀ {K:World} {H:List aH},Seq K (oE o::H) (oA o) (oM o) 1 (av .u64 (bG 18446744073709551616 (oM o) (oN o)))
 | none,_,_,_=>Seq.nil
 | some _,h,_,_=>Rw.seq h
theorem oLt:∀ {o:Option Rw},oOk o→oN o<18446744073709551616^oM o
 | none,_=>by show 0<_;decide
 | some _,h=>h.lt
theorem anp:∀ {o:Option Rw},oOk o→oM o≤oC o
 | none,_=>Nat.le_refl _
 | some _,h=>h.cap
theorem oLe:∀ {o:Option Rw},oOk o→∀ {k:Nat},oN o<18446744073709551616^k→oM o≤k
 | none,_,_,_=>zero_le _
 | some _,h,_,hk=>Rw.le h hk
theorem Q6(hy:0<y)(hb:b=x/2^k%2)(hn:n=x/2^(k+1)%y):(if y≤2*n+b then 2*n+b-y else 2*n+b)=x/2^k%y:=by
 have a:x/2^k=2*(x/2^(k+1))+b:=by rw[Nat.pow_succ,←Nat.div_div_eq_div_mul,hb];omega
 have j:n<y:=by rw[hn];exact mod_lt _ hy
 have d:(2*n+b)%y=x/2^k%y:=by
  rw[a,hn];have e:2*(x/2^(k+1))+b=2*(x/2^(k+1)%y)+b+y*(2*(x/2^(k+1)/y)):=by
   have :=div_add_mod (x/2^(k+1)) y;have l:y*(2*(x/2^(k+1)/y))=2*(y*(x/2^(k+1)/y)):=Nat.mul_left_comm _ _ _;omega
  rw[e,add_mul_mod_self_left]
 rw[←d];split
 ·next h=>rw[mod_eq_sub_mod h,mod_eq_of_lt ay]
 ·next h=>rw[mod_eq_of_lt ay]
theorem abv(hs:Seq K F A m 1 (av .u8 xs))(pI:Seq K F B m2 1 (av .u8 ys))(hx:aA 256 xs)(hy:aA 256 ys)(hm:m≤2000)(hm2:m2≤2000)(Y0:0<vl 256 ys) :
 aB prog 260 #[.slice A m cap,.slice B m2 cap2] K F (λv H'=>∃r:By,r.Ok∧r.n=vl 256 xs%vl 256 ys∧v= .tuple #[r.v,.i 0]∧∃X,H'=r.E::X::F):=by
 refine aB.en func260 ntmps260 ?_;refine aj "ali" ?_;refine WL.c1 call259 Z (zl hs hx hm) Z ?_;rintro _ _ ⟨r,J,P,rfl,rfl⟩;refine WL.mv Z Z (WL.c1 call259 Z (zl pI.up hy hm2) Z ?_);rintro _ _ ⟨e,EB,C,rfl,rfl⟩;have Y:=J.L;have x5:=EB.L;have x0:=J.mL;have T:=EB.mL;have W:r.m≤250:=Rw.le J (by rw[P];refine Nat.lt_of_lt_of_le (nH hx) ?_;have :=hs.len;rw[au,Nat.mul_one] at this;rw[this,show (18446744073709551616:Nat)=256^8 by decide,←Nat.pow_mul];exact Nat.pow_le_pow_right aN ay);have x3:e.m≤250:=Rw.le EB (by rw[C];refine Nat.lt_of_lt_of_le (nH hy) ?_;have :=pI.len;rw[au,Nat.mul_one] at this;rw[this,show (18446744073709551616:Nat)=256^8 by decide,←Nat.pow_mul];exact Nat.pow_le_pow_right aN ay);rw[←P,←C];rw[←C] at Y0;obtain⟨x,u⟩:∃x,x=r.n:=⟨_,Z⟩;obtain⟨y,a⟩:∃y,y=e.n:=⟨_,Z⟩;have uI:x<18446744073709551616^r.m:=by rw[u];exact J.lt
 have D:y<18446744073709551616^e.m:=by rw[a];exact EB.lt
 have gL:∀ {H:List aH} {i:Nat},i<r.m→Rd K (r.A::H) (some ⟨r.b,i,none⟩) (.int .u64 ((x/18446744073709551616^i%18446744073709551616:Nat):Int)):=λ{H i} hi=>by
  have S:Rd K (r.A::H) (some ⟨r.b,i,none⟩) (.int .u64 (((bG 18446744073709551616 r.L r.n).getD i 0:Nat):Int)):=Rd.nat (by rw[aI];omega)
  rwa [bV _ _ _ _ ay,←u] at S
 rw[←a] at Y0;rw[←u,←a];have x4:0<e.m:=by
  rcases eq_zero_or_pos e.m with h | h
  ·rw[h,Nat.pow_zero] at D;omega
  ·exact h
 refine aP "lfj~~+h" (aW (λO=> ?_) λO=> ?_)
 ·skip
  refine aj "aF" ?_;exact absurd O (by simp;omega)
 ·skip
  refine aj "7fj" ?_;refine WL.val (V.Ob (i:=64) (ak Z) (ak Z)) Z (aj "~Dos" ?_);refine WC.loop (σ:=Nat×Option Rw) (λs=>[(6,r.v),(7,e.v),(8,.slice (oA s.2) (oM s.2) (oC s.2)),(9,.i ((s.1:Int)-1))]) (λs=>oE s.2::e.A::r.A::F)
   (λs=>s.1≤64*r.m∧oOk s.2∧oN s.2=x/2^s.1%y) (λs=>s.1) (64*r.m,none) ⟨Nat.le_refl _,trivial,by show 0=_;rw[div_eq_of_lt (by rw[Nat.pow_mul];exact uI),zero_mod]⟩ bC (λw h=>h.emp) ?_
  rintro⟨i,o⟩ ⟨hi,ho,hq⟩;dsimp only at hi ho hq ⊢;have ZC:oN o<18446744073709551616^e.m:=by rw[hq];exact Nat.lt_trans (mod_lt _ Y0) D
  have x2:=oLe ho ZC;refine aj "r~gh" (aW (λaQ=> ?_) λaQ=> ?_)
  ·simp only[cZ] at aQ;obtain⟨i,rfl⟩:∃q,i=q+1:=⟨i-1,by omega⟩;rw[show ((i+1:Nat):Int)-1=((i:Nat):Int) by omega];refine aj "Yx" ?_;refine WL.val (V.XI (j:=64) (ak Z) (ak Z)) Z (aP "~*" ?_);refine WL.val (V.d9 (v:= .int .u64 ((x/18446744073709551616^(i/64)%18446744073709551616:Nat):Int)) isAgg306 (ak Z) (λ_=>(gL (i:=i/64) ay).up.up)) Z<|aP "b~~(~%~~)" ?_;have U:x/18446744073709551616^(i/64)%18446744073709551616/2^(i%64) &&& 1=x/2^i%2:=by
    rw[and_one_is_mod,show (18446744073709551616:Nat)=2^64 by decide,mg (B:=2) _ ay,←Nat.pow_mul,Nat.div_div_eq_div_mul,←Nat.pow_add,div_add_mod]
   rw[U];refine WL.c2 call301 Z Z (SN (akp ho) (oLt ho) ay ay) Z ?_;rintro _ _ ⟨Q,Mc,d,rfl,rfl⟩;refine aj "0" ?_;refine WL.t2 call258 Z Z (Fy (Rw.seq Mc) (Rw.seq EB).up.up (bL aN _ _) (bL aN _ _) (by have :=Mc.L;have :=Mc.mL;omega) ay) Z<|aj "~gh" (aW (λb=> ?_) λb=> ?_)
   ·rw[Rw.vl Mc,Rw.vl EB,←a,d,hq] at b;have G:=Q6 (x:=x) (n:=oN o) (k:=i) Y0 Z hq;rw[←hq] at b;simp only[rM] at b;have L:y≤2*oN o+x/2^i%2:=by replace b:=of_decide_eq_true b;split at b<;>omega
    rw[if_pos L] at G;refine aj "gb" ?_;refine WL.c2 call302 Z Z (XY Mc (Rw.seq EB).up (bL aN _ _) (by rw[Rw.vl EB,←a,d];exact L)) Z ?_;rintro _ _ ⟨R,N,I,rfl,rfl⟩;rw[Rw.vl EB,←a,d] at I;refine aj "O~DN" ?_;exact⟨(i,some R),⟨by show i≤64*r.m;omega,N,by show R.n=_;rw[I];exact G⟩,(by show i<i+1;omega),.cons Z bC,λw h=>h.bg 4 [0,2,3] Z⟩
   ·rw[Rw.vl Mc,Rw.vl EB,←a,d,hq] at b;have G:=Q6 (x:=x) (n:=oN o) (k:=i) Y0 Z hq;rw[←hq] at b;simp only[rM] at b;have L:¬y≤2*oN o+x/2^i%2:=by replace b:=of_decide_eq_false b;split at b<;>(try split at b)<;>omega
    rw[if_neg L] at G;refine aj "qg~DN" ?_;exact⟨(i,some Q),⟨by show i≤64*r.m;omega,Mc,by show Q.n=_;rw[d];exact G⟩,(by show i<i+1;omega),.cons Z bC,λw h=>h.bg 4 [0,2,3] Z⟩
  ·simp only[cZ] at aQ;refine aj "W" ?_;obtain rfl:i=0:=by omega
   rw[Nat.pow_zero,Nat.div_one] at hq;refine aj "g" ?_;refine WL.c1 call303 Z (YT (akp ho) ay (anp ho) (oLt ho)) Z ?_;rintro _ _ ⟨z,M,zn,rfl,rfl⟩;refine aj "F" ?_;exact aF.ret (H':=z.E::bK [oE o,e.A,r.A]::F) (bJ.two Z (R1.tmp Z) (R1.tmp Z)) (λw h=>(Sat.Vl (l:=[oE o,e.A,r.A]) h)) ⟨z,M,by rw[zn];exact hq,Z,_,Z⟩
end Go.Proofs.YtcedojacbhnbiaaGreat
namespace Go.Sl
open Go List Nat
theorem V.kM(hT:tC P T m E s)(hx:OV true e x (ptr b 0)):eX Mo P K n true e H ⟨dst,.slice T x none none none,ty,pos,af,gd⟩ (.slice (some ⟨b,0,none⟩) m m) :=
 V.aG (V.qM (l:=0) (h:=m) (u:=m) hT hx OO.none OO.none OO.none (by simp) (zero_le _) (Nat.le_refl _) (Nat.le_refl _)) λ_=>by simp
theorem V.acV(hT:tC P T m E 1)(hx:OV true e x (ptr b 0))(hy:OO true e (some y) 0 l)(hl:blt l m=true):eX Mo P K n true e H ⟨dst,.slice T x (some y) none none,ty,pos,af,gd⟩ (.slice (some ⟨b,l,none⟩) (m-l) (m-l)):=by
 have hl:l<m:=le_of_ble_eq_true hl;exact V.aG (V.qM (l:=l) (h:=m) (u:=m) hT hx hy OO.none OO.none (by simp) ay (Nat.le_refl _) (Nat.le_refl _)) λ_=>by rw[if_neg ay];simp
theorem V.acW(hT:tC P T m E s)(hx:OV true e x (ptr b 0))(hy:OO true e (some y) m h)(hl:ble h m=true):eX Mo P K n true e H ⟨dst,.slice T x none (some y) none,ty,pos,af,gd⟩ (.slice (some ⟨b,0,none⟩) h m):=by
 have hl:h≤m:=le_of_ble_eq_true hl;exact V.aG (V.qM (l:=0) (h:=h) (u:=m) hT hx OO.none hy OO.none (by simp) (zero_le _) hl (Nat.le_refl _)) λ_=>by simp
end Go.Sl
namespace Go.Proofs.YtcedojacbhnbiaaGreat
open Go.Sl Go.RowKit Tryz List Nat
set_option exponentiation.threshold 5000
theorem By.le{r:By}(h:r.Ok)(hk:r.n<256^k):r.m≤k:=by
 rcases Nat.lt_or_ge k r.m with a | a
 ·have b:=h.top ay;rw[div_eq_of_lt (Nat.lt_of_lt_of_le hk (Nat.pow_le_pow_right aN ay))] at b;exact absurd Z b
 ·exact a
theorem Qs:cL<115792089237316195423570985008687907853269984665640564039457584007913129639936:=by decide
theorem yA(h:n<115792089237316195423570985008687907853269984665640564039457584007913129639936):vl 256 (bG 256 32 n)=n:=by rw[xV,mod_eq_of_lt];exact h
theorem ani:∀a:Nat,a<256→a &&& 248=a/8*8:=by decide
theorem apj:∀a:Nat,a<256→(a &&& 63) ||| 64=a%64+64:=by decide
theorem aiq:(l++[x]).getD l.length 0=x:=by simp[getD]
theorem ah2(n:Nat):((bG 256 32 n).set 0 ((bG 256 32 n).getD 0 0 &&& 248)).set 31 ((((bG 256 32 n).set 0 ((bG 256 32 n).getD 0 0 &&& 248)).getD 31 0 &&& 63) ||| 64)=bG 256 32 (agP n):=by
 have a:bG 256 32 n=n%256::(bG 256 30 (n/256)++[n/256/256^30%256]):=by rw[bG,xK]
 have e:bG 256 32 (agP n)=agP n%256::(bG 256 30 (agP n/256)++[agP n/256/256^30%256]):=by rw[bG,xK]
 have b:agP n%256=n%256/8*8:=by unfold agP;omega
 have d:agP n/256%256^30=n/256%256^30:=by
  unfold agP;rw[show (256:Nat)^30=1766847064778384329583297500742918515827483896875618958121606201292619776 by decide];omega
 have k:agP n/256/256^30%256=n/256/256^30%256%64+64:=by
  unfold agP;rw[show (256:Nat)^30=1766847064778384329583297500742918515827483896875618958121606201292619776 by decide];omega
 rw[e,b,←nV 256 30 (agP n/256),d,nV,k,a];have h:(n%256::(bG 256 30 (n/256)++[n/256/256^30%256])).set 0 ((n%256::(bG 256 30 (n/256)++[n/256/256^30%256])).getD 0 0 &&& 248)=(n%256 &&& 248)::(bG 256 30 (n/256)++[n/256/256^30%256]):=rfl;have j:(bG 256 30 (n/256)++[n/256/256^30%256]).getD 30 0=n/256/256^30%256:=by
  have :=aiq (l:=bG 256 30 (n/256)) (x:=n/256/256^30%256)
  rwa [aI] at this
 rw[h,ani _ (mod_lt _ aN),getD_cons_succ,set_cons_succ,j,set_append,aI,if_neg ay];simp only[Nat.sub_self,getD_cons_zero,set_cons_zero];rw[apj _ (mod_lt _ aN)]
theorem abt(h:n<256^m)(hm:m≤32):av .u8 (bG 256 m n)++(av .u8 (replicate 32 0)).drop (av .u8 (bG 256 m n)).length=av .u8 (bG 256 32 n):=by grind [Gy,mod_eq_of_lt,au,aI,kQ,dx]
theorem Cq:aK prog 206 #[] K F (o8 cL):=by
 refine aB.en func206 ntmps206 ?_;refine aP "az" λa=> ?_;refine aj "Q" ?_;refine WL.val (V.lX (k:= .u8) (l:=[_,_,_,_,_,_,_,_,_,_,_,_,_,_,_,_,_,_,_,_,_,_,_,_,_,_,_,_,_,_,_,_]) (vs:=[(0,_),(1,_),(2,_),(3,_),(4,_),(5,_),(6,_),(7,_),(8,_),(9,_),(10,_),(11,_),(12,_),(13,_),(14,_),(15,_),(31,_)]) ⟨ak Z,ak Z,ak Z,ak Z,ak Z,ak Z,ak Z,ak Z,ak Z,ak Z,ak Z,ak Z,ak Z,ak Z,ak Z,ak Z,ak Z,trivial⟩ Z (iQ _ _ _ _ _ _ _ _ _ _ _ _ _ _ _ _ _)) Z (aP "A6" ?_);exact aF.ret (H':=F) (bJ.one Z (R1.dh (l:=bG 256 32 cL) Z ⟨isAgg97,sizeOf97⟩)) eO ⟨Z,Z⟩
theorem YU(hn:n<115792089237316195423570985008687907853269984665640564039457584007913129639936):aK prog 144 #[o8 n] K F (.bool (decide (n<cL))):=by
 refine aB.en func144 ntmps144 ?_;refine aj "a." λe=> ?_;refine aj "w" ?_;refine WL.call (vs:=[]) call206 trivial (Cq) Z ?_;rintro _ b ⟨rfl,k⟩;subst b;refine aP "z" λj=> ?_;refine aP "AG" ?_;refine WC.vU 0 [2] Z (by simp only[l8,mh,filter_cons,filter_nil,any_cons,any_nil,Nat.reduceBEq,Bool.or_false,Bool.or_true,Bool.not_true,Bool.not_false,if_true,if_false,Bool.false_eq_true];rfl) (by simp only[l8,mh,filter_cons,filter_nil,any_cons,any_nil,Nat.reduceBEq,Bool.or_false,Bool.or_true,Bool.not_true,Bool.not_false,if_true,if_false,Bool.false_eq_true];rfl)<|UA.val 0 Z (λ_=>V.kM zJ (ak Z)) ?_;refine UA.val 1 Z (λ_=>V.kM zJ (ak Z)) ?_;refine UA.call (vs:=[_,_]) 2 Z call207 (λ_=>⟨ak Z,ak Z,trivial⟩) (λd a=>aaw ((Seq.pz (jl _)).up.sat a) ((Seq.pz (jl _)).sat a) (bL aN _ _) (bL aN _ _) aN aN) ?_;refine UA.val 3 Z (λ_=>V.lss (ak Z) (ak Z)) ?_;refine aP "~a4(" λBS=> ?_;simp only[map_cons,map_nil,cons_append,nil_append];refine aj "~J:" ?_;rw[yA hn,yA Qs];congr 1;unfold rM;split
 ·next h=>simp[h]
 ·next h=>split<;>simp[h]
theorem J6(hs:Seq K F A m 1 (av .u8 xs))(hx:aA 256 xs)(hm:m≤2000):aK prog 208 #[.slice A m cap] K F (o8 (vl 256 xs%cL)):=by
 obtain⟨x,b⟩:∃x,x=vl 256 xs:=⟨_,Z⟩;rw[←b];refine aB.en func208 ntmps208 ?_;refine aP "az" λu=> ?_;refine aj "Q" ?_;refine WL.call (vs:=[]) call206 trivial (Cq) Z ?_;rintro _ n ⟨rfl,B⟩;subst n;refine aP "z" λy=> ?_;refine aP "AQz" λj=> ?_;refine aj "ce" ?_;refine WL.val (V.kM zJ (ak Z)) Z<|WL.c2 call260 Z Z (abv hs.up.up.up (Seq.pz (jl _)).up hx (bL aN _ _) hm aN (by rw[yA Qs];decide)) Z ?_;rintro _ _ ⟨r,e,d,rfl,X,rfl⟩;rw[yA Qs,←b] at d;have o7:x%cL<cL:=mod_lt _ aN;have a:=By.le e (k:=32) (by rw[d];exact Nat.lt_trans o7 Qs);have Dq:=e.lt;rw[d] at Dq;refine aj "Hw" ?_;refine WL.val (V.kM zJ (ak Z)) Z (WL.mv Z Z ?_);refine WL.sub (H':=ah j 97 (av .u8 (replicate 32 0))::r.E::ah u 97 (av .u8 (replicate 32 0))::F) (Sub.refl _) (λw h=>h.bg 5 [2,0,4] Z)<|WL.yY dO (ak Z) (ak Z) ((By.seq e).up) a (jB _ _) (bT.front (by rw[au,au,aI,length_replicate];omega)) Z ?_;rw[d,abt Dq a];refine aP "QBA6" ?_;exact aF.ret (H':=F) (bJ.one Z (R1.dh (l:=bG 256 32 (x%cL)) Z ⟨isAgg97,sizeOf97⟩)) eO ⟨Z,Z⟩
theorem afB(hn:n<115792089237316195423570985008687907853269984665640564039457584007913129639936):aK prog 183 #[o8 n] K F (o8 (agP n)):=by
 refine aB.en func183 ntmps183 ?_;refine aj "a." λb=> ?_;refine aP "z" λa=> ?_;refine aP "Q~~*" ?_;refine WL.val (V.d9 (v:= .int .u8 (((bG 256 32 n).getD 0 0:Nat):Int)) isAgg5 (ak Z) (λ_=>by repeat (first | exact Rd.nat (by rw[aI];decide) | apply Rd.up))) Z<|WL.val (V.CY (j:=248) 8 (ak Z) (ak Z)) Z (aP "~~*~BQ~~o" ?_);refine WL.val (V.d9 (v:= .int .u8 ((((bG 256 32 n).set 0 ((bG 256 32 n).getD 0 0 &&& 248)).getD 31 0:Nat):Int)) isAgg5 (ak Z) (λ_=>by repeat (first | exact Rd.nat (by rw[length_set,aI];decide) | apply Rd.up))) Z<|WL.val (V.CY (j:=63) 8 (ak Z) (ak Z)) Z (WL.val (V.Zv (j:=64) 8 (ak Z) (ak Z)) Z (aP "~~o~BG" ?_));rw[ah2];refine aP "pBA6" ?_;exact aF.ret (H':=F) (bJ.one Z (R1.dh (l:=bG 256 32 (agP n)) Z ⟨isAgg97,sizeOf97⟩)) eO ⟨Z,Z⟩
theorem aeJ(hs:Seq K H A m 1 (av .u8 xs))(hb:Seq K H (some ⟨b,0,none⟩) 32 1 (av .u8 (bG 256 32 n)))(hx:aA 256 xs)(hm:m≤2000)(hn:n<115792089237316195423570985008687907853269984665640564039457584007913129639936) :
 aB prog 272 #[.slice A m cap,ptr b 0] K H (λv H'=>∃r:By,r.Ok∧r.n=vl 256 xs+n∧v=r.v∧∃X,H'=r.E::X::H):=by
 refine aB.en func272 ntmps272 ?_;refine aj "ai" ?_;refine WL.val (V.kM zJ (ak Z)) Z (WL.c2 call273 Z Z (aiN hs hb hx (bL aN _ _) hm aN) Z ?_);rintro _ _ ⟨r,d,a,rfl,X,rfl⟩;refine aj "d" ?_;exact qR (r.E::X::H) Z Z eO ⟨r,d,by rw[a,yA hn],Z,_,Z⟩
theorem acu(ha:a<115792089237316195423570985008687907853269984665640564039457584007913129639936)(hb:b<115792089237316195423570985008687907853269984665640564039457584007913129639936)(hc:c<115792089237316195423570985008687907853269984665640564039457584007913129639936):aK prog 237 #[o8 a,o8 b,o8 c] K F (o8 ((a*b+c)%cL)):=by
 refine aB.en func237 ntmps237 ?_;refine aj "a." λx=> ?_;refine aj "." λn=> ?_;refine aj "." λB=> ?_;refine aP "z" λy=> ?_;refine aP "Q~2t~5n0" ?_;refine WA.t 1 Z (V.kM zJ (ak Z)) ?_;refine WA.t 2 Z (V.kM zJ (ak Z)) ?_;refine WA.o 3 Z ?_;refine WL.c2 call274 Z Z (aiQ (Seq.pz (jl _)).up.up.up (Seq.pz (jl _)).up.up (bL aN _ _) (bL aN _ _) aN aN) Z ?_;rintro _ _ ⟨r,h,e,rfl,X,rfl⟩;rw[yA ha,yA hb] at e;have j:=By.le h (k:=64) (by rw[e];exact Nat.lt_of_lt_of_le (mul_lt_mul'' ha hb) aN);refine aj "cm4" ?_;refine WL.ny (first:=[]) (captured:=[_]) (vs:=[_]) call272 (ak Z) ⟨ak Z,trivial⟩ (aeJ (By.seq h) (Seq.pz (jl _)).up.up.up (bL aN _ _) ay hc) Z ?_;rintro _ _ ⟨u,EB,d,rfl,m,rfl⟩;rw[By.vl h,e] at d;have awJ:=By.le EB (k:=65) (by rw[d];have :=mul_lt_mul'' ha hb;rw[show (256:Nat)^65=115792089237316195423570985008687907853269984665640564039457584007913129639936*115792089237316195423570985008687907853269984665640564039457584007913129639936*256 by decide];omega);refine aj "cm5" ?_;refine WL.t1 call208 Z (J6 (By.seq EB) (bL aN _ _) ay) Z<|aj "cm6" ?_;rw[By.vl EB,d];refine aP "A*~J" ?_;exact aF.ret (H':=F) (bJ.one Z (R1.dh (l:=bG 256 32 _) Z ⟨isAgg97,sizeOf97⟩)) eO ⟨Z,Z⟩
theorem Ye:∀n:Nat,n<64→1≤n→(18446744073709551616-n) &&& 63=64-n:=by decide
theorem Mr(hp:p<18446744073709551616):p*18446744073709551616^up/18446744073709551616^i%18446744073709551616=if i=up then p else 0:=by
 have a:0<18446744073709551616:=by decide
 split
 ·next h=>subst h;rw[Nat.mul_div_cancel _ (Nat.pow_pos a),mod_eq_of_lt hp]
 ·next h =>
  rcases Nat.lt_or_ge i up with b | b
  ·obtain⟨j,rfl⟩:∃j,up=i+(j+1):=⟨up-i-1,by omega⟩;rw[Nat.pow_add,Nat.mul_left_comm,Nat.mul_div_cancel_left _ (Nat.pow_pos a),Nat.pow_succ,←Nat.mul_assoc,mul_mod_left]
  ·have d:p*18446744073709551616^up<18446744073709551616^i:=by
    refine Nat.lt_of_lt_of_le (Nat.mul_lt_mul_of_pos_right hp (Nat.pow_pos a)) ?_;rw[Nat.mul_comm,←Nat.pow_succ];exact Nat.pow_le_pow_right a ay
   rw[div_eq_of_lt d]
theorem EZ(h:v/18446744073709551616^(i+1)=T/18446744073709551616^(i+1))(pq:v/18446744073709551616^i%18446744073709551616≠T/18446744073709551616^i%18446744073709551616):(v≤T)↔v/18446744073709551616^i%18446744073709551616<T/18446744073709551616^i%18446744073709551616:=by
 rw[Nat.pow_succ,←Nat.div_div_eq_div_mul,←Nat.div_div_eq_div_mul] at h;constructor
 ·intro b;have d:=Nat.div_le_div_right (c:=18446744073709551616^i) b;omega
 ·intro b;have d:v/18446744073709551616^i<T/18446744073709551616^i:=ay;rcases Nat.lt_or_ge T v with a | a
  ·have :=Nat.div_le_div_right (c:=18446744073709551616^i) (Nat.le_of_lt a);omega
  ·exact a
theorem LH(h:v/18446744073709551616^(i+1)=T/18446744073709551616^(i+1))(he:v/18446744073709551616^i%18446744073709551616=T/18446744073709551616^i%18446744073709551616):v/18446744073709551616^i=T/18446744073709551616^i:=by
 rw[Nat.pow_succ,←Nat.div_div_eq_div_mul,←Nat.div_div_eq_div_mul] at h;omega
theorem UE(hx:x<18446744073709551616)(h1:1≤n)(h63:n<64):aK prog 318 #[.int .u64 ((x:Nat):Int),.i (-((n:Nat):Int))] K F (.int .u64 ((pY x n:Nat):Int)):=by
 refine aB.en func318 ntmps318 ?_;refine aj "ai" ?_;refine WL.val (V.aG (v':= .int .u64 ((18446744073709551616-n:Nat):Int)) (V.FC runUnderlying3 runUnderlying232 (ak Z)) (λ_=>by congr 1;show ((-(n:Int))%18446744073709551616)=_;omega)) Z<|WL.val (V.CY (j:=63) 64 (ak Z) (ak Z) (λ_=>⟨by show 18446744073709551616-n<18446744073709551616;omega,by decide⟩)) Z ?_;rw[Ye n h63 h1];refine aj "0" ?_;refine WL.val (V.G7 (M:=18446744073709551616) (ak Z) (ak Z)) Z (aj "x" ?_);refine WL.val (V.ake (i:=64) (M:=18446744073709551616) (ak Z) (ak Z)) Z (aP "~%" ?_);rw[show 64-(64-n)=n by omega];exact WL.val (V.Zv (i:=x*2^(64-n)%18446744073709551616) (j:=x/2^n) 64 (ak Z) (ak Z) (λ_=>⟨mod_lt _ aN,Nat.lt_of_le_of_lt (div_le_self _ _) hx⟩)) Z<|aj "d+" trivial
theorem iq(hx:x<18446744073709551616)(h1:1≤n)(h63:n<64):aK prog 277 #[.int .u64 ((x:Nat):Int),.i ((n:Nat):Int)] K F (.int .u64 ((pY x n:Nat):Int)):=by
 refine aB.en func277 ntmps277 ?_;refine aj "a0~~_" ?_;exact WL.t2 call318 Z Z (UE hx h1 h63) Z<|aj "d+" trivial
theorem afp(hs:Seq K F A m 1 (av .u64 (bG 18446744073709551616 m x)))(pI:Seq K F B m2 1 (av .u64 (bG 18446744073709551616 m2 y)))(uI:x<18446744073709551616^m)(hyl:y<18446744073709551616^m2)(hm:m≤100)(hm2:m2≤100) :
 aB prog 316 #[.slice A m cap,.slice B m2 cap2] K F (λv H'=>∃b,v= .slice (some ⟨b,0,none⟩) (m+m2) (m+m2)∧H'=ah b 306 (av .u64 (bG 18446744073709551616 (m+m2) (x*y)))::F):=by
 have gL:∀ {i:Nat},i<m→Rd K F (A.map (·.add i)) (.int .u64 ((x/18446744073709551616^i%18446744073709551616:Nat):Int)):=λ{i} hi=>by
  have a:=Seq.qH hs hi
  rwa [bV _ _ _ _ hi] at a
 have n:∀ {i:Nat},i<m2→Rd K F (B.map (·.add i)) (.int .u64 ((y/18446744073709551616^i%18446744073709551616:Nat):Int)):=λ{i} hi=>by
  have a:=Seq.qH pI hi
  rwa [bV _ _ _ _ hi] at a
 refine aB.en func316 ntmps316 ?_;refine aP "aijbj~W" ?_;refine WL.Vf (m:=m+m2) underlying329 Vn (ak Z) (ak Z) (λd=>aj "fjR" ?_);refine WC.loop (σ:=Nat×List Nat) (λs=>[(0,.slice A m cap),(1,.slice B m2 cap2),(5,.slice (some ⟨d,0,none⟩) (m+m2) (m+m2)),(20,.slice A m cap),(21,.i ((m:Nat):Int)),(22,.i ((s.1:Nat):Int))]) (λs=>ah d 306 (av .u64 s.2)::F)
  (λs=>s.1≤m∧s.2.length=m+m2∧aA 18446744073709551616 s.2∧(∀j,s.1+m2≤j→s.2.getD j 0=0)∧vl 18446744073709551616 s.2=x%18446744073709551616^s.1*y) (λs=>m-s.1) (0,replicate (m+m2) 0) ⟨zero_le _,length_replicate,aA.wJ aN,λj _=>y7 _ _,by rw[GY];simp[mod_one]⟩ bC cO ?_
 rintro⟨i,wide⟩ ⟨hi,hl,nS,hz,hv⟩;dsimp only at hi hl nS hz hv ⊢;refine aP "a~lGJ" (aW (λr=> ?_) λr=> ?_)
 ·simp only[cZ] at r;refine aj "Y" ?_;refine WL.val (V.jW (v:= .int .u64 ((x/18446744073709551616^i%18446744073709551616:Nat):Int)) z8 (ak Z) (ak Z) (hr:=λ_=>(gL r).up)) Z<|WL.val (V.d9 (v:= .int .u64 ((x/18446744073709551616^i%18446744073709551616:Nat):Int)) isAgg306 (ak Z) (λ_=>(gL r).up)) Z<|aj "lt" ?_;have l:x/18446744073709551616^i%18446744073709551616<18446744073709551616:=mod_lt _ aN;refine aj "pfjR" ?_;refine WC.loop (σ:=Nat×List Nat×Nat) (λs=>[(0,.slice A m cap),(1,.slice B m2 cap2),(5,.slice (some ⟨d,0,none⟩) (m+m2) (m+m2)),(20,.slice A m cap),(21,.i ((m:Nat):Int)),(22,.i ((i:Nat):Int)),(6,.i ((i:Nat):Int)),(7,.int .u64 ((x/18446744073709551616^i%18446744073709551616:Nat):Int)),(27,.slice B m2 cap2),(28,.i ((m2:Nat):Int)),(29,.i ((s.1:Nat):Int)),(8,.int .u64 ((s.2.2:Nat):Int))]) (λs=>ah d 306 (av .u64 s.2.1)::F)
   (λs=>s.1≤m2∧s.2.1.length=m+m2∧aA 18446744073709551616 s.2.1∧(∀j,i+m2≤j→s.2.1.getD j 0=0)∧s.2.2<18446744073709551616∧vl 18446744073709551616 s.2.1+s.2.2*18446744073709551616^(i+s.1)=x%18446744073709551616^i*y+x/18446744073709551616^i%18446744073709551616*(y%18446744073709551616^s.1)*18446744073709551616^i) (λs=>m2-s.1) (0,wide,0) ⟨zero_le _,hl,nS,hz,(by show 0<_;decide),by dsimp only;rw[hv];simp[mod_one]⟩ bC cO ?_
  rintro⟨k,wd,cy⟩ ⟨hk,RY,uM,JN,Y5,Gf⟩;dsimp only at hk RY uM JN Y5 Gf ⊢;refine aP "a~lGJ" (aW (λa=> ?_) λa=> ?_)
  ·simp only[cZ] at a;refine aj "Y" ?_;refine WL.val (V.jW (v:= .int .u64 ((y/18446744073709551616^k%18446744073709551616:Nat):Int)) z8 (ak Z) (ak Z) (hr:=λ_=>(n a).up)) Z<|WL.val (V.d9 (v:= .int .u64 ((y/18446744073709551616^k%18446744073709551616:Nat):Int)) isAgg306 (ak Z) (λ_=>(n a).up)) Z<|aj "lt" ?_;have e:y/18446744073709551616^k%18446744073709551616<18446744073709551616:=mod_lt _ aN;have Gh:=uM.at_ aN (i+k);refine aj "gb" ?_;refine WL.t2 call293 Z Z (ku l e) Z<|aP "Hwixb~W~*~4~=H0~00~=HOx~Wxb~0~*~Bop=>" ?_;have hm:=TU l e Gh Y5;refine⟨(k+1,_,XF (x/18446744073709551616^i%18446744073709551616) (y/18446744073709551616^k%18446744073709551616) (wd.getD (i+k) 0) cy),⟨by show k+1≤m2;omega,by show (wd.set _ _).length=_;rw[length_set];exact RY,uM.set (mod_lt _ aN),λj u=> ?_,NY _ _ _ _, ?_⟩,(by show m2-(k+1)<m2-k;omega),.cons Z bC,λw h=>h⟩
   ·dsimp only;rw[getD_set_ne ay];exact JN j u
   ·dsimp only;rw[mod_succ y,Qy,←Nat.add_assoc i k 1,Nat.pow_succ];exact Rn Gf (Hf _ _ _ _ ay) hm
  ·simp only[cZ] at a;refine WC.exit ?_;obtain rfl:k=m2:=by omega
   rw[mod_eq_of_lt hyl] at Gf;refine aP "gxj~Wb~*~Bcp=>" ?_;refine⟨(i+1,wd.set (i+k) cy),⟨by show i+1≤m;omega,by show (wd.set _ _).length=_;rw[length_set];exact RY,uM.set Y5,λj u=> ?_, ?_⟩,(by show m-(i+1)<m-i;omega),.cons Z bC,λw h=>h⟩
   ·dsimp only at u ⊢;rw[getD_set_ne ay];exact JN j ay
   ·dsimp only;have a:=Hf 18446744073709551616 wd (i+k) cy ay;rw[JN (i+k) (Nat.le_refl _),Nat.zero_mul,Nat.add_zero] at a;rw[a,Gf,mod_succ x,Nat.add_mul];congr 1;simp only[Nat.mul_assoc,Nat.mul_comm,Nat.mul_left_comm]
 ·simp only[cZ] at r;refine aj "W" ?_;obtain rfl:i=m:=by omega
  rw[mod_eq_of_lt uI] at hv;have C:av .u64 wide=av .u64 (bG 18446744073709551616 (i+m2) (x*y)):=by rw[←hv,ng nS hl]
  rw[C];refine aj "gd" ?_;exact aF.ret (H':=ah d 306 (av .u64 (bG 18446744073709551616 (i+m2) (x*y)))::F) (bJ.tmp Z Z) cO ⟨_,Z,Z⟩
theorem JX(hs:Seq K F A m 1 (av .u64 (bG 18446744073709551616 m v)))(hv:v<18446744073709551616^m)(hm:m≤100)(hp:p<18446744073709551616)(nD:up<m) :
 aK prog 317 #[.slice A m cap,.int .u64 ((p:Nat):Int),.i ((up:Nat):Int)] K F (.bool (decide (v≤p*18446744073709551616^up))):=by
 have j:p*18446744073709551616^up<18446744073709551616^m:=by
  refine Nat.lt_of_lt_of_le (Nat.mul_lt_mul_of_pos_right hp (Nat.pow_pos aN)) ?_;rw[Nat.mul_comm,←Nat.pow_succ];exact Nat.pow_le_pow_right aN ay
 have gL:∀ {i:Nat},i<m→Rd K F (A.map (·.add i)) (.int .u64 ((v/18446744073709551616^i%18446744073709551616:Nat):Int)):=λ{i} hi=>by
  have b:=Seq.qH hs hi
  rwa [bV _ _ _ _ hi] at b
 refine aB.en func317 ntmps317 ?_;refine aj "afj~Dos" ?_;refine WC.loop (σ:=Nat) (λk=>[(0,.slice A m cap),(1,.int .u64 ((p:Nat):Int)),(2,.i ((up:Nat):Int)),(7,.i ((k:Int)-1))]) (λ_=>F) (λk=>k≤m∧v/18446744073709551616^k=p*18446744073709551616^up/18446744073709551616^k) (λk=>k) m ⟨Nat.le_refl _,by rw[div_eq_of_lt hv,div_eq_of_lt j]⟩ bC cO ?_;rintro k ⟨l,d⟩;refine aj "r~gh" (aW (λaL=> ?_) λaL=> ?_)
 ·simp only[cZ] at aL;obtain⟨i,rfl⟩:∃q,k=q+1:=⟨k-1,by omega⟩;rw[show ((i+1:Nat):Int)-1=((i:Nat):Int) by omega];have hd:=Mr (i:=i) (up:=up) hp;refine aj "Eafb" ?_;refine WL.val (V.G5 (ak Z) (ak Z)) Z<|aj "h" (aW (λb=> ?_) λb=> ?_)
  ·simp only[cZ] at b;rw[if_pos b] at hd;refine aj "g0" ?_;refine WL.val (V.jW (v:= .int .u64 ((v/18446744073709551616^i%18446744073709551616:Nat):Int)) z8 (ak Z) (ak Z) (hr:=λ_=>gL ay)) Z<|WL.val (V.d9 (v:= .int .u64 ((v/18446744073709551616^i%18446744073709551616:Nat):Int)) isAgg306 (ak Z) (λ_=>gL ay)) Z<|aP "b~~~ch" (aW (λa=> ?_) λa=> ?_)
   ·simp only[oK] at a;rw[←hd] at a;refine aj "eb" ?_;refine WL.val (V.jW (v:= .int .u64 ((v/18446744073709551616^i%18446744073709551616:Nat):Int)) z8 (ak Z) (ak Z) (hr:=λ_=>gL ay)) Z<|WL.val (V.d9 (v:= .int .u64 ((v/18446744073709551616^i%18446744073709551616:Nat):Int)) isAgg306 (ak Z) (λ_=>gL ay)) Z<|aP "b~ld:" ?_;have e:=EZ d a;rw[hd] at e;congr 1;exact decide_eq_decide.2 e.symm
   ·simp only[oK] at a;rw[←hd] at a;refine aj "qg~DN" ?_;refine⟨i,⟨by show i≤m;omega,LH d (by first | exact a | omega)⟩,(by show i<i+1;omega),.cons Z bC,λw h=>h⟩
  ·simp only[cZ] at b;rw[if_neg b] at hd;refine aj "Tb" ?_;refine WL.val (V.jW (v:= .int .u64 ((v/18446744073709551616^i%18446744073709551616:Nat):Int)) z8 (ak Z) (ak Z) (hr:=λ_=>gL ay)) Z<|WL.val (V.d9 (v:= .int .u64 ((v/18446744073709551616^i%18446744073709551616:Nat):Int)) isAgg306 (ak Z) (λ_=>gL ay)) Z<|aP "b~~~ch" (aW (λa=> ?_) λa=> ?_)
   ·simp only[oK] at a;rw[←hd] at a;refine aj "eb" ?_;refine WL.val (V.jW (v:= .int .u64 ((v/18446744073709551616^i%18446744073709551616:Nat):Int)) z8 (ak Z) (ak Z) (hr:=λ_=>gL ay)) Z<|WL.val (V.d9 (v:= .int .u64 ((v/18446744073709551616^i%18446744073709551616:Nat):Int)) isAgg306 (ak Z) (λ_=>gL ay)) Z<|aP "b~ld:" ?_;have e:=EZ d a;rw[hd] at e;congr 1;exact decide_eq_decide.2 e.symm
   ·simp only[oK] at a;rw[←hd] at a;refine aj "qg~DN" ?_;refine⟨i,⟨by show i≤m;omega,LH d (by first | exact a | omega)⟩,(by show i<i+1;omega),.cons Z bC,λw h=>h⟩
 ·simp only[cZ] at aL;refine aj "W" ?_;obtain rfl:k=0:=by omega
  rw[Nat.pow_zero,Nat.div_one,Nat.div_one] at d;refine aj "pd:" ?_;rw[←d];simp
theorem abr(hq:q<2)(hr:r<64)(hn:n%2^(64*q+r+1)=0)(hs:n<18446744073709551616^2):(bG 18446744073709551616 2 n).set q ((bG 18446744073709551616 2 n).getD q 0 ||| 1*2^r%18446744073709551616)=bG 18446744073709551616 2 (n+2^(64*q+r)):=by
 have C:2^(r+1)≤18446744073709551616:=by rw[show (18446744073709551616:Nat)=2^64 by decide];exact Nat.pow_le_pow_right aN ay
 have D:(2:Nat)^(r+1)=2*2^r:=by rw[Nat.pow_succ,Nat.mul_comm]
 obtain⟨P,k⟩:∃P,P=2^r:=⟨_,Z⟩;have hd:∃e,18446744073709551616=2^(r+1)*e:=⟨2^(64-(r+1)),by rw[←Nat.pow_add,show r+1+(64-(r+1))=64 by omega]⟩;have RI:∀d,d%2^(r+1)=0→d ||| 1*2^r%18446744073709551616=d+P:=λd a=>by
  rw[Nat.one_mul,mod_eq_of_lt (show 2^r<18446744073709551616 by omega),show d=d/2^(r+1)*2^(r+1) by have :=div_add_mod d (2^(r+1));rw[a,Nat.mul_comm] at this;omega,uU ay,k]
 have ahR:∀d,d%2^(r+1)=0→d%18446744073709551616%2^(r+1)=0:=λd a=>by
  obtain⟨e,b⟩:=hd;rw[b,mod_mul_right_mod,a]
 have o7:∀d,d%2^(r+1)=0→d%18446744073709551616+P<18446744073709551616:=λd a=>by
  have l:=ahR d a;have B:d%18446744073709551616<18446744073709551616:=mod_lt _ aN;obtain⟨e,b⟩:=hd;have u:2^(r+1)*(d%18446744073709551616/2^(r+1))=d%18446744073709551616:=by have :=div_add_mod (d%18446744073709551616) (2^(r+1));omega
  have y:d%18446744073709551616/2^(r+1)<e:=Nat.div_lt_of_lt_mul (by rw[←b];exact B);have x:2^(r+1)*(d%18446744073709551616/2^(r+1)+1)≤2^(r+1)*e:=mul_le_mul_left _ y;rw[Nat.mul_add,Nat.mul_one,u,←b] at x;have j:0<2^r:=Nat.pow_pos aN;omega
 rw[show (2:Nat)^(64*q+r)=18446744073709551616^q*P by rw[Nat.pow_add,Nat.pow_mul,k]];rcases (show q=0∨q=1 by omega) with rfl | rfl
 ·have hn:n%2^(r+1)=0:=by rwa [Nat.mul_zero,Nat.zero_add] at hn
  have m:=o7 n hn;show [n%18446744073709551616 ||| 1*2^r%18446744073709551616,n/18446744073709551616%18446744073709551616]=[(n+18446744073709551616^0*P)%18446744073709551616,(n+18446744073709551616^0*P)/18446744073709551616%18446744073709551616];rw[RI _ (ahR n hn),Nat.pow_zero,Nat.one_mul,show (n+P)%18446744073709551616=n%18446744073709551616+P by omega,show (n+P)/18446744073709551616=n/18446744073709551616 by omega]
 ·have hn:n/18446744073709551616%2^(r+1)=0:=by
   have l:n%(2^64*2^(r+1))=0:=by rw[←Nat.pow_add,show 64+(r+1)=64*1+r+1 by omega];exact hn
   rw[show (18446744073709551616:Nat)=2^64 by decide];rw[mod_mul] at l;have j:0<2^64:=by decide
   rcases eq_zero_or_pos (n/2^64%2^(r+1)) with h | h
   ·exact h
   ·have :=Nat.mul_pos j h;omega
  have m:=o7 _ hn;show [n%18446744073709551616,n/18446744073709551616%18446744073709551616 ||| 1*2^r%18446744073709551616]=[(n+18446744073709551616^1*P)%18446744073709551616,(n+18446744073709551616^1*P)/18446744073709551616%18446744073709551616];rw[RI _ (ahR _ hn),Nat.pow_one,show (n+18446744073709551616*P)%18446744073709551616=n%18446744073709551616 by omega,show (n+18446744073709551616*P)/18446744073709551616%18446744073709551616=n/18446744073709551616%18446744073709551616+P by omega]
theorem Fq(hp:p<1000)(h2:2≤pw)(h3:pw≤3):aK prog 276 #[.i ((p:Nat):Int),.i ((pw:Nat):Int)] K F (.int .u64 ((fQ p pw (64*pw) 71 0%18446744073709551616:Nat):Int)):=by
 obtain⟨R,B⟩:∃R,R=fQ p pw (64*pw) 71 0:=⟨_,Z⟩;rw[←B];refine aB.en func276 ntmps276 ?_;refine aj "aw" ?_;refine WL.Vf (m:=2) underlying329 Vn (ak Z) (ak Z) (λe=>aj "taos" ?_);refine WC.loop (σ:=Nat×Nat×Nat) (λs=>[(0,.i ((p:Nat):Int)),(1,.i ((pw:Nat):Int)),(5,.slice (some ⟨s.2.1,0,none⟩) 2 2),(6,.i ((s.1:Int)-1))]) (λs=>ah s.2.1 306 (av .u64 (bG 18446744073709551616 2 s.2.2))::F)
  (λs=>s.1≤71∧s.2.2%2^s.1=0∧s.2.2+2^s.1≤2^71∧fQ p pw (64*pw) s.1 s.2.2=R) (λs=>s.1) (71,e,0) ⟨Nat.le_refl _,zero_mod _,by show 0+2^71≤2^71;omega,B.symm⟩ bC (λw h=>Sat.aT h (by rw[qz])) ?_
 rintro⟨k,b5,n⟩ ⟨hk,h0,hl,hq⟩;dsimp only at hk h0 hl hq ⊢;refine aj "r~gh" (aW (λaL=> ?_) λaL=> ?_)
 ·simp only[cZ] at aL;obtain⟨i,rfl⟩:∃q,k=q+1:=⟨k-1,by omega⟩;rw[show ((i+1:Nat):Int)-1=((i:Nat):Int) by omega];rw[Nat.pow_succ] at hl;rw[fQ] at hq;have ajS:i/64<2:=ay;have u:n<18446744073709551616^2:=Nat.lt_of_lt_of_le (Nat.lt_of_lt_of_le (by have :0<2^i:=Nat.pow_pos aN;omega) hl) aN;have alj:=abr (q:=i/64) (r:=i%64) (n:=n) ajS (mod_lt _ aN) (by rw[show 64*(i/64)+i%64+1=i+1 by omega];exact h0) u;rw[show 64*(i/64)+i%64=i by omega] at alj;refine aj "EL~Xn0" ?_;refine WA.t 1 Z (V.Lc (j:=0) z8 (ak Z) (ak Z)) ?_;refine aP "~~T2n3" ?_;refine WA.t 4 Z (V.Lc (j:=1) z8 (ak Z) (ak Z)) ?_;refine aP "~~T5m6" ?_;refine WL.buildSlice (E:=306) (cs:=av .u64 (bG 18446744073709551616 2 n)) (vs:=[(0,_),(1,_)]) ⟨ak Z,ak Z,trivial⟩ Z (Ng _ _) Z (λa=>aP "c~A7~rL~<M0M1" ?_);refine UA.val 2 Z (λ_=>V.XI (j:=64) (ak Z) (ak Z)) ?_;refine aP "~_3" ?_;refine UA.Ru 4 Z (λ_=>V.d9 (v:= .int .u64 (((bG 18446744073709551616 2 n).getD (i/64) 0:Nat):Int)) isAgg306 (ak Z) (λ_=>Rd.nat (by rw[aI];exact ajS))) ?_;refine aP "M5" ?_;refine UA.val 6 Z (λ_=>V.WJ (j:=64) (ak Z) (ak Z)) ?_;refine UA.val 7 Z (λ_=>V.G7 (i:=1) (M:=18446744073709551616) (ak Z) (ak Z)) ?_;refine UA.val 8 Z (λ_=>V.Zv (i:=(bG 18446744073709551616 2 n).getD (i/64) 0) (j:=1*2^(i%64)%18446744073709551616) 64 (ak Z) (ak Z) (λ_=>⟨aA.at_ (bL aN _ _) aN _,mod_lt _ aN⟩)) ?_;refine aP "~_9" ?_;refine UA.at_ 10 Z sizeOf306 (λ_=>ak Z) (λ_=>ak Z) ?_;refine aP "(" λBS=> ?_;simp only[map_cons,map_nil,cons_append,nil_append];refine WC.seq ?_;rw[alj];obtain⟨x,y⟩:∃x,x=n+2^i:=⟨_,Z⟩;rw[←y] at hq ⊢;have UY:x<18446744073709551616^2:=Nat.lt_of_le_of_lt (show x≤2^71 by omega) aN;refine aP "gf~~~bR" ?_;refine WC.loop (σ:=Nat×Nat×aH) (λs=>[(0,.i ((p:Nat):Int)),(1,.i ((pw:Nat):Int)),(5,.slice (some ⟨b5,0,none⟩) 2 2),(6,.i ((i:Nat):Int)),(7,.slice (some ⟨a,0,none⟩) 2 2),(8,.slice (some ⟨s.2.1,0,none⟩) (2*(s.1+1)) (2*(s.1+1))),(33,.i ((pw-1:Nat):Int)),(34,.i ((s.1:Nat):Int))]) (λs=>s.2.2::ah a 306 (av .u64 (bG 18446744073709551616 2 x))::ah b5 306 (av .u64 (bG 18446744073709551616 2 n))::F)
   (λs=>s.1≤pw-1∧Sl.Seq K (s.2.2::ah a 306 (av .u64 (bG 18446744073709551616 2 x))::ah b5 306 (av .u64 (bG 18446744073709551616 2 n))::F) (some ⟨s.2.1,0,none⟩) (2*(s.1+1)) 1 (av .u64 (bG 18446744073709551616 (2*(s.1+1)) (x^(s.1+1))))) (λs=>pw-1-s.1) (0,a,Zt) ⟨zero_le _,by show Sl.Seq _ _ _ 2 1 (av .u64 (bG 18446744073709551616 2 (x^1)));rw[Nat.pow_one];exact (Seq.pz (aI _ _ _)).up⟩ bC (λw h=>h.emp) ?_
  rintro⟨j,b8,E⟩ ⟨hj,nT⟩;dsimp only at hj nT ⊢;have b:x^(j+1)<18446744073709551616^(2*(j+1)):=by rw[Nat.pow_mul];exact Nat.pow_lt_pow_left UY ay
  refine aP "a~lGJ" (aW (λd=> ?_) λd=> ?_)
  ·simp only[cZ] at d;refine aj "Egb" ?_;refine WL.c2 call316 Z Z (afp nT (Seq.pz (aI _ _ _)).up b UY ay aN) Z ?_;rintro _ _ ⟨e,rfl,rfl⟩;refine aP "op=>" ?_;exact⟨(j+1,e,_),⟨by show j+1≤pw-1;omega,Seq.pz (aI _ _ _)⟩,(by show pw-1-(j+1)<pw-1-j;omega),.cons Z bC,λw h=>h.bg 4 [0,2,3] Z⟩
  ·simp only[cZ] at d;refine aj "W" ?_;obtain rfl:pw=j+1:=by omega
   refine aj "gb" ?_;refine WL.val (V.qQ (i:=p) runUnderlying3 runUnderlying306 (ak Z) (λ_=>kN (M:=18446744073709551616) Z Z ay)) Z<|WL.mv Z Z (WL.t3 call317 Z Z Z (JX nT b ay ay ay) Z ?_);refine aj "h" (aW (λbA=> ?_) λbA=> ?_)
   ·simp only[cZ] at bA;have EJ:=bA;rw[show (18446744073709551616:Nat)^(j+1)=2^(64*(j+1)) by rw[Nat.pow_mul]] at EJ;have l:n%2^i=0:=by
     rw[Nat.pow_succ,mod_mul] at h0;omega
    rw[show ble (x^(j+1)) (p*2^(64*(j+1)))=true from ble_eq_true_of_le EJ,cond_true] at hq;refine aj "gO~DN" ?_;exact⟨(i,a,x),⟨by show i≤71;omega,by show x%2^i=0;rw[y,add_mod_right];exact l,by show x+2^i≤2^71;omega,hq⟩,(by show i<i+1;omega),.cons Z bC,λw h=>h.bg 3 [1] Z⟩
   ·simp only[cZ] at bA;have EJ:=bA;rw[show (18446744073709551616:Nat)^(j+1)=2^(64*(j+1)) by rw[Nat.pow_mul]] at EJ;have l:n%2^i=0:=by
     rw[Nat.pow_succ,mod_mul] at h0;omega
    rw[show ble (x^(j+1)) (p*2^(64*(j+1)))=false from Bool.eq_false_iff.2 λh=>EJ (le_of_ble_eq_true h),cond_false] at hq;refine aj "qg~DN" ?_;exact⟨(i,b5,n),⟨by show i≤71;omega,l,by show n+2^i≤2^71;omega,hq⟩,(by show i<i+1;omega),.cons Z bC,λw h=>h.bg 3 [2] Z⟩
 ·simp only[cZ] at aL;refine aj "W" ?_;obtain rfl:k=0:=by omega
  rw[fQ] at hq;refine aj "g" ?_;refine WL.val (V.Lc (j:=0) z8 (ak Z) (ak Z)) Z (aP "~4d:" ?_);rw[←hq]
def qA(x:Nat):List Nat→Bool
 | []=>true
 | p::l=>if p*p>x then true else if x%p=0 then false else qA x l
def kC:Nat→List Nat
 | 0=>[]
 | k+1=>bif qA (k+2) (kC k) then kC k++[k+2] else kC k
theorem XE(k:Nat):∃r,kC (k+1)=kC k++r:=by
 rw[kC];cases qA (k+2) (kC k)
 ·exact⟨[],by simp⟩
 ·exact⟨_,Z⟩
theorem IZ:∀(j k:Nat),∃r,kC (k+j)=kC k++r
 | 0,k=>⟨[],by simp⟩
 | j+1,k=>by
  obtain⟨r,h⟩:=IZ j k;obtain⟨b,a⟩:=XE (k+j);exact⟨r++b,by rw[←Nat.add_assoc,a,h,append_assoc]⟩
def upL:Nat→List Nat→Nat→List Nat
 | 0,l,_=>l
 | k+1,l,x=>bif qA x l then upL k (l++[x]) (x+1) else upL k l (x+1)
theorem Rh:∀(j k:Nat),upL j (kC k) (k+2)=kC (k+j)
 | 0,k=>rfl
 | j+1,k=>by
  rw[upL,←Nat.add_assoc,Nat.add_right_comm k j 1,←Rh j (k+1),kC];cases qA (k+2) (kC k)<;>rfl
theorem PI:kC 408=fB:=by
 have h:upL 408 [] 2=kC 408:=by have h:=Rh 408 0;rw[Nat.zero_add] at h;exact h
 have a:upL 408 [] 2=fB:=by kernel_rfl
 exact h.symm.trans a
theorem Jc:∀ {k p:Nat},p∈kC k→2≤p∧p≤k+1
 | k+1,p,h=>by
  rw[kC] at h;cases hp:qA (k+2) (kC k)<;>rw[hp] at h
  ·have :=Jc (k:=k) h;omega
  ·simp only[cond_true,mem_append,mem_singleton] at h;rcases h with h | h
   ·have :=Jc (k:=k) h;omega
   ·omega
theorem Ym(hk:k≤408):kC k=fB.take (kC k).length:=by
 obtain⟨r,h⟩:=IZ (408-k) k;rw[show k+(408-k)=408 by omega,PI] at h;rw[h,take_left]
theorem aaD(h:408≤k):80≤(kC k).length:=by
 obtain⟨r,a⟩:=IZ (k-408) 408;rw[show 408+(k-408)=k by omega,PI] at a;rw[a,length_append,show fB.length=80 by decide];omega
theorem drop_cons{l:List Nat}(h:i<l.length):l.drop i=l.getD i 0::l.drop (i+1):=by grind [drop_eq_getElem_cons,getD,getElem?_eq_getElem]
theorem ND(hs:Seq K F A m 1 (av .i64 l))(hl:∀p∈l,2≤p∧p≤1000)(hx:x≤1000)(hm:m≤1000) :
 aK prog 315 #[.i ((x:Nat):Int),.slice A m cap] K F (.bool (qA x l)):=by
 have e:l.length=m:=by have :=hs.len;rwa [au,Nat.mul_one] at this
 obtain⟨R,n⟩:∃R,R=qA x l:=⟨_,Z⟩;rw[←n];refine aB.en func315 ntmps315 ?_;refine aj "afjR" ?_;refine WC.loop (σ:=Nat) (λi=>[(0,.i ((x:Nat):Int)),(7,.slice A m cap),(8,.i ((m:Nat):Int)),(9,.i ((i:Nat):Int))]) (λ_=>F) (λi=>i≤m∧qA x (l.drop i)=R) (λi=>m-i) 0 ⟨zero_le _,n.symm⟩ bC cO ?_;rintro i ⟨u,a⟩;refine aP "a~lGJ" (aW (λaL=> ?_) λaL=> ?_)
 ·simp only[cZ] at aL;rw[drop_cons ay,qA] at a;obtain⟨p,j⟩:∃p,p=l.getD i 0:=⟨_,Z⟩;have RV:=hl p (by rw[j,getD,getElem?_eq_getElem ay];exact getElem_mem _);have r:p*p≤1000*1000:=Nat.mul_le_mul RV.2 RV.2;rw[←j] at a;have hr:=Seq.qH hs (show i<m by omega);rw[←j] at hr;refine aj "Ea" ?_;refine WL.val (V.jW (v:= .i ((p:Nat):Int)) eB (ak Z) (ak Z) (hr:=λ_=>hr)) Z<|WL.val (V.d9 (v:= .i ((p:Nat):Int)) isAgg3 (ak Z) (λ_=>hr)) Z<|aj "fb" ?_;refine WL.val (V.Ob (ak Z) (ak Z)) Z (WL.mv Z Z (WL.val (V.aar (ak Z) (ak Z)) Z ?_));refine aj "h" (aW (λb=> ?_) λb=> ?_)
  ·simp only[cZ] at b;rw[if_pos b] at a;refine aj "W" ?_;have k:true=R:=a;rw[←k];exact aj "pd+" trivial
  ·simp only[cZ] at b;rw[if_neg b] at a;refine aj "Tb" ?_;refine WL.val (V.WJ (ak Z) (ak Z)) Z<|aP "~~+h" (aW (λd=> ?_) λd=> ?_)
   ·simp only[cZ] at d;rw[if_pos d] at a;refine aj "D" ?_;exact qR F Z Z eO ⟨by rw[←a],Z⟩
   ·simp only[cZ] at d;rw[if_neg d] at a;refine aP "qp=>" ?_;exact⟨i+1,⟨by show i+1≤m;omega,a⟩,(by show m-(i+1)<m-i;omega),.cons Z bC,λw h=>h⟩
 ·simp only[cZ] at aL;refine aj "W" ?_;obtain rfl:i=m:=by omega
  rw[←e,drop_length,qA] at a;rw[←a];exact aj "pd+" trivial
theorem nY(hn:n≤80):aB prog 275 #[.i ((n:Nat):Int)] K F (λv H'=>∃A cap,v= .tuple #[.slice A n cap,.i 0]∧H'=aV (.slice A n cap) 3 1 n (av .i64 (fB.take n))::F):=by
 refine aB.en func275 ntmps275 ?_;refine aj "alf" ?_;refine WL.val (V.zI (j:=0) (ak Z) (ak Z)) Z (aj "%" ?_);refine WL.bI (oj:=_) Z Z Z GC.f (V.aar (j:=100) (OV.g Z id) (ak Z)) Z<|aj "Ih" (aW (λr=> ?_) λr=> ?_)
 ·skip
  refine aj "aF" ?_;exact absurd r (by simp;omega)
 ·skip
  refine aj "7taos" ?_;refine WC.loop (σ:=Nat×Option Addr×Nat) (λs=>[(0,.i ((n:Nat):Int)),(4,.slice s.2.1 (kC s.1).length s.2.2),(5,.i ((s.1+2:Nat):Int))]) (λs=>aV (.slice s.2.1 (kC s.1).length s.2.2) 3 1 (kC s.1).length (av .i64 (kC s.1))::F)
   (λs=>s.1≤408∧(kC s.1).length≤n) (λs=>408-s.1) (0,none,0) ⟨zero_le _,zero_le _⟩ bC (λw h=>h.gI _ _) ?_
  rintro⟨k,A,cp⟩ ⟨hk,hkn⟩;dsimp only at hk hkn ⊢;refine aP "rjb~lh" (aW (λb=> ?_) λb=> ?_)
  ·simp only[cZ] at b;have u:k<408:=by rcases Nat.lt_or_ge k 408 with h | h;exact h;have :=aaD h;omega
   refine aj "Yb" ?_;refine WL.t2 call315 Z Z (ND (aV.seq (by rw[au,Nat.mul_one])) (λp y=>by have :=Jc y;omega) ay ay) Z<|aj "h" (aW (λa=> ?_) λa=> ?_)
   ·skip
    refine aj "gb" ?_;refine WL.buildSlice (E:=3) (cs:=av .i64 [_]) (vs:=[(0,_)]) ⟨ak Z,trivial⟩ Z (dJ _) Z (λx=>aP "?~7" λe d aod aov=> ?_);refine aP "O=N" ?_;refine⟨(k+1,e,d),⟨by show k+1≤408;omega, ?_⟩,(by show 408-(k+1)<408-k;omega), ?_,λw h=> ?_⟩
    ·show (kC (k+1)).length≤n;rw[kC,a,cond_true,length_append];show _+1≤_;omega
    ·dsimp only;rw[kC,a,cond_true,length_append];exact .cons Z bC
    ·have B:=h.bg 2 [0] Z;dsimp only;rw[kC,a,cond_true,length_append];exact B
   ·skip
    refine aP "qg=N" ?_;refine⟨(k+1,A,cp),⟨by show k+1≤408;omega, ?_⟩,(by show 408-(k+1)<408-k;omega), ?_,λw h=> ?_⟩
    ·show (kC (k+1)).length≤n;rw[kC,a,cond_false];exact hkn
    ·dsimp only;rw[kC,a,cond_false];exact .cons Z bC
    ·dsimp only;rw[kC,a,cond_false];exact h
  ·simp only[cZ] at b;refine aj "KeF" ?_;have m:(kC k).length=n:=ay;have l:=Ym hk;rw[m] at l;rw[m,l];exact aF.ret (H':=_) (bJ.two Z (R1.tmp Z) (R1.tmp Z)) cO ⟨A,cp,Z,Z⟩
theorem qp{l:List Nat}(hn:l.length=n)(h:i<n):(l.take i++replicate (n-i) 0).set i (l.getD i 0)=l.take (i+1)++replicate (n-(i+1)) 0:=by
 obtain⟨j,rfl⟩:∃j,n=i+(j+1):=⟨n-i-1,by omega⟩;rw[set_append,length_take,Nat.min_eq_left ay,if_neg ay,Nat.sub_self,show i+(j+1)-i=j+1 by omega,replicate_succ,set_cons_zero,show i+(j+1)-(i+1)=j by omega,take_succ_eq_append_getElem ay,append_assoc];rw[getD,getElem?_eq_getElem ay];rfl
theorem C9{l:List Nat}(hm:l.map f=k)(h:i<l.length):f (l.getD i 0)=k.getD i 0:=by
 subst hm;simp[getD,h]
theorem MP:aA 1000 fB:=by unfold aA;decide
theorem yU(i n:Nat):(fB.take n).getD i 0<1000:=aA.at_ (λy a=>MP y (mem_of_mem_take a)) aN i
theorem Ni:aK prog 239 #[] K F (.agg (av .u64 Sz).toArray):=by
 have k:∀i,i<8→fQ ((fB.take 8).getD i 0) 2 (64*2) 71 0%18446744073709551616=Sz.getD i 0:=λi j=>C9 (f:=λp=>fQ p 2 128 71 0%18446744073709551616) aez (by rw[length_take];exact j);have Gs:Sz.length=8:=by decide
 obtain⟨b,uL⟩:∃b,b=Sz:=⟨_,Z⟩;obtain⟨a,qY⟩:∃a,a=fB.take 8:=⟨_,Z⟩;have l7:∀i,a.getD i 0<1000:=by rw[qY];exact λi=>yU i 8
 have JO:a.length=8:=by rw[qY];decide
 rw[←qY,←uL] at k;rw[←uL] at Gs ⊢;refine aB.en func239 ntmps239 ?_;refine aP "az" λd=> ?_;refine aP "Qz" λe=> ?_;refine aj "Q" ?_;refine WL.c1 call275 Z (nY (n:=8) aN) Z ?_;rintro _ _ ⟨A,cap,rfl,rfl⟩;refine aj "HfjR" ?_;rw[←qY];refine WC.loop (σ:=Nat×List Nat) (λs=>[(0,ptr d 0),(1,ptr e 0),(10,.slice A 8 cap),(11,.i ((8:Nat):Int)),(12,.i ((s.1:Nat):Int))]) (λs=>aV (.slice A 8 cap) 3 1 8 (av .i64 a)::ah e 309 (av .u64 s.2)::ah d 309 (av .u64 (replicate 8 0))::F)
  (λs=>s.1≤8∧s.2=b.take s.1++replicate (8-s.1) 0) (λs=>8-s.1) (0,replicate 8 0) ⟨zero_le _,Z⟩ bC cO ?_
 rintro⟨i,ws⟩ ⟨j,hw⟩;dsimp only at j hw ⊢;have UQ:ws.length=8:=by rw[hw,length_append,length_take,length_replicate];omega
 refine aP "a~lGJ" (aW (λaL=> ?_) λaL=> ?_)
 ·simp only[cZ] at aL;have hr:Rd K (aV (.slice A 8 cap) 3 1 8 (av .i64 a)::ah e 309 (av .u64 ws)::ah d 309 (av .u64 (replicate 8 0))::F) _ _:=Seq.qH (aV.seq (by rw[au,JO])) (show i<8 by omega);refine aj "Y" ?_;refine WL.val (V.jW (v:= .i ((a.getD i 0:Nat):Int)) eB (ak Z) (ak Z) (hr:=λ_=>hr)) Z<|WL.val (V.d9 (v:= .i ((a.getD i 0:Nat):Int)) isAgg3 (ak Z) (λ_=>hr)) Z<|aj "lOb" ?_;refine WL.t2 call276 Z Z ((Fq (pw:=2) (l7 i) aN aN).eq (v':= .int .u64 ((b.getD i 0:Nat):Int)) (by rw[k i ay])) Z<|aP "~K~Bcp=>" ?_;exact⟨(i+1,_),⟨by show i+1≤8;omega,by dsimp only;rw[hw];exact qp Gs ay⟩,(by show 8-(i+1)<8-i;omega),.cons Z bC,λw h=>h⟩
 ·simp only[cZ] at aL;refine aj "W" ?_;obtain rfl:i=8:=by omega
  rw[Nat.sub_self,replicate_zero,append_nil,take_of_length_le ay] at hw;rw[hw];refine aP "pBA6" ?_;exact aF.ret (H':=F) (bJ.one Z (R1.dh (l:=b) Z ⟨isAgg309,sizeOf309⟩)) eO ⟨Z,Z⟩
theorem Kh:aK prog 238 #[] K F (.agg (av .u64 Ka).toArray):=by
 have k:∀i,i<80→fQ ((fB.take 80).getD i 0) 3 (64*3) 71 0%18446744073709551616=Ka.getD i 0:=λi j=>C9 (f:=λp=>fQ p 3 192 71 0%18446744073709551616) (by rw[take_of_length_le aN];exact ad6) (by rw[length_take];exact j);have Gs:Ka.length=80:=by decide
 obtain⟨b,uL⟩:∃b,b=Ka:=⟨_,Z⟩;obtain⟨a,qY⟩:∃a,a=fB.take 80:=⟨_,Z⟩;have l7:∀i,a.getD i 0<1000:=by rw[qY];exact λi=>yU i 80
 have JO:a.length=80:=by rw[qY];decide
 rw[←qY,←uL] at k;rw[←uL] at Gs ⊢;refine aB.en func238 ntmps238 ?_;refine aP "az" λd=> ?_;refine aP "Qz" λe=> ?_;refine aj "Q" ?_;refine WL.c1 call275 Z (nY (n:=80) aN) Z ?_;rintro _ _ ⟨A,cap,rfl,rfl⟩;refine aj "HfjR" ?_;rw[←qY];refine WC.loop (σ:=Nat×List Nat) (λs=>[(0,ptr d 0),(1,ptr e 0),(10,.slice A 80 cap),(11,.i ((80:Nat):Int)),(12,.i ((s.1:Nat):Int))]) (λs=>aV (.slice A 80 cap) 3 1 80 (av .i64 a)::ah e 307 (av .u64 s.2)::ah d 307 (av .u64 (replicate 80 0))::F)
  (λs=>s.1≤80∧s.2=b.take s.1++replicate (80-s.1) 0) (λs=>80-s.1) (0,replicate 80 0) ⟨zero_le _,Z⟩ bC cO ?_
 rintro⟨i,ws⟩ ⟨j,hw⟩;dsimp only at j hw ⊢;have UQ:ws.length=80:=by rw[hw,length_append,length_take,length_replicate];omega
 refine aP "a~lGJ" (aW (λaL=> ?_) λaL=> ?_)
 ·simp only[cZ] at aL;have hr:Rd K (aV (.slice A 80 cap) 3 1 80 (av .i64 a)::ah e 307 (av .u64 ws)::ah d 307 (av .u64 (replicate 80 0))::F) _ _:=Seq.qH (aV.seq (by rw[au,JO])) (show i<80 by omega);refine aj "Y" ?_;refine WL.val (V.jW (v:= .i ((a.getD i 0:Nat):Int)) eB (ak Z) (ak Z) (hr:=λ_=>hr)) Z<|WL.val (V.d9 (v:= .i ((a.getD i 0:Nat):Int)) isAgg3 (ak Z) (λ_=>hr)) Z<|aj "lOb" ?_;refine WL.t2 call276 Z Z ((Fq (pw:=3) (l7 i) aN aN).eq (v':= .int .u64 ((b.getD i 0:Nat):Int)) (by rw[k i ay])) Z<|aP "~K~Bcp=>" ?_;exact⟨(i+1,_),⟨by show i+1≤80;omega,by dsimp only;rw[hw];exact qp Gs ay⟩,(by show 80-(i+1)<80-i;omega),.cons Z bC,λw h=>h⟩
 ·simp only[cZ] at aL;refine aj "W" ?_;obtain rfl:i=80:=by omega
  rw[Nat.sub_self,replicate_zero,append_nil,take_of_length_le ay] at hw;rw[hw];refine aP "pBA6" ?_;exact aF.ret (H':=F) (bJ.one Z (R1.dh (l:=b) Z ⟨isAgg307,sizeOf307⟩)) eO ⟨Z,Z⟩
theorem zT{l:List Nat}(hl:l.length=n)(hj:j<n):l.reverse.take j++[l.getD (n-1-j) 0]=l.reverse.take (j+1):=by grind [take_succ_eq_append_getElem,length_reverse,getD,getElem?_eq_getElem]
theorem TL(hs:Seq K F A m 1 (av .u8 l))(hm:m≤100000000):aB prog 240 #[.slice A m cap] K F (λv H'=>∃A' M cap',M=(l++lT 128 16 m).length∧v= .slice A' M cap'∧M≤cap'∧H'=aV (.slice A' M cap') 5 1 M (av .u8 (l++lT 128 16 m))::F):=by
 have b:l.length=m:=by have :=hs.len;rwa [au,Nat.mul_one] at this
 obtain⟨R,P⟩:∃R,R=(m+16)%128:=⟨_,Z⟩;refine aB.en func240 ntmps240 ?_;refine aj "ai" ?_;refine WL.sub (H':=aV (.slice none 0 0) 5 1 0 (av .u8 [])::F) (Sub.refl _) (λw h=>h.gI _ _)<|WL.Gn (m:=0) (l:=[]) underlying34 yL (ak Z) (ak Z) (λU T n RD=> ?_) hs;rw[Nat.zero_add] at n RD ⊢;refine WL.buildSlice (E:=5) (cs:=av .u8 [_]) (vs:=[(0,_)]) ⟨ak Z,trivial⟩ Z (jc _) Z (λW=>aP "?~7" λO I S D=> ?_);refine aj "ts" ?_;refine WC.loop (σ:=Nat×Option Addr×Nat) (λs=>[(0,.slice A m cap),(3,.slice s.2.1 (m+1+s.1) s.2.2)]) (λs=>aV (.slice s.2.1 (m+1+s.1) s.2.2) 5 1 (m+1+s.1) (av .u8 (l++128::replicate s.1 0))::F)
  (λs=>s.1≤127-R∧m+1+s.1≤s.2.2) (λs=>127-R-s.1) (0,O,I) ⟨zero_le _,D⟩ bC (λw h=>Sat.wm (cs':=av .u8 (l++128::replicate 0 0)) (h.bg 2 [0] Z) (by rw[nil_append,replicate_zero])) ?_
 rintro⟨z,A3,c3⟩ ⟨hz,hz3⟩;dsimp only at hz hz3 ⊢;refine aj "rj" ?_;refine WL.val (V.wN (j:=16) (ak Z) (ak Z)) Z (WL.val (V.WJ (j:=128) (ak Z) (ak Z)) Z ?_);refine aP "~~nh" (aW (λr=> ?_) λr=> ?_)
 ·simp only[oK] at r;refine aj "qsg" ?_;refine WL.buildSlice (E:=5) (cs:=av .u8 [_]) (vs:=[(0,_)]) ⟨ak Z,trivial⟩ Z (jc _) Z (λN=>aP "?~7" λC d atJ aeS=> ?_);refine aj "N" ?_;refine⟨(z+1,C,d),⟨by show z+1≤127-R;omega,by show m+1+(z+1)≤d;omega⟩,(by show 127-R-(z+1)<127-R-z;omega),.cons Z bC,λw h=> ?_⟩;have y:=Sat.wm (h.bg 2 [0] Z) (show av .u8 (l++128::replicate z 0++[0])=av .u8 (l++128::replicate (z+1) 0) by rw[append_assoc,cons_append,replicate_succ',]);exact y
 ·simp only[oK] at r;refine aj "W" ?_;obtain rfl:z=127-R:=by omega
  obtain⟨M,H⟩:∃M,M=m+1+(127-R):=⟨_,Z⟩;obtain⟨L,u⟩:∃L,L=l++128::replicate (127-R) 0:=⟨_,Z⟩;rw[←H,←u];refine aj "g" ?_;refine WL.Gx (m:=M) (q:=8) (z:= .int .u8 0) underlying34 underlying3 yL Z Z (ak Z) (ak Z) Z ay ay Z (λe x arb ahv=> ?_);rw[show av .u8 L++replicate 8 (.int .u8 0)=av .u8 (L++replicate 8 0) by rw[dx];rfl];refine aj "taos" ?_;refine WC.loop (σ:=Nat×Option Addr×Nat) (λs=>[(0,.slice A m cap),(3,.slice s.2.1 (M+8+s.1) s.2.2),(4,.i (56-8*(s.1:Int)))]) (λs=>aV (.slice s.2.1 (M+8+s.1) s.2.2) 5 1 (M+8+s.1) (av .u8 (L++replicate 8 0++(bG 256 8 (8*m)).reverse.take s.1))::F)
   (λs=>s.1≤8∧M+8+s.1≤s.2.2) (λs=>8-s.1) (0,e,x) ⟨zero_le _,ahv⟩ bC (λw h=>Sat.wm h (by rw[take_zero,append_nil])) ?_
  rintro⟨j,A3,c3⟩ ⟨hj,hj3⟩;dsimp only at hj hj3 ⊢;refine aj "r~gh" (aW (λk=> ?_) λk=> ?_)
  ·simp only[cZ] at k;rw[show (56-8*(j:Int))=((56-8*j:Nat):Int) by omega];refine aj "Egbj" ?_;refine WL.val (V.qQ (i:=m) runUnderlying3 runUnderlying306 (ak Z) (λ_=>kN (M:=18446744073709551616) Z Z ay)) Z ?_;refine WL.val (V.Tx (i:=8) (M:=18446744073709551616) (ak Z) (ak Z)) Z (aP "b~%~1" ?_);refine WL.buildSlice (E:=5) (cs:=av .u8 [_]) (vs:=[(0,_)]) ⟨ak Z,trivial⟩ Z (jc _) Z (λQ=> ?_);refine aP "?~7" λB a YW Zh=> ?_;refine aj "O~DN" ?_;refine⟨(j+1,B,a),⟨by show j+1≤8;omega,by show M+8+(j+1)≤a;omega⟩,(by show 8-(j+1)<8-j;omega),.cons Z (.cons Z (.cons (look_eq Z (by congr 1;dsimp only;omega)) (.nil _))),λw h=> ?_⟩;have y:=Sat.wm (h.bg 2 [0] Z) (show av .u8 (L++replicate 8 0++(bG 256 8 (8*m)).reverse.take j++[8*m%18446744073709551616/2^(56-8*j)%256])=av .u8 (L++replicate 8 0++(bG 256 8 (8*m)).reverse.take (j+1)) by
    rw[←zT (aI _ _ _) ay,bV _ _ _ _ ay,mod_eq_of_lt (show 8*m<18446744073709551616 by omega),show (2:Nat)^(56-8*j)=256^(8-1-j) by rw[show 56-8*j=8*(8-1-j) by omega,Nat.pow_mul],append_assoc _ _ [_]])
   exact y
  ·simp only[cZ] at k;refine aj "W" ?_;obtain rfl:j=8:=by omega
   have G:L++replicate 8 0++(bG 256 8 (8*m)).reverse.take 8=l++lT 128 16 m:=by
    rw[take_of_length_le (by rw[length_reverse,aI];decide),u,P];simp[lT]
   have J:(l++lT 128 16 m).length=M+8+8:=by
    rw[←G,u,take_of_length_le (by rw[length_reverse,aI];decide)];simp only[length_append,length_cons,length_replicate,length_reverse,aI,b];omega
   rw[G];refine aj "gd" ?_;exact qR _ Z Z cO ⟨A3,M+8+8,c3,J.symm,Z,hj3,Z⟩
end Go.Proofs.YtcedojacbhnbiaaGreat
namespace Go.Sl
open Go Go.RowKit Go.Proofs.YtcedojacbhnbiaaGreat List Nat
theorem Seq.rD(hs:Seq K H A m 1 (av k xs))(h1:l≤h)(h2:h≤m)(h3:m≤u) :
 Seq K H (if u=l then A else A.map (·.add (l*1))) (h-l) 1 (av k ((xs.drop l).take (h-l))):=by
 have r:=hs.len;rw[au] at r;refine⟨by rw[au,length_take,length_drop];omega,λi v b=> ?_⟩;have d:i<h-l:=by
  rcases Nat.lt_or_ge i (h-l) with j | j
  ·exact j
  ·rw[getElem?_eq_none (by rw[au,length_take];omega)] at b;cases b
 rw[if_neg ay];have n:=hs.rd (l+i) v (by
  rw[←b];unfold av;rw[getElem?_map,getElem?_map,getElem?_take,if_pos d,getElem?_drop])
 rw[Nat.mul_one];cases A with
 | none=>exact n
 | some a =>
  have e:(a.add l).add i=a.add (l+i):=by
   simp only[Addr.add];split<;>split<;>simp_all<;>omega
  show Rd K H (some ((a.add l).add i)) v;rw[e];exact n
end Go.Sl
namespace Go.Proofs.YtcedojacbhnbiaaGreat
open Go.Sl Go.RowKit Tryz List Nat
theorem Fx(q k:Nat)(data w:List Nat):abA q (k+1) data w=abA q k (data.drop q) (be (data.take q)::w):=by rw[abA,force_eq]
theorem IJ(M:Nat)(z1 z0:Nat→Nat)(k:Nat)(w:List Nat):xu M z1 z0 (k+1) w=xu M z1 z0 k (ac9 M z1 z0 w::w):=by rw[xu,force_eq]
theorem Io(M:Nat)(s1 s0:Nat→Nat){ks ws:List Nat}(o:O8)(hk:i<ks.length)(hw:i<ws.length):yK M s1 s0 (ks.drop i) (ws.drop i) o=yK M s1 s0 (ks.drop (i+1)) (ws.drop (i+1)) (Ui M s1 s0 o (ks.getD i 0) (ws.getD i 0)):=by
 rw[drop_cons hk,drop_cons hw,yK]
theorem MV(M:Nat)(s1 s0:Nat→Nat)(o:O8)(k w:Nat):Ui M s1 s0 o k w =
 ⟨((((((o.h+s1 o.e)%M+(o.e &&& o.f ^^^ (M-1-o.e) &&& o.g))%M+k)%M+w)%M)+(s0 o.a+(o.a &&& o.b ^^^ o.a &&& o.c ^^^ o.b &&& o.c))%M)%M,o.a,o.b,o.c,
  (o.d+((((o.h+s1 o.e)%M+(o.e &&& o.f ^^^ (M-1-o.e) &&& o.g))%M+k)%M+w)%M)%M,o.e,o.f,o.g⟩:=by
 simp only[Ui,force_eq,mod_add_mod,add_mod_mod]
theorem VF(M:Nat)(z1 z0:Nat→Nat)(w:List Nat):ac9 M z1 z0 w=(((w.getD 15 0+z0 (w.getD 14 0))%M+w.getD 6 0)%M+z1 (w.getD 1 0))%M:=by
 simp only[ac9,mod_add_mod]
theorem Gu{ws:List Nat}(h:i<ws.length):((ws.set i x).take (i+1)).reverse=x::(ws.take i).reverse:=by simp_all [take_succ_eq_append_getElem,length_set,reverse_append,take_set_of_le,Nat.le_refl]
theorem oo{ws:List Nat}(h:i≤ws.length)(hj:j<i):(ws.take i).reverse.getD j 0=ws.getD (i-(j+1)) 0:=by grind
theorem Vp(l:List Nat)(x:Nat):be (l++[x])=256*be l+x:=by simp[be,foldl_append]
theorem ae9:∀ {l:List Nat},aA 256 l→be l<256^l.length:=by
 intro l
 suffices h:∀r:List Nat,aA 256 r→be r.reverse<256^r.length by
  intro hs;have :=h l.reverse (λx a=>hs x (mem_reverse.1 a))
  rwa [reverse_reverse,length_reverse] at this
 intro r
 induction r with
 | nil=>intro _;decide
 | cons x r ih =>
  intro hs;have d:=ih λy b=>hs y (mem_cons_of_mem _ b);have e:=hs x mem_cons_self;rw[reverse_cons,Vp,length_cons,Nat.pow_succ];omega
theorem Oy{A B:List Nat}(hA:A.length=n)(hB:B.length=n)(h:i<n):(A.take i++B.drop i).set i (A.getD i 0)=A.take (i+1)++B.drop (i+1):=by
 rw[drop_cons ay,set_append,length_take,Nat.min_eq_left ay,if_neg ay,Nat.sub_self,set_cons_zero,take_succ_eq_append_getElem ay,append_assoc];rw[getD,getElem?_eq_getElem ay];rfl
theorem Qz{A B:List Nat}(hA:A.length=n)(hB:B.length=n)(h:i<n):(A.take i++B.drop i).getD i 0=B.getD i 0:=by grind
theorem aea(hx:x<18446744073709551616):pY x n<18446744073709551616:=by
 rw[show (18446744073709551616:Nat)=2^64 by decide] at hx ⊢;exact or_lt_two_pow (mod_lt _ aN) (Nat.lt_of_le_of_lt (div_le_self _ _) hx)
theorem adY(hx:x<4294967296):pR x n<4294967296:=by
 rw[show (4294967296:Nat)=2^32 by decide] at hx ⊢;exact or_lt_two_pow (mod_lt _ aN) (Nat.lt_of_le_of_lt (div_le_self _ _) hx)
def O8.Ok(M:Nat)(o:O8):Prop:=o.a<M∧o.b<M∧o.c<M∧o.d<M∧o.e<M∧o.f<M∧o.g<M∧o.h<M
theorem Vt(hM:0<M)(s1 s0:Nat→Nat)(h:o.Ok M)(k w:Nat):(Ui M s1 s0 o k w).Ok M:=by
 obtain⟨a,b,e,n,j,d,l,m⟩:=h;rw[MV];exact⟨mod_lt _ hM,a,b,e,mod_lt _ hM,j,d,l⟩
theorem O8.Ju(hM:0<M)(h:aA M s):(O8.of s).Ok M:=⟨h.at_ hM _,h.at_ hM _,h.at_ hM _,h.at_ hM _,h.at_ hM _,h.at_ hM _,h.at_ hM _,h.at_ hM _⟩
def O8.list(o:O8):List Nat:=[o.a,o.b,o.c,o.d,o.e,o.f,o.g,o.h]
theorem KM(hi:i<8):(s.getD i 0+o.list.getD i 0)%M=(QD M s o).getD i 0:=by
 match i,hi with
 | 0,_ | 1,_ | 2,_ | 3,_ | 4,_ | 5,_ | 6,_ | 7,_=>rfl
theorem vW(hM:0<M)(s:List Nat)(o:O8):aA M (QD M s o):=by
 intro x a;simp only[QD,mem_cons,not_mem_nil,or_false] at a;rcases a with h | h | h | h | h | h | h | h<;>(rw[h];exact mod_lt _ hM)
set_option exponentiation.threshold 5000
def s1F(x:Nat):Nat:=pY x 14 ^^^ pY x 18 ^^^ pY x 41
def s0F(x:Nat):Nat:=pY x 28 ^^^ pY x 34 ^^^ pY x 39
def z1F(x:Nat):Nat:=pY x 19 ^^^ pY x 61 ^^^ x/2^6
def z0F(x:Nat):Nat:=pY x 1 ^^^ pY x 8 ^^^ x/2^7
theorem jO(hx:x<18446744073709551616):pY x n<2^64:=aea hx
theorem afu(hx:x<18446744073709551616):x/2^n<2^64:=Nat.lt_of_le_of_lt (div_le_self _ _) hx
theorem LB(s data:List Nat):xF s data=QD 18446744073709551616 s (yK 18446744073709551616 s1F s0F Ka (xu 18446744073709551616 z1F z0F 64 (abA 8 16 data [])).reverse (O8.of s)):=rfl
theorem TG{l:List Nat}(h:l.getD i 0=0):l.set i 0=l:=by grind [Nat.lt_or_ge,getD,getElem?_eq_getElem,set_getElem_self,set_eq_of_length_le]
theorem MC(hr:∀i,i<80→Rd K F (some ⟨br,i,none⟩) (.int .u64 ((Ka.getD i 0:Nat):Int)))(hs:Seq K F A 128 1 (av .u8 data))(hd:aA 256 data)(mR:s.length=8)(RF:aA 18446744073709551616 s)(kS:128≤cap) :
 aK prog 241 #[ptr br 0,.agg (av .u64 s).toArray,.slice A 128 cap] K F (.agg (av .u64 (xF s data)).toArray):=by
 have wF:data.length=128:=by have :=hs.len;rwa [au,Nat.mul_one] at this
 obtain⟨L,uL⟩:∃L,L=Ka:=⟨_,Z⟩;have vX:L.length=80:=by rw[uL];decide
 have anm:aA 18446744073709551616 L:=by rw[uL];unfold aA;decide
 rw[LB,←uL];rw[←uL] at hr;obtain⟨Rw,S⟩:∃R,R=xu 18446744073709551616 z1F z0F 64 (abA 8 16 data []):=⟨_,Z⟩;rw[←S];refine aB.en func241 ntmps241 ?_;refine aj "a." λJ=> ?_;refine aP "z" λG=> ?_;refine aP "Qz" λN=> ?_;refine aj "crcs" ?_;refine WC.loop (σ:=Nat×List Nat) (λs=>[(0,ptr br 0),(2,.slice A 128 cap),(4,ptr J 0),(6,ptr G 0),(7,ptr N 0),(26,.i ((s.1:Nat):Int))]) (λt=>ah N 307 (av .u64 t.2)::ah G 309 (av .u64 (replicate 8 0))::ah J 309 (av .u64 s)::F)
  (λt=>t.1≤80∧t.2.length=80∧aA 18446744073709551616 t.2∧(∀j,t.1≤j→t.2.getD j 0=0)∧xu 18446744073709551616 z1F z0F (64-(t.1-16)) (abA 8 (16-t.1) (data.drop (8*t.1)) (t.2.take t.1).reverse)=Rw) (λt=>80-t.1) (0,replicate 80 0) ⟨zero_le _,length_replicate,aA.wJ aN,λj _=>y7 _ _,S.symm⟩ bC cO ?_
 rintro⟨i,ws⟩ ⟨hi,UQ,nS,hz,r⟩;dsimp only at hi UQ nS hz r ⊢;refine WC.sr (WL.val (V.zI (j:=80) (ak Z) (ak Z)) Z ?_);refine aj "GJ" (aW (λaL=> ?_) λaL=> ?_)
 ·simp only[cZ] at aL;refine aj "Yf" ?_;refine WL.val (V.zI (j:=16) (ak Z) (ak Z)) Z<|aj "h" (aW (λh1=> ?_) λh1=> ?_)
  ·simp only[cZ] at h1;rw[show 16-i=16-(i+1)+1 by omega,Fx,drop_drop,show 64-(i-16)=64-(i+1-16) by omega] at r;refine aP "rb~~hb~~h" ?_;refine WL.val (V.wN (j:=8) (ak Z) (ak Z)) Z<|WL.val (V.slice (m:=128) (cap:=cap) (l:=8*i) (h:=8*i+8) (u:=cap) dO (ak Z) (OO.some (ak Z) (λ_=>Z)) (OO.some (ak Z) (λ_=>Z)) OO.none (by simp) ay ay ay) Z ?_;have pI:=Seq.rD hs (l:=8*i) (h:=8*i+8) (u:=cap) ay ay kS;obtain⟨A2,RU⟩:∃A2,A2=(if cap=8*i then A else A.map (·.add (8*i*1))):=⟨_,Z⟩;rw[←RU] at pI ⊢;rw[show 8*i+8-8*i=8 by omega] at pI ⊢;obtain⟨y,Nf⟩:∃y,y=(data.drop (8*i)).take 8:=⟨_,Z⟩;rw[←Nf] at pI r;have agW:aA 256 y:=λx B=>hd x (by rw[Nf] at B;exact mem_of_mem_drop (mem_of_mem_take B));have arx:y.length=8:=by rw[Nf,length_take,length_drop];omega
   refine aj "jR" ?_;refine WC.loop (σ:=Nat) (λj=>[(0,ptr br 0),(2,.slice A 128 cap),(4,ptr J 0),(6,ptr G 0),(7,ptr N 0),(26,.i ((i:Nat):Int)),(8,.i ((i:Nat):Int)),(37,.slice A2 8 (cap-8*i)),(38,.i ((8:Nat):Int)),(39,.i ((j:Nat):Int))]) (λj=>ah N 307 (av .u64 (ws.set i (be (y.take j))))::ah G 309 (av .u64 (replicate 8 0))::ah J 309 (av .u64 s)::F)
    (λj=>j≤8) (λj=>8-j) 0 (zero_le _) bC (λw h=>Sat.aT h (by rw[take_zero,show be []=0 from Z,TG (hz i (Nat.le_refl _))])) ?_
   rintro j hj;refine aP "a~lGJ" (aW (λh2=> ?_) λh2=> ?_)
   ·simp only[cZ] at h2;have U:=(Seq.qH pI h2);have x3:y.getD j 0<256:=agW.at_ aN j;have aoS:be (y.take j)<256^7:=Nat.lt_of_lt_of_le (ae9 λx B=>agW x (mem_of_mem_take B)) (Nat.pow_le_pow_right aN (by rw[length_take];omega));rw[show (256:Nat)^7=72057594037927936 by decide] at aoS;refine aj "Ea" ?_;refine WL.val (V.jW (v:= .int .u8 ((y.getD j 0:Nat):Int)) dO (ak Z) (ak Z) (hr:=λ_=>U.up.up.up)) Z ?_;refine WL.val (V.d9 (v:= .int .u8 ((y.getD j 0:Nat):Int)) isAgg5 (ak Z) (λ_=>U.up.up.up)) Z ?_;refine aP "Ob~K" ?_;refine WL.val (V.d9 (v:= .int .u64 ((be (y.take j):Nat):Int)) isAgg306 (ak Z) (λ_=>by
     have h:=Rd.nat (K:=K) (b:=N) (T:=307) (k:= .u64) (H:=ah G 309 (av .u64 (replicate 8 0))::ah J 309 (av .u64 s)::F) (l:=ws.set i (be (y.take j))) (o:=i) (by rw[length_set];omega)
     rwa [zV ay] at h)) Z ?_
    refine WL.val (V.G7 (j:=8) (M:=18446744073709551616) (ak Z) (ak Z)) Z (aP "b~~~x" ?_);refine WL.val (V.Zv (i:=be (y.take j)*2^8%18446744073709551616) (j:=y.getD j 0) 64 (ak Z) (ak Z) (λ_=>⟨mod_lt _ aN,by omega⟩)) Z ?_;rw[show be (y.take j)*2^8%18446744073709551616 ||| y.getD j 0=be (y.take (j+1)) by
     rw[mod_eq_of_lt (show be (y.take j)*2^8<18446744073709551616 by omega),uU ay,take_succ_eq_append_getElem ay,Vp,getD,getElem?_eq_getElem ay];show _=_;simp only[Option.getD_some];omega]
    refine aP "~K~Bcp=>" ?_;exact⟨j+1,(by show j+1≤8;omega),(by show 8-(j+1)<8-j;omega),.cons Z bC,λw h=>Sat.aT h (by rw[set_set])⟩
   ·simp only[cZ] at h2;refine aP "KKp=>" ?_;obtain rfl:j=8:=by omega
    refine⟨(i+1,_),⟨by show i+1≤80;omega,by show (ws.set i _).length=80;rw[length_set];exact UQ,nS.set (Nat.lt_of_lt_of_le (ae9 λx B=>agW x (mem_of_mem_take B)) (Nat.le_trans (Nat.pow_le_pow_right aN (show _≤8 by rw[length_take];omega)) aN)),λk X=> ?_, ?_⟩,(by show 80-(i+1)<80-i;omega),.cons Z bC,λw h=>h⟩
    ·dsimp only at X ⊢;rw[getD_set_ne ay];exact hz k ay
    ·dsimp only;rw[Gu ay,take_of_length_le ay,show 8*(i+1)=8*i+8 by omega];exact r
  ·simp only[cZ] at h1;refine aj "|" ?_;have B:=nS.at_ aN (i-15);have O:=nS.at_ aN (i-2);rw[show 64-(i-16)=64-(i+1-16)+1 by omega,IJ,show 16-i=0 by omega,abA,VF,oo ay ay,oo ay ay,oo ay ay,oo ay ay] at r;refine aP "~NM0" ?_;refine UA.val 1 Z (λ_=>V.rD (j:=15) (ak Z) (ak Z)) ?_;refine aP "~V2~C3M4" ?_;refine UA.val 5 Z (λ_=>V.rD (j:=2) (ak Z) (ak Z)) ?_;refine aP "~V6~C7~a8~a9(" λBS=> ?_;simp only[map_cons,map_nil,cons_append,nil_append];refine aP "~<M0M1" ?_;refine UA.val 2 Z (λ_=>V.rD (j:=16) (ak Z) (ak Z)) ?_;refine aP "~V3~~b4M5" ?_;refine UA.call (vs:=[_,_]) 6 Z call277 (λ_=>⟨ak Z,ak Z,trivial⟩) (λH' P=>iq (n:=1) B aN aN) ?_;refine aP "M7" ?_;refine UA.call (vs:=[_,_]) 8 Z call277 (λ_=>⟨ak Z,ak Z,trivial⟩) (λH' P=>iq (n:=8) B aN aN) ?_;refine UA.val 9 Z (λ_=>V.ru 64 (ak Z) (ak Z) (λ_=>⟨jO B,jO B⟩)) ?_;refine aP "M:" ?_;refine UA.val 11 Z (λ_=>V.wK (j:=7) (ak Z) (ak Z)) ?_;refine UA.val 12 Z (λ_=>V.ru 64 (ak Z) (ak Z) (λ_=>⟨xor_lt_two_pow (jO B) (jO B),afu B⟩)) ?_;refine aP "~~g=M>" ?_;refine UA.val 15 Z (λ_=>V.rD (j:=7) (ak Z) (ak Z)) ?_;refine aP "~V@~~bA~~gBMC" ?_;refine UA.call (vs:=[_,_]) 20 Z call277 (λ_=>⟨ak Z,ak Z,trivial⟩) (λH' P=>iq (n:=19) O aN aN) ?_;refine aP "ME" ?_;refine UA.call (vs:=[_,_]) 22 Z call277 (λ_=>⟨ak Z,ak Z,trivial⟩) (λH' P=>iq (n:=61) O aN aN) ?_;refine UA.val 23 Z (λ_=>V.ru 64 (ak Z) (ak Z) (λ_=>⟨jO O,jO O⟩)) ?_;refine aP "MH" ?_;refine UA.val 25 Z (λ_=>V.wK (j:=6) (ak Z) (ak Z)) ?_;refine UA.val 26 Z (λ_=>V.ru 64 (ak Z) (ak Z) (λ_=>⟨xor_lt_two_pow (jO O) (jO O),afu O⟩)) ?_;refine aP "~~gK~VL" ?_;refine UA.at_ 29 Z sizeOf306 (λ_=>ak Z) (λ_=>ak Z) ?_;refine aP "(" λx6=> ?_;simp only[map_cons,map_nil,cons_append,nil_append];refine aP "p=>" ?_;refine⟨(i+1,_),⟨by show i+1≤80;omega,by show (ws.set i _).length=80;rw[length_set];exact UQ,nS.set (mod_lt _ aN),λk X=> ?_, ?_⟩,(by show 80-(i+1)<80-i;omega),.cons Z bC,λw h=>h⟩
   ·dsimp only at X ⊢;rw[getD_set_ne ay];exact hz k ay
   ·dsimp only;rw[Gu ay,show 16-(i+1)=0 by omega,abA];exact r
 ·simp only[cZ] at aL;refine aj "W" ?_;obtain rfl:i=80:=by omega
  rw[take_of_length_le ay] at r;have r:ws.reverse=Rw:=r;have x2:Rw.reverse=ws:=by rw[←r,reverse_reverse]
  rw[x2];obtain⟨Ro,W⟩:∃R,R=yK 18446744073709551616 s1F s0F L ws (O8.of s):=⟨_,Z⟩;rw[←W];refine aP "~N~~~u0~C1" ?_;refine UA.val 2 Z (λ_=>V.fV (j:=1) Di (ak Z) (ak Z)) ?_;refine aP "~C3" ?_;refine UA.val 4 Z (λ_=>V.fV (j:=2) Di (ak Z) (ak Z)) ?_;refine aP "~C5" ?_;refine UA.val 6 Z (λ_=>V.fV (j:=3) Di (ak Z) (ak Z)) ?_;refine aP "~C7" ?_;refine UA.val 8 Z (λ_=>V.fV (j:=4) Di (ak Z) (ak Z)) ?_;refine aP "~C9" ?_;refine UA.val 10 Z (λ_=>V.fV (j:=5) Di (ak Z) (ak Z)) ?_;refine aP "~C;" ?_;refine UA.val 12 Z (λ_=>V.fV (j:=6) Di (ak Z) (ak Z)) ?_;refine aP "~C=" ?_;refine UA.val 14 Z (λ_=>V.fV (j:=7) Di (ak Z) (ak Z)) ?_;refine aP "~C?~a@~aA~aB~aC~aD~aE~aF~aG(" λx4=> ?_;simp only[map_cons,map_nil,cons_append,nil_append];refine aj "rcs" ?_;refine WC.loop (σ:=Nat×O8) (λt=>[(0,ptr br 0),(4,ptr J 0),(6,ptr G 0),(7,ptr N 0),(13,.int .u64 ((t.2.a:Nat):Int)),(14,.int .u64 ((t.2.b:Nat):Int)),(15,.int .u64 ((t.2.c:Nat):Int)),(16,.int .u64 ((t.2.d:Nat):Int)),(17,.int .u64 ((t.2.e:Nat):Int)),(18,.int .u64 ((t.2.f:Nat):Int)),(19,.int .u64 ((t.2.g:Nat):Int)),(20,.int .u64 ((t.2.h:Nat):Int)),(107,.i ((t.1:Nat):Int))]) (λ_=>ah N 307 (av .u64 ws)::ah G 309 (av .u64 (replicate 8 0))::ah J 309 (av .u64 s)::F)
   (λt=>t.1≤80∧t.2.Ok 18446744073709551616∧yK 18446744073709551616 s1F s0F (L.drop t.1) (ws.drop t.1) t.2=Ro) (λt=>80-t.1) (0,O8.of s) ⟨zero_le _,O8.Ju aN RF,W.symm⟩ bC cO ?_
  rintro⟨i,a,b,c,d,e,f,g,h⟩ ⟨hi,ho,r⟩;have jh:=ho;obtain⟨D,hb,hc,ZB,I,hf,hg,hh⟩:=ho;dsimp only at hi r D hb hc ZB I hf hg hh ⊢;refine WC.sr (WL.val (V.zI (j:=80) (ak Z) (ak Z)) Z ?_);refine aj "GJ" (aW (λh3=> ?_) λh3=> ?_)
  ·simp only[cZ] at h3;rw[Io _ _ _ _ ay ay] at r;refine aP "Yt~NM0M1" ?_;refine UA.call (vs:=[_,_]) 2 Z call277 (λ_=>⟨ak Z,ak Z,trivial⟩) (λH' P=>iq (n:=14) I aN aN) ?_;refine aP "M3" ?_;refine UA.call (vs:=[_,_]) 4 Z call277 (λ_=>⟨ak Z,ak Z,trivial⟩) (λH' P=>iq (n:=18) I aN aN) ?_;refine UA.val 5 Z (λ_=>V.ru 64 (ak Z) (ak Z) (λ_=>⟨jO I,jO I⟩)) ?_;refine aP "M6" ?_;refine UA.call (vs:=[_,_]) 7 Z call277 (λ_=>⟨ak Z,ak Z,trivial⟩) (λH' P=>iq (n:=41) I aN aN) ?_;refine UA.val 8 Z (λ_=>V.ru 64 (ak Z) (ak Z) (λ_=>⟨xor_lt_two_pow (jO I) (jO I),jO I⟩)) ?_;refine aP "~~g9M:M;" ?_;refine UA.val 12 Z (λ_=>V.CY 64 (ak Z) (ak Z)) ?_;refine aP "M=" ?_;refine UA.val 14 Z (λ_=>V.ajX (M:=18446744073709551616) (ak Z)) ?_;refine aP "M?" ?_;refine UA.val 16 Z (λ_=>V.CY 64 (ak Z) (ak Z)) ?_;refine UA.val 17 Z (λ_=>V.ru 64 (ak Z) (ak Z)) ?_;refine aP "~~gBMCMD~~&E~VF" ?_;refine UA.val 23 Z (λ_=>V.d9 (v:= .int .u64 ((L.getD i 0:Nat):Int)) isAgg306 (ak Z) (λ_=>(hr i h3).up.up.up)) ?_;refine aP "~~gHMI~VJ~CK~~gL~aM(" λx5=> ?_;simp only[map_cons,map_nil,cons_append,nil_append];refine aj "e" ?_;refine WL.t2 call277 Z Z (iq (n:=28) D aN aN) Z<|WL.mv Z Z (WL.t2 call277 Z Z (iq (n:=34) D aN aN) Z ?_);refine WL.val (V.ru 64 (ak Z) (ak Z) (λ_=>⟨jO D,jO D⟩)) Z<|WL.mv Z Z (WL.t2 call277 Z Z (iq (n:=39) D aN aN) Z ?_);refine WL.val (V.ru 64 (ak Z) (ak Z) (λ_=>⟨xor_lt_two_pow (jO D) (jO D),jO D⟩)) Z<|aP "x~~~dx~~~d" ?_;refine WL.val (V.ru 64 (ak Z) (ak Z)) Z (aP "x~~~d" ?_);refine WL.val (V.ru 64 (ak Z) (ak Z)) Z (aP "~0Ob~0xxb~0xblllllllop=>" ?_);refine⟨(i+1,Ui 18446744073709551616 s1F s0F ⟨a,b,c,d,e,f,g,h⟩ (L.getD i 0) (ws.getD i 0)),⟨by show i+1≤80;omega,Vt aN _ _ jh _ _,r⟩,(by show 80-(i+1)<80-i;omega), ?_,λw h=>h⟩;rw[MV];exact .cons Z bC
  ·simp only[cZ] at h3;refine aj "WL" ?_;obtain rfl:i=80:=by omega
   rw[←vX,drop_length] at r;have r:O8.mk a b c d e f g h=Ro:=r;rw[←r];refine aj "gxxxb" ?_;refine WL.val (V.lX (l:=O8.list ⟨a,b,c,d,e,f,g,h⟩) (vs:=[(0,_),(1,_),(2,_),(3,_),(4,_),(5,_),(6,_),(7,_)]) ⟨ak Z,ak Z,ak Z,ak Z,ak Z,ak Z,ak Z,ak Z,trivial⟩ Z (vP _ _ _ _ _ _ _ _)) Z ?_;obtain⟨ad,C⟩:∃ad,ad=QD 18446744073709551616 s ⟨a,b,c,d,e,f,g,h⟩:=⟨_,Z⟩;have abL:ad.length=8:=by rw[C];rfl
   obtain⟨Y,Gh⟩:∃Y,Y=O8.list ⟨a,b,c,d,e,f,g,h⟩:=⟨_,Z⟩;have anl:Y.length=8:=by rw[Gh];rfl
   have ahD:∀k,k<8→(s.getD k 0+Y.getD k 0)%18446744073709551616=ad.getD k 0:=λk X=>by rw[Gh,C];exact KM X
   rw[←C,←Gh];refine aj "R" ?_;refine WC.loop (σ:=Nat×List Nat) (λt=>[(4,ptr J 0),(6,ptr G 0),(180,.agg (av .u64 Y).toArray),(181,.i ((t.1:Nat):Int))]) (λt=>ah N 307 (av .u64 ws)::ah G 309 (av .u64 (replicate 8 0))::ah J 309 (av .u64 t.2)::F)
    (λt=>t.1≤8∧t.2=ad.take t.1++s.drop t.1) (λt=>8-t.1) (0,s) ⟨zero_le _,Z⟩ bC cO ?_
   rintro⟨i,st⟩ ⟨hi,dL⟩;dsimp only at hi dL ⊢;have qU:st.length=8:=by rw[dL,length_append,length_take,length_drop];omega
   refine aP "a~~sGJ" (aW (λQ=> ?_) λQ=> ?_)
   ·simp only[cZ] at Q;have x0:st.getD i 0=s.getD i 0:=by rw[dL];exact Qz abL mR Q
    refine aP "Y~~tlO~K~4b~0" ?_;rw[x0,ahD i Q];refine aP "~K~Bcp=>" ?_;exact⟨(i+1,_),⟨by show i+1≤8;omega,by dsimp only;rw[dL];exact Oy abL mR Q⟩,(by show 8-(i+1)<8-i;omega),.cons Z bC,λw h=>h⟩
   ·simp only[cZ] at Q;refine aj "W" ?_;obtain rfl:i=8:=by omega
    rw[take_of_length_le ay,drop_of_length_le ay,append_nil] at dL;rw[dL];refine aP "pBA6" ?_;exact aF.ret (H':=F) (bJ.one Z (R1.dh (l:=ad) Z ⟨isAgg309,sizeOf309⟩)) eO ⟨by rw[C],Z⟩
structure Bs where
 A:Option Addr
 m:Nat
 cap:Nat
 l:List Nat
abbrev Bs.v(p:Bs):Value:= .slice p.A p.m p.cap
theorem Ie(q r n:Nat):aA 256 (lT q r n):=by
 intro x a;simp only[lT,mem_append,mem_cons,mem_reverse,mem_replicate] at a;rcases a with ((rfl | ⟨_,rfl⟩) | ⟨_,rfl⟩) | a
 ·decide
 ·decide
 ·decide
 ·exact bL aN _ _ x a
theorem Rp(hq:0<q)(hr:8≤r):(n+(lT q r n).length)%q=0:=by
 have a:(lT q r n).length=1+(q-1-(n+r)%q)+(r-8)+8:=by simp[lT,aI];omega
 have d:(n+r)%q<q:=mod_lt _ hq;rw[a,show n+(1+(q-1-(n+r)%q)+(r-8)+8)=n+r+(q-(n+r)%q) by omega];have b:=div_add_mod (n+r) q;rw[show n+r+(q-(n+r)%q)=q*((n+r)/q)+q by omega,add_mod_right,mul_mod_right]
theorem yD(n:Nat):∀s:List Nat,(s.flatMap λx=>(bG 256 n x).reverse).length=n*s.length
 | []=>rfl
 | x::s=>by rw[flatMap_cons,length_append,yD n s,length_reverse,aI,length_cons,Nat.mul_add,Nat.mul_one,Nat.add_comm]
theorem Mh(hk:k<n):(bG 256 n x).reverse.getD k 0=x/256^(n-1-k)%256:=by
 rw[getD,getElem?_reverse (by rw[aI];exact hk),aI,←bV 256 n x (n-1-k) ay];rfl
theorem DI(n:Nat):∀(s:List Nat) (i k:Nat),i<s.length→k<n→(s.flatMap λx=>(bG 256 n x).reverse).getD (n*i+k) 0=s.getD i 0/256^(n-1-k)%256
 | [],_,_,h,_=>absurd h (not_lt_zero _)
 | x::s,0,k,_,hk=>by
  rw[flatMap_cons,Nat.mul_zero,Nat.zero_add,getD,getElem?_append_left (by rw[length_reverse,aI];exact hk)];exact Mh hk
 | x::s,i+1,k,h,hk=>by
  rw[flatMap_cons,getD,getElem?_append_right (by rw[length_reverse,aI,Nat.mul_add];omega),length_reverse,aI,show n*(i+1)+k-n=n*i+k by rw[Nat.mul_add];omega];exact DI n s i k (by simpa using h) hk
theorem Au(s data:List Nat):(xF s data).length=8:=by rw[LB];rfl
theorem MS(s data:List Nat):aA 18446744073709551616 (xF s data):=vW aN _ _
theorem TK{ps:List Bs}(hp:Seq K F P q 1 (ps.map Bs.v))(hb:∀p∈ps,Seq K F p.A p.m 1 (av .u8 p.l))(h8:aA 256 (ps.flatMap Bs.l))(hm:(ps.flatMap Bs.l).length≤100000000)(hq:q≤100) :
 aK prog 182 #[.slice P q cap] K F (.agg (av .u8 (oQ (ps.flatMap Bs.l))).toArray):=by
 have l7:ps.length=q:=by have :=hp.len;rwa [length_map,Nat.mul_one] at this
 refine aB.en func182 ntmps182 ?_;refine aP "az" λj=> ?_;refine aj "QfjR" ?_;refine WC.loop (σ:=Nat×Option Addr×Nat) (λs=>[(2,ptr j 0),(3,.slice s.2.1 ((ps.take s.1).flatMap Bs.l).length s.2.2),(13,.slice P q cap),(14,.i ((q:Nat):Int)),(15,.i ((s.1:Nat):Int))]) (λs=>aV (.slice s.2.1 ((ps.take s.1).flatMap Bs.l).length s.2.2) 5 1 ((ps.take s.1).flatMap Bs.l).length (av .u8 ((ps.take s.1).flatMap Bs.l))::ah j 256 (av .u8 (replicate 64 0))::F)
  (λs=>s.1≤q) (λs=>q-s.1) (0,none,0) (zero_le _) bC (λw h=>h.gI _ _) ?_
 rintro⟨i,A,cp⟩ Q;dsimp only at Q ⊢;refine aP "a~lGJ" (aW (λG=> ?_) λG=> ?_)
 ·simp only[cZ] at G;obtain⟨p,C⟩:∃p,p=ps[i]'ay:=⟨_,Z⟩;have Bw:p∈ps:=by rw[C];exact getElem_mem _
  have x0:=hb p Bw;have JO:p.l.length=p.m:=by have :=x0.len;rwa [au,Nat.mul_one] at this
  have kr:Rd K F (P.map (·.add i)) p.v:=hp.rd i p.v (by rw[getElem?_map,getElem?_eq_getElem ay,←C];rfl);have Du:(ps.take (i+1)).flatMap Bs.l=(ps.take i).flatMap Bs.l++p.l:=by rw[take_succ_eq_append_getElem ay,flatMap_append,←C];simp
  have x4:((ps.take i).flatMap Bs.l).length+p.m≤100000000:=by
   rw[←JO,←length_append,←Du];refine Nat.le_trans ?_ hm
   conv=>rhs;rw[←take_append_drop (i+1) ps]
   rw[flatMap_append,length_append];exact le_add_right _ _
  refine aj "Ea" ?_;refine WL.val (V.jW (v:=p.v) adb (ak Z) (ak Z) (hr:=λ_=>kr.up.up)) Z<|WL.val (V.load (v:=p.v) isAgg34 (ak Z) (λ_=>kr.up.up)) Z<|aP "Ob~7" λY W akr ald=> ?_;refine aP "op=>" ?_;refine⟨(i+1,Y,W),(by show i+1≤q;omega),(by show q-(i+1)<q-i;omega), ?_,λw h=> ?_⟩
  ·dsimp only;rw[Du,length_append,JO];exact .cons Z bC
  ·dsimp only;rw[Du,length_append,JO];exact h
 ·simp only[cZ] at G;refine aj "W" ?_;obtain rfl:i=q:=by omega
  rw[←l7,take_length];obtain⟨all,nT⟩:∃all,all=ps.flatMap Bs.l:=⟨_,Z⟩;rw[←nT] at h8 hm ⊢;obtain⟨n,uL⟩:∃n,n=Ka:=⟨_,Z⟩;have vX:n.length=80:=by rw[uL];decide
  obtain⟨d,y⟩:∃d,d=Sz:=⟨_,Z⟩;have U:d.length=8:=by rw[y];decide
  have amX:aA 18446744073709551616 d:=by rw[y];unfold aA;decide
  refine WC.region<|WL.call (vs:=[]) call238 trivial (Kh.eq (v':= .agg (av .u64 n).toArray) (by rw[uL])) Z ?_;rintro _ H0 ⟨rfl,G⟩;subst H0;refine WL.call (vs:=[]) call239 trivial (Ni.eq (v':= .agg (av .u64 d).toArray) (by rw[y])) Z ?_;rintro _ H0 ⟨rfl,G⟩;subst H0;refine aP "z" λB=> ?_;refine aP "z" λS=> ?_;refine aP "AAcr" ?_;refine WL.c1 call240 Z (TL (aV.seq (by rw[au,Nat.mul_one])).up.up hm) Z ?_;rintro _ _ ⟨D,M,a,hM,rfl,x5,rfl⟩;obtain⟨b,e⟩:∃b,b=all++lT 128 16 all.length:=⟨_,Z⟩;have qY:aA 256 b:=by rw[e];intro x I;rcases mem_append.1 I with h | h;exact h8 x h;exact Ie _ _ _ x h
  have x6:b.length%128=0:=by rw[e,length_append];exact Rp aN aN
  rw[←e] at hM;obtain⟨R,hR⟩:∃R,R=dz xF 128 (b.length/128) b d:=⟨_,Z⟩;rw[←e];refine aj "os" ?_;refine WC.loop (σ:=(Nat×Option Addr×Nat)×List Nat×List Nat) (λt=>[(2,ptr j 0),(6,ptr B 0),(7,ptr S 0),(8,.slice t.1.2.1 (128*t.1.1) t.1.2.2)]) (λt=>ah S 309 (av .u64 t.2.2)::aV (.slice D M a) 5 1 M (av .u8 b)::ah B 307 (av .u64 n)::aV (.slice A all.length cp) 5 1 all.length (av .u8 all)::ah j 256 (av .u8 (replicate 64 0))::F)
   (λt=>(∀H,Sl.Seq K (aV (.slice D M a) 5 1 M (av .u8 b)::H) t.1.2.1 (128*t.1.1) 1 (av .u8 t.2.1))∧128*t.1.1≤t.1.2.2∧aA 256 t.2.1∧t.2.2.length=8∧aA 18446744073709551616 t.2.2∧dz xF 128 t.1.1 t.2.1 t.2.2=R) (λt=>t.1.1) ((b.length/128,D,a),b,d) ⟨λH=>by
    show Sl.Seq K _ D (128*(b.length/128)) 1 _;rw[show 128*(b.length/128)=M by omega];exact aV.seq (by rw[au,hM,Nat.mul_one]),by show 128*(b.length/128)≤a;omega,qY,U,amX,hR.symm⟩ (.cons Z (.cons Z (.cons Z (.cons (look_eq Z (by congr 1<;>(dsimp only;omega))) (.nil _))))) (λw h=>h.bg 5 [1,0,2,3,4] Z) ?_
  rintro⟨⟨r,A8,c8⟩,dt,st⟩ ⟨Om,JJ,Zn,qU,Nc,GL⟩;dsimp only at Om JJ Zn qU Nc GL ⊢;have wF:dt.length=128*r:=by have :=(Om []).len;rwa [au,Nat.mul_one] at this
  refine aP "rj~`h" (aW (λT=> ?_) λT=> ?_)
  ·simp only[cZ] at T;obtain⟨r,rfl⟩:∃k,r=k+1:=⟨r-1,by omega⟩;rw[dz] at GL;refine aj "E" ?_;have BI:=Au st (dt.take 128);refine WC.BZ 1 Z ?_;refine UA.Ru 0 Z (λ_=>V.jd ⟨isAgg309,sizeOf309⟩ (ak Z)) ?_;refine aP "M1" ?_;refine UA.val 2 Z (λ_=>V.aG (v':= .slice A8 128 c8) (V.slice (m:=128*(r+1)) (cap:=c8) (l:=0) (h:=128) (u:=c8) dO (ak Z) OO.none (OO.some (ak Z) (λ_=>Z)) OO.none (by simp) ay ay ay) (λ_=>by rw[zK,Nat.sub_zero,Nat.sub_zero])) ?_;refine UA.call (vs:=[_,_,_]) 3 Z call241 (λ_=>⟨ak Z,ak Z,ak Z,trivial⟩) (λH' hF=>MC (s:=st) (data:=dt.take 128) (A:=A8) (λi Q=>by
    have h5:Rd K (ah B 307 (av .u64 n)::aV (.slice A all.length cp) 5 1 all.length (av .u8 all)::ah j 256 (av .u8 (replicate 64 0))::F) (some ⟨B,i,none⟩) (.int .u64 ((n.getD i 0:Nat):Int)):=Rd.nat ay;rw[←uL];exact λw hw=>h5.up w (hF w hw)) ((by have h6:=(Om (ah B 307 (av .u64 n)::aV (.slice A all.length cp) 5 1 all.length (av .u8 all)::ah j 256 (av .u8 (replicate 64 0))::F)).take (show 128≤128*(r+1) by omega);rw[dU] at h6;exact h6.sat hF)) (λx I=>Zn x (mem_of_mem_take I)) qU Nc ay) ?_
   refine UA.lI 4 Z sizeOf309 (λ_=>ak Z) (λ_=>ak Z) ?_;refine aP "(" λBS=> ?_;simp only[map_cons,map_nil,cons_append,nil_append];refine aj "g" ?_;refine WL.val (V.slice (m:=128*(r+1)) (cap:=c8) (l:=128) (h:=128*(r+1)) (u:=c8) dO (ak Z) (OO.some (ak Z) (λ_=>Z)) OO.none OO.none (by simp) ay ay ay) Z<|aj "N" ?_;refine⟨((r,_,c8-128),dt.drop 128,xF st (dt.take 128)),⟨λH=> ?_,by show 128*r≤c8-128;omega,λx I=>Zn x (mem_of_mem_drop I),Au _ _,MS _ _,GL⟩,(by show r<r+1;omega),.cons Z (.cons Z (.cons Z (.cons (look_eq Z (by congr 1<;>(dsimp only;omega))) (.nil _)))),λw h=>h⟩;have h7:=Seq.rD (Om H) (l:=128) (h:=128*(r+1)) (u:=c8) ay (Nat.le_refl _) JJ;rw[take_of_length_le (by rw[length_drop];omega),show 128*(r+1)-128=128*r by omega] at h7;exact h7
  ·simp only[cZ] at T;refine aj "W" ?_;obtain rfl:r=0:=by omega
   rw[dz] at GL;rw[GL] at qU ⊢;obtain⟨L,X⟩:∃L,L=R.flatMap (λx=>(bG 256 8 x).reverse):=⟨_,Z⟩;have x2:L.length=64:=by rw[X,yD,qU]
   have x3:∀i k,i<8→k<8→L.getD (8*i+k) 0=R.getD i 0/2^(56-8*k)%256:=λi k Q hk=>by
    rw[X,DI 8 R i k ay hk,show (2:Nat)^(56-8*k)=256^(8-1-k) by rw[show 56-8*k=8*(8-1-k) by omega,Nat.pow_mul]]
   have sW:oQ all=L:=by
    rw[X,hR,y,e];rw[oQ,length_append]
   rw[sW];refine aP "pz" λO=> ?_;refine aP "GaBR" ?_;refine WC.loop (σ:=Nat) (λi=>[(2,ptr j 0),(9,ptr O 0),(36,.agg (av .u64 R).toArray),(37,.i ((i:Nat):Int))]) (λi=>ah O 256 (av .u8 (L.take (8*i)++replicate (64-8*i) 0))::ah S 309 (av .u64 R)::aV (.slice D M a) 5 1 M (av .u8 b)::ah B 307 (av .u64 n)::aV (.slice A all.length cp) 5 1 all.length (av .u8 all)::ah j 256 (av .u8 (replicate 64 0))::F)
    (λi=>i≤8) (λi=>8-i) 0 (zero_le _) bC cO ?_
   rintro i Q;refine aP "a~~sGJ" (aW (λN=> ?_) λN=> ?_)
   ·simp only[cZ] at N;refine aP "Y~~tlics" ?_;refine WC.loop (σ:=Nat) (λk=>[(2,ptr j 0),(9,ptr O 0),(36,.agg (av .u64 R).toArray),(37,.i ((i:Nat):Int)),(10,.i ((i:Nat):Int)),(11,.int .u64 ((R.getD i 0:Nat):Int)),(41,.i ((k:Nat):Int))]) (λk=>ah O 256 (av .u8 (L.take (8*i+k)++replicate (64-(8*i+k)) 0))::ah S 309 (av .u64 R)::aV (.slice D M a) 5 1 M (av .u8 b)::ah B 307 (av .u64 n)::aV (.slice A all.length cp) 5 1 all.length (av .u8 all)::ah j 256 (av .u8 (replicate 64 0))::F)
     (λk=>k≤8) (λk=>8-k) 0 (zero_le _) bC cO ?_
    rintro k hk;have o7:(L.take (8*i+k)++replicate (64-(8*i+k)) 0).length=64:=by rw[length_append,length_take,length_replicate];omega
    refine aP "a~~sGJ" (aW (λJ=> ?_) λJ=> ?_)
    ·simp only[cZ] at J;refine aP "YO~~hb~Wx~~h" ?_;refine WL.val (V.rD (i:=56) (ak Z) (ak Z)) Z (aP "~%" ?_);refine WL.val (V.G6 (i:=R.getD i 0/2^(56-8*k)) (M:=256) runUnderlying306 runUnderlying5 (ak Z)) Z ?_;rw[←x3 i k N J];refine aP "~K~Bcp=>" ?_;refine⟨k+1,(by show k+1≤8;omega),(by show 8-(k+1)<8-k;omega),.cons Z bC,λw h=>Sat.aT h (by rw[qp x2 ay,Nat.add_assoc])⟩
    ·simp only[cZ] at J;refine WC.exit ?_;obtain rfl:k=8:=by omega
     refine aP "p=>" ?_;exact⟨i+1,(by show i+1≤8;omega),(by show 8-(i+1)<8-i;omega),.cons Z bC,λw h=>h⟩
   ·simp only[cZ] at N;refine aj "W" ?_;obtain rfl:i=8:=by omega
    rw[take_of_length_le ay,Nat.sub_self,replicate_zero,append_nil];refine aP "pBA6" ?_;exact aF.ret (H':=F) (bJ.one Z (R1.dh (l:=L) Z ⟨isAgg256,sizeOf256⟩)) eO ⟨Z,Z⟩
end Go.Proofs.YtcedojacbhnbiaaGreat
namespace Go.Sl
open Go Go.RowKit Go.Proofs.YtcedojacbhnbiaaGreat List Nat
theorem V.abP{T cap E:Nat}(hT:∀w,(underlying T).run P w= .ok (.array m E) w)(hx:OV c e x (.slice A q cap))(h:c=true→m≤q):eX Mo P K n c e H ⟨dst,.sliceToArrayPointer T x,ty,pos,af,gd⟩ (.pointer A):=λb a w d _=>by
 show ((do pure (Next.value (←Instr.arrayAt T (a.eval x)))):Sem Next).run P w=_;rw[hx.ev b d];simp[Instr.arrayAt,hT w,Nat.not_lt.2 (h b)]
theorem V.VD{Mo:Mode}{P:Program}{K:World}{n:Nat}{e:Env}{H:List aH}{c:Bool}{dst:Option Tmp}{ty:TypeId}{pos:String}{af:Array Edge}{gd:Option (Nat×Bool)}{x:Operand}{T s:Nat}{A:Option Addr}{k:IntKind}{l:List Nat}(hT:Ur P T s)(hx:OV c e x (.pointer A))(hr:c=true→Seq K H A s 1 (av k l))(hs:blt 0 s=true:=by rfl):eX Mo P K n c e H ⟨dst,.load T x,ty,pos,af,gd⟩ (.agg (av k l).toArray):=λm a w u r=>by
 show ((do pure (Next.value (←Instr.loadAt T (a.eval x)))):Sem Next).run P w=_;rw[hx.ev m u];have h:=hr m;have d:(av k l).length=s:=by have :=h.len;rwa [Nat.mul_one] at this
 have B:0<s:=le_of_ble_eq_true hs;cases A with
 | none =>
  obtain⟨D,b,_⟩:=h.rd 0 ((av k l)[0]'ay) (getElem?_eq_getElem _) w r;cases b
 | some ad =>
  have b:=run_loadCells_list (P:=P) w ad (av k l) (λj v C=>by
   obtain⟨D,b,y⟩:=h.rd j v C w r;injection b with b;subst b;exact y)
  subst d;simp[Instr.loadAt,Instr.sureAddr,loadVar,hT.1 w,hT.2 w,b]
end Go.Sl
namespace Go.Proofs.YtcedojacbhnbiaaGreat
open Go.Sl Go.RowKit Tryz List Nat
set_option exponentiation.threshold 5000
theorem MU(l:List Nat):aA 256 (oQ l):=by
 intro x a;unfold oQ at a;obtain⟨y,_,b⟩:=mem_flatMap.1 a;exact bL aN _ _ x (mem_reverse.1 b)
theorem FJ(hf:∀s d,(f s d).length=n):∀(k:Nat) (d s:List Nat),s.length=n→(dz f q k d s).length=n
 | 0,_,_,h=>h
 | k+1,d,s,_=>FJ hf k _ _ (hf _ _)
theorem TR(l:List Nat):(oQ l).length=64:=by
 rw[oQ,yD,FJ Au _ _ _ aN]
theorem R3(h:n<cL):n<115792089237316195423570985008687907853269984665640564039457584007913129639936:=Nat.lt_trans h Qs
theorem am9:fP<57896044618658097711785492504343953926634992332820282019728792003956564819968:=by decide
theorem ajN:adB p<115792089237316195423570985008687907853269984665640564039457584007913129639936:=by
 have d:p.1%2<2:=mod_lt _ aN;rw[adB];rcases hb:uK p with _ | _
 ·rw[cond_false];exact Nat.pos_of_ne_zero (by simp)
 ·rw[cond_true];have e:=Nat.lt_trans (oO hb).2 am9;obtain⟨x,a⟩:∃x,x=p.1%2:=⟨_,Z⟩;obtain⟨y,b⟩:∃y,y=p.2:=⟨_,Z⟩;rw[←a,←b];rw[←a] at d;rw[←b] at e;clear a b hb;omega
theorem Mt{ps:List Bs}(hp:Seq K F P q 1 (ps.map Bs.v))(hb:∀p∈ps,Seq K F p.A p.m 1 (av .u8 p.l))(h8:aA 256 (ps.flatMap Bs.l))(hm:(ps.flatMap Bs.l).length≤100000000)(hq:q≤100) :
 aK prog 145 #[.slice P q cap] K F (o8 (HV (ps.flatMap Bs.l))):=by
 obtain⟨L,a⟩:∃L,L=oQ (ps.flatMap Bs.l):=⟨_,Z⟩;have b:L.length=64:=by rw[a,TR]
 have d:aA 256 L:=by rw[a];exact MU _
 rw[HV,←a];refine aB.en func145 ntmps145 ?_;refine aP "az" λe=> ?_;refine aj "ce" ?_;refine WL.t1 call182 Z ((TK (hp.up) (λp h=>(hb p h).up) h8 hm hq).eq (v':= .agg (av .u8 L).toArray) (by rw[a])) Z<|aP "z" λj=> ?_;refine aP "AQ" ?_;refine WL.val (V.kM afb (ak Z)) Z (WL.t1 call208 Z (J6 (Seq.pz b) d aN) Z ?_);refine aP "A6" ?_;exact aF.ret (H':=F) (bJ.one Z (R1.dh (l:=bG 256 32 _) Z ⟨isAgg97,sizeOf97⟩)) eO ⟨Z,Z⟩
theorem adN(hn:n<115792089237316195423570985008687907853269984665640564039457584007913129639936):aK prog 116 #[o8 n] K F (o8 (Wo n)):=by
 rw[Wo];refine aB.en func116 ntmps116 ?_;refine aj "a." λd=> ?_;refine aP "z" λb=> ?_;refine aP "G~N" ?_;refine UA.val 0 Z (λ_=>V.kM zJ (ak Z)) ?_;refine UA.call (vs:=[]) 1 Z call147 (λ_=>trivial) (λH' a=>Sn) ?_;refine UA.call (vs:=[_,_]) 2 Z call146 (λ_=>⟨ak Z,ak Z,trivial⟩) (λH' a=>(ES ((Seq.pz (jl _)).up.sat a) (bL aN _ _) aN (p:=cB) ⟨by decide,by decide⟩).eq (v':= .tuple #[pt (nN n 32 cB),.i ((if uK cB then 0 else 170:Nat):Int)]) (by rw[yA hn])) ?_;refine aP "M3~84~85" ?_;refine UA.alloc 6 Z zeroValue219 (cs:=av .u8 (replicate 64 0)) Z ?_;refine aP "~~~e~a8(" λBS=> ?_;simp only[map_cons,map_nil,cons_append,nil_append];refine aP "aB" ?_;refine WL.t1 call184 Z (ahG (Sr (Lf _ _ _))) Z<|aP "5z" λe=> ?_;refine aP "AwBA6" ?_;exact aF.ret (H':=F) (bJ.one Z (R1.dh (l:=bG 256 32 _) Z ⟨isAgg97,sizeOf97⟩)) eO ⟨Z,Z⟩
theorem afi:aB prog 115 #[o8 seed] K F (λv H'=>∃b,v= .tuple #[o8 (Nv seed).1,.slice (some ⟨b,32,none⟩) 32 32]∧H'=ah b 256 (av .u8 (oQ (bG 256 32 seed)))::F):=by
 obtain⟨L,d⟩:∃L,L=oQ (bG 256 32 seed):=⟨_,Z⟩;have C:L.length=64:=by rw[d,TR]
 have j:aA 256 L:=by rw[d];exact MU _
 have anz:(Nv seed).1=agP (vl 256 (L.take 32)):=by rw[d];rfl
 rw[anz,←d];obtain⟨x,k⟩:∃x,x=vl 256 (L.take 32):=⟨_,Z⟩;have a:(L.take 32).length=32:=by rw[length_take];omega
 have e:aA 256 (L.take 32):=λy B=>j y (mem_of_mem_take B);have m:bG 256 32 x=L.take 32:=by rw[k,ng e a]
 have uI:x<115792089237316195423570985008687907853269984665640564039457584007913129639936:=by have :=nH e;rw[a,←k] at this;exact this
 rw[←k];refine aB.en func115 ntmps115 ?_;refine aj "a." λu=> ?_;refine aP "z" λD=> ?_;refine aj "w" ?_;refine WL.val (V.kM zJ (ak Z)) Z<|WL.buildSlice (E:=34) (cs:=[_]) (vs:=[(0,_)]) ⟨ak Z,trivial⟩ Z (Lv _ _ _) Z (λH=> ?_);refine WL.t1 call182 Z ((TK (ps:=[⟨some ⟨u,0,none⟩,32,32,bG 256 32 seed⟩]) (Seq.all Z) (λp r=>by rcases mem_singleton.1 r with rfl;exact (Seq.pz (jl _)).up.up) (by simpa using bL aN _ _) (by simp[aI]) aN).eq (v':= .agg (av .u8 L).toArray) (by rw[d];simp)) Z<|aP "z" λn=> ?_;refine aP "AG" ?_;refine WC.sub (Sub.refl _) (λw h=>h.bg 4 [2,0] Z)<|WC.vU 1 [3] Z (by simp only[l8,mh,filter_cons,filter_nil,any_cons,any_nil,Nat.reduceBEq,Bool.or_false,Bool.or_true,Bool.not_true,Bool.not_false,if_true,if_false,Bool.false_eq_true];rfl) (by simp only[l8,mh,filter_cons,filter_nil,any_cons,any_nil,Nat.reduceBEq,Bool.or_false,Bool.or_true,Bool.not_true,Bool.not_false,if_true,if_false,Bool.false_eq_true];rfl)<|UA.val 0 Z (λ_=>V.acW (h:=32) afb (ak Z) (OO.some (ak Z) (λ_=>Z)) aN) ?_;refine UA.val 1 Z (λ_=>V.ai5 runUnderlying97 (ak Z) (λ_=>by decide)) ?_;refine UA.val 2 Z (λ_=>V.fE (vs:=av .u8 (bG 256 32 x)) ⟨isAgg97,sizeOf97⟩ (ak Z) Z (λ_=>by rw[m];exact fH.here (by rw[drop_zero,←dU];exact take_prefix _ _))) ?_;refine UA.call (vs:=[_]) 3 Z call183 (λ_=>⟨ak Z,trivial⟩) (λH' G=>afB uI) ?_;refine UA.val 4 Z (λ_=>V.acV (l:=32) afb (ak Z) (OO.some (ak Z) (λ_=>Z)) aN) ?_;refine UA.lI 5 Z sizeOf97 (λ_=>ak Z) (λ_=>ak Z) ?_;refine aP "~a6(" λBS=> ?_;simp only[map_cons,map_nil,cons_append,nil_append];exact WC.ret<|aF.ret (H':=ah n 256 (av .u8 L)::F) (bJ.two Z (R1.dh (l:=bG 256 32 (agP x)) Z ⟨isAgg97,sizeOf97⟩) (R1.tmp Z)) (λw h=>h.bg 2 [1] Z) ⟨n,Z,Z⟩
end Go.Proofs.YtcedojacbhnbiaaGreat
namespace Go.Sl
open Go Go.RowKit Go.BigFrame Go.Proofs.YtcedojacbhnbiaaGreat List Nat
theorem WL.agd{T':Nat}(hT:fq P T E 1)(hx:OV true e x (.slice (some ⟨b,o,none⟩) dl dc))(hy:OV true e y (.slice B q cap'))
 (hn:Seq K H B q 1 news) (hl:q≤dl) (h1:∀v∈news,v.oneCell'=true) (hu:bT K H b o news H') (hd:blt d n=true)
 (h:WL Mo P K n ops rest Q ((d,.i (q:Int))::e) H'):WL Mo P K n ops (⟨some d,.call ⟨.builtin .copy,#[x,y],#[T,T']⟩,ty,pos,af,none⟩::rest) Q e H:=by
 refine WL.RQ (R:=λv ou=>v= .i (q:Int)∧ou=H') (λa w m l=> ?_) hd (λv ou ⟨G,D⟩=>by subst G D;exact h);obtain⟨L,F⟩:=hu.run (P:=P) l h1;refine⟨_,_,H', ?_,F,Z,Z⟩;have k:news.length=q:=by rw[hn.len,Nat.mul_one]
 have I:q.min dl=q:=Nat.min_eq_left hl;rw[execOp_builtin,builtin_copy];have Km:=hx.ev Z m;have Qt:=hy.ev Z m;have r:(Builtin.firstCells 1 q (.slice B q cap')).run P w= .ok news.toArray w:=by
  cases B with
  | none =>
   have :news=[]:=by
    cases news with
    | nil=>rfl
    | cons u us=>obtain⟨p,h1,_⟩:=hn.rd 0 u Z w l;simp at h1
   subst this;rfl
  | some pb =>
   have :=run_loadCells_list (P:=P) w pb news (λj v J=>by
    obtain⟨p,h1,C⟩:=hn.cell l J;simp at h1;subst h1;exact C)
   rw[k] at this
   simpa [Builtin.firstCells] using this
 simp[Builtin.copy_,Km,Qt,hT.1 w,hT.2 w,Builtin.lenOf,I,r,L,goInt]
theorem bT.part(h:o+news.length≤l.length)(he:l.take o++news++l.drop (o+news.length)=l'):bT K (ah b T (av k l)::H) b o (av k news) (ah b T (av k l')::H):=by grind [bT.here,au,ble_eq_true_of_le,mD,dU,kQ,dx]
end Go.Sl
namespace Go.Proofs.YtcedojacbhnbiaaGreat
open Go.Sl Go.RowKit Tryz List Nat
set_option exponentiation.threshold 5000
theorem aff(seed:Nat):(Nv seed).1<115792089237316195423570985008687907853269984665640564039457584007913129639936:=by
 show agP _<_;unfold agP;omega
theorem aaT(l:List Nat):HV l<115792089237316195423570985008687907853269984665640564039457584007913129639936:=R3 (mod_lt _ aN)
theorem aeQ(n:Nat):Wo n<115792089237316195423570985008687907853269984665640564039457584007913129639936:=ajN
theorem aip:aK prog 56 #[o8 seed] K F (o8 (Ms seed)):=by
 refine aB.en func56 ntmps56 ?_;refine aj "a." λe=> ?_;refine aP "z" λb=> ?_;refine aP "QB" ?_;refine WL.c1 call115 Z (afi) Z ?_;rintro _ _ ⟨d,rfl,rfl⟩;refine aP "5z" λa=> ?_;refine aP "AwB" ?_;refine WL.t1 call116 Z (adN (aff seed)) Z<|aP "A6" ?_;exact aF.ret (H':=F) (bJ.one Z (R1.dh (l:=bG 256 32 (Wo (Nv seed).1)) Z ⟨isAgg97,sizeOf97⟩)) eO ⟨Z,Z⟩
theorem alI(hs:Seq K F A m 1 (av .u8 msg))(h8:aA 256 msg)(hm:m≤10000000):aK prog 181 #[o8 seed,.slice A m cap] K F (.agg (av .u8 (bG 256 32 (Vg seed msg).1++bG 256 32 (Vg seed msg).2)).toArray):=by
 have Oa:msg.length=m:=by have :=hs.len;rwa [au,Nat.mul_one] at this
 obtain⟨L,J⟩:∃L,L=oQ (bG 256 32 seed):=⟨_,Z⟩;have Y:L.length=64:=by rw[J,TR]
 have U:aA 256 L:=by rw[J];exact MU _
 obtain⟨a,R⟩:∃a,a=(Nv seed).1:=⟨_,Z⟩;have B:a<115792089237316195423570985008687907853269984665640564039457584007913129639936:=by rw[R];exact aff seed
 obtain⟨d,y⟩:∃d,d=HV (L.drop 32++msg):=⟨_,Z⟩;have Ws:d<115792089237316195423570985008687907853269984665640564039457584007913129639936:=by rw[y];exact aaT _
 obtain⟨r,S⟩:∃r,r=Wo d:=⟨_,Z⟩;obtain⟨C,M⟩:∃C,C=Wo a:=⟨_,Z⟩;obtain⟨k,P⟩:∃k,k=HV (bG 256 32 r++bG 256 32 C++msg):=⟨_,Z⟩;have vX:k<115792089237316195423570985008687907853269984665640564039457584007913129639936:=by rw[P];exact aaT _
 have e1:(Vg seed msg).1=r:=by rw[S,y,J];rfl
 have e2:(Vg seed msg).2=(k*a+d)%cL:=by rw[P,S,M,R,y,J];rfl
 rw[e1,e2];refine aB.en func181 ntmps181 ?_;refine aj "a." λb2=> ?_;refine aP "z" λb4=> ?_;refine aP "QB" ?_;refine WL.c1 call115 Z (afi) Z ?_;rintro _ _ ⟨Q,rfl,rfl⟩;rw[←R,←J];have JI:∀H,Sl.Seq K (ah Q 256 (av .u8 L)::H) (some ⟨Q,32,none⟩) 32 1 (av .u8 (L.drop 32)):=λH=>by
  have G:=Seq.rD (l:=32) (h:=64) (u:=64) (Seq.pz (K:=K) (H:=H) (b:=Q) (T:=256) (k:= .u8) (m:=64) (l:=L) Y) aN aN aN;rw[take_of_length_le (by rw[length_drop];omega)] at G;exact G
 refine aP "5z" λb5=> ?_;refine aP "AwB" ?_;refine WL.t1 call116 Z ((adN B).eq (v':=o8 C) (by rw[M])) Z ?_;refine aP "z" λX=> ?_;refine aP "Aceb" ?_;refine WL.buildSlice (E:=34) (cs:=[_,_]) (vs:=[(0,_),(1,_)]) ⟨ak Z,ak Z,trivial⟩ Z (ahf _ _ _ _ _ _) Z (λQB=> ?_);refine WL.c1 call145 Z ((Mt (ps:=[⟨some ⟨Q,32,none⟩,32,32,L.drop 32⟩,⟨A,m,cap,msg⟩]) (Seq.all Z) (λp n=>by
  simp only[mem_cons,not_mem_nil,or_false] at n;rcases n with rfl | rfl
  ·repeat (first | exact JI _ | apply Seq.up)
  ·repeat (first | exact hs | apply Seq.up)) (by
  intro x e;simp only[flatMap_cons,flatMap_nil,append_nil,mem_append] at e;rcases e with h | h
  ·exact U x (mem_of_mem_drop h)
  ·exact h8 x h) (by simp only[flatMap_cons,flatMap_nil,append_nil,length_append,length_drop];omega) aN).eq (v':=o8 d) (by rw[y];simp)) Z ?_
 rintro _ D ⟨rfl,G⟩;subst D;refine aP "z" λb8=> ?_;refine aP "AQB" ?_;refine WL.t1 call116 Z ((adN Ws).eq (v':=o8 r) (by rw[S])) Z<|aP "z" λW=> ?_;refine aP "AG~X" ?_;refine WA.t 0 Z (V.kM zJ (ak Z)) ?_;refine WA.t 1 Z (V.kM zJ (ak Z)) ?_;refine aj "n2" ?_;refine WA.two (i:=3) (j:=5) cO (by kernel_rfl) Z Z ?_ ?_
 ·refine WL.buildSlice (E:=34) (cs:=[_,_,_]) (vs:=[(0,_),(1,_),(2,_)]) ⟨ak Z,ak Z,ak Z,trivial⟩ Z (zW _ _ _ _ _ _ _ _ _) Z (λVa=>WL.nil<|WA.two (i:=4) (j:=5) eO (by kernel_rfl) Z Z ?_ ?_)
  ·refine WL.c1 call145 Z ((Mt (ps:=[⟨some ⟨W,0,none⟩,32,32,bG 256 32 r⟩,⟨some ⟨X,0,none⟩,32,32,bG 256 32 C⟩,⟨A,m,cap,msg⟩]) (by repeat (first | exact Seq.all Z | apply Seq.up)) (λp n=>by
    simp only[mem_cons,not_mem_nil,or_false] at n;rcases n with rfl | rfl | rfl
    ·repeat (first | exact Seq.pz (jl _) | apply Seq.up)
    ·repeat (first | exact Seq.pz (jl _) | apply Seq.up)
    ·repeat (first | exact hs | apply Seq.up)) (by
    intro x e;simp only[flatMap_cons,flatMap_nil,append_nil,mem_append] at e;rcases e with h | h | h
    ·exact bL aN _ _ x h
    ·exact bL aN _ _ x h
    ·exact h8 x h) (by simp only[flatMap_cons,flatMap_nil,append_nil,length_append,aI];omega) aN).eq (v':=o8 k) (by rw[P];simp)) Z ?_
   rintro _ D ⟨rfl,G⟩;subst D;refine aP "cm5z" λO=> ?_;refine aP "cm6A*aBBB" ?_;refine WL.t3 call237 Z Z Z (acu vX B Ws) Z<|aP "z" λN=> ?_;refine aP "AQz" λI=> ?_;refine aP "G~5" ?_;refine WA.t 0 Z (V.acW (h:=32) afb (ak Z) (OO.some (ak Z) (λ_=>Z)) aN) ?_;refine WA.t 1 Z (V.kM zJ (ak Z)) ?_;refine WA.o 2 Z ?_;refine WL.agd (T:=34) (q:=32) (news:=av .u8 (bG 256 32 r)) dO (ak Z) (ak Z) (by repeat (first | exact Seq.pz (jl _) | apply Seq.up)) aN (jB _ _) (bT.part (l':=bG 256 32 r++replicate 32 0) (by rw[aI,length_replicate];decide) (by rw[aI,take_zero,nil_append,drop_replicate])) Z<|aP "*L~5" ?_;refine WA.t 0 Z (V.acV (l:=32) afb (ak Z) (OO.some (ak Z) (λ_=>Z)) aN) ?_;refine WA.t 1 Z (V.kM zJ (ak Z)) ?_;refine WA.o 2 Z ?_;refine WL.agd (T:=34) (q:=32) (news:=av .u8 (bG 256 32 ((k*a+d)%cL))) dO (ak Z) (ak Z) (by repeat (first | exact Seq.pz (jl _) | apply Seq.up)) aN (jB _ _) (bT.part (l':=bG 256 32 r++bG 256 32 ((k*a+d)%cL)) (by rw[aI,length_append,aI,length_replicate];decide) (by rw[take_left' (aI _ _ _),aI,drop_of_length_le (by rw[length_append,aI,length_replicate];decide),append_nil])) Z<|aP "*aBA6" ?_;exact aF.ret (H':=F) (bJ.one Z (R1.dh (l:=bG 256 32 r++bG 256 32 ((k*a+d)%cL)) Z ⟨isAgg256,sizeOf256⟩)) eO ⟨Z,Z⟩
  ·refine aP "z" λO=> ?_;refine aj "cm4" ?_;refine WL.c1 call145 Z ((Mt (ps:=[⟨some ⟨W,0,none⟩,32,32,bG 256 32 r⟩,⟨some ⟨X,0,none⟩,32,32,bG 256 32 C⟩,⟨A,m,cap,msg⟩]) (by repeat (first | exact Seq.all Z | apply Seq.up)) (λp n=>by
    simp only[mem_cons,not_mem_nil,or_false] at n;rcases n with rfl | rfl | rfl
    ·repeat (first | exact Seq.pz (jl _) | apply Seq.up)
    ·repeat (first | exact Seq.pz (jl _) | apply Seq.up)
    ·repeat (first | exact hs | apply Seq.up)) (by
    intro x e;simp only[flatMap_cons,flatMap_nil,append_nil,mem_append] at e;rcases e with h | h | h
    ·exact bL aN _ _ x h
    ·exact bL aN _ _ x h
    ·exact h8 x h) (by simp only[flatMap_cons,flatMap_nil,append_nil,length_append,aI];omega) aN).eq (v':=o8 k) (by rw[P];simp)) Z ?_
   rintro _ D ⟨rfl,G⟩;subst D;refine aP "cm6A*aBBB" ?_;refine WL.t3 call237 Z Z Z (acu vX B Ws) Z<|aP "z" λN=> ?_;refine aP "AQz" λI=> ?_;refine aP "G~5" ?_;refine WA.t 0 Z (V.acW (h:=32) afb (ak Z) (OO.some (ak Z) (λ_=>Z)) aN) ?_;refine WA.t 1 Z (V.kM zJ (ak Z)) ?_;refine WA.o 2 Z ?_;refine WL.agd (T:=34) (q:=32) (news:=av .u8 (bG 256 32 r)) dO (ak Z) (ak Z) (by repeat (first | exact Seq.pz (jl _) | apply Seq.up)) aN (jB _ _) (bT.part (l':=bG 256 32 r++replicate 32 0) (by rw[aI,length_replicate];decide) (by rw[aI,take_zero,nil_append,drop_replicate])) Z<|aP "*L~5" ?_;refine WA.t 0 Z (V.acV (l:=32) afb (ak Z) (OO.some (ak Z) (λ_=>Z)) aN) ?_;refine WA.t 1 Z (V.kM zJ (ak Z)) ?_;refine WA.o 2 Z ?_;refine WL.agd (T:=34) (q:=32) (news:=av .u8 (bG 256 32 ((k*a+d)%cL))) dO (ak Z) (ak Z) (by repeat (first | exact Seq.pz (jl _) | apply Seq.up)) aN (jB _ _) (bT.part (l':=bG 256 32 r++bG 256 32 ((k*a+d)%cL)) (by rw[aI,length_append,aI,length_replicate];decide) (by rw[take_left' (aI _ _ _),aI,drop_of_length_le (by rw[length_append,aI,length_replicate];decide),append_nil])) Z<|aP "*aBA6" ?_;exact aF.ret (H':=F) (bJ.one Z (R1.dh (l:=bG 256 32 r++bG 256 32 ((k*a+d)%cL)) Z ⟨isAgg256,sizeOf256⟩)) eO ⟨Z,Z⟩
 ·refine aP "z" λO=> ?_;refine aj "cm3" ?_;refine WL.buildSlice (E:=34) (cs:=[_,_,_]) (vs:=[(0,_),(1,_),(2,_)]) ⟨ak Z,ak Z,ak Z,trivial⟩ Z (zW _ _ _ _ _ _ _ _ _) Z (λVa=> ?_);refine aj "cm4" ?_;refine WL.c1 call145 Z ((Mt (ps:=[⟨some ⟨W,0,none⟩,32,32,bG 256 32 r⟩,⟨some ⟨X,0,none⟩,32,32,bG 256 32 C⟩,⟨A,m,cap,msg⟩]) (by repeat (first | exact Seq.all Z | apply Seq.up)) (λp n=>by
   simp only[mem_cons,not_mem_nil,or_false] at n;rcases n with rfl | rfl | rfl
   ·repeat (first | exact Seq.pz (jl _) | apply Seq.up)
   ·repeat (first | exact Seq.pz (jl _) | apply Seq.up)
   ·repeat (first | exact hs | apply Seq.up)) (by
   intro x e;simp only[flatMap_cons,flatMap_nil,append_nil,mem_append] at e;rcases e with h | h | h
   ·exact bL aN _ _ x h
   ·exact bL aN _ _ x h
   ·exact h8 x h) (by simp only[flatMap_cons,flatMap_nil,append_nil,length_append,aI];omega) aN).eq (v':=o8 k) (by rw[P];simp)) Z ?_
  rintro _ D ⟨rfl,G⟩;subst D;refine aP "cm6A*aBBB" ?_;refine WL.t3 call237 Z Z Z (acu vX B Ws) Z<|aP "z" λN=> ?_;refine aP "AQz" λI=> ?_;refine aP "G~5" ?_;refine WA.t 0 Z (V.acW (h:=32) afb (ak Z) (OO.some (ak Z) (λ_=>Z)) aN) ?_;refine WA.t 1 Z (V.kM zJ (ak Z)) ?_;refine WA.o 2 Z ?_;refine WL.agd (T:=34) (q:=32) (news:=av .u8 (bG 256 32 r)) dO (ak Z) (ak Z) (by repeat (first | exact Seq.pz (jl _) | apply Seq.up)) aN (jB _ _) (bT.part (l':=bG 256 32 r++replicate 32 0) (by rw[aI,length_replicate];decide) (by rw[aI,take_zero,nil_append,drop_replicate])) Z<|aP "*L~5" ?_;refine WA.t 0 Z (V.acV (l:=32) afb (ak Z) (OO.some (ak Z) (λ_=>Z)) aN) ?_;refine WA.t 1 Z (V.kM zJ (ak Z)) ?_;refine WA.o 2 Z ?_;refine WL.agd (T:=34) (q:=32) (news:=av .u8 (bG 256 32 ((k*a+d)%cL))) dO (ak Z) (ak Z) (by repeat (first | exact Seq.pz (jl _) | apply Seq.up)) aN (jB _ _) (bT.part (l':=bG 256 32 r++bG 256 32 ((k*a+d)%cL)) (by rw[aI,length_append,aI,length_replicate];decide) (by rw[take_left' (aI _ _ _),aI,drop_of_length_le (by rw[length_append,aI,length_replicate];decide),append_nil])) Z<|aP "*aBA6" ?_;exact aF.ret (H':=F) (bJ.one Z (R1.dh (l:=bG 256 32 r++bG 256 32 ((k*a+d)%cL)) Z ⟨isAgg256,sizeOf256⟩)) eO ⟨Z,Z⟩
end Go.Proofs.YtcedojacbhnbiaaGreat
