import Derived.Test.YtcedojacbhnbiaaGreatP10
set_option autoImplicit true
set_option linter.all false
set_option maxHeartbeats 2000000
set_option maxRecDepth 20000
set_option relaxedAutoImplicit true
namespace Go.Proofs.YtcedojacbhnbiaaGreat
open Go.Sl Go.RowKit Tryz List Nat
structure By where
 A:Option Addr
 M:Nat
 m:Nat
 cap:Nat
 n:Nat
abbrev By.v(r:By):Value:= .slice r.A r.m r.cap
abbrev By.E(r:By):aH:=aV (.slice r.A r.M r.cap) 5 1 r.M (av .u8 (bG 256 r.M r.n))
structure By.Ok(r:By):Prop where
 mM:r.m≤r.M
 M:r.M≤10000
 cap:r.m≤r.cap
 lt:r.n<256^r.m
 top:0<r.m→r.n/256^(r.m-1)%256≠0
theorem By.seq{r:By}(h:r.Ok):Seq K (r.E::H) r.A r.m 1 (av .u8 (bG 256 r.m r.n)):=by
 have h1:Seq K (r.E::H) r.A r.M 1 (av .u8 (bG 256 r.M r.n)):=aV.seq (by rw[au,aI,Nat.mul_one]);have h2:=h1.take h.mM
 rwa [dU,Ca h.mM] at h2
theorem By.vl{r:By}(h:r.Ok):vl 256 (bG 256 r.m r.n)=r.n:=by rw[xV,mod_eq_of_lt h.lt]
theorem YT(hs:Seq K F A0 m0 1 (av .u64 (bG 18446744073709551616 m0 n)))(hL:m0≤1000)(hc:m0≤cap)(hn:n<18446744073709551616^m0):aB prog 303 #[.slice A0 m0 cap] K F (fun v H'=>∃r:By,r.Ok∧r.n=n∧v=r.v∧H'=r.E::F):=by
 refine aB.en func303 ntmps303 ?_;refine aj "avf" ?_;refine WL.c1 call300 rfl (I6 hs hL hc) rfl ?_;rintro _ H0 ⟨hF0,m,rfl,hmm,Gf,ak3⟩;subst H0;have hnm:n<18446744073709551616^m:=by
  have h4:=nH (B:=18446744073709551616) (l:=(bG 18446744073709551616 m0 n).take m) (fun y hy=>bL aN _ _ y (mem_of_mem_take hy));rw[Gf,xV,mod_eq_of_lt hn,length_take,aI,Nat.min_eq_left hmm] at h4;exact h4
 refine aj "kN" ?_;refine WC.loop (σ:=Nat×Option Addr×Nat) (fun s=>[(3,.slice s.2.1 (8*s.1) s.2.2),(8,(.slice A0 m cap)),(9,.i ((m:Nat):Int)),(10,.i ((s.1:Nat):Int))]) (fun s=>aV (.slice s.2.1 (8*s.1) s.2.2) 5 1 (8*s.1) (av .u8 (bG 256 (8*s.1) n))::F) (fun s=>s.1≤m∧8*s.1≤s.2.2) (fun s=>m-s.1) (0,none,0) ⟨zero_le _,zero_le _⟩ bC (fun w h=>h.gI _ _) ?_;rintro⟨i,A,cp⟩ ⟨hi,ZG⟩;dsimp only at hi ZG ⊢;refine aP "a~jFH" (aW (fun h0=> ?_) fun h0=> ?_)
 ·simp only[cZ] at h0;refine aj "Ia" ?_;refine WL.val (V.jW (v:= .int .u64 ((n/18446744073709551616^i%18446744073709551616:Nat):Int)) Ls (ak rfl) (ak rfl) (hr:=fun _=>by
   have h1:=Seq.qH hs (show i<m0 by omega);rw[bV _ _ _ _ ay] at h1;exact h1.up)) rfl ?_
  refine WL.val (V.d9 (v:= .int .u64 ((n/18446744073709551616^i%18446744073709551616:Nat):Int)) isAgg306 (ak rfl) (fun _=>by
   have h1:=Seq.qH hs (show i<m0 by omega);rw[bV _ _ _ _ ay] at h1;exact h1.up)) rfl ?_
  refine aj "jbt" ?_;refine WC.loop (σ:=Nat×Option Addr×Nat) (fun s=>[(3,.slice s.2.1 (8*i+s.1) s.2.2),(5,.int .u64 ((n/18446744073709551616^i%18446744073709551616:Nat):Int)),(8,(.slice A0 m cap)),(9,.i ((m:Nat):Int)),(10,.i ((i:Nat):Int)),(14,.i ((s.1:Nat):Int))]) (fun s=>aV (.slice s.2.1 (8*i+s.1) s.2.2) 5 1 (8*i+s.1) (av .u8 (bG 256 (8*i+s.1) n))::F) (fun s=>s.1≤8∧8*i+s.1≤s.2.2) (fun s=>8-s.1) (0,A,cp) ⟨zero_le _,ZG⟩ bC cO ?_;rintro⟨k,A,cp⟩ ⟨hk,ao0⟩;dsimp only at hk ao0 ⊢;refine aP "a~~nFH" (aW (fun h1=> ?_) fun h1=> ?_)
  ·simp only[cZ] at h1;refine aP "1ghz~~c~8~Y" ?_;refine WL.buildSlice (E:=5) (cs:=av .u8 [_]) (vs:=[(0,_)]) ⟨ak rfl,trivial⟩ rfl (jc _) rfl (fun b23=> ?_);refine aP "?~4" fun A24 c24 aod aov=> ?_;refine aP "gp>=" ?_;refine⟨(k+1,A24,c24),⟨by show k+1≤8;omega,by show 8*i+(k+1)≤c24;omega⟩,(by show 8-(k+1)<8-k;omega),.cons rfl bC,fun w h=> ?_⟩;have h2:=Sat.wm (h.bg 2 [0] rfl) (show av .u8 (bG 256 (8*i+k) n++[n/18446744073709551616^i%18446744073709551616/2^(8*k)%256])=av .u8 (bG 256 (8*i+(k+1)) n) by
    rw[←Nat.add_assoc,xK];congr 3;rw[show (18446744073709551616:Nat)=256^8 by decide,show 2^(8*k)=256^k by rw[Nat.pow_mul],mg _ h1,←Nat.pow_mul,Nat.div_div_eq_div_mul,←Nat.pow_add])
   exact h2
  ·simp only[cZ] at h1;refine WC.exit ?_;obtain rfl:k=8:=by omega
   refine aP "p>=" ?_;exact⟨(i+1,A,cp),⟨by show i+1≤m;omega,by show 8*(i+1)≤cp;omega⟩,(by show m-(i+1)<m-i;omega),.cons rfl bC,fun w h=>h⟩
 ·simp only[cZ] at h0;refine aj "Wt" ?_;obtain rfl:m=i:=by omega
  refine WC.loop (σ:=Nat) (fun q=>[(3,.slice A q cp)]) (fun _=>aV (.slice A (8*m) cp) 5 1 (8*m) (av .u8 (bG 256 (8*m) n))::F) (fun q=>q≤8*m∧n<256^q) (fun q=>q) (8*m) ⟨Nat.le_refl _,by rw[Nat.pow_mul];exact hnm⟩ bC cO ?_;rintro q ⟨hq,hqn⟩;have hS:Seq K (aV (.slice A (8*m) cp) 5 1 (8*m) (av .u8 (bG 256 (8*m) n))::F) A (8*m) 1 (av .u8 (bG 256 (8*m) n)):=aV.seq (by rw[au,aI,Nat.mul_one]);refine aP "rk~^c!!~~m" ?_;refine WL.bI (oj:=_) rfl rfl rfl GC.t (V.rD (j:=1) (OV.g rfl id) (ak rfl)) rfl ?_;refine WL.bI (oj:=_) rfl rfl rfl GC.t (V.jW (m:=q) (j:=q-1) (v:= .int .u8 (((bG 256 (8*m) n).getD (q-1) 0:Nat):Int)) dO (OV.g rfl id) (OV.g rfl id) (hb:=fun hc=>by simp at hc;omega) (hr:=fun hc=>Seq.qH hS (by simp at hc;omega))) rfl ?_;refine WL.bI (oj:=_) rfl rfl rfl GC.t (V.d9 (v:= .int .u8 (((bG 256 (8*m) n).getD (q-1) 0:Nat):Int)) isAgg5 (OV.g rfl id) (fun hc=>Seq.qH hS (by simp at hc;omega))) rfl ?_;refine aP "~~xQi" (aW (fun h2=> ?_) fun h2=> ?_)
  ·simp only[Gi] at h2;refine aP "qtPk~~(" ?_;refine WL.val (V.slice (m:=q) (cap:=cp) (l:=0) (h:=q-1) (u:=cp) dO (ak rfl) OO.none (OO.some (ak rfl) (fun _=>rfl)) OO.none (by simp) ay ay ay) rfl ?_;refine aj "X" ?_;refine⟨q-1,⟨by show q-1≤_;omega, ?_⟩,(by show q-1<q;omega),.cons (look_eq rfl (by rw[zK,Nat.sub_zero,Nat.sub_zero])) (.nil _),fun w h=>h⟩;rw[bV _ _ _ _ ay] at h2;have h3:n/256^(q-1)<256:=Nat.div_lt_of_lt_mul (by rw[←Nat.pow_succ,show (q-1).succ=q by omega];exact hqn);rw[mod_eq_of_lt h3] at h2;have h4:0<256^(q-1):=Nat.pow_pos aN;show n<256^(q-1);rcases Nat.lt_or_ge n (256^(q-1)) with h5 | h5
   ·exact h5
   ·have :=div_pos h5 h4;omega
  ·simp only[Gi] at h2;refine aj "Ked" ?_;refine qR _ rfl rfl cO ⟨⟨A,8*m,q,cp,n⟩,⟨hq,by show 8*m≤10000;omega,by show q≤cp;omega,hqn,fun h=> ?_⟩,rfl,rfl,rfl⟩;have h:0<q:=h;rcases h2 with h2 | h2
   ·omega
   ·rw[bV _ _ _ _ ay] at h2;exact h2
theorem aaw(hs:Seq K F A m 1 (av .u8 xs))(pI:Seq K F B m2 1 (av .u8 ys))(hx:aA 256 xs)(hy:aA 256 ys)(hm:m≤2000)(hm2:m2≤2000) :
 aK prog 207 #[.slice A m cap,.slice B m2 cap2] K F (.i (rM (vl 256 xs) (vl 256 ys))):=by
 refine aB.en func207 ntmps207 ?_;refine aj "aj" ?_;refine WL.c1 call259 rfl (zl hs hx hm) rfl ?_;rintro _ _ ⟨r,hr,rn,rfl,rfl⟩;refine WL.mv rfl rfl (WL.c1 call259 rfl (zl pI.up hy hm2) rfl ?_);rintro _ _ ⟨r2,EB,rn2,rfl,rfl⟩;refine WL.t2 call258 rfl rfl (Fy (Rw.seq hr).up (Rw.seq EB) (bL aN _ _) (bL aN _ _) (by have :=hr.L;have :=hr.mL;omega) (by have :=EB.L;have :=EB.mL;omega)) rfl ?_;refine aj "d;" ?_;rw[Rw.vl hr,Rw.vl EB,rn,rn2]
set_option exponentiation.threshold 5000
theorem Rw.le{r:Rw}(h:r.Ok)(hk:r.n<18446744073709551616^k):r.m≤k:=by
 rcases Nat.lt_or_ge k r.m with h1 | h1
 ·have h2:=h.top ay;rw[div_eq_of_lt (Nat.lt_of_lt_of_le hk (Nat.pow_le_pow_right aN ay))] at h2;exact absurd rfl h2
 ·exact h1
theorem acS(h:a≤b):18446744073709551616^a≤18446744073709551616^b:=Nat.pow_le_pow_right aN h
theorem ah9(hs:Seq K F A m 1 (av .u8 xs))(pI:Seq K F B m2 1 (av .u8 ys))(hx:aA 256 xs)(hy:aA 256 ys)(hm:m≤2000)(hm2:m2≤2000) :
 aB prog 273 #[.slice A m cap,.slice B m2 cap2] K F (fun v H'=>∃r:By,r.Ok∧r.n=vl 256 xs+vl 256 ys∧v=r.v∧∃X,H'=r.E::X::F):=by
 refine aB.en func273 ntmps273 ?_;refine aj "aj" ?_;refine WL.c1 call259 rfl (zl hs hx hm) rfl ?_;rintro _ _ ⟨r,hr,rn,rfl,rfl⟩;refine WL.mv rfl rfl (WL.c1 call259 rfl (zl pI.up hy hm2) rfl ?_);rintro _ _ ⟨r2,EB,rn2,rfl,rfl⟩;have h1L:=hr.L;have h2L:=EB.L;have h1m:=hr.mL;have h2m:=EB.mL;have h1k:r.m≤250:=Rw.le hr (by rw[rn];refine Nat.lt_of_lt_of_le (nH hx) ?_;have :=hs.len;rw[au,Nat.mul_one] at this;rw[this,show (18446744073709551616:Nat)=256^8 by decide,←Nat.pow_mul];exact Nat.pow_le_pow_right aN ay);have h2k:r2.m≤250:=Rw.le EB (by rw[rn2];refine Nat.lt_of_lt_of_le (nH hy) ?_;have :=pI.len;rw[au,Nat.mul_one] at this;rw[this,show (18446744073709551616:Nat)=256^8 by decide,←Nat.pow_mul];exact Nat.pow_le_pow_right aN ay);refine aj "ljkck" ?_;obtain⟨M,hM⟩:∃M,M=max r.m r2.m:=⟨_,rfl⟩;refine WL.val (V.aG (v':= .i ((M:Nat):Int)) (V.max (ak rfl) (ak rfl)) (fun _=>by congr 1;show max (r.m:Int) (r2.m:Int)=((M:Nat):Int);omega)) rfl ?_;refine aP ">" ?_;refine WL.Vf (m:=M+1) underlying330 Vn (ak rfl) (ak rfl) (fun b20=> ?_);refine aj "vfkN" ?_;have Zg:r.n<18446744073709551616^(M+1):=Nat.lt_of_lt_of_le hr.lt (acS ay);have hy1:r2.n<18446744073709551616^(M+1):=Nat.lt_of_lt_of_le EB.lt (acS ay);refine WC.loop (σ:=Nat×List Nat×Nat) (fun s=>[(5,r.v),(6,r2.v),(7,.slice (some ⟨b20,0,none⟩) (M+1) (M+1)),(8,.int .u64 ((s.2.2:Nat):Int)),(22,.i ((M+1:Nat):Int)),(23,.i ((s.1:Nat):Int))]) (fun s=>ah b20 306 (av .u64 s.2.1)::r2.A::r.A::F)
  (fun s=>s.1≤M+1∧s.2.1.length=M+1∧aA 18446744073709551616 s.2.1∧s.2.2≤1∧vl 18446744073709551616 (s.2.1.take s.1)+s.2.2*18446744073709551616^s.1=r.n%18446744073709551616^s.1+r2.n%18446744073709551616^s.1) (fun s=>M+1-s.1) (0,replicate (M+1) 0,0) ⟨zero_le _,length_replicate,aA.wJ aN,zero_le _,by simp[vl,mod_one]⟩ bC cO ?_
 rintro⟨i,ws,b⟩ ⟨hi,hl,nS,EA,hv⟩;dsimp only at hi hl nS EA hv ⊢;refine aP "a~jFH" (aW (fun aL=> ?_) fun aL=> ?_)
 ·simp only[cZ] at aL;refine aj "1ghzc" ?_;refine WL.t2 call299 rfl rfl (TM (i:=i) (Rw.seq hr).up.up) rfl ?_;refine aj "z" ?_;refine WL.t2 call299 rfl rfl (TM (i:=i) (Rw.seq EB).up) rfl ?_;refine WL.mv rfl rfl ?_;refine WL.val (V.ext (fun hc=>jJ _ _ _ ay) ⟨ak rfl,ak rfl,ak rfl,trivial⟩) rfl ?_;refine aP "6~$~vgp>=" ?_;rw[Eh aN (bL aN _ _),Eh aN (bL aN _ _),Rw.vl hr,Rw.vl EB];have hxi:r.n/18446744073709551616^i%18446744073709551616<18446744073709551616:=mod_lt _ aN;have hyi:r2.n/18446744073709551616^i%18446744073709551616<18446744073709551616:=mod_lt _ aN;refine⟨(i+1,_,(r.n/18446744073709551616^i%18446744073709551616+r2.n/18446744073709551616^i%18446744073709551616+b)/18446744073709551616),⟨by show i+1≤M+1;omega,by show (ws.set i _).length=M+1;rw[length_set];exact hl,nS.set (mod_lt _ aN),(by dsimp only;omega), ?_⟩,(by show M+1-(i+1)<M+1-i;omega),.cons rfl bC,fun w h=>h⟩;dsimp only;rw[oD _ _ _ ay,mod_succ r.n,mod_succ r2.n,Nat.pow_succ];exact Tv hv ay
 ·simp only[cZ] at aL;refine aj "W" ?_;obtain rfl:i=M+1:=by omega
  rw[take_of_length_le ay,mod_eq_of_lt Zg,mod_eq_of_lt hy1] at hv;have hvl:=nH nS;rw[hl] at hvl;have hxM:=Nat.lt_of_lt_of_le hr.lt (acS (show r.m≤M by omega));have hyM:=Nat.lt_of_lt_of_le EB.lt (acS (show r2.m≤M by omega));have asa:r.n+r2.n<18446744073709551616^(M+1):=by rw[Nat.pow_succ];omega
  have hb0:b=0:=by
   rcases (show b=0∨b=1 by omega) with h | h
   ·exact h
   ·subst h;omega
  rw[hb0,Nat.zero_mul,Nat.add_zero] at hv;have e2:av .u64 ws=av .u64 (bG 18446744073709551616 (M+1) (r.n+r2.n)):=by rw[←hv,ng nS hl]
  rw[e2];refine aj "h" ?_;refine WL.c1 call303 rfl (YT (Seq.pz (aI _ _ _)) ay (Nat.le_refl _) asa) rfl ?_;rintro _ _ ⟨y,hy',yn,rfl,rfl⟩;refine aj "d" ?_;exact aF.ret (H':=y.E::bK [ah b20 306 (av .u64 (bG 18446744073709551616 (M+1) (r.n+r2.n))),r2.A,r.A]::F) (bJ.tmp rfl rfl) (fun w h=>(Sat.Vl (l:=[ah b20 306 (av .u64 (bG 18446744073709551616 (M+1) (r.n+r2.n))),r2.A,r.A]) h)) ⟨y,hy',by rw[yn,rn,rn2],rfl,_,rfl⟩
theorem aic(hs:Seq K F A m 1 (av .u8 xs))(pI:Seq K F B m2 1 (av .u8 ys))(hx:aA 256 xs)(hy:aA 256 ys)(hm:m≤2000)(hm2:m2≤2000) :
 aB prog 274 #[.slice A m cap,.slice B m2 cap2] K F (fun v H'=>∃r:By,r.Ok∧r.n=vl 256 xs*vl 256 ys∧v=r.v∧∃X,H'=r.E::X::F):=by
 refine aB.en func274 ntmps274 ?_;refine aj "aj" ?_;refine WL.c1 call259 rfl (zl hs hx hm) rfl ?_;rintro _ _ ⟨r,hr,rn,rfl,rfl⟩;refine WL.mv rfl rfl (WL.c1 call259 rfl (zl pI.up hy hm2) rfl ?_);rintro _ _ ⟨r2,EB,rn2,rfl,rfl⟩;have h1L:=hr.L;have h2L:=EB.L;have h1m:=hr.mL;have h2m:=EB.mL;have h1k:r.m≤250:=Rw.le hr (by rw[rn];refine Nat.lt_of_lt_of_le (nH hx) ?_;have :=hs.len;rw[au,Nat.mul_one] at this;rw[this,show (18446744073709551616:Nat)=256^8 by decide,←Nat.pow_mul];exact Nat.pow_le_pow_right aN ay);have h2k:r2.m≤250:=Rw.le EB (by rw[rn2];refine Nat.lt_of_lt_of_le (nH hy) ?_;have :=pI.len;rw[au,Nat.mul_one] at this;rw[this,show (18446744073709551616:Nat)=256^8 by decide,←Nat.pow_mul];exact Nat.pow_le_pow_right aN ay);rw[←rn,←rn2];obtain⟨x,hxx⟩:∃x,x=r.n:=⟨_,rfl⟩;obtain⟨y,hyy⟩:∃y,y=r2.n:=⟨_,rfl⟩;have uI:x<18446744073709551616^r.m:=by rw[hxx];exact hr.lt
 have hyl:y<18446744073709551616^r2.m:=by rw[hyy];exact EB.lt
 have gL:∀ {H:List aH} {i:Nat},i<r.m→Rd K (r.A::H) (some ⟨r.b,i,none⟩) (.int .u64 ((x/18446744073709551616^i%18446744073709551616:Nat):Int)):=fun {H i} hi=>by
  have h1:Rd K (r.A::H) (some ⟨r.b,i,none⟩) (.int .u64 (((bG 18446744073709551616 r.L r.n).getD i 0:Nat):Int)):=Rd.nat (by rw[aI];omega)
  rwa [bV _ _ _ _ ay,←hxx] at h1
 have hys:∀ {H:List aH} {i:Nat},i<r2.m→Rd K (r2.A::H) (some ⟨r2.b,i,none⟩) (.int .u64 ((y/18446744073709551616^i%18446744073709551616:Nat):Int)):=fun {H i} hi=>by
  have h1:Rd K (r2.A::H) (some ⟨r2.b,i,none⟩) (.int .u64 (((bG 18446744073709551616 r2.L r2.n).getD i 0:Nat):Int)):=Rd.nat (by rw[aI];omega)
  rwa [bV _ _ _ _ ay,←hyy] at h1
 rw[←hxx,←hyy];refine aP "ljkck~S" ?_;refine WL.Vf (m:=r.m+r2.m) underlying330 Vn (ak rfl) (ak rfl) (fun b25=> ?_);refine aj "fkN" ?_;refine WC.loop (σ:=Nat×List Nat) (fun s=>[(5,r.v),(6,r2.v),(7,.slice (some ⟨b25,0,none⟩) (r.m+r2.m) (r.m+r2.m)),(26,r.v),(27,.i ((r.m:Nat):Int)),(28,.i ((s.1:Nat):Int))]) (fun s=>ah b25 306 (av .u64 s.2)::r2.A::r.A::F)
  (fun s=>s.1≤r.m∧s.2.length=r.m+r2.m∧aA 18446744073709551616 s.2∧(∀j,s.1+r2.m≤j→s.2.getD j 0=0)∧vl 18446744073709551616 s.2=x%18446744073709551616^s.1*y) (fun s=>r.m-s.1) (0,replicate (r.m+r2.m) 0) ⟨zero_le _,length_replicate,aA.wJ aN,fun j _=>y7 _ _,by rw[GY];simp[mod_one]⟩ bC cO ?_
 rintro⟨i,wide⟩ ⟨hi,hl,nS,hz,hv⟩;dsimp only at hi hl nS hz hv ⊢;refine aP "a~jFH" (aW (fun h0=> ?_) fun h0=> ?_)
 ·simp only[cZ] at h0;refine aP "1~$" ?_;refine WL.val (V.d9 (v:= .int .u64 ((x/18446744073709551616^i%18446744073709551616:Nat):Int)) isAgg306 (ak rfl) (fun _=>(gL h0).up.up)) rfl ?_;refine aj "lu" ?_;have hxi:x/18446744073709551616^i%18446744073709551616<18446744073709551616:=mod_lt _ aN;refine aj "pfkN" ?_;refine WC.loop (σ:=Nat×List Nat×Nat) (fun s=>[(5,r.v),(6,r2.v),(7,.slice (some ⟨b25,0,none⟩) (r.m+r2.m) (r.m+r2.m)),(26,r.v),(27,.i ((r.m:Nat):Int)),(28,.i ((i:Nat):Int)),(8,.i ((i:Nat):Int)),(9,.int .u64 ((x/18446744073709551616^i%18446744073709551616:Nat):Int)),(33,r2.v),(34,.i ((r2.m:Nat):Int)),(35,.i ((s.1:Nat):Int)),(10,.int .u64 ((s.2.2:Nat):Int))]) (fun s=>ah b25 306 (av .u64 s.2.1)::r2.A::r.A::F)
   (fun s=>s.1≤r2.m∧s.2.1.length=r.m+r2.m∧aA 18446744073709551616 s.2.1∧(∀j,i+r2.m≤j→s.2.1.getD j 0=0)∧s.2.2<18446744073709551616∧vl 18446744073709551616 s.2.1+s.2.2*18446744073709551616^(i+s.1)=x%18446744073709551616^i*y+x/18446744073709551616^i%18446744073709551616*(y%18446744073709551616^s.1)*18446744073709551616^i) (fun s=>r2.m-s.1) (0,wide,0) ⟨zero_le _,hl,nS,hz,(by show 0<_;decide),by dsimp only;rw[hv];simp[mod_one]⟩ bC cO ?_
  rintro⟨k,wd,cy⟩ ⟨hk,RY,uM,JN,Y5,Gf⟩;dsimp only at hk RY uM JN Y5 Gf ⊢;refine aP "a~jFH" (aW (fun h1=> ?_) fun h1=> ?_)
  ·simp only[cZ] at h1;refine aP "1~$" ?_;refine WL.val (V.d9 (v:= .int .u64 ((y/18446744073709551616^k%18446744073709551616:Nat):Int)) isAgg306 (ak rfl) (fun _=>(hys h1).up)) rfl ?_;refine aj "lu" ?_;have hyi:y/18446744073709551616^k%18446744073709551616<18446744073709551616:=mod_lt _ aN;have Gh:=uM.at_ aN (i+k);refine aj "P" ?_;refine WL.t2 call293 rfl rfl (ku hxi hyi) rfl ?_;refine aP "Dvjzc~S~$~W~:DY~TY~:Dghz~Szc~T~$~vgp>=" ?_;have hm:=TU hxi hyi Gh Y5;refine⟨(k+1,_,XF (x/18446744073709551616^i%18446744073709551616) (y/18446744073709551616^k%18446744073709551616) (wd.getD (i+k) 0) cy),⟨by show k+1≤r2.m;omega,by show (wd.set _ _).length=_;rw[length_set];exact RY,uM.set (mod_lt _ aN),fun j hj=> ?_,NY _ _ _ _, ?_⟩,(by show r2.m-(k+1)<r2.m-k;omega),.cons rfl bC,fun w h=>h⟩
   ·dsimp only;rw[getD_set_ne ay];exact JN j hj
   ·dsimp only;rw[mod_succ y,Qy,←Nat.add_assoc i k 1,Nat.pow_succ];exact Rn Gf (Hf _ _ _ _ ay) hm
  ·simp only[cZ] at h1;refine aj "W" ?_;obtain rfl:k=r2.m:=by omega
   rw[mod_eq_of_lt hyl] at Gf;refine aP "hk~^i" (aW (fun h2=> ?_) fun h2=> ?_)
   ·simp only[cZ] at h2;refine aP "hzk~Sc~$~vbp>=" ?_;refine⟨(i+1,wd.set (i+r2.m) cy),⟨by show i+1≤r.m;omega,by show (wd.set _ _).length=_;rw[length_set];exact RY,uM.set Y5,fun j hj=> ?_, ?_⟩,(by show r.m-(i+1)<r.m-i;omega),.cons rfl bC,fun w h=>h⟩
    ·dsimp only at hj ⊢;rw[getD_set_ne ay];exact JN j ay
    ·dsimp only;have h1:=Hf 18446744073709551616 wd (i+r2.m) cy ay;rw[JN (i+r2.m) (Nat.le_refl _),Nat.zero_mul,Nat.add_zero] at h1;rw[h1,Gf,mod_succ x,Nat.add_mul];congr 1;simp only[Nat.mul_assoc,Nat.mul_comm,Nat.mul_left_comm]
   ·simp only[cZ] at h2;refine aP "qp>=" ?_;have Y0:y=0:=by rw[show r2.m=0 by omega,Nat.pow_zero] at hyl;omega
    refine⟨(i+1,wd),⟨by show i+1≤r.m;omega,RY,uM,fun j hj=>JN j (by have :i+1+r2.m≤j:=hj;omega), ?_⟩,(by show r.m-(i+1)<r.m-i;omega),.cons rfl bC,fun w h=>h⟩;show vl 18446744073709551616 wd=x%18446744073709551616^(i+1)*y;rw[Y0,Nat.mul_zero] at Gf ⊢;have hp:0<18446744073709551616^(i+r2.m):=Nat.pow_pos aN;rw[Nat.mul_zero,Nat.zero_mul,Nat.add_zero] at Gf;omega
 ·simp only[cZ] at h0;refine aj "W" ?_;obtain rfl:i=r.m:=by omega
  rw[mod_eq_of_lt uI] at hv;have apC:x*y<18446744073709551616^(r.m+r2.m):=by have :=nH nS;rwa [hl,hv] at this
  have e2:av .u64 wide=av .u64 (bG 18446744073709551616 (r.m+r2.m) (x*y)):=by rw[←hv,ng nS hl]
  rw[e2];refine aj "h" ?_;refine WL.c1 call303 rfl (YT (Seq.pz (aI _ _ _)) ay (Nat.le_refl _) apC) rfl ?_;rintro _ _ ⟨z,hz',zn,rfl,rfl⟩;refine aj "d" ?_;exact aF.ret (H':=z.E::bK [ah b25 306 (av .u64 (bG 18446744073709551616 (r.m+r2.m) (x*y))),r2.A,r.A]::F) (bJ.tmp rfl rfl) (fun w h=>(Sat.Vl (l:=[ah b25 306 (av .u64 (bG 18446744073709551616 (r.m+r2.m) (x*y))),r2.A,r.A]) h)) ⟨z,hz',zn,rfl,_,rfl⟩
def oA:Option Rw→Option Addr | none=>none | some r=>some ⟨r.b,0,none⟩
def oM:Option Rw→Nat | none=>0 | some r=>r.m
def oC:Option Rw→Nat | none=>0 | some r=>r.cap
def oN:Option Rw→Nat | none=>0 | some r=>r.n
def oE:Option Rw→aH | none=>Zt | some r=>r.A
def oOk:Option Rw→Prop | none=>True | some r=>r.Ok
theorem akp:∀ {o:Option Rw},oOk o→∀ {K:World} {H:List aH},Seq K (oE o::H) (oA o) (oM o) 1 (av .u64 (bG 18446744073709551616 (oM o) (oN o)))
 | none,_,_,_=>Seq.nil
 | some _,h,_,_=>Rw.seq h
theorem oLt:∀ {o:Option Rw},oOk o→oN o<18446744073709551616^oM o
 | none,_=>by show 0<_;decide
 | some _,h=>h.lt
theorem anp:∀ {o:Option Rw},oOk o→oM o≤oC o
 | none,_=>Nat.le_refl _
 | some _,h=>h.cap
theorem oLe:∀ {o:Option Rw},oOk o→∀ {k:Nat},oN o<18446744073709551616^k→oM o≤k
 | none,_,_,_=>zero_le _
 | some _,h,_,hk=>Rw.le h hk
theorem Q6(hy:0<y)(hb:b=x/2^k%2)(hn:n=x/2^(k+1)%y):(if y≤2*n+b then 2*n+b-y else 2*n+b)=x/2^k%y:=by
 have h1:x/2^k=2*(x/2^(k+1))+b:=by rw[Nat.pow_succ,←Nat.div_div_eq_div_mul,hb];omega
 have h2:n<y:=by rw[hn];exact mod_lt _ hy
 have h3:(2*n+b)%y=x/2^k%y:=by
  rw[h1,hn];have e:2*(x/2^(k+1))+b=2*(x/2^(k+1)%y)+b+y*(2*(x/2^(k+1)/y)):=by
   have :=div_add_mod (x/2^(k+1)) y;have e3:y*(2*(x/2^(k+1)/y))=2*(y*(x/2^(k+1)/y)):=Nat.mul_left_comm _ _ _;omega
  rw[e,add_mul_mod_self_left]
 rw[←h3];split
 ·next h=>rw[mod_eq_sub_mod h,mod_eq_of_lt ay]
 ·next h=>rw[mod_eq_of_lt ay]
theorem abv(hs:Seq K F A m 1 (av .u8 xs))(pI:Seq K F B m2 1 (av .u8 ys))(hx:aA 256 xs)(hy:aA 256 ys)(hm:m≤2000)(hm2:m2≤2000)(Y0:0<vl 256 ys) :
 aB prog 260 #[.slice A m cap,.slice B m2 cap2] K F (fun v H'=>∃r:By,r.Ok∧r.n=vl 256 xs%vl 256 ys∧v= .tuple #[r.v,.i 0]∧∃X,H'=r.E::X::F):=by
 refine aB.en func260 ntmps260 ?_;refine aj "alj" ?_;refine WL.c1 call259 rfl (zl hs hx hm) rfl ?_;rintro _ _ ⟨r,hr,rn,rfl,rfl⟩;refine WL.mv rfl rfl (WL.c1 call259 rfl (zl pI.up hy hm2) rfl ?_);rintro _ _ ⟨r2,EB,rn2,rfl,rfl⟩;have h1L:=hr.L;have h2L:=EB.L;have h1m:=hr.mL;have h2m:=EB.mL;have h1k:r.m≤250:=Rw.le hr (by rw[rn];refine Nat.lt_of_lt_of_le (nH hx) ?_;have :=hs.len;rw[au,Nat.mul_one] at this;rw[this,show (18446744073709551616:Nat)=256^8 by decide,←Nat.pow_mul];exact Nat.pow_le_pow_right aN ay);have h2k:r2.m≤250:=Rw.le EB (by rw[rn2];refine Nat.lt_of_lt_of_le (nH hy) ?_;have :=pI.len;rw[au,Nat.mul_one] at this;rw[this,show (18446744073709551616:Nat)=256^8 by decide,←Nat.pow_mul];exact Nat.pow_le_pow_right aN ay);rw[←rn,←rn2];rw[←rn2] at Y0;obtain⟨x,hxx⟩:∃x,x=r.n:=⟨_,rfl⟩;obtain⟨y,hyy⟩:∃y,y=r2.n:=⟨_,rfl⟩;have uI:x<18446744073709551616^r.m:=by rw[hxx];exact hr.lt
 have hyl:y<18446744073709551616^r2.m:=by rw[hyy];exact EB.lt
 have gL:∀ {H:List aH} {i:Nat},i<r.m→Rd K (r.A::H) (some ⟨r.b,i,none⟩) (.int .u64 ((x/18446744073709551616^i%18446744073709551616:Nat):Int)):=fun {H i} hi=>by
  have h1:Rd K (r.A::H) (some ⟨r.b,i,none⟩) (.int .u64 (((bG 18446744073709551616 r.L r.n).getD i 0:Nat):Int)):=Rd.nat (by rw[aI];omega)
  rwa [bV _ _ _ _ ay,←hxx] at h1
 rw[←hyy] at Y0;rw[←hxx,←hyy];have hm0:0<r2.m:=by
  rcases eq_zero_or_pos r2.m with h | h
  ·rw[h,Nat.pow_zero] at hyl;omega
  ·exact h
 refine aP "lfk~~$i" (aW (fun h0=> ?_) fun h0=> ?_)
 ·skip
  refine aj "aC" ?_;exact absurd h0 (by simp;omega)
 ·skip
  refine aj "9fk" ?_;refine WL.val (V.Ob (i:=64) (ak rfl) (ak rfl)) rfl (aj "~xgt" ?_);refine WC.loop (σ:=Nat×Option Rw) (fun s=>[(6,r.v),(7,r2.v),(8,.slice (oA s.2) (oM s.2) (oC s.2)),(9,.i ((s.1:Int)-1))]) (fun s=>oE s.2::r2.A::r.A::F)
   (fun s=>s.1≤64*r.m∧oOk s.2∧oN s.2=x/2^s.1%y) (fun s=>s.1) (64*r.m,none) ⟨Nat.le_refl _,trivial,by show 0=_;rw[div_eq_of_lt (by rw[Nat.pow_mul];exact uI),zero_mod]⟩ bC (fun w h=>h.emp) ?_
  rintro⟨i,o⟩ ⟨hi,ho,hq⟩;dsimp only at hi ho hq ⊢;have ZC:oN o<18446744073709551616^r2.m:=by rw[hq];exact Nat.lt_trans (mod_lt _ Y0) hyl
  have hom:=oLe ho ZC;refine aj "r~ii" (aW (fun aQ=> ?_) fun aQ=> ?_)
  ·simp only[cZ] at aQ;obtain⟨i,rfl⟩:∃q,i=q+1:=⟨i-1,by omega⟩;rw[show ((i+1:Nat):Int)-1=((i:Nat):Int) by omega];refine aj "1z" ?_;refine WL.val (V.XI (j:=64) (ak rfl) (ak rfl)) rfl (aP "~$" ?_);refine WL.val (V.d9 (v:= .int .u64 ((x/18446744073709551616^(i/64)%18446744073709551616:Nat):Int)) isAgg306 (ak rfl) (fun _=>(gL (i:=i/64) ay).up.up)) rfl ?_;refine aP "c~~^~8~~_" ?_;have e1:x/18446744073709551616^(i/64)%18446744073709551616/2^(i%64) &&& 1=x/2^i%2:=by
    rw[and_one_is_mod,show (18446744073709551616:Nat)=2^64 by decide,mg (B:=2) _ ay,←Nat.pow_mul,Nat.div_div_eq_div_mul,←Nat.pow_add,div_add_mod]
   rw[e1];refine WL.c2 call301 rfl rfl (SN (akp ho) (oLt ho) ay ay) rfl ?_;rintro _ _ ⟨r3,Mc,rn3,rfl,rfl⟩;refine aj "Y" ?_;refine WL.t2 call258 rfl rfl (Fy (Rw.seq Mc) (Rw.seq EB).up.up (bL aN _ _) (bL aN _ _) (by have :=Mc.L;have :=Mc.mL;omega) ay) rfl ?_;refine aj "~ii" (aW (fun h2=> ?_) fun h2=> ?_)
   ·rw[Rw.vl Mc,Rw.vl EB,←hyy,rn3,hq] at h2;have h3:=Q6 (x:=x) (n:=oN o) (k:=i) Y0 rfl hq;rw[←hq] at h2;simp only[rM] at h2;have h4:y≤2*oN o+x/2^i%2:=by replace h2:=of_decide_eq_true h2;split at h2<;>omega
    rw[if_pos h4] at h3;refine aj "P" ?_;refine WL.c2 call302 rfl rfl (XY Mc (Rw.seq EB).up (bL aN _ _) (by rw[Rw.vl EB,←hyy,rn3];exact h4)) rfl ?_;rintro _ _ ⟨r4,hr4,rn4,rfl,rfl⟩;rw[Rw.vl EB,←hyy,rn3] at rn4;refine aj "gh~xX" ?_;exact⟨(i,some r4),⟨by show i≤64*r.m;omega,hr4,by show r4.n=_;rw[rn4];exact h3⟩,(by show i<i+1;omega),.cons rfl bC,fun w h=>h.bg 4 [0,2,3] rfl⟩
   ·rw[Rw.vl Mc,Rw.vl EB,←hyy,rn3,hq] at h2;have h3:=Q6 (x:=x) (n:=oN o) (k:=i) Y0 rfl hq;rw[←hq] at h2;simp only[rM] at h2;have h4:¬y≤2*oN o+x/2^i%2:=by replace h2:=of_decide_eq_false h2;split at h2<;>(try split at h2)<;>omega
    rw[if_neg h4] at h3;refine aj "qh~xX" ?_;exact⟨(i,some r3),⟨by show i≤64*r.m;omega,Mc,by show r3.n=_;rw[rn3];exact h3⟩,(by show i<i+1;omega),.cons rfl bC,fun w h=>h.bg 4 [0,2,3] rfl⟩
  ·simp only[cZ] at aQ;refine aj "W" ?_;obtain rfl:i=0:=by omega
   rw[Nat.pow_zero,Nat.div_one] at hq;refine aj "h" ?_;refine WL.c1 call303 rfl (YT (akp ho) ay (anp ho) (oLt ho)) rfl ?_;rintro _ _ ⟨z,hz',zn,rfl,rfl⟩;refine aj "C" ?_;exact aF.ret (H':=z.E::bK [oE o,r2.A,r.A]::F) (bJ.two rfl (R1.tmp rfl) (R1.tmp rfl)) (fun w h=>(Sat.Vl (l:=[oE o,r2.A,r.A]) h)) ⟨z,hz',by rw[zn];exact hq,rfl,_,rfl⟩
end Go.Proofs.YtcedojacbhnbiaaGreat
namespace Go.Sl
open Go List Nat
theorem V.kM(hT:tC P T m E s)(hx:OV true e x (ptr b 0)):eX Mo P K n true e H ⟨dst,.slice T x none none none,ty,pos,af,gd⟩ (.slice (some ⟨b,0,none⟩) m m) :=
 V.aG (V.qM (l:=0) (h:=m) (u:=m) hT hx OO.none OO.none OO.none (by simp) (zero_le _) (Nat.le_refl _) (Nat.le_refl _)) fun _=>by simp
theorem V.acr(hT:tC P T m E 1)(hx:OV true e x (ptr b 0))(hy:OO true e (some y) 0 l)(hl:blt l m=true):eX Mo P K n true e H ⟨dst,.slice T x (some y) none none,ty,pos,af,gd⟩ (.slice (some ⟨b,l,none⟩) (m-l) (m-l)):=by
 have hl:l<m:=le_of_ble_eq_true hl;exact V.aG (V.qM (l:=l) (h:=m) (u:=m) hT hx hy OO.none OO.none (by simp) ay (Nat.le_refl _) (Nat.le_refl _)) fun _=>by rw[if_neg ay];simp
theorem V.acu(hT:tC P T m E s)(hx:OV true e x (ptr b 0))(hy:OO true e (some y) m h)(hl:ble h m=true):eX Mo P K n true e H ⟨dst,.slice T x none (some y) none,ty,pos,af,gd⟩ (.slice (some ⟨b,0,none⟩) h m):=by
 have hl:h≤m:=le_of_ble_eq_true hl;exact V.aG (V.qM (l:=0) (h:=h) (u:=m) hT hx OO.none hy OO.none (by simp) (zero_le _) hl (Nat.le_refl _)) fun _=>by simp
end Go.Sl
namespace Go.Proofs.YtcedojacbhnbiaaGreat
open Go.Sl Go.RowKit Tryz List Nat
set_option exponentiation.threshold 5000
theorem By.le{r:By}(h:r.Ok)(hk:r.n<256^k):r.m≤k:=by
 rcases Nat.lt_or_ge k r.m with h1 | h1
 ·have h2:=h.top ay;rw[div_eq_of_lt (Nat.lt_of_lt_of_le hk (Nat.pow_le_pow_right aN ay))] at h2;exact absurd rfl h2
 ·exact h1
theorem Qs:cL<115792089237316195423570985008687907853269984665640564039457584007913129639936:=by decide
theorem yA(h:n<115792089237316195423570985008687907853269984665640564039457584007913129639936):vl 256 (bG 256 32 n)=n:=by rw[xV,mod_eq_of_lt];exact h
theorem alO:∀a:Nat,a<256→a &&& 248=a/8*8:=by decide
theorem aoA:∀a:Nat,a<256→(a &&& 63) ||| 64=a%64+64:=by decide
theorem ahJ:(l++[x]).getD l.length 0=x:=by simp[getD]
theorem afT(n:Nat):((bG 256 32 n).set 0 ((bG 256 32 n).getD 0 0 &&& 248)).set 31 ((((bG 256 32 n).set 0 ((bG 256 32 n).getD 0 0 &&& 248)).getD 31 0 &&& 63) ||| 64)=bG 256 32 (agP n):=by
 have e1:bG 256 32 n=n%256::(bG 256 30 (n/256)++[n/256/256^30%256]):=by rw[bG,xK]
 have e2:bG 256 32 (agP n)=agP n%256::(bG 256 30 (agP n/256)++[agP n/256/256^30%256]):=by rw[bG,xK]
 have h1:agP n%256=n%256/8*8:=by unfold agP;omega
 have h2:agP n/256%256^30=n/256%256^30:=by
  unfold agP;rw[show (256:Nat)^30=1766847064778384329583297500742918515827483896875618958121606201292619776 by decide];omega
 have h3:agP n/256/256^30%256=n/256/256^30%256%64+64:=by
  unfold agP;rw[show (256:Nat)^30=1766847064778384329583297500742918515827483896875618958121606201292619776 by decide];omega
 rw[e2,h1,←nV 256 30 (agP n/256),h2,nV,h3,e1];have e3:(n%256::(bG 256 30 (n/256)++[n/256/256^30%256])).set 0 ((n%256::(bG 256 30 (n/256)++[n/256/256^30%256])).getD 0 0 &&& 248)=(n%256 &&& 248)::(bG 256 30 (n/256)++[n/256/256^30%256]):=rfl;have e4:(bG 256 30 (n/256)++[n/256/256^30%256]).getD 30 0=n/256/256^30%256:=by
  have :=ahJ (l:=bG 256 30 (n/256)) (x:=n/256/256^30%256)
  rwa [aI] at this
 rw[e3,alO _ (mod_lt _ aN),getD_cons_succ,set_cons_succ,e4,set_append,aI,if_neg ay];simp only[Nat.sub_self,getD_cons_zero,set_cons_zero];rw[aoA _ (mod_lt _ aN)]
theorem abt(h:n<256^m)(hm:m≤32):av .u8 (bG 256 m n)++(av .u8 (replicate 32 0)).drop (av .u8 (bG 256 m n)).length=av .u8 (bG 256 32 n):=by grind [Gy,mod_eq_of_lt,au,aI,kQ,dx]
theorem Cq:aK prog 206 #[] K F (o8 cL):=by
 refine aB.en func206 ntmps206 ?_;refine aP "ax" fun b0=> ?_;refine aj "R" ?_;refine WL.val (V.lX (k:= .u8) (l:=[_,_,_,_,_,_,_,_,_,_,_,_,_,_,_,_,_,_,_,_,_,_,_,_,_,_,_,_,_,_,_,_]) (vs:=[(0,_),(1,_),(2,_),(3,_),(4,_),(5,_),(6,_),(7,_),(8,_),(9,_),(10,_),(11,_),(12,_),(13,_),(14,_),(15,_),(31,_)]) ⟨ak rfl,ak rfl,ak rfl,ak rfl,ak rfl,ak rfl,ak rfl,ak rfl,ak rfl,ak rfl,ak rfl,ak rfl,ak rfl,ak rfl,ak rfl,ak rfl,ak rfl,trivial⟩ rfl (iQ _ _ _ _ _ _ _ _ _ _ _ _ _ _ _ _ _)) rfl (aP "y2" ?_);exact aF.ret (H':=F) (bJ.one rfl (R1.dh (l:=bG 256 32 cL) rfl ⟨isAgg97,sizeOf97⟩)) eO ⟨rfl,rfl⟩
theorem YU(hn:n<115792089237316195423570985008687907853269984665640564039457584007913129639936):aK prog 144 #[o8 n] K F (.bool (decide (n<cL))):=by
 refine aB.en func144 ntmps144 ?_;refine aj "a+" fun b1=> ?_;refine aj "v" ?_;refine WL.call (vs:=[]) call206 trivial (Cq) rfl ?_;rintro _ H0 ⟨rfl,h0⟩;subst H0;refine aP "x" fun b3=> ?_;refine aP "yF" ?_;refine WC.vU 0 [2] rfl (by simp only[l8,mh,filter_cons,filter_nil,any_cons,any_nil,Nat.reduceBEq,Bool.or_false,Bool.or_true,Bool.not_true,Bool.not_false,if_true,if_false,Bool.false_eq_true];rfl) (by simp only[l8,mh,filter_cons,filter_nil,any_cons,any_nil,Nat.reduceBEq,Bool.or_false,Bool.or_true,Bool.not_true,Bool.not_false,if_true,if_false,Bool.false_eq_true];rfl) ?_;refine UA.val 0 rfl (fun _=>V.kM zJ (ak rfl)) ?_;refine UA.val 1 rfl (fun _=>V.kM zJ (ak rfl)) ?_;refine UA.call (vs:=[_,_]) 2 rfl call207 (fun _=>⟨ak rfl,ak rfl,trivial⟩) (fun H' hF=>aaw ((Seq.pz (jl _)).up.sat hF) ((Seq.pz (jl _)).sat hF) (bL aN _ _) (bL aN _ _) aN aN) ?_;refine UA.val 3 rfl (fun _=>V.lss (ak rfl) (ak rfl)) ?_;refine aP ")4|" fun BS=> ?_;simp only[map_cons,map_nil,cons_append,nil_append];refine aj "~C;" ?_;rw[yA hn,yA Qs];congr 1;unfold rM;split
 ·next h=>simp[h]
 ·next h=>split<;>simp[h]
theorem J6(hs:Seq K F A m 1 (av .u8 xs))(hx:aA 256 xs)(hm:m≤2000):aK prog 208 #[.slice A m cap] K F (o8 (vl 256 xs%cL)):=by
 obtain⟨x,hxx⟩:∃x,x=vl 256 xs:=⟨_,rfl⟩;rw[←hxx];refine aB.en func208 ntmps208 ?_;refine aP "ax" fun b2=> ?_;refine aj "R" ?_;refine WL.call (vs:=[]) call206 trivial (Cq) rfl ?_;rintro _ H0 ⟨rfl,h0⟩;subst H0;refine aP "x" fun b3=> ?_;refine aP "yRx" fun b4=> ?_;refine aj "be" ?_;refine WL.val (V.kM zJ (ak rfl)) rfl ?_;refine WL.c2 call260 rfl rfl (abv hs.up.up.up (Seq.pz (jl _)).up hx (bL aN _ _) hm aN (by rw[yA Qs];decide)) rfl ?_;rintro _ _ ⟨r,hr,rn,rfl,X,rfl⟩;rw[yA Qs,←hxx] at rn;have o7:x%cL<cL:=mod_lt _ aN;have hrm:=By.le hr (k:=32) (by rw[rn];exact Nat.lt_trans o7 Qs);have Dq:=hr.lt;rw[rn] at Dq;refine aj "Dv" ?_;refine WL.val (V.kM zJ (ak rfl)) rfl (WL.mv rfl rfl ?_);refine WL.sub (H':=ah b4 97 (av .u8 (replicate 32 0))::r.E::ah b2 97 (av .u8 (replicate 32 0))::F) (Sub.refl _) (fun w h=>h.bg 5 [2,0,4] rfl) ?_;refine WL.yY dO (ak rfl) (ak rfl) ((By.seq hr).up) hrm (jB _ _) (bT.front (by rw[au,au,aI,length_replicate];omega)) rfl ?_;rw[rn,abt Dq hrm];refine aP "RAy2" ?_;exact aF.ret (H':=F) (bJ.one rfl (R1.dh (l:=bG 256 32 (x%cL)) rfl ⟨isAgg97,sizeOf97⟩)) eO ⟨rfl,rfl⟩
theorem ae2(hn:n<115792089237316195423570985008687907853269984665640564039457584007913129639936):aK prog 183 #[o8 n] K F (o8 (agP n)):=by
 refine aB.en func183 ntmps183 ?_;refine aj "a+" fun b1=> ?_;refine aP "x" fun b2=> ?_;refine aP "R~~!" ?_;refine WL.val (V.d9 (v:= .int .u8 (((bG 256 32 n).getD 0 0:Nat):Int)) isAgg5 (ak rfl) (fun _=>by repeat (first | exact Rd.nat (by rw[aI];decide) | apply Rd.up))) rfl ?_;refine WL.val (V.CY (j:=248) 8 (ak rfl) (ak rfl)) rfl (aP "~~!~vR~~j" ?_);refine WL.val (V.d9 (v:= .int .u8 ((((bG 256 32 n).set 0 ((bG 256 32 n).getD 0 0 &&& 248)).getD 31 0:Nat):Int)) isAgg5 (ak rfl) (fun _=>by repeat (first | exact Rd.nat (by rw[length_set,aI];decide) | apply Rd.up))) rfl ?_;refine WL.val (V.CY (j:=63) 8 (ak rfl) (ak rfl)) rfl (WL.val (V.Zv (j:=64) 8 (ak rfl) (ak rfl)) rfl (aP "~~j~vF" ?_));rw[afT];refine aP "pAy2" ?_;exact aF.ret (H':=F) (bJ.one rfl (R1.dh (l:=bG 256 32 (agP n)) rfl ⟨isAgg97,sizeOf97⟩)) eO ⟨rfl,rfl⟩
theorem ac3(hs:Seq K H A m 1 (av .u8 xs))(hb:Seq K H (some ⟨b,0,none⟩) 32 1 (av .u8 (bG 256 32 n)))(hx:aA 256 xs)(hm:m≤2000)(hn:n<115792089237316195423570985008687907853269984665640564039457584007913129639936) :
 aB prog 272 #[.slice A m cap,ptr b 0] K H (fun v H'=>∃r:By,r.Ok∧r.n=vl 256 xs+n∧v=r.v∧∃X,H'=r.E::X::H):=by
 refine aB.en func272 ntmps272 ?_;refine aj "aj" ?_;refine WL.val (V.kM zJ (ak rfl)) rfl (WL.c2 call273 rfl rfl (ah9 hs hb hx (bL aN _ _) hm aN) rfl ?_);rintro _ _ ⟨r,hr,rn,rfl,X,rfl⟩;refine aj "d" ?_;exact qR (r.E::X::H) rfl rfl eO ⟨r,hr,by rw[rn,yA hn],rfl,_,rfl⟩
theorem aaY(ha:a<115792089237316195423570985008687907853269984665640564039457584007913129639936)(hb:b<115792089237316195423570985008687907853269984665640564039457584007913129639936)(hc:c<115792089237316195423570985008687907853269984665640564039457584007913129639936):aK prog 237 #[o8 a,o8 b,o8 c] K F (o8 ((a*b+c)%cL)):=by
 refine aB.en func237 ntmps237 ?_;refine aj "a+" fun b3=> ?_;refine aj "+" fun b4=> ?_;refine aj "+" fun b5=> ?_;refine aP "x" fun b6=> ?_;refine aP "R~Uu~Xm0" ?_;refine WA.t 1 rfl (V.kM zJ (ak rfl)) ?_;refine WA.t 2 rfl (V.kM zJ (ak rfl)) ?_;refine WA.o 3 rfl ?_;refine WL.c2 call274 rfl rfl (aic (Seq.pz (jl _)).up.up.up (Seq.pz (jl _)).up.up (bL aN _ _) (bL aN _ _) aN aN) rfl ?_;rintro _ _ ⟨r,hr,rn,rfl,X,rfl⟩;rw[yA ha,yA hb] at rn;have hrm:=By.le hr (k:=64) (by rw[rn];exact Nat.lt_of_lt_of_le (mul_lt_mul'' ha hb) aN);refine aj "bn4" ?_;refine WL.ny (first:=[]) (captured:=[_]) (vs:=[_]) call272 (ak rfl) ⟨ak rfl,trivial⟩ (ac3 (By.seq hr) (Seq.pz (jl _)).up.up.up (bL aN _ _) ay hc) rfl ?_;rintro _ _ ⟨r2,EB,rn2,rfl,X2,rfl⟩;rw[By.vl hr,rn] at rn2;have av9:=By.le EB (k:=65) (by rw[rn2];have :=mul_lt_mul'' ha hb;rw[show (256:Nat)^65=115792089237316195423570985008687907853269984665640564039457584007913129639936*115792089237316195423570985008687907853269984665640564039457584007913129639936*256 by decide];omega);refine aj "bn5" ?_;refine WL.t1 call208 rfl (J6 (By.seq EB) (bL aN _ _) ay) rfl ?_;refine aj "bn6" ?_;rw[By.vl EB,rn2];refine aP "ybO~C" ?_;exact aF.ret (H':=F) (bJ.one rfl (R1.dh (l:=bG 256 32 _) rfl ⟨isAgg97,sizeOf97⟩)) eO ⟨rfl,rfl⟩
theorem Ye:∀n:Nat,n<64→1≤n→(18446744073709551616-n) &&& 63=64-n:=by decide
theorem Mr(hp:p<18446744073709551616):p*18446744073709551616^up/18446744073709551616^i%18446744073709551616=if i=up then p else 0:=by
 have hW:0<18446744073709551616:=by decide
 split
 ·next h=>subst h;rw[Nat.mul_div_cancel _ (Nat.pow_pos hW),mod_eq_of_lt hp]
 ·next h =>
  rcases Nat.lt_or_ge i up with h1 | h1
  ·obtain⟨j,rfl⟩:∃j,up=i+(j+1):=⟨up-i-1,by omega⟩;rw[Nat.pow_add,Nat.mul_left_comm,Nat.mul_div_cancel_left _ (Nat.pow_pos hW),Nat.pow_succ,←Nat.mul_assoc,mul_mod_left]
  ·have h2:p*18446744073709551616^up<18446744073709551616^i:=by
    refine Nat.lt_of_lt_of_le (Nat.mul_lt_mul_of_pos_right hp (Nat.pow_pos hW)) ?_;rw[Nat.mul_comm,←Nat.pow_succ];exact Nat.pow_le_pow_right hW ay
   rw[div_eq_of_lt h2]
theorem EZ(h:v/18446744073709551616^(i+1)=T/18446744073709551616^(i+1))(pq:v/18446744073709551616^i%18446744073709551616≠T/18446744073709551616^i%18446744073709551616):(v≤T)↔v/18446744073709551616^i%18446744073709551616<T/18446744073709551616^i%18446744073709551616:=by
 rw[Nat.pow_succ,←Nat.div_div_eq_div_mul,←Nat.div_div_eq_div_mul] at h;constructor
 ·intro h1;have h2:=Nat.div_le_div_right (c:=18446744073709551616^i) h1;omega
 ·intro h1;have h2:v/18446744073709551616^i<T/18446744073709551616^i:=ay;rcases Nat.lt_or_ge T v with h3 | h3
  ·have :=Nat.div_le_div_right (c:=18446744073709551616^i) (Nat.le_of_lt h3);omega
  ·exact h3
theorem LH(h:v/18446744073709551616^(i+1)=T/18446744073709551616^(i+1))(he:v/18446744073709551616^i%18446744073709551616=T/18446744073709551616^i%18446744073709551616):v/18446744073709551616^i=T/18446744073709551616^i:=by
 rw[Nat.pow_succ,←Nat.div_div_eq_div_mul,←Nat.div_div_eq_div_mul] at h;omega
theorem UE(hx:x<18446744073709551616)(h1:1≤n)(h63:n<64):aK prog 318 #[.int .u64 ((x:Nat):Int),.i (-((n:Nat):Int))] K F (.int .u64 ((pY x n:Nat):Int)):=by
 refine aB.en func318 ntmps318 ?_;refine aj "aj" ?_;refine WL.val (V.aG (v':= .int .u64 ((18446744073709551616-n:Nat):Int)) (V.FC runUnderlying3 runUnderlying232 (ak rfl)) (fun _=>by congr 1;show ((-(n:Int))%18446744073709551616)=_;omega)) rfl ?_;refine WL.val (V.CY (j:=63) 64 (ak rfl) (ak rfl) (fun _=>⟨by show 18446744073709551616-n<18446744073709551616;omega,by decide⟩)) rfl ?_;rw[Ye n h63 h1];refine aj "Y" ?_;refine WL.val (V.G7 (M:=18446744073709551616) (ak rfl) (ak rfl)) rfl (aj "z" ?_);refine WL.val (V.ake (i:=64) (M:=18446744073709551616) (ak rfl) (ak rfl)) rfl (aP "~8" ?_);rw[show 64-(64-n)=n by omega];refine WL.val (V.Zv (i:=x*2^(64-n)%18446744073709551616) (j:=x/2^n) 64 (ak rfl) (ak rfl) (fun _=>⟨mod_lt _ aN,Nat.lt_of_le_of_lt (div_le_self _ _) hx⟩)) rfl ?_;exact aj "d." trivial
theorem iq(hx:x<18446744073709551616)(h1:1≤n)(h63:n<64):aK prog 277 #[.int .u64 ((x:Nat):Int),.i ((n:Nat):Int)] K F (.int .u64 ((pY x n:Nat):Int)):=by
 refine aB.en func277 ntmps277 ?_;refine aj "aY~~>" ?_;refine WL.t2 call318 rfl rfl (UE hx h1 h63) rfl ?_;exact aj "d." trivial
theorem afa(hs:Seq K F A m 1 (av .u64 (bG 18446744073709551616 m x)))(pI:Seq K F B m2 1 (av .u64 (bG 18446744073709551616 m2 y)))(uI:x<18446744073709551616^m)(hyl:y<18446744073709551616^m2)(hm:m≤100)(hm2:m2≤100) :
 aB prog 316 #[.slice A m cap,.slice B m2 cap2] K F (fun v H'=>∃b,v= .slice (some ⟨b,0,none⟩) (m+m2) (m+m2)∧H'=ah b 306 (av .u64 (bG 18446744073709551616 (m+m2) (x*y)))::F):=by
 have gL:∀ {i:Nat},i<m→Rd K F (A.map (·.add i)) (.int .u64 ((x/18446744073709551616^i%18446744073709551616:Nat):Int)):=fun {i} hi=>by
  have h1:=Seq.qH hs hi
  rwa [bV _ _ _ _ hi] at h1
 have hys:∀ {i:Nat},i<m2→Rd K F (B.map (·.add i)) (.int .u64 ((y/18446744073709551616^i%18446744073709551616:Nat):Int)):=fun {i} hi=>by
  have h1:=Seq.qH pI hi
  rwa [bV _ _ _ _ hi] at h1
 refine aB.en func316 ntmps316 ?_;refine aP "ajkck~S" ?_;refine WL.Vf (m:=m+m2) underlying329 Vn (ak rfl) (ak rfl) (fun b19=> ?_);refine aj "fkN" ?_;refine WC.loop (σ:=Nat×List Nat) (fun s=>[(0,.slice A m cap),(1,.slice B m2 cap2),(5,.slice (some ⟨b19,0,none⟩) (m+m2) (m+m2)),(20,.slice A m cap),(21,.i ((m:Nat):Int)),(22,.i ((s.1:Nat):Int))]) (fun s=>ah b19 306 (av .u64 s.2)::F)
  (fun s=>s.1≤m∧s.2.length=m+m2∧aA 18446744073709551616 s.2∧(∀j,s.1+m2≤j→s.2.getD j 0=0)∧vl 18446744073709551616 s.2=x%18446744073709551616^s.1*y) (fun s=>m-s.1) (0,replicate (m+m2) 0) ⟨zero_le _,length_replicate,aA.wJ aN,fun j _=>y7 _ _,by rw[GY];simp[mod_one]⟩ bC cO ?_
 rintro⟨i,wide⟩ ⟨hi,hl,nS,hz,hv⟩;dsimp only at hi hl nS hz hv ⊢;refine aP "a~jFH" (aW (fun h0=> ?_) fun h0=> ?_)
 ·simp only[cZ] at h0;refine aj "1" ?_;refine WL.val (V.jW (v:= .int .u64 ((x/18446744073709551616^i%18446744073709551616:Nat):Int)) z8 (ak rfl) (ak rfl) (hr:=fun _=>(gL h0).up)) rfl ?_;refine WL.val (V.d9 (v:= .int .u64 ((x/18446744073709551616^i%18446744073709551616:Nat):Int)) isAgg306 (ak rfl) (fun _=>(gL h0).up)) rfl ?_;refine aj "lu" ?_;have hxi:x/18446744073709551616^i%18446744073709551616<18446744073709551616:=mod_lt _ aN;refine aj "pfkN" ?_;refine WC.loop (σ:=Nat×List Nat×Nat) (fun s=>[(0,.slice A m cap),(1,.slice B m2 cap2),(5,.slice (some ⟨b19,0,none⟩) (m+m2) (m+m2)),(20,.slice A m cap),(21,.i ((m:Nat):Int)),(22,.i ((i:Nat):Int)),(6,.i ((i:Nat):Int)),(7,.int .u64 ((x/18446744073709551616^i%18446744073709551616:Nat):Int)),(27,.slice B m2 cap2),(28,.i ((m2:Nat):Int)),(29,.i ((s.1:Nat):Int)),(8,.int .u64 ((s.2.2:Nat):Int))]) (fun s=>ah b19 306 (av .u64 s.2.1)::F)
   (fun s=>s.1≤m2∧s.2.1.length=m+m2∧aA 18446744073709551616 s.2.1∧(∀j,i+m2≤j→s.2.1.getD j 0=0)∧s.2.2<18446744073709551616∧vl 18446744073709551616 s.2.1+s.2.2*18446744073709551616^(i+s.1)=x%18446744073709551616^i*y+x/18446744073709551616^i%18446744073709551616*(y%18446744073709551616^s.1)*18446744073709551616^i) (fun s=>m2-s.1) (0,wide,0) ⟨zero_le _,hl,nS,hz,(by show 0<_;decide),by dsimp only;rw[hv];simp[mod_one]⟩ bC cO ?_
  rintro⟨k,wd,cy⟩ ⟨hk,RY,uM,JN,Y5,Gf⟩;dsimp only at hk RY uM JN Y5 Gf ⊢;refine aP "a~jFH" (aW (fun h1=> ?_) fun h1=> ?_)
  ·simp only[cZ] at h1;refine aj "1" ?_;refine WL.val (V.jW (v:= .int .u64 ((y/18446744073709551616^k%18446744073709551616:Nat):Int)) z8 (ak rfl) (ak rfl) (hr:=fun _=>(hys h1).up)) rfl ?_;refine WL.val (V.d9 (v:= .int .u64 ((y/18446744073709551616^k%18446744073709551616:Nat):Int)) isAgg306 (ak rfl) (fun _=>(hys h1).up)) rfl ?_;refine aj "lu" ?_;have hyi:y/18446744073709551616^k%18446744073709551616<18446744073709551616:=mod_lt _ aN;have Gh:=uM.at_ aN (i+k);refine aj "P" ?_;refine WL.t2 call293 rfl rfl (ku hxi hyi) rfl ?_;refine aP "Dvjzc~S~$~W~:DY~TY~:Dghz~Szc~T~$~vgp>=" ?_;have hm:=TU hxi hyi Gh Y5;refine⟨(k+1,_,XF (x/18446744073709551616^i%18446744073709551616) (y/18446744073709551616^k%18446744073709551616) (wd.getD (i+k) 0) cy),⟨by show k+1≤m2;omega,by show (wd.set _ _).length=_;rw[length_set];exact RY,uM.set (mod_lt _ aN),fun j hj=> ?_,NY _ _ _ _, ?_⟩,(by show m2-(k+1)<m2-k;omega),.cons rfl bC,fun w h=>h⟩
   ·dsimp only;rw[getD_set_ne ay];exact JN j hj
   ·dsimp only;rw[mod_succ y,Qy,←Nat.add_assoc i k 1,Nat.pow_succ];exact Rn Gf (Hf _ _ _ _ ay) hm
  ·simp only[cZ] at h1;refine WC.exit ?_;obtain rfl:k=m2:=by omega
   rw[mod_eq_of_lt hyl] at Gf;refine aP "hzk~Sc~$~vbp>=" ?_;refine⟨(i+1,wd.set (i+k) cy),⟨by show i+1≤m;omega,by show (wd.set _ _).length=_;rw[length_set];exact RY,uM.set Y5,fun j hj=> ?_, ?_⟩,(by show m-(i+1)<m-i;omega),.cons rfl bC,fun w h=>h⟩
   ·dsimp only at hj ⊢;rw[getD_set_ne ay];exact JN j ay
   ·dsimp only;have h1:=Hf 18446744073709551616 wd (i+k) cy ay;rw[JN (i+k) (Nat.le_refl _),Nat.zero_mul,Nat.add_zero] at h1;rw[h1,Gf,mod_succ x,Nat.add_mul];congr 1;simp only[Nat.mul_assoc,Nat.mul_comm,Nat.mul_left_comm]
 ·simp only[cZ] at h0;refine aj "W" ?_;obtain rfl:i=m:=by omega
  rw[mod_eq_of_lt uI] at hv;have e2:av .u64 wide=av .u64 (bG 18446744073709551616 (i+m2) (x*y)):=by rw[←hv,ng nS hl]
  rw[e2];refine aj "hd" ?_;exact aF.ret (H':=ah b19 306 (av .u64 (bG 18446744073709551616 (i+m2) (x*y)))::F) (bJ.tmp rfl rfl) cO ⟨_,rfl,rfl⟩
theorem JX(hs:Seq K F A m 1 (av .u64 (bG 18446744073709551616 m v)))(hv:v<18446744073709551616^m)(hm:m≤100)(hp:p<18446744073709551616)(nD:up<m) :
 aK prog 317 #[.slice A m cap,.int .u64 ((p:Nat):Int),.i ((up:Nat):Int)] K F (.bool (decide (v≤p*18446744073709551616^up))):=by
 have hT:p*18446744073709551616^up<18446744073709551616^m:=by
  refine Nat.lt_of_lt_of_le (Nat.mul_lt_mul_of_pos_right hp (Nat.pow_pos aN)) ?_;rw[Nat.mul_comm,←Nat.pow_succ];exact Nat.pow_le_pow_right aN ay
 have gL:∀ {i:Nat},i<m→Rd K F (A.map (·.add i)) (.int .u64 ((v/18446744073709551616^i%18446744073709551616:Nat):Int)):=fun {i} hi=>by
  have h1:=Seq.qH hs hi
  rwa [bV _ _ _ _ hi] at h1
 refine aB.en func317 ntmps317 ?_;refine aj "afk~xgt" ?_;refine WC.loop (σ:=Nat) (fun k=>[(0,.slice A m cap),(1,.int .u64 ((p:Nat):Int)),(2,.i ((up:Nat):Int)),(7,.i ((k:Int)-1))]) (fun _=>F) (fun k=>k≤m∧v/18446744073709551616^k=p*18446744073709551616^up/18446744073709551616^k) (fun k=>k) m ⟨Nat.le_refl _,by rw[div_eq_of_lt hv,div_eq_of_lt hT]⟩ bC cO ?_;rintro k ⟨hk,hq⟩;refine aj "r~ii" (aW (fun aL=> ?_) fun aL=> ?_)
 ·simp only[cZ] at aL;obtain⟨i,rfl⟩:∃q,k=q+1:=⟨k-1,by omega⟩;rw[show ((i+1:Nat):Int)-1=((i:Nat):Int) by omega];have hd:=Mr (i:=i) (up:=up) hp;refine aj "Iafc" ?_;refine WL.val (V.G5 (ak rfl) (ak rfl)) rfl ?_;refine aj "i" (aW (fun h1=> ?_) fun h1=> ?_)
  ·simp only[cZ] at h1;rw[if_pos h1] at hd;refine aj "hY" ?_;refine WL.val (V.jW (v:= .int .u64 ((v/18446744073709551616^i%18446744073709551616:Nat):Int)) z8 (ak rfl) (ak rfl) (hr:=fun _=>gL ay)) rfl ?_;refine WL.val (V.d9 (v:= .int .u64 ((v/18446744073709551616^i%18446744073709551616:Nat):Int)) isAgg306 (ak rfl) (fun _=>gL ay)) rfl ?_;refine aP "c~~)i" (aW (fun h2=> ?_) fun h2=> ?_)
   ·simp only[oK] at h2;rw[←hd] at h2;refine aj "ec" ?_;refine WL.val (V.jW (v:= .int .u64 ((v/18446744073709551616^i%18446744073709551616:Nat):Int)) z8 (ak rfl) (ak rfl) (hr:=fun _=>gL ay)) rfl ?_;refine WL.val (V.d9 (v:= .int .u64 ((v/18446744073709551616^i%18446744073709551616:Nat):Int)) isAgg306 (ak rfl) (fun _=>gL ay)) rfl ?_;refine aP "c~jd;" ?_;have hw:=EZ hq h2;rw[hd] at hw;congr 1;exact decide_eq_decide.2 hw.symm
   ·simp only[oK] at h2;rw[←hd] at h2;refine aj "qh~xX" ?_;refine⟨i,⟨by show i≤m;omega,LH hq (by first | exact h2 | omega)⟩,(by show i<i+1;omega),.cons rfl bC,fun w h=>h⟩
  ·simp only[cZ] at h1;rw[if_neg h1] at hd;refine aj "Uc" ?_;refine WL.val (V.jW (v:= .int .u64 ((v/18446744073709551616^i%18446744073709551616:Nat):Int)) z8 (ak rfl) (ak rfl) (hr:=fun _=>gL ay)) rfl ?_;refine WL.val (V.d9 (v:= .int .u64 ((v/18446744073709551616^i%18446744073709551616:Nat):Int)) isAgg306 (ak rfl) (fun _=>gL ay)) rfl ?_;refine aP "c~~)i" (aW (fun h2=> ?_) fun h2=> ?_)
   ·simp only[oK] at h2;rw[←hd] at h2;refine aj "ec" ?_;refine WL.val (V.jW (v:= .int .u64 ((v/18446744073709551616^i%18446744073709551616:Nat):Int)) z8 (ak rfl) (ak rfl) (hr:=fun _=>gL ay)) rfl ?_;refine WL.val (V.d9 (v:= .int .u64 ((v/18446744073709551616^i%18446744073709551616:Nat):Int)) isAgg306 (ak rfl) (fun _=>gL ay)) rfl ?_;refine aP "c~jd;" ?_;have hw:=EZ hq h2;rw[hd] at hw;congr 1;exact decide_eq_decide.2 hw.symm
   ·simp only[oK] at h2;rw[←hd] at h2;refine aj "qh~xX" ?_;refine⟨i,⟨by show i≤m;omega,LH hq (by first | exact h2 | omega)⟩,(by show i<i+1;omega),.cons rfl bC,fun w h=>h⟩
 ·simp only[cZ] at aL;refine aj "W" ?_;obtain rfl:k=0:=by omega
  rw[Nat.pow_zero,Nat.div_one,Nat.div_one] at hq;refine aj "pd;" ?_;rw[←hq];simp
theorem abr(hq:q<2)(hr:r<64)(hn:n%2^(64*q+r+1)=0)(hs:n<18446744073709551616^2):(bG 18446744073709551616 2 n).set q ((bG 18446744073709551616 2 n).getD q 0 ||| 1*2^r%18446744073709551616)=bG 18446744073709551616 2 (n+2^(64*q+r)):=by
 have h2:2^(r+1)≤18446744073709551616:=by rw[show (18446744073709551616:Nat)=2^64 by decide];exact Nat.pow_le_pow_right aN ay
 have h3:(2:Nat)^(r+1)=2*2^r:=by rw[Nat.pow_succ,Nat.mul_comm]
 obtain⟨P,hP⟩:∃P,P=2^r:=⟨_,rfl⟩;have hd:∃e,18446744073709551616=2^(r+1)*e:=⟨2^(64-(r+1)),by rw[←Nat.pow_add,show r+1+(64-(r+1))=64 by omega]⟩;have RI:∀d,d%2^(r+1)=0→d ||| 1*2^r%18446744073709551616=d+P:=fun d hd0=>by
  rw[Nat.one_mul,mod_eq_of_lt (show 2^r<18446744073709551616 by omega),show d=d/2^(r+1)*2^(r+1) by have :=div_add_mod d (2^(r+1));rw[hd0,Nat.mul_comm] at this;omega,uU ay,hP]
 have ahR:∀d,d%2^(r+1)=0→d%18446744073709551616%2^(r+1)=0:=fun d hd0=>by
  obtain⟨e,he⟩:=hd;rw[he,mod_mul_right_mod,hd0]
 have o7:∀d,d%2^(r+1)=0→d%18446744073709551616+P<18446744073709551616:=fun d hd0=>by
  have h5:=ahR d hd0;have h6:d%18446744073709551616<18446744073709551616:=mod_lt _ aN;obtain⟨e,he⟩:=hd;have h7:2^(r+1)*(d%18446744073709551616/2^(r+1))=d%18446744073709551616:=by have :=div_add_mod (d%18446744073709551616) (2^(r+1));omega
  have h8:d%18446744073709551616/2^(r+1)<e:=Nat.div_lt_of_lt_mul (by rw[←he];exact h6);have h9:2^(r+1)*(d%18446744073709551616/2^(r+1)+1)≤2^(r+1)*e:=mul_le_mul_left _ h8;rw[Nat.mul_add,Nat.mul_one,h7,←he] at h9;have hp:0<2^r:=Nat.pow_pos aN;omega
 rw[show (2:Nat)^(64*q+r)=18446744073709551616^q*P by rw[Nat.pow_add,Nat.pow_mul,hP]];rcases (show q=0∨q=1 by omega) with rfl | rfl
 ·have hn:n%2^(r+1)=0:=by rwa [Nat.mul_zero,Nat.zero_add] at hn
  have h4:=o7 n hn;show [n%18446744073709551616 ||| 1*2^r%18446744073709551616,n/18446744073709551616%18446744073709551616]=[(n+18446744073709551616^0*P)%18446744073709551616,(n+18446744073709551616^0*P)/18446744073709551616%18446744073709551616];rw[RI _ (ahR n hn),Nat.pow_zero,Nat.one_mul,show (n+P)%18446744073709551616=n%18446744073709551616+P by omega,show (n+P)/18446744073709551616=n/18446744073709551616 by omega]
 ·have hn:n/18446744073709551616%2^(r+1)=0:=by
   have h5:n%(2^64*2^(r+1))=0:=by rw[←Nat.pow_add,show 64+(r+1)=64*1+r+1 by omega];exact hn
   rw[show (18446744073709551616:Nat)=2^64 by decide];rw[mod_mul] at h5;have hp:0<2^64:=by decide
   rcases eq_zero_or_pos (n/2^64%2^(r+1)) with h | h
   ·exact h
   ·have :=Nat.mul_pos hp h;omega
  have h4:=o7 _ hn;show [n%18446744073709551616,n/18446744073709551616%18446744073709551616 ||| 1*2^r%18446744073709551616]=[(n+18446744073709551616^1*P)%18446744073709551616,(n+18446744073709551616^1*P)/18446744073709551616%18446744073709551616];rw[RI _ (ahR _ hn),Nat.pow_one,show (n+18446744073709551616*P)%18446744073709551616=n%18446744073709551616 by omega,show (n+18446744073709551616*P)/18446744073709551616%18446744073709551616=n/18446744073709551616%18446744073709551616+P by omega]
theorem Fq(hp:p<1000)(h2:2≤pw)(h3:pw≤3):aK prog 276 #[.i ((p:Nat):Int),.i ((pw:Nat):Int)] K F (.int .u64 ((fQ p pw (64*pw) 71 0%18446744073709551616:Nat):Int)):=by
 obtain⟨R,hR⟩:∃R,R=fQ p pw (64*pw) 71 0:=⟨_,rfl⟩;rw[←hR];refine aB.en func276 ntmps276 ?_;refine aj "av" ?_;refine WL.Vf (m:=2) underlying329 Vn (ak rfl) (ak rfl) (fun b9=> ?_);refine aj "uagt" ?_;refine WC.loop (σ:=Nat×Nat×Nat) (fun s=>[(0,.i ((p:Nat):Int)),(1,.i ((pw:Nat):Int)),(5,.slice (some ⟨s.2.1,0,none⟩) 2 2),(6,.i ((s.1:Int)-1))]) (fun s=>ah s.2.1 306 (av .u64 (bG 18446744073709551616 2 s.2.2))::F)
  (fun s=>s.1≤71∧s.2.2%2^s.1=0∧s.2.2+2^s.1≤2^71∧fQ p pw (64*pw) s.1 s.2.2=R) (fun s=>s.1) (71,b9,0) ⟨Nat.le_refl _,zero_mod _,by show 0+2^71≤2^71;omega,hR.symm⟩ bC (fun w h=>Sat.aT h (by rw[qz])) ?_
 rintro⟨k,b5,n⟩ ⟨hk,h0,hl,hq⟩;dsimp only at hk h0 hl hq ⊢;refine aj "r~ii" (aW (fun aL=> ?_) fun aL=> ?_)
 ·simp only[cZ] at aL;obtain⟨i,rfl⟩:∃q,k=q+1:=⟨k-1,by omega⟩;rw[show ((i+1:Nat):Int)-1=((i:Nat):Int) by omega];rw[Nat.pow_succ] at hl;rw[fQ] at hq;have ajS:i/64<2:=ay;have hn2:n<18446744073709551616^2:=Nat.lt_of_lt_of_le (Nat.lt_of_lt_of_le (by have :0<2^i:=Nat.pow_pos aN;omega) hl) aN;have alj:=abr (q:=i/64) (r:=i%64) (n:=n) ajS (mod_lt _ aN) (by rw[show 64*(i/64)+i%64+1=i+1 by omega];exact h0) hn2;rw[show 64*(i/64)+i%64=i by omega] at alj;refine aj "IM~Zm0" ?_;refine WA.t 1 rfl (V.Lc (j:=0) z8 (ak rfl) (ak rfl)) ?_;refine aP "~~N2m3" ?_;refine WA.t 4 rfl (V.Lc (j:=1) z8 (ak rfl) (ak rfl)) ?_;refine aP "~~N5n6" ?_;refine WL.buildSlice (E:=306) (cs:=av .u64 (bG 18446744073709551616 2 n)) (vs:=[(0,_),(1,_)]) ⟨ak rfl,ak rfl,trivial⟩ rfl (Ng _ _) rfl (fun b20=> ?_);refine aP "b~u7OM~.J0J1" ?_;refine UA.val 2 rfl (fun _=>V.XI (j:=64) (ak rfl) (ak rfl)) ?_;refine aP "~?3" ?_;refine UA.Ru 4 rfl (fun _=>V.d9 (v:= .int .u64 (((bG 18446744073709551616 2 n).getD (i/64) 0:Nat):Int)) isAgg306 (ak rfl) (fun _=>Rd.nat (by rw[aI];exact ajS))) ?_;refine aP "J5" ?_;refine UA.val 6 rfl (fun _=>V.WJ (j:=64) (ak rfl) (ak rfl)) ?_;refine UA.val 7 rfl (fun _=>V.G7 (i:=1) (M:=18446744073709551616) (ak rfl) (ak rfl)) ?_;refine UA.val 8 rfl (fun _=>V.Zv (i:=(bG 18446744073709551616 2 n).getD (i/64) 0) (j:=1*2^(i%64)%18446744073709551616) 64 (ak rfl) (ak rfl) (fun _=>⟨aA.at_ (bL aN _ _) aN _,mod_lt _ aN⟩)) ?_;refine aP "~?9" ?_;refine UA.at_ 10 rfl sizeOf306 (fun _=>ak rfl) (fun _=>ak rfl) ?_;refine aP "|" fun BS=> ?_;simp only[map_cons,map_nil,cons_append,nil_append];refine WC.seq ?_;rw[alj];obtain⟨x,hx⟩:∃x,x=n+2^i:=⟨_,rfl⟩;rw[←hx] at hq ⊢;have UY:x<18446744073709551616^2:=Nat.lt_of_le_of_lt (show x≤2^71 by omega) aN;refine aP "hf~~(N" ?_;refine WC.loop (σ:=Nat×Nat×aH) (fun s=>[(0,.i ((p:Nat):Int)),(1,.i ((pw:Nat):Int)),(5,.slice (some ⟨b5,0,none⟩) 2 2),(6,.i ((i:Nat):Int)),(7,.slice (some ⟨b20,0,none⟩) 2 2),(8,.slice (some ⟨s.2.1,0,none⟩) (2*(s.1+1)) (2*(s.1+1))),(33,.i ((pw-1:Nat):Int)),(34,.i ((s.1:Nat):Int))]) (fun s=>s.2.2::ah b20 306 (av .u64 (bG 18446744073709551616 2 x))::ah b5 306 (av .u64 (bG 18446744073709551616 2 n))::F)
   (fun s=>s.1≤pw-1∧Sl.Seq K (s.2.2::ah b20 306 (av .u64 (bG 18446744073709551616 2 x))::ah b5 306 (av .u64 (bG 18446744073709551616 2 n))::F) (some ⟨s.2.1,0,none⟩) (2*(s.1+1)) 1 (av .u64 (bG 18446744073709551616 (2*(s.1+1)) (x^(s.1+1))))) (fun s=>pw-1-s.1) (0,b20,Zt) ⟨zero_le _,by show Sl.Seq _ _ _ 2 1 (av .u64 (bG 18446744073709551616 2 (x^1)));rw[Nat.pow_one];exact (Seq.pz (aI _ _ _)).up⟩ bC (fun w h=>h.emp) ?_
  rintro⟨j,b8,E⟩ ⟨hj,nT⟩;dsimp only at hj nT ⊢;have hxj:x^(j+1)<18446744073709551616^(2*(j+1)):=by rw[Nat.pow_mul];exact Nat.pow_lt_pow_left UY ay
  refine aP "a~jFH" (aW (fun h1=> ?_) fun h1=> ?_)
  ·simp only[cZ] at h1;refine aj "IP" ?_;refine WL.c2 call316 rfl rfl (afa nT (Seq.pz (aI _ _ _)).up hxj UY ay aN) rfl ?_;rintro _ _ ⟨b9,rfl,rfl⟩;refine aP "gp>=" ?_;exact⟨(j+1,b9,_),⟨by show j+1≤pw-1;omega,Seq.pz (aI _ _ _)⟩,(by show pw-1-(j+1)<pw-1-j;omega),.cons rfl bC,fun w h=>h.bg 4 [0,2,3] rfl⟩
  ·simp only[cZ] at h1;refine aj "W" ?_;obtain rfl:pw=j+1:=by omega
   refine aj "P" ?_;refine WL.val (V.qQ (i:=p) runUnderlying3 runUnderlying306 (ak rfl) (fun _=>kN (M:=18446744073709551616) rfl rfl ay)) rfl ?_;refine WL.mv rfl rfl (WL.t3 call317 rfl rfl rfl (JX nT hxj ay ay ay) rfl ?_);refine aj "i" (aW (fun bA=> ?_) fun bA=> ?_)
   ·simp only[cZ] at bA;have EJ:=bA;rw[show (18446744073709551616:Nat)^(j+1)=2^(64*(j+1)) by rw[Nat.pow_mul]] at EJ;have hm:n%2^i=0:=by
     rw[Nat.pow_succ,mod_mul] at h0;omega
    rw[show ble (x^(j+1)) (p*2^(64*(j+1)))=true from ble_eq_true_of_le EJ,cond_true] at hq;refine aj "hgh~xX" ?_;exact⟨(i,b20,x),⟨by show i≤71;omega,by show x%2^i=0;rw[hx,add_mod_right];exact hm,by show x+2^i≤2^71;omega,hq⟩,(by show i<i+1;omega),.cons rfl bC,fun w h=>h.bg 3 [1] rfl⟩
   ·simp only[cZ] at bA;have EJ:=bA;rw[show (18446744073709551616:Nat)^(j+1)=2^(64*(j+1)) by rw[Nat.pow_mul]] at EJ;have hm:n%2^i=0:=by
     rw[Nat.pow_succ,mod_mul] at h0;omega
    rw[show ble (x^(j+1)) (p*2^(64*(j+1)))=false from Bool.eq_false_iff.2 fun h=>EJ (le_of_ble_eq_true h),cond_false] at hq;refine aj "qh~xX" ?_;exact⟨(i,b5,n),⟨by show i≤71;omega,hm,by show n+2^i≤2^71;omega,hq⟩,(by show i<i+1;omega),.cons rfl bC,fun w h=>h.bg 3 [2] rfl⟩
 ·simp only[cZ] at aL;refine aj "W" ?_;obtain rfl:k=0:=by omega
  rw[fQ] at hq;refine aj "h" ?_;refine WL.val (V.Lc (j:=0) z8 (ak rfl) (ak rfl)) rfl (aP "~Wd;" ?_);rw[←hq]
def qA(x:Nat):List Nat→Bool
 | []=>true
 | p::l=>if p*p>x then true else if x%p=0 then false else qA x l
def kC:Nat→List Nat
 | 0=>[]
 | k+1=>bif qA (k+2) (kC k) then kC k++[k+2] else kC k
theorem XE(k:Nat):∃r,kC (k+1)=kC k++r:=by
 rw[kC];cases qA (k+2) (kC k)
 ·exact⟨[],by simp⟩
 ·exact⟨_,rfl⟩
theorem IZ:∀(j k:Nat),∃r,kC (k+j)=kC k++r
 | 0,k=>⟨[],by simp⟩
 | j+1,k=>by
  obtain⟨r,h⟩:=IZ j k;obtain⟨r2,h2⟩:=XE (k+j);exact⟨r++r2,by rw[←Nat.add_assoc,h2,h,append_assoc]⟩
def upL:Nat→List Nat→Nat→List Nat
 | 0,l,_=>l
 | k+1,l,x=>bif qA x l then upL k (l++[x]) (x+1) else upL k l (x+1)
theorem Rh:∀(j k:Nat),upL j (kC k) (k+2)=kC (k+j)
 | 0,k=>rfl
 | j+1,k=>by
  rw[upL,←Nat.add_assoc,Nat.add_right_comm k j 1,←Rh j (k+1),kC];cases qA (k+2) (kC k)<;>rfl
theorem PI:kC 408=fB:=by
 have h:upL 408 [] 2=kC 408:=by have h:=Rh 408 0;rw[Nat.zero_add] at h;exact h
 have h2:upL 408 [] 2=fB:=by kernel_rfl
 exact h.symm.trans h2
theorem Jc:∀ {k p:Nat},p∈kC k→2≤p∧p≤k+1
 | k+1,p,h=>by
  rw[kC] at h;cases hp:qA (k+2) (kC k)<;>rw[hp] at h
  ·have :=Jc (k:=k) h;omega
  ·simp only[cond_true,mem_append,mem_singleton] at h;rcases h with h | h
   ·have :=Jc (k:=k) h;omega
   ·omega
theorem Ym(hk:k≤408):kC k=fB.take (kC k).length:=by
 obtain⟨r,h⟩:=IZ (408-k) k;rw[show k+(408-k)=408 by omega,PI] at h;rw[h,take_left]
theorem aaD(h:408≤k):80≤(kC k).length:=by
 obtain⟨r,h1⟩:=IZ (k-408) 408;rw[show 408+(k-408)=k by omega,PI] at h1;rw[h1,length_append,show fB.length=80 by decide];omega
theorem drop_cons{l:List Nat}(h:i<l.length):l.drop i=l.getD i 0::l.drop (i+1):=by grind [drop_eq_getElem_cons,getD,getElem?_eq_getElem]
theorem ND(hs:Seq K F A m 1 (av .i64 l))(hl:∀p∈l,2≤p∧p≤1000)(hx:x≤1000)(hm:m≤1000) :
 aK prog 315 #[.i ((x:Nat):Int),.slice A m cap] K F (.bool (qA x l)):=by
 have hlen:l.length=m:=by have :=hs.len;rwa [au,Nat.mul_one] at this
 obtain⟨R,hR⟩:∃R,R=qA x l:=⟨_,rfl⟩;rw[←hR];refine aB.en func315 ntmps315 ?_;refine aj "afkN" ?_;refine WC.loop (σ:=Nat) (fun i=>[(0,.i ((x:Nat):Int)),(7,.slice A m cap),(8,.i ((m:Nat):Int)),(9,.i ((i:Nat):Int))]) (fun _=>F) (fun i=>i≤m∧qA x (l.drop i)=R) (fun i=>m-i) 0 ⟨zero_le _,hR.symm⟩ bC cO ?_;rintro i ⟨hi,hq⟩;refine aP "a~jFH" (aW (fun aL=> ?_) fun aL=> ?_)
 ·simp only[cZ] at aL;rw[drop_cons ay,qA] at hq;obtain⟨p,hp⟩:∃p,p=l.getD i 0:=⟨_,rfl⟩;have RV:=hl p (by rw[hp,getD,getElem?_eq_getElem ay];exact getElem_mem _);have hpp:p*p≤1000*1000:=Nat.mul_le_mul RV.2 RV.2;rw[←hp] at hq;have hr:=Seq.qH hs (show i<m by omega);rw[←hp] at hr;refine aj "Ia" ?_;refine WL.val (V.jW (v:= .i ((p:Nat):Int)) eB (ak rfl) (ak rfl) (hr:=fun _=>hr)) rfl ?_;refine WL.val (V.d9 (v:= .i ((p:Nat):Int)) isAgg3 (ak rfl) (fun _=>hr)) rfl ?_;refine aj "fc" ?_;refine WL.val (V.Ob (ak rfl) (ak rfl)) rfl (WL.mv rfl rfl (WL.val (V.aar (ak rfl) (ak rfl)) rfl ?_));refine aj "i" (aW (fun h1=> ?_) fun h1=> ?_)
  ·simp only[cZ] at h1;rw[if_pos h1] at hq;refine aj "W" ?_;have hq':true=R:=hq;rw[←hq'];exact aj "pd." trivial
  ·simp only[cZ] at h1;rw[if_neg h1] at hq;refine aj "Uc" ?_;refine WL.val (V.WJ (ak rfl) (ak rfl)) rfl ?_;refine aP "~~$i" (aW (fun h2=> ?_) fun h2=> ?_)
   ·simp only[cZ] at h2;rw[if_pos h2] at hq;refine aj "G" ?_;exact qR F rfl rfl eO ⟨by rw[←hq],rfl⟩
   ·simp only[cZ] at h2;rw[if_neg h2] at hq;refine aP "qp>=" ?_;exact⟨i+1,⟨by show i+1≤m;omega,hq⟩,(by show m-(i+1)<m-i;omega),.cons rfl bC,fun w h=>h⟩
 ·simp only[cZ] at aL;refine aj "W" ?_;obtain rfl:i=m:=by omega
  rw[←hlen,drop_length,qA] at hq;rw[←hq];exact aj "pd." trivial
theorem nY(hn:n≤80):aB prog 275 #[.i ((n:Nat):Int)] K F (fun v H'=>∃A cap,v= .tuple #[.slice A n cap,.i 0]∧H'=aV (.slice A n cap) 3 1 n (av .i64 (fB.take n))::F):=by
 refine aB.en func275 ntmps275 ?_;refine aj "alf" ?_;refine WL.val (V.zI (j:=0) (ak rfl) (ak rfl)) rfl (aj "cV" ?_);refine WL.bI (oj:=_) rfl rfl rfl GC.f (V.aar (j:=100) (OV.g rfl id) (ak rfl)) rfl ?_;refine aj "Li" (aW (fun h0=> ?_) fun h0=> ?_)
 ·skip
  refine aj "aC" ?_;exact absurd h0 (by simp;omega)
 ·skip
  refine aj "9uagt" ?_;refine WC.loop (σ:=Nat×Option Addr×Nat) (fun s=>[(0,.i ((n:Nat):Int)),(4,.slice s.2.1 (kC s.1).length s.2.2),(5,.i ((s.1+2:Nat):Int))]) (fun s=>aV (.slice s.2.1 (kC s.1).length s.2.2) 3 1 (kC s.1).length (av .i64 (kC s.1))::F)
   (fun s=>s.1≤408∧(kC s.1).length≤n) (fun s=>408-s.1) (0,none,0) ⟨zero_le _,zero_le _⟩ bC (fun w h=>h.gI _ _) ?_
  rintro⟨k,A,cp⟩ ⟨hk,hkn⟩;dsimp only at hk hkn ⊢;refine aP "rkc~ji" (aW (fun h1=> ?_) fun h1=> ?_)
  ·simp only[cZ] at h1;have hk4:k<408:=by rcases Nat.lt_or_ge k 408 with h | h;exact h;have :=aaD h;omega
   refine aj "1c" ?_;refine WL.t2 call315 rfl rfl (ND (aV.seq (by rw[au,Nat.mul_one])) (fun p hp=>by have :=Jc hp;omega) ay ay) rfl ?_;refine aj "i" (aW (fun h2=> ?_) fun h2=> ?_)
   ·skip
    refine aj "P" ?_;refine WL.buildSlice (E:=3) (cs:=av .i64 [_]) (vs:=[(0,_)]) ⟨ak rfl,trivial⟩ rfl (dJ _) rfl (fun b23=> ?_);refine aP "?~4" fun A24 c24 aod aov=> ?_;refine aP "gh>X" ?_;refine⟨(k+1,A24,c24),⟨by show k+1≤408;omega, ?_⟩,(by show 408-(k+1)<408-k;omega), ?_,fun w h=> ?_⟩
    ·show (kC (k+1)).length≤n;rw[kC,h2,cond_true,length_append];show _+1≤_;omega
    ·dsimp only;rw[kC,h2,cond_true,length_append];exact .cons rfl bC
    ·have h3:=h.bg 2 [0] rfl;dsimp only;rw[kC,h2,cond_true,length_append];exact h3
   ·skip
    refine aP "qh>X" ?_;refine⟨(k+1,A,cp),⟨by show k+1≤408;omega, ?_⟩,(by show 408-(k+1)<408-k;omega), ?_,fun w h=> ?_⟩
    ·show (kC (k+1)).length≤n;rw[kC,h2,cond_false];exact hkn
    ·dsimp only;rw[kC,h2,cond_false];exact .cons rfl bC
    ·dsimp only;rw[kC,h2,cond_false];exact h
  ·simp only[cZ] at h1;refine aj "KeC" ?_;have e1:(kC k).length=n:=ay;have e2:=Ym hk;rw[e1] at e2;rw[e1,e2];exact aF.ret (H':=_) (bJ.two rfl (R1.tmp rfl) (R1.tmp rfl)) cO ⟨A,cp,rfl,rfl⟩
theorem qp{l:List Nat}(hn:l.length=n)(h:i<n):(l.take i++replicate (n-i) 0).set i (l.getD i 0)=l.take (i+1)++replicate (n-(i+1)) 0:=by
 obtain⟨j,rfl⟩:∃j,n=i+(j+1):=⟨n-i-1,by omega⟩;rw[set_append,length_take,Nat.min_eq_left ay,if_neg ay,Nat.sub_self,show i+(j+1)-i=j+1 by omega,replicate_succ,set_cons_zero,show i+(j+1)-(i+1)=j by omega,take_succ_eq_append_getElem ay,append_assoc];rw[getD,getElem?_eq_getElem ay];rfl
theorem C9{l:List Nat}(hm:l.map f=k)(h:i<l.length):f (l.getD i 0)=k.getD i 0:=by
 subst hm;simp[getD,h]
theorem MP:aA 1000 fB:=by unfold aA;decide
theorem yU(i n:Nat):(fB.take n).getD i 0<1000:=aA.at_ (fun y hy=>MP y (mem_of_mem_take hy)) aN i
theorem Ni:aK prog 239 #[] K F (.agg (av .u64 Sz).toArray):=by
 have hk:∀i,i<8→fQ ((fB.take 8).getD i 0) 2 (64*2) 71 0%18446744073709551616=Sz.getD i 0:=fun i hi=>C9 (f:=fun p=>fQ p 2 128 71 0%18446744073709551616) aez (by rw[length_take];exact hi);have Gs:Sz.length=8:=by decide
 obtain⟨ks,uL⟩:∃ks,ks=Sz:=⟨_,rfl⟩;obtain⟨ps,qY⟩:∃ps,ps=fB.take 8:=⟨_,rfl⟩;have l7:∀i,ps.getD i 0<1000:=by rw[qY];exact fun i=>yU i 8
 have JO:ps.length=8:=by rw[qY];decide
 rw[←qY,←uL] at hk;rw[←uL] at Gs ⊢;refine aB.en func239 ntmps239 ?_;refine aP "ax" fun b0=> ?_;refine aP "Rx" fun b1=> ?_;refine aj "R" ?_;refine WL.c1 call275 rfl (nY (n:=8) aN) rfl ?_;rintro _ _ ⟨A,cap,rfl,rfl⟩;refine aj "DfkN" ?_;rw[←qY];refine WC.loop (σ:=Nat×List Nat) (fun s=>[(0,ptr b0 0),(1,ptr b1 0),(10,.slice A 8 cap),(11,.i ((8:Nat):Int)),(12,.i ((s.1:Nat):Int))]) (fun s=>aV (.slice A 8 cap) 3 1 8 (av .i64 ps)::ah b1 309 (av .u64 s.2)::ah b0 309 (av .u64 (replicate 8 0))::F)
  (fun s=>s.1≤8∧s.2=ks.take s.1++replicate (8-s.1) 0) (fun s=>8-s.1) (0,replicate 8 0) ⟨zero_le _,rfl⟩ bC cO ?_
 rintro⟨i,ws⟩ ⟨hi,hw⟩;dsimp only at hi hw ⊢;have UQ:ws.length=8:=by rw[hw,length_append,length_take,length_replicate];omega
 refine aP "a~jFH" (aW (fun aL=> ?_) fun aL=> ?_)
 ·simp only[cZ] at aL;have hr:Rd K (aV (.slice A 8 cap) 3 1 8 (av .i64 ps)::ah b1 309 (av .u64 ws)::ah b0 309 (av .u64 (replicate 8 0))::F) _ _:=Seq.qH (aV.seq (by rw[au,JO])) (show i<8 by omega);refine aj "1" ?_;refine WL.val (V.jW (v:= .i ((ps.getD i 0:Nat):Int)) eB (ak rfl) (ak rfl) (hr:=fun _=>hr)) rfl ?_;refine WL.val (V.d9 (v:= .i ((ps.getD i 0:Nat):Int)) isAgg3 (ak rfl) (fun _=>hr)) rfl ?_;refine aj "lgP" ?_;refine WL.t2 call276 rfl rfl ((Fq (pw:=2) (l7 i) aN aN).eq (v':= .int .u64 ((ks.getD i 0:Nat):Int)) (by rw[hk i ay])) rfl ?_;refine aP "~F~vbp>=" ?_;exact⟨(i+1,_),⟨by show i+1≤8;omega,by dsimp only;rw[hw];exact qp Gs ay⟩,(by show 8-(i+1)<8-i;omega),.cons rfl bC,fun w h=>h⟩
 ·simp only[cZ] at aL;refine aj "W" ?_;obtain rfl:i=8:=by omega
  rw[Nat.sub_self,replicate_zero,append_nil,take_of_length_le ay] at hw;rw[hw];refine aP "pAy2" ?_;exact aF.ret (H':=F) (bJ.one rfl (R1.dh (l:=ks) rfl ⟨isAgg309,sizeOf309⟩)) eO ⟨rfl,rfl⟩
theorem Kh:aK prog 238 #[] K F (.agg (av .u64 Ka).toArray):=by
 have hk:∀i,i<80→fQ ((fB.take 80).getD i 0) 3 (64*3) 71 0%18446744073709551616=Ka.getD i 0:=fun i hi=>C9 (f:=fun p=>fQ p 3 192 71 0%18446744073709551616) (by rw[take_of_length_le aN];exact ad6) (by rw[length_take];exact hi);have Gs:Ka.length=80:=by decide
 obtain⟨ks,uL⟩:∃ks,ks=Ka:=⟨_,rfl⟩;obtain⟨ps,qY⟩:∃ps,ps=fB.take 80:=⟨_,rfl⟩;have l7:∀i,ps.getD i 0<1000:=by rw[qY];exact fun i=>yU i 80
 have JO:ps.length=80:=by rw[qY];decide
 rw[←qY,←uL] at hk;rw[←uL] at Gs ⊢;refine aB.en func238 ntmps238 ?_;refine aP "ax" fun b0=> ?_;refine aP "Rx" fun b1=> ?_;refine aj "R" ?_;refine WL.c1 call275 rfl (nY (n:=80) aN) rfl ?_;rintro _ _ ⟨A,cap,rfl,rfl⟩;refine aj "DfkN" ?_;rw[←qY];refine WC.loop (σ:=Nat×List Nat) (fun s=>[(0,ptr b0 0),(1,ptr b1 0),(10,.slice A 80 cap),(11,.i ((80:Nat):Int)),(12,.i ((s.1:Nat):Int))]) (fun s=>aV (.slice A 80 cap) 3 1 80 (av .i64 ps)::ah b1 307 (av .u64 s.2)::ah b0 307 (av .u64 (replicate 80 0))::F)
  (fun s=>s.1≤80∧s.2=ks.take s.1++replicate (80-s.1) 0) (fun s=>80-s.1) (0,replicate 80 0) ⟨zero_le _,rfl⟩ bC cO ?_
 rintro⟨i,ws⟩ ⟨hi,hw⟩;dsimp only at hi hw ⊢;have UQ:ws.length=80:=by rw[hw,length_append,length_take,length_replicate];omega
 refine aP "a~jFH" (aW (fun aL=> ?_) fun aL=> ?_)
 ·simp only[cZ] at aL;have hr:Rd K (aV (.slice A 80 cap) 3 1 80 (av .i64 ps)::ah b1 307 (av .u64 ws)::ah b0 307 (av .u64 (replicate 80 0))::F) _ _:=Seq.qH (aV.seq (by rw[au,JO])) (show i<80 by omega);refine aj "1" ?_;refine WL.val (V.jW (v:= .i ((ps.getD i 0:Nat):Int)) eB (ak rfl) (ak rfl) (hr:=fun _=>hr)) rfl ?_;refine WL.val (V.d9 (v:= .i ((ps.getD i 0:Nat):Int)) isAgg3 (ak rfl) (fun _=>hr)) rfl ?_;refine aj "lgP" ?_;refine WL.t2 call276 rfl rfl ((Fq (pw:=3) (l7 i) aN aN).eq (v':= .int .u64 ((ks.getD i 0:Nat):Int)) (by rw[hk i ay])) rfl ?_;refine aP "~F~vbp>=" ?_;exact⟨(i+1,_),⟨by show i+1≤80;omega,by dsimp only;rw[hw];exact qp Gs ay⟩,(by show 80-(i+1)<80-i;omega),.cons rfl bC,fun w h=>h⟩
 ·simp only[cZ] at aL;refine aj "W" ?_;obtain rfl:i=80:=by omega
  rw[Nat.sub_self,replicate_zero,append_nil,take_of_length_le ay] at hw;rw[hw];refine aP "pAy2" ?_;exact aF.ret (H':=F) (bJ.one rfl (R1.dh (l:=ks) rfl ⟨isAgg307,sizeOf307⟩)) eO ⟨rfl,rfl⟩
theorem zT{l:List Nat}(hl:l.length=n)(hj:j<n):l.reverse.take j++[l.getD (n-1-j) 0]=l.reverse.take (j+1):=by grind [take_succ_eq_append_getElem,length_reverse,getD,getElem?_eq_getElem]
theorem TL(hs:Seq K F A m 1 (av .u8 l))(hm:m≤100000000):aB prog 240 #[.slice A m cap] K F (fun v H'=>∃A' M cap',M=(l++lT 128 16 m).length∧v= .slice A' M cap'∧M≤cap'∧H'=aV (.slice A' M cap') 5 1 M (av .u8 (l++lT 128 16 m))::F):=by
 have hlen:l.length=m:=by have :=hs.len;rwa [au,Nat.mul_one] at this
 obtain⟨R,hR⟩:∃R,R=(m+16)%128:=⟨_,rfl⟩;refine aB.en func240 ntmps240 ?_;refine aj "aj" ?_;refine WL.sub (H':=aV (.slice none 0 0) 5 1 0 (av .u8 [])::F) (Sub.refl _) (fun w h=>h.gI _ _) ?_;refine WL.Gn (m:=0) (l:=[]) underlying34 yL (ak rfl) (ak rfl) (fun A6 c6 hn6 RD=> ?_) hs;rw[Nat.zero_add] at hn6 RD ⊢;refine WL.buildSlice (E:=5) (cs:=av .u8 [_]) (vs:=[(0,_)]) ⟨ak rfl,trivial⟩ rfl (jc _) rfl (fun b7=> ?_);refine aP "?~4" fun A8 c8 hn8 hc8=> ?_;refine aj "ut" ?_;refine WC.loop (σ:=Nat×Option Addr×Nat) (fun s=>[(0,.slice A m cap),(3,.slice s.2.1 (m+1+s.1) s.2.2)]) (fun s=>aV (.slice s.2.1 (m+1+s.1) s.2.2) 5 1 (m+1+s.1) (av .u8 (l++128::replicate s.1 0))::F)
  (fun s=>s.1≤127-R∧m+1+s.1≤s.2.2) (fun s=>127-R-s.1) (0,A8,c8) ⟨zero_le _,hc8⟩ bC (fun w h=>Sat.wm (cs':=av .u8 (l++128::replicate 0 0)) (h.bg 2 [0] rfl) (by rw[nil_append,replicate_zero])) ?_
 rintro⟨z,A3,c3⟩ ⟨hz,hz3⟩;dsimp only at hz hz3 ⊢;refine aj "rk" ?_;refine WL.val (V.wN (j:=16) (ak rfl) (ak rfl)) rfl (WL.val (V.WJ (j:=128) (ak rfl) (ak rfl)) rfl ?_);refine aP "~~ii" (aW (fun h0=> ?_) fun h0=> ?_)
 ·simp only[oK] at h0;refine aj "qth" ?_;refine WL.buildSlice (E:=5) (cs:=av .u8 [_]) (vs:=[(0,_)]) ⟨ak rfl,trivial⟩ rfl (jc _) rfl (fun b15=> ?_);refine aP "?~4" fun A16 c16 atJ aeS=> ?_;refine aj "X" ?_;refine⟨(z+1,A16,c16),⟨by show z+1≤127-R;omega,by show m+1+(z+1)≤c16;omega⟩,(by show 127-R-(z+1)<127-R-z;omega),.cons rfl bC,fun w h=> ?_⟩;have h2:=Sat.wm (h.bg 2 [0] rfl) (show av .u8 (l++128::replicate z 0++[0])=av .u8 (l++128::replicate (z+1) 0) by rw[append_assoc,cons_append,replicate_succ',]);exact h2
 ·simp only[oK] at h0;refine aj "W" ?_;obtain rfl:z=127-R:=by omega
  obtain⟨M,hM⟩:∃M,M=m+1+(127-R):=⟨_,rfl⟩;obtain⟨L,hL⟩:∃L,L=l++128::replicate (127-R) 0:=⟨_,rfl⟩;rw[←hM,←hL];refine aj "h" ?_;refine WL.Gx (m:=M) (q:=8) (z:= .int .u8 0) underlying34 underlying3 yL rfl rfl (ak rfl) (ak rfl) rfl ay ay rfl (fun A18 c18 arb ahv=> ?_);rw[show av .u8 L++replicate 8 (.int .u8 0)=av .u8 (L++replicate 8 0) by rw[dx];rfl];refine aj "uagt" ?_;refine WC.loop (σ:=Nat×Option Addr×Nat) (fun s=>[(0,.slice A m cap),(3,.slice s.2.1 (M+8+s.1) s.2.2),(4,.i (56-8*(s.1:Int)))]) (fun s=>aV (.slice s.2.1 (M+8+s.1) s.2.2) 5 1 (M+8+s.1) (av .u8 (L++replicate 8 0++(bG 256 8 (8*m)).reverse.take s.1))::F)
   (fun s=>s.1≤8∧M+8+s.1≤s.2.2) (fun s=>8-s.1) (0,A18,c18) ⟨zero_le _,ahv⟩ bC (fun w h=>Sat.wm h (by rw[take_zero,append_nil])) ?_
  rintro⟨j,A3,c3⟩ ⟨hj,hj3⟩;dsimp only at hj hj3 ⊢;refine aj "r~ii" (aW (fun h1=> ?_) fun h1=> ?_)
  ·simp only[cZ] at h1;rw[show (56-8*(j:Int))=((56-8*j:Nat):Int) by omega];refine aj "IPk" ?_;refine WL.val (V.qQ (i:=m) runUnderlying3 runUnderlying306 (ak rfl) (fun _=>kN (M:=18446744073709551616) rfl rfl ay)) rfl ?_;refine WL.val (V.Tx (i:=8) (M:=18446744073709551616) (ak rfl) (ak rfl)) rfl (aP "c~8~Y" ?_);refine WL.buildSlice (E:=5) (cs:=av .u8 [_]) (vs:=[(0,_)]) ⟨ak rfl,trivial⟩ rfl (jc _) rfl (fun b31=> ?_);refine aP "?~4" fun A32 c32 YW Zh=> ?_;refine aj "gh~xX" ?_;refine⟨(j+1,A32,c32),⟨by show j+1≤8;omega,by show M+8+(j+1)≤c32;omega⟩,(by show 8-(j+1)<8-j;omega),.cons rfl (.cons rfl (.cons (look_eq rfl (by congr 1;dsimp only;omega)) (.nil _))),fun w h=> ?_⟩;have h2:=Sat.wm (h.bg 2 [0] rfl) (show av .u8 (L++replicate 8 0++(bG 256 8 (8*m)).reverse.take j++[8*m%18446744073709551616/2^(56-8*j)%256])=av .u8 (L++replicate 8 0++(bG 256 8 (8*m)).reverse.take (j+1)) by
    rw[←zT (aI _ _ _) ay,bV _ _ _ _ ay,mod_eq_of_lt (show 8*m<18446744073709551616 by omega),show (2:Nat)^(56-8*j)=256^(8-1-j) by rw[show 56-8*j=8*(8-1-j) by omega,Nat.pow_mul],append_assoc _ _ [_]])
   exact h2
  ·simp only[cZ] at h1;refine aj "W" ?_;obtain rfl:j=8:=by omega
   have e1:L++replicate 8 0++(bG 256 8 (8*m)).reverse.take 8=l++lT 128 16 m:=by
    rw[take_of_length_le (by rw[length_reverse,aI];decide),hL,hR];simp[lT]
   have e2:(l++lT 128 16 m).length=M+8+8:=by
    rw[←e1,hL,take_of_length_le (by rw[length_reverse,aI];decide)];simp only[length_append,length_cons,length_replicate,length_reverse,aI,hlen];omega
   rw[e1];refine aj "hd" ?_;exact qR _ rfl rfl cO ⟨A3,M+8+8,c3,e2.symm,rfl,hj3,rfl⟩
end Go.Proofs.YtcedojacbhnbiaaGreat
namespace Go.Sl
open Go Go.RowKit Go.Proofs.YtcedojacbhnbiaaGreat List Nat
theorem Seq.rD(hs:Seq K H A m 1 (av k xs))(h1:l≤h)(h2:h≤m)(h3:m≤u) :
 Seq K H (if u=l then A else A.map (·.add (l*1))) (h-l) 1 (av k ((xs.drop l).take (h-l))):=by
 have hl:=hs.len;rw[au] at hl;refine⟨by rw[au,length_take,length_drop];omega,fun i v hi=> ?_⟩;have hi':i<h-l:=by
  rcases Nat.lt_or_ge i (h-l) with h4 | h4
  ·exact h4
  ·rw[getElem?_eq_none (by rw[au,length_take];omega)] at hi;cases hi
 rw[if_neg ay];have h5:=hs.rd (l+i) v (by
  rw[←hi];unfold av;rw[getElem?_map,getElem?_map,getElem?_take,if_pos hi',getElem?_drop])
 rw[Nat.mul_one];cases A with
 | none=>exact h5
 | some a =>
  have e:(a.add l).add i=a.add (l+i):=by
   simp only[Addr.add];split<;>split<;>simp_all<;>omega
  show Rd K H (some ((a.add l).add i)) v;rw[e];exact h5
end Go.Sl
namespace Go.Proofs.YtcedojacbhnbiaaGreat
open Go.Sl Go.RowKit Tryz List Nat
theorem Fx(q k:Nat)(data w:List Nat):Ph q (k+1) data w=Ph q k (data.drop q) (be (data.take q)::w):=by rw[Ph,force_eq]
theorem IJ(M:Nat)(z1 z0:Nat→Nat)(k:Nat)(w:List Nat):xu M z1 z0 (k+1) w=xu M z1 z0 k (ac9 M z1 z0 w::w):=by rw[xu,force_eq]
theorem Io(M:Nat)(s1 s0:Nat→Nat){ks ws:List Nat}(o:O8)(hk:i<ks.length)(hw:i<ws.length):yK M s1 s0 (ks.drop i) (ws.drop i) o=yK M s1 s0 (ks.drop (i+1)) (ws.drop (i+1)) (Ui M s1 s0 o (ks.getD i 0) (ws.getD i 0)):=by
 rw[drop_cons hk,drop_cons hw,yK]
theorem MV(M:Nat)(s1 s0:Nat→Nat)(o:O8)(k w:Nat):Ui M s1 s0 o k w =
 ⟨((((((o.h+s1 o.e)%M+(o.e &&& o.f ^^^ (M-1-o.e) &&& o.g))%M+k)%M+w)%M)+(s0 o.a+(o.a &&& o.b ^^^ o.a &&& o.c ^^^ o.b &&& o.c))%M)%M,o.a,o.b,o.c,
  (o.d+((((o.h+s1 o.e)%M+(o.e &&& o.f ^^^ (M-1-o.e) &&& o.g))%M+k)%M+w)%M)%M,o.e,o.f,o.g⟩:=by
 simp only[Ui,force_eq,mod_add_mod,add_mod_mod]
theorem VF(M:Nat)(z1 z0:Nat→Nat)(w:List Nat):ac9 M z1 z0 w=(((w.getD 15 0+z0 (w.getD 14 0))%M+w.getD 6 0)%M+z1 (w.getD 1 0))%M:=by
 simp only[ac9,mod_add_mod]
theorem Gu{ws:List Nat}(h:i<ws.length):((ws.set i x).take (i+1)).reverse=x::(ws.take i).reverse:=by simp_all [take_succ_eq_append_getElem,length_set,reverse_append,take_set_of_le,Nat.le_refl]
theorem oo{ws:List Nat}(h:i≤ws.length)(hj:j<i):(ws.take i).reverse.getD j 0=ws.getD (i-(j+1)) 0:=by grind
theorem Vp(l:List Nat)(x:Nat):be (l++[x])=256*be l+x:=by simp[be,foldl_append]
theorem ae9:∀ {l:List Nat},aA 256 l→be l<256^l.length:=by
 intro l
 suffices h:∀r:List Nat,aA 256 r→be r.reverse<256^r.length by
  intro hs;have :=h l.reverse (fun x hx=>hs x (mem_reverse.1 hx))
  rwa [reverse_reverse,length_reverse] at this
 intro r
 induction r with
 | nil=>intro _;decide
 | cons x r ih =>
  intro hs;have h1:=ih fun y hy=>hs y (mem_cons_of_mem _ hy);have h2:=hs x mem_cons_self;rw[reverse_cons,Vp,length_cons,Nat.pow_succ];omega
theorem Oy{A B:List Nat}(hA:A.length=n)(hB:B.length=n)(h:i<n):(A.take i++B.drop i).set i (A.getD i 0)=A.take (i+1)++B.drop (i+1):=by
 rw[drop_cons ay,set_append,length_take,Nat.min_eq_left ay,if_neg ay,Nat.sub_self,set_cons_zero,take_succ_eq_append_getElem ay,append_assoc];rw[getD,getElem?_eq_getElem ay];rfl
theorem Qz{A B:List Nat}(hA:A.length=n)(hB:B.length=n)(h:i<n):(A.take i++B.drop i).getD i 0=B.getD i 0:=by grind
theorem aea(hx:x<18446744073709551616):pY x n<18446744073709551616:=by
 rw[show (18446744073709551616:Nat)=2^64 by decide] at hx ⊢;exact or_lt_two_pow (mod_lt _ aN) (Nat.lt_of_le_of_lt (div_le_self _ _) hx)
theorem adY(hx:x<4294967296):pR x n<4294967296:=by
 rw[show (4294967296:Nat)=2^32 by decide] at hx ⊢;exact or_lt_two_pow (mod_lt _ aN) (Nat.lt_of_le_of_lt (div_le_self _ _) hx)
def O8.Ok(M:Nat)(o:O8):Prop:=o.a<M∧o.b<M∧o.c<M∧o.d<M∧o.e<M∧o.f<M∧o.g<M∧o.h<M
theorem Vt(hM:0<M)(s1 s0:Nat→Nat)(h:o.Ok M)(k w:Nat):(Ui M s1 s0 o k w).Ok M:=by
 obtain⟨h1,h2,h3,h4,h5,h6,h7,h8⟩:=h;rw[MV];exact⟨mod_lt _ hM,h1,h2,h3,mod_lt _ hM,h5,h6,h7⟩
theorem O8.Ju(hM:0<M)(h:aA M s):(O8.of s).Ok M:=⟨h.at_ hM _,h.at_ hM _,h.at_ hM _,h.at_ hM _,h.at_ hM _,h.at_ hM _,h.at_ hM _,h.at_ hM _⟩
def O8.list(o:O8):List Nat:=[o.a,o.b,o.c,o.d,o.e,o.f,o.g,o.h]
theorem KM(hi:i<8):(s.getD i 0+o.list.getD i 0)%M=(QD M s o).getD i 0:=by
 match i,hi with
 | 0,_ | 1,_ | 2,_ | 3,_ | 4,_ | 5,_ | 6,_ | 7,_=>rfl
theorem vW(hM:0<M)(s:List Nat)(o:O8):aA M (QD M s o):=by
 intro x hx;simp only[QD,mem_cons,not_mem_nil,or_false] at hx;rcases hx with h | h | h | h | h | h | h | h<;>(rw[h];exact mod_lt _ hM)
set_option exponentiation.threshold 5000
def s1F(x:Nat):Nat:=pY x 14 ^^^ pY x 18 ^^^ pY x 41
def s0F(x:Nat):Nat:=pY x 28 ^^^ pY x 34 ^^^ pY x 39
def z1F(x:Nat):Nat:=pY x 19 ^^^ pY x 61 ^^^ x/2^6
def z0F(x:Nat):Nat:=pY x 1 ^^^ pY x 8 ^^^ x/2^7
theorem jO(hx:x<18446744073709551616):pY x n<2^64:=aea hx
theorem afu(hx:x<18446744073709551616):x/2^n<2^64:=Nat.lt_of_le_of_lt (div_le_self _ _) hx
theorem LB(s data:List Nat):xF s data=QD 18446744073709551616 s (yK 18446744073709551616 s1F s0F Ka (xu 18446744073709551616 z1F z0F 64 (Ph 8 16 data [])).reverse (O8.of s)):=rfl
theorem TG{l:List Nat}(h:l.getD i 0=0):l.set i 0=l:=by grind [Nat.lt_or_ge,getD,getElem?_eq_getElem,set_getElem_self,set_eq_of_length_le]
theorem MC(hr:∀i,i<80→Rd K F (some ⟨br,i,none⟩) (.int .u64 ((Ka.getD i 0:Nat):Int)))(hs:Seq K F A 128 1 (av .u8 data))(hd:aA 256 data)(mR:s.length=8)(RF:aA 18446744073709551616 s)(kS:128≤cap) :
 aK prog 241 #[ptr br 0,.agg (av .u64 s).toArray,.slice A 128 cap] K F (.agg (av .u64 (xF s data)).toArray):=by
 have wF:data.length=128:=by have :=hs.len;rwa [au,Nat.mul_one] at this
 obtain⟨ks,uL⟩:∃ks,ks=Ka:=⟨_,rfl⟩;have vX:ks.length=80:=by rw[uL];decide
 have anm:aA 18446744073709551616 ks:=by rw[uL];unfold aA;decide
 rw[LB,←uL];rw[←uL] at hr;obtain⟨Rw,hRw⟩:∃R,R=xu 18446744073709551616 z1F z0F 64 (Ph 8 16 data []):=⟨_,rfl⟩;rw[←hRw];refine aB.en func241 ntmps241 ?_;refine aj "a+" fun b4=> ?_;refine aP "x" fun b6=> ?_;refine aP "Rx" fun b7=> ?_;refine aj "brbt" ?_;refine WC.loop (σ:=Nat×List Nat) (fun s=>[(0,ptr br 0),(2,.slice A 128 cap),(4,ptr b4 0),(6,ptr b6 0),(7,ptr b7 0),(26,.i ((s.1:Nat):Int))]) (fun t=>ah b7 307 (av .u64 t.2)::ah b6 309 (av .u64 (replicate 8 0))::ah b4 309 (av .u64 s)::F)
  (fun t=>t.1≤80∧t.2.length=80∧aA 18446744073709551616 t.2∧(∀j,t.1≤j→t.2.getD j 0=0)∧xu 18446744073709551616 z1F z0F (64-(t.1-16)) (Ph 8 (16-t.1) (data.drop (8*t.1)) (t.2.take t.1).reverse)=Rw) (fun t=>80-t.1) (0,replicate 80 0) ⟨zero_le _,length_replicate,aA.wJ aN,fun j _=>y7 _ _,hRw.symm⟩ bC cO ?_
 rintro⟨i,ws⟩ ⟨hi,UQ,nS,hz,hq⟩;dsimp only at hi UQ nS hz hq ⊢;refine WC.sr (WL.val (V.zI (j:=80) (ak rfl) (ak rfl)) rfl ?_);refine aj "FH" (aW (fun aL=> ?_) fun aL=> ?_)
 ·simp only[cZ] at aL;refine aj "1f" ?_;refine WL.val (V.zI (j:=16) (ak rfl) (ak rfl)) rfl ?_;refine aj "i" (aW (fun h1=> ?_) fun h1=> ?_)
  ·simp only[cZ] at h1;rw[show 16-i=16-(i+1)+1 by omega,Fx,drop_drop,show 64-(i-16)=64-(i+1-16) by omega] at hq;refine aP "rc~~cc~~c" ?_;refine WL.val (V.wN (j:=8) (ak rfl) (ak rfl)) rfl ?_;refine WL.val (V.slice (m:=128) (cap:=cap) (l:=8*i) (h:=8*i+8) (u:=cap) dO (ak rfl) (OO.some (ak rfl) (fun _=>rfl)) (OO.some (ak rfl) (fun _=>rfl)) OO.none (by simp) ay ay ay) rfl ?_;have pI:=Seq.rD hs (l:=8*i) (h:=8*i+8) (u:=cap) ay ay kS;obtain⟨A2,RU⟩:∃A2,A2=(if cap=8*i then A else A.map (·.add (8*i*1))):=⟨_,rfl⟩;rw[←RU] at pI ⊢;rw[show 8*i+8-8*i=8 by omega] at pI ⊢;obtain⟨d8,Nf⟩:∃d8,d8=(data.drop (8*i)).take 8:=⟨_,rfl⟩;rw[←Nf] at pI hq;have agW:aA 256 d8:=fun x hx=>hd x (by rw[Nf] at hx;exact mem_of_mem_drop (mem_of_mem_take hx));have arx:d8.length=8:=by rw[Nf,length_take,length_drop];omega
   refine aj "kN" ?_;refine WC.loop (σ:=Nat) (fun j=>[(0,ptr br 0),(2,.slice A 128 cap),(4,ptr b4 0),(6,ptr b6 0),(7,ptr b7 0),(26,.i ((i:Nat):Int)),(8,.i ((i:Nat):Int)),(37,.slice A2 8 (cap-8*i)),(38,.i ((8:Nat):Int)),(39,.i ((j:Nat):Int))]) (fun j=>ah b7 307 (av .u64 (ws.set i (be (d8.take j))))::ah b6 309 (av .u64 (replicate 8 0))::ah b4 309 (av .u64 s)::F)
    (fun j=>j≤8) (fun j=>8-j) 0 (zero_le _) bC (fun w h=>Sat.aT h (by rw[take_zero,show be []=0 from rfl,TG (hz i (Nat.le_refl _))])) ?_
   rintro j hj;refine aP "a~jFH" (aW (fun h2=> ?_) fun h2=> ?_)
   ·simp only[cZ] at h2;have hr8:=(Seq.qH pI h2);have hx8:d8.getD j 0<256:=agW.at_ aN j;have aoS:be (d8.take j)<256^7:=Nat.lt_of_lt_of_le (ae9 fun x hx=>agW x (mem_of_mem_take hx)) (Nat.pow_le_pow_right aN (by rw[length_take];omega));rw[show (256:Nat)^7=72057594037927936 by decide] at aoS;refine aj "Ia" ?_;refine WL.val (V.jW (v:= .int .u8 ((d8.getD j 0:Nat):Int)) dO (ak rfl) (ak rfl) (hr:=fun _=>hr8.up.up.up)) rfl ?_;refine WL.val (V.d9 (v:= .int .u8 ((d8.getD j 0:Nat):Int)) isAgg5 (ak rfl) (fun _=>hr8.up.up.up)) rfl ?_;refine aP "gP~F" ?_;refine WL.val (V.d9 (v:= .int .u64 ((be (d8.take j):Nat):Int)) isAgg306 (ak rfl) (fun _=>by
     have h:=Rd.nat (K:=K) (b:=b7) (T:=307) (k:= .u64) (H:=ah b6 309 (av .u64 (replicate 8 0))::ah b4 309 (av .u64 s)::F) (l:=ws.set i (be (d8.take j))) (o:=i) (by rw[length_set];omega)
     rwa [zV ay] at h)) rfl ?_
    refine WL.val (V.G7 (j:=8) (M:=18446744073709551616) (ak rfl) (ak rfl)) rfl (WL.mv rfl rfl (WL.val (V.qQ runUnderlying5 runUnderlying306 (ak rfl)) rfl ?_));refine WL.val (V.Zv (i:=be (d8.take j)*2^8%18446744073709551616) (j:=d8.getD j 0) 64 (ak rfl) (ak rfl) (fun _=>⟨mod_lt _ aN,by omega⟩)) rfl ?_;rw[show be (d8.take j)*2^8%18446744073709551616 ||| d8.getD j 0=be (d8.take (j+1)) by
     rw[mod_eq_of_lt (show be (d8.take j)*2^8<18446744073709551616 by omega),uU ay,take_succ_eq_append_getElem ay,Vp,getD,getElem?_eq_getElem ay];show _=_;simp only[Option.getD_some];omega]
    refine aP "~F~vbp>=" ?_;exact⟨j+1,(by show j+1≤8;omega),(by show 8-(j+1)<8-j;omega),.cons rfl bC,fun w h=>Sat.aT h (by rw[set_set])⟩
   ·simp only[cZ] at h2;refine aP "KKp>=" ?_;obtain rfl:j=8:=by omega
    refine⟨(i+1,_),⟨by show i+1≤80;omega,by show (ws.set i _).length=80;rw[length_set];exact UQ,nS.set (Nat.lt_of_lt_of_le (ae9 fun x hx=>agW x (mem_of_mem_take hx)) (Nat.le_trans (Nat.pow_le_pow_right aN (show _≤8 by rw[length_take];omega)) aN)),fun k hk=> ?_, ?_⟩,(by show 80-(i+1)<80-i;omega),.cons rfl bC,fun w h=>h⟩
    ·dsimp only at hk ⊢;rw[getD_set_ne ay];exact hz k ay
    ·dsimp only;rw[Gu ay,take_of_length_le ay,show 8*(i+1)=8*i+8 by omega];exact hq
  ·simp only[cZ] at h1;refine aj "," ?_;have hx:=nS.at_ aN (i-15);have hy:=nS.at_ aN (i-2);rw[show 64-(i-16)=64-(i+1-16)+1 by omega,IJ,show 16-i=0 by omega,Ph,VF,oo ay ay,oo ay ay,oo ay ay,oo ay ay] at hq;refine aP "~HJ0" ?_;refine UA.val 1 rfl (fun _=>V.rD (j:=15) (ak rfl) (ak rfl)) ?_;refine aP "~R2~w3J4" ?_;refine UA.val 5 rfl (fun _=>V.rD (j:=2) (ak rfl) (ak rfl)) ?_;refine aP "~R6~w7)8)9|" fun BS=> ?_;simp only[map_cons,map_nil,cons_append,nil_append];refine aP "~.J0J1" ?_;refine UA.val 2 rfl (fun _=>V.rD (j:=16) (ak rfl) (ak rfl)) ?_;refine aP "~R3~,4J5" ?_;refine UA.call (vs:=[_,_]) 6 rfl call277 (fun _=>⟨ak rfl,ak rfl,trivial⟩) (fun H' hF=>iq (n:=1) hx aN aN) ?_;refine aP "J7" ?_;refine UA.call (vs:=[_,_]) 8 rfl call277 (fun _=>⟨ak rfl,ak rfl,trivial⟩) (fun H' hF=>iq (n:=8) hx aN aN) ?_;refine UA.val 9 rfl (fun _=>V.ru 64 (ak rfl) (ak rfl) (fun _=>⟨jO hx,jO hx⟩)) ?_;refine aP "J:" ?_;refine UA.val 11 rfl (fun _=>V.wK (j:=7) (ak rfl) (ak rfl)) ?_;refine UA.val 12 rfl (fun _=>V.ru 64 (ak rfl) (ak rfl) (fun _=>⟨xor_lt_two_pow (jO hx) (jO hx),afu hx⟩)) ?_;refine aP "~~b=J>" ?_;refine UA.val 15 rfl (fun _=>V.rD (j:=7) (ak rfl) (ak rfl)) ?_;refine aP "~R@~,A~~bBJC" ?_;refine UA.call (vs:=[_,_]) 20 rfl call277 (fun _=>⟨ak rfl,ak rfl,trivial⟩) (fun H' hF=>iq (n:=19) hy aN aN) ?_;refine aP "JE" ?_;refine UA.call (vs:=[_,_]) 22 rfl call277 (fun _=>⟨ak rfl,ak rfl,trivial⟩) (fun H' hF=>iq (n:=61) hy aN aN) ?_;refine UA.val 23 rfl (fun _=>V.ru 64 (ak rfl) (ak rfl) (fun _=>⟨jO hy,jO hy⟩)) ?_;refine aP "JH" ?_;refine UA.val 25 rfl (fun _=>V.wK (j:=6) (ak rfl) (ak rfl)) ?_;refine UA.val 26 rfl (fun _=>V.ru 64 (ak rfl) (ak rfl) (fun _=>⟨xor_lt_two_pow (jO hy) (jO hy),afu hy⟩)) ?_;refine aP "~~bK~RL" ?_;refine UA.at_ 29 rfl sizeOf306 (fun _=>ak rfl) (fun _=>ak rfl) ?_;refine aP "|" fun bs2=> ?_;simp only[map_cons,map_nil,cons_append,nil_append];refine aP "p>=" ?_;refine⟨(i+1,_),⟨by show i+1≤80;omega,by show (ws.set i _).length=80;rw[length_set];exact UQ,nS.set (mod_lt _ aN),fun k hk=> ?_, ?_⟩,(by show 80-(i+1)<80-i;omega),.cons rfl bC,fun w h=>h⟩
   ·dsimp only at hk ⊢;rw[getD_set_ne ay];exact hz k ay
   ·dsimp only;rw[Gu ay,show 16-(i+1)=0 by omega,Ph];exact hq
 ·simp only[cZ] at aL;refine aj "W" ?_;obtain rfl:i=80:=by omega
  rw[take_of_length_le ay] at hq;have hq:ws.reverse=Rw:=hq;have hwr:Rw.reverse=ws:=by rw[←hq,reverse_reverse]
  rw[hwr];obtain⟨Ro,hRo⟩:∃R,R=yK 18446744073709551616 s1F s0F ks ws (O8.of s):=⟨_,rfl⟩;rw[←hRo];refine aP "~H~~~p0~w1" ?_;refine UA.val 2 rfl (fun _=>V.fV (j:=1) Di (ak rfl) (ak rfl)) ?_;refine aP "~w3" ?_;refine UA.val 4 rfl (fun _=>V.fV (j:=2) Di (ak rfl) (ak rfl)) ?_;refine aP "~w5" ?_;refine UA.val 6 rfl (fun _=>V.fV (j:=3) Di (ak rfl) (ak rfl)) ?_;refine aP "~w7" ?_;refine UA.val 8 rfl (fun _=>V.fV (j:=4) Di (ak rfl) (ak rfl)) ?_;refine aP "~w9" ?_;refine UA.val 10 rfl (fun _=>V.fV (j:=5) Di (ak rfl) (ak rfl)) ?_;refine aP "~w;" ?_;refine UA.val 12 rfl (fun _=>V.fV (j:=6) Di (ak rfl) (ak rfl)) ?_;refine aP "~w=" ?_;refine UA.val 14 rfl (fun _=>V.fV (j:=7) Di (ak rfl) (ak rfl)) ?_;refine aP "~w?)@)A)B)C)D)E)F)G|" fun bs3=> ?_;simp only[map_cons,map_nil,cons_append,nil_append];refine aj "rbt" ?_;refine WC.loop (σ:=Nat×O8) (fun t=>[(0,ptr br 0),(4,ptr b4 0),(6,ptr b6 0),(7,ptr b7 0),(13,.int .u64 ((t.2.a:Nat):Int)),(14,.int .u64 ((t.2.b:Nat):Int)),(15,.int .u64 ((t.2.c:Nat):Int)),(16,.int .u64 ((t.2.d:Nat):Int)),(17,.int .u64 ((t.2.e:Nat):Int)),(18,.int .u64 ((t.2.f:Nat):Int)),(19,.int .u64 ((t.2.g:Nat):Int)),(20,.int .u64 ((t.2.h:Nat):Int)),(107,.i ((t.1:Nat):Int))]) (fun _=>ah b7 307 (av .u64 ws)::ah b6 309 (av .u64 (replicate 8 0))::ah b4 309 (av .u64 s)::F)
   (fun t=>t.1≤80∧t.2.Ok 18446744073709551616∧yK 18446744073709551616 s1F s0F (ks.drop t.1) (ws.drop t.1) t.2=Ro) (fun t=>80-t.1) (0,O8.of s) ⟨zero_le _,O8.Ju aN RF,hRo.symm⟩ bC cO ?_
  rintro⟨i,a,b,c,d,e,f,g,h⟩ ⟨hi,ho,hq⟩;have jh:=ho;obtain⟨ha,hb,hc,ZB,he,hf,hg,hh⟩:=ho;dsimp only at hi hq ha hb hc ZB he hf hg hh ⊢;refine WC.sr (WL.val (V.zI (j:=80) (ak rfl) (ak rfl)) rfl ?_);refine aj "FH" (aW (fun h3=> ?_) fun h3=> ?_)
  ·simp only[cZ] at h3;rw[Io _ _ _ _ ay ay] at hq;refine aP "1u~HJ0J1" ?_;refine UA.call (vs:=[_,_]) 2 rfl call277 (fun _=>⟨ak rfl,ak rfl,trivial⟩) (fun H' hF=>iq (n:=14) he aN aN) ?_;refine aP "J3" ?_;refine UA.call (vs:=[_,_]) 4 rfl call277 (fun _=>⟨ak rfl,ak rfl,trivial⟩) (fun H' hF=>iq (n:=18) he aN aN) ?_;refine UA.val 5 rfl (fun _=>V.ru 64 (ak rfl) (ak rfl) (fun _=>⟨jO he,jO he⟩)) ?_;refine aP "J6" ?_;refine UA.call (vs:=[_,_]) 7 rfl call277 (fun _=>⟨ak rfl,ak rfl,trivial⟩) (fun H' hF=>iq (n:=41) he aN aN) ?_;refine UA.val 8 rfl (fun _=>V.ru 64 (ak rfl) (ak rfl) (fun _=>⟨xor_lt_two_pow (jO he) (jO he),jO he⟩)) ?_;refine aP "~~b9J:J;" ?_;refine UA.val 12 rfl (fun _=>V.CY 64 (ak rfl) (ak rfl)) ?_;refine aP "J=" ?_;refine UA.val 14 rfl (fun _=>V.ajX (M:=18446744073709551616) (ak rfl)) ?_;refine aP "J?" ?_;refine UA.val 16 rfl (fun _=>V.CY 64 (ak rfl) (ak rfl)) ?_;refine UA.val 17 rfl (fun _=>V.ru 64 (ak rfl) (ak rfl)) ?_;refine aP "~~bBJCJD~~9E~RF" ?_;refine UA.val 23 rfl (fun _=>V.d9 (v:= .int .u64 ((ks.getD i 0:Nat):Int)) isAgg306 (ak rfl) (fun _=>(hr i h3).up.up.up)) ?_;refine aP "~~bHJI~RJ~wK~~bL)M|" fun bs4=> ?_;simp only[map_cons,map_nil,cons_append,nil_append];refine aj "e" ?_;refine WL.t2 call277 rfl rfl (iq (n:=28) ha aN aN) rfl ?_;refine WL.mv rfl rfl (WL.t2 call277 rfl rfl (iq (n:=34) ha aN aN) rfl ?_);refine WL.val (V.ru 64 (ak rfl) (ak rfl) (fun _=>⟨jO ha,jO ha⟩)) rfl ?_;refine WL.mv rfl rfl (WL.t2 call277 rfl rfl (iq (n:=39) ha aN aN) rfl ?_);refine WL.val (V.ru 64 (ak rfl) (ak rfl) (fun _=>⟨xor_lt_two_pow (jO ha) (jO ha),jO ha⟩)) rfl ?_;refine aP "z~~[z~~[" ?_;refine WL.val (V.ru 64 (ak rfl) (ak rfl)) rfl (aP "z~~[" ?_);refine WL.val (V.ru 64 (ak rfl) (ak rfl)) rfl (aP "~TgP~Tzzc~Tzclllllllgp>=" ?_);refine⟨(i+1,Ui 18446744073709551616 s1F s0F ⟨a,b,c,d,e,f,g,h⟩ (ks.getD i 0) (ws.getD i 0)),⟨by show i+1≤80;omega,Vt aN _ _ jh _ _,hq⟩,(by show 80-(i+1)<80-i;omega), ?_,fun w h=>h⟩;rw[MV];exact .cons rfl bC
  ·simp only[cZ] at h3;refine aj "WM" ?_;obtain rfl:i=80:=by omega
   rw[←vX,drop_length] at hq;have hq:O8.mk a b c d e f g h=Ro:=hq;rw[←hq];refine aj "hzzzc" ?_;refine WL.val (V.lX (l:=O8.list ⟨a,b,c,d,e,f,g,h⟩) (vs:=[(0,_),(1,_),(2,_),(3,_),(4,_),(5,_),(6,_),(7,_)]) ⟨ak rfl,ak rfl,ak rfl,ak rfl,ak rfl,ak rfl,ak rfl,ak rfl,trivial⟩ rfl (vP _ _ _ _ _ _ _ _)) rfl ?_;obtain⟨ad,had⟩:∃ad,ad=QD 18446744073709551616 s ⟨a,b,c,d,e,f,g,h⟩:=⟨_,rfl⟩;have abL:ad.length=8:=by rw[had];rfl
   obtain⟨ol,Gh⟩:∃ol,ol=O8.list ⟨a,b,c,d,e,f,g,h⟩:=⟨_,rfl⟩;have anl:ol.length=8:=by rw[Gh];rfl
   have ahD:∀k,k<8→(s.getD k 0+ol.getD k 0)%18446744073709551616=ad.getD k 0:=fun k hk=>by rw[Gh,had];exact KM hk
   rw[←had,←Gh];refine aj "N" ?_;refine WC.loop (σ:=Nat×List Nat) (fun t=>[(4,ptr b4 0),(6,ptr b6 0),(180,.agg (av .u64 ol).toArray),(181,.i ((t.1:Nat):Int))]) (fun t=>ah b7 307 (av .u64 ws)::ah b6 309 (av .u64 (replicate 8 0))::ah b4 309 (av .u64 t.2)::F)
    (fun t=>t.1≤8∧t.2=ad.take t.1++s.drop t.1) (fun t=>8-t.1) (0,s) ⟨zero_le _,rfl⟩ bC cO ?_
   rintro⟨i,st⟩ ⟨hi,dL⟩;dsimp only at hi dL ⊢;have qU:st.length=8:=by rw[dL,length_append,length_take,length_drop];omega
   refine aP "a~~nFH" (aW (fun h4=> ?_) fun h4=> ?_)
   ·simp only[cZ] at h4;have hsg:st.getD i 0=s.getD i 0:=by rw[dL];exact Qz abL mR h4
    refine aP "1~~olgh~F~Wc~T" ?_;rw[hsg,ahD i h4];refine aP "~F~vbp>=" ?_;exact⟨(i+1,_),⟨by show i+1≤8;omega,by dsimp only;rw[dL];exact Oy abL mR h4⟩,(by show 8-(i+1)<8-i;omega),.cons rfl bC,fun w h=>h⟩
   ·simp only[cZ] at h4;refine aj "W" ?_;obtain rfl:i=8:=by omega
    rw[take_of_length_le ay,drop_of_length_le ay,append_nil] at dL;rw[dL];refine aP "pAy2" ?_;exact aF.ret (H':=F) (bJ.one rfl (R1.dh (l:=ad) rfl ⟨isAgg309,sizeOf309⟩)) eO ⟨by rw[had],rfl⟩
structure Bs where
 A:Option Addr
 m:Nat
 cap:Nat
 l:List Nat
abbrev Bs.v(p:Bs):Value:= .slice p.A p.m p.cap
theorem Ie(q r n:Nat):aA 256 (lT q r n):=by
 intro x hx;simp only[lT,mem_append,mem_cons,mem_reverse,mem_replicate] at hx;rcases hx with ((rfl | ⟨_,rfl⟩) | ⟨_,rfl⟩) | hx
 ·decide
 ·decide
 ·decide
 ·exact bL aN _ _ x hx
theorem Rp(hq:0<q)(hr:8≤r):(n+(lT q r n).length)%q=0:=by
 have h1:(lT q r n).length=1+(q-1-(n+r)%q)+(r-8)+8:=by simp[lT,aI];omega
 have h2:(n+r)%q<q:=mod_lt _ hq;rw[h1,show n+(1+(q-1-(n+r)%q)+(r-8)+8)=n+r+(q-(n+r)%q) by omega];have h3:=div_add_mod (n+r) q;rw[show n+r+(q-(n+r)%q)=q*((n+r)/q)+q by omega,add_mod_right,mul_mod_right]
theorem yD(n:Nat):∀s:List Nat,(s.flatMap fun x=>(bG 256 n x).reverse).length=n*s.length
 | []=>rfl
 | x::s=>by rw[flatMap_cons,length_append,yD n s,length_reverse,aI,length_cons,Nat.mul_add,Nat.mul_one,Nat.add_comm]
theorem Mh(hk:k<n):(bG 256 n x).reverse.getD k 0=x/256^(n-1-k)%256:=by
 rw[getD,getElem?_reverse (by rw[aI];exact hk),aI,←bV 256 n x (n-1-k) ay];rfl
theorem DI(n:Nat):∀(s:List Nat) (i k:Nat),i<s.length→k<n→(s.flatMap fun x=>(bG 256 n x).reverse).getD (n*i+k) 0=s.getD i 0/256^(n-1-k)%256
 | [],_,_,h,_=>absurd h (not_lt_zero _)
 | x::s,0,k,_,hk=>by
  rw[flatMap_cons,Nat.mul_zero,Nat.zero_add,getD,getElem?_append_left (by rw[length_reverse,aI];exact hk)];exact Mh hk
 | x::s,i+1,k,h,hk=>by
  rw[flatMap_cons,getD,getElem?_append_right (by rw[length_reverse,aI,Nat.mul_add];omega),length_reverse,aI,show n*(i+1)+k-n=n*i+k by rw[Nat.mul_add];omega];exact DI n s i k (by simpa using h) hk
theorem Au(s data:List Nat):(xF s data).length=8:=by rw[LB];rfl
theorem MS(s data:List Nat):aA 18446744073709551616 (xF s data):=vW aN _ _
theorem TK{ps:List Bs}(hp:Seq K F P q 1 (ps.map Bs.v))(hb:∀p∈ps,Seq K F p.A p.m 1 (av .u8 p.l))(h8:aA 256 (ps.flatMap Bs.l))(hm:(ps.flatMap Bs.l).length≤100000000)(hq:q≤100) :
 aK prog 182 #[.slice P q cap] K F (.agg (av .u8 (oQ (ps.flatMap Bs.l))).toArray):=by
 have l7:ps.length=q:=by have :=hp.len;rwa [length_map,Nat.mul_one] at this
 refine aB.en func182 ntmps182 ?_;refine aP "ax" fun b2=> ?_;refine aj "RfkN" ?_;refine WC.loop (σ:=Nat×Option Addr×Nat) (fun s=>[(2,ptr b2 0),(3,.slice s.2.1 ((ps.take s.1).flatMap Bs.l).length s.2.2),(13,.slice P q cap),(14,.i ((q:Nat):Int)),(15,.i ((s.1:Nat):Int))]) (fun s=>aV (.slice s.2.1 ((ps.take s.1).flatMap Bs.l).length s.2.2) 5 1 ((ps.take s.1).flatMap Bs.l).length (av .u8 ((ps.take s.1).flatMap Bs.l))::ah b2 256 (av .u8 (replicate 64 0))::F)
  (fun s=>s.1≤q) (fun s=>q-s.1) (0,none,0) (zero_le _) bC (fun w h=>h.gI _ _) ?_
 rintro⟨i,A,cp⟩ hi;dsimp only at hi ⊢;refine aP "a~jFH" (aW (fun h0=> ?_) fun h0=> ?_)
 ·simp only[cZ] at h0;obtain⟨p,hpi⟩:∃p,p=ps[i]'ay:=⟨_,rfl⟩;have Bw:p∈ps:=by rw[hpi];exact getElem_mem _
  have hpb:=hb p Bw;have JO:p.l.length=p.m:=by have :=hpb.len;rwa [au,Nat.mul_one] at this
  have kr:Rd K F (P.map (·.add i)) p.v:=hp.rd i p.v (by rw[getElem?_map,getElem?_eq_getElem ay,←hpi];rfl);have Du:(ps.take (i+1)).flatMap Bs.l=(ps.take i).flatMap Bs.l++p.l:=by rw[take_succ_eq_append_getElem ay,flatMap_append,←hpi];simp
  have hlen:((ps.take i).flatMap Bs.l).length+p.m≤100000000:=by
   rw[←JO,←length_append,←Du];refine Nat.le_trans ?_ hm
   conv=>rhs;rw[←take_append_drop (i+1) ps]
   rw[flatMap_append,length_append];exact le_add_right _ _
  refine aj "Ia" ?_;refine WL.val (V.jW (v:=p.v) adb (ak rfl) (ak rfl) (hr:=fun _=>kr.up.up)) rfl ?_;refine WL.val (V.load (v:=p.v) isAgg34 (ak rfl) (fun _=>kr.up.up)) rfl ?_;refine aP "gP~4" fun A21 c21 akr ald=> ?_;refine aP "gp>=" ?_;refine⟨(i+1,A21,c21),(by show i+1≤q;omega),(by show q-(i+1)<q-i;omega), ?_,fun w h=> ?_⟩
  ·dsimp only;rw[Du,length_append,JO];exact .cons rfl bC
  ·dsimp only;rw[Du,length_append,JO];exact h
 ·simp only[cZ] at h0;refine aj "W" ?_;obtain rfl:i=q:=by omega
  rw[←l7,take_length];obtain⟨all,nT⟩:∃all,all=ps.flatMap Bs.l:=⟨_,rfl⟩;rw[←nT] at h8 hm ⊢;obtain⟨ks,uL⟩:∃ks,ks=Ka:=⟨_,rfl⟩;have vX:ks.length=80:=by rw[uL];decide
  obtain⟨hs0,hhs⟩:∃hs0,hs0=Sz:=⟨_,rfl⟩;have hhl:hs0.length=8:=by rw[hhs];decide
  have amX:aA 18446744073709551616 hs0:=by rw[hhs];unfold aA;decide
  refine WC.region ?_;refine WL.call (vs:=[]) call238 trivial (Kh.eq (v':= .agg (av .u64 ks).toArray) (by rw[uL])) rfl ?_;rintro _ H0 ⟨rfl,h0⟩;subst H0;refine WL.call (vs:=[]) call239 trivial (Ni.eq (v':= .agg (av .u64 hs0).toArray) (by rw[hhs])) rfl ?_;rintro _ H0 ⟨rfl,h0⟩;subst H0;refine aP "x" fun b6=> ?_;refine aP "x" fun b7=> ?_;refine aP "yybr" ?_;refine WL.c1 call240 rfl (TL (aV.seq (by rw[au,Nat.mul_one])).up.up hm) rfl ?_;rintro _ _ ⟨A',M,cap',hM,rfl,hMc,rfl⟩;obtain⟨pd,hpd⟩:∃pd,pd=all++lT 128 16 all.length:=⟨_,rfl⟩;have qY:aA 256 pd:=by rw[hpd];intro x hx;rcases mem_append.1 hx with h | h;exact h8 x h;exact Ie _ _ _ x h
  have hpz:pd.length%128=0:=by rw[hpd,length_append];exact Rp aN aN
  rw[←hpd] at hM;obtain⟨R,hR⟩:∃R,R=dz xF 128 (pd.length/128) pd hs0:=⟨_,rfl⟩;rw[←hpd];refine aj "gt" ?_;refine WC.loop (σ:=(Nat×Option Addr×Nat)×List Nat×List Nat) (fun t=>[(2,ptr b2 0),(6,ptr b6 0),(7,ptr b7 0),(8,.slice t.1.2.1 (128*t.1.1) t.1.2.2)]) (fun t=>ah b7 309 (av .u64 t.2.2)::aV (.slice A' M cap') 5 1 M (av .u8 pd)::ah b6 307 (av .u64 ks)::aV (.slice A all.length cp) 5 1 all.length (av .u8 all)::ah b2 256 (av .u8 (replicate 64 0))::F)
   (fun t=>(∀H,Sl.Seq K (aV (.slice A' M cap') 5 1 M (av .u8 pd)::H) t.1.2.1 (128*t.1.1) 1 (av .u8 t.2.1))∧128*t.1.1≤t.1.2.2∧aA 256 t.2.1∧t.2.2.length=8∧aA 18446744073709551616 t.2.2∧dz xF 128 t.1.1 t.2.1 t.2.2=R) (fun t=>t.1.1) ((pd.length/128,A',cap'),pd,hs0) ⟨fun H=>by
    show Sl.Seq K _ A' (128*(pd.length/128)) 1 _;rw[show 128*(pd.length/128)=M by omega];exact aV.seq (by rw[au,hM,Nat.mul_one]),by show 128*(pd.length/128)≤cap';omega,qY,hhl,amX,hR.symm⟩ (.cons rfl (.cons rfl (.cons rfl (.cons (look_eq rfl (by congr 1<;>(dsimp only;omega))) (.nil _))))) (fun w h=>h.bg 5 [1,0,2,3,4] rfl) ?_
  rintro⟨⟨r,A8,c8⟩,dt,st⟩ ⟨Om,JJ,Zn,qU,Nc,GL⟩;dsimp only at Om JJ Zn qU Nc GL ⊢;have wF:dt.length=128*r:=by have :=(Om []).len;rwa [au,Nat.mul_one] at this
  refine aP "rk~^i" (aW (fun h1=> ?_) fun h1=> ?_)
  ·simp only[cZ] at h1;obtain⟨r,rfl⟩:∃k,r=k+1:=⟨r-1,by omega⟩;rw[dz] at GL;refine aj "I" ?_;have BI:=Au st (dt.take 128);refine WC.BZ 1 rfl ?_;refine UA.Ru 0 rfl (fun _=>V.jd ⟨isAgg309,sizeOf309⟩ (ak rfl)) ?_;refine aP "J1" ?_;refine UA.val 2 rfl (fun _=>V.aG (v':= .slice A8 128 c8) (V.slice (m:=128*(r+1)) (cap:=c8) (l:=0) (h:=128) (u:=c8) dO (ak rfl) OO.none (OO.some (ak rfl) (fun _=>rfl)) OO.none (by simp) ay ay ay) (fun _=>by rw[zK,Nat.sub_zero,Nat.sub_zero])) ?_;refine UA.call (vs:=[_,_,_]) 3 rfl call241 (fun _=>⟨ak rfl,ak rfl,ak rfl,trivial⟩) (fun H' hF=>MC (s:=st) (data:=dt.take 128) (A:=A8) (fun i hi=>by
    have h5:Rd K (ah b6 307 (av .u64 ks)::aV (.slice A all.length cp) 5 1 all.length (av .u8 all)::ah b2 256 (av .u8 (replicate 64 0))::F) (some ⟨b6,i,none⟩) (.int .u64 ((ks.getD i 0:Nat):Int)):=Rd.nat ay;rw[←uL];exact fun w hw=>h5.up w (hF w hw)) ((by have h6:=(Om (ah b6 307 (av .u64 ks)::aV (.slice A all.length cp) 5 1 all.length (av .u8 all)::ah b2 256 (av .u8 (replicate 64 0))::F)).take (show 128≤128*(r+1) by omega);rw[dU] at h6;exact h6.sat hF)) (fun x hx=>Zn x (mem_of_mem_take hx)) qU Nc ay) ?_
   refine UA.lI 4 rfl sizeOf309 (fun _=>ak rfl) (fun _=>ak rfl) ?_;refine aP "|" fun BS=> ?_;simp only[map_cons,map_nil,cons_append,nil_append];refine aj "h" ?_;refine WL.val (V.slice (m:=128*(r+1)) (cap:=c8) (l:=128) (h:=128*(r+1)) (u:=c8) dO (ak rfl) (OO.some (ak rfl) (fun _=>rfl)) OO.none OO.none (by simp) ay ay ay) rfl ?_;refine aj "X" ?_;refine⟨((r,_,c8-128),dt.drop 128,xF st (dt.take 128)),⟨fun H=> ?_,by show 128*r≤c8-128;omega,fun x hx=>Zn x (mem_of_mem_drop hx),Au _ _,MS _ _,GL⟩,(by show r<r+1;omega),.cons rfl (.cons rfl (.cons rfl (.cons (look_eq rfl (by congr 1<;>(dsimp only;omega))) (.nil _)))),fun w h=>h⟩;have h7:=Seq.rD (Om H) (l:=128) (h:=128*(r+1)) (u:=c8) ay (Nat.le_refl _) JJ;rw[take_of_length_le (by rw[length_drop];omega),show 128*(r+1)-128=128*r by omega] at h7;exact h7
  ·simp only[cZ] at h1;refine aj "W" ?_;obtain rfl:r=0:=by omega
   rw[dz] at GL;rw[GL] at qU ⊢;obtain⟨L,hL⟩:∃L,L=R.flatMap (fun x=>(bG 256 8 x).reverse):=⟨_,rfl⟩;have hLl:L.length=64:=by rw[hL,yD,qU]
   have hLg:∀i k,i<8→k<8→L.getD (8*i+k) 0=R.getD i 0/2^(56-8*k)%256:=fun i k hi hk=>by
    rw[hL,DI 8 R i k ay hk,show (2:Nat)^(56-8*k)=256^(8-1-k) by rw[show 56-8*k=8*(8-1-k) by omega,Nat.pow_mul]]
   have sW:oQ all=L:=by
    rw[hL,hR,hhs,hpd];rw[oQ,length_append]
   rw[sW];refine aP "px" fun b9=> ?_;refine aP "FaAN" ?_;refine WC.loop (σ:=Nat) (fun i=>[(2,ptr b2 0),(9,ptr b9 0),(36,.agg (av .u64 R).toArray),(37,.i ((i:Nat):Int))]) (fun i=>ah b9 256 (av .u8 (L.take (8*i)++replicate (64-8*i) 0))::ah b7 309 (av .u64 R)::aV (.slice A' M cap') 5 1 M (av .u8 pd)::ah b6 307 (av .u64 ks)::aV (.slice A all.length cp) 5 1 all.length (av .u8 all)::ah b2 256 (av .u8 (replicate 64 0))::F)
    (fun i=>i≤8) (fun i=>8-i) 0 (zero_le _) bC cO ?_
   rintro i hi;refine aP "a~~nFH" (aW (fun h2=> ?_) fun h2=> ?_)
   ·simp only[cZ] at h2;refine aP "1~~oljbt" ?_;refine WC.loop (σ:=Nat) (fun k=>[(2,ptr b2 0),(9,ptr b9 0),(36,.agg (av .u64 R).toArray),(37,.i ((i:Nat):Int)),(10,.i ((i:Nat):Int)),(11,.int .u64 ((R.getD i 0:Nat):Int)),(41,.i ((k:Nat):Int))]) (fun k=>ah b9 256 (av .u8 (L.take (8*i+k)++replicate (64-(8*i+k)) 0))::ah b7 309 (av .u64 R)::aV (.slice A' M cap') 5 1 M (av .u8 pd)::ah b6 307 (av .u64 ks)::aV (.slice A all.length cp) 5 1 all.length (av .u8 all)::ah b2 256 (av .u8 (replicate 64 0))::F)
     (fun k=>k≤8) (fun k=>8-k) 0 (zero_le _) bC cO ?_
    rintro k hk;have o7:(L.take (8*i+k)++replicate (64-(8*i+k)) 0).length=64:=by rw[length_append,length_take,length_replicate];omega
    refine aP "a~~nFH" (aW (fun h3=> ?_) fun h3=> ?_)
    ·simp only[cZ] at h3;refine aP "1gh~~cc~Sz~~c" ?_;refine WL.val (V.rD (i:=56) (ak rfl) (ak rfl)) rfl (aP "~8" ?_);refine WL.val (V.G6 (i:=R.getD i 0/2^(56-8*k)) (M:=256) runUnderlying306 runUnderlying5 (ak rfl)) rfl ?_;rw[←hLg i k h2 h3];refine aP "~F~vbp>=" ?_;refine⟨k+1,(by show k+1≤8;omega),(by show 8-(k+1)<8-k;omega),.cons rfl bC,fun w h=>Sat.aT h (by rw[qp hLl ay,Nat.add_assoc])⟩
    ·simp only[cZ] at h3;refine WC.exit ?_;obtain rfl:k=8:=by omega
     refine aP "p>=" ?_;exact⟨i+1,(by show i+1≤8;omega),(by show 8-(i+1)<8-i;omega),.cons rfl bC,fun w h=>h⟩
   ·simp only[cZ] at h2;refine aj "W" ?_;obtain rfl:i=8:=by omega
    rw[take_of_length_le ay,Nat.sub_self,replicate_zero,append_nil];refine aP "pAy2" ?_;exact aF.ret (H':=F) (bJ.one rfl (R1.dh (l:=L) rfl ⟨isAgg256,sizeOf256⟩)) eO ⟨rfl,rfl⟩
end Go.Proofs.YtcedojacbhnbiaaGreat
namespace Go.Sl
open Go Go.RowKit Go.Proofs.YtcedojacbhnbiaaGreat List Nat
theorem V.abP{T cap E:Nat}(hT:∀w,(underlying T).run P w= .ok (.array m E) w)(hx:OV c e x (.slice A q cap))(h:c=true→m≤q):eX Mo P K n c e H ⟨dst,.sliceToArrayPointer T x,ty,pos,af,gd⟩ (.pointer A):=fun hc a w ha _=>by
 show ((do pure (Next.value (←Instr.arrayAt T (a.eval x)))):Sem Next).run P w=_;rw[hx.ev hc ha];simp[Instr.arrayAt,hT w,Nat.not_lt.2 (h hc)]
theorem V.VD{Mo:Mode}{P:Program}{K:World}{n:Nat}{e:Env}{H:List aH}{c:Bool}{dst:Option Tmp}{ty:TypeId}{pos:String}{af:Array Edge}{gd:Option (Nat×Bool)}{x:Operand}{T s:Nat}{A:Option Addr}{k:IntKind}{l:List Nat}(hT:Ur P T s)(hx:OV c e x (.pointer A))(hr:c=true→Seq K H A s 1 (av k l))(hs:blt 0 s=true:=by rfl):eX Mo P K n c e H ⟨dst,.load T x,ty,pos,af,gd⟩ (.agg (av k l).toArray):=fun hc a w ha hw=>by
 show ((do pure (Next.value (←Instr.loadAt T (a.eval x)))):Sem Next).run P w=_;rw[hx.ev hc ha];have h0:=hr hc;have hlen:(av k l).length=s:=by have :=h0.len;rwa [Nat.mul_one] at this
 have hs0:0<s:=le_of_ble_eq_true hs;cases A with
 | none =>
  obtain⟨a',h1,_⟩:=h0.rd 0 ((av k l)[0]'ay) (getElem?_eq_getElem _) w hw;cases h1
 | some ad =>
  have h1:=run_loadCells_list (P:=P) w ad (av k l) (fun j v hj=>by
   obtain⟨a',h1,h2⟩:=h0.rd j v hj w hw;injection h1 with h1;subst h1;exact h2)
  subst hlen;simp[Instr.loadAt,Instr.sureAddr,loadVar,hT.1 w,hT.2 w,h1]
end Go.Sl
namespace Go.Proofs.YtcedojacbhnbiaaGreat
open Go.Sl Go.RowKit Tryz List Nat
set_option exponentiation.threshold 5000
theorem MU(l:List Nat):aA 256 (oQ l):=by
 intro x hx;unfold oQ at hx;obtain⟨y,_,hy⟩:=mem_flatMap.1 hx;exact bL aN _ _ x (mem_reverse.1 hy)
theorem FJ(hf:∀s d,(f s d).length=n):∀(k:Nat) (d s:List Nat),s.length=n→(dz f q k d s).length=n
 | 0,_,_,h=>h
 | k+1,d,s,_=>FJ hf k _ _ (hf _ _)
theorem TR(l:List Nat):(oQ l).length=64:=by
 rw[oQ,yD,FJ Au _ _ _ aN]
theorem R3(h:n<cL):n<115792089237316195423570985008687907853269984665640564039457584007913129639936:=Nat.lt_trans h Qs
theorem alN:fP<57896044618658097711785492504343953926634992332820282019728792003956564819968:=by decide
theorem ah1:adB p<115792089237316195423570985008687907853269984665640564039457584007913129639936:=by
 have h2:p.1%2<2:=mod_lt _ aN;rw[adB];rcases hb:uK p with _ | _
 ·rw[cond_false];exact Nat.pos_of_ne_zero (by simp)
 ·rw[cond_true];have h3:=Nat.lt_trans (oO hb).2 alN;obtain⟨x,hx⟩:∃x,x=p.1%2:=⟨_,rfl⟩;obtain⟨y,hy⟩:∃y,y=p.2:=⟨_,rfl⟩;rw[←hx,←hy];rw[←hx] at h2;rw[←hy] at h3;clear hx hy hb;omega
theorem Mt{ps:List Bs}(hp:Seq K F P q 1 (ps.map Bs.v))(hb:∀p∈ps,Seq K F p.A p.m 1 (av .u8 p.l))(h8:aA 256 (ps.flatMap Bs.l))(hm:(ps.flatMap Bs.l).length≤100000000)(hq:q≤100) :
 aK prog 145 #[.slice P q cap] K F (o8 (HV (ps.flatMap Bs.l))):=by
 obtain⟨L,hL⟩:∃L,L=oQ (ps.flatMap Bs.l):=⟨_,rfl⟩;have hLl:L.length=64:=by rw[hL,TR]
 have hLs:aA 256 L:=by rw[hL];exact MU _
 rw[HV,←hL];refine aB.en func145 ntmps145 ?_;refine aP "ax" fun b2=> ?_;refine aj "be" ?_;refine WL.t1 call182 rfl ((TK (hp.up) (fun p h=>(hb p h).up) h8 hm hq).eq (v':= .agg (av .u8 L).toArray) (by rw[hL])) rfl ?_;refine aP "x" fun b3=> ?_;refine aP "yR" ?_;refine WL.val (V.kM afb (ak rfl)) rfl (WL.t1 call208 rfl (J6 (Seq.pz hLl) hLs aN) rfl ?_);refine aP "y2" ?_;exact aF.ret (H':=F) (bJ.one rfl (R1.dh (l:=bG 256 32 _) rfl ⟨isAgg97,sizeOf97⟩)) eO ⟨rfl,rfl⟩
theorem acU(hn:n<115792089237316195423570985008687907853269984665640564039457584007913129639936):aK prog 116 #[o8 n] K F (o8 (Wo n)):=by
 rw[Wo];refine aB.en func116 ntmps116 ?_;refine aj "a+" fun b1=> ?_;refine aP "x" fun b2=> ?_;refine aP "F~H" ?_;refine UA.val 0 rfl (fun _=>V.kM zJ (ak rfl)) ?_;refine UA.call (vs:=[]) 1 rfl call147 (fun _=>trivial) (fun H' hF=>Sn) ?_;refine UA.call (vs:=[_,_]) 2 rfl call146 (fun _=>⟨ak rfl,ak rfl,trivial⟩) (fun H' hF=>(ES ((Seq.pz (jl _)).up.sat hF) (bL aN _ _) aN (p:=cB) ⟨by decide,by decide⟩).eq (v':= .tuple #[pt (nN n 32 cB),.i ((if uK cB then 0 else 170:Nat):Int)]) (by rw[yA hn])) ?_;refine aP "J3~34~35" ?_;refine UA.alloc 6 rfl zeroValue219 (cs:=av .u8 (replicate 64 0)) rfl ?_;refine aP "~~])8|" fun BS=> ?_;simp only[map_cons,map_nil,cons_append,nil_append];refine aP "aA" ?_;refine WL.t1 call184 rfl (agG (Sr (Lf _ _ _))) rfl ?_;refine aP "6x" fun b5=> ?_;refine aP "yvAy2" ?_;exact aF.ret (H':=F) (bJ.one rfl (R1.dh (l:=bG 256 32 _) rfl ⟨isAgg97,sizeOf97⟩)) eO ⟨rfl,rfl⟩
theorem aeO:aB prog 115 #[o8 seed] K F (fun v H'=>∃b,v= .tuple #[o8 (Nv seed).1,.slice (some ⟨b,32,none⟩) 32 32]∧H'=ah b 256 (av .u8 (oQ (bG 256 32 seed)))::F):=by
 obtain⟨L,hL⟩:∃L,L=oQ (bG 256 32 seed):=⟨_,rfl⟩;have hLl:L.length=64:=by rw[hL,TR]
 have hLs:aA 256 L:=by rw[hL];exact MU _
 have anz:(Nv seed).1=agP (vl 256 (L.take 32)):=by rw[hL];rfl
 rw[anz,←hL];obtain⟨x,hx⟩:∃x,x=vl 256 (L.take 32):=⟨_,rfl⟩;have htl:(L.take 32).length=32:=by rw[length_take];omega
 have hts:aA 256 (L.take 32):=fun y hy=>hLs y (mem_of_mem_take hy);have hxd:bG 256 32 x=L.take 32:=by rw[hx,ng hts htl]
 have uI:x<115792089237316195423570985008687907853269984665640564039457584007913129639936:=by have :=nH hts;rw[htl,←hx] at this;exact this
 rw[←hx];refine aB.en func115 ntmps115 ?_;refine aj "a+" fun b1=> ?_;refine aP "x" fun b2=> ?_;refine aj "v" ?_;refine WL.val (V.kM zJ (ak rfl)) rfl ?_;refine WL.buildSlice (E:=34) (cs:=[_]) (vs:=[(0,_)]) ⟨ak rfl,trivial⟩ rfl (Lv _ _ _) rfl (fun b6=> ?_);refine WL.t1 call182 rfl ((TK (ps:=[⟨some ⟨b1,0,none⟩,32,32,bG 256 32 seed⟩]) (Seq.all rfl) (fun p hp=>by rcases mem_singleton.1 hp with rfl;exact (Seq.pz (jl _)).up.up) (by simpa using bL aN _ _) (by simp[aI]) aN).eq (v':= .agg (av .u8 L).toArray) (by rw[hL];simp)) rfl ?_;refine aP "x" fun b4=> ?_;refine aP "yF" ?_;refine WC.sub (Sub.refl _) (fun w h=>h.bg 4 [2,0] rfl) ?_;refine WC.vU 1 [3] rfl (by simp only[l8,mh,filter_cons,filter_nil,any_cons,any_nil,Nat.reduceBEq,Bool.or_false,Bool.or_true,Bool.not_true,Bool.not_false,if_true,if_false,Bool.false_eq_true];rfl) (by simp only[l8,mh,filter_cons,filter_nil,any_cons,any_nil,Nat.reduceBEq,Bool.or_false,Bool.or_true,Bool.not_true,Bool.not_false,if_true,if_false,Bool.false_eq_true];rfl) ?_;refine UA.val 0 rfl (fun _=>V.acu (h:=32) afb (ak rfl) (OO.some (ak rfl) (fun _=>rfl)) aN) ?_;refine UA.val 1 rfl (fun _=>V.ai5 runUnderlying97 (ak rfl) (fun _=>by decide)) ?_;refine UA.val 2 rfl (fun _=>V.fE (vs:=av .u8 (bG 256 32 x)) ⟨isAgg97,sizeOf97⟩ (ak rfl) rfl (fun _=>by rw[hxd];exact fH.here (by rw[drop_zero,←dU];exact take_prefix _ _))) ?_;refine UA.call (vs:=[_]) 3 rfl call183 (fun _=>⟨ak rfl,trivial⟩) (fun H' hF=>ae2 uI) ?_;refine UA.val 4 rfl (fun _=>V.acr (l:=32) afb (ak rfl) (OO.some (ak rfl) (fun _=>rfl)) aN) ?_;refine UA.lI 5 rfl sizeOf97 (fun _=>ak rfl) (fun _=>ak rfl) ?_;refine aP ")6|" fun BS=> ?_;simp only[map_cons,map_nil,cons_append,nil_append];refine WC.ret ?_;exact aF.ret (H':=ah b4 256 (av .u8 L)::F) (bJ.two rfl (R1.dh (l:=bG 256 32 (agP x)) rfl ⟨isAgg97,sizeOf97⟩) (R1.tmp rfl)) (fun w h=>h.bg 2 [1] rfl) ⟨b4,rfl,rfl⟩
end Go.Proofs.YtcedojacbhnbiaaGreat
namespace Go.Sl
open Go Go.RowKit Go.BigFrame Go.Proofs.YtcedojacbhnbiaaGreat List Nat
theorem WL.agd{T':Nat}(hT:fq P T E 1)(hx:OV true e x (.slice (some ⟨b,o,none⟩) dl dc))(hy:OV true e y (.slice B q cap'))
 (hn:Seq K H B q 1 news) (hl:q≤dl) (h1:∀v∈news,v.oneCell'=true) (hu:bT K H b o news H') (hd:blt d n=true)
 (h:WL Mo P K n ops rest Q ((d,.i (q:Int))::e) H'):WL Mo P K n ops (⟨some d,.call ⟨.builtin .copy,#[x,y],#[T,T']⟩,ty,pos,af,none⟩::rest) Q e H:=by
 refine WL.RQ (R:=fun v ou=>v= .i (q:Int)∧ou=H') (fun a w ha hw=> ?_) hd (fun v ou ⟨e1,e2⟩=>by subst e1 e2;exact h);obtain⟨k1,k2⟩:=hu.run (P:=P) hw h1;refine⟨_,_,H', ?_,k2,rfl,rfl⟩;have hlen:news.length=q:=by rw[hn.len,Nat.mul_one]
 have hm:q.min dl=q:=Nat.min_eq_left hl;rw[execOp_builtin,builtin_copy];have Km:=hx.ev rfl ha;have Qt:=hy.ev rfl ha;have hf:(Builtin.firstCells 1 q (.slice B q cap')).run P w= .ok news.toArray w:=by
  cases B with
  | none =>
   have :news=[]:=by
    cases news with
    | nil=>rfl
    | cons u us=>obtain⟨p,h1,_⟩:=hn.rd 0 u rfl w hw;simp at h1
   subst this;rfl
  | some pb =>
   have :=run_loadCells_list (P:=P) w pb news (fun j v hj=>by
    obtain⟨p,h1,h2⟩:=hn.cell hw hj;simp at h1;subst h1;exact h2)
   rw[hlen] at this
   simpa [Builtin.firstCells] using this
 simp[Builtin.copy_,Km,Qt,hT.1 w,hT.2 w,Builtin.lenOf,hm,hf,k1,goInt]
theorem bT.part(h:o+news.length≤l.length)(he:l.take o++news++l.drop (o+news.length)=l'):bT K (ah b T (av k l)::H) b o (av k news) (ah b T (av k l')::H):=by grind [bT.here,au,ble_eq_true_of_le,mD,dU,kQ,dx]
end Go.Sl
namespace Go.Proofs.YtcedojacbhnbiaaGreat
open Go.Sl Go.RowKit Tryz List Nat
set_option exponentiation.threshold 5000
theorem aeM(seed:Nat):(Nv seed).1<115792089237316195423570985008687907853269984665640564039457584007913129639936:=by
 show agP _<_;unfold agP;omega
theorem aaT(l:List Nat):HV l<115792089237316195423570985008687907853269984665640564039457584007913129639936:=R3 (mod_lt _ aN)
theorem ac6(n:Nat):Wo n<115792089237316195423570985008687907853269984665640564039457584007913129639936:=ah1
theorem ahF:aK prog 56 #[o8 seed] K F (o8 (Ms seed)):=by
 refine aB.en func56 ntmps56 ?_;refine aj "a+" fun b1=> ?_;refine aP "x" fun b2=> ?_;refine aP "RA" ?_;refine WL.c1 call115 rfl (aeO) rfl ?_;rintro _ _ ⟨bs,rfl,rfl⟩;refine aP "6x" fun b3=> ?_;refine aP "yvA" ?_;refine WL.t1 call116 rfl (acU (aeM seed)) rfl ?_;refine aP "y2" ?_;exact aF.ret (H':=F) (bJ.one rfl (R1.dh (l:=bG 256 32 (Wo (Nv seed).1)) rfl ⟨isAgg97,sizeOf97⟩)) eO ⟨rfl,rfl⟩
theorem ajM(hs:Seq K F A m 1 (av .u8 msg))(h8:aA 256 msg)(hm:m≤10000000):aK prog 181 #[o8 seed,.slice A m cap] K F (.agg (av .u8 (bG 256 32 (Vg seed msg).1++bG 256 32 (Vg seed msg).2)).toArray):=by
 have Oa:msg.length=m:=by have :=hs.len;rwa [au,Nat.mul_one] at this
 obtain⟨L,hL⟩:∃L,L=oQ (bG 256 32 seed):=⟨_,rfl⟩;have hLl:L.length=64:=by rw[hL,TR]
 have hLs:aA 256 L:=by rw[hL];exact MU _
 obtain⟨a,ha⟩:∃a,a=(Nv seed).1:=⟨_,rfl⟩;have hal:a<115792089237316195423570985008687907853269984665640564039457584007913129639936:=by rw[ha];exact aeM seed
 obtain⟨nn,hnn⟩:∃nn,nn=HV (L.drop 32++msg):=⟨_,rfl⟩;have Ws:nn<115792089237316195423570985008687907853269984665640564039457584007913129639936:=by rw[hnn];exact aaT _
 obtain⟨r,hr⟩:∃r,r=Wo nn:=⟨_,rfl⟩;obtain⟨pu,hpu⟩:∃pu,pu=Wo a:=⟨_,rfl⟩;obtain⟨k,hk⟩:∃k,k=HV (bG 256 32 r++bG 256 32 pu++msg):=⟨_,rfl⟩;have vX:k<115792089237316195423570985008687907853269984665640564039457584007913129639936:=by rw[hk];exact aaT _
 have e1:(Vg seed msg).1=r:=by rw[hr,hnn,hL];rfl
 have e2:(Vg seed msg).2=(k*a+nn)%cL:=by rw[hk,hr,hpu,ha,hnn,hL];rfl
 rw[e1,e2];refine aB.en func181 ntmps181 ?_;refine aj "a+" fun b2=> ?_;refine aP "x" fun b4=> ?_;refine aP "RA" ?_;refine WL.c1 call115 rfl (aeO) rfl ?_;rintro _ _ ⟨bs,rfl,rfl⟩;rw[←ha,←hL];have JI:∀H,Sl.Seq K (ah bs 256 (av .u8 L)::H) (some ⟨bs,32,none⟩) 32 1 (av .u8 (L.drop 32)):=fun H=>by
  have h0:=Seq.rD (l:=32) (h:=64) (u:=64) (Seq.pz (K:=K) (H:=H) (b:=bs) (T:=256) (k:= .u8) (m:=64) (l:=L) hLl) aN aN aN;rw[take_of_length_le (by rw[length_drop];omega)] at h0;exact h0
 refine aP "6x" fun b5=> ?_;refine aP "yvA" ?_;refine WL.t1 call116 rfl ((acU hal).eq (v':=o8 pu) (by rw[hpu])) rfl ?_;refine aP "x" fun b7=> ?_;refine aP "ybec" ?_;refine WL.buildSlice (E:=34) (cs:=[_,_]) (vs:=[(0,_),(1,_)]) ⟨ak rfl,ak rfl,trivial⟩ rfl (afk _ _ _ _ _ _) rfl (fun QB=> ?_);refine WL.c1 call145 rfl ((Mt (ps:=[⟨some ⟨bs,32,none⟩,32,32,L.drop 32⟩,⟨A,m,cap,msg⟩]) (Seq.all rfl) (fun p hp=>by
  simp only[mem_cons,not_mem_nil,or_false] at hp;rcases hp with rfl | rfl
  ·repeat (first | exact JI _ | apply Seq.up)
  ·repeat (first | exact hs | apply Seq.up)) (by
  intro x hx;simp only[flatMap_cons,flatMap_nil,append_nil,mem_append] at hx;rcases hx with h | h
  ·exact hLs x (mem_of_mem_drop h)
  ·exact h8 x h) (by simp only[flatMap_cons,flatMap_nil,append_nil,length_append,length_drop];omega) aN).eq (v':=o8 nn) (by rw[hnn];simp)) rfl ?_
 rintro _ H0 ⟨rfl,h0⟩;subst H0;refine aP "x" fun b8=> ?_;refine aP "yRA" ?_;refine WL.t1 call116 rfl ((acU Ws).eq (v':=o8 r) (by rw[hr])) rfl ?_;refine aP "x" fun b9=> ?_;refine aP "yF~Z" ?_;refine WA.t 0 rfl (V.kM zJ (ak rfl)) ?_;refine WA.t 1 rfl (V.kM zJ (ak rfl)) ?_;refine aj "m2" ?_;refine WA.two (i:=3) (j:=5) cO (by kernel_rfl) rfl rfl ?_ ?_
 ·refine WL.buildSlice (E:=34) (cs:=[_,_,_]) (vs:=[(0,_),(1,_),(2,_)]) ⟨ak rfl,ak rfl,ak rfl,trivial⟩ rfl (zW _ _ _ _ _ _ _ _ _) rfl (fun Va=> ?_);refine WL.nil ?_;refine WA.two (i:=4) (j:=5) eO (by kernel_rfl) rfl rfl ?_ ?_
  ·refine WL.c1 call145 rfl ((Mt (ps:=[⟨some ⟨b9,0,none⟩,32,32,bG 256 32 r⟩,⟨some ⟨b7,0,none⟩,32,32,bG 256 32 pu⟩,⟨A,m,cap,msg⟩]) (by repeat (first | exact Seq.all rfl | apply Seq.up)) (fun p hp=>by
    simp only[mem_cons,not_mem_nil,or_false] at hp;rcases hp with rfl | rfl | rfl
    ·repeat (first | exact Seq.pz (jl _) | apply Seq.up)
    ·repeat (first | exact Seq.pz (jl _) | apply Seq.up)
    ·repeat (first | exact hs | apply Seq.up)) (by
    intro x hx;simp only[flatMap_cons,flatMap_nil,append_nil,mem_append] at hx;rcases hx with h | h | h
    ·exact bL aN _ _ x h
    ·exact bL aN _ _ x h
    ·exact h8 x h) (by simp only[flatMap_cons,flatMap_nil,append_nil,length_append,aI];omega) aN).eq (v':=o8 k) (by rw[hk];simp)) rfl ?_
   rintro _ H0 ⟨rfl,h0⟩;subst H0;refine aP "bn5x" fun b10=> ?_;refine aP "bn6ybOaAAA" ?_;refine WL.t3 call237 rfl rfl rfl (aaY vX hal Ws) rfl ?_;refine aP "x" fun b11=> ?_;refine aP "yRx" fun b12=> ?_;refine aP "F~X" ?_;refine WA.t 0 rfl (V.acu (h:=32) afb (ak rfl) (OO.some (ak rfl) (fun _=>rfl)) aN) ?_;refine WA.t 1 rfl (V.kM zJ (ak rfl)) ?_;refine WA.o 2 rfl ?_;refine WL.agd (T:=34) (q:=32) (news:=av .u8 (bG 256 32 r)) dO (ak rfl) (ak rfl) (by repeat (first | exact Seq.pz (jl _) | apply Seq.up)) aN (jB _ _) (bT.part (l':=bG 256 32 r++replicate 32 0) (by rw[aI,length_replicate];decide) (by rw[aI,take_zero,nil_append,drop_replicate])) rfl ?_;refine aP "bOM~X" ?_;refine WA.t 0 rfl (V.acr (l:=32) afb (ak rfl) (OO.some (ak rfl) (fun _=>rfl)) aN) ?_;refine WA.t 1 rfl (V.kM zJ (ak rfl)) ?_;refine WA.o 2 rfl ?_;refine WL.agd (T:=34) (q:=32) (news:=av .u8 (bG 256 32 ((k*a+nn)%cL))) dO (ak rfl) (ak rfl) (by repeat (first | exact Seq.pz (jl _) | apply Seq.up)) aN (jB _ _) (bT.part (l':=bG 256 32 r++bG 256 32 ((k*a+nn)%cL)) (by rw[aI,length_append,aI,length_replicate];decide) (by rw[take_left' (aI _ _ _),aI,drop_of_length_le (by rw[length_append,aI,length_replicate];decide),append_nil])) rfl ?_;refine aP "bOaAy2" ?_;exact aF.ret (H':=F) (bJ.one rfl (R1.dh (l:=bG 256 32 r++bG 256 32 ((k*a+nn)%cL)) rfl ⟨isAgg256,sizeOf256⟩)) eO ⟨rfl,rfl⟩
  ·refine aP "x" fun b10=> ?_;refine aj "bn4" ?_;refine WL.c1 call145 rfl ((Mt (ps:=[⟨some ⟨b9,0,none⟩,32,32,bG 256 32 r⟩,⟨some ⟨b7,0,none⟩,32,32,bG 256 32 pu⟩,⟨A,m,cap,msg⟩]) (by repeat (first | exact Seq.all rfl | apply Seq.up)) (fun p hp=>by
    simp only[mem_cons,not_mem_nil,or_false] at hp;rcases hp with rfl | rfl | rfl
    ·repeat (first | exact Seq.pz (jl _) | apply Seq.up)
    ·repeat (first | exact Seq.pz (jl _) | apply Seq.up)
    ·repeat (first | exact hs | apply Seq.up)) (by
    intro x hx;simp only[flatMap_cons,flatMap_nil,append_nil,mem_append] at hx;rcases hx with h | h | h
    ·exact bL aN _ _ x h
    ·exact bL aN _ _ x h
    ·exact h8 x h) (by simp only[flatMap_cons,flatMap_nil,append_nil,length_append,aI];omega) aN).eq (v':=o8 k) (by rw[hk];simp)) rfl ?_
   rintro _ H0 ⟨rfl,h0⟩;subst H0;refine aP "bn6ybOaAAA" ?_;refine WL.t3 call237 rfl rfl rfl (aaY vX hal Ws) rfl ?_;refine aP "x" fun b11=> ?_;refine aP "yRx" fun b12=> ?_;refine aP "F~X" ?_;refine WA.t 0 rfl (V.acu (h:=32) afb (ak rfl) (OO.some (ak rfl) (fun _=>rfl)) aN) ?_;refine WA.t 1 rfl (V.kM zJ (ak rfl)) ?_;refine WA.o 2 rfl ?_;refine WL.agd (T:=34) (q:=32) (news:=av .u8 (bG 256 32 r)) dO (ak rfl) (ak rfl) (by repeat (first | exact Seq.pz (jl _) | apply Seq.up)) aN (jB _ _) (bT.part (l':=bG 256 32 r++replicate 32 0) (by rw[aI,length_replicate];decide) (by rw[aI,take_zero,nil_append,drop_replicate])) rfl ?_;refine aP "bOM~X" ?_;refine WA.t 0 rfl (V.acr (l:=32) afb (ak rfl) (OO.some (ak rfl) (fun _=>rfl)) aN) ?_;refine WA.t 1 rfl (V.kM zJ (ak rfl)) ?_;refine WA.o 2 rfl ?_;refine WL.agd (T:=34) (q:=32) (news:=av .u8 (bG 256 32 ((k*a+nn)%cL))) dO (ak rfl) (ak rfl) (by repeat (first | exact Seq.pz (jl _) | apply Seq.up)) aN (jB _ _) (bT.part (l':=bG 256 32 r++bG 256 32 ((k*a+nn)%cL)) (by rw[aI,length_append,aI,length_replicate];decide) (by rw[take_left' (aI _ _ _),aI,drop_of_length_le (by rw[length_append,aI,length_replicate];decide),append_nil])) rfl ?_;refine aP "bOaAy2" ?_;exact aF.ret (H':=F) (bJ.one rfl (R1.dh (l:=bG 256 32 r++bG 256 32 ((k*a+nn)%cL)) rfl ⟨isAgg256,sizeOf256⟩)) eO ⟨rfl,rfl⟩
 ·refine aP "x" fun b10=> ?_;refine aj "bn3" ?_;refine WL.buildSlice (E:=34) (cs:=[_,_,_]) (vs:=[(0,_),(1,_),(2,_)]) ⟨ak rfl,ak rfl,ak rfl,trivial⟩ rfl (zW _ _ _ _ _ _ _ _ _) rfl (fun Va=> ?_);refine aj "bn4" ?_;refine WL.c1 call145 rfl ((Mt (ps:=[⟨some ⟨b9,0,none⟩,32,32,bG 256 32 r⟩,⟨some ⟨b7,0,none⟩,32,32,bG 256 32 pu⟩,⟨A,m,cap,msg⟩]) (by repeat (first | exact Seq.all rfl | apply Seq.up)) (fun p hp=>by
   simp only[mem_cons,not_mem_nil,or_false] at hp;rcases hp with rfl | rfl | rfl
   ·repeat (first | exact Seq.pz (jl _) | apply Seq.up)
   ·repeat (first | exact Seq.pz (jl _) | apply Seq.up)
   ·repeat (first | exact hs | apply Seq.up)) (by
   intro x hx;simp only[flatMap_cons,flatMap_nil,append_nil,mem_append] at hx;rcases hx with h | h | h
   ·exact bL aN _ _ x h
   ·exact bL aN _ _ x h
   ·exact h8 x h) (by simp only[flatMap_cons,flatMap_nil,append_nil,length_append,aI];omega) aN).eq (v':=o8 k) (by rw[hk];simp)) rfl ?_
  rintro _ H0 ⟨rfl,h0⟩;subst H0;refine aP "bn6ybOaAAA" ?_;refine WL.t3 call237 rfl rfl rfl (aaY vX hal Ws) rfl ?_;refine aP "x" fun b11=> ?_;refine aP "yRx" fun b12=> ?_;refine aP "F~X" ?_;refine WA.t 0 rfl (V.acu (h:=32) afb (ak rfl) (OO.some (ak rfl) (fun _=>rfl)) aN) ?_;refine WA.t 1 rfl (V.kM zJ (ak rfl)) ?_;refine WA.o 2 rfl ?_;refine WL.agd (T:=34) (q:=32) (news:=av .u8 (bG 256 32 r)) dO (ak rfl) (ak rfl) (by repeat (first | exact Seq.pz (jl _) | apply Seq.up)) aN (jB _ _) (bT.part (l':=bG 256 32 r++replicate 32 0) (by rw[aI,length_replicate];decide) (by rw[aI,take_zero,nil_append,drop_replicate])) rfl ?_;refine aP "bOM~X" ?_;refine WA.t 0 rfl (V.acr (l:=32) afb (ak rfl) (OO.some (ak rfl) (fun _=>rfl)) aN) ?_;refine WA.t 1 rfl (V.kM zJ (ak rfl)) ?_;refine WA.o 2 rfl ?_;refine WL.agd (T:=34) (q:=32) (news:=av .u8 (bG 256 32 ((k*a+nn)%cL))) dO (ak rfl) (ak rfl) (by repeat (first | exact Seq.pz (jl _) | apply Seq.up)) aN (jB _ _) (bT.part (l':=bG 256 32 r++bG 256 32 ((k*a+nn)%cL)) (by rw[aI,length_append,aI,length_replicate];decide) (by rw[take_left' (aI _ _ _),aI,drop_of_length_le (by rw[length_append,aI,length_replicate];decide),append_nil])) rfl ?_;refine aP "bOaAy2" ?_;exact aF.ret (H':=F) (bJ.one rfl (R1.dh (l:=bG 256 32 r++bG 256 32 ((k*a+nn)%cL)) rfl ⟨isAgg256,sizeOf256⟩)) eO ⟨rfl,rfl⟩
end Go.Proofs.YtcedojacbhnbiaaGreat
