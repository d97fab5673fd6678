import Derived.Test.YtcedojacbhnbiaaGreatP10
set_option linter.unusedSimpArgs false
set_option linter.unusedVariables false
set_option maxHeartbeats 2000000
set_option maxRecDepth 20000
namespace Go.Proofs.YtcedojacbhnbiaaGreat
open Go.Sl Go.RowKit Tryz List Nat
theorem Rs{V P A c b d b' x w:Nat}(h:V+b*P=2*A+c)(hd:d+b'*w=2*x+b):V+P*d+b'*(P*w)=2*(A+P*x)+c:=by grind
theorem LG{B:Nat}:∀ {l:List Nat},(∀j,l.getD j 0=0)→vl B l=0
 | [],_=>rfl
 | x::l,h=>by
  have h0:x=0:=h 0;have h1:=LG (B:=B) (l:=l) fun j=>h (j+1);rw[vl,h0,h1];simp
theorem getD_drop(l:List Nat)(i j:Nat):(l.drop i).getD j 0=l.getD (i+j) 0:=by simp[getD]
section
variable{K:World}{F:List aA}
theorem Um{A:Option Addr}{m cap n bit:Nat}(hs:Seq K F A m 1 (av .u64 (bH 18446744073709551616 m n)))(hn:n<18446744073709551616^m)(hm:m≤900)(hb:bit≤1):aC prog 301 #[.slice A m cap,.int .u64 ((bit:Nat):Int)] K F (fun v H'=>∃r:Rw,r.Ok∧r.n=2*n+bit∧v=r.v∧H'=r.A::F):=by
 have hW:18446744073709551616^(m+1)=18446744073709551616^m*18446744073709551616:=Nat.pow_succ ..;have e0:bH 18446744073709551616 m n++replicate 1 0=bH 18446744073709551616 (m+1) n:=by
  have h1:=Hg (B:=18446744073709551616) (i:=m) (k:=m+1) (n:=n) aK ay;rw[mod_eq_of_lt hn,show m+1-m=1 by omega] at h1;exact h1.symm
 refine aC.en func301 ntmps301 ?_;refine aP "ajo<" ?_;refine WL.VH underlying330 VY (ak rfl) (ak rfl) (fun b10=> ?_);refine aj "0" ?_;refine WL.zm LK (ak rfl) (ak rfl) (by repeat (first | exact hs | apply Seq.up)) ay (kE _ _) (dw.front (by rw[au,au,aH,length_replicate];omega)) rfl ?_;refine aj "broP" ?_;refine WC.loop (σ:=Nat×List Nat×Nat) (fun s=>[(1,.int .u64 ((s.2.2:Nat):Int)),(5,.slice (some ⟨b10,0,none⟩) (m+1) (m+1)),(15,.i ((m+1:Nat):Int)),(16,.i ((s.1:Nat):Int))]) (fun s=>ah b10 306 (av .u64 s.2.1)::F)
  (fun s=>s.1≤m+1∧s.2.1.length=m+1∧aB 18446744073709551616 s.2.1∧s.2.2≤1∧(∀j,s.1≤j→s.2.1.getD j 0=(bH 18446744073709551616 (m+1) n).getD j 0)∧vl 18446744073709551616 (s.2.1.take s.1)+s.2.2*18446744073709551616^s.1=2*(n%18446744073709551616^s.1)+bit) (fun s=>m+1-s.1) (0,bH 18446744073709551616 (m+1) n,bit) ⟨zero_le _,aH _ _ _,bJ aK _ _,hb,fun _ _=>rfl,by simp[vl,mod_one]⟩ bM (fun w h=>Sat.aS h (by rw[au,aH,kT,drop_replicate,show m+1-m=1 by omega,←dA,e0])) ?_
 rintro⟨i,ws,b⟩ ⟨hi,hl,pY,Hr,he,hv⟩;dsimp only at hi hl pY Hr he hv ⊢;refine aP "a~fBE" (aX (fun aN=> ?_) fun aN=> ?_)
 ·simp only[dh] at aN;have zO:n/18446744073709551616^i%18446744073709551616<18446744073709551616:=mod_lt _ aK;have hwi:ws.getD i 0=n/18446744073709551616^i%18446744073709551616:=by rw[he i (Nat.le_refl _),bW _ _ _ _ aN]
  have OY:ws.getD i 0<18446744073709551616:=by rw[hwi];exact zO
  refine aj "1g" ?_;refine WC.vG 1 [1] rfl (by simp only[mP,mW,filter_cons,filter_nil,any_cons,any_nil,Nat.reduceBEq,Bool.or_false,Bool.or_true,Bool.not_true,Bool.not_false,if_true,if_false,Bool.false_eq_true];rfl) (by simp only[mP,mW,filter_cons,filter_nil,any_cons,any_nil,Nat.reduceBEq,Bool.or_false,Bool.or_true,Bool.not_true,Bool.not_false,if_true,if_false,Bool.false_eq_true];rfl) ?_;refine aP "F0F1F2F3~%4~=5" ?_;refine UA.val 6 rfl (fun _=>V.Jk (j:=1) (M:=18446744073709551616) (ak rfl) (ak rfl)) ?_;refine UA.Pz 7 rfl (fun _=>V.move (ak rfl)) ?_;refine UA.val 8 rfl (fun _=>V.ZG (i:=ws.getD i 0*2^1%18446744073709551616) (j:=b) 64 (ak rfl) (ak rfl) (fun _=>⟨mod_lt _ aK,by omega⟩)) ?_;refine aP "F9F:~%;~=<" ?_;refine UA.val 13 rfl (fun _=>V.wO (j:=63) (ak rfl) (ak rfl)) ?_;refine aP "~%>" ?_;refine UA.at_ 15 rfl sizeOf306 (fun _=>ak rfl) (fun _=>ak rfl) ?_;refine aP "`@_" fun CJ=> ?_;simp only[map_cons,map_nil,cons_append,nil_append];refine aP "q<;" ?_;obtain⟨x,hx⟩:∃x,x=n/18446744073709551616^i%18446744073709551616:=⟨_,rfl⟩;rw[hwi,←hx];rw[←hx] at zO;have e1:x*2^1%18446744073709551616 ||| b=x%9223372036854775808*2+b:=by
   rw[show x*2^1%18446744073709551616=x%9223372036854775808*2^1 by omega,vT ay]
  rw[e1];refine⟨(i+1,_,x/2^63),⟨by show i+1≤m+1;omega,by show (ws.set i _).length=m+1;rw[length_set];exact hl,pY.set ay,(by dsimp only;omega),fun j hj=> ?_, ?_⟩,(by show m+1-(i+1)<m+1-i;omega),.cons rfl bM,fun w h=>h⟩
  ·dsimp only at hj ⊢;rw[getD_set_ne ay];exact he j ay
  ·dsimp only;rw[pz _ _ _ ay,mod_succ n,Nat.pow_succ,←hx];exact Rs hv ay
 ·simp only[dh] at aN;refine aj "W" ?_;obtain rfl:i=m+1:=by omega
  have hn1:n<18446744073709551616^(m+1):=by rw[hW];omega
  rw[take_of_length_le ay,mod_eq_of_lt hn1] at hv;have hvl:=nT pY;rw[hl] at hvl;have hp:0<18446744073709551616^m:=Nat.pow_pos aK;have hN:2*n+bit<18446744073709551616^(m+1):=by rw[hW];omega
  have hb0:b=0:=by
   rcases (show b=0∨b=1 by omega) with h | h
   ·exact h
   ·subst h;omega
  rw[hb0,Nat.zero_mul,Nat.add_zero] at hv;have e2:av .u64 ws=av .u64 (bH 18446744073709551616 (m+1) (2*n+bit)):=by rw[←hv,nJ pY hl]
  rw[e2];refine aj "h" ?_;refine WL.c1 call300 rfl (Qh ay (Nat.le_refl _) hN) rfl ?_;rintro _ _ ⟨r,hr,rn,rb,rL,rfl,rfl⟩;refine aj "d" ?_;exact qR (r.A::F) rfl rfl cu ⟨r,hr,rn,rfl,rfl⟩
theorem acL{b L m cap n:Nat}(hmL:m≤L)(hL:L≤1000)(hc:m≤cap)(hn:n<18446744073709551616^m):aC prog 300 #[.slice (some ⟨b,0,none⟩) m cap] K (ah b 306 (av .u64 (bH 18446744073709551616 L n))::F) (fun v H'=>∃r:Rw,r.Ok∧r.n=n∧r.b=b∧r.L=L∧v=r.v∧H'=r.A::F):=by
 refine (Je (ws:=bH 18446744073709551616 m n) (Seq.akP (aH _ _ _) (by rw[←Dz hmL];exact take_prefix _ _)) ay hc).mono ?_;rintro v H' ⟨rfl,m',rfl,h1,h2,h3⟩;refine⟨⟨b,L,m',cap,n⟩,⟨Nat.le_trans h1 hmL,hL,Nat.le_trans h1 hc, ?_,fun h=> ?_⟩,rfl,rfl,rfl,rfl,rfl⟩
 ·have h4:=nT (B:=18446744073709551616) (l:=(bH 18446744073709551616 m n).take m') (fun y hy=>bJ aK _ _ y (mem_of_mem_take hy));rw[h2,xO,mod_eq_of_lt hn,length_take,aH,Nat.min_eq_left h1] at h4;exact h4
 ·have h:0<m':=h;have h5:=h3 h;rw[bW _ _ _ _ ay] at h5;exact h5
theorem Yw{r:Rw}{B:Option Addr}{m2 cap2:Nat}{ys:List Nat}(hr:r.Ok)(rJ:Seq K F B m2 1 (av .u64 ys))(hy:aB 18446744073709551616 ys)(hle:vl 18446744073709551616 ys≤r.n) :
 aC prog 302 #[r.v,.slice B m2 cap2] K (r.A::F) (fun v H'=>∃r':Rw,r'.Ok∧r'.n=r.n-vl 18446744073709551616 ys∧v=r'.v∧H'=r'.A::F):=by
 obtain⟨b0,L,m,cap,n⟩:=r;obtain⟨hmL,hL,nO,oJ,alP⟩:=hr;dsimp only[Rw.v,Rw.A] at hmL hL nO oJ alP hle ⊢;obtain⟨y,hyy⟩:∃y,y=vl 18446744073709551616 ys:=⟨_,rfl⟩;rw[←hyy] at hle ⊢;refine aC.en func302 ntmps302 ?_;refine aj "axfoP" ?_;refine WC.loop (σ:=Nat×List Nat×Nat) (fun s=>[(0,.slice (some ⟨b0,0,none⟩) m cap),(1,.slice B m2 cap2),(5,.int .u64 ((s.2.2:Nat):Int)),(8,.i ((m:Nat):Int)),(9,.i ((s.1:Nat):Int))]) (fun s=>ah b0 306 (av .u64 s.2.1)::F)
  (fun s=>s.1≤m∧s.2.1.length=L∧aB 18446744073709551616 s.2.1∧s.2.2≤1∧(∀j,s.1≤j→s.2.1.getD j 0=(bH 18446744073709551616 L n).getD j 0)∧vl 18446744073709551616 (s.2.1.take s.1)+y%18446744073709551616^s.1=n%18446744073709551616^s.1+s.2.2*18446744073709551616^s.1) (fun s=>m-s.1) (0,bH 18446744073709551616 L n,0) ⟨zero_le _,aH _ _ _,bJ aK _ _,zero_le _,fun _ _=>rfl,by simp[vl,mod_one]⟩ bM cu ?_
 rintro⟨i,ws,b⟩ ⟨hi,hl,pY,Hr,he,hv⟩;dsimp only at hi hl pY Hr he hv ⊢;refine aP "a~fBE" (aX (fun aN=> ?_) fun aN=> ?_)
 ·simp only[dh] at aN;refine aj "1g" ?_;refine WC.vG 1 [5] rfl (by simp only[mP,mW,filter_cons,filter_nil,any_cons,any_nil,Nat.reduceBEq,Bool.or_false,Bool.or_true,Bool.not_true,Bool.not_false,if_true,if_false,Bool.false_eq_true];rfl) (by simp only[mP,mW,filter_cons,filter_nil,any_cons,any_nil,Nat.reduceBEq,Bool.or_false,Bool.or_true,Bool.not_true,Bool.not_false,if_true,if_false,Bool.false_eq_true];rfl) ?_;refine aP "F0F1F2F3~%4~=5F6F7" ?_;refine UA.call (vs:=[_,_]) 8 rfl call299 (fun _=>⟨ak rfl,ak rfl,trivial⟩) (fun H' hF=>TN (i:=i) (rJ.sat hF)) ?_;refine UA.Pz 9 rfl (fun _=>V.move (ak rfl)) ?_;refine UA.val 10 rfl (fun _=>V.ext (fun hc=>Ay _ _ _ ay) ⟨ak rfl,ak rfl,ak rfl,trivial⟩) ?_;refine aP "F;~W<~W=~%>" ?_;refine UA.at_ 15 rfl sizeOf306 (fun _=>ak rfl) (fun _=>ak rfl) ?_;refine aP "`@_" fun CJ=> ?_;simp only[map_cons,map_nil,cons_append,nil_append];refine aP "q<;" ?_;rw[he i (Nat.le_refl _),bW _ _ _ _ ay,EL aK hy,←hyy];have hxi:n/18446744073709551616^i%18446744073709551616<18446744073709551616:=mod_lt _ aK;have hyi:y/18446744073709551616^i%18446744073709551616<18446744073709551616:=mod_lt _ aK;refine⟨(i+1,_,if n/18446744073709551616^i%18446744073709551616<y/18446744073709551616^i%18446744073709551616+b then 1 else 0),⟨by show i+1≤m;omega,by show (ws.set i _).length=L;rw[length_set];exact hl,pY.set (mod_lt _ aK),(by dsimp only;split<;>omega),fun j hj=> ?_, ?_⟩,(by show m-(i+1)<m-i;omega),.cons rfl bM,fun w h=>h⟩
  ·dsimp only at hj ⊢;rw[getD_set_ne ay];exact he j ay
  ·dsimp only;rw[pz _ _ _ ay,mod_succ y,mod_succ n,Nat.pow_succ];exact EZ hv (by split<;>omega)
 ·simp only[dh] at aN;refine aj "W" ?_;obtain rfl:i=m:=by omega
  rw[mod_eq_of_lt oJ,mod_eq_of_lt (Nat.lt_of_le_of_lt hle oJ)] at hv;have hvl:=nT (B:=18446744073709551616) (l:=ws.take i) (fun z hz=>pY z (mem_of_mem_take hz));rw[length_take,hl,Nat.min_eq_left hmL] at hvl;have hb0:b=0:=by
   rcases (show b=0∨b=1 by omega) with h | h
   ·exact h
   ·subst h;omega
  rw[hb0,Nat.zero_mul,Nat.add_zero] at hv;have h0:vl 18446744073709551616 (ws.drop i)=0:=LG fun j=>by
   rw[getD_drop,he _ ay];rcases Nat.lt_or_ge (i+j) L with hj | hj
   ·rw[bW _ _ _ _ hj,div_eq_of_lt (Nat.lt_of_lt_of_le oJ (Nat.pow_le_pow_right aK ay))]
   ·simp[getD,getElem?_eq_none (show (bH 18446744073709551616 L n).length≤i+j by rw[aH];exact hj)]
  have h1:=OJ (B:=18446744073709551616) ws i ay;rw[h0,Nat.mul_zero,Nat.add_zero] at h1;have e2:av .u64 ws=av .u64 (bH 18446744073709551616 L (n-y)):=by rw[show n-y=vl 18446744073709551616 ws by omega,nJ pY hl]
  rw[e2];refine aj "h" ?_;refine WL.c1 call300 rfl (acL hmL hL nO (show n-y<18446744073709551616^i by omega)) rfl ?_;rintro _ _ ⟨r,hr,rn,rb,rL,rfl,rfl⟩;refine aj "d" ?_;exact qR (r.A::F) rfl rfl cu ⟨r,hr,rn,rfl,rfl⟩
end
structure By where
 A:Option Addr
 M:Nat
 m:Nat
 cap:Nat
 n:Nat
abbrev By.v(r:By):Value:= .slice r.A r.m r.cap
abbrev By.E(r:By):aA:=bq (.slice r.A r.M r.cap) 5 1 r.M (av .u8 (bH 256 r.M r.n))
structure By.Ok(r:By):Prop where
 mM:r.m≤r.M
 M:r.M≤10000
 cap:r.m≤r.cap
 lt:r.n<256^r.m
 top:0<r.m→r.n/256^(r.m-1)%256≠0
theorem By.seq{r:By}(h:r.Ok){K:World}{H:List aA}:Seq K (r.E::H) r.A r.m 1 (av .u8 (bH 256 r.m r.n)):=by
 have h1:Seq K (r.E::H) r.A r.M 1 (av .u8 (bH 256 r.M r.n)):=bq.seq (by rw[au,aH,Nat.mul_one]);have h2:=h1.take h.mM
 rwa [dR,Dz h.mM] at h2
section
variable{K:World}{F:List aA}
theorem YP{A0:Option Addr}{m0 cap n:Nat}(hs:Seq K F A0 m0 1 (av .u64 (bH 18446744073709551616 m0 n)))(hL:m0≤1000)(hc:m0≤cap)(hn:n<18446744073709551616^m0):aC prog 303 #[.slice A0 m0 cap] K F (fun v H'=>∃r:By,r.Ok∧r.n=n∧v=r.v∧H'=r.E::F):=by
 refine aC.en func303 ntmps303 ?_;refine aj "axf" ?_;refine WL.c1 call300 rfl (Je hs hL hc) rfl ?_;rintro _ H0 ⟨hF0,m,rfl,hmm,SY,alP⟩;subst H0;have hnm:n<18446744073709551616^m:=by
  have h4:=nT (B:=18446744073709551616) (l:=(bH 18446744073709551616 m0 n).take m) (fun y hy=>bJ aK _ _ y (mem_of_mem_take hy));rw[SY,xO,mod_eq_of_lt hn,length_take,aH,Nat.min_eq_left hmm] at h4;exact h4
 refine aj "oP" ?_;refine WC.loop (σ:=Nat×Option Addr×Nat) (fun s=>[(3,.slice s.2.1 (8*s.1) s.2.2),(8,(.slice A0 m cap)),(9,.i ((m:Nat):Int)),(10,.i ((s.1:Nat):Int))]) (fun s=>bq (.slice s.2.1 (8*s.1) s.2.2) 5 1 (8*s.1) (av .u8 (bH 256 (8*s.1) n))::F) (fun s=>s.1≤m∧8*s.1≤s.2.2) (fun s=>m-s.1) (0,none,0) ⟨zero_le _,zero_le _⟩ bM (fun w h=>h.iG _ _) ?_;rintro⟨i,A,cp⟩ ⟨hi,hcp⟩;dsimp only at hi hcp ⊢;refine aP "a~fBE" (aX (fun aN=> ?_) fun aN=> ?_)
 ·simp only[dh] at aN;have h0:=aN;refine aj "Ha" ?_;refine WL.val (V.kI (v:= .int .u64 ((n/18446744073709551616^i%18446744073709551616:Nat):Int)) LK (ak rfl) (ak rfl) (hr:=fun _=>by
   have h1:=Seq.rF hs (show i<m0 by omega);rw[bW _ _ _ _ ay] at h1;exact h1.up)) rfl ?_
  refine WL.val (V.dY (v:= .int .u64 ((n/18446744073709551616^i%18446744073709551616:Nat):Int)) isAgg306 (ak rfl) (fun _=>by
   have h1:=Seq.rF hs (show i<m0 by omega);rw[bW _ _ _ _ ay] at h1;exact h1.up)) rfl ?_
  refine aj "jbu" ?_;refine WC.loop (σ:=Nat×Option Addr×Nat) (fun s=>[(3,.slice s.2.1 (8*i+s.1) s.2.2),(5,.int .u64 ((n/18446744073709551616^i%18446744073709551616:Nat):Int)),(8,(.slice A0 m cap)),(9,.i ((m:Nat):Int)),(10,.i ((i:Nat):Int)),(14,.i ((s.1:Nat):Int))]) (fun s=>bq (.slice s.2.1 (8*i+s.1) s.2.2) 5 1 (8*i+s.1) (av .u8 (bH 256 (8*i+s.1) n))::F) (fun s=>s.1≤8∧8*i+s.1≤s.2.2) (fun s=>8-s.1) (0,A,cp) ⟨zero_le _,hcp⟩ bM cu ?_;rintro⟨k,A,cp⟩ ⟨hk,aop⟩;dsimp only at hk aop ⊢;refine aP "a~~fBE" (aX (fun aR=> ?_) fun aR=> ?_)
  ·simp only[dh] at aR;have h1:=aR;refine aP "1ghz~,~0~S" ?_;refine WL.buildSlice (E:=5) (cs:=av .u8 [_]) (vs:=[(0,_)]) ⟨ak rfl,trivial⟩ rfl (jM _) rfl (fun b23=> ?_);refine aP "|~X" fun A24 c24 amG aoi=> ?_;refine aP "gq<;" ?_;refine⟨(k+1,A24,c24),⟨by show k+1≤8;omega,by show 8*i+(k+1)≤c24;omega⟩,(by show 8-(k+1)<8-k;omega),.cons rfl bM,fun w h=> ?_⟩;have h2:=Sat.FD (h.aY 2 [0] rfl) (show av .u8 (bH 256 (8*i+k) n++[n/18446744073709551616^i%18446744073709551616/2^(8*k)%256])=av .u8 (bH 256 (8*i+(k+1)) n) by
    rw[←Nat.add_assoc,xC];congr 3;rw[show (18446744073709551616:Nat)=256^8 by decide,show 2^(8*k)=256^k by rw[Nat.pow_mul],mY _ h1,←Nat.pow_mul,Nat.div_div_eq_div_mul,←Nat.pow_add])
   exact h2
  ·simp only[dh] at aR;have h1:=aR;refine WC.exit ?_;obtain rfl:k=8:=by omega
   refine aP "q<;" ?_;exact⟨(i+1,A,cp),⟨by show i+1≤m;omega,by show 8*(i+1)≤cp;omega⟩,(by show m-(i+1)<m-i;omega),.cons rfl bM,fun w h=>h⟩
 ·simp only[dh] at aN;have h0:=aN;refine aj "Wu" ?_;obtain rfl:m=i:=by omega
  refine WC.loop (σ:=Nat) (fun q=>[(3,.slice A q cp)]) (fun _=>bq (.slice A (8*m) cp) 5 1 (8*m) (av .u8 (bH 256 (8*m) n))::F) (fun q=>q≤8*m∧n<256^q) (fun q=>q) (8*m) ⟨Nat.le_refl _,by rw[Nat.pow_mul];exact hnm⟩ bM cu ?_;rintro q ⟨hq,hqn⟩;have hS:Seq K (bq (.slice A (8*m) cp) 5 1 (8*m) (av .u8 (bH 256 (8*m) n))::F) A (8*m) 1 (av .u8 (bH 256 (8*m) n)):=bq.seq (by rw[au,aH,Nat.mul_one]);refine aP "ro~<c88~~e" ?_;refine WL.bG (oj:=_) rfl rfl rfl GC.t (V.rV (j:=1) (OV.g rfl id) (ak rfl)) rfl ?_;refine WL.bG (oj:=_) rfl rfl rfl GC.t (V.kI (m:=q) (j:=q-1) (v:= .int .u8 (((bH 256 (8*m) n).getD (q-1) 0:Nat):Int)) eu (OV.g rfl id) (OV.g rfl id) (hb:=fun hc=>by simp at hc;omega) (hr:=fun hc=>Seq.rF hS (by simp at hc;omega))) rfl ?_;refine WL.bG (oj:=_) rfl rfl rfl GC.t (V.dY (v:= .int .u8 (((bH 256 (8*m) n).getD (q-1) 0:Nat):Int)) isAgg5 (OV.g rfl id) (fun hc=>Seq.rF hS (by simp at hc;omega))) rfl ?_;refine WL.bG (oj:=_) rfl rfl rfl GC.t (V.I5 (j:=0) (OV.g rfl id) (ak rfl)) rfl ?_;refine aj "Vk" (aX (fun bB=> ?_) fun bB=> ?_)
  ·simp only[He] at bB;have h2:=bB;refine aP "iuQo~~%" ?_;refine WL.val (V.slice (m:=q) (cap:=cp) (l:=0) (h:=q-1) (u:=cp) eu (ak rfl) OO.none (OO.some (ak rfl) (fun _=>rfl)) OO.none (by simp) ay ay ay) rfl ?_;refine aj "4" ?_;refine⟨q-1,⟨by show q-1≤_;omega, ?_⟩,(by show q-1<q;omega),.cons (look_eq rfl (by rw[zQ,Nat.sub_zero,Nat.sub_zero])) (.nil _),fun w h=>h⟩;rw[bW _ _ _ _ ay] at h2;have h3:n/256^(q-1)<256:=Nat.div_lt_of_lt_mul (by rw[←Nat.pow_succ,show (q-1).succ=q by omega];exact hqn);rw[mod_eq_of_lt h3] at h2;have h4:0<256^(q-1):=Nat.pow_pos aK;show n<256^(q-1);rcases Nat.lt_or_ge n (256^(q-1)) with h5 | h5
   ·exact h5
   ·have :=div_pos h5 h4;omega
  ·simp only[He] at bB;have h2:=bB;refine aj "Red" ?_;refine qR _ rfl rfl cu ⟨⟨A,8*m,q,cp,n⟩,⟨hq,by show 8*m≤10000;omega,by show q≤cp;omega,hqn,fun h=> ?_⟩,rfl,rfl,rfl⟩;have h:0<q:=h;rcases h2 with h2 | h2
   ·omega
   ·rw[bW _ _ _ _ ay] at h2;exact h2
theorem ab5{A B:Option Addr}{m m2 cap cap2:Nat}{xs ys:List Nat}(hs:Seq K F A m 1 (av .u8 xs))(rJ:Seq K F B m2 1 (av .u8 ys))(hx:aB 256 xs)(hy:aB 256 ys)(hm:m≤2000)(hm2:m2≤2000) :
 aL prog 207 #[.slice A m cap,.slice B m2 cap2] K F (.i (sQ (vl 256 xs) (vl 256 ys))):=by
 refine aC.en func207 ntmps207 ?_;refine aj "aj" ?_;refine WL.c1 call259 rfl (zF hs hx hm) rfl ?_;rintro _ _ ⟨r,hr,rn,rfl,rfl⟩;refine WL.mv rfl rfl (WL.c1 call259 rfl (zF rJ.up hy hm2) rfl ?_);rintro _ _ ⟨r2,ET,rn2,rfl,rfl⟩;refine WL.t2 call258 rfl rfl (FI (Rw.seq hr).up (Rw.seq ET) (bJ aK _ _) (bJ aK _ _) (by have :=hr.L;have :=hr.mL;omega) (by have :=ET.L;have :=ET.mL;omega)) rfl ?_;refine aj "d>" ?_;rw[Rw.vl hr,Rw.vl ET,rn,rn2]
end
set_option exponentiation.threshold 5000
theorem Rw.le{r:Rw}(h:r.Ok){k:Nat}(hk:r.n<18446744073709551616^k):r.m≤k:=by
 rcases Nat.lt_or_ge k r.m with h1 | h1
 ·have h2:=h.top ay;rw[div_eq_of_lt (Nat.lt_of_lt_of_le hk (Nat.pow_le_pow_right aK ay))] at h2;exact absurd rfl h2
 ·exact h1
section
variable{K:World}{F:List aA}
end
def oA:Option Rw→Option Addr | none=>none | some r=>some ⟨r.b,0,none⟩
def oM:Option Rw→Nat | none=>0 | some r=>r.m
def oC:Option Rw→Nat | none=>0 | some r=>r.cap
def oN:Option Rw→Nat | none=>0 | some r=>r.n
def oE:Option Rw→aA | none=>ZK | some r=>r.A
def oOk:Option Rw→Prop | none=>True | some r=>r.Ok
theorem ajd:∀ {o:Option Rw},oOk o→∀ {K:World} {H:List aA},Seq K (oE o::H) (oA o) (oM o) 1 (av .u64 (bH 18446744073709551616 (oM o) (oN o)))
 | none,_,_,_=>Seq.nil
 | some _,h,_,_=>Rw.seq h
theorem oLt:∀ {o:Option Rw},oOk o→oN o<18446744073709551616^oM o
 | none,_=>by show 0<_;decide
 | some _,h=>h.lt
theorem anu:∀ {o:Option Rw},oOk o→oM o≤oC o
 | none,_=>Nat.le_refl _
 | some _,h=>h.cap
theorem oLe:∀ {o:Option Rw},oOk o→∀ {k:Nat},oN o<18446744073709551616^k→oM o≤k
 | none,_,_,_=>zero_le _
 | some _,h,_,hk=>Rw.le h hk
theorem R9{x y n b k:Nat}(hy:0<y)(hb:b=x/2^k%2)(hn:n=x/2^(k+1)%y):(if y≤2*n+b then 2*n+b-y else 2*n+b)=x/2^k%y:=by
 have h1:x/2^k=2*(x/2^(k+1))+b:=by rw[Nat.pow_succ,←Nat.div_div_eq_div_mul,hb];omega
 have h2:n<y:=by rw[hn];exact mod_lt _ hy
 have h3:(2*n+b)%y=x/2^k%y:=by
  rw[h1,hn];have e:2*(x/2^(k+1))+b=2*(x/2^(k+1)%y)+b+y*(2*(x/2^(k+1)/y)):=by
   have :=div_add_mod (x/2^(k+1)) y;have e3:y*(2*(x/2^(k+1)/y))=2*(y*(x/2^(k+1)/y)):=Nat.mul_left_comm _ _ _;omega
  rw[e,add_mul_mod_self_left]
 rw[←h3];split
 ·next h=>rw[mod_eq_sub_mod h,mod_eq_of_lt ay]
 ·next h=>rw[mod_eq_of_lt ay]
section
variable{K:World}{F:List aA}
theorem abe{A B:Option Addr}{m m2 cap cap2:Nat}{xs ys:List Nat}(hs:Seq K F A m 1 (av .u8 xs))(rJ:Seq K F B m2 1 (av .u8 ys))(hx:aB 256 xs)(hy:aB 256 ys)(hm:m≤2000)(hm2:m2≤2000)(Zw:0<vl 256 ys) :
 aC prog 260 #[.slice A m cap,.slice B m2 cap2] K F (fun v H'=>∃r:By,r.Ok∧r.n=vl 256 xs%vl 256 ys∧v= .tuple #[r.v,.i 0]∧∃X,H'=r.E::X::F):=by
 refine aC.en func260 ntmps260 ?_;refine aj "amj" ?_;refine WL.c1 call259 rfl (zF hs hx hm) rfl ?_;rintro _ _ ⟨r,hr,rn,rfl,rfl⟩;refine WL.mv rfl rfl (WL.c1 call259 rfl (zF rJ.up hy hm2) rfl ?_);rintro _ _ ⟨r2,ET,rn2,rfl,rfl⟩;have h1L:=hr.L;have h2L:=ET.L;have h1m:=hr.mL;have h2m:=ET.mL;have h1k:r.m≤250:=Rw.le hr (by rw[rn];refine Nat.lt_of_lt_of_le (nT hx) ?_;have :=hs.len;rw[au,Nat.mul_one] at this;rw[this,show (18446744073709551616:Nat)=256^8 by decide,←Nat.pow_mul];exact Nat.pow_le_pow_right aK ay);have h2k:r2.m≤250:=Rw.le ET (by rw[rn2];refine Nat.lt_of_lt_of_le (nT hy) ?_;have :=rJ.len;rw[au,Nat.mul_one] at this;rw[this,show (18446744073709551616:Nat)=256^8 by decide,←Nat.pow_mul];exact Nat.pow_le_pow_right aK ay);rw[←rn,←rn2];rw[←rn2] at Zw;obtain⟨x,hxx⟩:∃x,x=r.n:=⟨_,rfl⟩;obtain⟨y,hyy⟩:∃y,y=r2.n:=⟨_,rfl⟩;have zO:x<18446744073709551616^r.m:=by rw[hxx];exact hr.lt
 have hyl:y<18446744073709551616^r2.m:=by rw[hyy];exact ET.lt
 have dP:∀ {H:List aA} {i:Nat},i<r.m→Rd K (r.A::H) (some ⟨r.b,i,none⟩) (.int .u64 ((x/18446744073709551616^i%18446744073709551616:Nat):Int)):=fun {H i} hi=>by
  have h1:Rd K (r.A::H) (some ⟨r.b,i,none⟩) (.int .u64 (((bH 18446744073709551616 r.L r.n).getD i 0:Nat):Int)):=Rd.nat (by rw[aH];omega)
  rwa [bW _ _ _ _ ay,←hxx] at h1
 rw[←hyy] at Zw;rw[←hxx,←hyy];have hm0:0<r2.m:=by
  rcases eq_zero_or_pos r2.m with h | h
  ·rw[h,Nat.pow_zero] at hyl;omega
  ·exact h
 refine aP "mfo~~3k" (aX (fun aN=> ?_) fun aN=> ?_)
 ·have h0:=aN;refine aj "aD" ?_;exact absurd h0 (by simp;omega)
 ·have h0:=aN;refine aj "iafo" ?_;refine WL.val (V.Pb (i:=64) (ak rfl) (ak rfl)) rfl (aj "~Bgu" ?_);refine WC.loop (σ:=Nat×Option Rw) (fun s=>[(6,r.v),(7,r2.v),(8,.slice (oA s.2) (oM s.2) (oC s.2)),(9,.i ((s.1:Int)-1))]) (fun s=>oE s.2::r2.A::r.A::F)
   (fun s=>s.1≤64*r.m∧oOk s.2∧oN s.2=x/2^s.1%y) (fun s=>s.1) (64*r.m,none) ⟨Nat.le_refl _,trivial,by show 0=_;rw[div_eq_of_lt (by rw[Nat.pow_mul];exact zO),zero_mod]⟩ bM (fun w h=>h.emp) ?_
  rintro⟨i,o⟩ ⟨hi,ho,hq⟩;dsimp only at hi ho hq ⊢;have hon:oN o<18446744073709551616^r2.m:=by rw[hq];exact Nat.lt_trans (mod_lt _ Zw) hyl
  have hom:=oLe ho hon;refine aj "r~ik" (aX (fun aR=> ?_) fun aR=> ?_)
  ·simp only[dh] at aR;obtain⟨i,rfl⟩:∃q,i=q+1:=⟨i-1,by omega⟩;rw[show ((i+1:Nat):Int)-1=((i:Nat):Int) by omega];refine aj "1z" ?_;refine WL.val (V.Yr (j:=64) (ak rfl) (ak rfl)) rfl (aP "~2" ?_);refine WL.val (V.dY (v:= .int .u64 ((x/18446744073709551616^(i/64)%18446744073709551616:Nat):Int)) isAgg306 (ak rfl) (fun _=>(dP (i:=i/64) ay).up.up)) rfl ?_;refine aP "c~~6~0~~7" ?_;have e1:x/18446744073709551616^(i/64)%18446744073709551616/2^(i%64) &&& 1=x/2^i%2:=by
    rw[and_one_is_mod,show (18446744073709551616:Nat)=2^64 by decide,mY (B:=2) _ ay,←Nat.pow_mul,Nat.div_div_eq_div_mul,←Nat.pow_add,div_add_mod]
   rw[e1];refine WL.c2 call301 rfl rfl (Um (ajd ho) (oLt ho) ay ay) rfl ?_;rintro _ _ ⟨r3,KX,rn3,rfl,rfl⟩;refine aj "0" ?_;refine WL.t2 call258 rfl rfl (FI (Rw.seq KX) (Rw.seq ET).up.up (bJ aK _ _) (bJ aK _ _) (by have :=KX.L;have :=KX.mL;omega) ay) rfl ?_;refine aj "~ik" (aX (fun bB=> ?_) fun bB=> ?_)
   ·rw[Rw.vl KX,Rw.vl ET,←hyy,rn3,hq] at bB;have h2:=bB;have h3:=R9 (x:=x) (n:=oN o) (k:=i) Zw rfl hq;rw[←hq] at h2;simp only[sQ] at h2;have h4:y≤2*oN o+x/2^i%2:=by replace h2:=of_decide_eq_true h2;split at h2<;>omega
    rw[if_pos h4] at h3;refine aj "Q" ?_;refine WL.c2 call302 rfl rfl (Yw KX (Rw.seq ET).up (bJ aK _ _) (by rw[Rw.vl ET,←hyy,rn3];exact h4)) rfl ?_;rintro _ _ ⟨r4,hr4,rn4,rfl,rfl⟩;rw[Rw.vl ET,←hyy,rn3] at rn4;refine aj "gh~B4" ?_;first
     | exact⟨(i,some r4),⟨by show i≤64*r.m;omega,hr4,by show r4.n=_;rw[rn4];exact h3⟩,(by show i<i+1;omega),.cons rfl (.cons rfl (.cons rfl (.cons rfl (.nil _)))),fun w h=>h.aY 4 [0,2,3] rfl⟩
     | exact⟨(i,some r3),⟨by show i≤64*r.m;omega,KX,by show r3.n=_;rw[rn3];exact h3⟩,(by show i<i+1;omega),.cons rfl (.cons rfl (.cons rfl (.cons rfl (.nil _)))),fun w h=>h.aY 4 [0,2,3] rfl⟩
   ·rw[Rw.vl KX,Rw.vl ET,←hyy,rn3,hq] at bB;have h2:=bB;have h3:=R9 (x:=x) (n:=oN o) (k:=i) Zw rfl hq;rw[←hq] at h2;simp only[sQ] at h2;have h4:¬y≤2*oN o+x/2^i%2:=by replace h2:=of_decide_eq_false h2;split at h2<;>(try split at h2)<;>omega
    rw[if_neg h4] at h3;refine aj "ih~B4" ?_;first
     | exact⟨(i,some r4),⟨by show i≤64*r.m;omega,hr4,by show r4.n=_;rw[rn4];exact h3⟩,(by show i<i+1;omega),.cons rfl (.cons rfl (.cons rfl (.cons rfl (.nil _)))),fun w h=>h.aY 4 [0,2,3] rfl⟩
     | exact⟨(i,some r3),⟨by show i≤64*r.m;omega,KX,by show r3.n=_;rw[rn3];exact h3⟩,(by show i<i+1;omega),.cons rfl (.cons rfl (.cons rfl (.cons rfl (.nil _)))),fun w h=>h.aY 4 [0,2,3] rfl⟩
  ·simp only[dh] at aR;refine aj "W" ?_;obtain rfl:i=0:=by omega
   rw[Nat.pow_zero,Nat.div_one] at hq;refine aj "h" ?_;refine WL.c1 call303 rfl (YP (ajd ho) ay (anu ho) (oLt ho)) rfl ?_;rintro _ _ ⟨z,hz',zn,rfl,rfl⟩;refine aj "D" ?_;exact aG.ret (H':=z.E::bN [oE o,r2.A,r.A]::F) (bI.two rfl (R1.tmp rfl) (R1.tmp rfl)) (fun w h=>(Sat.VI (l:=[oE o,r2.A,r.A]) h)) ⟨z,hz',by rw[zn];exact hq,rfl,_,rfl⟩
end
end Go.Proofs.YtcedojacbhnbiaaGreat
namespace Go.Sl
open Go List Nat
section
variable{Mo:Mode}{P:Program}{K:World}{n:Nat}{e:Env}{H:List aA}{dst:Option Tmp}{ty:TypeId}{pos:String}{af:Array Edge}{gd:Option (Nat×Bool)}
theorem V.kY{x:Operand}{T E s m b:Nat}(hT:uL P T m E s)(hx:OV true e x (ptr b 0)):eX Mo P K n true e H ⟨dst,.slice T x none none none,ty,pos,af,gd⟩ (.slice (some ⟨b,0,none⟩) m m) :=
 V.aI (V.qQ (l:=0) (h:=m) (u:=m) hT hx OO.none OO.none OO.none (by simp) (zero_le _) (Nat.le_refl _) (Nat.le_refl _)) fun _=>by simp
end
end Go.Sl
namespace Go.Proofs.YtcedojacbhnbiaaGreat
open Go.Sl Go.RowKit Tryz List Nat
set_option exponentiation.threshold 5000
theorem By.le{r:By}(h:r.Ok){k:Nat}(hk:r.n<256^k):r.m≤k:=by
 rcases Nat.lt_or_ge k r.m with h1 | h1
 ·have h2:=h.top ay;rw[div_eq_of_lt (Nat.lt_of_lt_of_le hk (Nat.pow_le_pow_right aK ay))] at h2;exact absurd rfl h2
 ·exact h1
theorem Rm:cL<115792089237316195423570985008687907853269984665640564039457584007913129639936:=by decide
theorem xD{n:Nat}(h:n<115792089237316195423570985008687907853269984665640564039457584007913129639936):vl 256 (bH 256 32 n)=n:=by rw[xO,mod_eq_of_lt];exact h
theorem abl{n m:Nat}(h:n<256^m)(hm:m≤32):av .u8 (bH 256 m n)++(av .u8 (replicate 32 0)).drop (av .u8 (bH 256 m n)).length=av .u8 (bH 256 32 n):=by grind [Hg,mod_eq_of_lt,au,aH,kT,dA]
section
variable{K:World}{F:List aA}
theorem Dx:aL prog 206 #[] K F (p9 cL):=by
 refine aC.en func206 ntmps206 ?_;refine aP "aw" fun b0=> ?_;refine aj "T" ?_;refine WL.val (V.l7 (k:= .u8) (l:=[_,_,_,_,_,_,_,_,_,_,_,_,_,_,_,_,_,_,_,_,_,_,_,_,_,_,_,_,_,_,_,_]) (vs:=[(0,_),(1,_),(2,_),(3,_),(4,_),(5,_),(6,_),(7,_),(8,_),(9,_),(10,_),(11,_),(12,_),(13,_),(14,_),(15,_),(31,_)]) ⟨ak rfl,ak rfl,ak rfl,ak rfl,ak rfl,ak rfl,ak rfl,ak rfl,ak rfl,ak rfl,ak rfl,ak rfl,ak rfl,ak rfl,ak rfl,ak rfl,ak rfl,trivial⟩ rfl (jc _ _ _ _ _ _ _ _ _ _ _ _ _ _ _ _ _)) rfl (aP "v3" ?_);exact aG.ret (H':=F) (bI.one rfl (R1.cO (l:=bH 256 32 cL) rfl ⟨isAgg97,sizeOf97⟩)) gy ⟨rfl,rfl⟩
theorem Xo{n:Nat}(hn:n<115792089237316195423570985008687907853269984665640564039457584007913129639936):aL prog 144 #[p9 n] K F (.bool (decide (n<cL))):=by
 refine aC.en func144 ntmps144 ?_;refine aj "a9" fun b1=> ?_;refine aj "x" ?_;refine WL.call (vs:=[]) call206 trivial (Dx) rfl ?_;rintro _ H0 ⟨rfl,h0⟩;subst H0;refine aP "w" fun b3=> ?_;refine aP "vB" ?_;refine WC.vG 0 [2] rfl (by simp only[mP,mW,filter_cons,filter_nil,any_cons,any_nil,Nat.reduceBEq,Bool.or_false,Bool.or_true,Bool.not_true,Bool.not_false,if_true,if_false,Bool.false_eq_true];rfl) (by simp only[mP,mW,filter_cons,filter_nil,any_cons,any_nil,Nat.reduceBEq,Bool.or_false,Bool.or_true,Bool.not_true,Bool.not_false,if_true,if_false,Bool.false_eq_true];rfl) ?_;refine UA.val 0 rfl (fun _=>V.kY zT (ak rfl)) ?_;refine UA.val 1 rfl (fun _=>V.kY zT (ak rfl)) ?_;refine UA.call (vs:=[_,_]) 2 rfl call207 (fun _=>⟨ak rfl,ak rfl,trivial⟩) (fun H' hF=>ab5 ((Seq.qc (jo _)).up.sat hF) ((Seq.qc (jo _)).sat hF) (bJ aK _ _) (bJ aK _ _) aK aK) ?_;refine UA.val 3 rfl (fun _=>V.lss (ak rfl) (ak rfl)) ?_;refine aP "`4_" fun CJ=> ?_;simp only[map_cons,map_nil,cons_append,nil_append];refine aj "~D>" ?_;rw[xD hn,xD Rm];congr 1;unfold sQ;split
 ·next h=>simp[h]
 ·next h=>split<;>simp[h]
theorem Kz{A:Option Addr}{m cap:Nat}{xs:List Nat}(hs:Seq K F A m 1 (av .u8 xs))(hx:aB 256 xs)(hm:m≤2000):aL prog 208 #[.slice A m cap] K F (p9 (vl 256 xs%cL)):=by
 obtain⟨x,hxx⟩:∃x,x=vl 256 xs:=⟨_,rfl⟩;rw[←hxx];refine aC.en func208 ntmps208 ?_;refine aP "aw" fun b2=> ?_;refine aj "T" ?_;refine WL.call (vs:=[]) call206 trivial (Dx) rfl ?_;rintro _ H0 ⟨rfl,h0⟩;subst H0;refine aP "w" fun b3=> ?_;refine aP "vTw" fun b4=> ?_;refine aj "be" ?_;refine WL.val (V.kY zT (ak rfl)) rfl ?_;refine WL.c2 call260 rfl rfl (abe hs.up.up.up (Seq.qc (jo _)).up hx (bJ aK _ _) hm aK (by rw[xD Rm];decide)) rfl ?_;rintro _ _ ⟨r,hr,rn,rfl,X,rfl⟩;rw[xD Rm,←hxx] at rn;have oJ:x%cL<cL:=mod_lt _ aK;have Ta:=By.le hr (k:=32) (by rw[rn];exact Nat.lt_trans oJ Rm);have DX:=hr.lt;rw[rn] at DX;refine aj "Cx" ?_;refine WL.val (V.kY zT (ak rfl)) rfl (WL.mv rfl rfl ?_);refine WL.sub (H':=ah b4 97 (av .u8 (replicate 32 0))::r.E::ah b2 97 (av .u8 (replicate 32 0))::F) (Sub.refl _) (fun w h=>h.aY 5 [2,0,4] rfl) ?_;refine WL.zm eu (ak rfl) (ak rfl) ((By.seq hr).up) Ta (kE _ _) (dw.front (by rw[au,au,aH,length_replicate];omega)) rfl ?_;rw[rn,abl DX Ta];refine aP "Tyv3" ?_;exact aG.ret (H':=F) (bI.one rfl (R1.cO (l:=bH 256 32 (x%cL)) rfl ⟨isAgg97,sizeOf97⟩)) gy ⟨rfl,rfl⟩
end
theorem Yl:∀n:Nat,n<64→1≤n→(18446744073709551616-n) &&& 63=64-n:=by decide
theorem M7{p up i:Nat}(hp:p<18446744073709551616):p*18446744073709551616^up/18446744073709551616^i%18446744073709551616=if i=up then p else 0:=by
 have hW:0<18446744073709551616:=by decide
 split
 ·next h=>subst h;rw[Nat.mul_div_cancel _ (Nat.pow_pos hW),mod_eq_of_lt hp]
 ·next h =>
  rcases Nat.lt_or_ge i up with h1 | h1
  ·obtain⟨j,rfl⟩:∃j,up=i+(j+1):=⟨up-i-1,by omega⟩;rw[Nat.pow_add,Nat.mul_left_comm,Nat.mul_div_cancel_left _ (Nat.pow_pos hW),Nat.pow_succ,←Nat.mul_assoc,mul_mod_left]
  ·have h2:p*18446744073709551616^up<18446744073709551616^i:=by
    refine Nat.lt_of_lt_of_le (Nat.mul_lt_mul_of_pos_right hp (Nat.pow_pos hW)) ?_;rw[Nat.mul_comm,←Nat.pow_succ];exact Nat.pow_le_pow_right hW ay
   rw[div_eq_of_lt h2]
theorem FP{v T i:Nat}(h:v/18446744073709551616^(i+1)=T/18446744073709551616^(i+1))(nk:v/18446744073709551616^i%18446744073709551616≠T/18446744073709551616^i%18446744073709551616):(v≤T)↔v/18446744073709551616^i%18446744073709551616<T/18446744073709551616^i%18446744073709551616:=by
 rw[Nat.pow_succ,←Nat.div_div_eq_div_mul,←Nat.div_div_eq_div_mul] at h;constructor
 ·intro h1;have h2:=Nat.div_le_div_right (c:=18446744073709551616^i) h1;omega
 ·intro h1;have h2:v/18446744073709551616^i<T/18446744073709551616^i:=ay;rcases Nat.lt_or_ge T v with h3 | h3
  ·have :=Nat.div_le_div_right (c:=18446744073709551616^i) (Nat.le_of_lt h3);omega
  ·exact h3
theorem Lh{v T i:Nat}(h:v/18446744073709551616^(i+1)=T/18446744073709551616^(i+1))(he:v/18446744073709551616^i%18446744073709551616=T/18446744073709551616^i%18446744073709551616):v/18446744073709551616^i=T/18446744073709551616^i:=by
 rw[Nat.pow_succ,←Nat.div_div_eq_div_mul,←Nat.div_div_eq_div_mul] at h;omega
section
variable{K:World}{F:List aA}
theorem Uu{x n:Nat}(hx:x<18446744073709551616)(h1:1≤n)(h63:n<64):aL prog 318 #[.int .u64 ((x:Nat):Int),.i (-((n:Nat):Int))] K F (.int .u64 ((qG x n:Nat):Int)):=by
 refine aC.en func318 ntmps318 ?_;refine aj "aj" ?_;refine WL.val (V.aI (v':= .int .u64 ((18446744073709551616-n:Nat):Int)) (V.FX runUnderlying3 runUnderlying232 (ak rfl)) (fun _=>by congr 1;show ((-(n:Int))%18446744073709551616)=_;omega)) rfl ?_;refine WL.val (V.C9 (j:=63) 64 (ak rfl) (ak rfl) (fun _=>⟨by show 18446744073709551616-n<18446744073709551616;omega,by decide⟩)) rfl ?_;rw[Yl n h63 h1];refine aj "0" ?_;refine WL.val (V.Jk (M:=18446744073709551616) (ak rfl) (ak rfl)) rfl (aj "z" ?_);refine WL.val (V.ajh (i:=64) (M:=18446744073709551616) (ak rfl) (ak rfl)) rfl (aP "~0" ?_);rw[show 64-(64-n)=n by omega];refine WL.val (V.ZG (i:=x*2^(64-n)%18446744073709551616) (j:=x/2^n) 64 (ak rfl) (ak rfl) (fun _=>⟨mod_lt _ aK,Nat.lt_of_le_of_lt (div_le_self _ _) hx⟩)) rfl ?_;exact aj "d$" trivial
theorem gZ{x n:Nat}(hx:x<18446744073709551616)(h1:1≤n)(h63:n<64):aL prog 277 #[.int .u64 ((x:Nat):Int),.i ((n:Nat):Int)] K F (.int .u64 ((qG x n:Nat):Int)):=by
 refine aC.en func277 ntmps277 ?_;refine aj "a0~~&" ?_;refine WL.t2 call318 rfl rfl (Uu hx h1 h63) rfl ?_;exact aj "d$" trivial
theorem Ou{A B:Option Addr}{m m2 cap cap2 x y:Nat}(hs:Seq K F A m 1 (av .u64 (bH 18446744073709551616 m x)))(rJ:Seq K F B m2 1 (av .u64 (bH 18446744073709551616 m2 y)))(zO:x<18446744073709551616^m)(hyl:y<18446744073709551616^m2)(hm:m≤100)(hm2:m2≤100) :
 aC prog 316 #[.slice A m cap,.slice B m2 cap2] K F (fun v H'=>∃b,v= .slice (some ⟨b,0,none⟩) (m+m2) (m+m2)∧H'=ah b 306 (av .u64 (bH 18446744073709551616 (m+m2) (x*y)))::F):=by
 have dP:∀ {i:Nat},i<m→Rd K F (A.map (·.add i)) (.int .u64 ((x/18446744073709551616^i%18446744073709551616:Nat):Int)):=fun {i} hi=>by
  have h1:=Seq.rF hs hi
  rwa [bW _ _ _ _ hi] at h1
 have hys:∀ {i:Nat},i<m2→Rd K F (B.map (·.add i)) (.int .u64 ((y/18446744073709551616^i%18446744073709551616:Nat):Int)):=fun {i} hi=>by
  have h1:=Seq.rF rJ hi
  rwa [bW _ _ _ _ hi] at h1
 refine aC.en func316 ntmps316 ?_;refine aP "ajoco~K" ?_;refine WL.VH (m:=m+m2) underlying329 VY (ak rfl) (ak rfl) (fun b19=> ?_);refine aj "foP" ?_;refine WC.loop (σ:=Nat×List Nat) (fun s=>[(0,.slice A m cap),(1,.slice B m2 cap2),(5,.slice (some ⟨b19,0,none⟩) (m+m2) (m+m2)),(20,.slice A m cap),(21,.i ((m:Nat):Int)),(22,.i ((s.1:Nat):Int))]) (fun s=>ah b19 306 (av .u64 s.2)::F)
  (fun s=>s.1≤m∧s.2.length=m+m2∧aB 18446744073709551616 s.2∧(∀j,s.1+m2≤j→s.2.getD j 0=0)∧vl 18446744073709551616 s.2=x%18446744073709551616^s.1*y) (fun s=>m-s.1) (0,replicate (m+m2) 0) ⟨zero_le _,length_replicate,aB.vg aK,fun j _=>zK _ _,by rw[Jm];simp[mod_one]⟩ bM cu ?_
 rintro⟨i,wide⟩ ⟨hi,hl,pY,hz,hv⟩;dsimp only at hi hl pY hz hv ⊢;refine aP "a~fBE" (aX (fun aN=> ?_) fun aN=> ?_)
 ·simp only[dh] at aN;have h0:=aN;refine aj "1" ?_;refine WL.val (V.kI (v:= .int .u64 ((x/18446744073709551616^i%18446744073709551616:Nat):Int)) Az (ak rfl) (ak rfl) (hr:=fun _=>(dP h0).up)) rfl ?_;refine WL.val (V.dY (v:= .int .u64 ((x/18446744073709551616^i%18446744073709551616:Nat):Int)) isAgg306 (ak rfl) (fun _=>(dP h0).up)) rfl ?_;refine aj "mt" ?_;have hxi:x/18446744073709551616^i%18446744073709551616<18446744073709551616:=mod_lt _ aK;refine aj "qfoP" ?_;refine WC.loop (σ:=Nat×List Nat×Nat) (fun s=>[(0,.slice A m cap),(1,.slice B m2 cap2),(5,.slice (some ⟨b19,0,none⟩) (m+m2) (m+m2)),(20,.slice A m cap),(21,.i ((m:Nat):Int)),(22,.i ((i:Nat):Int)),(6,.i ((i:Nat):Int)),(7,.int .u64 ((x/18446744073709551616^i%18446744073709551616:Nat):Int)),(27,.slice B m2 cap2),(28,.i ((m2:Nat):Int)),(29,.i ((s.1:Nat):Int)),(8,.int .u64 ((s.2.2:Nat):Int))]) (fun s=>ah b19 306 (av .u64 s.2.1)::F)
   (fun s=>s.1≤m2∧s.2.1.length=m+m2∧aB 18446744073709551616 s.2.1∧(∀j,i+m2≤j→s.2.1.getD j 0=0)∧s.2.2<18446744073709551616∧vl 18446744073709551616 s.2.1+s.2.2*18446744073709551616^(i+s.1)=x%18446744073709551616^i*y+x/18446744073709551616^i%18446744073709551616*(y%18446744073709551616^s.1)*18446744073709551616^i) (fun s=>m2-s.1) (0,wide,0) ⟨zero_le _,hl,pY,hz,(by show 0<_;decide),by dsimp only;rw[hv];simp[mod_one]⟩ bM cu ?_
  rintro⟨k,wd,cy⟩ ⟨hk,KY,yR,JX,Zz,SY⟩;dsimp only at hk KY yR JX Zz SY ⊢;refine aP "a~fBE" (aX (fun aR=> ?_) fun aR=> ?_)
  ·simp only[dh] at aR;have h1:=aR;refine aj "1" ?_;refine WL.val (V.kI (v:= .int .u64 ((y/18446744073709551616^k%18446744073709551616:Nat):Int)) Az (ak rfl) (ak rfl) (hr:=fun _=>(hys h1).up)) rfl ?_;refine WL.val (V.dY (v:= .int .u64 ((y/18446744073709551616^k%18446744073709551616:Nat):Int)) isAgg306 (ak rfl) (fun _=>(hys h1).up)) rfl ?_;refine aj "mt" ?_;have hyi:y/18446744073709551616^k%18446744073709551616<18446744073709551616:=mod_lt _ aK;have J2:=yR.at_ aK (i+k);refine aj "Q" ?_;refine WL.t2 call293 rfl rfl (kN hxi hyi) rfl ?_;refine aP "Cxjzc~K~2~9~$C0~N0~$Cghz~Kzc~N~2~sgq<;" ?_;have hm:=Vd hxi hyi J2 Zz;refine⟨(k+1,_,Yf (x/18446744073709551616^i%18446744073709551616) (y/18446744073709551616^k%18446744073709551616) (wd.getD (i+k) 0) cy),⟨by show k+1≤m2;omega,by show (wd.set _ _).length=_;rw[length_set];exact KY,yR.set (mod_lt _ aK),fun j hj=> ?_,NQ _ _ _ _, ?_⟩,(by show m2-(k+1)<m2-k;omega),.cons rfl bM,fun w h=>h⟩
   ·dsimp only;rw[getD_set_ne ay];exact JX j hj
   ·dsimp only;rw[mod_succ y,Rk,←Nat.add_assoc i k 1,Nat.pow_succ];exact Qj SY (Jh _ _ _ _ ay) hm
  ·simp only[dh] at aR;have h1:=aR;refine WC.exit ?_;obtain rfl:k=m2:=by omega
   rw[mod_eq_of_lt hyl] at SY;refine aP "hzo~Kc~2~sbq<;" ?_;refine⟨(i+1,wd.set (i+k) cy),⟨by show i+1≤m;omega,by show (wd.set _ _).length=_;rw[length_set];exact KY,yR.set Zz,fun j hj=> ?_, ?_⟩,(by show m-(i+1)<m-i;omega),.cons rfl bM,fun w h=>h⟩
   ·dsimp only at hj ⊢;rw[getD_set_ne ay];exact JX j ay
   ·dsimp only;have h1:=Jh 18446744073709551616 wd (i+k) cy ay;rw[JX (i+k) (Nat.le_refl _),Nat.zero_mul,Nat.add_zero] at h1;rw[h1,SY,mod_succ x,Nat.add_mul];congr 1;simp only[Nat.mul_assoc,Nat.mul_comm,Nat.mul_left_comm]
 ·simp only[dh] at aN;have h0:=aN;refine aj "W" ?_;obtain rfl:i=m:=by omega
  rw[mod_eq_of_lt zO] at hv;have e2:av .u64 wide=av .u64 (bH 18446744073709551616 (i+m2) (x*y)):=by rw[←hv,nJ pY hl]
  rw[e2];refine aj "hd" ?_;exact aG.ret (H':=ah b19 306 (av .u64 (bH 18446744073709551616 (i+m2) (x*y)))::F) (bI.tmp rfl rfl) cu ⟨_,rfl,rfl⟩
theorem KE{A:Option Addr}{m cap v p up:Nat}(hs:Seq K F A m 1 (av .u64 (bH 18446744073709551616 m v)))(hv:v<18446744073709551616^m)(hm:m≤100)(hp:p<18446744073709551616)(nP:up<m) :
 aL prog 317 #[.slice A m cap,.int .u64 ((p:Nat):Int),.i ((up:Nat):Int)] K F (.bool (decide (v≤p*18446744073709551616^up))):=by
 have hT:p*18446744073709551616^up<18446744073709551616^m:=by
  refine Nat.lt_of_lt_of_le (Nat.mul_lt_mul_of_pos_right hp (Nat.pow_pos aK)) ?_;rw[Nat.mul_comm,←Nat.pow_succ];exact Nat.pow_le_pow_right aK ay
 have dP:∀ {i:Nat},i<m→Rd K F (A.map (·.add i)) (.int .u64 ((v/18446744073709551616^i%18446744073709551616:Nat):Int)):=fun {i} hi=>by
  have h1:=Seq.rF hs hi
  rwa [bW _ _ _ _ hi] at h1
 refine aC.en func317 ntmps317 ?_;refine aj "afo~Bgu" ?_;refine WC.loop (σ:=Nat) (fun k=>[(0,.slice A m cap),(1,.int .u64 ((p:Nat):Int)),(2,.i ((up:Nat):Int)),(7,.i ((k:Int)-1))]) (fun _=>F) (fun k=>k≤m∧v/18446744073709551616^k=p*18446744073709551616^up/18446744073709551616^k) (fun k=>k) m ⟨Nat.le_refl _,by rw[div_eq_of_lt hv,div_eq_of_lt hT]⟩ bM cu ?_;rintro k ⟨hk,hq⟩;refine aj "r~ik" (aX (fun aN=> ?_) fun aN=> ?_)
 ·simp only[dh] at aN;obtain⟨i,rfl⟩:∃q,k=q+1:=⟨k-1,by omega⟩;rw[show ((i+1:Nat):Int)-1=((i:Nat):Int) by omega];have hd:=M7 (i:=i) (up:=up) hp;refine aj "Hafc" ?_;refine WL.val (V.I5 (ak rfl) (ak rfl)) rfl ?_;refine aj "k" (aX (fun aR=> ?_) fun aR=> ?_)
  ·simp only[dh] at aR;have h1:=aR;rw[if_pos h1] at hd;refine aj "h0" ?_;refine WL.val (V.kI (v:= .int .u64 ((v/18446744073709551616^i%18446744073709551616:Nat):Int)) Az (ak rfl) (ak rfl) (hr:=fun _=>dP ay)) rfl ?_;refine WL.val (V.dY (v:= .int .u64 ((v/18446744073709551616^i%18446744073709551616:Nat):Int)) isAgg306 (ak rfl) (fun _=>dP ay)) rfl ?_;refine WL.mv rfl rfl (WL.val (V.XY (ak rfl) (ak rfl)) rfl ?_);refine aj "k" (aX (fun bB=> ?_) fun bB=> ?_)
   ·simp only[oD] at bB;have h2:=bB;rw[←hd] at h2;refine aj "ec" ?_;refine WL.val (V.kI (v:= .int .u64 ((v/18446744073709551616^i%18446744073709551616:Nat):Int)) Az (ak rfl) (ak rfl) (hr:=fun _=>dP ay)) rfl ?_;refine WL.val (V.dY (v:= .int .u64 ((v/18446744073709551616^i%18446744073709551616:Nat):Int)) isAgg306 (ak rfl) (fun _=>dP ay)) rfl ?_;refine aP "c~fd>" ?_;have hw:=FP hq h2;rw[hd] at hw;congr 1;exact decide_eq_decide.2 hw.symm
   ·simp only[oD] at bB;have h2:=bB;rw[←hd] at h2;refine aj "ih~B4" ?_;refine⟨i,⟨by show i≤m;omega,Lh hq (by first | exact h2 | omega)⟩,(by show i<i+1;omega),.cons rfl bM,fun w h=>h⟩
  ·simp only[dh] at aR;have h1:=aR;rw[if_neg h1] at hd;refine aj "Zc" ?_;refine WL.val (V.kI (v:= .int .u64 ((v/18446744073709551616^i%18446744073709551616:Nat):Int)) Az (ak rfl) (ak rfl) (hr:=fun _=>dP ay)) rfl ?_;refine WL.val (V.dY (v:= .int .u64 ((v/18446744073709551616^i%18446744073709551616:Nat):Int)) isAgg306 (ak rfl) (fun _=>dP ay)) rfl ?_;refine WL.mv rfl rfl (WL.val (V.XY (ak rfl) (ak rfl)) rfl ?_);refine aj "k" (aX (fun bB=> ?_) fun bB=> ?_)
   ·simp only[oD] at bB;have h2:=bB;rw[←hd] at h2;refine aj "ec" ?_;refine WL.val (V.kI (v:= .int .u64 ((v/18446744073709551616^i%18446744073709551616:Nat):Int)) Az (ak rfl) (ak rfl) (hr:=fun _=>dP ay)) rfl ?_;refine WL.val (V.dY (v:= .int .u64 ((v/18446744073709551616^i%18446744073709551616:Nat):Int)) isAgg306 (ak rfl) (fun _=>dP ay)) rfl ?_;refine aP "c~fd>" ?_;have hw:=FP hq h2;rw[hd] at hw;congr 1;exact decide_eq_decide.2 hw.symm
   ·simp only[oD] at bB;have h2:=bB;rw[←hd] at h2;refine aj "ih~B4" ?_;refine⟨i,⟨by show i≤m;omega,Lh hq (by first | exact h2 | omega)⟩,(by show i<i+1;omega),.cons rfl bM,fun w h=>h⟩
 ·simp only[dh] at aN;refine aj "W" ?_;obtain rfl:k=0:=by omega
  rw[Nat.pow_zero,Nat.div_one,Nat.div_one] at hq;refine aj "qd>" ?_;rw[←hq];simp
end
theorem acM{q r n:Nat}(hq:q<2)(hr:r<64)(hn:n%2^(64*q+r+1)=0)(hs:n<18446744073709551616^2):(bH 18446744073709551616 2 n).set q ((bH 18446744073709551616 2 n).getD q 0 ||| 1*2^r%18446744073709551616)=bH 18446744073709551616 2 (n+2^(64*q+r)):=by
 have h2:2^(r+1)≤18446744073709551616:=by rw[show (18446744073709551616:Nat)=2^64 by decide];exact Nat.pow_le_pow_right aK ay
 have h3:(2:Nat)^(r+1)=2*2^r:=by rw[Nat.pow_succ,Nat.mul_comm]
 obtain⟨P,hP⟩:∃P,P=2^r:=⟨_,rfl⟩;have hd:∃e,18446744073709551616=2^(r+1)*e:=⟨2^(64-(r+1)),by rw[←Nat.pow_add,show r+1+(64-(r+1))=64 by omega]⟩;have Pp:∀d,d%2^(r+1)=0→d ||| 1*2^r%18446744073709551616=d+P:=fun d hd0=>by
  rw[Nat.one_mul,mod_eq_of_lt (show 2^r<18446744073709551616 by omega),show d=d/2^(r+1)*2^(r+1) by have :=div_add_mod d (2^(r+1));rw[hd0,Nat.mul_comm] at this;omega,vT ay,hP]
 have ahY:∀d,d%2^(r+1)=0→d%18446744073709551616%2^(r+1)=0:=fun d hd0=>by
  obtain⟨e,he⟩:=hd;rw[he,mod_mul_right_mod,hd0]
 have oJ:∀d,d%2^(r+1)=0→d%18446744073709551616+P<18446744073709551616:=fun d hd0=>by
  have h5:=ahY d hd0;have h6:d%18446744073709551616<18446744073709551616:=mod_lt _ aK;obtain⟨e,he⟩:=hd;have h7:2^(r+1)*(d%18446744073709551616/2^(r+1))=d%18446744073709551616:=by have :=div_add_mod (d%18446744073709551616) (2^(r+1));omega
  have h8:d%18446744073709551616/2^(r+1)<e:=Nat.div_lt_of_lt_mul (by rw[←he];exact h6);have h9:2^(r+1)*(d%18446744073709551616/2^(r+1)+1)≤2^(r+1)*e:=mul_le_mul_left _ h8;rw[Nat.mul_add,Nat.mul_one,h7,←he] at h9;have hp:0<2^r:=Nat.pow_pos aK;omega
 rw[show (2:Nat)^(64*q+r)=18446744073709551616^q*P by rw[Nat.pow_add,Nat.pow_mul,hP]];rcases (show q=0∨q=1 by omega) with rfl | rfl
 ·have hn:n%2^(r+1)=0:=by rwa [Nat.mul_zero,Nat.zero_add] at hn
  have h4:=oJ n hn;show [n%18446744073709551616 ||| 1*2^r%18446744073709551616,n/18446744073709551616%18446744073709551616]=[(n+18446744073709551616^0*P)%18446744073709551616,(n+18446744073709551616^0*P)/18446744073709551616%18446744073709551616];rw[Pp _ (ahY n hn),Nat.pow_zero,Nat.one_mul,show (n+P)%18446744073709551616=n%18446744073709551616+P by omega,show (n+P)/18446744073709551616=n/18446744073709551616 by omega]
 ·have hn:n/18446744073709551616%2^(r+1)=0:=by
   have h5:n%(2^64*2^(r+1))=0:=by rw[←Nat.pow_add,show 64+(r+1)=64*1+r+1 by omega];exact hn
   rw[show (18446744073709551616:Nat)=2^64 by decide];rw[mod_mul] at h5;have hp:0<2^64:=by decide
   rcases eq_zero_or_pos (n/2^64%2^(r+1)) with h | h
   ·exact h
   ·have :=Nat.mul_pos hp h;omega
  have h4:=oJ _ hn;show [n%18446744073709551616,n/18446744073709551616%18446744073709551616 ||| 1*2^r%18446744073709551616]=[(n+18446744073709551616^1*P)%18446744073709551616,(n+18446744073709551616^1*P)/18446744073709551616%18446744073709551616];rw[Pp _ (ahY _ hn),Nat.pow_one,show (n+18446744073709551616*P)%18446744073709551616=n%18446744073709551616 by omega,show (n+18446744073709551616*P)/18446744073709551616%18446744073709551616=n/18446744073709551616%18446744073709551616+P by omega]
section
variable{K:World}{F:List aA}
theorem Fh{p pw:Nat}(hp:p<1000)(h2:2≤pw)(h3:pw≤3):aL prog 276 #[.i ((p:Nat):Int),.i ((pw:Nat):Int)] K F (.int .u64 ((fM p pw (64*pw) 71 0%18446744073709551616:Nat):Int)):=by
 obtain⟨R,hR⟩:∃R,R=fM p pw (64*pw) 71 0:=⟨_,rfl⟩;rw[←hR];refine aC.en func276 ntmps276 ?_;refine aj "ax" ?_;refine WL.VH (m:=2) underlying329 VY (ak rfl) (ak rfl) (fun b9=> ?_);refine aj "tagu" ?_;refine WC.loop (σ:=Nat×Nat×Nat) (fun s=>[(0,.i ((p:Nat):Int)),(1,.i ((pw:Nat):Int)),(5,.slice (some ⟨s.2.1,0,none⟩) 2 2),(6,.i ((s.1:Int)-1))]) (fun s=>ah s.2.1 306 (av .u64 (bH 18446744073709551616 2 s.2.2))::F)
  (fun s=>s.1≤71∧s.2.2%2^s.1=0∧s.2.2+2^s.1≤2^71∧fM p pw (64*pw) s.1 s.2.2=R) (fun s=>s.1) (71,b9,0) ⟨Nat.le_refl _,zero_mod _,by show 0+2^71≤2^71;omega,hR.symm⟩ bM (fun w h=>Sat.aS h (by rw[rH])) ?_
 rintro⟨k,b5,n⟩ ⟨hk,h0,hl,hq⟩;dsimp only at hk h0 hl hq ⊢;refine aj "r~ik" (aX (fun aN=> ?_) fun aN=> ?_)
 ·simp only[dh] at aN;obtain⟨i,rfl⟩:∃q,k=q+1:=⟨k-1,by omega⟩;rw[show ((i+1:Nat):Int)-1=((i:Nat):Int) by omega];rw[Nat.pow_succ] at hl;rw[fM] at hq;have ajO:i/64<2:=ay;have hn2:n<18446744073709551616^2:=Nat.lt_of_lt_of_le (Nat.lt_of_lt_of_le (by have :0<2^i:=Nat.pow_pos aK;omega) hl) aK;have alp:=acM (q:=i/64) (r:=i%64) (n:=n) ajO (mod_lt _ aK) (by rw[show 64*(i/64)+i%64+1=i+1 by omega];exact h0) hn2;rw[show 64*(i/64)+i%64=i by omega] at alp;refine aj "HN~Tl0" ?_;refine WA.t 1 rfl (V.Lv (j:=0) Az (ak rfl) (ak rfl)) ?_;refine aP "~~I2l3" ?_;refine WA.t 4 rfl (V.Lv (j:=1) Az (ak rfl) (ak rfl)) ?_;refine aP "~~I5n6" ?_;refine WL.buildSlice (E:=306) (cs:=av .u64 (bH 18446744073709551616 2 n)) (vs:=[(0,_),(1,_)]) ⟨ak rfl,ak rfl,trivial⟩ rfl (M9 _ _) rfl (fun b20=> ?_);refine aP "b~w7MN~!F0F1" ?_;refine UA.val 2 rfl (fun _=>V.Yr (j:=64) (ak rfl) (ak rfl)) ?_;refine aP "~%3" ?_;refine UA.Pz 4 rfl (fun _=>V.dY (v:= .int .u64 (((bH 18446744073709551616 2 n).getD (i/64) 0:Nat):Int)) isAgg306 (ak rfl) (fun _=>Rd.nat (by rw[aH];exact ajO))) ?_;refine aP "F5" ?_;refine UA.val 6 rfl (fun _=>V.XB (j:=64) (ak rfl) (ak rfl)) ?_;refine UA.val 7 rfl (fun _=>V.Jk (i:=1) (M:=18446744073709551616) (ak rfl) (ak rfl)) ?_;refine UA.val 8 rfl (fun _=>V.ZG (i:=(bH 18446744073709551616 2 n).getD (i/64) 0) (j:=1*2^(i%64)%18446744073709551616) 64 (ak rfl) (ak rfl) (fun _=>⟨aB.at_ (bJ aK _ _) aK _,mod_lt _ aK⟩)) ?_;refine aP "~%9" ?_;refine UA.at_ 10 rfl sizeOf306 (fun _=>ak rfl) (fun _=>ak rfl) ?_;refine aP "_" fun CJ=> ?_;simp only[map_cons,map_nil,cons_append,nil_append];refine WC.seq ?_;rw[alp];obtain⟨x,hx⟩:∃x,x=n+2^i:=⟨_,rfl⟩;rw[←hx] at hq ⊢;have hx2:x<18446744073709551616^2:=Nat.lt_of_le_of_lt (show x≤2^71 by omega) aK;refine aP "hf~~%P" ?_;refine WC.loop (σ:=Nat×Nat×aA) (fun s=>[(0,.i ((p:Nat):Int)),(1,.i ((pw:Nat):Int)),(5,.slice (some ⟨b5,0,none⟩) 2 2),(6,.i ((i:Nat):Int)),(7,.slice (some ⟨b20,0,none⟩) 2 2),(8,.slice (some ⟨s.2.1,0,none⟩) (2*(s.1+1)) (2*(s.1+1))),(33,.i ((pw-1:Nat):Int)),(34,.i ((s.1:Nat):Int))]) (fun s=>s.2.2::ah b20 306 (av .u64 (bH 18446744073709551616 2 x))::ah b5 306 (av .u64 (bH 18446744073709551616 2 n))::F)
   (fun s=>s.1≤pw-1∧Sl.Seq K (s.2.2::ah b20 306 (av .u64 (bH 18446744073709551616 2 x))::ah b5 306 (av .u64 (bH 18446744073709551616 2 n))::F) (some ⟨s.2.1,0,none⟩) (2*(s.1+1)) 1 (av .u64 (bH 18446744073709551616 (2*(s.1+1)) (x^(s.1+1))))) (fun s=>pw-1-s.1) (0,b20,ZK) ⟨zero_le _,by show Sl.Seq _ _ _ 2 1 (av .u64 (bH 18446744073709551616 2 (x^1)));rw[Nat.pow_one];exact (Seq.qc (aH _ _ _)).up⟩ bM (fun w h=>h.emp) ?_
  rintro⟨j,b8,E⟩ ⟨hj,rO⟩;dsimp only at hj rO ⊢;have hxj:x^(j+1)<18446744073709551616^(2*(j+1)):=by rw[Nat.pow_mul];exact Nat.pow_lt_pow_left hx2 ay
  refine aP "a~fBE" (aX (fun aR=> ?_) fun aR=> ?_)
  ·simp only[dh] at aR;have h1:=aR;refine aj "HQ" ?_;refine WL.c2 call316 rfl rfl (Ou rO (Seq.qc (aH _ _ _)).up hxj hx2 ay aK) rfl ?_;rintro _ _ ⟨b9,rfl,rfl⟩;refine aP "gq<;" ?_;exact⟨(j+1,b9,_),⟨by show j+1≤pw-1;omega,Seq.qc (aH _ _ _)⟩,(by show pw-1-(j+1)<pw-1-j;omega),.cons rfl bM,fun w h=>h.aY 4 [0,2,3] rfl⟩
  ·simp only[dh] at aR;have h1:=aR;refine aj "W" ?_;obtain rfl:pw=j+1:=by omega
   refine aj "Q" ?_;refine WL.val (V.rG (i:=p) runUnderlying3 runUnderlying306 (ak rfl) (fun _=>kV (M:=18446744073709551616) rfl rfl ay)) rfl ?_;refine WL.mv rfl rfl (WL.t3 call317 rfl rfl rfl (KE rO hxj ay ay ay) rfl ?_);refine aj "k" (aX (fun bB=> ?_) fun bB=> ?_)
   ·simp only[dh] at bB;have O9:=bB;rw[show (18446744073709551616:Nat)^(j+1)=2^(64*(j+1)) by rw[Nat.pow_mul]] at O9;have hm:n%2^i=0:=by
     rw[Nat.pow_succ,mod_mul] at h0;omega
    rw[show ble (x^(j+1)) (p*2^(64*(j+1)))=true from ble_eq_true_of_le O9,cond_true] at hq;refine aj "hgh~B4" ?_;first
     | exact⟨(i,b20,x),⟨by show i≤71;omega,by show x%2^i=0;rw[hx,add_mod_right];exact hm,by show x+2^i≤2^71;omega,hq⟩,(by show i<i+1;omega),.cons rfl (.cons rfl (.cons rfl (.cons rfl (.nil _)))),fun w h=>h.aY 3 [1] rfl⟩
     | exact⟨(i,b5,n),⟨by show i≤71;omega,hm,by show n+2^i≤2^71;omega,hq⟩,(by show i<i+1;omega),.cons rfl (.cons rfl (.cons rfl (.cons rfl (.nil _)))),fun w h=>h.aY 3 [2] rfl⟩
   ·simp only[dh] at bB;have O9:=bB;rw[show (18446744073709551616:Nat)^(j+1)=2^(64*(j+1)) by rw[Nat.pow_mul]] at O9;have hm:n%2^i=0:=by
     rw[Nat.pow_succ,mod_mul] at h0;omega
    rw[show ble (x^(j+1)) (p*2^(64*(j+1)))=false from Bool.eq_false_iff.2 fun h=>O9 (le_of_ble_eq_true h),cond_false] at hq;refine aj "ih~B4" ?_;first
     | exact⟨(i,b20,x),⟨by show i≤71;omega,by show x%2^i=0;rw[hx,add_mod_right];exact hm,by show x+2^i≤2^71;omega,hq⟩,(by show i<i+1;omega),.cons rfl (.cons rfl (.cons rfl (.cons rfl (.nil _)))),fun w h=>h.aY 3 [1] rfl⟩
     | exact⟨(i,b5,n),⟨by show i≤71;omega,hm,by show n+2^i≤2^71;omega,hq⟩,(by show i<i+1;omega),.cons rfl (.cons rfl (.cons rfl (.cons rfl (.nil _)))),fun w h=>h.aY 3 [2] rfl⟩
 ·simp only[dh] at aN;refine aj "W" ?_;obtain rfl:k=0:=by omega
  rw[fM] at hq;refine aj "h" ?_;refine WL.val (V.Lv (j:=0) Az (ak rfl) (ak rfl)) rfl (aP "~9d>" ?_);rw[←hq]
end
def pI(x:Nat):List Nat→Bool
 | []=>true
 | p::l=>if p*p>x then true else if x%p=0 then false else pI x l
def jd:Nat→List Nat
 | 0=>[]
 | k+1=>bif pI (k+2) (jd k) then jd k++[k+2] else jd k
theorem Zh(k:Nat):∃r,jd (k+1)=jd k++r:=by
 rw[jd];cases pI (k+2) (jd k)
 ·exact⟨[],by simp⟩
 ·exact⟨_,rfl⟩
theorem Jz:∀(j k:Nat),∃r,jd (k+j)=jd k++r
 | 0,k=>⟨[],by simp⟩
 | j+1,k=>by
  obtain⟨r,h⟩:=Jz j k;obtain⟨r2,h2⟩:=Zh (k+j);exact⟨r++r2,by rw[←Nat.add_assoc,h2,h,append_assoc]⟩
def upL:Nat→List Nat→Nat→List Nat
 | 0,l,_=>l
 | k+1,l,x=>bif pI x l then upL k (l++[x]) (x+1) else upL k l (x+1)
theorem RZ:∀(j k:Nat),upL j (jd k) (k+2)=jd (k+j)
 | 0,k=>rfl
 | j+1,k=>by
  rw[upL,←Nat.add_assoc,Nat.add_right_comm k j 1,←RZ j (k+1),jd];cases pI (k+2) (jd k)<;>rfl
theorem QE:jd 408=fD:=by
 have h:upL 408 [] 2=jd 408:=by have h:=RZ 408 0;rw[Nat.zero_add] at h;exact h
 have h2:upL 408 [] 2=fD:=by kernel_rfl
 exact h.symm.trans h2
theorem IY:∀ {k p:Nat},p∈jd k→2≤p∧p≤k+1
 | k+1,p,h=>by
  rw[jd] at h;cases hp:pI (k+2) (jd k)<;>rw[hp] at h
  ·have :=IY (k:=k) h;omega
  ·simp only[cond_true,mem_append,mem_singleton] at h;rcases h with h | h
   ·have :=IY (k:=k) h;omega
   ·omega
theorem XU{k:Nat}(hk:k≤408):jd k=fD.take (jd k).length:=by
 obtain⟨r,h⟩:=Jz (408-k) k;rw[show k+(408-k)=408 by omega,QE] at h;rw[h,take_left]
theorem abx{k:Nat}(h:408≤k):80≤(jd k).length:=by
 obtain⟨r,h1⟩:=Jz (k-408) 408;rw[show 408+(k-408)=k by omega,QE] at h1;rw[h1,length_append,show fD.length=80 by decide];omega
theorem drop_cons{l:List Nat}{i:Nat}(h:i<l.length):l.drop i=l.getD i 0::l.drop (i+1):=by grind [drop_eq_getElem_cons,getD,getElem?_eq_getElem]
section
variable{K:World}{F:List aA}
theorem NH{A:Option Addr}{m cap x:Nat}{l:List Nat}(hs:Seq K F A m 1 (av .i64 l))(hl:∀p∈l,2≤p∧p≤1000)(hx:x≤1000)(hm:m≤1000) :
 aL prog 315 #[.i ((x:Nat):Int),.slice A m cap] K F (.bool (pI x l)):=by
 have hlen:l.length=m:=by have :=hs.len;rwa [au,Nat.mul_one] at this
 obtain⟨R,hR⟩:∃R,R=pI x l:=⟨_,rfl⟩;rw[←hR];refine aC.en func315 ntmps315 ?_;refine aj "afoP" ?_;refine WC.loop (σ:=Nat) (fun i=>[(0,.i ((x:Nat):Int)),(7,.slice A m cap),(8,.i ((m:Nat):Int)),(9,.i ((i:Nat):Int))]) (fun _=>F) (fun i=>i≤m∧pI x (l.drop i)=R) (fun i=>m-i) 0 ⟨zero_le _,hR.symm⟩ bM cu ?_;rintro i ⟨hi,hq⟩;refine aP "a~fBE" (aX (fun aN=> ?_) fun aN=> ?_)
 ·simp only[dh] at aN;rw[drop_cons ay,pI] at hq;obtain⟨p,hp⟩:∃p,p=l.getD i 0:=⟨_,rfl⟩;have Pt:=hl p (by rw[hp,getD,getElem?_eq_getElem ay];exact getElem_mem _);have hpp:p*p≤1000*1000:=Nat.mul_le_mul Pt.2 Pt.2;rw[←hp] at hq;have hr:=Seq.rF hs (show i<m by omega);rw[←hp] at hr;refine aj "Ha" ?_;refine WL.val (V.kI (v:= .i ((p:Nat):Int)) fZ (ak rfl) (ak rfl) (hr:=fun _=>hr)) rfl ?_;refine WL.val (V.dY (v:= .i ((p:Nat):Int)) isAgg3 (ak rfl) (fun _=>hr)) rfl ?_;refine aj "fc" ?_;refine WL.val (V.Pb (ak rfl) (ak rfl)) rfl (WL.mv rfl rfl (WL.val (V.abg (ak rfl) (ak rfl)) rfl ?_));refine aj "k" (aX (fun aR=> ?_) fun aR=> ?_)
  ·simp only[dh] at aR;have h1:=aR;rw[if_pos h1] at hq;refine aj "W" ?_;first
    | (have hq':true=R:=hq;rw[←hq'])
    | (
     obtain rfl:i=m:=by omega
     rw[←hlen,drop_length,pI] at hq;rw[←hq])
   exact aj "qd$" trivial
  ·simp only[dh] at aR;have h1:=aR;rw[if_neg h1] at hq;refine aj "Zc" ?_;refine WL.val (V.XB (ak rfl) (ak rfl)) rfl ?_;refine aP "~~3k" (aX (fun bB=> ?_) fun bB=> ?_)
   ·simp only[dh] at bB;have h2:=bB;rw[if_pos h2] at hq;refine aj "I" ?_;exact qR F rfl rfl gy ⟨by rw[←hq],rfl⟩
   ·simp only[dh] at bB;have h2:=bB;rw[if_neg h2] at hq;refine aP "iq<;" ?_;exact⟨i+1,⟨by show i+1≤m;omega,hq⟩,(by show m-(i+1)<m-i;omega),.cons rfl bM,fun w h=>h⟩
 ·simp only[dh] at aN;refine aj "W" ?_;first
   | (have hq':true=R:=hq;rw[←hq'])
   | (
    obtain rfl:i=m:=by omega
    rw[←hlen,drop_length,pI] at hq;rw[←hq])
  exact aj "qd$" trivial
theorem oG{n:Nat}(hn:n≤80):aC prog 275 #[.i ((n:Nat):Int)] K F (fun v H'=>∃A cap,v= .tuple #[.slice A n cap,.i 0]∧H'=bq (.slice A n cap) 3 1 n (av .i64 (fD.take n))::F):=by
 refine aC.en func275 ntmps275 ?_;refine aj "amf" ?_;refine WL.val (V.zP (j:=0) (ak rfl) (ak rfl)) rfl (aj "cY" ?_);refine WL.bG (oj:=_) rfl rfl rfl GC.f (V.abg (j:=100) (OV.g rfl id) (ak rfl)) rfl ?_;refine aj "Jk" (aX (fun aN=> ?_) fun aN=> ?_)
 ·have h0:=aN;refine aj "aD" ?_;exact absurd h0 (by simp;omega)
 ·have h0:=aN;refine aj "iatagu" ?_;refine WC.loop (σ:=Nat×Option Addr×Nat) (fun s=>[(0,.i ((n:Nat):Int)),(4,.slice s.2.1 (jd s.1).length s.2.2),(5,.i ((s.1+2:Nat):Int))]) (fun s=>bq (.slice s.2.1 (jd s.1).length s.2.2) 3 1 (jd s.1).length (av .i64 (jd s.1))::F)
   (fun s=>s.1≤408∧(jd s.1).length≤n) (fun s=>408-s.1) (0,none,0) ⟨zero_le _,zero_le _⟩ bM (fun w h=>h.iG _ _) ?_
  rintro⟨k,A,cp⟩ ⟨hk,hkn⟩;dsimp only at hk hkn ⊢;refine aP "roc~fk" (aX (fun aR=> ?_) fun aR=> ?_)
  ·simp only[dh] at aR;have h1:=aR;have hk4:k<408:=by rcases Nat.lt_or_ge k 408 with h | h;exact h;have :=abx h;omega
   refine aj "1c" ?_;refine WL.t2 call315 rfl rfl (NH (bq.seq (by rw[au,Nat.mul_one])) (fun p hp=>by have :=IY hp;omega) ay ay) rfl ?_;refine aj "k" (aX (fun bB=> ?_) fun bB=> ?_)
   ·have h2:=bB;refine aj "Q" ?_;refine WL.buildSlice (E:=3) (cs:=av .i64 [_]) (vs:=[(0,_)]) ⟨ak rfl,trivial⟩ rfl (eO _) rfl (fun b23=> ?_);refine aP "|~X" fun A24 c24 amG aoi=> ?_;refine aP "gh<4" ?_;first
     | (
      refine⟨(k+1,A24,c24),⟨by show k+1≤408;omega, ?_⟩,(by show 408-(k+1)<408-k;omega), ?_,fun w h=> ?_⟩
      ·show (jd (k+1)).length≤n;rw[jd,h2,cond_true,length_append];show _+1≤_;omega
      ·dsimp only;rw[jd,h2,cond_true,length_append];exact .cons rfl bM
      ·have h3:=h.aY 2 [0] rfl;dsimp only;rw[jd,h2,cond_true,length_append];exact h3)
     | (
      refine⟨(k+1,A,cp),⟨by show k+1≤408;omega, ?_⟩,(by show 408-(k+1)<408-k;omega), ?_,fun w h=> ?_⟩
      ·show (jd (k+1)).length≤n;rw[jd,h2,cond_false];exact hkn
      ·dsimp only;rw[jd,h2,cond_false];exact .cons rfl bM
      ·dsimp only;rw[jd,h2,cond_false];exact h)
   ·have h2:=bB;refine aP "ih<4" ?_;first
     | (
      refine⟨(k+1,A24,c24),⟨by show k+1≤408;omega, ?_⟩,(by show 408-(k+1)<408-k;omega), ?_,fun w h=> ?_⟩
      ·show (jd (k+1)).length≤n;rw[jd,h2,cond_true,length_append];show _+1≤_;omega
      ·dsimp only;rw[jd,h2,cond_true,length_append];exact .cons rfl bM
      ·have h3:=h.aY 2 [0] rfl;dsimp only;rw[jd,h2,cond_true,length_append];exact h3)
     | (
      refine⟨(k+1,A,cp),⟨by show k+1≤408;omega, ?_⟩,(by show 408-(k+1)<408-k;omega), ?_,fun w h=> ?_⟩
      ·show (jd (k+1)).length≤n;rw[jd,h2,cond_false];exact hkn
      ·dsimp only;rw[jd,h2,cond_false];exact .cons rfl bM
      ·dsimp only;rw[jd,h2,cond_false];exact h)
  ·simp only[dh] at aR;have h1:=aR;refine aj "ReD" ?_;have e1:(jd k).length=n:=ay;have e2:=XU hk;rw[e1] at e2;rw[e1,e2];exact aG.ret (H':=_) (bI.two rfl (R1.tmp rfl) (R1.tmp rfl)) cu ⟨A,cp,rfl,rfl⟩
end
theorem qL{l:List Nat}{i n:Nat}(hn:l.length=n)(h:i<n):(l.take i++replicate (n-i) 0).set i (l.getD i 0)=l.take (i+1)++replicate (n-(i+1)) 0:=by
 obtain⟨j,rfl⟩:∃j,n=i+(j+1):=⟨n-i-1,by omega⟩;rw[set_append,length_take,Nat.min_eq_left ay,if_neg ay,Nat.sub_self,show i+(j+1)-i=j+1 by omega,replicate_succ,set_cons_zero,show i+(j+1)-(i+1)=j by omega,take_succ_eq_append_getElem ay,append_assoc];rw[getD,getElem?_eq_getElem ay];rfl
theorem Dq{f:Nat→Nat}{l k:List Nat}{i:Nat}(hm:l.map f=k)(h:i<l.length):f (l.getD i 0)=k.getD i 0:=by
 subst hm;simp[getD,h]
theorem NV:aB 1000 fD:=by unfold aB;decide
theorem zf(i n:Nat):(fD.take n).getD i 0<1000:=aB.at_ (fun y hy=>NV y (mem_of_mem_take hy)) aK i
section
variable{K:World}{F:List aA}
theorem NU:aL prog 239 #[] K F (.agg (av .u64 TT).toArray):=by
 have hk:∀i,i<8→fM ((fD.take 8).getD i 0) 2 (64*2) 71 0%18446744073709551616=TT.getD i 0:=fun i hi=>Dq (f:=fun p=>fM p 2 128 71 0%18446744073709551616) aeB (by rw[length_take];exact hi);have Hl:TT.length=8:=by decide
 obtain⟨ks,rR⟩:∃ks,ks=TT:=⟨_,rfl⟩;obtain⟨ps,rP⟩:∃ps,ps=fD.take 8:=⟨_,rfl⟩;have nu:∀i,ps.getD i 0<1000:=by rw[rP];exact fun i=>zf i 8
 have Xf:ps.length=8:=by rw[rP];decide
 rw[←rP,←rR] at hk;rw[←rR] at Hl ⊢;refine aC.en func239 ntmps239 ?_;refine aP "aw" fun b0=> ?_;refine aP "Tw" fun b1=> ?_;refine aj "T" ?_;refine WL.c1 call275 rfl (oG (n:=8) aK) rfl ?_;rintro _ _ ⟨A,cap,rfl,rfl⟩;refine aj "CfoP" ?_;rw[←rP];refine WC.loop (σ:=Nat×List Nat) (fun s=>[(0,ptr b0 0),(1,ptr b1 0),(10,.slice A 8 cap),(11,.i ((8:Nat):Int)),(12,.i ((s.1:Nat):Int))]) (fun s=>bq (.slice A 8 cap) 3 1 8 (av .i64 ps)::ah b1 309 (av .u64 s.2)::ah b0 309 (av .u64 (replicate 8 0))::F)
  (fun s=>s.1≤8∧s.2=ks.take s.1++replicate (8-s.1) 0) (fun s=>8-s.1) (0,replicate 8 0) ⟨zero_le _,rfl⟩ bM cu ?_
 rintro⟨i,ws⟩ ⟨hi,hw⟩;dsimp only at hi hw ⊢;have OY:ws.length=8:=by rw[hw,length_append,length_take,length_replicate];omega
 refine aP "a~fBE" (aX (fun aN=> ?_) fun aN=> ?_)
 ·simp only[dh] at aN;have hr:Rd K (bq (.slice A 8 cap) 3 1 8 (av .i64 ps)::ah b1 309 (av .u64 ws)::ah b0 309 (av .u64 (replicate 8 0))::F) _ _:=Seq.rF (bq.seq (by rw[au,Xf])) (show i<8 by omega);refine aj "1" ?_;refine WL.val (V.kI (v:= .i ((ps.getD i 0:Nat):Int)) fZ (ak rfl) (ak rfl) (hr:=fun _=>hr)) rfl ?_;refine WL.val (V.dY (v:= .i ((ps.getD i 0:Nat):Int)) isAgg3 (ak rfl) (fun _=>hr)) rfl ?_;refine aj "mgQ" ?_;refine WL.t2 call276 rfl rfl ((Fh (pw:=2) (nu i) aK aK).eq (v':= .int .u64 ((ks.getD i 0:Nat):Int)) (by rw[hk i ay])) rfl ?_;refine aP "~x~sbq<;" ?_;exact⟨(i+1,_),⟨by show i+1≤8;omega,by dsimp only;rw[hw];exact qL Hl ay⟩,(by show 8-(i+1)<8-i;omega),.cons rfl bM,fun w h=>h⟩
 ·simp only[dh] at aN;refine aj "W" ?_;obtain rfl:i=8:=by omega
  rw[Nat.sub_self,replicate_zero,append_nil,take_of_length_le ay] at hw;rw[hw];refine aP "qyv3" ?_;exact aG.ret (H':=F) (bI.one rfl (R1.cO (l:=ks) rfl ⟨isAgg309,sizeOf309⟩)) gy ⟨rfl,rfl⟩
theorem KP:aL prog 238 #[] K F (.agg (av .u64 Kt).toArray):=by
 have hk:∀i,i<80→fM ((fD.take 80).getD i 0) 3 (64*3) 71 0%18446744073709551616=Kt.getD i 0:=fun i hi=>Dq (f:=fun p=>fM p 3 192 71 0%18446744073709551616) (by rw[take_of_length_le aK];exact adR) (by rw[length_take];exact hi);have Hl:Kt.length=80:=by decide
 obtain⟨ks,rR⟩:∃ks,ks=Kt:=⟨_,rfl⟩;obtain⟨ps,rP⟩:∃ps,ps=fD.take 80:=⟨_,rfl⟩;have nu:∀i,ps.getD i 0<1000:=by rw[rP];exact fun i=>zf i 80
 have Xf:ps.length=80:=by rw[rP];decide
 rw[←rP,←rR] at hk;rw[←rR] at Hl ⊢;refine aC.en func238 ntmps238 ?_;refine aP "aw" fun b0=> ?_;refine aP "Tw" fun b1=> ?_;refine aj "T" ?_;refine WL.c1 call275 rfl (oG (n:=80) aK) rfl ?_;rintro _ _ ⟨A,cap,rfl,rfl⟩;refine aj "CfoP" ?_;rw[←rP];refine WC.loop (σ:=Nat×List Nat) (fun s=>[(0,ptr b0 0),(1,ptr b1 0),(10,.slice A 80 cap),(11,.i ((80:Nat):Int)),(12,.i ((s.1:Nat):Int))]) (fun s=>bq (.slice A 80 cap) 3 1 80 (av .i64 ps)::ah b1 307 (av .u64 s.2)::ah b0 307 (av .u64 (replicate 80 0))::F)
  (fun s=>s.1≤80∧s.2=ks.take s.1++replicate (80-s.1) 0) (fun s=>80-s.1) (0,replicate 80 0) ⟨zero_le _,rfl⟩ bM cu ?_
 rintro⟨i,ws⟩ ⟨hi,hw⟩;dsimp only at hi hw ⊢;have OY:ws.length=80:=by rw[hw,length_append,length_take,length_replicate];omega
 refine aP "a~fBE" (aX (fun aN=> ?_) fun aN=> ?_)
 ·simp only[dh] at aN;have hr:Rd K (bq (.slice A 80 cap) 3 1 80 (av .i64 ps)::ah b1 307 (av .u64 ws)::ah b0 307 (av .u64 (replicate 80 0))::F) _ _:=Seq.rF (bq.seq (by rw[au,Xf])) (show i<80 by omega);refine aj "1" ?_;refine WL.val (V.kI (v:= .i ((ps.getD i 0:Nat):Int)) fZ (ak rfl) (ak rfl) (hr:=fun _=>hr)) rfl ?_;refine WL.val (V.dY (v:= .i ((ps.getD i 0:Nat):Int)) isAgg3 (ak rfl) (fun _=>hr)) rfl ?_;refine aj "mgQ" ?_;refine WL.t2 call276 rfl rfl ((Fh (pw:=3) (nu i) aK aK).eq (v':= .int .u64 ((ks.getD i 0:Nat):Int)) (by rw[hk i ay])) rfl ?_;refine aP "~x~sbq<;" ?_;exact⟨(i+1,_),⟨by show i+1≤80;omega,by dsimp only;rw[hw];exact qL Hl ay⟩,(by show 80-(i+1)<80-i;omega),.cons rfl bM,fun w h=>h⟩
 ·simp only[dh] at aN;refine aj "W" ?_;obtain rfl:i=80:=by omega
  rw[Nat.sub_self,replicate_zero,append_nil,take_of_length_le ay] at hw;rw[hw];refine aP "qyv3" ?_;exact aG.ret (H':=F) (bI.one rfl (R1.cO (l:=ks) rfl ⟨isAgg307,sizeOf307⟩)) gy ⟨rfl,rfl⟩
end
theorem AB{l:List Nat}{n j:Nat}(hl:l.length=n)(hj:j<n):l.reverse.take j++[l.getD (n-1-j) 0]=l.reverse.take (j+1):=by grind [take_succ_eq_append_getElem,length_reverse,getD,getElem?_eq_getElem]
section
variable{K:World}{F:List aA}
theorem TW{A:Option Addr}{m cap:Nat}{l:List Nat}(hs:Seq K F A m 1 (av .u8 l))(hm:m≤100000000):aC prog 240 #[.slice A m cap] K F (fun v H'=>∃A' M cap',M=(l++mg 128 16 m).length∧v= .slice A' M cap'∧M≤cap'∧H'=bq (.slice A' M cap') 5 1 M (av .u8 (l++mg 128 16 m))::F):=by
 have hlen:l.length=m:=by have :=hs.len;rwa [au,Nat.mul_one] at this
 obtain⟨R,hR⟩:∃R,R=(m+16)%128:=⟨_,rfl⟩;refine aC.en func240 ntmps240 ?_;refine aj "aj" ?_;refine WL.sub (H':=bq (.slice none 0 0) 5 1 0 (av .u8 [])::F) (Sub.refl _) (fun w h=>h.iG _ _) ?_;refine WL.GV (m:=0) (l:=[]) underlying34 zo (ak rfl) (ak rfl) (fun A6 c6 hn6 Zt=> ?_) hs;rw[Nat.zero_add] at hn6 Zt ⊢;refine WL.buildSlice (E:=5) (cs:=av .u8 [_]) (vs:=[(0,_)]) ⟨ak rfl,trivial⟩ rfl (jM _) rfl (fun b7=> ?_);refine aP "|~X" fun A8 c8 hn8 Pk=> ?_;refine aj "tu" ?_;refine WC.loop (σ:=Nat×Option Addr×Nat) (fun s=>[(0,.slice A m cap),(3,.slice s.2.1 (m+1+s.1) s.2.2)]) (fun s=>bq (.slice s.2.1 (m+1+s.1) s.2.2) 5 1 (m+1+s.1) (av .u8 (l++128::replicate s.1 0))::F)
  (fun s=>s.1≤127-R∧m+1+s.1≤s.2.2) (fun s=>127-R-s.1) (0,A8,c8) ⟨zero_le _,Pk⟩ bM (fun w h=>Sat.FD (cs':=av .u8 (l++128::replicate 0 0)) (h.aY 2 [0] rfl) (by rw[nil_append,replicate_zero])) ?_
 rintro⟨z,A3,c3⟩ ⟨hz,hz3⟩;dsimp only at hz hz3 ⊢;refine aj "ro" ?_;refine WL.val (V.wU (j:=16) (ak rfl) (ak rfl)) rfl (WL.val (V.XB (j:=128) (ak rfl) (ak rfl)) rfl ?_);refine aP "~`k" (aX (fun aN=> ?_) fun aN=> ?_)
 ·simp only[oD] at aN;have h0:=aN;refine aj "iuh" ?_;refine WL.buildSlice (E:=5) (cs:=av .u8 [_]) (vs:=[(0,_)]) ⟨ak rfl,trivial⟩ rfl (jM _) rfl (fun b15=> ?_);refine aP "|~X" fun A16 c16 asO asH=> ?_;refine aj "4" ?_;refine⟨(z+1,A16,c16),⟨by show z+1≤127-R;omega,by show m+1+(z+1)≤c16;omega⟩,(by show 127-R-(z+1)<127-R-z;omega),.cons rfl bM,fun w h=> ?_⟩;have h2:=Sat.FD (h.aY 2 [0] rfl) (show av .u8 (l++128::replicate z 0++[0])=av .u8 (l++128::replicate (z+1) 0) by rw[append_assoc,cons_append,replicate_succ',]);exact h2
 ·simp only[oD] at aN;have h0:=aN;refine aj "W" ?_;obtain rfl:z=127-R:=by omega
  obtain⟨M,hM⟩:∃M,M=m+1+(127-R):=⟨_,rfl⟩;obtain⟨L,hL⟩:∃L,L=l++128::replicate (127-R) 0:=⟨_,rfl⟩;rw[←hM,←hL];refine aj "h" ?_;refine WL.GR (m:=M) (q:=8) (z:= .int .u8 0) underlying34 underlying3 zo rfl rfl (ak rfl) (ak rfl) rfl ay ay rfl (fun A18 c18 arT ah8=> ?_);rw[show av .u8 L++replicate 8 (.int .u8 0)=av .u8 (L++replicate 8 0) by rw[dA];rfl];refine aj "tagu" ?_;refine WC.loop (σ:=Nat×Option Addr×Nat) (fun s=>[(0,.slice A m cap),(3,.slice s.2.1 (M+8+s.1) s.2.2),(4,.i (56-8*(s.1:Int)))]) (fun s=>bq (.slice s.2.1 (M+8+s.1) s.2.2) 5 1 (M+8+s.1) (av .u8 (L++replicate 8 0++(bH 256 8 (8*m)).reverse.take s.1))::F)
   (fun s=>s.1≤8∧M+8+s.1≤s.2.2) (fun s=>8-s.1) (0,A18,c18) ⟨zero_le _,ah8⟩ bM (fun w h=>Sat.FD h (by rw[take_zero,append_nil])) ?_
  rintro⟨j,A3,c3⟩ ⟨hj,hj3⟩;dsimp only at hj hj3 ⊢;refine aj "r~ik" (aX (fun aR=> ?_) fun aR=> ?_)
  ·simp only[dh] at aR;have h1:=aR;rw[show (56-8*(j:Int))=((56-8*j:Nat):Int) by omega];refine aj "HQo" ?_;refine WL.val (V.rG (i:=m) runUnderlying3 runUnderlying306 (ak rfl) (fun _=>kV (M:=18446744073709551616) rfl rfl ay)) rfl ?_;refine WL.val (V.UW (i:=8) (M:=18446744073709551616) (ak rfl) (ak rfl)) rfl (aP "c~0~S" ?_);refine WL.buildSlice (E:=5) (cs:=av .u8 [_]) (vs:=[(0,_)]) ⟨ak rfl,trivial⟩ rfl (jM _) rfl (fun b31=> ?_);refine aP "|~X" fun A32 c32 asn asY=> ?_;refine aj "gh~B4" ?_;refine⟨(j+1,A32,c32),⟨by show j+1≤8;omega,by show M+8+(j+1)≤c32;omega⟩,(by show 8-(j+1)<8-j;omega),.cons rfl (.cons rfl (.cons (look_eq rfl (by congr 1;dsimp only;omega)) (.nil _))),fun w h=> ?_⟩;have h2:=Sat.FD (h.aY 2 [0] rfl) (show av .u8 (L++replicate 8 0++(bH 256 8 (8*m)).reverse.take j++[8*m%18446744073709551616/2^(56-8*j)%256])=av .u8 (L++replicate 8 0++(bH 256 8 (8*m)).reverse.take (j+1)) by
    rw[←AB (aH _ _ _) ay,bW _ _ _ _ ay,mod_eq_of_lt (show 8*m<18446744073709551616 by omega),show (2:Nat)^(56-8*j)=256^(8-1-j) by rw[show 56-8*j=8*(8-1-j) by omega,Nat.pow_mul],append_assoc _ _ [_]])
   exact h2
  ·simp only[dh] at aR;have h1:=aR;refine aj "W" ?_;obtain rfl:j=8:=by omega
   have e1:L++replicate 8 0++(bH 256 8 (8*m)).reverse.take 8=l++mg 128 16 m:=by
    rw[take_of_length_le (by rw[length_reverse,aH];decide),hL,hR];simp[mg]
   have e2:(l++mg 128 16 m).length=M+8+8:=by
    rw[←e1,hL,take_of_length_le (by rw[length_reverse,aH];decide)];simp only[length_append,length_cons,length_replicate,length_reverse,aH,hlen];omega
   rw[e1];refine aj "hd" ?_;exact qR _ rfl rfl cu ⟨A3,M+8+8,c3,e2.symm,rfl,hj3,rfl⟩
end
end Go.Proofs.YtcedojacbhnbiaaGreat
namespace Go.Sl
open Go Go.RowKit Go.Proofs.YtcedojacbhnbiaaGreat List Nat
theorem Seq.rV{K:World}{H:List aA}{A:Option Addr}{m l h u:Nat}{k:IntKind}{xs:List Nat}(hs:Seq K H A m 1 (av k xs))(h1:l≤h)(h2:h≤m)(h3:m≤u) :
 Seq K H (if u=l then A else A.map (·.add (l*1))) (h-l) 1 (av k ((xs.drop l).take (h-l))):=by
 have hl:=hs.len;rw[au] at hl;refine⟨by rw[au,length_take,length_drop];omega,fun i v hi=> ?_⟩;have hi':i<h-l:=by
  rcases Nat.lt_or_ge i (h-l) with h4 | h4
  ·exact h4
  ·rw[getElem?_eq_none (by rw[au,length_take];omega)] at hi;cases hi
 rw[if_neg ay];have h5:=hs.rd (l+i) v (by
  rw[←hi];unfold av;rw[getElem?_map,getElem?_map,getElem?_take,if_pos hi',getElem?_drop])
 rw[Nat.mul_one];cases A with
 | none=>exact h5
 | some a =>
  have e:(a.add l).add i=a.add (l+i):=by
   simp only[Addr.add];split<;>split<;>simp_all<;>omega
  show Rd K H (some ((a.add l).add i)) v;rw[e];exact h5
end Go.Sl
namespace Go.Proofs.YtcedojacbhnbiaaGreat
open Go.Sl Go.RowKit Tryz List Nat
theorem FE(q k:Nat)(data w:List Nat):kG q (k+1) data w=kG q k (data.drop q) (be (data.take q)::w):=by rw[kG,force_eq]
theorem IC(M:Nat)(z1 z0:Nat→Nat)(k:Nat)(w:List Nat):yL M z1 z0 (k+1) w=yL M z1 z0 k (ae3 M z1 z0 w::w):=by rw[yL,force_eq]
theorem HY(M:Nat)(s1 s0:Nat→Nat){ks ws:List Nat}{i:Nat}(o:O8)(hk:i<ks.length)(hw:i<ws.length):xu M s1 s0 (ks.drop i) (ws.drop i) o=xu M s1 s0 (ks.drop (i+1)) (ws.drop (i+1)) (Ug M s1 s0 o (ks.getD i 0) (ws.getD i 0)):=by
 rw[drop_cons hk,drop_cons hw,xu]
theorem OU(M:Nat)(s1 s0:Nat→Nat)(o:O8)(k w:Nat):Ug M s1 s0 o k w =
 ⟨((((((o.h+s1 o.e)%M+(o.e &&& o.f ^^^ (M-1-o.e) &&& o.g))%M+k)%M+w)%M)+(s0 o.a+(o.a &&& o.b ^^^ o.a &&& o.c ^^^ o.b &&& o.c))%M)%M,o.a,o.b,o.c,
  (o.d+((((o.h+s1 o.e)%M+(o.e &&& o.f ^^^ (M-1-o.e) &&& o.g))%M+k)%M+w)%M)%M,o.e,o.f,o.g⟩:=by
 simp only[Ug,force_eq,mod_add_mod,add_mod_mod]
theorem Wx(M:Nat)(z1 z0:Nat→Nat)(w:List Nat):ae3 M z1 z0 w=(((w.getD 15 0+z0 (w.getD 14 0))%M+w.getD 6 0)%M+z1 (w.getD 1 0))%M:=by
 simp only[ae3,mod_add_mod]
theorem sw{ws:List Nat}{i x:Nat}(h:i<ws.length):((ws.set i x).take (i+1)).reverse=x::(ws.take i).reverse:=by simp_all [take_succ_eq_append_getElem,length_set,reverse_append,take_set_of_le,Nat.le_refl]
theorem oU{ws:List Nat}{i j:Nat}(h:i≤ws.length)(hj:j<i):(ws.take i).reverse.getD j 0=ws.getD (i-(j+1)) 0:=by grind
theorem VA(l:List Nat)(x:Nat):be (l++[x])=256*be l+x:=by simp[be,foldl_append]
theorem aa6:∀ {l:List Nat},aB 256 l→be l<256^l.length:=by
 intro l
 suffices h:∀r:List Nat,aB 256 r→be r.reverse<256^r.length by
  intro hs;have :=h l.reverse (fun x hx=>hs x (mem_reverse.1 hx))
  rwa [reverse_reverse,length_reverse] at this
 intro r
 induction r with
 | nil=>intro _;decide
 | cons x r ih =>
  intro hs;have h1:=ih fun y hy=>hs y (mem_cons_of_mem _ hy);have h2:=hs x mem_cons_self;rw[reverse_cons,VA,length_cons,Nat.pow_succ];omega
theorem R6{A B:List Nat}{i n:Nat}(hA:A.length=n)(hB:B.length=n)(h:i<n):(A.take i++B.drop i).set i (A.getD i 0)=A.take (i+1)++B.drop (i+1):=by
 rw[drop_cons ay,set_append,length_take,Nat.min_eq_left ay,if_neg ay,Nat.sub_self,set_cons_zero,take_succ_eq_append_getElem ay,append_assoc];rw[getD,getElem?_eq_getElem ay];rfl
theorem QD{A B:List Nat}{i n:Nat}(hA:A.length=n)(hB:B.length=n)(h:i<n):(A.take i++B.drop i).getD i 0=B.getD i 0:=by grind
theorem aeD{x n:Nat}(hx:x<18446744073709551616):qG x n<18446744073709551616:=by
 rw[show (18446744073709551616:Nat)=2^64 by decide] at hx ⊢;exact or_lt_two_pow (mod_lt _ aK) (Nat.lt_of_le_of_lt (div_le_self _ _) hx)
theorem aeW{x n:Nat}(hx:x<4294967296):qw x n<4294967296:=by
 rw[show (4294967296:Nat)=2^32 by decide] at hx ⊢;exact or_lt_two_pow (mod_lt _ aK) (Nat.lt_of_le_of_lt (div_le_self _ _) hx)
def O8.Ok(M:Nat)(o:O8):Prop:=o.a<M∧o.b<M∧o.c<M∧o.d<M∧o.e<M∧o.f<M∧o.g<M∧o.h<M
theorem WK{M:Nat}(hM:0<M)(s1 s0:Nat→Nat){o:O8}(h:o.Ok M)(k w:Nat):(Ug M s1 s0 o k w).Ok M:=by
 obtain⟨h1,h2,h3,h4,h5,h6,h7,h8⟩:=h;rw[OU];exact⟨mod_lt _ hM,h1,h2,h3,mod_lt _ hM,h5,h6,h7⟩
theorem O8.Iy{M:Nat}(hM:0<M){s:List Nat}(h:aB M s):(O8.of s).Ok M:=⟨h.at_ hM _,h.at_ hM _,h.at_ hM _,h.at_ hM _,h.at_ hM _,h.at_ hM _,h.at_ hM _,h.at_ hM _⟩
def O8.list(o:O8):List Nat:=[o.a,o.b,o.c,o.d,o.e,o.f,o.g,o.h]
theorem MK{M:Nat}{s:List Nat}{o:O8}{i:Nat}(hi:i<8):(s.getD i 0+o.list.getD i 0)%M=(Qz M s o).getD i 0:=by
 match i,hi with
 | 0,_ | 1,_ | 2,_ | 3,_ | 4,_ | 5,_ | 6,_ | 7,_=>rfl
theorem wB{M:Nat}(hM:0<M)(s:List Nat)(o:O8):aB M (Qz M s o):=by
 intro x hx;simp only[Qz,mem_cons,not_mem_nil,or_false] at hx;rcases hx with h | h | h | h | h | h | h | h<;>(rw[h];exact mod_lt _ hM)
set_option exponentiation.threshold 5000
def s1F(x:Nat):Nat:=qG x 14 ^^^ qG x 18 ^^^ qG x 41
def s0F(x:Nat):Nat:=qG x 28 ^^^ qG x 34 ^^^ qG x 39
def z1F(x:Nat):Nat:=qG x 19 ^^^ qG x 61 ^^^ x/2^6
def z0F(x:Nat):Nat:=qG x 1 ^^^ qG x 8 ^^^ x/2^7
theorem jU{x n:Nat}(hx:x<18446744073709551616):qG x n<2^64:=aeD hx
theorem afV{x n:Nat}(hx:x<18446744073709551616):x/2^n<2^64:=Nat.lt_of_le_of_lt (div_le_self _ _) hx
theorem Mg(s data:List Nat):yI s data=Qz 18446744073709551616 s (xu 18446744073709551616 s1F s0F Kt (yL 18446744073709551616 z1F z0F 64 (kG 8 16 data [])).reverse (O8.of s)):=rfl
theorem TD{l:List Nat}{i:Nat}(h:l.getD i 0=0):l.set i 0=l:=by grind [Nat.lt_or_ge,getD,getElem?_eq_getElem,set_getElem_self,set_eq_of_length_le]
section
variable{K:World}{F:List aA}
theorem Nc{br cap:Nat}{A:Option Addr}{s data:List Nat}(hr:∀i,i<80→Rd K F (some ⟨br,i,none⟩) (.int .u64 ((Kt.getD i 0:Nat):Int)))(hs:Seq K F A 128 1 (av .u8 data))(hd:aB 256 data)(rQ:s.length=8)(Pg:aB 18446744073709551616 s)(nO:128≤cap) :
 aL prog 241 #[ptr br 0,.agg (av .u64 s).toArray,.slice A 128 cap] K F (.agg (av .u64 (yI s data)).toArray):=by
 have uQ:data.length=128:=by have :=hs.len;rwa [au,Nat.mul_one] at this
 obtain⟨ks,rR⟩:∃ks,ks=Kt:=⟨_,rfl⟩;have wR:ks.length=80:=by rw[rR];decide
 have anq:aB 18446744073709551616 ks:=by rw[rR];unfold aB;decide
 rw[Mg,←rR];rw[←rR] at hr;obtain⟨Rw,hRw⟩:∃R,R=yL 18446744073709551616 z1F z0F 64 (kG 8 16 data []):=⟨_,rfl⟩;rw[←hRw];refine aC.en func241 ntmps241 ?_;refine aj "a9" fun b4=> ?_;refine aP "w" fun b6=> ?_;refine aP "Tw" fun b7=> ?_;refine aj "brbu" ?_;refine WC.loop (σ:=Nat×List Nat) (fun s=>[(0,ptr br 0),(2,.slice A 128 cap),(4,ptr b4 0),(6,ptr b6 0),(7,ptr b7 0),(26,.i ((s.1:Nat):Int))]) (fun t=>ah b7 307 (av .u64 t.2)::ah b6 309 (av .u64 (replicate 8 0))::ah b4 309 (av .u64 s)::F)
  (fun t=>t.1≤80∧t.2.length=80∧aB 18446744073709551616 t.2∧(∀j,t.1≤j→t.2.getD j 0=0)∧yL 18446744073709551616 z1F z0F (64-(t.1-16)) (kG 8 (16-t.1) (data.drop (8*t.1)) (t.2.take t.1).reverse)=Rw) (fun t=>80-t.1) (0,replicate 80 0) ⟨zero_le _,length_replicate,aB.vg aK,fun j _=>zK _ _,hRw.symm⟩ bM cu ?_
 rintro⟨i,ws⟩ ⟨hi,OY,pY,hz,hq⟩;dsimp only at hi OY pY hz hq ⊢;refine WC.sr (WL.val (V.zP (j:=80) (ak rfl) (ak rfl)) rfl ?_);refine aj "BE" (aX (fun aN=> ?_) fun aN=> ?_)
 ·simp only[dh] at aN;refine aj "1f" ?_;refine WL.val (V.zP (j:=16) (ak rfl) (ak rfl)) rfl ?_;refine aj "k" (aX (fun aR=> ?_) fun aR=> ?_)
  ·simp only[dh] at aR;have h1:=aR;rw[show 16-i=16-(i+1)+1 by omega,FE,drop_drop,show 64-(i-16)=64-(i+1-16) by omega] at hq;refine aP "rc~,c~," ?_;refine WL.val (V.wU (j:=8) (ak rfl) (ak rfl)) rfl ?_;refine WL.val (V.slice (m:=128) (cap:=cap) (l:=8*i) (h:=8*i+8) (u:=cap) eu (ak rfl) (OO.some (ak rfl) (fun _=>rfl)) (OO.some (ak rfl) (fun _=>rfl)) OO.none (by simp) ay ay ay) rfl ?_;have rJ:=Seq.rV hs (l:=8*i) (h:=8*i+8) (u:=cap) ay ay nO;obtain⟨A2,Pq⟩:∃A2,A2=(if cap=8*i then A else A.map (·.add (8*i*1))):=⟨_,rfl⟩;rw[←Pq] at rJ ⊢;rw[show 8*i+8-8*i=8 by omega] at rJ ⊢;obtain⟨d8,Gg⟩:∃d8,d8=(data.drop (8*i)).take 8:=⟨_,rfl⟩;rw[←Gg] at rJ hq;have ae1:aB 256 d8:=fun x hx=>hd x (by rw[Gg] at hx;exact mem_of_mem_drop (mem_of_mem_take hx));have arF:d8.length=8:=by rw[Gg,length_take,length_drop];omega
   refine aj "oP" ?_;refine WC.loop (σ:=Nat) (fun j=>[(0,ptr br 0),(2,.slice A 128 cap),(4,ptr b4 0),(6,ptr b6 0),(7,ptr b7 0),(26,.i ((i:Nat):Int)),(8,.i ((i:Nat):Int)),(37,.slice A2 8 (cap-8*i)),(38,.i ((8:Nat):Int)),(39,.i ((j:Nat):Int))]) (fun j=>ah b7 307 (av .u64 (ws.set i (be (d8.take j))))::ah b6 309 (av .u64 (replicate 8 0))::ah b4 309 (av .u64 s)::F)
    (fun j=>j≤8) (fun j=>8-j) 0 (zero_le _) bM (fun w h=>Sat.aS h (by rw[take_zero,show be []=0 from rfl,TD (hz i (Nat.le_refl _))])) ?_
   rintro j hj;refine aP "a~fBE" (aX (fun bB=> ?_) fun bB=> ?_)
   ·simp only[dh] at bB;have h2:=bB;have hr8:=(Seq.rF rJ h2);have hx8:d8.getD j 0<256:=ae1.at_ aK j;have aoz:be (d8.take j)<256^7:=Nat.lt_of_lt_of_le (aa6 fun x hx=>ae1 x (mem_of_mem_take hx)) (Nat.pow_le_pow_right aK (by rw[length_take];omega));rw[show (256:Nat)^7=72057594037927936 by decide] at aoz;refine aj "Ha" ?_;refine WL.val (V.kI (v:= .int .u8 ((d8.getD j 0:Nat):Int)) eu (ak rfl) (ak rfl) (hr:=fun _=>hr8.up.up.up)) rfl ?_;refine WL.val (V.dY (v:= .int .u8 ((d8.getD j 0:Nat):Int)) isAgg5 (ak rfl) (fun _=>hr8.up.up.up)) rfl ?_;refine aP "gQ~x" ?_;refine WL.val (V.dY (v:= .int .u64 ((be (d8.take j):Nat):Int)) isAgg306 (ak rfl) (fun _=>by
     have h:=Rd.nat (K:=K) (b:=b7) (T:=307) (k:= .u64) (H:=ah b6 309 (av .u64 (replicate 8 0))::ah b4 309 (av .u64 s)::F) (l:=ws.set i (be (d8.take j))) (o:=i) (by rw[length_set];omega)
     rwa [AA ay] at h)) rfl ?_
    refine WL.val (V.Jk (j:=8) (M:=18446744073709551616) (ak rfl) (ak rfl)) rfl (WL.mv rfl rfl (WL.val (V.rG runUnderlying5 runUnderlying306 (ak rfl)) rfl ?_));refine WL.val (V.ZG (i:=be (d8.take j)*2^8%18446744073709551616) (j:=d8.getD j 0) 64 (ak rfl) (ak rfl) (fun _=>⟨mod_lt _ aK,by omega⟩)) rfl ?_;rw[show be (d8.take j)*2^8%18446744073709551616 ||| d8.getD j 0=be (d8.take (j+1)) by
     rw[mod_eq_of_lt (show be (d8.take j)*2^8<18446744073709551616 by omega),vT ay,take_succ_eq_append_getElem ay,VA,getD,getElem?_eq_getElem ay];show _=_;simp only[Option.getD_some];omega]
    refine aP "~x~sbq<;" ?_;exact⟨j+1,(by show j+1≤8;omega),(by show 8-(j+1)<8-j;omega),.cons rfl bM,fun w h=>Sat.aS h (by rw[set_set])⟩
   ·simp only[dh] at bB;have h2:=bB;refine aP "RRq<;" ?_;first
     | (
      obtain rfl:j=8:=by omega
      refine⟨(i+1,_),⟨by show i+1≤80;omega,by show (ws.set i _).length=80;rw[length_set];exact OY,pY.set (Nat.lt_of_lt_of_le (aa6 fun x hx=>ae1 x (mem_of_mem_take hx)) (Nat.le_trans (Nat.pow_le_pow_right aK (show _≤8 by rw[length_take];omega)) aK)),fun k hk=> ?_, ?_⟩,(by show 80-(i+1)<80-i;omega),.cons rfl (.cons rfl (.cons rfl (.cons rfl (.cons rfl (.cons rfl (.nil _)))))),fun w h=>h⟩
      ·dsimp only at hk ⊢;rw[getD_set_ne ay];exact hz k ay
      ·dsimp only;rw[sw ay,take_of_length_le ay,show 8*(i+1)=8*i+8 by omega];exact hq)
     | (
      refine⟨(i+1,_),⟨by show i+1≤80;omega,by show (ws.set i _).length=80;rw[length_set];exact OY,pY.set (mod_lt _ aK),fun k hk=> ?_, ?_⟩,(by show 80-(i+1)<80-i;omega),.cons rfl (.cons rfl (.cons rfl (.cons rfl (.cons rfl (.cons rfl (.nil _)))))),fun w h=>h⟩
      ·dsimp only at hk ⊢;rw[getD_set_ne ay];exact hz k ay
      ·dsimp only;rw[sw ay,show 16-(i+1)=0 by omega,kG];exact hq)
  ·simp only[dh] at aR;have h1:=aR;refine aj ")" ?_;have hx:=pY.at_ aK (i-15);have hy:=pY.at_ aK (i-2);rw[show 64-(i-16)=64-(i+1-16)+1 by omega,IC,show 16-i=0 by omega,kG,Wx,oU ay ay,oU ay ay,oU ay ay,oU ay ay] at hq;refine aP "~AF0" ?_;refine UA.val 1 rfl (fun _=>V.rV (j:=15) (ak rfl) (ak rfl)) ?_;refine aP "~J2~t3F4" ?_;refine UA.val 5 rfl (fun _=>V.rV (j:=2) (ak rfl) (ak rfl)) ?_;refine aP "~J6~t7`8`9_" fun CJ=> ?_;simp only[map_cons,map_nil,cons_append,nil_append];refine aP "~!F0F1" ?_;refine UA.val 2 rfl (fun _=>V.rV (j:=16) (ak rfl) (ak rfl)) ?_;refine aP "~J3~=4F5" ?_;refine UA.call (vs:=[_,_]) 6 rfl call277 (fun _=>⟨ak rfl,ak rfl,trivial⟩) (fun H' hF=>gZ (n:=1) hx aK aK) ?_;refine aP "F7" ?_;refine UA.call (vs:=[_,_]) 8 rfl call277 (fun _=>⟨ak rfl,ak rfl,trivial⟩) (fun H' hF=>gZ (n:=8) hx aK aK) ?_;refine UA.val 9 rfl (fun _=>V.rU 64 (ak rfl) (ak rfl) (fun _=>⟨jU hx,jU hx⟩)) ?_;refine aP "F:" ?_;refine UA.val 11 rfl (fun _=>V.wO (j:=7) (ak rfl) (ak rfl)) ?_;refine UA.val 12 rfl (fun _=>V.rU 64 (ak rfl) (ak rfl) (fun _=>⟨xor_lt_two_pow (jU hx) (jU hx),afV hx⟩)) ?_;refine aP "~|=F>" ?_;refine UA.val 15 rfl (fun _=>V.rV (j:=7) (ak rfl) (ak rfl)) ?_;refine aP "~J@~=A~|BFC" ?_;refine UA.call (vs:=[_,_]) 20 rfl call277 (fun _=>⟨ak rfl,ak rfl,trivial⟩) (fun H' hF=>gZ (n:=19) hy aK aK) ?_;refine aP "FE" ?_;refine UA.call (vs:=[_,_]) 22 rfl call277 (fun _=>⟨ak rfl,ak rfl,trivial⟩) (fun H' hF=>gZ (n:=61) hy aK aK) ?_;refine UA.val 23 rfl (fun _=>V.rU 64 (ak rfl) (ak rfl) (fun _=>⟨jU hy,jU hy⟩)) ?_;refine aP "FH" ?_;refine UA.val 25 rfl (fun _=>V.wO (j:=6) (ak rfl) (ak rfl)) ?_;refine UA.val 26 rfl (fun _=>V.rU 64 (ak rfl) (ak rfl) (fun _=>⟨xor_lt_two_pow (jU hy) (jU hy),afV hy⟩)) ?_;refine aP "~|K~JL" ?_;refine UA.at_ 29 rfl sizeOf306 (fun _=>ak rfl) (fun _=>ak rfl) ?_;refine aP "_" fun bs2=> ?_;simp only[map_cons,map_nil,cons_append,nil_append];refine aP "q<;" ?_;first
    | (
     obtain rfl:j=8:=by omega
     refine⟨(i+1,_),⟨by show i+1≤80;omega,by show (ws.set i _).length=80;rw[length_set];exact OY,pY.set (Nat.lt_of_lt_of_le (aa6 fun x hx=>ae1 x (mem_of_mem_take hx)) (Nat.le_trans (Nat.pow_le_pow_right aK (show _≤8 by rw[length_take];omega)) aK)),fun k hk=> ?_, ?_⟩,(by show 80-(i+1)<80-i;omega),.cons rfl (.cons rfl (.cons rfl (.cons rfl (.cons rfl (.cons rfl (.nil _)))))),fun w h=>h⟩
     ·dsimp only at hk ⊢;rw[getD_set_ne ay];exact hz k ay
     ·dsimp only;rw[sw ay,take_of_length_le ay,show 8*(i+1)=8*i+8 by omega];exact hq)
    | (
     refine⟨(i+1,_),⟨by show i+1≤80;omega,by show (ws.set i _).length=80;rw[length_set];exact OY,pY.set (mod_lt _ aK),fun k hk=> ?_, ?_⟩,(by show 80-(i+1)<80-i;omega),.cons rfl (.cons rfl (.cons rfl (.cons rfl (.cons rfl (.cons rfl (.nil _)))))),fun w h=>h⟩
     ·dsimp only at hk ⊢;rw[getD_set_ne ay];exact hz k ay
     ·dsimp only;rw[sw ay,show 16-(i+1)=0 by omega,kG];exact hq)
 ·simp only[dh] at aN;refine aj "W" ?_;obtain rfl:i=80:=by omega
  rw[take_of_length_le ay] at hq;have hq:ws.reverse=Rw:=hq;have Xa:Rw.reverse=ws:=by rw[←hq,reverse_reverse]
  rw[Xa];obtain⟨Ro,hRo⟩:∃R,R=xu 18446744073709551616 s1F s0F ks ws (O8.of s):=⟨_,rfl⟩;rw[←hRo];refine aP "~A~~~h0~t1" ?_;refine UA.val 2 rfl (fun _=>V.fT (j:=1) Dl (ak rfl) (ak rfl)) ?_;refine aP "~t3" ?_;refine UA.val 4 rfl (fun _=>V.fT (j:=2) Dl (ak rfl) (ak rfl)) ?_;refine aP "~t5" ?_;refine UA.val 6 rfl (fun _=>V.fT (j:=3) Dl (ak rfl) (ak rfl)) ?_;refine aP "~t7" ?_;refine UA.val 8 rfl (fun _=>V.fT (j:=4) Dl (ak rfl) (ak rfl)) ?_;refine aP "~t9" ?_;refine UA.val 10 rfl (fun _=>V.fT (j:=5) Dl (ak rfl) (ak rfl)) ?_;refine aP "~t;" ?_;refine UA.val 12 rfl (fun _=>V.fT (j:=6) Dl (ak rfl) (ak rfl)) ?_;refine aP "~t=" ?_;refine UA.val 14 rfl (fun _=>V.fT (j:=7) Dl (ak rfl) (ak rfl)) ?_;refine aP "~t?`@`A`B`C`D`E`F`G_" fun bs3=> ?_;simp only[map_cons,map_nil,cons_append,nil_append];refine aj "rbu" ?_;refine WC.loop (σ:=Nat×O8) (fun t=>[(0,ptr br 0),(4,ptr b4 0),(6,ptr b6 0),(7,ptr b7 0),(13,.int .u64 ((t.2.a:Nat):Int)),(14,.int .u64 ((t.2.b:Nat):Int)),(15,.int .u64 ((t.2.c:Nat):Int)),(16,.int .u64 ((t.2.d:Nat):Int)),(17,.int .u64 ((t.2.e:Nat):Int)),(18,.int .u64 ((t.2.f:Nat):Int)),(19,.int .u64 ((t.2.g:Nat):Int)),(20,.int .u64 ((t.2.h:Nat):Int)),(107,.i ((t.1:Nat):Int))]) (fun _=>ah b7 307 (av .u64 ws)::ah b6 309 (av .u64 (replicate 8 0))::ah b4 309 (av .u64 s)::F)
   (fun t=>t.1≤80∧t.2.Ok 18446744073709551616∧xu 18446744073709551616 s1F s0F (ks.drop t.1) (ws.drop t.1) t.2=Ro) (fun t=>80-t.1) (0,O8.of s) ⟨zero_le _,O8.Iy aK Pg,hRo.symm⟩ bM cu ?_
  rintro⟨i,a,b,c,d,e,f,g,h⟩ ⟨hi,ho,hq⟩;have oK:=ho;obtain⟨ha,hb,hc,Zr,he,hf,hg,hh⟩:=ho;dsimp only at hi hq ha hb hc Zr he hf hg hh ⊢;refine WC.sr (WL.val (V.zP (j:=80) (ak rfl) (ak rfl)) rfl ?_);refine aj "BE" (aX (fun eF=> ?_) fun eF=> ?_)
  ·simp only[dh] at eF;have h3:=eF;rw[HY _ _ _ _ ay ay] at hq;refine aP "1t~AF0F1" ?_;refine UA.call (vs:=[_,_]) 2 rfl call277 (fun _=>⟨ak rfl,ak rfl,trivial⟩) (fun H' hF=>gZ (n:=14) he aK aK) ?_;refine aP "F3" ?_;refine UA.call (vs:=[_,_]) 4 rfl call277 (fun _=>⟨ak rfl,ak rfl,trivial⟩) (fun H' hF=>gZ (n:=18) he aK aK) ?_;refine UA.val 5 rfl (fun _=>V.rU 64 (ak rfl) (ak rfl) (fun _=>⟨jU he,jU he⟩)) ?_;refine aP "F6" ?_;refine UA.call (vs:=[_,_]) 7 rfl call277 (fun _=>⟨ak rfl,ak rfl,trivial⟩) (fun H' hF=>gZ (n:=41) he aK aK) ?_;refine UA.val 8 rfl (fun _=>V.rU 64 (ak rfl) (ak rfl) (fun _=>⟨xor_lt_two_pow (jU he) (jU he),jU he⟩)) ?_;refine aP "~|9F:F;" ?_;refine UA.val 12 rfl (fun _=>V.C9 64 (ak rfl) (ak rfl)) ?_;refine aP "F=" ?_;refine UA.val 14 rfl (fun _=>V.ajR (M:=18446744073709551616) (ak rfl)) ?_;refine aP "F?" ?_;refine UA.val 16 rfl (fun _=>V.C9 64 (ak rfl) (ak rfl)) ?_;refine UA.val 17 rfl (fun _=>V.rU 64 (ak rfl) (ak rfl)) ?_;refine aP "~|BFCFD~~1E~JF" ?_;refine UA.val 23 rfl (fun _=>V.dY (v:= .int .u64 ((ks.getD i 0:Nat):Int)) isAgg306 (ak rfl) (fun _=>(hr i h3).up.up.up)) ?_;refine aP "~|HFI~JJ~tK~|L`M_" fun bs4=> ?_;simp only[map_cons,map_nil,cons_append,nil_append];refine aj "e" ?_;refine WL.t2 call277 rfl rfl (gZ (n:=28) ha aK aK) rfl ?_;refine WL.mv rfl rfl (WL.t2 call277 rfl rfl (gZ (n:=34) ha aK aK) rfl ?_);refine WL.val (V.rU 64 (ak rfl) (ak rfl) (fun _=>⟨jU ha,jU ha⟩)) rfl ?_;refine WL.mv rfl rfl (WL.t2 call277 rfl rfl (gZ (n:=39) ha aK aK) rfl ?_);refine WL.val (V.rU 64 (ak rfl) (ak rfl) (fun _=>⟨xor_lt_two_pow (jU ha) (jU ha),jU ha⟩)) rfl ?_;refine aP "z~~*z~~*" ?_;refine WL.val (V.rU 64 (ak rfl) (ak rfl)) rfl (aP "z~~*" ?_);refine WL.val (V.rU 64 (ak rfl) (ak rfl)) rfl (aP "~NgQ~Nzzc~Nzcmmmmmmmgq<;" ?_);refine⟨(i+1,Ug 18446744073709551616 s1F s0F ⟨a,b,c,d,e,f,g,h⟩ (ks.getD i 0) (ws.getD i 0)),⟨by show i+1≤80;omega,WK aK _ _ oK _ _,hq⟩,(by show 80-(i+1)<80-i;omega), ?_,fun w h=>h⟩;rw[OU];exact .cons rfl bM
  ·simp only[dh] at eF;have h3:=eF;refine aj "WN" ?_;obtain rfl:i=80:=by omega
   rw[←wR,drop_length] at hq;have hq:O8.mk a b c d e f g h=Ro:=hq;rw[←hq];refine aj "hzzzc" ?_;refine WL.val (V.l7 (l:=O8.list ⟨a,b,c,d,e,f,g,h⟩) (vs:=[(0,_),(1,_),(2,_),(3,_),(4,_),(5,_),(6,_),(7,_)]) ⟨ak rfl,ak rfl,ak rfl,ak rfl,ak rfl,ak rfl,ak rfl,ak rfl,trivial⟩ rfl (vW _ _ _ _ _ _ _ _)) rfl ?_;obtain⟨ad,had⟩:∃ad,ad=Qz 18446744073709551616 s ⟨a,b,c,d,e,f,g,h⟩:=⟨_,rfl⟩;have aaX:ad.length=8:=by rw[had];rfl
   obtain⟨ol,J2⟩:∃ol,ol=O8.list ⟨a,b,c,d,e,f,g,h⟩:=⟨_,rfl⟩;have anr:ol.length=8:=by rw[J2];rfl
   have aic:∀k,k<8→(s.getD k 0+ol.getD k 0)%18446744073709551616=ad.getD k 0:=fun k hk=>by rw[J2,had];exact MK hk
   rw[←had,←J2];refine aj "P" ?_;refine WC.loop (σ:=Nat×List Nat) (fun t=>[(4,ptr b4 0),(6,ptr b6 0),(180,.agg (av .u64 ol).toArray),(181,.i ((t.1:Nat):Int))]) (fun t=>ah b7 307 (av .u64 ws)::ah b6 309 (av .u64 (replicate 8 0))::ah b4 309 (av .u64 t.2)::F)
    (fun t=>t.1≤8∧t.2=ad.take t.1++s.drop t.1) (fun t=>8-t.1) (0,s) ⟨zero_le _,rfl⟩ bM cu ?_
   rintro⟨i,st⟩ ⟨hi,dJ⟩;dsimp only at hi dJ ⊢;have qP:st.length=8:=by rw[dJ,length_append,length_take,length_drop];omega
   refine aP "a~~fBE" (aX (fun mZ=> ?_) fun mZ=> ?_)
   ·simp only[dh] at mZ;have h4:=mZ;have hsg:st.getD i 0=s.getD i 0:=by rw[dJ];exact QD aaX rQ h4
    refine aP "1~~gmgh~x~9c~N" ?_;rw[hsg,aic i h4];refine aP "~x~sbq<;" ?_;exact⟨(i+1,_),⟨by show i+1≤8;omega,by dsimp only;rw[dJ];exact R6 aaX rQ h4⟩,(by show 8-(i+1)<8-i;omega),.cons rfl bM,fun w h=>h⟩
   ·simp only[dh] at mZ;have h4:=mZ;refine aj "W" ?_;obtain rfl:i=8:=by omega
    rw[take_of_length_le ay,drop_of_length_le ay,append_nil] at dJ;rw[dJ];refine aP "qyv3" ?_;exact aG.ret (H':=F) (bI.one rfl (R1.cO (l:=ad) rfl ⟨isAgg309,sizeOf309⟩)) gy ⟨by rw[had],rfl⟩
end
structure Bs where
 A:Option Addr
 m:Nat
 cap:Nat
 l:List Nat
abbrev Bs.v(p:Bs):Value:= .slice p.A p.m p.cap
theorem JM(q r n:Nat):aB 256 (mg q r n):=by
 intro x hx;simp only[mg,mem_append,mem_cons,mem_reverse,mem_replicate] at hx;rcases hx with ((rfl | ⟨_,rfl⟩) | ⟨_,rfl⟩) | hx
 ·decide
 ·decide
 ·decide
 ·exact bJ aK _ _ x hx
theorem Qn{q r n:Nat}(hq:0<q)(hr:8≤r):(n+(mg q r n).length)%q=0:=by
 have h1:(mg q r n).length=1+(q-1-(n+r)%q)+(r-8)+8:=by simp[mg,aH];omega
 have h2:(n+r)%q<q:=mod_lt _ hq;rw[h1,show n+(1+(q-1-(n+r)%q)+(r-8)+8)=n+r+(q-(n+r)%q) by omega];have h3:=div_add_mod (n+r) q;rw[show n+r+(q-(n+r)%q)=q*((n+r)/q)+q by omega,add_mod_right,mul_mod_right]
theorem wW(n:Nat):∀s:List Nat,(s.flatMap fun x=>(bH 256 n x).reverse).length=n*s.length
 | []=>rfl
 | x::s=>by rw[flatMap_cons,length_append,wW n s,length_reverse,aH,length_cons,Nat.mul_add,Nat.mul_one,Nat.add_comm]
theorem M6{n x k:Nat}(hk:k<n):(bH 256 n x).reverse.getD k 0=x/256^(n-1-k)%256:=by
 rw[getD,getElem?_reverse (by rw[aH];exact hk),aH,←bW 256 n x (n-1-k) ay];rfl
theorem Ep(n:Nat):∀(s:List Nat) (i k:Nat),i<s.length→k<n→(s.flatMap fun x=>(bH 256 n x).reverse).getD (n*i+k) 0=s.getD i 0/256^(n-1-k)%256
 | [],_,_,h,_=>absurd h (not_lt_zero _)
 | x::s,0,k,_,hk=>by
  rw[flatMap_cons,Nat.mul_zero,Nat.zero_add,getD,getElem?_append_left (by rw[length_reverse,aH];exact hk)];exact M6 hk
 | x::s,i+1,k,h,hk=>by
  rw[flatMap_cons,getD,getElem?_append_right (by rw[length_reverse,aH,Nat.mul_add];omega),length_reverse,aH,show n*(i+1)+k-n=n*i+k by rw[Nat.mul_add];omega];exact Ep n s i k (by simpa using h) hk
theorem Bp(s data:List Nat):(yI s data).length=8:=by rw[Mg];rfl
theorem Nb(s data:List Nat):aB 18446744073709551616 (yI s data):=wB aK _ _
section
variable{K:World}{F:List aA}
theorem Vo{ps:List Bs}{P:Option Addr}{q cap:Nat}(hp:Seq K F P q 1 (ps.map Bs.v))(hb:∀p∈ps,Seq K F p.A p.m 1 (av .u8 p.l))(h8:aB 256 (ps.flatMap Bs.l))(hm:(ps.flatMap Bs.l).length≤100000000)(hq:q≤100) :
 aL prog 182 #[.slice P q cap] K F (.agg (av .u8 (pO (ps.flatMap Bs.l))).toArray):=by
 have nu:ps.length=q:=by have :=hp.len;rwa [length_map,Nat.mul_one] at this
 refine aC.en func182 ntmps182 ?_;refine aP "aw" fun b2=> ?_;refine aj "TfoP" ?_;refine WC.loop (σ:=Nat×Option Addr×Nat) (fun s=>[(2,ptr b2 0),(3,.slice s.2.1 ((ps.take s.1).flatMap Bs.l).length s.2.2),(13,.slice P q cap),(14,.i ((q:Nat):Int)),(15,.i ((s.1:Nat):Int))]) (fun s=>bq (.slice s.2.1 ((ps.take s.1).flatMap Bs.l).length s.2.2) 5 1 ((ps.take s.1).flatMap Bs.l).length (av .u8 ((ps.take s.1).flatMap Bs.l))::ah b2 256 (av .u8 (replicate 64 0))::F)
  (fun s=>s.1≤q) (fun s=>q-s.1) (0,none,0) (zero_le _) bM (fun w h=>h.iG _ _) ?_
 rintro⟨i,A,cp⟩ hi;dsimp only at hi ⊢;refine aP "a~fBE" (aX (fun aN=> ?_) fun aN=> ?_)
 ·simp only[dh] at aN;have h0:=aN;obtain⟨p,hpi⟩:∃p,p=ps[i]'ay:=⟨_,rfl⟩;have BR:p∈ps:=by rw[hpi];exact getElem_mem _
  have hpb:=hb p BR;have Xf:p.l.length=p.m:=by have :=hpb.len;rwa [au,Nat.mul_one] at this
  have lJ:Rd K F (P.map (·.add i)) p.v:=hp.rd i p.v (by rw[getElem?_map,getElem?_eq_getElem ay,←hpi];rfl);have AP:(ps.take (i+1)).flatMap Bs.l=(ps.take i).flatMap Bs.l++p.l:=by rw[take_succ_eq_append_getElem ay,flatMap_append,←hpi];simp
  have hlen:((ps.take i).flatMap Bs.l).length+p.m≤100000000:=by
   rw[←Xf,←length_append,←AP];refine Nat.le_trans ?_ hm
   conv=>rhs;rw[←take_append_drop (i+1) ps]
   rw[flatMap_append,length_append];exact le_add_right _ _
  refine aj "Ha" ?_;refine WL.val (V.kI (v:=p.v) adY (ak rfl) (ak rfl) (hr:=fun _=>lJ.up.up)) rfl ?_;refine WL.val (V.load (v:=p.v) isAgg34 (ak rfl) (fun _=>lJ.up.up)) rfl ?_;refine aP "gQ~X" fun A21 c21 aku ak1=> ?_;refine aP "gq<;" ?_;refine⟨(i+1,A21,c21),(by show i+1≤q;omega),(by show q-(i+1)<q-i;omega), ?_,fun w h=> ?_⟩
  ·dsimp only;rw[AP,length_append,Xf];exact .cons rfl bM
  ·dsimp only;rw[AP,length_append,Xf];exact h
 ·simp only[dh] at aN;have h0:=aN;refine aj "W" ?_;obtain rfl:i=q:=by omega
  rw[←nu,take_length];obtain⟨all,rO⟩:∃all,all=ps.flatMap Bs.l:=⟨_,rfl⟩;rw[←rO] at h8 hm ⊢;obtain⟨ks,rR⟩:∃ks,ks=Kt:=⟨_,rfl⟩;have wR:ks.length=80:=by rw[rR];decide
  obtain⟨hs0,hhs⟩:∃hs0,hs0=TT:=⟨_,rfl⟩;have hhl:hs0.length=8:=by rw[hhs];decide
  have amA:aB 18446744073709551616 hs0:=by rw[hhs];unfold aB;decide
  refine WC.region ?_;refine WL.call (vs:=[]) call238 trivial (KP.eq (v':= .agg (av .u64 ks).toArray) (by rw[rR])) rfl ?_;rintro _ H0 ⟨rfl,h0⟩;subst H0;refine WL.call (vs:=[]) call239 trivial (NU.eq (v':= .agg (av .u64 hs0).toArray) (by rw[hhs])) rfl ?_;rintro _ H0 ⟨rfl,h0⟩;subst H0;refine aP "w" fun b6=> ?_;refine aP "w" fun b7=> ?_;refine aP "vvbr" ?_;refine WL.c1 call240 rfl (TW (bq.seq (by rw[au,Nat.mul_one])).up.up hm) rfl ?_;rintro _ _ ⟨A',M,cap',hM,rfl,hMc,rfl⟩;obtain⟨pd,hpd⟩:∃pd,pd=all++mg 128 16 all.length:=⟨_,rfl⟩;have rP:aB 256 pd:=by rw[hpd];intro x hx;rcases mem_append.1 hx with h | h;exact h8 x h;exact JM _ _ _ x h
  have hpz:pd.length%128=0:=by rw[hpd,length_append];exact Qn aK aK
  rw[←hpd] at hM;obtain⟨R,hR⟩:∃R,R=dB yI 128 (pd.length/128) pd hs0:=⟨_,rfl⟩;rw[←hpd];refine aj "gu" ?_;refine WC.loop (σ:=(Nat×Option Addr×Nat)×List Nat×List Nat) (fun t=>[(2,ptr b2 0),(6,ptr b6 0),(7,ptr b7 0),(8,.slice t.1.2.1 (128*t.1.1) t.1.2.2)]) (fun t=>ah b7 309 (av .u64 t.2.2)::bq (.slice A' M cap') 5 1 M (av .u8 pd)::ah b6 307 (av .u64 ks)::bq (.slice A all.length cp) 5 1 all.length (av .u8 all)::ah b2 256 (av .u8 (replicate 64 0))::F)
   (fun t=>(∀H,Sl.Seq K (bq (.slice A' M cap') 5 1 M (av .u8 pd)::H) t.1.2.1 (128*t.1.1) 1 (av .u8 t.2.1))∧128*t.1.1≤t.1.2.2∧aB 256 t.2.1∧t.2.2.length=8∧aB 18446744073709551616 t.2.2∧dB yI 128 t.1.1 t.2.1 t.2.2=R) (fun t=>t.1.1) ((pd.length/128,A',cap'),pd,hs0) ⟨fun H=>by
    show Sl.Seq K _ A' (128*(pd.length/128)) 1 _;rw[show 128*(pd.length/128)=M by omega];exact bq.seq (by rw[au,hM,Nat.mul_one]),by show 128*(pd.length/128)≤cap';omega,rP,hhl,amA,hR.symm⟩ (.cons rfl (.cons rfl (.cons rfl (.cons (look_eq rfl (by congr 1<;>(dsimp only;omega))) (.nil _))))) (fun w h=>h.aY 5 [1,0,2,3,4] rfl) ?_
  rintro⟨⟨r,A8,c8⟩,dt,st⟩ ⟨Pm,Ka,Zu,qP,Nn,Hq⟩;dsimp only at Pm Ka Zu qP Nn Hq ⊢;have uQ:dt.length=128*r:=by have :=(Pm []).len;rwa [au,Nat.mul_one] at this
  refine aP "ro~<k" (aX (fun aR=> ?_) fun aR=> ?_)
  ·simp only[dh] at aR;have h1:=aR;obtain⟨r,rfl⟩:∃k,r=k+1:=⟨r-1,by omega⟩;rw[dB] at Hq;refine aj "H" ?_;have BQ:=Bp st (dt.take 128);refine WC.DC 1 rfl ?_;refine UA.Pz 0 rfl (fun _=>V.ji ⟨isAgg309,sizeOf309⟩ (ak rfl)) ?_;refine aP "F1" ?_;refine UA.val 2 rfl (fun _=>V.aI (v':= .slice A8 128 c8) (V.slice (m:=128*(r+1)) (cap:=c8) (l:=0) (h:=128) (u:=c8) eu (ak rfl) OO.none (OO.some (ak rfl) (fun _=>rfl)) OO.none (by simp) ay ay ay) (fun _=>by rw[zQ,Nat.sub_zero,Nat.sub_zero])) ?_;refine UA.call (vs:=[_,_,_]) 3 rfl call241 (fun _=>⟨ak rfl,ak rfl,ak rfl,trivial⟩) (fun H' hF=>Nc (s:=st) (data:=dt.take 128) (A:=A8) (fun i hi=>by
    have h5:Rd K (ah b6 307 (av .u64 ks)::bq (.slice A all.length cp) 5 1 all.length (av .u8 all)::ah b2 256 (av .u8 (replicate 64 0))::F) (some ⟨b6,i,none⟩) (.int .u64 ((ks.getD i 0:Nat):Int)):=Rd.nat ay;rw[←rR];exact fun w hw=>h5.up w (hF w hw)) ((by have h6:=(Pm (ah b6 307 (av .u64 ks)::bq (.slice A all.length cp) 5 1 all.length (av .u8 all)::ah b2 256 (av .u8 (replicate 64 0))::F)).take (show 128≤128*(r+1) by omega);rw[dR] at h6;exact h6.sat hF)) (fun x hx=>Zu x (mem_of_mem_take hx)) qP Nn ay) ?_
   refine UA.lV 4 rfl sizeOf309 (fun _=>ak rfl) (fun _=>ak rfl) ?_;refine aP "_" fun CJ=> ?_;simp only[map_cons,map_nil,cons_append,nil_append];refine aj "h" ?_;refine WL.val (V.slice (m:=128*(r+1)) (cap:=c8) (l:=128) (h:=128*(r+1)) (u:=c8) eu (ak rfl) (OO.some (ak rfl) (fun _=>rfl)) OO.none OO.none (by simp) ay ay ay) rfl ?_;refine aj "4" ?_;refine⟨((r,_,c8-128),dt.drop 128,yI st (dt.take 128)),⟨fun H=> ?_,by show 128*r≤c8-128;omega,fun x hx=>Zu x (mem_of_mem_drop hx),Bp _ _,Nb _ _,Hq⟩,(by show r<r+1;omega),.cons rfl (.cons rfl (.cons rfl (.cons (look_eq rfl (by congr 1<;>(dsimp only;omega))) (.nil _)))),fun w h=>h⟩;have h7:=Seq.rV (Pm H) (l:=128) (h:=128*(r+1)) (u:=c8) ay (Nat.le_refl _) Ka;rw[take_of_length_le (by rw[length_drop];omega),show 128*(r+1)-128=128*r by omega] at h7;exact h7
  ·simp only[dh] at aR;have h1:=aR;refine aj "W" ?_;obtain rfl:r=0:=by omega
   rw[dB] at Hq;rw[Hq] at qP ⊢;obtain⟨L,hL⟩:∃L,L=R.flatMap (fun x=>(bH 256 8 x).reverse):=⟨_,rfl⟩;have hLl:L.length=64:=by rw[hL,wW,qP]
   have hLg:∀i k,i<8→k<8→L.getD (8*i+k) 0=R.getD i 0/2^(56-8*k)%256:=fun i k hi hk=>by
    rw[hL,Ep 8 R i k ay hk,show (2:Nat)^(56-8*k)=256^(8-1-k) by rw[show 56-8*k=8*(8-1-k) by omega,Nat.pow_mul]]
   have tT:pO all=L:=by
    rw[hL,hR,hhs,hpd];rw[pO,length_append]
   rw[tT];refine aP "qw" fun b9=> ?_;refine aP "BayP" ?_;refine WC.loop (σ:=Nat) (fun i=>[(2,ptr b2 0),(9,ptr b9 0),(36,.agg (av .u64 R).toArray),(37,.i ((i:Nat):Int))]) (fun i=>ah b9 256 (av .u8 (L.take (8*i)++replicate (64-8*i) 0))::ah b7 309 (av .u64 R)::bq (.slice A' M cap') 5 1 M (av .u8 pd)::ah b6 307 (av .u64 ks)::bq (.slice A all.length cp) 5 1 all.length (av .u8 all)::ah b2 256 (av .u8 (replicate 64 0))::F)
    (fun i=>i≤8) (fun i=>8-i) 0 (zero_le _) bM cu ?_
   rintro i hi;refine aP "a~~fBE" (aX (fun bB=> ?_) fun bB=> ?_)
   ·simp only[dh] at bB;have h2:=bB;refine aP "1~~gmjbu" ?_;refine WC.loop (σ:=Nat) (fun k=>[(2,ptr b2 0),(9,ptr b9 0),(36,.agg (av .u64 R).toArray),(37,.i ((i:Nat):Int)),(10,.i ((i:Nat):Int)),(11,.int .u64 ((R.getD i 0:Nat):Int)),(41,.i ((k:Nat):Int))]) (fun k=>ah b9 256 (av .u8 (L.take (8*i+k)++replicate (64-(8*i+k)) 0))::ah b7 309 (av .u64 R)::bq (.slice A' M cap') 5 1 M (av .u8 pd)::ah b6 307 (av .u64 ks)::bq (.slice A all.length cp) 5 1 all.length (av .u8 all)::ah b2 256 (av .u8 (replicate 64 0))::F)
     (fun k=>k≤8) (fun k=>8-k) 0 (zero_le _) bM cu ?_
    rintro k hk;have oJ:(L.take (8*i+k)++replicate (64-(8*i+k)) 0).length=64:=by rw[length_append,length_take,length_replicate];omega
    refine aP "a~~fBE" (aX (fun eF=> ?_) fun eF=> ?_)
    ·simp only[dh] at eF;have h3:=eF;refine aP "1gh~,c~Kz~," ?_;refine WL.val (V.rV (i:=56) (ak rfl) (ak rfl)) rfl (aP "~0" ?_);refine WL.val (V.I7 (i:=R.getD i 0/2^(56-8*k)) (M:=256) runUnderlying306 runUnderlying5 (ak rfl)) rfl ?_;rw[←hLg i k h2 h3];refine aP "~x~sbq<;" ?_;refine⟨k+1,(by show k+1≤8;omega),(by show 8-(k+1)<8-k;omega),.cons rfl bM,fun w h=>Sat.aS h (by rw[qL hLl ay,Nat.add_assoc])⟩
    ·simp only[dh] at eF;have h3:=eF;refine WC.exit ?_;obtain rfl:k=8:=by omega
     refine aP "q<;" ?_;exact⟨i+1,(by show i+1≤8;omega),(by show 8-(i+1)<8-i;omega),.cons rfl bM,fun w h=>h⟩
   ·simp only[dh] at bB;have h2:=bB;refine aj "W" ?_;obtain rfl:i=8:=by omega
    rw[take_of_length_le ay,Nat.sub_self,replicate_zero,append_nil];refine aP "qyv3" ?_;exact aG.ret (H':=F) (bI.one rfl (R1.cO (l:=L) rfl ⟨isAgg256,sizeOf256⟩)) gy ⟨rfl,rfl⟩
end
end Go.Proofs.YtcedojacbhnbiaaGreat
namespace Go.Sl
open Go Go.RowKit Go.Proofs.YtcedojacbhnbiaaGreat List Nat
section
variable{Mo:Mode}{P:Program}{K:World}{n:Nat}{e:Env}{H:List aA}{c:Bool}{dst:Option Tmp}{ty:TypeId}{pos:String}{af:Array Edge}{gd:Option (Nat×Bool)}
theorem V.Z8{x:Operand}{T m q cap E:Nat}{A:Option Addr}(hT:∀w,(underlying T).run P w= .ok (.array m E) w)(hx:OV c e x (.slice A q cap))(h:c=true→m≤q):eX Mo P K n c e H ⟨dst,.sliceToArrayPointer T x,ty,pos,af,gd⟩ (.pointer A):=fun hc a w ha _=>by
 show ((do pure (Next.value (←Instr.arrayAt T (a.eval x)))):Sem Next).run P w=_;rw[hx.ev hc ha];simp[Instr.arrayAt,hT w,Nat.not_lt.2 (h hc)]
theorem V.V5{x:Operand}{T s:Nat}{A:Option Addr}{k:IntKind}{l:List Nat}(hT:Ue P T s)(hx:OV c e x (.pointer A))(hr:c=true→Seq K H A s 1 (av k l))(hs:blt 0 s=true:=by rfl):eX Mo P K n c e H ⟨dst,.load T x,ty,pos,af,gd⟩ (.agg (av k l).toArray):=fun hc a w ha hw=>by
 show ((do pure (Next.value (←Instr.loadAt T (a.eval x)))):Sem Next).run P w=_;rw[hx.ev hc ha];have h0:=hr hc;have hlen:(av k l).length=s:=by have :=h0.len;rwa [Nat.mul_one] at this
 have hs0:0<s:=le_of_ble_eq_true hs;cases A with
 | none =>
  obtain⟨a',h1,_⟩:=h0.rd 0 ((av k l)[0]'ay) (getElem?_eq_getElem _) w hw;cases h1
 | some ad =>
  have h1:=run_loadCells_list (P:=P) w ad (av k l) (fun j v hj=>by
   obtain⟨a',h1,h2⟩:=h0.rd j v hj w hw;injection h1 with h1;subst h1;exact h2)
  subst hlen;simp[Instr.loadAt,Instr.sureAddr,loadVar,hT.1 w,hT.2 w,h1]
end
end Go.Sl
namespace Go.Proofs.YtcedojacbhnbiaaGreat
open Go.Sl Go.RowKit Tryz List Nat
set_option exponentiation.threshold 5000
theorem OA(l:List Nat):aB 256 (pO l):=by
 intro x hx;unfold pO at hx;obtain⟨y,_,hy⟩:=mem_flatMap.1 hx;exact bJ aK _ _ x (mem_reverse.1 hy)
theorem F4{f:List Nat→List Nat→List Nat}{q n:Nat}(hf:∀s d,(f s d).length=n):∀(k:Nat) (d s:List Nat),s.length=n→(dB f q k d s).length=n
 | 0,_,_,h=>h
 | k+1,d,s,_=>F4 hf k _ _ (hf _ _)
theorem TL(l:List Nat):(pO l).length=64:=by
 rw[pO,wW,F4 Bp _ _ _ aK]
theorem Vb{n:Nat}(h:n<cL):n<115792089237316195423570985008687907853269984665640564039457584007913129639936:=Nat.lt_trans h Rm
section
variable{K:World}{F:List aA}
theorem NJ{ps:List Bs}{P:Option Addr}{q cap:Nat}(hp:Seq K F P q 1 (ps.map Bs.v))(hb:∀p∈ps,Seq K F p.A p.m 1 (av .u8 p.l))(h8:aB 256 (ps.flatMap Bs.l))(hm:(ps.flatMap Bs.l).length≤100000000)(hq:q≤100) :
 aL prog 145 #[.slice P q cap] K F (p9 (JJ (ps.flatMap Bs.l))):=by
 obtain⟨L,hL⟩:∃L,L=pO (ps.flatMap Bs.l):=⟨_,rfl⟩;have hLl:L.length=64:=by rw[hL,TL]
 have hLs:aB 256 L:=by rw[hL];exact OA _
 rw[JJ,←hL];refine aC.en func145 ntmps145 ?_;refine aP "aw" fun b2=> ?_;refine aj "be" ?_;refine WL.t1 call182 rfl ((Vo (hp.up) (fun p h=>(hb p h).up) h8 hm hq).eq (v':= .agg (av .u8 L).toArray) (by rw[hL])) rfl ?_;refine aP "w" fun b3=> ?_;refine aP "vT" ?_;refine WL.val (V.kY afW (ak rfl)) rfl (WL.t1 call208 rfl (Kz (Seq.qc hLl) hLs aK) rfl ?_);refine aP "v3" ?_;exact aG.ret (H':=F) (bI.one rfl (R1.cO (l:=bH 256 32 _) rfl ⟨isAgg97,sizeOf97⟩)) gy ⟨rfl,rfl⟩
end
section
variable{K:World}{F:List aA}
end
end Go.Proofs.YtcedojacbhnbiaaGreat
