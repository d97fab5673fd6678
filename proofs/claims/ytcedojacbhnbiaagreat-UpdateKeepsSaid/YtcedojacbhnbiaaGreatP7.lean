import Derived.Test.YtcedojacbhnbiaaGreatP6
import Derived.Recover
import Derived.Scope
set_option autoImplicit true
set_option linter.all false
set_option maxHeartbeats 2000000
set_option maxRecDepth 20000
set_option relaxedAutoImplicit true
namespace Go.Proofs.YtcedojacbhnbiaaGreat
open Go.Sl Go.RowKit Tryz List Nat
theorem ZV(hd:tZ t d m=some (p,k)):p.1.length=d.length:=by grind [tZ,ug]
theorem SQ(hr:raw.length=kI S B t)(he:(gK t S B raw).err=0):(gK t S B raw).d.length=S*B:=by
 unfold gK at he ⊢;split at he
 ·rename_i h;exact absurd he h
 ·rename_i h;rw[if_neg h];have key:∀(l:List (Option (LL×Nat))) (d:List Nat) (n:Nat),(∀o∈l,∀p k,o=some (p,k)→p.1.length=B)→(lV l d n).err=0→(lV l d n).d.length=d.length+l.length*B:=fun l=>by
   induction l with
   | nil=>intro d n _ _;show d.length=_;simp
   | cons o l ih =>
    intro d n h he;cases o with
    | none=>exact absurd he (by show ¬(50=0);decide)
    | some r =>
     obtain⟨p,k⟩:=r;rw[lV] at he ⊢;have h1:=ih (d++p.1) (max n k) (fun o ho=>h o (.tail _ ho)) he;have h2:=h _ (.head _) p k rfl;rw[length_append] at h1;rw[length_cons,succ_mul];omega
  have :=key ((List.range S).map (FY t B (B+aR t) raw)) [] 0 (fun o ho p k hp=>by
   obtain⟨j,hj,rfl⟩:=mem_map.1 ho;have hj:=mem_range.1 hj;unfold FY at hp;rw[ZV hp];unfold F4;have h3:(j+1)*(B+aR t)≤S*(B+aR t):=mul_le_mul_right _ hj;rw[succ_mul] at h3;rw[length_take,length_drop,hr];unfold kI;omega) he
  rw[length_map,length_range] at this
  simpa using this
theorem Cw.Ok.Si{C:Cw}(hC:C.Ok)(he:(C.aC.bY b p).err=0):(C.aC.bY b p).d.length=C.g.room.toNat:=by
 have hg:=hC.aU;unfold aD.bY at he ⊢;split at he
 ·rename_i h;exact absurd he h
 ·rename_i h;rw[if_neg h];have h0:(gK C.aC.g.fl.toNat C.aC.g.se.toNat C.aC.g.sb.toNat (C.aC.kI b p)).err=0:=by
   have Za:((gK C.aC.g.fl.toNat C.aC.g.se.toNat C.aC.g.sb.toNat (C.aC.kI b p)).err:Int)=0:=he;omega
  have h1:=SQ (by rw[(hC.uO b p).2.2,bQ.uZ hg,Int.toNat_natCast];rfl) h0;show (gK _ _ _ _).d.length=_;rw[h1,bQ.Jv hg,Int.toNat_natCast];rfl
theorem bQ.Ll{g:bQ}(hg:g.aU)(h:g.fits n=true):0≤g.bN n∧g.bN n≤g.pg-1∧n≤g.bN n*g.room∧(n≤0→g.bN n=0):=by
 have hr:=bQ.kP hg;have uJ:=hg;unfold bQ.aU at uJ;unfold bQ.fits at h;simp only[Bool.and_eq_true,decide_eq_true_eq] at h;have h1:=Int.emod_add_mul_ediv (n+g.room-1) g.room;have h2:=Int.emod_lt_of_pos (n+g.room-1) (show 0<g.room by omega);have h3:=Int.emod_nonneg (n+g.room-1) (show g.room≠0 by omega);have hq:g.bN n=(n+g.room-1)/g.room:=rfl;rw[←hq,Int.mul_comm] at h1;have h4:0≤g.bN n:=by rw[hq];exact Int.ediv_nonneg ay ay
 refine⟨h4, ?_,by omega,fun hn=> ?_⟩
 ·have h5:g.bN n*g.room≤g.cap+g.room-1:=by omega
  have h6:g.cap+g.room=g.pg*g.room:=by unfold bQ.cap;rw[Int.sub_mul,Int.one_mul];omega
  have h7:g.bN n*g.room<g.pg*g.room:=ay;have :=Int.lt_of_mul_lt_mul_right h7 ay;omega
 ·have :n=0:=by omega
  rw[hq,this];exact Int.ediv_eq_zero_of_lt ay ay
def iA(S:aD)(b:Int)(n0:Nat):Nat→aD.Got
 | 0=>⟨0,[],n0⟩
 | k+1=>if (iA S b n0 k).err≠0 then iA S b n0 k
  else if (S.bY b (1+(k:Int))).err≠0 then ⟨(S.bY b (1+(k:Int))).err,[],0⟩
  else ⟨0,(iA S b n0 k).d++(S.bY b (1+(k:Int))).d,max (iA S b n0 k).n (S.bY b (1+(k:Int))).n⟩
theorem KX(h:(iA S b n0 k).err≠0):∀m,iA S b n0 (k+m)=iA S b n0 k
 | 0=>rfl
 | m+1=>by rw[←Nat.add_assoc,iA,KX h m,if_pos h]
def dZ(S:aD)(T:St)(aS:Int):aD.Got×St :=
 if T.ready aS≠0 then (⟨T.ready aS,[],0⟩,T)
 else if T.lF aS<0 then (⟨5,[],0⟩,T)
 else if (S.bY (T.lF aS) 0).err≠0 then (⟨(S.bY (T.lF aS) 0).err,[],0⟩,T.told (S.bY (T.lF aS) 0).err)
 else if iR S.g (S.bY (T.lF aS) 0).d≠0 then (⟨iR S.g (S.bY (T.lF aS) 0).d,[],0⟩,T)
 else if (iA S (T.lF aS) (S.bY (T.lF aS) 0).n (S.g.bN (gQ S.g (S.bY (T.lF aS) 0).d).len).toNat).err≠0 then
  (⟨(iA S (T.lF aS) (S.bY (T.lF aS) 0).n (S.g.bN (gQ S.g (S.bY (T.lF aS) 0).d).len).toNat).err,[],0⟩,T.told (iA S (T.lF aS) (S.bY (T.lF aS) 0).n (S.g.bN (gQ S.g (S.bY (T.lF aS) 0).d).len).toNat).err)
 else (⟨0,(iA S (T.lF aS) (S.bY (T.lF aS) 0).n (S.g.bN (gQ S.g (S.bY (T.lF aS) 0).d).len).toNat).d.take (gQ S.g (S.bY (T.lF aS) 0).d).len.toNat,(iA S (T.lF aS) (S.bY (T.lF aS) 0).n (S.g.bN (gQ S.g (S.bY (T.lF aS) 0).d).len).toNat).n⟩,T)
theorem ad8(hn:n≤m):∀w,Sat K w (aV (.slice A m cap) E 1 m cs::F)→Sat K w (aV (.slice A n cap) E 1 n (cs.take n)::F):=fun w h=>by
 cases A with
 | none =>
  obtain⟨h1,h2,h3⟩:=aV.yM h;obtain rfl:n=0:=by omega
  subst h1 h2 h3;exact h
 | some a =>
  obtain⟨g,rfl⟩:=aV.addr h;obtain⟨r,⟨h1,h2,h3,h4⟩,h5⟩:=Sat.nU h;have h6:=Sat.BX (m:=n) (cap:=cap) (s:=1) h5 h1 ay h4;rw[Nat.mul_one,take_append_of_le_length ay] at h6;exact h6
theorem QV(hg:g.aU)(h:iR g d=0):(gQ g d).may g=true∧jr g d=some (gQ g d):=by
 unfold iR at h;unfold gQ;cases hp:jr g d with
 | none=>rw[hp] at h;dsimp only at h;split at h<;>cases h
 | some x=>exact⟨(um hg hp).2.1,rfl⟩
theorem AA{T:bZ}{C:Cw}(hC:C.Ok)(hg:C.g=g)(hT:T.Ok g)(aS:Int):aB prog 26 #[ptr bs 0,.i aS] K (C.A bc::dA bd bc g::T.A bs bd g::F)
 (fun v H'=>∃(A':Option Addr) (c':Nat) (T':bZ),T'.Ok g∧T'.aC=(dZ C.aC T.aC aS).2∧v= .tuple #[.slice A' (dZ C.aC T.aC aS).1.d.length c',.i ((dZ C.aC T.aC aS).1.n:Nat),.i (dZ C.aC T.aC aS).1.err] ∧
  H'=aV (.slice A' (dZ C.aC T.aC aS).1.d.length c') 5 1 (dZ C.aC T.aC aS).1.d.length (av .u8 (dZ C.aC T.aC aS).1.d)::C.A bc::dA bd bc g::T'.A bs bd g::F):=by
 have yO:g.aU:=by rw[←hg];exact hC.aU
 have Od:C.aC.g=g:=hg;have RN:=bQ.kP yO;have uJ:=yO;unfold bQ.aU at uJ;obtain⟨X,hX⟩:∃X,X=dZ C.aC T.aC aS:=⟨_,rfl⟩;rw[←hX];unfold dZ at hX;rw[Od] at hX;have BG:T.aC.ready aS=0→0≤aS∧aS<T.stands.length:=fun h=>by
  unfold St.ready bZ.aC at h;dsimp only at h;split at h
  ·cases h
  ·split at h
   ·cases h
   ·omega
 refine aB.en func26 ntmps26 ?_;refine aj "allfc~~h" ?_;refine WL.c2 call61 rfl rfl (xk aS) rfl ?_;rintro _ _ ⟨rfl,rfl⟩;refine aj "~~gjsb~e" (aW (fun h0=> ?_) fun h0=> ?_)
 ·rw[if_pos h0] at hX;refine aj "elC" ?_;subst hX;exact aF.ret (H':=aV (.slice none 0 0) 5 1 0 []::C.A bc::dA bd bc g::T.A bs bd g::F) (bJ.Bl rfl rfl rfl rfl) (fun w h=>Sat.gI h _ _) ⟨none,0,T,hT,rfl,rfl,rfl⟩
 ·have KC:T.aC.ready aS=0:=ay;rw[if_neg (fun h=>h KC)] at hX;have Oe:=BG KC;obtain⟨b,hb⟩:∃b,b=T.aC.lF aS:=⟨_,rfl⟩;rw[←hb] at hX;have tu:∀ {X Y:aH},Rd K (X::Y::T.A bs bd g::F) (T.sA.map (·.add (aS.toNat*1))) (.i b):=fun {X Y}=>by rw[hb];exact Rd.up (Rd.up (bZ.rdS Oe))
  refine aj "US" ?_;refine WL.val (V.load isAgg124 (ak rfl) (fun _=>Rd.up (Rd.up (bZ.FH 6 _ rfl)))) rfl ?_;refine WL.mv rfl rfl ?_;refine WL.val (V.dw eB (ak rfl) (ak rfl) (fun _=>Oe) (fun _=>tu)) rfl ?_;refine WL.val (V.load isAgg3 (ak rfl) (fun _=>tu)) rfl ?_;refine aj "f4bZ" (aW (fun h1=> ?_) fun h1=> ?_)
  ·rw[if_pos h1] at hX;refine aj "alC" ?_;subst hX;exact aF.ret (H':=aV (.slice none 0 0) 5 1 0 []::C.A bc::dA bd bc g::T.A bs bd g::F) (bJ.Bl rfl rfl rfl rfl) (fun w h=>Sat.gI h _ _) ⟨none,0,T,hT,rfl,rfl,rfl⟩
  ·rw[if_neg h1] at hX;refine aj "US" ?_;refine WL.val (V.load isAgg70 (ak rfl) (fun _=>Rd.up (Rd.up (bZ.FH 0 _ rfl)))) rfl ?_;refine WL.mv rfl rfl (WL.c3 call90 rfl rfl rfl (xB hC hg b 0) rfl ?_);rintro _ _ ⟨Ad,cd,rfl,rfl⟩;obtain⟨G,hG⟩:∃G,G=C.aC.bY b 0:=⟨_,rfl⟩;have hGf:=hC.rQ b 0;rw[←hG] at hGf hX ⊢;refine aj "6~Mllfsb~e" (aW (fun h2=> ?_) fun h2=> ?_)
   ·rw[if_pos h2] at hX;refine aj "ec" ?_;refine WL.sub (Sub.refl _) (fun w h=>h.bg 4 [3,1,2] rfl) ?_;refine WL.c2 call65 rfl rfl (qx G.err) rfl ?_;rintro _ _ ⟨rfl,rfl⟩;refine aj "lC" ?_;subst hX;exact aF.ret (H':=aV (.slice none 0 0) 5 1 0 []::C.A bc::dA bd bc g::(T.told G.err).A bs bd g::F) (bJ.Bl rfl rfl rfl rfl) (fun w h=>Sat.gI (h.bg 3 [1,2,0] rfl) _ _) ⟨none,0,T.told G.err,hT.told _,rfl,rfl,rfl⟩
   ·rw[if_neg (fun h=>h ay)] at hX;obtain⟨pe,ZF⟩:∃pe,pe=iR g G.d:=⟨_,rfl⟩;obtain⟨ph,hph⟩:∃ph,ph=gQ g G.d:=⟨_,rfl⟩;rw[←ZF,←hph] at hX;refine aj "US" ?_;refine WL.val (V.fE (vs:=[.i g.bl,.i g.pg,.i g.se,.i g.sb,.i g.fl]) ⟨isAgg23,sizeOf23⟩ (ak rfl) rfl (fun _=>fH.up (fH.up (fH.up bZ.rdg)))) rfl ?_;refine WL.mv rfl rfl ?_;refine WL.t2 call91 rfl rfl (aK.eq (v':= .tuple #[ph.v,.i pe]) (IK (d:=G.d) yO (aV.seq (by rw[au,Nat.mul_one])) hGf.1 ay) (by rw[hph,ZF])) rfl ?_;refine aj "6w" fun b12=> ?_;refine aj "~@fsb~e" (aW (fun h3=> ?_) fun h3=> ?_)
    ·rw[if_pos h3] at hX;refine aj "elC" ?_;subst hX;exact aF.ret (H':=aV (.slice none 0 0) 5 1 0 []::C.A bc::dA bd bc g::T.A bs bd g::F) (bJ.Bl rfl rfl rfl rfl) (fun w h=>Sat.gI (h.bg 5 [2,3,4] rfl) _ _) ⟨none,0,T,hT,rfl,rfl,rfl⟩
    ·have hp0:pe=0:=ay;rw[if_neg (fun h=>h hp0)] at hX;have Oj:ph.may g=true:=by rw[hph];exact (QV yO (by rw[←ZF];exact hp0)).1
     have JG:=Oj;unfold Hd.may at JG;simp only[Bool.and_eq_true,decide_eq_true_eq] at JG;have JD:=JG.1.1.1.1;have hfb:=JD;unfold bQ.fits at hfb;simp only[Bool.and_eq_true,decide_eq_true_eq] at hfb;have FR:=bQ.vL yO;have hpf:=bQ.Ll yO JD;obtain⟨N,hN⟩:∃N:Nat,g.bN ph.len=(N:Int):=⟨(g.bN ph.len).toNat,by omega⟩;rw[hN,Int.toNat_natCast] at hX;rw[hN] at hpf;obtain⟨ln,hln⟩:∃ln:Nat,ph.len=(ln:Int):=⟨ph.len.toNat,by omega⟩;refine aj "9u~k&~;~y" ?_;refine WQ.val (V.fE (vs:=[.i g.bl,.i g.pg,.i g.se,.i g.sb,.i g.fl]) ⟨isAgg23,sizeOf23⟩ (ak rfl) rfl (fun _=>by repeat (first | exact bZ.rdg | apply fH.up))) rfl ?_;refine aj "~y~G" ?_;refine WQ.call (vs:=[_,_]) call92 ⟨ak rfl,ak rfl,trivial⟩ (aK.eq (v':= .tuple #[.i (N:Int),.i 0]) (AL yO ay) (by rw[JD,hN];rfl)) rfl ?_;refine aj "&" ?_;refine WQ.val (V.extract (ak rfl) rfl) rfl (WQ.val (V.extract (ak rfl) rfl) rfl (aj "~n~n~fMM" ?_));refine WC.sub (H':=C.A bc::dA bd bc g::T.A bs bd g::aV (.slice none 0 0) 5 1 0 []::ah b12 157 [.i ph.aS,.i ph.len,.i ph.num]::F) (Sub.refl _) (fun w h=>(Sat.gI (h.bg 5 [0,2,3,4] rfl) 5 1).bg 5 [2,3,4,0,1] rfl) ?_;have JQ:∀k,k≤N→(iA C.aC b G.n k).err=0→(iA C.aC b G.n k).d.length=k*g.room.toNat:=fun k=>by
      induction k with
      | zero=>intro _ _;show ([]:List Nat).length=_;simp
      | succ k ih =>
       intro hk he;rw[iA] at he ⊢;split at he
       ·rename_i h;exact absurd he h
       ·rename_i h;rw[if_neg h];split at he
        ·rename_i h';exact absurd he h'
        ·rename_i h';rw[if_neg h'];have h4:=hC.Si (b:=b) (p:=1+(k:Int)) ay;show ((iA C.aC b G.n k).d++(C.aC.bY b (1+(k:Int))).d).length=_;rw[length_append,ih ay ay,h4,hg,succ_mul]
     refine aj "hN" ?_;refine WC.loop (σ:=Nat×Option Addr×Nat) (fun s=>[(0,ptr bs 0),(8,.i b),(10,.i ((iA C.aC b G.n s.1).n:Nat)),(12,ptr b12 0),(13,.slice s.2.1 (iA C.aC b G.n s.1).d.length s.2.2),(72,.i (N:Int)),(73,.i (s.1:Int))]) (fun s=>C.A bc::dA bd bc g::T.A bs bd g::aV (.slice s.2.1 (iA C.aC b G.n s.1).d.length s.2.2) 5 1 (iA C.aC b G.n s.1).d.length (av .u8 (iA C.aC b G.n s.1).d)::ah b12 157 [.i ph.aS,.i ph.len,.i ph.num]::F) (fun s=>s.1≤N∧(iA C.aC b G.n s.1).err=0) (fun s=>N-s.1) (0,none,0) ⟨zero_le _,rfl⟩ bC cO ?_;rintro⟨k,Ao,co⟩ ⟨hk,YX⟩;dsimp only at hk YX ⊢;obtain⟨r,hr⟩:∃r,r=iA C.aC b G.n k:=⟨_,rfl⟩;have pG:=JQ k hk YX;rw[←hr] at YX pG ⊢;have hkN:k*g.room.toNat≤63*4096:=Nat.mul_le_mul ay ay;refine aj "TZ" (aW (fun mQ=> ?_) fun mQ=> ?_)
     ·have vX:k<N:=ay;have dL:iA C.aC b G.n (k+1)=if (C.aC.bY b (1+(k:Int))).err≠0 then ⟨(C.aC.bY b (1+(k:Int))).err,[],0⟩ else ⟨0,r.d++(C.aC.bY b (1+(k:Int))).d,max r.n (C.aC.bY b (1+(k:Int))).n⟩:=by rw[iA,←hr,if_neg (fun h=>h YX)]
      refine aj "1jS" ?_;refine WL.val (V.load isAgg70 (ak rfl) (fun _=>Rd.up (Rd.up (bZ.FH 0 _ rfl)))) rfl ?_;refine aj "z$" ?_;refine WL.c3 call90 rfl rfl rfl (xB hC hg b (1+(k:Int))) rfl ?_;rintro _ _ ⟨A2,c2,rfl,rfl⟩;have anU:=hC.rQ b (1+(k:Int));obtain⟨G2,hG2⟩:∃G2,G2=C.aC.bY b (1+(k:Int)):=⟨_,rfl⟩;rw[←hG2] at dL anU ⊢;refine aj "6~Mllfsb~e" (aW (fun wQ=> ?_) fun wQ=> ?_)
      ·have h5:=wQ;rw[if_pos h5] at dL;have hNe:iA C.aC b G.n N=⟨G2.err,[],0⟩:=by
        have :=KX (S:=C.aC) (b:=b) (n0:=G.n) (k:=k+1) (by rw[dL];exact h5) (N-(k+1));rw[show k+1+(N-(k+1))=N by omega,dL] at this;exact this
       rw[hNe,if_pos h5] at hX;refine aj "ec" ?_;refine WL.sub (Sub.refl _) (fun w h=>h.bg 6 [3,1,2] rfl) ?_;refine WL.c2 call65 rfl rfl (qx G2.err) rfl ?_;rintro _ _ ⟨rfl,rfl⟩;refine aj "lC" ?_;subst hX;exact aF.ret (H':=aV (.slice none 0 0) 5 1 0 []::C.A bc::dA bd bc g::(T.told G2.err).A bs bd g::F) (bJ.Bl rfl rfl rfl rfl) (fun w h=>Sat.gI (h.bg 3 [1,2,0] rfl) _ _) ⟨none,0,T.told G2.err,hT.told _,rfl,rfl,rfl⟩
      ·have h5:=wQ;rw[if_neg (fun h=>h ay)] at dL;refine aj "Uc" ?_;refine WL.sub (Sub.refl _) (fun w h=>h.bg 5 [4,0,1,2,3] rfl) ?_;refine WL.append (m:=r.d.length) (q:=G2.d.length) (news:=av .u8 G2.d) underlying34 yL (ak rfl) (ak rfl) (aV.seq (by rw[au,Nat.mul_one])) (jB .u8 G2.d) ay rfl rfl (fun A5 c5 Zu wQ=> ?_);refine aj "gP~~sg7" ?_;refine⟨(k+1,A5,c5),⟨vX,by rw[dL]⟩,(by show N-(k+1)<N-k;omega),.cons rfl (.cons rfl (.cons (look_eq rfl (by dsimp only;rw[dL];dsimp only;refine congrArg (Value.int .i64) ?_;omega)) (.cons rfl (.cons (look_eq rfl (by dsimp only;rw[dL];dsimp only;rw[length_append])) bC)))),fun w h=> ?_⟩;dsimp only;rw[dL];dsimp only;rw[length_append,dx];exact h.bg 6 [2,3,4,0,5] rfl
     ·refine aj "W" ?_;obtain rfl:k=N:=by omega
      rw[←hr,if_neg (fun h=>h YX)] at hX;have hlr:ln≤r.d.length:=by
       have h6:=hpf.2.2.1;rw[hln] at h6;have h7:((k*g.room.toNat:Nat):Int)=(k:Int)*g.room:=by rw[Int.natCast_mul];congr 1;omega
       omega
      have hXd:X.1.d=r.d.take ln:=by rw[hX,hln];rfl
      have hXl:X.1.d.length=ln:=by rw[hXd,length_take];omega
      refine WC.lG (p:=r.d.length≤co) (fun w h=>by
       have h9:=h.bg 4 [3] rfl;obtain⟨_,cap',hv,hle,_⟩:=aV.shape h9.head;injection hv with _ _ e3
       rw[e3];exact hle) (fun JJ=> ?_)
      refine aj "ho" ?_;refine WL.val (V.aG (v':= .slice Ao ln co) (V.slice (l:=0) (h:=ln) (u:=co) dO (ak rfl) OO.none (OO.some (ak rfl) (fun _=>hln)) OO.none (by simp) (zero_le _) ay (Nat.le_refl _)) (fun _=>by rw[Nat.sub_zero,Nat.sub_zero,zK])) rfl ?_;refine aj "clC" ?_;refine aF.ret (H':=aV (.slice Ao X.1.d.length co) 5 1 X.1.d.length (av .u8 X.1.d)::C.A bc::dA bd bc g::T.A bs bd g::F) (bJ.Bl rfl rfl rfl rfl) (fun w h=> ?_) ⟨Ao,co,T,hT,by rw[hX],by rw[hXl,hX],rfl⟩;have h9:=ad8 hlr w (h.bg 5 [3,0,1,2] rfl);rw[dU,←hXd] at h9;rw[hXl];exact h9
def YN(b:Int)(xs:List Int):Int:=if b∈xs then (xs.idxOf b:Int) else-1
theorem ag9{xs:List Int}(h:i<xs.length)(hp:b∉xs.take i)(he:b=xs.getD i 0):YN b xs=(i:Int):=by
 have Kz:xs.getD i 0=xs[i]:=by simp[getD,h]
 rw[Kz] at he;have hx:xs=xs.take i++b::xs.drop (i+1):=by
  rw[he,←drop_eq_getElem_cons h,take_append_drop]
 have hb:b∈xs:=by rw[he];exact getElem_mem _
 unfold YN;rw[if_pos hb];have :xs.idxOf b=i:=by
  rw[hx,idxOf_append,if_neg hp,idxOf_cons_self,length_take];omega
 rw[this]
theorem aae:decide (YN b xs≥0)=decide (b∈xs):=by unfold YN;grind
theorem R6(hs:Seq K F A m 1 (ints .i64 xs))(hm:m≤1000000)(b:Int) :
 aK prog 187 #[.slice A m cap,.i b] K F (.i (YN b xs)):=by
 have hl:xs.length=m:=by simpa [ints] using hs.len
 refine aB.en func187 ntmps187 ?_;refine aj "afkN" ?_;refine WC.loop (σ:=Nat) (fun i=>[(0,.slice A m cap),(1,.i b),(7,.i (m:Int)),(8,.i (i:Int))]) (fun i=>F) (fun i=>i≤m∧b∉xs.take i) (fun i=>m-i) 0 ⟨zero_le _,by simp⟩ bC cO ?_;rintro i ⟨hi,hp⟩;refine aj "TZ" (aW (fun aL=> ?_) fun aL=> ?_)
 ·have him:i<m:=ay;have Bv:(i:Int).toNat=i:=ay;have Kz:xs.getD i 0=xs[i]'ay:=by simp[getD,show i<xs.length by omega]
  refine aj "1jz" ?_;refine WL.val (V.dw eB (ak rfl) (ak rfl) (fun hc=>by omega) (fun hc=>Seq.dD hs ay)) rfl ?_;refine WL.val (V.load isAgg3 (ak rfl) (fun hc=>Seq.dD hs ay)) rfl ?_;refine aj ":i" (aW (fun h1=> ?_) fun h1=> ?_)
  ·simp only[cZ,Bv] at h1;refine aj "ed" ?_;exact qR F rfl rfl cO ⟨by rw[ag9 ay hp h1],rfl⟩
  ·simp only[cZ,Bv] at h1;refine aj "q7" ?_;refine⟨i+1,⟨by show i+1≤m;omega, ?_⟩,(by show m-(i+1)<m-i;omega),.cons rfl bC,fun w h=>h⟩;rw[take_add_one,getElem?_eq_getElem ay,←Kz];simp only[Option.toList,mem_append,mem_singleton];rintro (h | h)
   ·exact hp h
   ·exact h1 h
 ·refine aj "KG" ?_;obtain rfl:i=m:=by omega
  rw[take_of_length_le ay] at hp;exact qR F rfl rfl cO ⟨by unfold YN;rw[if_neg hp],rfl⟩
theorem zU(hs:Seq K F A m 1 (ints .i64 xs))(hm:m≤1000000)(b:Int) :
 aK prog 119 #[.slice A m cap,.i b] K F (.bool (decide (b∈xs))):=by
 refine aB.en func119 ntmps119 ?_;refine aj "aY" ?_;refine WL.t2 call187 rfl rfl (R6 hs hm b) rfl ?_;refine aj "~id" ?_;exact qR F rfl rfl cO ⟨by rw[aae],rfl⟩
theorem Xn(hb:Rd K F (some ⟨b3,0,none⟩) (.i b))(x:Int):aK prog 121 ([Value.int .i64 x]++[ptr b3 0]).toArray K F (.bool (decide (x=b))):=by
 simp only[cons_append,nil_append];refine aB.en func121 ntmps121 ?_;refine aj "aj" ?_;refine WL.val (V.load isAgg3 (ak rfl) (fun hc=>hb)) rfl ?_;exact aj ":d." trivial
def gX(b:Int)(l:List Int):List Int:=l.filter fun x=> !decide (x=b)
def St.forget(T:St)(b:Int):St:= { T with cu:=T.cu.map (gX b) }
theorem Nj{T:bZ}(hT:T.Ok g)(b:Int):aB prog 63 #[ptr bs 0,.i b] K (T.A bs bd g::F)
 (fun v H'=>∃T':bZ,T'.Ok g∧T'.aC=T.aC.forget b∧H'=T'.A bs bd g::F):=by
 have arS:T.fA.length≤64:=by rw[hT.len];exact hT.aJ.2
 refine aB.afd ?_;dsimp only[bZ.parts,cons_append,nil_append];refine aB.en func63 ntmps63 ?_;refine aj "a~h" fun b3=> ?_;refine aj "be`okN" ?_;refine WC.loop (σ:=Nat×List bW) (fun s=>[(0,ptr bs 0),(3,ptr b3 0),(9,.slice (some ⟨T.b8,0,none⟩) T.fA.length T.fA.length),(10,.i (T.fA.length:Int)),(11,.i (s.1:Int))]) (fun s=>ah T.b8 124 (s.2.map bW.v)::bK (s.2.map bW.row)::ah b3 3 [.i b]::ah bs 127 (T.cells bd g)::T.sl::F) (fun s=>s.1≤T.fA.length∧s.2.length=T.fA.length∧s.2.map bW.l=(T.fA.take s.1).map (fun r=>gX b r.l)++(T.fA.drop s.1).map bW.l) (fun s=>T.fA.length-s.1) (0,T.fA) ⟨zero_le _,rfl,by simp⟩ bC (fun w h=>h.bg 5 [3,4,0,1,2] rfl) ?_;rintro⟨j,fA⟩ ⟨hj,GQ,ZA⟩;dsimp only at hj GQ ZA ⊢;have JM:(T.cells bd g)[7]? =some (.slice (some ⟨T.b8,0,none⟩) T.fA.length T.fA.length):=rfl;refine aj "TZ" (aW (fun aL=> ?_) fun aL=> ?_)
 ·have Wx:j<T.fA.length:=ay;obtain⟨r,hr⟩:∃r,r=fA[j]'ay:=⟨_,rfl⟩;have RZ:fA[j]? =some r:=by rw[hr];exact getElem?_eq_getElem ay
  have hvg:(fA.map bW.v)[0+((j:Nat):Int).toNat*1]? =some r.v:=by rw[show 0+((j:Nat):Int).toNat*1=j by omega,getElem?_map,RZ];rfl
  have acy:(fA.map bW.row)[j]'(by rw[length_map];omega)=r.row:=by rw[getElem_map,hr]
  have pG:r.l=(T.fA[j]'ay).l:=by
   have h1:(fA.map bW.l)[j]? =some r.l:=by rw[getElem?_map,RZ];rfl
   rw[ZA,getElem?_append_right (by rw[length_map,length_take];omega),length_map,length_take,show j-min j T.fA.length=0 by omega,getElem?_map,getElem?_drop,Nat.add_zero,getElem?_eq_getElem ay] at h1;injection h1 with h1
   exact h1.symm
  refine aj "1~r" ?_;refine WL.val (V.load isAgg124 (ak rfl) (fun _=>Rd.here hvg)) rfl ?_;refine aj "lg" ?_;refine WC.sub (H':=aV (.slice r.A r.l.length r.c) 3 1 r.l.length (ints .i64 r.l)::ah T.b8 124 (fA.map bW.v)::bK ((fA.map bW.row).eraseIdx j)::ah b3 3 [.i b]::ah bs 127 (T.cells bd g)::T.sl::F) (Sub.refl _) (fun w h=>by
   have h4:=Sat.FQ (k:=j) (by rw[length_map];omega) (h.bg 2 [1,0] rfl);rw[acy] at h4;exact h4.bg 3 [0,2,1] rfl) ?_
  refine WC.dM (bK ((fA.map bW.row).eraseIdx j)::ah b3 3 [.i b]::ah bs 127 (T.cells bd g)::T.sl::F) (by kernel_rfl) ?_;refine aj "m0~a102" ?_;refine WA.t 3 rfl (V.load isAgg125 (ak rfl) (fun _=>by repeat (first | exact Rd.here JM | apply Rd.up))) ?_;refine aj "m4m5" ?_;refine WA.t 6 rfl (V.makeFunc (us:=[]) (vs:=[_]) trivial ⟨ak rfl,trivial⟩) ?_;refine WA.o 7 rfl ?_;refine WL.c2 call120 rfl rfl (Tk (xs:=r.l) (p:=fun x=>decide (x=b)) (O1:=[ptr b3 0]) call121 (fun x _ X=>Xn lD x)) rfl ?_;rintro _ _ ⟨q,hq,rfl,rfl⟩;refine aj "b~c8n9" ?_;refine WL.store (cs:=[_]) sizeOf124 (ak rfl) (ak rfl) rfl rfl rfl (bT.up (bT.at_ (by rw[length_map];omega))) ?_;refine aj "bO7" ?_;refine⟨(j+1,fA.set j ⟨r.A,r.c,gX b r.l⟩),⟨Wx,by show (fA.set _ _).length=T.fA.length;rw[length_set];exact GQ, ?_⟩,(by show T.fA.length-(j+1)<T.fA.length-j;omega),.cons rfl bC,fun w h=> ?_⟩
  ·show (fA.set j _).map bW.l=(T.fA.take (j+1)).map (fun r=>gX b r.l)++(T.fA.drop (j+1)).map bW.l;rw[map_set,ZA,set_append_right _ _ (by rw[length_map,length_take];omega),length_map,length_take,show j-min j T.fA.length=0 by omega,drop_eq_getElem_cons (show j<T.fA.length by omega),map_cons,set_cons_zero,take_add_one,getElem?_eq_getElem ay,map_append,append_assoc];show _++gX b r.l::_=_++([gX b (T.fA[j]'ay).l]++_);rw[pG];rfl
  ·subst hq;have e1:aV (.slice r.A (r.l.filter fun x=> !decide (x=b)).length r.c) 3 1 (r.l.filter fun x=> !decide (x=b)).length (ints .i64 (r.l.filter fun x=> !decide (x=b)))=bW.row ⟨r.A,r.c,gX b r.l⟩:=rfl;rw[e1] at h;have h6:=Sat.Na (l:=fA.map bW.row) (k:=j) (by rw[length_map];omega) (h.bg 3 [0,2,1] rfl);have e2:(fA.map bW.v).set (0+(j:Int).toNat*1) (.slice r.A (r.l.filter fun x=> !decide (x=b)).length r.c)=(fA.set j ⟨r.A,r.c,gX b r.l⟩).map bW.v:=by
    rw[show 0+((j:Nat):Int).toNat*1=j by omega,map_set];rfl
   rw[e2,←map_set] at h6;exact h6.p1
 ·refine WC.exit ?_;obtain rfl:j=T.fA.length:=by omega
  obtain⟨T',Oo⟩:∃T':bZ,T'= { T with fA:=fA }:=⟨_,rfl⟩;refine aF.normal (H':=T'.A bs bd g::F) (bJ.none rfl) (fun w h=> ?_) ⟨T', ?_, ?_,rfl⟩
  ·refine Sat.all (l:=bZ.parts bs bd g T') (H:=F) ?_;rw[Oo];unfold bZ.parts bZ.cells;dsimp only;rw[GQ];exact h.bg 5 [3,4,0,1] rfl
  ·rw[Oo];exact⟨by show fA.length=T.stands.length;rw[GQ,hT.len],hT.aJ,hT.next,hT.at_,hT.Md⟩
  ·rw[Oo];unfold bZ.aC St.forget;dsimp only;rw[ZA,take_of_length_le ay,drop_eq_nil_of_le ay];simp
theorem X6:aB prog 62 #[ptr bs 0] K F (fun v H'=>∃b1,v= .func (.func 117) #[] #[ptr b1 0]∧H'=ah b1 28 [ptr bs 0]::F):=by
 refine aB.en func62 ntmps62 ?_;refine aj "a~h" fun b1=> ?_;refine aj "v~Ud" ?_;exact qR (ah b1 _ _::F) rfl rfl cO ⟨b1,rfl,rfl⟩
theorem Xt{n:Nat}(hn:g.bl=(n:Int))(yO:g.aU)(Zb:0≤J5∧J5<g.bl)(I:Nat→Cw→bZ→Prop)(Stop:aH→List aH→Prop)
 (hI:∀j C T,I j C T→C.Ok∧C.g=g∧T.Ok g∧T.stands=Md∧T.at_=J5)
 (abe:∀j C T,j<n→¬((J5+(j:Int))%g.bl∈gd∧¬(J5+(j:Int))%g.bl∈Md)→I j C T→I (j+1) C T)
 (
  Ba:∀j C T X,j<n→((J5+(j:Int))%g.bl∈gd∧¬(J5+(j:Int))%g.bl∈Md)→I j C T→jY prog K none l #[.i ((J5+(j:Int))%g.bl)] (Y1::Y2::X::C.A bc::dA bd bc g::T.A bs bd g::ah b1 28 [ptr bs 0]::F)
   (fun b H'=>(b=true∧∃C' T',I (j+1) C' T'∧H'=Y1::Y2::X::C'.A bc::dA bd bc g::T'.A bs bd g::ah b1 28 [ptr bs 0]::F)∨(b=false∧Stop X H')))
  (L9:gd=C0.aC.dW) (h0:I 0 C0 T0) :
 aB prog 117 #[.func (.yield l) #[] #[],ptr b1 0] K (Y1::Y2::C0.A bc::dA bd bc g::T0.A bs bd g::ah b1 28 [ptr bs 0]::F)
  (fun v H'=>∃X,(∃C T,I n C T∧H'=Y1::Y2::X::C.A bc::dA bd bc g::T.A bs bd g::ah b1 28 [ptr bs 0]::F)∨Stop X H'):=by
 have uJ:=yO;unfold bQ.aU at uJ;obtain⟨hC0,akK,hT0,aho,ari⟩:=hI _ _ _ h0;have hgl:gd.length≤256:=by
  have h1:=aD.jK C0.aC C0.aC.g.bl.toNat;have h2:C0.aC.g.bl.toNat≤256:=by rw[show C0.aC.g=C0.g from rfl,akK];omega
  rw[L9];unfold aD.dW;omega
 refine aB.aaR func117 rfl ntmps117 rfl ?_;simp only[kV,reduceAdd];refine aj "a<S" ?_;refine WL.val (V.load isAgg70 (ak rfl) (fun _=>by repeat (first | exact bZ.FH 0 _ rfl | apply Rd.up))) rfl ?_;refine WL.sub (Sub.refl _) (fun w h=>h.bg 6 [2,3,0,1,4,5] rfl) ?_;refine WL.c1 call118 rfl (ER hC0 akK) rfl ?_;rintro _ _ ⟨Ag,cg,rfl,rfl⟩;rw[←L9];refine aj "v<S8" ?_;refine WL.val (V.load isAgg3 (ak rfl) (fun _=>by repeat (first | exact bZ.FH 1 _ rfl | apply Rd.up))) rfl ?_;refine aj "N" ?_;obtain⟨X,hX⟩:∃X,X=aV (.slice Ag gd.length cg) 3 1 gd.length (ints .i64 gd):=⟨_,rfl⟩;rw[←hX];have Oi:∀ {H:List aH},Seq K (X::H) Ag gd.length 1 (ints .i64 gd):=fun {H}=>by rw[hX];exact aV.seq (by rw[bR,Nat.mul_one])
 refine WC.loop (σ:=Nat×Cw×bZ) (fun s=>[(0,.func (.yield l) #[] #[]),(1,ptr b1 0),(3,.slice Ag gd.length cg),(15,.i (n:Int)),(16,.i (s.1:Int))]) (fun s=>Y1::Y2::X::s.2.1.A bc::dA bd bc g::s.2.2.A bs bd g::ah b1 28 [ptr bs 0]::F) (fun s=>s.1≤n∧I s.1 s.2.1 s.2.2) (fun s=>n-s.1) (0,C0,T0) ⟨zero_le _,h0⟩ (.cons rfl (.cons rfl (.cons rfl (.cons (look_eq rfl (by rw[hn])) bC)))) (fun w h=>h.bg 7 [3,4,0,1,2,5,6] rfl) ?_;rintro⟨j,C,T⟩ ⟨hj,hIj⟩;dsimp only at hj hIj ⊢;obtain⟨hC,hCg,hT,dL,Zb⟩:=hI _ _ _ hIj;refine aj "TZ" (aW (fun aL=> ?_) fun aL=> ?_)
 ·have Wx:j<n:=ay;obtain⟨b,hb⟩:∃b,b=(J5+(j:Int))%g.bl:=⟨_,rfl⟩;have hro:=Ba j C T X Wx;have hsk:=abe j C T Wx;rw[←hb] at hro hsk;refine aj "1u" ?_;refine WC.Rm (by kernel_rfl) (by kernel_rfl) ?_;refine aj "~~~s~;~y" ?_;refine WQ.val (V.aG (v':= .i J5) (V.load isAgg3 (ak rfl) (fun _=>by repeat (first | exact bZ.FH 9 _ rfl | apply Rd.up))) (fun _=>by rw[Zb])) rfl ?_;refine aj "&~~p~~~s~;~y~y" ?_;refine WQ.val (V.load isAgg3 (ak rfl) (fun _=>by repeat (first | exact bZ.FH 1 _ rfl | apply Rd.up))) rfl ?_;refine WQ.val (V.aG (v':= .i b) (V.Av (ak rfl) (ak rfl) (fun _=>by omega)) (fun _=>by rw[hb])) rfl ?_;refine aj "~n~frc" ?_;refine WL.t2 call119 rfl rfl (zU (by repeat (first | exact Oi | apply Seq.up)) ay b) rfl ?_;refine aj "*c" ?_;refine WL.bI (oj:=_) rfl rfl rfl GC.f (V.load isAgg28 (ak rfl) (fun hc=>by repeat (first | exact Rd.here rfl | apply Rd.up))) rfl ?_;refine aj "~~r~5" ?_;refine WL.bI (oj:=_) rfl rfl rfl GC.f (V.load isAgg124 (OV.g rfl id) (fun hc=>by repeat (first | exact bZ.FH 6 _ rfl | apply Rd.up))) rfl ?_;refine aj "V" ?_;refine WL.nL (oj:=_) (vs:=[_,_]) rfl rfl rfl GC.f call119 ⟨OV.g rfl id,OV.g rfl id,trivial⟩ (fun hg=>zU (by repeat (first | exact bZ.aks | apply Seq.up)) (by have :=hT.aJ;omega) b) rfl ?_;refine aj "Li" (aW (fun h1=> ?_) fun h1=> ?_)
  ·rw[dL] at h1;refine aj "K7" ?_;exact⟨(j+1,C,T),⟨Wx,hsk (fun hn=>by simp only[Bool.or_eq_true,Bool.not_eq_true',cZ] at h1;rcases h1 with h | h;exact h hn.1;exact hn.2 h) hIj⟩,(by show n-(j+1)<n-j;omega),.cons rfl bC,fun w h=>h⟩
  ·rw[dL] at h1;refine aj "Uc" ?_;refine WL.afm (r:=none) (l:=l) (vs:=[_]) (ak rfl) ⟨ak rfl,trivial⟩ (hro (by simpa using h1) hIj) rfl ?_;rintro yb YH hy;refine aj "*i" (aW (fun h2=> ?_) fun h2=> ?_)
   ·simp only[Bool.not_eq_true',Bool.not_eq_false'] at h2;have alH:Stop X YH:=by
     rcases hy with ⟨h3,_⟩ | ⟨_,h3⟩
     ·rw[h3] at h2;cases h2
     ·exact h3
    refine WC.ret ?_;exact aF.ret (H':=YH) (bJ.none rfl) cO ⟨X,.inr alH⟩
   ·simp only[Bool.not_eq_true',Bool.not_eq_false'] at h2;obtain⟨C2,T2,hI2,rfl⟩:∃C2 T2,I (j+1) C2 T2∧YH=Y1::Y2::X::C2.A bc::dA bd bc g::T2.A bs bd g::ah b1 28 [ptr bs 0]::F:=by
     rcases hy with ⟨_,h3⟩ | ⟨h3,_⟩
     ·exact h3
     ·rw[h3] at h2;cases h2
    refine aj "q7" ?_;exact⟨(j+1,C2,T2),⟨Wx,hI2⟩,(by show n-(j+1)<n-j;omega),.cons rfl bC,fun w h=>h⟩
 ·refine WC.exit ?_;obtain rfl:j=n:=by omega
  exact aF.normal (H':=Y1::Y2::X::C.A bc::dA bd bc g::T.A bs bd g::ah b1 28 [ptr bs 0]::F) (bJ.none rfl) cO ⟨X,.inl ⟨C,T,hIj,rfl⟩⟩
end Go.Proofs.YtcedojacbhnbiaaGreat
namespace Go.Sl
open Go Go.RowKit Go.BigFrame List Nat
abbrev F8(bad:Value):List PanicEntry:=[{ v:=bad,recovered:=false }]
def pF(P:Program)(f:FuncId)(args:Array Value)(K:World)(H:List aH)(bad:Value)(post:Value→List aH→Prop)(LD:List aH→Prop):Prop :=
 ∀ w,Sat K w H→Calls P f args w fun e w'=>∃H',Sat K w' H'∧((∃v,e= .returned v∧post v H')∨(e= .panicked (F8 bad)∧LD H'))
theorem pF.mono(h:pF P f args K H bad post LD)(hp:∀v H',post v H'→post' v H')(hq:∀H',LD H'→anW H'):pF P f args K H bad post' anW :=
 fun w hw=>(h w hw).mono fun e w' ⟨H',h1,h2⟩=>⟨H',h1,h2.imp (fun ⟨v,a,b⟩=>⟨v,a,hp _ _ b⟩) (fun ⟨a,b⟩=>⟨a,hq _ b⟩)⟩
def aaA(P:Program)(K:World)(n:Nat)(fn:Func)(bad:Value)(post:Value→List aH→Prop)(LD:List aH→Prop):iX
 | Mo,.normal,e,H | Mo,.ret,e,H=>Mo.ds=[]∧∃v H',bJ Mo P K n fn e H v∧(∀w,Sat K w H→Sat K w H')∧post v H'
 | Mo,.panic c,e,H=>Mo.ds=[]∧c=F8 bad∧∃H',(∀w,Sat K w H→Sat K w H')∧LD H'
 | _,_,_,_=>False
theorem AX{fn:Func}(hn:fn.ntmps=n)(hl:ble vs.length n=true):eF ⟨none,[]⟩ n (kV 0 vs) { tmps:=vs.toArray++Array.replicate (fn.ntmps-vs.toArray.size) undef,defers:=[] }:=by
 have Dp:vs.length≤n:=by simpa using hl
 refine⟨rfl,by simp[hn];omega,fun t v hv=> ?_⟩;obtain⟨_,h2⟩:=nO vs 0 t v hv;simp only[Nat.sub_zero] at h2;have ht:t<vs.length:=by
  rcases Nat.lt_or_ge t vs.length with h | h
  ·exact h
  ·simp[getElem?_eq_none h] at h2
 rw[Array.getD_eq_getD_getElem?,Array.getElem?_append_left (by simpa using ht)];simp[h2]
section
variable{P:Program}{K:World}{n:Nat}{Q:iX}{e:Env}{H:List aH}{bad:Value}{post:Value→List aH→Prop}{LD:List aH→Prop}
theorem aB.Er(hf:P.funcs[f]? =some fn)(hb:fn.body=some c)(hn:fn.ntmps=n)(hl:ble vs.length n=true)
 (h:WC ⟨none,[]⟩ P K n c (aaA P K n fn bad post LD) (kV 0 vs) H):pF P f vs.toArray K H bad post LD:=by
 intro w hw;refine calls_of_wp hf hb (wp_mono (h _ w (AX hn hl) hw) ?_);rintro x a w ⟨ds,e',H',h1,h2,h3⟩;cases x<;>first
  | (obtain⟨k0,v,ou,k1,k2,k3⟩:=h3;exact⟨h1.defers.trans k0,v,k1 a w h1 h2,ou,k2 w h2,.inl ⟨v,rfl,k3⟩⟩)
  | (obtain⟨k0,rfl,ou,k2,k3⟩:=h3;exact⟨h1.defers.trans k0,ou,k2 w h2,.inr ⟨rfl,k3⟩⟩)
  | exact h3.elim
theorem aaA.panic(hs:∀w,Sat K w H→Sat K w H')(hp:LD H'):aaA P K n fn bad post LD ⟨r,[]⟩ (.panic (F8 bad)) e H:=⟨rfl,rfl,H',hs,hp⟩
theorem WL.aaX{d:Nat}{vs:List Value}(hr:∀a w,eF ⟨none,ds⟩ n e a→(execOp a.eval ⟨some d,op,ty,pos,af,none⟩).run P w= .ok (.enter f vs.toArray) w)
 (hF:pF P f vs.toArray K H bad post LD) (hd:blt d n=true) (hp:∀H',LD H'→Q ⟨none,ds⟩ (.panic (F8 bad)) e H') (h:∀v H',post v H'→WL ⟨none,ds⟩ P K n ops rest Q ((d,v)::e) H'):WL ⟨none,ds⟩ P K n ops (⟨some d,op,ty,pos,af,none⟩::rest) Q e H:=fun a w ha hw=>by
 refine kH rfl fun S hS=> ?_;show Oper.wp P _ a w S _;unfold Oper.wp;rw[hr a w ha,Oper.upon_enter];refine (hF w hw).mono ?_;rintro x w' ⟨H',h1,⟨v,rfl,h2⟩ | ⟨rfl,h2⟩⟩
 ·exact hS _ _ (h v H' h2 _ w' (ha.put d hd v) h1)
 ·exact⟨ds,e,H',ha,h1,hp H' h2⟩
theorem WL.jG(hf:bP P f)(gL:Ga true e xs vs)
 (hF:pF P f vs.toArray K H bad post LD) (hd:blt d n=true) (hp:∀H',LD H'→Q ⟨none,ds⟩ (.panic (F8 bad)) e H') (h:∀v H',post v H'→WL ⟨none,ds⟩ P K n ops rest Q ((d,v)::e) H'):WL ⟨none,ds⟩ P K n ops (⟨some d,.call ⟨.value (.func f),xs.toArray,ats⟩,ty,pos,af,none⟩::rest) Q e H :=
 WL.aaX (fun a w ha=>xS hf (gL.ev ha rfl)) hF hd hp h
theorem WL.agn(hf:bP P f)(hy:OV true e y (.func (.func f) first.toArray captured.toArray))(gL:Ga true e xs vs)
 (hF:pF P f (first++vs++captured).toArray K H bad post LD) (hd:blt d n=true) (hp:∀H',LD H'→Q ⟨none,ds⟩ (.panic (F8 bad)) e H') (h:∀v H',post v H'→WL ⟨none,ds⟩ P K n ops rest Q ((d,v)::e) H'):WL ⟨none,ds⟩ P K n ops (⟨some d,.call ⟨.value y,xs.toArray,ats⟩,ty,pos,af,none⟩::rest) Q e H :=
 WL.aaX (fun a w ha=>tO hf (hy.ev rfl ha) (gL.ev ha rfl)) hF hd hp h
theorem WL.agf{dst:Option Nat}(hx:OV true e x (.iface t v))
 (h:Q ⟨none,ds⟩ (.panic (F8 (.iface t v))) e H):WL ⟨none,ds⟩ P K n ops (⟨dst,.panic x,ty,pos,af,none⟩::rest) Q e H:=fun a w ha hw=>by
 refine kH rfl fun S hS=> ?_;show Oper.wp P _ a w S _;unfold Oper.wp;have h1:(execOp a.eval ⟨dst,.panic x,ty,pos,af,none⟩).run P w= .halt (.panic (.iface t v)) w:=by
  show ((do pure (Next.value (←Instr.panic (a.eval x)))):Sem Next).run P w=_;rw[hx.ev rfl ha];rfl
 rw[h1,Oper.upon_panic];exact⟨ds,e,H,ha,hw,h⟩
def akl(P:Program)(f:FuncId)(args:Array Value)(K:World)(H:List aH)(bad:Value)(post:List aH→Prop):Prop :=
 ∀ w,Sat K w H→CallsD P f args (.panicking (F8 bad)) w fun e u' w'=>u'= .panicking [{ v:=bad,recovered:=true }]∧∃v H',e= .returned v∧Sat K w' H'∧post H'
def akb(P:Program)(K:World)(n:Nat)(fn:Func)(bad:Value)(post:Value→List aH→Prop):iX
 | Mo,.normal,e,H | Mo,.ret,e,H=>∃f cap,Mo.ds=[⟨.fn (.func f) cap,#[]⟩]∧bP P f∧∃pd,Fp P f cap K H pd∧∀H',pd H'→∃v ou,bJ Mo P K n fn e H' v∧(∀w,Sat K w H'→Sat K w ou)∧post v ou
 | Mo,.panic c,e,H=>c=F8 bad∧∃f cap,Mo.ds=[⟨.fn (.func f) cap,#[]⟩]∧bP P f∧∃pd,akl P f cap K H bad pd∧∀H',pd H'→∃v ou,bJ Mo P K n fn e H' v∧(∀w,Sat K w H'→Sat K w ou)∧post v ou
 | _,_,_,_=>False
theorem aB.agw(hf:P.funcs[f]? =some fn)(hb:fn.body=some c)(hn:fn.ntmps=n)(hl:ble vs.length n=true)
 (h:WC ⟨none,[]⟩ P K n c (akb P K n fn bad post) (kV 0 vs) H):aB P f vs.toArray K H post:=by
 intro w hw;refine calls_of_wp_defers hf hb (wp_mono (h _ w (AX hn hl) hw) ?_);rintro x a w ⟨ds,e',H',h1,h2,h3⟩;have key:(∃f cap,ds=[⟨.fn (.func f) cap,#[]⟩]∧bP P f∧∃pd,Fp P f cap K H' pd∧∀H2,pd H2→∃v ou,bJ ⟨none,ds⟩ P K n fn e' H2 v∧(∀w,Sat K w H2→Sat K w ou)∧post v ou) →
  Leaves P fn a.tmps (fun e w'=>∃v H',e= .returned v∧Sat K w' H'∧post v H') a.defers .returning w:=by
  rintro⟨g,cap,k0,k1,pd,k2,k3⟩;rw[h1.defers.trans k0];refine leaves_cons (f:=g) (args:=cap) (by simp) (by show (callFunc g (#[]++cap)).run P w=_;rw[k1];simp) ?_;refine (k2 w h2).mono ?_;rintro e2 u' w' ⟨rfl,v,H2,rfl,k4,k5⟩;obtain⟨v2,H3,k6,k7,k8⟩:=k3 H2 k5;exact⟨v2,k6 a w' h1 k4,v2,H3,rfl,k7 w' k4,k8⟩
 cases x<;>first
  | exact key h3
  | skip
 case panic c =>
  obtain⟨rfl,g,cap,k0,k1,pd,k2,k3⟩:=h3;show Leaves P fn a.tmps _ a.defers (.panicking (F8 bad)) w;rw[h1.defers.trans k0];refine leaves_cons (f:=g) (args:=cap) (by simp) (by show (callFunc g (#[]++cap)).run P w=_;rw[k1];simp) ?_;refine (k2 w h2).mono ?_;rintro e2 u' w' ⟨rfl,v,H2,rfl,k4,k5⟩;obtain⟨v2,H3,k6,k7,k8⟩:=k3 H2 k5;exact⟨v2,k6 a w' h1 k4,v2,H3,rfl,k7 w' k4,k8⟩
 all_goals exact h3.elim
theorem aaZ{o:Oper}(hn:∀a w,next a w→next' a w)(hq:∀e a w,Q1 e a w→Q2 e a w)(hl:¬LetsOut Q1)(r:Result Next)(h:o.upon P a next Q1 r):o.upon P a next' Q2 r:=by
 unfold Oper.upon at h ⊢;split at h<;>first
  | exact hn _ _ h
  | exact hq _ _ _ h
  | exact h.elim
  | exact Rows.mono h (fun _ _ he=>hn _ _ he)
  | (
   refine Calls.mono h (fun e w'' he=> ?_);cases e
   ·exact hn _ _ he
   ·exact hq _ _ _ he
   ·exact absurd he hl)
theorem Fg{ops:Array Oper}{Q1:Exit→Act→World→Prop}{Q2:Exit→Act→List Frame→World→Prop}{cs:List Frame}(hl:¬LetsOut Q1)(hq:∀e a w,Q1 e a w→Q2 e a cs w):∀(l:List Oper) (k:Nat),(∀j,l[j]? =ops[k+j]?)→∀(a:Act) (w:World),wpList P ops Q1 l a w→wpOpsS P ops Q2 (range' k l.length) a cs w
 | [],k,_,a,w,h=>hq _ _ _ h
 | o::l,k,hj,a,w,h=>by
  have h0:ops[k]? =some o:=by simpa using (hj 0).symm
  have ih:=Fg (Q2:=Q2) (cs:=cs) hl hq l (k+1) (fun j=>by have :=hj (j+1);simpa [Nat.add_assoc,Nat.add_comm 1 j] using this);rw[length_cons,range'_succ,wpOpsS,h0];unfold wpList at h;dsimp only;split
  ·rename_i hw;rw[if_pos hw] at h;rcases h with h | h
   ·unfold Oper.wp at h;split
    ·rename_i w' hr;rw[hr] at h;exact h.elim
    ·exact aaZ ih hq hl _ h
   ·exact absurd h.2 hl
  ·rename_i hw;rw[if_neg hw] at h;exact ih _ _ h
theorem J3{fn:Func}{id d:Nat}{pd:List aH→Prop}(hf:P.funcs[f]? =some fn)(hb:fn.body=some (.seq (.region id (⟨some d,.call ⟨.builtin .recover,#[],#[]⟩,ty,pos,af,none⟩::l).toArray false) c))(hn:fn.ntmps=n)(hl:ble vs.length n=true)(hd:blt d n=true)
 (ahP:∀(c₀:Frame) cs,c₀.mode=u→recoverD (c₀::cs)=some (v0,{ c₀ with mode:=u' }::cs)∨(recoverD (c₀::cs)=none∧v0= .nilIface∧u'=u))
 (h:WL ⟨none,[]⟩ P K n (⟨some d,.call ⟨.builtin .recover,#[],#[]⟩,ty,pos,af,none⟩::l).toArray l (zO (fun Mo=>WC Mo P K n c (aF P K n fn fun v H'=>pd H')) (aF P K n fn fun v H'=>pd H')) ((d,v0)::kV 0 vs) H) :
 ∀ w,Sat K w H→CallsD P f vs.toArray u w fun e u2 w'=>u2=u'∧∃v H',e= .returned v∧Sat K w' H'∧pd H':=by
 intro w hw;refine callsD_of_wpS hf hb fun c₀ cs hu=> ?_;apply wpS_seq;apply wpS_region;have hs:(⟨some d,.call ⟨.builtin .recover,#[],#[]⟩,ty,pos,af,none⟩::l:List Oper).toArray.size=l.length+1:=by simp
 rw[hs,range_eq_range',range'_succ,wpOpsS];simp only[getElem?_toArray,getElem?_cons_zero,Region.wanted,if_true];have hr:∀(a:Act),(execOp a.eval ⟨some d,.call ⟨.builtin .recover,#[],#[]⟩,ty,pos,af,none⟩).run P w= .ok .recover w:=fun a=>by rw[execOp_builtin];rfl
 rw[hr];have L8:¬LetsOut (lift none K n (zO (fun Mo=>WC Mo P K n c (aF P K n fn fun v H'=>pd H')) (aF P K n fn fun v H'=>pd H'))):=by
  rintro⟨a,w,ds,e,H,_,_,h3⟩;exact h3
 have key:∀(cs1:List Frame),cs1= { c₀ with mode:=u' }::cs→wpOpsS P (⟨some d,.call ⟨.builtin .recover,#[],#[]⟩,ty,pos,af,none⟩::l).toArray (Exit.thenS (c.wpS P (bodyPostS P fn c₀ cs (fun e u2 w'=>u2=u'∧∃v H',e= .returned v∧Sat K w' H'∧pd H'))) (bodyPostS P fn c₀ cs (fun e u2 w'=>u2=u'∧∃v H',e= .returned v∧Sat K w' H'∧pd H'))) (range' 1 l.length) (({ tmps:=vs.toArray++Array.replicate (fn.ntmps-vs.toArray.size) undef,defers:=[] }:Act).put (some d) v0) cs1 w:=by
  rintro cs1 rfl;refine Fg L8 ?_ l 1 (fun j=>by simp[Nat.add_comm 1 j]) _ _ (h _ w ((AX hn hl).put d hd v0) hw);rintro x a w ⟨ds,e',H',h1,h2,h3⟩;cases x
  case normal =>
   show c.wpS P _ a _ w;refine wpS_of_wp (wp_mono (h3 a w h1 h2) ?_);rintro x a w ⟨ds,e'',ou,k1,k2,k3⟩;cases x<;>first
    | (obtain⟨k0,v,H3,k4,k5,k6⟩:=k3;exact⟨k1.defers.trans k0,u',rfl,v,k4 a w k1 k2,rfl,v,H3,rfl,k5 w k2,k6⟩)
    | exact k3.elim
  case ret =>
   obtain⟨k0,v,H3,k4,k5,k6⟩:=h3;exact⟨h1.defers.trans k0,u',rfl,v,k4 a w h1 h2,rfl,v,H3,rfl,k5 w h2,k6⟩
  all_goals exact h3.elim
 rcases ahP c₀ cs hu with h1 | ⟨h1,rfl,rfl⟩
 ·rw[h1];exact key _ rfl
 ·rw[h1];exact key _ (by subst hu;rfl)
def NoP(Q:iX):iX
 | Mo,.panic c,e,H=>False
 | Mo,x,e,H=>Q Mo x e H
theorem WC.noP(h:WC Mo P K n c (NoP Q) e H):WC Mo P K n c Q e H:=WC.mono h fun Mo x e H hh=>by
 cases x<;>first | exact hh | exact hh.elim
theorem pF.aoK(h:pF P f args K H bad post LD)(hp:∀H',¬LD H'):aB P f args K H post:=fun w hw=>(h w hw).mono fun e w' ⟨H',h1,h2⟩=>by
 rcases h2 with ⟨v,a,b⟩ | ⟨_,b⟩
 ·exact⟨v,H',a,h1,b⟩
 ·exact absurd b (hp H')
theorem V.Yu{T:Nat}(hx:OV c e x v)(hI:∀w,(Instr.makeInterface T v).run P w= .ok u w):eX Mo P K n c e H ⟨dst,.makeInterface T x,ty,pos,af,gd⟩ u:=fun hc a w ha hw=>by
 show ((do pure (Next.value (←Instr.makeInterface T (a.eval x)))):Sem Next).run P w=_;rw[hx.ev hc ha];simp[hI w]
theorem V.typeAssert{T S:Nat}(hx:OV c e x v)(hI:∀w,(Instr.typeAssert v S T b).run P w= .ok u w):eX Mo P K n c e H ⟨dst,.typeAssert x S T b,ty,pos,af,gd⟩ u:=fun hc a w ha hw=>by
 show ((do pure (Next.value (←Instr.typeAssert (a.eval x) S T b))):Sem Next).run P w=_;rw[hx.ev hc ha];simp[hI w]
end
end Go.Sl
namespace Go.Proofs.YtcedojacbhnbiaaGreat
open Go.Sl Go.RowKit Tryz List Nat
structure aY where
 (f t0:Int) (g0:Bool) (t1:Int) (g1:Bool)
 deriving DecidableEq
namespace aY
abbrev v(s:aY):Value:= .agg #[.i s.f,.i s.t0,.bool s.g0,.i s.t1,.bool s.g1]
def zero:aY:=⟨0,0,false,0,false⟩
def ok(s:aY):Bool:=(decide (s.f=0)||decide (s.f=1))&&decide (0≤s.t0)&&decide (s.t0≤7)&&decide (0≤s.t1)&&decide (s.t1≤7)
def V3(s:aY):Int:=if s.ok then 0 else 1
def Ol(s:aY)(slot:Int):Int:=if s.ok&&(decide (slot=0)||decide (slot=1)) then 0 else 1
def t(s:aY)(slot:Int):Int:=if slot=0 then s.t0 else s.t1
def g(s:aY)(slot:Int):Bool:=if slot=0 then s.g0 else s.g1
def put(s:aY)(slot first t:Int)(g:Bool):aY:=if slot=0 then ⟨first,t,g,s.t1,s.g1⟩ else ⟨first,s.t0,s.g0,t,g⟩
def may(s:aY)(slot:Int):Bool:=s.g slot||decide (0<s.t slot)
def gM(s:aY)(slot:Int):aY×Int :=
 if s.Ol slot≠0 then (zero,1) else if s.may slot then (s.put slot s.f (if s.g slot then s.t slot else s.t slot-1) (s.g slot),0) else (zero,240)
def install(s:aY)(slot:Int):aY×Int:=if s.Ol slot≠0∨slot=s.f then (zero,1) else (s.put slot slot 7 false,0)
def order(s:aY):List Int:=if s.ok then [s.f,1-s.f].filter s.may else []
def Zf(b:Bool):Int:=if b then 1 else 0
def bytes(s:aY):List Int:=if s.ok then [115,108,111,116,s.f,s.t0,Zf s.g0,s.t1,Zf s.g1] else []
theorem Uf{s:aY}(h:s.Ol slot=0):s.ok=true∧(slot=0∨slot=1):=by grind [Ol]
theorem aaV{s:aY}(h:s.V3=0):s.ok=true:=by grind [V3]
theorem lJ{s:aY}(h:s.ok=true):(s.f=0∨s.f=1)∧0≤s.t0∧s.t0≤7∧0≤s.t1∧s.t1≤7:=by simp[ok] at h;omega
end aY
abbrev sl(t:Int)(g:Bool):Value:= .agg #[.i t,.bool g]
theorem yV(t:Int)(g:Bool)(K:World)(F:List aH):aK prog 128 #[sl t g] K F (.bool (g||decide (0<t))):=by
 refine aB.en func128 ntmps128 ?_;refine aj "a~7" fun b1=> ?_;exact aj "voc~g~b~mLd." trivial
theorem xA(s:aY)(K:World)(F:List aH):aK prog 127 #[s.v] K F (.i s.V3):=by
 refine aB.en func127 ntmps127 ?_;refine aj "a%" fun b1=> ?_;refine aj "uaosc^_~~~oQi" (aW (fun aL=> ?_) fun aL=> ?_)
 ·try simp only[iC] at aL
  refine aj "G;" ?_;congr 1;unfold aY.V3 aY.ok;first | rw[if_pos (by simp;omega)] | rw[if_neg (by simp;omega)]
 ·try simp only[iC] at aL
  refine aj ",a8~~~uN~=T5Ia~~Jw" fun b4=> ?_;refine aj "~(Ro4c~g~b~mLi" (aW (fun bA=> ?_) fun bA=> ?_)
  ·try simp only[iC] at bA
   refine aj "G;" ?_;congr 1;unfold aY.V3 aY.ok;first | rw[if_pos (by simp;omega)] | rw[if_neg (by simp;omega)]
  ·try simp only[iC] at bA
   refine aj "qp~Q~sT5Ia~~Jw" fun b4=> ?_;refine aj "~(Ro4c~g~b~mLi" (aW (fun mV=> ?_) fun mV=> ?_)
   ·try simp only[iC] at mV
    refine aj "G;" ?_;congr 1;unfold aY.V3 aY.ok;first | rw[if_pos (by simp;omega)] | rw[if_neg (by simp;omega)]
   ·try simp only[iC] at mV
    refine aj "qp~t~sT~BKG;" ?_;congr 1;unfold aY.V3 aY.ok;first | rw[if_pos (by simp;omega)] | rw[if_neg (by simp;omega)]
theorem OW(K:World)(F:List aH):aK prog 89 #[] K F aY.zero.v:=by
 refine aB.en func89 ntmps89 ?_;refine aj "aw" fun b0=> ?_;refine aj "R@E2" ?_;exact aF.ret (H':=F) (bJ.one rfl (R1.jQ (vs:=[_,_,_,_,_]) rfl ⟨isAgg58,sizeOf58⟩ rfl tN)) eO ⟨rfl,rfl⟩
theorem Fb(s:aY)(slot:Int)(K:World)(F:List aH):aK prog 129 #[s.v,.i slot] K F (.i (s.Ol slot)):=by
 refine aB.en func129 ntmps129 ?_;refine aj "a%" fun b2=> ?_;refine aj "uaB" ?_;refine WL.t1 call127 rfl (xA s _ _) rfl ?_;refine aj "jscV~~a~~X~~H~~~e~~YLi" (aW (fun aL=> ?_) fun aL=> ?_)
 ·try simp only[iC] at aL
  refine aj "G;" ?_;congr 1;unfold aY.Ol;cases jh:s.ok<;>simp[aY.V3,jh] at aL ⊢ <;>omega
 ·try simp only[iC] at aL
  refine aj "qG;" ?_;congr 1;unfold aY.Ol;cases jh:s.ok<;>simp[aY.V3,jh] at aL ⊢ <;>omega
theorem Br(s:aY)(slot first t:Int)(g:Bool)(h:slot=0∨slot=1)(K:World)(F:List aH) :
 aK prog 130 #[s.v,.i slot,.i first,sl t g] K F (.tuple #[(s.put slot first t g).v,.i 0]):=by
 rcases h with rfl | rfl
 all_goals
  refine aB.en func130 ntmps130 ?_;refine aj "a%" fun b4=> ?_;refine aj "~7" fun b7=> ?_;refine aj "w" fun b8=> ?_;refine aj "u" ?_;refine WC.dM F (by kernel_rfl) ?_;refine aj "m0m10305" ?_;refine WA.two (i:=2) (j:=4) eO (by kernel_rfl) rfl rfl ?_ ?_
  ·refine aj "~2bn4~&b~~y6n7~)bOaBEd" ?_;exact aF.ret (H':=F) (rA rfl rfl ⟨isAgg58,sizeOf58⟩ rfl) eO ⟨rfl,rfl⟩
  ·refine aj "~&bn2~2b~~y6n7~)bOaBEd" ?_;exact aF.ret (H':=F) (rA rfl rfl ⟨isAgg58,sizeOf58⟩ rfl) eO ⟨rfl,rfl⟩
theorem Yr(s:aY)(slot:Int)(K:World)(F:List aH):aK prog 68 #[s.v,.i slot] K F (.tuple #[(s.gM slot).1.v,.i (s.gM slot).2]):=by
 refine aB.en func68 ntmps68 ?_;refine aj "a%" fun b2=> ?_;refine aj "w" fun b4=> ?_;refine aj "uaBc" ?_;refine WL.t2 call129 rfl rfl (Fb s slot _ _) rfl ?_;refine aj "jsb~e" (aW (fun aL=> ?_) fun aL=> ?_)
 ·have e1:s.gM slot=(aY.zero,1):=by unfold aY.gM;rw[if_pos aL]
  have e2:s.Ol slot=1:=by unfold aY.Ol at aL ⊢;split<;>simp_all
  refine aj "a@cEd" ?_;refine aF.ret (H':=F) (rA rfl rfl ⟨isAgg58,sizeOf58⟩ rfl) eO ⟨?_,rfl⟩;rw[e1,e2];rfl
 ·obtain⟨jh,mR⟩:=aY.Uf aL;have hs:=aY.lJ jh;have e1:s.gM slot=if s.may slot then (s.put slot s.f (if s.g slot then s.t slot else s.t slot-1) (s.g slot),0) else (aY.zero,240):=by unfold aY.gM;rw[if_neg (by simp[aL])]
  rcases mR with rfl | rfl
  all_goals
   refine aj "U8~z~2w" fun b7=> ?_;refine aj "~(Fta~2" ?_;refine WL.t1 call128 rfl (yV _ _ _ _) rfl ?_;refine aj "*gH" (aW (fun aQ=> ?_) fun aQ=> ?_)
   ·simp only[Gd] at aQ;refine aj "a@Ed" ?_;refine aF.ret (H':=F) (rA rfl rfl ⟨isAgg58,sizeOf58⟩ rfl) eO ⟨?_,rfl⟩;rw[e1];simp[*,aY.may,aY.g,aY.t,aY.put,aY.zero]
   ·simp only[Gd] at aQ;refine aj "ao*gH" (aW (fun bA=> ?_) fun bA=> ?_)
    ·simp only[Gd] at bA;simp[bA] at aQ;refine aj "po[8~~~xRBco~2" ?_;refine WL.t4 call130 rfl rfl rfl rfl (Br s _ _ _ _ (by simp) _ _) rfl ?_;refine aj "~6Ed" ?_;refine aF.ret (H':=F) (rA rfl rfl ⟨isAgg58,sizeOf58⟩ rfl) eO ⟨?_,rfl⟩;rw[e1];simp[*,aY.may,aY.g,aY.t,aY.put,aY.zero]
    ·simp only[Gd] at bA;refine aj "9Bco~2" ?_;refine WL.t4 call130 rfl rfl rfl rfl (Br s _ _ _ _ (by simp) _ _) rfl ?_;refine aj "~6Ed" ?_;refine aF.ret (H':=F) (rA rfl rfl ⟨isAgg58,sizeOf58⟩ rfl) eO ⟨?_,rfl⟩;rw[e1];simp[*,aY.may,aY.g,aY.t,aY.put,aY.zero]
theorem aeI(s:aY)(slot:Int)(K:World)(F:List aH):aK prog 176 #[s.v,.i slot] K F (.tuple #[(s.install slot).1.v,.i (s.install slot).2]):=by
 refine aB.en func176 ntmps176 ?_;refine aj "a%" fun b2=> ?_;refine aj "w" fun b4=> ?_;refine aj "uaBc" ?_;refine WL.t2 call129 rfl rfl (Fb s slot _ _) rfl ?_;refine aj "jscV~g~b" ?_;refine WL.bI (oj:=_) rfl rfl rfl GC.f (V.eql (OV.g rfl id) (OV.g rfl id)) rfl ?_;refine aj "Li" (aW (fun aL=> ?_) fun aL=> ?_)
 ·simp only[iC] at aL;refine aj "a@Ed" ?_;refine aF.ret (H':=F) (rA rfl rfl ⟨isAgg58,sizeOf58⟩ rfl) eO ⟨?_,rfl⟩;unfold aY.install;rw[if_pos aL];rfl
 ·simp only[iC] at aL;obtain⟨jh,mR⟩:=aY.Uf aL.1;refine aj "9Bz" ?_;refine WL.val (V.build (vs:=[(0,_)]) ⟨ak rfl,trivial⟩ rfl (ahf _)) rfl (WL.t4 call130 rfl rfl rfl rfl (Br s _ _ _ _ mR _ _) rfl ?_);refine aj "~6Ed" ?_;refine aF.ret (H':=F) (rA rfl rfl ⟨isAgg58,sizeOf58⟩ rfl) eO ⟨?_,rfl⟩;unfold aY.install;rw[if_neg (by rintro (h | h);exact h aL.1;exact aL.2 h)]
theorem EW(s:aY)(K:World)(F:List aH):aB prog 67 #[s.v] K F (fun v H'=>∃A cap,v= .tuple #[.slice A s.order.length cap,.i s.V3]∧H'=aV (.slice A s.order.length cap) 3 1 s.order.length (ints .i64 s.order)::F):=by
 obtain⟨f,t0,g0,t1,g1⟩:=s;dsimp only[aY.v];refine aB.en func67 ntmps67 ?_;refine aj "a%" fun b1=> ?_;refine aj "luaB" ?_;refine WL.t1 call127 rfl (xA ⟨_,_,_,_,_⟩ _ _) rfl ?_;refine aj "jsi" (aW (fun aL=> ?_) fun aL=> ?_)
 ·simp only[iC] at aL;refine aj "eC" ?_;refine aF.ret (H':=aV (.slice none 0 0) 3 1 0 []::F) (bJ.eU rfl rfl rfl) (fun w h=>Sat.gI (by revert h;exact fun h=>by repeat (first | exact h | replace h:=h.tail)) _ _) ⟨none,0, ?_⟩;have e1:(aY.mk f t0 g0 t1 g1).order=[]:=by unfold aY.order;rw[if_neg (by intro h;apply aL;unfold aY.V3;rw[if_pos h])]
  rw[e1];exact⟨rfl,rfl⟩
 ·simp only[iC] at aL;have jh:=aY.aaV aL;have hf:=(aY.lJ jh).1;have e1:(aY.mk f t0 g0 t1 g1).order=[f,1-f].filter (aY.mk f t0 g0 t1 g1).may:=by unfold aY.order;rw[if_pos jh]
  dsimp only at hf;rcases hf with rfl | rfl
  all_goals
   refine aj "," ?_;refine WC.sub (Sub.refl _) (fun w h=>h.gI 3 1) ?_;refine aj "puaoo[" ?_;refine WL.val (V.build (vs:=[(0,_),(1,_)]) ⟨ak rfl,ak rfl,trivial⟩ rfl (Uo _ _)) rfl (aj "N~=T5Ia~~~fj8~z~2" ?_);refine WL.t1 call128 rfl (yV _ _ _ _) rfl ?_;refine aj "i" (aW (fun bA=> ?_) fun bA=> ?_)
   ·refine aj "P" ?_;refine WL.buildSlice (E:=3) (cs:=[_]) (vs:=[(0,_)]) ⟨ak rfl,trivial⟩ rfl (dJ _) rfl (fun Va=> ?_);refine aj "?" ?_;refine WL.append underlying124 Me (ak rfl) (ak rfl) (by repeat (first | exact Seq.all rfl | apply Seq.up)) (by simp[Value.oneCell']) (by first | omega | (simp;omega)) rfl rfl (fun A30 c30 agy ag3=> ?_);refine aj "gp~Q~sT5Ia~~~fj8~z~2" ?_;refine WL.t1 call128 rfl (yV _ _ _ _) rfl ?_;refine aj "i" (aW (fun mV=> ?_) fun mV=> ?_)
    ·refine aj "P" ?_;refine WL.buildSlice (E:=3) (cs:=[_]) (vs:=[(0,_)]) ⟨ak rfl,trivial⟩ rfl (dJ _) rfl (fun Va=> ?_);refine aj "?" ?_;refine WL.append underlying124 Me (ak rfl) (ak rfl) (by repeat (first | exact Seq.all rfl | apply Seq.up)) (by simp[Value.oneCell']) (by first | omega | (simp;omega)) rfl rfl (fun A30 c30 agy ag3=> ?_);refine aj "gp~t~sT~BKeC" ?_;simp only[filter,aY.may,aY.g,aY.t,Int.reduceSub,Int.reduceEq,↓reduceIte, *] at e1;exact aF.ret (H':=aV _ 3 1 _ _::F) (bJ.eU rfl rfl rfl) (fun w h=>by repeat (first | exact h | replace h:=h.oJ)) ⟨_,_,by rw[e1,aL];rfl,by rw[e1];rfl⟩
    ·refine aj "qp~t~sT~BKeC" ?_;simp only[filter,aY.may,aY.g,aY.t,Int.reduceSub,Int.reduceEq,↓reduceIte, *] at e1;exact aF.ret (H':=aV _ 3 1 _ _::F) (bJ.eU rfl rfl rfl) (fun w h=>by repeat (first | exact h | replace h:=h.oJ)) ⟨_,_,by rw[e1,aL];rfl,by rw[e1];rfl⟩
   ·refine aj "qp~Q~sT5Ia~~~fj8~z~2" ?_;refine WL.t1 call128 rfl (yV _ _ _ _) rfl ?_;refine aj "i" (aW (fun mV=> ?_) fun mV=> ?_)
    ·refine aj "P" ?_;refine WL.buildSlice (E:=3) (cs:=[_]) (vs:=[(0,_)]) ⟨ak rfl,trivial⟩ rfl (dJ _) rfl (fun Va=> ?_);refine aj "?" ?_;refine WL.append underlying124 Me (ak rfl) (ak rfl) (by repeat (first | exact Seq.all rfl | apply Seq.up)) (by simp[Value.oneCell']) (by first | omega | (simp;omega)) rfl rfl (fun A30 c30 agy ag3=> ?_);refine aj "gp~t~sT~BKeC" ?_;simp only[filter,aY.may,aY.g,aY.t,Int.reduceSub,Int.reduceEq,↓reduceIte, *] at e1;exact aF.ret (H':=aV _ 3 1 _ _::F) (bJ.eU rfl rfl rfl) (fun w h=>by repeat (first | exact h | replace h:=h.oJ)) ⟨_,_,by rw[e1,aL];rfl,by rw[e1];rfl⟩
    ·refine aj "qp~t~sT~BKeC" ?_;simp only[filter,aY.may,aY.g,aY.t,Int.reduceSub,Int.reduceEq,↓reduceIte, *] at e1;exact aF.ret (H':=aV _ 3 1 _ _::F) (bJ.eU rfl rfl rfl) (fun w h=>by repeat (first | exact h | replace h:=h.oJ)) ⟨_,_,by rw[e1,aL];rfl,by rw[e1];rfl⟩
theorem wrap_u8(h:0≤i∧i<256):IntKind.u8.wrap i=i:=by grind [IntKind.wrap,IntKind.signed,IntKind.bits]
theorem EP(s:aY)(K:World)(F:List aH):aB prog 131 #[s.v] K F (fun v H'=>(s.ok=true∧∃b,v= .tuple #[.slice (some ⟨b,0,none⟩) 9 9,.i 0]∧H'=ah b 5 (ints .u8 s.bytes)::F)∨(s.ok=false∧v= .tuple #[.slice none 0 0,.i 1]∧H'=F)):=by
 obtain⟨f,t0,g0,t1,g1⟩:=s;dsimp only[aY.v];refine aB.en func131 ntmps131 ?_;refine aj "a%" fun b1=> ?_;refine aj "luaB" ?_;refine WL.t1 call127 rfl (xA ⟨_,_,_,_,_⟩ _ _) rfl ?_;refine aj "jsi" (aW (fun aL=> ?_) fun aL=> ?_)
 ·simp only[iC] at aL;refine aj "eC" ?_;have e1:(aY.mk f t0 g0 t1 g1).ok=false:=by
   cases h:(aY.mk f t0 g0 t1 g1).ok with
   | false=>rfl
   | true=>exact (aL (by unfold aY.V3;rw[if_pos h])).elim
  exact aF.ret (H':=F) (bJ.eU rfl rfl rfl) eO (.inr ⟨e1,by unfold aY.V3;rw[if_neg (by simp[e1])],rfl⟩)
 ·simp only[iC] at aL;have jh:=aY.aaV aL;have hs:=aY.lJ jh;dsimp only at hs;refine aj "9" ?_;refine WL.af0 9 (cs:=[_,_,_,_,_,_,_,_,_]) underlying34 yL (ak rfl) (ak rfl) rfl rfl ay rfl rfl rfl rfl (fun b13=> ?_);refine aj "j" ?_;refine WL.adU (news:=[_,_,_,_]) dO (ak rfl) rfl rfl (by repeat (first | exact bT.here (cs':=[_,_,_,_,_,_,_,_,_]) rfl rfl | apply bT.up)) rfl ?_;refine aj "beo~l~E~~lFa8~~~uN~=T51~~Jw" fun b7=> ?_;refine aj "l~(bec" ?_;refine WL.val (V.aG (v':= .i (0)) (V.mul (ak rfl) (ak rfl)) (fun _=>rfl)) rfl ?_;refine WL.val (V.aG (v':= .i (5)) (V.add (ak rfl) (ak rfl)) (fun _=>rfl)) rfl ?_;refine aj "o~l~E~~lRoi" (aW (fun bA=> ?_) fun bA=> ?_)
  ·try simp only[iC] at bA
   refine aj "P" ?_;refine WL.val (V.aG (v':= .i (0)) (V.mul (ak rfl) (ak rfl)) (fun _=>rfl)) rfl ?_;refine WL.val (V.aG (v':= .i (6)) (V.add (ak rfl) (ak rfl)) (fun _=>rfl)) rfl ?_;refine aj "~E~~lbp~Q~sT51~~Jw" fun b7=> ?_;refine aj "l~(bec~~2" ?_;refine WL.val (V.aG (v':= .i (7)) (V.add (ak rfl) (ak rfl)) (fun _=>rfl)) rfl ?_;refine aj "o~l~E~~lRoi" (aW (fun mV=> ?_) fun mV=> ?_)
   ·try simp only[iC] at mV
    refine aj "P~~2" ?_;refine WL.val (V.aG (v':= .i (8)) (V.add (ak rfl) (ak rfl)) (fun _=>rfl)) rfl ?_;refine aj "~E~~lbp~t~sT~BKeC" ?_;refine aF.ret (H':=ah b13 _ (ints .u8 (aY.mk f t0 g0 t1 g1).bytes)::F) (bJ.eU rfl rfl rfl) (fun w h=> ?_) (.inl ⟨jh,b13,rfl,rfl⟩);replace h:=h.tail.tail.oJ;refine Sat.aT h ?_;rw[wrap_u8 ay,wrap_u8 ay,wrap_u8 ay];unfold aY.bytes;rw[if_pos jh];simp[oU,ints,aY.Zf, *]
   ·try simp only[iC] at mV
    refine aj "qp~t~sT~BKeC" ?_;refine aF.ret (H':=ah b13 _ (ints .u8 (aY.mk f t0 g0 t1 g1).bytes)::F) (bJ.eU rfl rfl rfl) (fun w h=> ?_) (.inl ⟨jh,b13,rfl,rfl⟩);replace h:=h.tail.tail.oJ;refine Sat.aT h ?_;rw[wrap_u8 ay,wrap_u8 ay,wrap_u8 ay];unfold aY.bytes;rw[if_pos jh];simp[oU,ints,aY.Zf, *]
  ·try simp only[iC] at bA
   refine aj "qp~Q~sT51~~Jw" fun b7=> ?_;refine aj "l~(bec~~2" ?_;refine WL.val (V.aG (v':= .i (7)) (V.add (ak rfl) (ak rfl)) (fun _=>rfl)) rfl ?_;refine aj "o~l~E~~lRoi" (aW (fun mV=> ?_) fun mV=> ?_)
   ·try simp only[iC] at mV
    refine aj "P~~2" ?_;refine WL.val (V.aG (v':= .i (8)) (V.add (ak rfl) (ak rfl)) (fun _=>rfl)) rfl ?_;refine aj "~E~~lbp~t~sT~BKeC" ?_;refine aF.ret (H':=ah b13 _ (ints .u8 (aY.mk f t0 g0 t1 g1).bytes)::F) (bJ.eU rfl rfl rfl) (fun w h=> ?_) (.inl ⟨jh,b13,rfl,rfl⟩);replace h:=h.tail.tail.oJ;refine Sat.aT h ?_;rw[wrap_u8 ay,wrap_u8 ay,wrap_u8 ay];unfold aY.bytes;rw[if_pos jh];simp[oU,ints,aY.Zf, *]
   ·try simp only[iC] at mV
    refine aj "qp~t~sT~BKeC" ?_;refine aF.ret (H':=ah b13 _ (ints .u8 (aY.mk f t0 g0 t1 g1).bytes)::F) (bJ.eU rfl rfl rfl) (fun w h=> ?_) (.inl ⟨jh,b13,rfl,rfl⟩);replace h:=h.tail.tail.oJ;refine Sat.aT h ?_;rw[wrap_u8 ay,wrap_u8 ay,wrap_u8 ay];unfold aY.bytes;rw[if_pos jh];simp[oU,ints,aY.Zf, *]
namespace aY
def of(xs:List Int):aY:=⟨xs.getD 4 0,xs.getD 5 0,decide (xs.getD 6 0=1),xs.getD 7 0,decide (xs.getD 8 0=1)⟩
theorem fC{s:aY}(h:s.ok=true):s.bytes.length=9:=by unfold bytes;rw[if_pos h];rfl
theorem gJ{s:aY}(h:s.ok=true):bF s.bytes:=by
 have hs:=lJ h;unfold bytes;rw[if_pos h];have hb:∀b,0≤Zf b∧Zf b<256:=fun b=>by cases b<;>simp[Zf]
 have h0:=hb s.g0;have h1:=hb s.g1;intro x hx;simp only[mem_cons,not_mem_nil,or_false] at hx;omega
def dW(xs:List Int):Bool:=decide (xs.length=9)&&(of xs).ok&&decide ((of xs).bytes=xs)
def parse(xs:List Int):aY×Int:=if dW xs then (of xs,0) else (zero,4)
end aY
theorem Ot(hx:bF xs)(K:World)(F:List aH)(hs:Seq K F A m 1 (ints .u8 xs)) :
 aK prog 88 #[.slice A m cap] K F (.tuple #[(aY.parse xs).1.v,.i (aY.parse xs).2]):=by
 have hl:xs.length=m:=by simpa [ints] using hs.len
 refine aB.en func88 ntmps88 ?_;refine aj "aw" fun b2=> ?_;refine aj "fksi" (aW (fun aL=> ?_) fun aL=> ?_)
 ·simp only[iC] at aL;refine aj "a@Ed" ?_;refine aF.ret (H':=F) (rA rfl rfl ⟨isAgg58,sizeOf58⟩ rfl) eO ⟨?_,rfl⟩;unfold aY.parse;rw[if_neg (by simp[aY.dW];omega)];rfl
 ·simp only[iC] at aL;obtain rfl:m=9:=by omega
  refine aj ",~Zm0" ?_;refine WA.t 1 rfl (V.dw dO (ak rfl) (ak rfl) Jy (fun hc=>by repeat (first | exact Seq.dD hs (by first | omega | (simp at hc;omega)) | apply Rd.up))) ?_;refine WA.t 2 rfl (V.load isAgg5 (ak rfl) (fun hc=>by repeat (first | exact Seq.dD hs (by first | omega | (simp at hc;omega)) | apply Rd.up))) ?_;refine WA.t 3 rfl (V.uy runUnderlying5 runUnderlying3 (ak rfl) (fun _=>wrap_i64 (bF.wide hx _))) ?_;refine aj "m4" ?_;refine WA.t 5 rfl (V.dw dO (ak rfl) (ak rfl) Jy (fun hc=>by repeat (first | exact Seq.dD hs (by first | omega | (simp at hc;omega)) | apply Rd.up))) ?_;refine WA.t 6 rfl (V.load isAgg5 (ak rfl) (fun hc=>by repeat (first | exact Seq.dD hs (by first | omega | (simp at hc;omega)) | apply Rd.up))) ?_;refine WA.t 7 rfl (V.uy runUnderlying5 runUnderlying3 (ak rfl) (fun _=>wrap_i64 (bF.wide hx _))) ?_;refine aj "m8" ?_;refine WA.t 9 rfl (V.dw dO (ak rfl) (ak rfl) Jy (fun hc=>by repeat (first | exact Seq.dD hs (by first | omega | (simp at hc;omega)) | apply Rd.up))) ?_;refine WA.t 10 rfl (V.load isAgg5 (ak rfl) (fun hc=>by repeat (first | exact Seq.dD hs (by first | omega | (simp at hc;omega)) | apply Rd.up))) ?_;refine aj "~~z;" ?_;refine WA.t 12 rfl (V.build (vs:=[(0,_),(1,_)]) ⟨ak rfl,ak rfl,trivial⟩ rfl (qj _ _)) ?_;refine aj "m=" ?_;refine WA.t 14 rfl (V.dw dO (ak rfl) (ak rfl) Jy (fun hc=>by repeat (first | exact Seq.dD hs (by first | omega | (simp at hc;omega)) | apply Rd.up))) ?_;refine WA.t 15 rfl (V.load isAgg5 (ak rfl) (fun hc=>by repeat (first | exact Seq.dD hs (by first | omega | (simp at hc;omega)) | apply Rd.up))) ?_;refine WA.t 16 rfl (V.uy runUnderlying5 runUnderlying3 (ak rfl) (fun _=>wrap_i64 (bF.wide hx _))) ?_;refine aj "mA" ?_;refine WA.t 18 rfl (V.dw dO (ak rfl) (ak rfl) Jy (fun hc=>by repeat (first | exact Seq.dD hs (by first | omega | (simp at hc;omega)) | apply Rd.up))) ?_;refine WA.t 19 rfl (V.load isAgg5 (ak rfl) (fun hc=>by repeat (first | exact Seq.dD hs (by first | omega | (simp at hc;omega)) | apply Rd.up))) ?_;refine aj "~~zD" ?_;refine WA.t 21 rfl (V.build (vs:=[(0,_),(1,_)]) ⟨ak rfl,ak rfl,trivial⟩ rfl (qj _ _)) ?_;refine WA.t 22 rfl (V.build (vs:=[(0,_),(1,_)]) ⟨ak rfl,ak rfl,trivial⟩ rfl (Xg _ _ _ _)) ?_;refine WA.t 23 rfl (V.build (vs:=[(0,_),(1,_)]) ⟨ak rfl,ak rfl,trivial⟩ rfl (Xw _ _ _ _ _)) ?_;refine aj "nHw" fun b4=> ?_;refine aj "bnIEbOMaB" ?_;refine WL.c1 call131 rfl (EP (aY.of xs) _ _) rfl ?_;rintro v H' (⟨jh,bb,rfl,rfl⟩ | ⟨jh,rfl,rfl⟩);all_goals
   refine aj "DjscV" ?_;refine WL.bI (oj:=_) rfl rfl rfl GC.f (V.iM underlying34 underlying5 underlying9 (OV.g rfl id) (fun hc=>by first | exact Seq.agZ | exact Seq.allI (aY.fC jh))) rfl ?_;refine aj "V" ?_;refine WL.bI (oj:=_) rfl rfl rfl GC.f (V.iM underlying34 underlying5 underlying9 (OV.g rfl id) (fun hc=>by repeat (first | exact Seq.agZ | exact Seq.allI (by simp) | assumption | apply Seq.up))) rfl ?_;refine WL.bI (oj:=_) rfl rfl rfl GC.f (V.agA (OV.g rfl id) (OV.g rfl id)) rfl ?_;refine aj "Li" (aW (fun aQ=> ?_) fun aQ=> ?_)
   ·have hng:aY.dW xs=false:=by first | (simp[aY.dW,jh];done) | (rw[sZ (aY.gJ jh) hx] at aQ;simp at aQ;simp[aY.dW,aQ])
    refine aj "a@Ed" ?_;refine aF.ret (H':=F) (rA rfl rfl ⟨isAgg58,sizeOf58⟩ rfl) eO ⟨?_,rfl⟩;unfold aY.parse;rw[if_neg (by simp[hng])];rfl
   ·have hg:aY.dW xs=true:=by first | (exfalso;revert aQ;simp;done) | (rw[sZ (aY.gJ jh) hx] at aQ;simp at aQ;simp[aY.dW,jh,hl,aQ])
    refine aj "9BEd" ?_;refine aF.ret (H':=F) (rA rfl rfl ⟨isAgg58,sizeOf58⟩ rfl) eO ⟨?_,rfl⟩;unfold aY.parse;rw[if_pos hg];rfl
def pJ(g:bQ)(h:Hd)(d:List Nat):Nat→List Nat
 | 0=>jP g h
 | p+1=>(d.drop (p*g.room.toNat)).take g.room.toNat++replicate (g.room.toNat-((d.drop (p*g.room.toNat)).take g.room.toNat).length) 0
def gu(S:aD)(b:Int)(pg:Nat→List Nat):Nat→aD×Int
 | 0=>(S,0)
 | k+1=>if (gu S b pg k).2≠0 then gu S b pg k else (gu S b pg k).1.dK b k (pg k)
def dI(S:aD)(num b aS:Int)(d:List Nat):aD×Int :=
 if (S.bB b).2≠0 then S.bB b
 else gu (S.bB b).1 b (pJ S.g ⟨aS,d.length,num⟩ d) ((S.g.bN d.length).toNat+1)
theorem QK(h:(gu S b pg k).2≠0):∀m,gu S b pg (k+m)=gu S b pg k
 | 0=>rfl
 | m+1=>by rw[←Nat.add_assoc,gu,QK h m,if_pos h]
theorem Bg(hd:aA 256 d):∀p,aA 256 (pJ g h d p)
 | 0=>yN g h
 | p+1=>by
  unfold pJ;intro x hx;rcases mem_append.1 hx with hx | hx
  ·exact aA.take (aA.drop hd) x hx
  ·rw[eq_of_mem_replicate hx];decide
theorem rG(hg:g.aU):∀p,(pJ g h d p).length=g.room.toNat
 | 0=>pQ hg h
 | p+1=>by
  unfold pJ;rw[length_append,length_replicate];have :=length_take_le (g.room.toNat) (d.drop (p*g.room.toNat));omega
theorem Sc{g:bQ}(hg:g.aU)(h:m≤k*g.room.toNat):(g.bN m).toNat≤k:=by
 have hr:=bQ.kP hg;have h1:g.bN m<(k:Int)+1:=by
  unfold bQ.bN;refine Int.ediv_lt_of_lt_mul ay ?_;have :((k*g.room.toNat:Nat):Int)=(k:Int)*g.room:=by rw[Int.natCast_mul];congr 1;omega
  rw[Int.add_mul,Int.one_mul];omega
 omega
theorem WW{g:bQ}(hg:g.aU)(h:k*g.room.toNat<m):k<(g.bN m).toNat:=by
 have hr:=bQ.kP hg;have h1:(k:Int)+1≤g.bN m:=by
  unfold bQ.bN;refine Int.le_ediv_of_mul_le ay ?_;have :((k*g.room.toNat:Nat):Int)=(k:Int)*g.room:=by rw[Int.natCast_mul];congr 1;omega
  rw[Int.add_mul,Int.one_mul];omega
 omega
theorem PG{T:bZ}{C:Cw}(hC:C.Ok)(hg:C.g=g)(hT:T.Ok g)(hd:Seq K F A m 1 (av .u8 d))(h8:aA 256 d)(Og:m≤cap)(hm:m≤1000000)
 (J7:0≤aS) (EC:Hd.may g ⟨aS,(d.length:Nat),T.next⟩=true):aB prog 64 #[ptr bs 0,.i b,.i aS,.slice A m cap] K (C.A bc::dA bd bc g::T.A bs bd g::F)
 (fun v H'=>∃C':Cw,C'.Ok∧C'.g=g∧C'.aC=(dI C.aC T.next b aS d).1∧v= .i (dI C.aC T.next b aS d).2∧H'=C'.A bc::dA bd bc g::T.A bs bd g::F):=by
 have yO:g.aU:=by rw[←hg];exact hC.aU
 have Od:C.aC.g=g:=hg;have RN:=bQ.kP yO;have wF:d.length=m:=by simpa [av] using hd.len
 obtain⟨X,hX⟩:∃X,X=dI C.aC T.next b aS d:=⟨_,rfl⟩;rw[←hX];unfold dI at hX;rw[Od,wF] at hX;rw[wF] at EC;obtain⟨R,hR⟩:∃R:Nat,g.room=(R:Int):=⟨g.room.toNat,by omega⟩;have hRn:g.room.toNat=R:=ay;have hRb:1≤R∧R≤4096:=ay;refine aB.en func64 ntmps64 ?_;refine aj "afS" ?_;refine WL.val (V.load isAgg70 (ak rfl) (fun _=>by repeat (first | exact bZ.FH 0 _ rfl | apply Rd.up))) rfl ?_;refine WL.mv rfl rfl (WL.c2 call104 rfl rfl (Ce hC hg b) rfl ?_);rintro _ _ ⟨C1,RP,EH,rfl,uM,rfl⟩;refine aj "jsb~e" (aW (fun h0=> ?_) fun h0=> ?_)
 ·rw[if_pos h0] at hX;refine aj "ed" ?_;subst hX;exact qR (C1.A bc::dA bd bc g::T.A bs bd g::F) rfl rfl cO ⟨C1,RP,EH,uM,rfl,rfl⟩
 ·rw[if_neg (fun h=>h ay)] at hX;refine aj "US" ?_;refine WL.val (V.fE (vs:=[.i g.bl,.i g.pg,.i g.se,.i g.sb,.i g.fl]) ⟨isAgg23,sizeOf23⟩ (ak rfl) rfl (fun _=>by repeat (first | exact bZ.rdg | apply fH.up))) rfl ?_;refine WL.t1 call122 rfl (lW yO) rfl ?_;refine aj "Du" ?_;refine WC.dM (C1.A bc::dA bd bc g::T.A bs bd g::F) (by kernel_rfl) ?_;refine aj "m0~a102" ?_;refine WA.t 3 rfl (V.fE (vs:=[.i g.bl,.i g.pg,.i g.se,.i g.sb,.i g.fl]) ⟨isAgg23,sizeOf23⟩ (ak rfl) rfl (fun _=>by repeat (first | exact bZ.rdg | apply fH.up))) ?_;refine aj "m4m5~~~b6m7~a809" ?_;refine WA.t 10 rfl (V.load isAgg3 (ak rfl) (fun _=>by repeat (first | exact bZ.FH 8 _ rfl | apply Rd.up))) ?_;refine WA.t 11 rfl (V.build (vs:=[(0,_),(1,_),(2,_)]) ⟨ak rfl,ak rfl,ak rfl,trivial⟩ rfl (u7 _ _ _)) ?_;refine WA.o 12 rfl ?_;refine WL.c2 call123 rfl rfl (Az yO ⟨aS,(m:Nat),T.next⟩ (by show (m:Int)≤_;omega) J7 (by show 0≤T.next;have :=hT.next;omega)) rfl ?_;rintro v5 H5 h5;obtain⟨Ap,cp,rfl,rfl⟩:∃Ap cp,v5= .tuple #[.slice Ap g.room.toNat cp,.i 0]∧H5=aV (.slice Ap g.room.toNat cp) 5 1 g.room.toNat (av .u8 (jP g ⟨aS,(m:Nat),T.next⟩))::C1.A bc::dA bd bc g::T.A bs bd g::F:=by
   rcases h5 with ⟨_,h⟩ | ⟨h,_⟩
   ·obtain⟨Ap,cp,h⟩:=h;exact⟨Ap,cp,h.1,h.2⟩
   ·rw[EC] at h;cases h
  refine aj "bm=~o>~o?~u@~uAOagt" ?_;obtain⟨pg,Dt⟩:∃pg,pg=pJ g ⟨aS,(m:Nat),T.next⟩ d:=⟨_,rfl⟩;obtain⟨N,hN⟩:∃N,N=(g.bN (m:Nat)).toNat:=⟨_,rfl⟩;rw[←Dt,←hN] at hX;have qY:∀p,aA 256 (pg p):=fun p=>by rw[Dt];exact Bg h8 p
  have l7:∀p,(pg p).length=R:=fun p=>by rw[Dt,rG yO p,hRn]
  have hpp:∀k,m≤k*R→N≤k:=fun k h=>by rw[hN];exact Sc yO (by rw[hRn];exact h)
  have JO:∀k,k*R<m→k<N:=fun k h=>by rw[hN];exact WW yO (by rw[hRn];exact h)
  rw[hRn];refine WC.loop (σ:=Cw×Nat×Option Addr×Nat×Option Addr×Nat) (fun s=>[(0,ptr bs 0),(1,.i b),(3,.slice s.2.2.1 (m-s.2.1*R) s.2.2.2.1),(10,.i (R:Int)),(12,.slice s.2.2.2.2.1 R s.2.2.2.2.2),(13,.i 0),(14,.i (s.2.1:Int))]) (fun s=>aV (.slice s.2.2.2.2.1 R s.2.2.2.2.2) 5 1 R (av .u8 (pg s.2.1))::s.1.A bc::dA bd bc g::T.A bs bd g::F) (fun s=>s.1.Ok∧s.1.g=g∧s.2.1≤N∧(gu (C.aC.bB b).1 b pg s.2.1).2=0∧s.1.aC=(gu (C.aC.bB b).1 b pg s.2.1).1∧Seq K F s.2.2.1 (m-s.2.1*R) 1 (av .u8 (d.drop (s.2.1*R)))∧m-s.2.1*R≤s.2.2.2.1) (fun s=>N-s.2.1) (C1,0,A,cap,Ap,cp) ⟨RP,EH,zero_le _,rfl,uM,by simpa using hd,by show m-0*R≤cap;omega⟩ (.cons rfl (.cons rfl (.cons (look_eq rfl (by simp)) (.cons (look_eq rfl (by rw[hR])) bC)))) (fun w h=>by dsimp only;rw[Dt];exact h) ?_;rintro⟨C2,p,Ad,cd,Aq,cq⟩ ⟨Bz,U1,hpN,hw0,hw1,UN,hcd⟩;dsimp only at Bz U1 hpN hw0 hw1 UN hcd ⊢;have dL:gu (C.aC.bB b).1 b pg (p+1)=C2.aC.dK b p (pg p):=by rw[gu,if_neg (fun h=>h hw0),←hw1]
  refine WC.lG (p:=R≤cq) (fun w h=>by
   obtain⟨_,cap',hv,hle,_⟩:=aV.shape h.head;injection hv with _ _ e3
   rw[e3];exact hle) (fun hrq=> ?_)
  refine aj "Mtr:b5hS" ?_;refine WL.val (V.load isAgg70 (ak rfl) (fun _=>by repeat (first | exact bZ.FH 0 _ rfl | apply Rd.up))) rfl ?_;refine aj "zc~~g" ?_;refine WL.c4 call124 rfl rfl rfl rfl (M6 (d:=pg p) Bz U1 b p (aV.seq (by rw[au,Nat.mul_one,l7])) (qY p) hrq ay) rfl ?_;rintro _ _ ⟨C3,TS,hg3,rfl,hs3,rfl⟩;rw[←dL] at hs3 ⊢;refine aj "fscV~D~~7Li" (aW (fun h2=> ?_) fun h2=> ?_)
  ·simp only[Bool.or_eq_true,Bool.or_eq_false_iff,oK] at h2;have acM:gu (C.aC.bB b).1 b pg (N+1)=gu (C.aC.bB b).1 b pg (p+1):=by
    by_cases he:(gu (C.aC.bB b).1 b pg (p+1)).2=0
    ·have h3:((m-p*R:Nat):Int)=0:=by rcases h2 with h | h;exact absurd he h;exact h
     have h4:=hpp p ay;rw[show p=N by omega]
    ·have :=QK he (N-p);rw[show p+1+(N-p)=N+1 by omega] at this;exact this
   rw[acM] at hX;refine aj "ed" ?_;subst hX;exact qR (C3.A bc::dA bd bc g::T.A bs bd g::F) rfl rfl (fun w h=>h.bg 4 [0,1,3] rfl) ⟨C3,TS,hg3,hs3,rfl,rfl⟩
  ·simp only[Bool.or_eq_true,Bool.or_eq_false_iff,oK] at h2;have he:(gu (C.aC.bB b).1 b pg (p+1)).2=0:=by have :=h2.1;omega
   have Bw:p*R<m:=by have :=h2.2;omega
   have aor:=JO p Bw;obtain⟨q,hq⟩:∃q,q=min R (m-p*R):=⟨_,rfl⟩;have Zd:=Seq.OH UN (show q≤m-p*R by omega) hcd;rw[kQ,drop_drop] at Zd;have XR:=Seq.take UN (show q≤m-p*R by omega);rw[dU] at XR;have pI:(p+1)*R=p*R+R:=succ_mul _ _;have hpb:=Nat.le_mul_of_pos_right p (show 0<R by omega);have amM:pg (p+1)=(d.drop (p*R)).take q++replicate (R-q) 0:=by
    rw[Dt];show (d.drop (p*g.room.toNat)).take g.room.toNat++replicate (g.room.toNat-((d.drop (p*g.room.toNat)).take g.room.toNat).length) 0=_;rw[hRn,length_take,length_drop,wF,←hq];have :(d.drop (p*R)).take R=(d.drop (p*R)).take q:=by
     have h9:q=min R (d.drop (p*R)).length:=by rw[length_drop,wF];exact hq
     rw[h9,←take_eq_take_min]
    rw[this]
   refine aj "Uck" ?_;refine WL.val (V.aG (v':= .i (q:Int)) (V.min (ak rfl) (ak rfl)) (fun _=>by rw[hq];refine congrArg (Value.int .i64) ?_;omega)) rfl ?_;refine aj "Y" ?_;refine WL.val (V.aG (v':= .slice Ad q cd) (V.slice (l:=0) (h:=q) (u:=cd) dO (ak rfl) OO.none (OO.some (ak rfl) (fun _=>rfl)) OO.none (by simp) (zero_le _) ay (Nat.le_refl _)) (fun _=>by rw[Nat.sub_zero,Nat.sub_zero,zK])) rfl ?_;refine WL.c1 call125 rfl (lY (by repeat (first | exact XR | apply Seq.up)) ay) rfl ?_;rintro _ _ ⟨A1,c1,rfl,rfl⟩;refine aj "z[" ?_;refine WL.Gx (m:=q) (q:=R-q) underlying34 underlying3 yL rfl rfl (ak rfl) (ak rfl) ay ay ay rfl (fun A5 c5 Zu wQ=> ?_);refine aj "gP" ?_;refine WL.val (V.slice (l:=q) (h:=m-p*R) (u:=cd) dO (ak rfl) (OO.some (ak rfl) (fun _=>rfl)) OO.none OO.none (by simp) ay ay (Nat.le_refl _)) rfl ?_;refine aj "gh$X" ?_;have e1:q+(R-q)=R:=ay;have e2:m-p*R-q=m-(p+1)*R:=ay;refine⟨(C3,p+1,(if cd=q then Ad else Ad.map (·.add (q*1))),cd-q,A5,c5),⟨TS,hg3,aor,he,hs3, ?_, ?_⟩,(by show N-(p+1)<N-p;omega),.cons rfl (.cons rfl (.cons (look_eq rfl (by dsimp only;rw[e2])) (.cons rfl (.cons (look_eq rfl (by dsimp only;rw[e1])) (.cons (look_eq rfl (by rw[he])) bC))))),fun w h=> ?_⟩
   ·dsimp only;rw[e2] at Zd;have e3:d.drop (p*R+q)=d.drop ((p+1)*R):=by
     by_cases hRm:R≤m-p*R
     ·rw[show p*R+q=(p+1)*R by omega]
     ·rw[drop_eq_nil_of_le ay,drop_eq_nil_of_le ay]
    rw[e3] at Zd;exact Zd
   ·show m-(p+1)*R≤cd-q;omega
   ·dsimp only;rw[amM,dx,eD];rw[e1] at h;exact h.bg 5 [0,1,2,4] rfl
theorem bT.all(h:bT K (l++H) b o vs (l'++H)):bT K (bK l::H) b o vs (bK l'::H):=by
 have conv:∀(L:List aH) (k:Nat),(∃B∈L++H,B.jA k)→∃B∈bK L::H,B.jA k:=fun L k ⟨B,hB,hf⟩=>by
  rcases mem_append.1 hB with hB | hB
  ·exact⟨bK L,.head _,B,hB,hf⟩
  ·exact⟨B,.tail _ hB,hf⟩
 refine⟨fun B' Y7 k hk=> ?_,conv l b h.own,fun w hw=>h.may w (bO.all.1 hw),fun w hw=>bO.all.2 (h.sat w (bO.all.1 hw))⟩;rcases mem_cons.1 Y7 with rfl | Y7
 ·obtain⟨A,hA,hf⟩:=hk;exact conv l k (h.agY A (mem_append_left _ hA) k hf)
 ·exact⟨B',.tail _ Y7,hk⟩
theorem bT.slA(ho:o<m):bT K (aV (.slice (some ⟨gb,0,none⟩) m cap) E 1 m cs::H) gb o [v] (aV (.slice (some ⟨gb,0,none⟩) m cap) E 1 m (cs.set o v)::H):=by
 have nS:∀w:World,RA w w:=fun w=>⟨rfl,rfl,rfl,Nat.le_refl _⟩;refine⟨fun B' Y7 k hk=> ?_,⟨_,.head _,rfl⟩,fun w hw=> ?_,fun w hw=> ?_⟩
 ·rcases mem_cons.1 Y7 with rfl | h
  ·exact⟨_,.head _,hk⟩
  ·exact⟨_,.tail _ h,hk⟩
 ·obtain⟨r,⟨h1,h2,h3,h4⟩,h5⟩:=Sat.nU (K:=w) ⟨nS w,hw⟩;exact (bT.at_ (K:=w) (T:=E) (cs:=cs++r) (v:=v) (by rw[length_append];omega)).may w h5.2
 ·obtain⟨r,⟨h1,h2,h3,h4⟩,h5⟩:=Sat.nU (K:=w) ⟨nS w,hw⟩;have h6:=(bT.at_ (K:=w) (H:=H) (b:=gb) (T:=E) (o:=o) (cs:=cs++r) (v:=v) (by rw[length_append];omega)).sat w h5.2;have h7:=Sat.BX (K:=w.setCells gb o [v]) (s:=1) (m:=m) (cap:=cap) ⟨nS _,h6⟩ (by rw[length_set];exact h1) h3 h4;rw[set_append_left _ _ ay,Nat.mul_one,take_left' (by rw[length_set];omega)] at h7;exact h7.2
theorem bZ.akJ(T:bZ)(x:Int):bT K (T.A bs bd g::F) bs 8 [.i x] (bZ.A bs bd g { T with next:=x }::F):=bT.all (l:=bZ.parts bs bd g T) (l':=bZ.parts bs bd g { T with next:=x }) (bT.here rfl rfl)
theorem bZ.anJ(T:bZ)(x:Int):bT K (T.A bs bd g::F) bs 9 [.i x] (bZ.A bs bd g { T with at_:=x }::F):=bT.all (l:=bZ.parts bs bd g T) (l':=bZ.parts bs bd g { T with at_:=x }) (bT.here rfl rfl)
theorem bZ.ant{T:bZ}(hA:T.sA=some ⟨g1,0,none⟩)(hi:i<T.stands.length)(x:Int):bT K (T.A bs bd g::F) g1 i [.i x] (bZ.A bs bd g { T with stands:=T.stands.set i x }::F):=by
 refine bT.all (l:=bZ.parts bs bd g T) (l':=bZ.parts bs bd g { T with stands:=T.stands.set i x }) ?_;obtain⟨stands,sA,sc,b8,fA,nx,lF,dd⟩:=T;dsimp only at hA hi ⊢;subst hA;unfold bZ.parts bZ.cells bZ.sl;dsimp only;rw[length_set];refine bT.up ?_;have h1:=bT.slA (K:=K) (H:=[ah b8 124 (fA.map bW.v),bK (fA.map bW.row)]++F) (gb:=g1) (cap:=sc) (E:=3) (cs:=ints .i64 stands) (v:= .i x) hi;have h2:(ints .i64 stands).set i (.i x)=ints .i64 (stands.set i x):=by unfold ints;rw[map_set]
 rw[h2] at h1;exact h1
theorem bZ.afh{T:bZ}(h0:0<T.stands.length)(h:Sat K w (T.A bs bd g::F)):∃g1,T.sA=some ⟨g1,0,none⟩:=by
 have h1:Sat K w (bZ.parts bs bd g T++F):=h.yJ;have h2:Sat K w (T.sl::ah bs 127 (T.cells bd g)::ah T.b8 124 (T.fA.map bW.v)::bK (T.fA.map bW.row)::F):=h1.p1;cases hA:T.sA with
 | none =>
  unfold bZ.sl at h2;rw[hA] at h2;have :=(aV.yM h2).1;omega
 | some a =>
  unfold bZ.sl at h2;rw[hA] at h2;obtain⟨g1,rfl⟩:=aV.addr h2;exact⟨g1,rfl⟩
def St.mark(T:St)(aS:Int):St:=if 0≤T.lF aS then { T with cu:=T.cu.set aS.toNat (T.cu.getD aS.toNat []++[T.lF aS]) } else T
def St.done(T:St)(aS b bl:Int):St:= { T with stands:=T.stands.set aS.toNat b,next:=T.next+1,at_:=(b+1)%bl }
def Eb(aS:Int)(d:List Nat)(S:aD)(T:St)(b:Int):aD×St×Option Int :=
 if (dI S T.next b aS d).2=72 then ((dI S T.next b aS d).1,{ T.forget b with next:=min (T.next+1) 1000000001 },if 1000000000<min (T.next+1) 1000000001 then some 6 else none)
 else if (dI S T.next b aS d).2≠0 then ((dI S T.next b aS d).1,(T.forget b).told (dI S T.next b aS d).2,some (dI S T.next b aS d).2)
 else ((dI S T.next b aS d).1,((T.forget b).mark aS).done aS b S.g.bl,some 0)
def jy(aS:Int)(d:List Nat):List Int→aD→St→aD×St×Option Int
 | [],S,T=>(S,T,none)
 | b::bs,S,T=>if (Eb aS d S T b).2.2=none then jy aS d bs (Eb aS d S T b).1 (Eb aS d S T b).2.1 else Eb aS d S T b
def j4(gd Md:List Int)(J5 bl:Int)(n j:Nat):List Int:=((range' j (n-j)).map fun (i:Nat)=>(J5+(i:Int))%bl).filter fun b=>decide (b∈gd∧¬b∈Md)
theorem SV:j4 gd Md J5 bl n n=[]:=by unfold j4;rw[Nat.sub_self];rfl
theorem Tq{n:Nat}(hj:j<n)(h:(J5+(j:Int))%bl∈gd∧¬(J5+(j:Int))%bl∈Md):j4 gd Md J5 bl n j=(J5+(j:Int))%bl::j4 gd Md J5 bl n (j+1):=by
 unfold j4;rw[show n-j=(n-(j+1))+1 by omega,range'_succ,map_cons,filter_cons_of_pos (by simpa using h)]
theorem XB{n:Nat}(hj:j<n)(h:¬((J5+(j:Int))%bl∈gd∧¬(J5+(j:Int))%bl∈Md)):j4 gd Md J5 bl n j=j4 gd Md J5 bl n (j+1):=by
 unfold j4;rw[show n-j=(n-(j+1))+1 by omega,range'_succ,map_cons,filter_cons_of_neg (by simpa using h)]
def bq(S:aD)(T:St)(aS:Int)(d:List Nat):aD×St×Int :=
 if T.ready aS≠0 then (S,T,T.ready aS)
 else if S.g.cap<d.length then (S,T,2)
 else if 1000000000<T.next then (S,T,6)
 else match jy aS d (j4 S.dW T.stands T.at_ S.g.bl S.g.bl.toNat 0) S T with
  | (S',T',some e)=>(S',T',e)
  | (S',T',none)=>(S',T'.told (if S'.om=70 then 70 else 6),if S'.om=70 then 70 else 6)
set_option maxHeartbeats 1000000 in
theorem Da{T:bZ}{C:Cw}(hC:C.Ok)(hg:C.g=g)(hT:T.Ok g)(hd:Seq K F A m 1 (av .u8 d))(h8:aA 256 d)(Og:m≤cap)(hm:m≤1000000)(qZ:∀l∈T.aC.cu,l.length≤1000000) :
 aB prog 16 #[ptr bs 0,.i aS,.slice A m cap] K (C.A bc::dA bd bc g::T.A bs bd g::F)
 (fun v H'=>∃(C':Cw) (T':bZ),C'.Ok∧C'.g=g∧T'.Ok g∧C'.aC=(bq C.aC T.aC aS d).1∧T'.aC=(bq C.aC T.aC aS d).2.1∧v= .i (bq C.aC T.aC aS d).2.2∧H'=C'.A bc::dA bd bc g::T'.A bs bd g::F):=by
 have yO:g.aU:=by rw[←hg];exact hC.aU
 have Od:C.aC.g=g:=hg;have uJ:=yO;unfold bQ.aU at uJ;have wF:d.length=m:=by simpa [av] using hd.len
 have FR:=bQ.vL yO;obtain⟨n,hn⟩:∃n:Nat,g.bl=(n:Int):=⟨g.bl.toNat,by omega⟩;have hnn:g.bl.toNat=n:=ay;obtain⟨R,hR⟩:∃R,R=bq C.aC T.aC aS d:=⟨_,rfl⟩;rw[←hR];unfold bq at hR;rw[Od,wF] at hR;obtain⟨L,hL⟩:∃L,L=jy aS d (j4 C.aC.dW T.aC.stands T.aC.at_ g.bl g.bl.toNat 0) C.aC T.aC:=⟨_,rfl⟩;rw[←hL] at hR;have BG:T.aC.ready aS=0→0≤aS∧aS<T.stands.length:=fun h=>by
  unfold St.ready bZ.aC at h;dsimp only at h;split at h
  ·cases h
  ·split at h
   ·cases h
   ·omega
 refine aB.aaG func16 rfl ntmps16 rfl ?_;simp only[kV,reduceAdd];refine aj "a~h" fun b3=> ?_;refine aj "~h" fun b4=> ?_;refine aj "~h" fun b5=> ?_;refine aj "w" fun b6=> ?_;refine aj "FM" ?_;refine WC.sub (H':=T.A bs bd g::C.A bc::dA bd bc g::ah b6 32 [.i 0]::ah b5 34 [.slice A m cap]::ah b4 3 [.i aS]::ah b3 28 [ptr bs 0]::F) (Sub.refl _) (fun w h=>h.bg 7 [6,4,5,0,1,2,3] rfl) ?_;refine aj "p<<" ?_;refine WL.t2 call61 rfl rfl (xk aS) rfl ?_;refine aj "jsb~e" (aW (fun h0=> ?_) fun h0=> ?_)
 ·rw[if_pos h0] at hR;refine aj "e~%2" ?_;subst hR;exact mZ.ret (H':=C.A bc::dA bd bc g::T.A bs bd g::F) (bJ.one rfl (R1.JH rfl isAgg32 lD)) (fun w h=>h.bg 7 [1,2,0] rfl) ⟨C,T,hC,hg,hT,rfl,rfl,rfl,rfl⟩
 ·have KC:T.aC.ready aS=0:=ay;rw[if_neg (fun h=>h KC)] at hR;have Oe:=BG KC;refine aj "IM~k~G~~Q~G" ?_;refine WQ.call (vs:=[_]) call50 ⟨ak rfl,trivial⟩ (X4 yO) rfl ?_;refine aj "~_~n~f~e" (aW (fun aQ=> ?_) fun aQ=> ?_)
  ·have h1:=aQ;rw[if_pos ay] at hR;refine aj "a~%2" ?_;subst hR;exact mZ.ret (H':=C.A bc::dA bd bc g::T.A bs bd g::F) (bJ.one rfl (R1.JH rfl isAgg32 lD)) (fun w h=>h.bg 7 [1,2,0] rfl) ⟨C,T,hC,hg,hT,rfl,rfl,rfl,rfl⟩
  ·have h1:=aQ;rw[if_neg ay] at hR;refine aj "a<S" ?_;refine WL.val (V.load isAgg3 (ak rfl) (fun _=>bZ.FH 8 _ rfl)) rfl ?_;refine aj "~Jg~e" (aW (fun h2=> ?_) fun h2=> ?_)
   ·rw[if_pos (show 1000000000<T.aC.next from by show 1000000000<T.next;omega)] at hR;refine aj "a~%2" ?_;subst hR;exact mZ.ret (H':=C.A bc::dA bd bc g::T.A bs bd g::F) (bJ.one rfl (R1.JH rfl isAgg32 lD)) (fun w h=>h.bg 7 [1,2,0] rfl) ⟨C,T,hC,hg,hT,rfl,rfl,rfl,rfl⟩
   ·rw[if_neg (show ¬1000000000<T.aC.next from by show ¬1000000000<T.next;omega)] at hR;refine aj ",a<" ?_;refine WL.c1 call62 rfl (X6) rfl ?_;rintro _ _ ⟨KR,rfl,rfl⟩;refine aj "bt" ?_;obtain⟨I,hI⟩:∃I:Nat→Cw→bZ→Prop,I=fun j C' T'=>C'.Ok∧C'.g=g∧T'.Ok g∧T'.stands=T.stands∧T'.at_=T.at_∧T'.next≤1000000000∧(∀l∈T'.aC.cu,l.length≤1000000)∧jy aS d (j4 C.aC.dW T.stands T.at_ g.bl n j) C'.aC T'.aC=L:=⟨_,rfl⟩;refine WC.sub (H':=C.A bc::dA bd bc g::T.A bs bd g::ah KR 28 [ptr bs 0]::ah b6 32 [.i 0]::ah b5 34 [.slice A m cap]::ah b4 3 [.i aS]::ah b3 28 [ptr bs 0]::F) (Sub.refl _) (fun w h=>h.bg 8 [2,3,1,0,4,5,6,7] rfl) ?_;refine WC.range (gf:=117) (lb:=[ptr KR 0]) (Done:=fun H1=>∃X C' T',I n C' T'∧H1=X::C'.A bc::dA bd bc g::T'.A bs bd g::ah KR 28 [ptr bs 0]::ah b6 32 [.i 0]::ah b5 34 [.slice A m cap]::ah b4 3 [.i aS]::ah b3 28 [ptr bs 0]::F) (X:=fun c H1=>∃(X:aH) (C':Cw) (T':bZ) (e:Int),c= .ret∧C'.Ok∧C'.g=g∧T'.Ok g∧L=(C'.aC,T'.aC,some e)∧H1=X::C'.A bc::dA bd bc g::T'.A bs bd g::ah KR 28 [ptr bs 0]::ah b6 32 [.i e]::ah b5 34 [.slice A m cap]::ah b4 3 [.i aS]::ah b3 28 [ptr bs 0]::F) rfl call117 (fun r l e1 e2 e3 hA=> ?_) (fun D H1 hd=> ?_) (fun D c H1 hx=>by
     obtain⟨X,C',T',e,rfl,Zx,N9,Oo,hLe,rfl⟩:=hx;rw[hLe] at hR;dsimp only at hR;subst hR;refine WC.ret ?_;exact mZ.agu (H':=C'.A bc::dA bd bc g::T'.A bs bd g::F) (X::C'.A bc::dA bd bc g::T'.A bs bd g::ah KR 28 [ptr bs 0]::ah b6 32 [.i e]::ah b5 34 [.slice A m cap]::ah b4 3 [.i aS]::ah b3 28 [ptr bs 0]::F) cO (bJ.one rfl (R1.JH rfl isAgg32 lD)) (fun w h=>h.bg 9 [1,2,3] rfl) ⟨C',T',Zx,N9,Oo,rfl,rfl,rfl,rfl⟩)
    have hIe:∀j C' T',I j C' T'→C'.Ok∧C'.g=g∧T'.Ok g∧T'.stands=T.stands∧T'.at_=T.at_:=fun j C' T' h=>by rw[hI] at h;exact⟨h.1,h.2.1,h.2.2.1,h.2.2.2.1,h.2.2.2.2.1⟩
    have ZH:I 0 C T:=by
     rw[hI];refine⟨hC,hg,hT,rfl,rfl,by omega,qZ, ?_⟩;rw[hL,hnn];rfl
    suffices Ba:∀j C' T' X,j<n→((T.at_+(j:Int))%g.bl∈C.aC.dW∧¬(T.at_+(j:Int))%g.bl∈T.stands)→I j C' T'→jY prog K none l #[.i ((T.at_+(j:Int))%g.bl)] (r.A l .ready none::jT r.D::X::C'.A bc::dA bd bc g::T'.A bs bd g::ah KR 28 [ptr bs 0]::ah b6 32 [.i 0]::ah b5 34 [.slice A m cap]::ah b4 3 [.i aS]::ah b3 28 [ptr bs 0]::F)
     (fun b H'=>(b=true∧∃C2 T2,I (j+1) C2 T2∧H'=r.A l .ready none::jT r.D::X::C2.A bc::dA bd bc g::T2.A bs bd g::ah KR 28 [ptr bs 0]::ah b6 32 [.i 0]::ah b5 34 [.slice A m cap]::ah b4 3 [.i aS]::ah b3 28 [ptr bs 0]::F) ∨
      (b=false∧∃(C2:Cw) (T2:bZ) (e:Int),C2.Ok∧C2.g=g∧T2.Ok g∧L=(C2.aC,T2.aC,some e)∧H'=r.A l .done (some .ret)::jT r.D::X::C2.A bc::dA bd bc g::T2.A bs bd g::ah KR 28 [ptr bs 0]::ah b6 32 [.i e]::ah b5 34 [.slice A m cap]::ah b4 3 [.i aS]::ah b3 28 [ptr bs 0]::F)) from by
     have h1:=Xt (b1:=KR) (Y1:=r.A l .ready none) (Y2:=jT r.D) hn yO hT.at_ I (fun X H'=>∃(C2:Cw) (T2:bZ) (e:Int),C2.Ok∧C2.g=g∧T2.Ok g∧L=(C2.aC,T2.aC,some e)∧H'=r.A l .done (some .ret)::jT r.D::X::C2.A bc::dA bd bc g::T2.A bs bd g::ah KR 28 [ptr bs 0]::ah b6 32 [.i e]::ah b5 34 [.slice A m cap]::ah b4 3 [.i aS]::ah b3 28 [ptr bs 0]::F) hIe
      (fun j C' T' hj uN h=>by
       rw[hI] at h ⊢;exact⟨h.1,h.2.1,h.2.2.1,h.2.2.2.1,h.2.2.2.2.1,h.2.2.2.2.2.1,h.2.2.2.2.2.2.1,by rw[←XB hj uN];exact h.2.2.2.2.2.2.2⟩) Ba rfl ZH
     exact h1.mono fun v H' ⟨X,h⟩=>by
      rcases h with ⟨C',T',hI2,e⟩ | ⟨C',T',e,k1,k2,k3,k4,eH⟩
      ·exact⟨none,_,e,X,C',T',hI2,rfl⟩
      ·exact⟨some .ret,_,eH,X,C',T',e,rfl,k1,k2,k3,k4,rfl⟩
    rintro j C' T' X hj afc hIj;obtain⟨b,hb⟩:∃b,b=(T.at_+(j:Int))%g.bl:=⟨_,rfl⟩;rw[←hb] at afc ⊢;refine jY.mono (CS (n:=115) (args:=[.i b]) (post:=fun jj H1=>(jj=none∧∃C2 T2,I (j+1) C2 T2∧H1=jT r.D::X::C2.A bc::dA bd bc g::T2.A bs bd g::ah KR 28 [ptr bs 0]::ah b6 32 [.i 0]::ah b5 34 [.slice A m cap]::ah b4 3 [.i aS]::ah b3 28 [ptr bs 0]::F) ∨
     (jj=some .ret∧∃(C2:Cw) (T2:bZ) (e:Int),C2.Ok∧C2.g=g∧T2.Ok g∧L=(C2.aC,T2.aC,some e)∧H1=jT r.D::X::C2.A bc::dA bd bc g::T2.A bs bd g::ah KR 28 [ptr bs 0]::ah b6 32 [.i e]::ah b5 34 [.slice A m cap]::ah b4 3 [.i aS]::ah b3 28 [ptr bs 0]::F)) (by rw[e1];rfl) (by rw[e1];simp) hA ?_) (fun b2 H' ⟨jj,H1,oH,hj2,eH⟩=>by
     rcases hj2 with ⟨rfl,C2,T2,hI2,rfl⟩ | ⟨rfl,C2,T2,e,k1,k2,k3,k4,rfl⟩
     ·exact .inl ⟨oH,C2,T2,hI2,eH⟩
     ·exact .inr ⟨oH,C2,T2,e,k1,k2,k3,k4,eH⟩)
    rw[e1,e2];rw[hI] at hIj;obtain⟨Zx,N9,Oo,acL,alb,anK,akm,FP⟩:=hIj;rw[Tq hj (by rw[←hb];exact afc),←hb] at FP;have hbb:0≤b∧b<g.bl:=by
     rw[hb];exact⟨Int.emod_nonneg _ ay,Int.emod_lt_of_pos _ ay⟩
    refine WC.sub (E:=(31,_)::_) (Sub.refl _) cO ?_
    ·skip
     refine aj "pg" ?_;refine⟨_,fun w h=>h, ?_⟩;rw[e3];refine aj "ta<c~~T" ?_;refine WL.c2 call63 rfl rfl (Nj Oo b) rfl ?_;rintro v34 _ ⟨T1,oZ,uM,rfl⟩;have ak1:T1.next=T'.next:=congrArg St.next uM;have agi:T1.stands=T.stands:=(congrArg St.stands uM).trans acL;have an2:T1.at_=T.at_:=(congrArg St.at_ uM).trans alb;have hnb:=Oo.next;have aly:∀l∈T1.aC.cu,l.length≤1000000:=fun l hl=>by
      rw[uM] at hl;obtain⟨l',Dp,rfl⟩:=mem_map.1 hl;exact Nat.le_trans (length_filter_le _ _) (akm l' Dp)
     have hlb:=hT.aJ;have EC:Hd.may g ⟨aS,(d.length:Nat),T1.next⟩=true:=by
      unfold Hd.may bQ.fits;simp only[Bool.and_eq_true,decide_eq_true_eq];rw[wF,ak1];exact⟨⟨⟨⟨⟨by omega,by omega⟩,by omega⟩,by omega⟩,by omega⟩,by omega⟩
     refine aj "R<c<<" ?_;refine WL.sub (Sub.refl _) (fun w h=>h.bg 6 [4,5,0,1,2,3] rfl) ?_;refine WL.c4 call64 rfl rfl rfl rfl (PG (d:=d) Zx N9 oZ (by repeat (first | exact hd | apply Seq.up)) h8 Og hm Oe.1 EC) rfl ?_;rintro _ _ ⟨C2,Bz,U1,pI,rfl,rfl⟩;obtain⟨W,hW⟩:∃W,W=dI C'.aC T1.next b aS d:=⟨_,rfl⟩;rw[←hW] at pI ⊢;have aQ:Eb aS d C'.aC T'.aC b=if W.2=72 then (W.1,{ T1.aC with next:=min (T1.next+1) 1000000001 },if 1000000000<min (T1.next+1) 1000000001 then some 6 else none) else if W.2≠0 then (W.1,T1.aC.told W.2,some W.2) else (W.1,(T1.aC.mark aS).done aS b g.bl,some 0):=by
      unfold Eb;rw[show C'.aC.g=g from N9,show T'.aC.next=T1.next from ak1.symm,←hW,←uM]
     rw[jy,aQ] at FP;refine aj "f:bZ" (aW (fun h3=> ?_) fun h3=> ?_)
     ·rw[if_pos h3] at FP;dsimp only at FP;refine WC.seq ?_;refine WC.sub (H':=T1.A bs bd g::C2.A bc::dA bd bc g::r.A l .busy none::jT r.D::X::ah KR 28 [ptr bs 0]::ah b6 32 [.i 0]::ah b5 34 [.slice A m cap]::ah b4 3 [.i aS]::ah b3 28 [ptr bs 0]::F) (Sub.refl _) (fun w h=>h.bg 3 [2,0,1] rfl) ?_;refine WC.Dj (C2.A bc::dA bd bc g::r.A l .busy none::jT r.D::X::ah KR 28 [ptr bs 0]::ah b6 32 [.i 0]::ah b5 34 [.slice A m cap]::ah b4 3 [.i aS]::ah b3 28 [ptr bs 0]::F) (by kernel_rfl) ?_;refine aj "(0(1~a203n4" ?_;refine WL.val (V.load isAgg3 (ak rfl) (fun _=>bZ.FH 8 _ rfl)) rfl ?_;refine aj "b~~=5" ?_;refine WA.t 6 rfl (V.min (ak rfl) (ak rfl)) ?_;refine aj "~a708n9" ?_;refine WL.store (cs:=[_]) sizeOf3 (ak rfl) (ak rfl) rfl rfl rfl (bZ.akJ T1 (min (T1.next+1) 1000000001)) ?_;refine aj "bOMa<S" ?_;refine WL.val (V.load isAgg3 (ak rfl) (fun _=>bZ.FH 8 _ rfl)) rfl ?_;refine aj "~JbZ" (aW (fun mQ=> ?_) fun mQ=> ?_)
      ·have h4:1000000000<min (T1.next+1) 1000000001∨¬1000000000<min (T1.next+1) 1000000001:=Decidable.em _;have h4:1000000000<min (T1.next+1) 1000000001:=by have :=mQ;exact this
       rw[if_pos h4,if_neg (fun h=>by cases h)] at FP;have BH:bZ.Ok g { T1 with next:=min (T1.next+1) 1000000001 }:=⟨oZ.len,oZ.aJ,by show 1≤min (T1.next+1) 1000000001∧min (T1.next+1) 1000000001≤1000000001;omega,oZ.at_,oZ.Md⟩;refine aj "a~p2" ?_;exact⟨_,fun w h=>h.bg 6 [3,4,5,1,2,0] rfl,.inr ⟨rfl,C2,_,6,Bz,U1,BH,by rw[←FP,pI];rfl,rfl⟩⟩
      ·have h4:1000000000<min (T1.next+1) 1000000001∨¬1000000000<min (T1.next+1) 1000000001:=Decidable.em _;have h4:¬1000000000<min (T1.next+1) 1000000001:=by have :=mQ;exact this
       rw[if_neg h4,if_pos rfl] at FP;have BH:bZ.Ok g { T1 with next:=min (T1.next+1) 1000000001 }:=⟨oZ.len,oZ.aJ,by show 1≤min (T1.next+1) 1000000001∧min (T1.next+1) 1000000001≤1000000001;omega,oZ.at_,oZ.Md⟩;refine aj "qK" ?_;refine⟨_,fun w h=>h.bg 6 [3,4,5,1,2,0] rfl,.inl ⟨rfl,C2,_, ?_,rfl⟩⟩;rw[hI];exact⟨Bz,U1,BH,agi,an2,by show min (T1.next+1) 1000000001≤1000000000;omega,aly,by rw[pI];exact FP⟩
     ·rw[if_neg h3] at FP;refine aj "qrsb~e" (aW (fun wQ=> ?_) fun wQ=> ?_)
      ·have h5:=wQ;rw[if_pos h5,if_neg (fun h=>by cases h)] at FP;refine aj "a<c~~h" ?_;refine WL.c2 call65 rfl rfl (qx W.2) rfl ?_;rintro _ _ ⟨rfl,rfl⟩;refine aj "~p2" ?_;exact⟨_,fun w h=>h.bg 6 [3,4,5,1,2,0] rfl,.inr ⟨rfl,C2,_,W.2,Bz,U1,oZ.told _,by rw[←FP,pI];rfl,rfl⟩⟩
      ·have h5:=wQ;rw[if_neg (show ¬(W.2≠0) from fun h=>h ay),if_neg (fun h=>by cases h)] at FP;refine WC.skip ?_;refine WC.join (σ:=bZ) (fun _=>[(3,ptr b3 0),(4,ptr b4 0),(6,ptr b6 0),(8,.i b)])
        (fun T3=>T3.A bs bd g::C2.A bc::dA bd bc g::r.A l .busy none::jT r.D::X::ah KR 28 [ptr bs 0]::ah b6 32 [.i 0]::ah b5 34 [.slice A m cap]::ah b4 3 [.i aS]::ah b3 28 [ptr bs 0]::F) (fun T3=>T3.Ok g∧T3.aC=T1.aC.mark aS∧T3.stands=T1.stands) ?_ ?_
       ·skip
        refine WC.seq ?_;have acC:0≤aS∧aS<T1.stands.length:=by rw[agi];exact Oe
        refine WC.Rm (by kernel_rfl) (by kernel_rfl) ?_;refine aj "~G~;~y" ?_;refine WQ.val (V.load isAgg124 (ak rfl) (fun _=>by repeat (first | exact bZ.FH 6 _ rfl | apply Rd.up))) rfl ?_;refine aj "~G" ?_;refine WQ.val (V.dw eB (ak rfl) (ak rfl) (fun _=>acC) (fun _=>by repeat (first | exact bZ.rdS acC | apply Rd.up))) rfl ?_;refine WQ.val (V.load isAgg3 (ak rfl) (fun _=>by repeat (first | exact bZ.rdS acC | apply Rd.up))) rfl ?_;refine aj "~n~fe~ii" (aW (fun h6=> ?_) fun h6=> ?_)
        ·simp only[ge_iff_le,cZ] at h6;have hmk:T1.aC.mark aS= { T1.aC with cu:=T1.aC.cu.set aS.toNat (T1.aC.cu.getD aS.toNat []++[T1.aC.lF aS]) }:=by unfold St.mark;rw[if_pos ay]
         have GQ:=oZ.len;obtain⟨q,hq⟩:∃q,q=T1.fA[aS.toNat]'ay:=⟨_,rfl⟩;have hqg:T1.fA[aS.toNat]? =some q:=by rw[hq];exact getElem?_eq_getElem ay
         have hqv:(T1.fA.map bW.v)[0+aS.toNat*1]? =some q.v:=by rw[show 0+aS.toNat*1=aS.toNat by omega,getElem?_map,hqg];rfl
         have hqb:q.l.length≤1000000:=aly _ (mem_map.2 ⟨q,by rw[hq];exact getElem_mem _,rfl⟩);have aaq:(T1.fA.map bW.row)[aS.toNat]'(by rw[length_map];omega)=q.row:=by rw[getElem_map,hq]
         refine WC.sub (H':=aV (.slice q.A q.l.length q.c) 3 1 q.l.length (ints .i64 q.l)::ah T1.b8 124 (T1.fA.map bW.v)::bK ((T1.fA.map bW.row).eraseIdx aS.toNat)::ah bs 127 (T1.cells bd g)::T1.sl::C2.A bc::dA bd bc g::r.A l .busy none::jT r.D::X::ah KR 28 [ptr bs 0]::ah b6 32 [.i 0]::ah b5 34 [.slice A m cap]::ah b4 3 [.i aS]::ah b3 28 [ptr bs 0]::F) (Sub.refl _) (fun w h=>by
          have h9:Sat K w (bZ.parts bs bd g T1++(C2.A bc::dA bd bc g::r.A l .busy none::jT r.D::X::ah KR 28 [ptr bs 0]::ah b6 32 [.i 0]::ah b5 34 [.slice A m cap]::ah b4 3 [.i aS]::ah b3 28 [ptr bs 0]::F)):=(h.bg 3 [2,0,1] rfl).yJ;have RJ:=Sat.FQ (k:=aS.toNat) (by rw[length_map];omega) (h9.bg 4 [3,2,0,1] rfl);rw[aaq] at RJ;exact RJ.bg 5 [0,2,1,3,4] rfl) ?_
         refine WC.Dj (bK ((T1.fA.map bW.row).eraseIdx aS.toNat)::ah bs 127 (T1.cells bd g)::T1.sl::C2.A bc::dA bd bc g::r.A l .busy none::jT r.D::X::ah KR 28 [ptr bs 0]::ah b6 32 [.i 0]::ah b5 34 [.slice A m cap]::ah b4 3 [.i aS]::ah b3 28 [ptr bs 0]::F) (by kernel_rfl) ?_;refine aj "(0~a102(3(4(5~a607(8(9~c:m<" ?_;refine WA.two (i:=11) (j:=13) eO (by kernel_rfl) rfl rfl ?_ ?_
         ·refine WL.val (V.load isAgg124 (ak rfl) (fun _=>by repeat (first | exact Rd.here hqv | apply Rd.up))) rfl ?_;refine aj "bn=" ?_;refine WL.buildSlice (E:=3) (cs:=[_]) (vs:=[(0,_)]) ⟨ak rfl,trivial⟩ rfl (dJ _) rfl (fun b83=> ?_);refine aj "bn>?" ?_;refine WL.append (m:=q.l.length) (q:=1) (news:=[.i (T1.aC.lF aS)]) underlying124 Me (ak rfl) (ak rfl) (Seq.all rfl) (by intro u hu;rw[mem_singleton.1 hu];rfl) ay rfl rfl (fun A5 c5 Zu wQ=> ?_);refine aj "b~c?n@" ?_;refine WL.store (cs:=[_]) sizeOf124 (ak rfl) (ak rfl) rfl rfl rfl (bT.up (bT.up (bT.at_ (by rw[length_map];omega)))) ?_;refine aj "bO~A" ?_;refine⟨{ T1 with fA:=T1.fA.set aS.toNat ⟨A5,c5,q.l++[T1.aC.lF aS]⟩ },⟨⟨by show (T1.fA.set _ _).length=_;rw[length_set];exact oZ.len,oZ.aJ,oZ.next,oZ.at_,oZ.Md⟩,by
           rw[hmk];unfold bZ.aC;dsimp only;rw[map_set];have e1:(T1.fA.map bW.l).getD aS.toNat []=q.l:=by
            simp only[getD,getElem?_map,hqg,Option.map_some,Option.getD_some]
           rw[e1],rfl⟩,.cons rfl bC,fun w h=> ?_⟩
          have h5:=h.bg 6 [0,3,2,4,5] rfl;have e1:aV (.slice A5 (q.l.length+1) c5) 3 1 (q.l.length+1) (ints .i64 q.l++[.i (T1.aC.lF aS)])=bW.row ⟨A5,c5,q.l++[T1.aC.lF aS]⟩:=by
           unfold bW.row;rw[gY,length_append];rfl
          rw[e1] at h5;have h6:=Sat.Na (l:=T1.fA.map bW.row) (k:=aS.toNat) (by rw[length_map];omega) h5;have e2:(T1.fA.map bW.v).set (0+aS.toNat*1) (.slice A5 (q.l.length+1) c5)=(T1.fA.set aS.toNat ⟨A5,c5,q.l++[T1.aC.lF aS]⟩).map bW.v:=by
           rw[show 0+aS.toNat*1=aS.toNat by omega,map_set];show _=(T1.fA.map bW.v).set aS.toNat (.slice A5 (q.l++[T1.aC.lF aS]).length c5);rw[length_append];rfl
          rw[e2,←map_set] at h6;exact Sat.all (l:=bZ.parts bs bd g { T1 with fA:=T1.fA.set aS.toNat ⟨A5,c5,q.l++[T1.aC.lF aS]⟩ }) (by
           unfold bZ.parts bZ.cells bZ.sl;dsimp only;rw[length_set];exact h6.bg 4 [2,3,1,0] rfl)
         ·refine WL.buildSlice (E:=3) (cs:=[_]) (vs:=[(0,_)]) ⟨ak rfl,trivial⟩ rfl (dJ _) rfl (fun b83=> ?_);refine aj "bn;" ?_;refine WL.val (V.load isAgg124 (ak rfl) (fun _=>by repeat (first | exact Rd.here hqv | apply Rd.up))) rfl ?_;refine aj "bn>?" ?_;refine WL.append (m:=q.l.length) (q:=1) (news:=[.i (T1.aC.lF aS)]) underlying124 Me (ak rfl) (ak rfl) (Seq.all rfl) (by intro u hu;rw[mem_singleton.1 hu];rfl) ay rfl rfl (fun A5 c5 Zu wQ=> ?_);refine aj "b~c?n@" ?_;refine WL.store (cs:=[_]) sizeOf124 (ak rfl) (ak rfl) rfl rfl rfl (bT.up (bT.up (bT.at_ (by rw[length_map];omega)))) ?_;refine aj "bO~A" ?_;refine⟨{ T1 with fA:=T1.fA.set aS.toNat ⟨A5,c5,q.l++[T1.aC.lF aS]⟩ },⟨⟨by show (T1.fA.set _ _).length=_;rw[length_set];exact oZ.len,oZ.aJ,oZ.next,oZ.at_,oZ.Md⟩,by
           rw[hmk];unfold bZ.aC;dsimp only;rw[map_set];have e1:(T1.fA.map bW.l).getD aS.toNat []=q.l:=by
            simp only[getD,getElem?_map,hqg,Option.map_some,Option.getD_some]
           rw[e1],rfl⟩,.cons rfl bC,fun w h=> ?_⟩
          have h5:=h.bg 6 [0,3,2,4,5] rfl;have e1:aV (.slice A5 (q.l.length+1) c5) 3 1 (q.l.length+1) (ints .i64 q.l++[.i (T1.aC.lF aS)])=bW.row ⟨A5,c5,q.l++[T1.aC.lF aS]⟩:=by
           unfold bW.row;rw[gY,length_append];rfl
          rw[e1] at h5;have h6:=Sat.Na (l:=T1.fA.map bW.row) (k:=aS.toNat) (by rw[length_map];omega) h5;have e2:(T1.fA.map bW.v).set (0+aS.toNat*1) (.slice A5 (q.l.length+1) c5)=(T1.fA.set aS.toNat ⟨A5,c5,q.l++[T1.aC.lF aS]⟩).map bW.v:=by
           rw[show 0+aS.toNat*1=aS.toNat by omega,map_set];show _=(T1.fA.map bW.v).set aS.toNat (.slice A5 (q.l++[T1.aC.lF aS]).length c5);rw[length_append];rfl
          rw[e2,←map_set] at h6;exact Sat.all (l:=bZ.parts bs bd g { T1 with fA:=T1.fA.set aS.toNat ⟨A5,c5,q.l++[T1.aC.lF aS]⟩ }) (by
           unfold bZ.parts bZ.cells bZ.sl;dsimp only;rw[length_set];exact h6.bg 4 [2,3,1,0] rfl)
        ·simp only[ge_iff_le,cZ] at h6;have hmk:T1.aC.mark aS=T1.aC:=by unfold St.mark;rw[if_neg ay]
         refine aj "q~A" ?_;exact⟨T1,⟨oZ,hmk.symm,rfl⟩,.cons rfl bC,fun w h=>h.bg 3 [2,0,1] rfl⟩
       ·skip
        rintro T3 ⟨abU,hs3,hd3⟩;rw[←hs3] at FP;have arf:0≤aS∧aS<T3.stands.length:=by rw[hd3,agi];exact Oe
        refine WC.lG (p:=∃g1,T3.sA=some ⟨g1,0,none⟩) (fun w h=>bZ.afh ay h) (fun ⟨g1,hA3⟩=> ?_);refine WC.seq ?_;refine WC.Dj (C2.A bc::dA bd bc g::r.A l .busy none::jT r.D::X::ah KR 28 [ptr bs 0]::ah b6 32 [.i 0]::ah b5 34 [.slice A m cap]::ah b4 3 [.i aS]::ah b3 28 [ptr bs 0]::F) (by kernel_rfl) ?_;refine aj "(0~a102(4m5n3" ?_;refine WL.val (V.aG (v':= .slice (some ⟨g1,0,none⟩) T3.stands.length T3.sc) (V.load isAgg124 (ak rfl) (fun _=>bZ.FH 6 _ rfl)) (fun _=>by rw[hA3])) rfl ?_;refine aj "b~c6n7" ?_;refine WL.store (cs:=[_]) sizeOf3 (ak rfl) (ak rfl) rfl rfl rfl (bZ.ant hA3 ay b) ?_;refine aj "bOa<S" ?_;refine WL.val (V.load isAgg3 (ak rfl) (fun _=>bZ.FH 8 _ rfl)) rfl ?_;have anC:=abU.next;refine WL.val (V.CX (ak rfl) (ak rfl) (fun _=>by dsimp only;omega)) rfl ?_;refine aj "S" ?_;refine WL.store (cs:=[_]) sizeOf3 (ak rfl) (ak rfl) rfl rfl rfl (bZ.akJ _ _) ?_;refine aj "F" ?_;refine WC.Dj (C2.A bc::dA bd bc g::r.A l .busy none::jT r.D::X::ah KR 28 [ptr bs 0]::ah b6 32 [.i 0]::ah b5 34 [.slice A m cap]::ah b4 3 [.i aS]::ah b3 28 [ptr bs 0]::F) (by kernel_rfl) ?_;refine aj "(0m1~~=2(3~a40506n7" ?_;refine WL.val (V.load isAgg3 (ak rfl) (fun _=>bZ.FH 1 _ rfl)) rfl ?_;refine WL.nil ?_;refine WA.t 8 rfl (V.Av (ak rfl) (ak rfl) (fun _=>by omega)) ?_;refine aj "~a90:n;" ?_;refine WL.store (cs:=[_]) sizeOf3 (ak rfl) (ak rfl) rfl rfl rfl (bZ.anJ _ _) ?_;refine aj "bOa~p2" ?_;refine⟨_,fun w h=>h.bg 6 [3,4,5,1,2,0] rfl,.inr ⟨rfl,C2,_,0,Bz,U1, ?_, ?_,rfl⟩⟩
        ·have anC:=abU.next;have hn3:T3.next≤1000000000:=by
          have e1:T3.aC.next=T1.aC.next:=by rw[hs3];unfold St.mark;split<;>rfl
          have e2:T3.next=T1.next:=e1;omega
         have hrm:0≤(b+1)%g.bl∧(b+1)%g.bl<g.bl:=⟨Int.emod_nonneg _ ay,Int.emod_lt_of_pos _ ay⟩;refine⟨by show T3.fA.length=(T3.stands.set _ _).length;rw[length_set];exact abU.len,by show 1≤(T3.stands.set _ _).length∧_;rw[length_set];exact abU.aJ,by show 1≤T3.next+1∧T3.next+1≤1000000001;omega,hrm,fun x hx=> ?_⟩;rcases mem_or_eq_of_mem_set hx with hx | rfl
         ·exact abU.Md x hx
         ·omega
        ·rw[←FP,pI];unfold St.done bZ.aC;dsimp only;rw[show 0+aS.toNat*1=aS.toNat by omega]
    ·skip
     obtain⟨X,C',T',hIe,rfl⟩:=hd;rw[hI] at hIe;obtain⟨Zx,N9,Oo,acL,alb,anK,akm,FP⟩:=hIe;rw[SV,jy] at FP;rw[←FP] at hR;dsimp only at hR;refine WC.seq ?_;refine WC.sub (H':=C'.A bc::dA bd bc g::T'.A bs bd g::ah b6 32 [.i 0]::jT D::ah b5 34 [.slice A m cap]::ah b4 3 [.i aS]::ah b3 28 [ptr bs 0]::F) (Sub.refl _) (fun w h=>h.bg 7 [2,3,4,6,0] rfl) ?_;refine WC.dM (jT D::ah b5 34 [.slice A m cap]::ah b4 3 [.i aS]::ah b3 28 [ptr bs 0]::F) (by kernel_rfl) ?_;refine aj "(0(1n2" ?_;refine WL.t1 call66 rfl (TP Zx N9) rfl ?_;refine aj "bn3~~h" ?_;refine WL.c2 call65 rfl rfl (qx (if C'.aC.om=70 then 70 else 6)) rfl ?_;rintro _ _ ⟨rfl,rfl⟩;refine aj "bn4" ?_;refine WL.store (cs:=[_]) sizeOf32 (ak rfl) (ak rfl) rfl rfl rfl (bT.up (bT.up (bT.up (bT.here rfl rfl)))) ?_;refine aj "bO~C" ?_;subst hR;exact mZ.agu (H':=C'.A bc::dA bd bc g::(T'.told (if C'.aC.om=70 then 70 else 6)).A bs bd g::F) ((T'.told (if C'.aC.om=70 then 70 else 6)).A bs bd g::C'.A bc::dA bd bc g::ah b6 32 [.i (if C'.aC.om=70 then 70 else 6)]::ah b5 34 [.slice A m cap]::ah b4 3 [.i aS]::ah b3 28 [ptr bs 0]::F) (fun w h=>h.bg 5 [4,0,1,2,3] rfl) (bJ.one rfl (R1.JH rfl isAgg32 lD)) (fun w h=>h.bg 7 [1,2,0] rfl) ⟨C',T'.told (if C'.aC.om=70 then 70 else 6),Zx,N9,Oo.told _,rfl,rfl,rfl,rfl⟩
theorem P6{S:aD}(hg:S.g.aU)(hu:S.up=true):S.om=0:=by
 unfold bQ.aU at hg;have e1:¬((0:Int)<0∨S.g.bl≤0∨(0:Int)<0∨S.g.pg≤0∨(decide ((0:Int)≤0)&&decide (0≤S.g.pg))=false):=by
  simp;omega
 have e2:S.ahead 0 0 (decide ((0:Int)≤0)&&decide (0≤S.g.pg))=if S.bad 0=true then 73 else 0:=by
  unfold aD.ahead;rw[if_neg (by rw[hu];decide),if_neg e1]
 unfold aD.om aD.mX;rw[e2];cases S.bad 0<;>rfl
namespace aD
theorem qo{S:aD}(h:S.left=0):S.bE=S:=by
 unfold bE cut;rw[h];obtain⟨a,b,c,d,e,f,g,up,l,k⟩:=S;dsimp only at h;subst h;simp
theorem Mg{S:aD}(h:0≤b∧b<S.g.bl∧0≤p∧p<S.g.pg):S.oG b p=true:=by
 unfold oG block;simp;omega
theorem CB{S:aD}(h:0≤b∧b<S.g.bl):S.block b=true:=by
 unfold block;simp;omega
theorem Cg{S:aD}(hu:S.up=true)(h:0≤b∧b<S.g.bl∧0≤p∧p<S.g.pg)(hm:S.marked b=false):S.ahead b p true=0:=by simp_all [ahead,bad,if_neg,Bool.and_false]
theorem aa1{S:aD}(hg:S.g.aU)(h8:aA 256 d)(hl:d.length=S.room):((bH (fF S.g d)).length:Int)=S.raw:=by
 have hN:=zS.of (bl:=S.g.bl) (pg:=S.g.pg) (by rw[←lS hg];exact hg);unfold fF bH;rw[length_map,Ch hN.t h8 hl];exact (bQ.uZ hg).symm
theorem Pf{S:aD}(hu:S.up=true)(h:0≤b∧b<S.g.bl∧0≤p∧p<S.g.pg)(hm:S.marked b=false)(hl:d.length=S.room):S.dK b p d=done b (S.program b p (bH (fF S.g d))):=by
 have e:decide (d.length=S.room)=true:=decide_eq_true hl;unfold dK;rw[e,if_neg (by rw[Cg hu h hm];decide)]
theorem DZ{S:aD}(hp:S.aX (b,p)=some (bH xs))(hw:S.bM (b,p)=none):S.kI b p=xs:=by
 unfold kI reads;rw[hp,hw];exact sG xs
theorem TQ{S:aD}(hg:S.g.aU)(hu:S.up=true)(h:0≤b∧b<S.g.bl∧0≤p∧p<S.g.pg)(hm:S.marked b=false)(h8:aA 256 d)(hl:d.length=S.room)(hp:S.aX (b,p)=some (bH (fF S.g d)))(hw:S.bM (b,p)=none) :
 S.bY b p=⟨0,d,0⟩:=by
 have hN:=zS.of (bl:=S.g.bl) (pg:=S.g.pg) (by rw[←lS hg];exact hg);unfold bY;rw[if_neg (by rw[Cg hu h hm];decide),DZ hp hw];unfold fF;rw[Yk hN.t h8 hl];rfl
theorem XG{raw:List Nat}(h:raw.getD (S*n) 0=255):jf t S n raw=60∨jf t S n raw=61:=by
 unfold jf;rw[h,if_neg aN,if_neg (fun h=>h rfl)];split
 ·exact .inl rfl
 ·exact .inr rfl
end aD
theorem WC.scope(hQ:∀M l e H,Q M (.goto l) e H→False)(h:WC ⟨none,ds⟩ P K n c Q e H):WC ⟨none,ds⟩ P K n (.scope c) Q e H:=fun a w ha hw =>
 wp_scope_straight (wp_mono (h a w ha hw) (fun x a w hx=>by
  cases x<;>first | exact hx | (obtain⟨_,_,_,_,_,h3⟩:=hx;exact hQ _ _ _ _ h3)))
def Vh(slot seg:Int):Bool:=(decide (slot=0)||decide (slot=1))&&decide (-1≤seg)&&decide (seg≤3)
def kZ(slot seg:Int):Int×Int:=if Vh slot seg then (2+5*slot+seg,0) else (0,1)
theorem xR(slot seg:Int)(K:World)(F:List aH):aK prog 23 #[.i slot,.i seg] K F (.tuple #[.i (kZ slot seg).1,.i (kZ slot seg).2]):=by
 obtain⟨X,hX⟩:∃X,X=kZ slot seg:=⟨_,rfl⟩;rw[←hX];unfold kZ Vh at hX;refine aB.en func23 ntmps23 ?_;refine aj "alfsc!~~~oQcV~]LcV~~~yLi" (aW (fun aL=> ?_) fun aL=> ?_)
 ·simp only[Bool.or_eq_true,Bool.or_eq_false_iff,Gi,Bool.not_eq_true',Bool.not_eq_false'] at aL;rw[if_neg (by simp;omega)] at hX;refine aj "aC" ?_;subst hX;exact aF.ret (H':=F) (bJ.eU rfl rfl rfl) eO ⟨rfl,rfl⟩
 ·simp only[Bool.or_eq_true,Bool.or_eq_false_iff,Gi,Bool.not_eq_true',Bool.not_eq_false'] at aL;rw[if_pos (by simp;omega)] at hX;refine aj "U~L$$c$C" ?_;subst hX;refine aF.ret (H':=F) (bJ.eU rfl rfl rfl) eO ⟨?_,rfl⟩;dsimp only;rw[show (1+slot*5+1+seg:Int)=2+5*slot+seg by omega]
def lK(S:aD)(T:St):aY×Int×St :=
 if (dZ S T 0).1.err=70 then (aY.zero,70,(dZ S T 0).2)
 else if (dZ S T 0).1.err=0∧(aY.parse (bH (dZ S T 0).1.d)).2=0 then ((aY.parse (bH (dZ S T 0).1.d)).1,0,(dZ S T 0).2)
 else (aY.zero,0,(dZ S T 0).2)
theorem Cw.Ok.wT{C:Cw}(hC:C.Ok)(b:Int)(n0:Nat):∀k,aA 256 (iA C.aC b n0 k).d
 | 0=>fun y hy=>by cases hy
 | k+1=>by
  rw[iA];split
  ·exact hC.wT b n0 k
  ·split
   ·exact fun y hy=>by cases hy
   ·exact (hC.wT b n0 k).append (hC.rQ _ _).1
theorem Cw.Ok.yj{C:Cw}(hC:C.Ok)(T:St)(aS:Int):aA 256 (dZ C.aC T aS).1.d:=by
 unfold dZ;repeat (split;exact fun y hy=>by cases hy)
 exact (hC.wT _ _ _).take
theorem vB{T:bZ}{C:Cw}(hC:C.Ok)(hg:C.g=g)(hT:T.Ok g)(hl:11≤(T.stands.length:Int)):aB prog 24 #[ptr bs 0] K (C.A bc::dA bd bc g::T.A bs bd g::F)
 (fun v H'=>∃T':bZ,T'.Ok g∧T'.aC=(lK C.aC T.aC).2.2∧v= .tuple #[(lK C.aC T.aC).1.v,.i (lK C.aC T.aC).2.1]∧H'=C.A bc::dA bd bc g::T'.A bs bd g::F):=by
 obtain⟨X,hX⟩:∃X,X=lK C.aC T.aC:=⟨_,rfl⟩;rw[←hX];unfold lK at hX;have nS:=hC.yj T.aC 0;refine aB.en func24 ntmps24 ?_;refine aj "aw" fun b2=> ?_;refine aj "ute]g~Be" ?_;refine WL.sub (Sub.refl _) (fun w h=>h.bg 4 [3,1,2,0] rfl) ?_;refine WL.c1 call87 rfl (Ut) rfl ?_;rintro _ _ ⟨rfl,rfl⟩;refine WL.sub (Sub.refl _) (fun w h=>h.bg 4 [1,2,0,3] rfl) ?_;refine aj "4g~9U" ?_;refine WL.c2 call26 rfl rfl (AA hC hg hT 0) rfl ?_;rintro _ _ ⟨A1,c1,T1,oZ,t1,rfl,rfl⟩;obtain⟨R,hR⟩:∃R,R=dZ C.aC T.aC 0:=⟨_,rfl⟩;rw[←hR] at t1 hX nS ⊢;refine aj "6~Mllf:i" (aW (fun h2=> ?_) fun h2=> ?_)
 ·simp only[iC] at h2;rw[if_pos h2] at hX;refine aj "a@cEd" ?_;subst hX;refine aF.ret (H':=C.A bc::dA bd bc g::T1.A bs bd g::F) (rA rfl rfl ⟨isAgg58,sizeOf58⟩ rfl) (fun w h=>h.bg 5 [1,2,3] rfl) ⟨T1,oZ,t1,by rw[h2];rfl,rfl⟩
 ·simp only[iC] at h2;rw[if_neg h2] at hX;refine aj "qr" ?_;refine WL.t1 call88 rfl (Ot (xs:=bH R.1.d) (kR nS) _ _ (by rw[←jX];exact aV.seq (by rw[au,Nat.mul_one]))) rfl ?_;refine aj "6w" fun b7=> ?_;refine aj "Ej:c!~NQi" (aW (fun h3=> ?_) fun h3=> ?_)
  ·simp only[iC] at h3;rw[if_pos h3] at hX;refine aj "aBEd" ?_;subst hX;refine aF.ret (H':=C.A bc::dA bd bc g::T1.A bs bd g::F) (rA rfl rfl ⟨isAgg58,sizeOf58⟩ rfl) (fun w h=>h.bg 6 [2,3,4] rfl) ⟨T1,oZ,t1,rfl,rfl⟩
  ·simp only[iC] at h3;rw[if_neg ay] at hX;refine aj "9" ?_;refine WL.call (vs:=[]) call89 trivial (OW _ _) rfl ?_;rintro _ H0 ⟨rfl,h0⟩;subst H0;refine aj "Ed" ?_;subst hX;refine aF.ret (H':=C.A bc::dA bd bc g::T1.A bs bd g::F) (rA rfl rfl ⟨isAgg58,sizeOf58⟩ rfl) (fun w h=>h.bg 6 [2,3,4] rfl) ⟨T1,oZ,t1,rfl,rfl⟩
end Go.Proofs.YtcedojacbhnbiaaGreat
