import Derived.Test.YtcedojacbhnbiaaGreatP14
set_option linter.unusedSimpArgs false
set_option linter.unusedVariables false
set_option maxHeartbeats 2000000
set_option maxRecDepth 20000
namespace Go.Proofs.YtcedojacbhnbiaaGreat
open Go.Sl Go.RowKit Tryz List Nat
theorem pJ.aob{B:Nat}{N:Int}{S:aD}{T:St}{m:Lm}(h:pJ 11 11 B N S T m)(Hr:11<S.g.bl)(tX:S.g.bl≤20)(nO:16≤S.g.cap)(hN:N≤900000){slot sec:Int}(hk:KG slot sec 0=true) :
 (uE S T slot sec 0).2.2=0∧(uE S T slot sec 0).1.g=S.g∧sec≤(uE S T slot sec 0).1.aQ∧∃m',pJ 11 11 (B+1) (N+21) (uE S T slot sec 0).1 (uE S T slot sec 0).2.1 m':=by
 have dJ:=h.ni aK;have rQ:(slot=0∨slot=1)∧0≤sec∧sec≤64:=by unfold KG at hk;simp at hk;omega
 have hx:=Jy (Bh m) rQ.1;obtain⟨x,hxe⟩:∃x,x=((stM m).jh slot).1:=⟨_,rfl⟩;rw[←hxe] at hx;have zO:(dF x).length=9:=by unfold dF;rw[jO,bP.kQ hx]
 have h8:aB 256 (dF x):=nI (bP.qO hx);obtain⟨c1,c2,c3⟩:=h.change (by show ((11:Nat):Int)<_;omega) tX ay (i0:=0) aK aK aK h8 (by rw[zO];omega);rw[show ((0:Nat):Int)=0 from rfl] at c1 c2 c3;obtain⟨X,hX⟩:∃X,X=bg S T 0 (dF x):=⟨_,rfl⟩;rw[←hX] at c1 c2 c3;have hu:X.1.up=true:=c3.up;have hl:X.1.left=0:=c3.left;unfold uE;rw[if_neg (by rw[hk];decide),dJ,if_neg (fun h=>h rfl)];dsimp only;rw[←hxe,←hX,if_neg (fun h=>h c1)];have hfu:X.1.yT=X.1.aQ:=by unfold aD.yT;rw[if_pos hu]
 rw[hfu];split
 ·rename_i hf;have e:X.1.pR sec=({ X.1.aZ with aQ:=sec },0):=by
   unfold aD.pR aD.all aD.after aD.cut;rw[if_neg (by rw[hu];decide),if_neg ay,if_neg ay,hl];rfl
  rw[e];obtain⟨st,hI⟩:=c3.si;refine⟨rfl,c2,Int.le_refl _,_,⟨st,hI.eqv (aD.Eqv.of rfl rfl rfl rfl rfl)⟩, ?_, ?_,c3.fH,c3.un,c3.bK,c3.next⟩
  ·show (X.1.up&& !X.1.cut)=true;unfold aD.cut;rw[hu,hl];rfl
  ·show (if X.1.left=0 then (0:Int) else X.1.left-1)=0;rw[if_pos hl]
 ·exact⟨rfl,c2,by dsimp only;omega,_,c3⟩
theorem Y7{x:bP}{s:Int}(h:x.ok=true)(hs:s∈x.order):s=0∨s=1:=by
 unfold bP.order at hs;rw[if_pos h] at hs;have k1:=(mem_filter.1 hs).1;have hf:=(bP.ou h).1;simp only[mem_cons,not_mem_nil,or_false] at k1;omega
def FS(b n:Int)(S:aD)(T:St):Prop:=∃(B:Nat) (N:Int) (m:Lm),pJ 11 11 B N S T m∧(B:Int)≤256+b∧N≤1+n
theorem Hw(g:bL){A D D2:Option Addr}{m cap k cd k2 cd2:Nat}{ring:List Ky}{ss ss2:List ByteArray}{K:World}{F:List aA}(hr:m≤20→Ring K F A m ring)(hs:Seq K F D k 1 (strs ss))(hl:ss.length=k)(rJ:Seq K F D2 k2 1 (strs ss2))(hl2:ss2.length=k2) :
 aL prog 6 #[g.v,.slice A m cap,.slice D k cd,.slice D2 k2 cd2] K F (.bool true):=by
 refine aC.en func6 ntmps6 ?_;refine aj "a&" fun b4=> ?_;refine aj "taG" ?_;refine WL.t1 call13 rfl (FU g _ _) rfl ?_;refine aj "*cY~H~lJcY~H~lJcY~H~lJk" (aX (fun aN=> ?_) fun aN=> ?_)
 ·simp only[Bool.or_eq_true,Bool.or_eq_false_iff,Bool.and_eq_true,oD] at aN;exact aj "I$" trivial
 ·simp only[Bool.or_eq_true,Bool.or_eq_false_iff,Bool.and_eq_true,oD] at aN;obtain⟨⟨⟨⟨⟨⟨⟨zY,Ta⟩,amR⟩,anP⟩,hp6⟩,anK⟩,anp⟩,ao2⟩:=aN;have hg:=bL.rX zY;have BX:=bL.tO hg;have adi:=hr ay;have ahv:g.cap≤1000:=by
   unfold bL.cap;have h1:(g.pg-1)*g.room≤5*g.room:=Int.mul_le_mul_of_nonneg_right ay (by have :=bL.jW hg;omega);omega
  refine aj "iaG" ?_;refine WL.c1 call14 rfl (BK (g:=g) zY ay _ _) rfl ?_;rintro _ _ ⟨bc,bd,bs,C0,T0,ZO,g0,s0,hT0,t0,rfl,rfl⟩;refine aj "Cf~abOia" ?_;refine WL.val (V.build (vs:=[(4,_)]) ⟨ak rfl,trivial⟩ rfl (uX _)) rfl ?_;refine aj "A" fun b11=> ?_;refine aj "KBagu" ?_;have hF0:FS 0 0 C0.aF T0.aF:=by
   rw[t0,s0];exact⟨256,1,_,pJ.new hg 11,by decide,by decide⟩
  refine WC.loop (σ:=Nat×Cw×cZ×La×Option Addr×Nat×Int) (fun s=>[(1,.slice A m cap),(2,.slice D k cd),(3,.slice D2 k2 cd2),(4,ptr b4 0),(9,ptr bc 0),(10,ptr bs 0),(11,ptr b11 0),(12,.i (s.1:Int))]) (fun s=>s.2.1.A bc::dH bd bc g::s.2.2.1.A bs bd g::ah b11 37 (s.2.2.2.1.cells s.2.2.2.2.1 s.2.2.2.2.2.1 s.2.2.2.2.2.2)::ah b4 23 [.i g.bl,.i g.pg,.i g.se,.i g.sb,.i g.fl]::F) (fun s=>s.1≤2∧s.2.1.Ok∧s.2.1.g=g∧s.2.2.1.Ok g∧FS (20*(s.1:Int)) (400*(s.1:Int)) s.2.1.aF s.2.2.1.aF∧0≤s.2.1.aF.aQ∧(1≤s.1→s.2.2.2.1.sec≤s.2.1.aF.aQ)) (fun s=>2-s.1) (0,C0,T0,La.zero,none,0,240) ⟨zero_le _,ZO,g0,hT0,hF0,by rw[s0];exact Int.le_refl _,fun h=>absurd (show 1≤0 from h) aK⟩ bM (fun w h=>h.aY 5 [1,2,3,0,4] rfl) ?_;rintro⟨kk,C1,T1,l,A1,c1,er⟩ ⟨hk2,Me,g1,lU,hF1,hf1,KY⟩;dsimp only at hk2 Me g1 lU hF1 hf1 KY ⊢;refine aj "r5k" (aX (fun bB=> ?_) fun bB=> ?_)
  ·simp only[dh] at bB;have hkk:=bB;refine aj "1g" ?_;refine WC.join (σ:=Option Addr×Nat×Nat×List ByteArray) (fun s=>[(1,.slice A m cap),(2,.slice D k cd),(3,.slice D2 k2 cd2),(4,ptr b4 0),(9,ptr bc 0),(10,ptr bs 0),(11,ptr b11 0),(12,.i (kk:Int)),(13,.slice s.1 s.2.1 s.2.2.1)]) (fun _=>C1.A bc::dH bd bc g::T1.A bs bd g::ah b11 37 (l.cells A1 c1 er)::ah b4 23 [.i g.bl,.i g.pg,.i g.se,.i g.sb,.i g.fl]::F) (fun s=>Seq K F s.1 s.2.1 1 (strs s.2.2.2)∧s.2.2.2.length=s.2.1∧s.2.1≤11) ?_ ?_
   ·skip
    refine aj "e%k" (aX (fun eF=> ?_) fun eF=> ?_)
    ·skip
     refine aj "h4" ?_;first
      | exact⟨(D2,k2,cd2,ss2),⟨rJ,hl2,by show k2≤11;omega⟩,.cons rfl (.cons rfl (.cons rfl (.cons rfl (.cons rfl (.cons rfl (.cons rfl (.cons rfl (.cons rfl (.nil _))))))))),fun w h=>h⟩
      | exact⟨(D,k,cd,ss),⟨hs,hl,by show k≤11;omega⟩,.cons rfl (.cons rfl (.cons rfl (.cons rfl (.cons rfl (.cons rfl (.cons rfl (.cons rfl (.cons rfl (.nil _))))))))),fun w h=>h⟩
    ·skip
     refine aj "i~O" ?_;first
      | exact⟨(D2,k2,cd2,ss2),⟨rJ,hl2,by show k2≤11;omega⟩,.cons rfl (.cons rfl (.cons rfl (.cons rfl (.cons rfl (.cons rfl (.cons rfl (.cons rfl (.cons rfl (.nil _))))))))),fun w h=>h⟩
      | exact⟨(D,k,cd,ss),⟨hs,hl,by show k≤11;omega⟩,.cons rfl (.cons rfl (.cons rfl (.cons rfl (.cons rfl (.cons rfl (.cons rfl (.cons rfl (.cons rfl (.nil _))))))))),fun w h=>h⟩
   ·skip
    rintro⟨X,q,cx,xs⟩ ⟨dP,zO,hq⟩;dsimp only at dP zO hq ⊢;refine aj "Nagu" ?_;refine WC.loop (σ:=Nat×Cw×cZ) (fun s=>[(1,.slice A m cap),(2,.slice D k cd),(3,.slice D2 k2 cd2),(4,ptr b4 0),(9,ptr bc 0),(10,ptr bs 0),(11,ptr b11 0),(12,.i (kk:Int)),(13,.slice X q cx),(14,.i (s.1:Int))]) (fun s=>s.2.1.A bc::dH bd bc g::s.2.2.A bs bd g::ah b11 37 (l.cells A1 c1 er)::ah b4 23 [.i g.bl,.i g.pg,.i g.se,.i g.sb,.i g.fl]::F) (fun s=>s.1≤q∧s.2.1.Ok∧s.2.1.g=g∧s.2.2.Ok g∧FS (20*(kk:Int)+s.1) (400*(kk:Int)+21*(s.1:Int)) s.2.1.aF s.2.2.aF∧s.2.1.aF.aQ=C1.aF.aQ) (fun s=>q-s.1) (0,C1,T1) ⟨zero_le _,Me,g1,lU,by simpa using hF1,rfl⟩ bM cu ?_;rintro⟨i,C,T⟩ ⟨hi,hC,MW,hT,hFx,hfu⟩;dsimp only at hi hC MW hT hFx hfu ⊢;have J9:C.aF.g=g:=MW;obtain⟨B,N,mp,ZH,hB,hN⟩:=hFx;refine aj "rco5k" (aX (fun mZ=> ?_) fun mZ=> ?_)
    ·simp only[dh] at mZ;have him:i<q:=ay;have Pn:(i:Int).toNat=i:=ay;obtain⟨s,O1⟩:∃s,s=xs.getD i ByteArray.empty:=⟨_,rfl⟩;have lJ:Rd K F (X.map (·.add ((i:Int).toNat*1))) (.string s):=by rw[Pn,O1];exact Seq.TM dP ay
     have uQ:=E9 xs i;rw[←O1] at uQ;obtain⟨d,hd⟩:∃d,d=CZ xs i:=⟨_,rfl⟩;have Gg:aB 256 d:=by rw[hd];exact Iw xs i
     rw[←hd] at uQ;refine aj "HNN~k++" ?_;refine WQ.val (V.eD abM (ak rfl) (ak rfl) (fun _=>by omega) (fun _=>by repeat (first | exact lJ | apply Rd.up))) rfl ?_;refine WQ.val (V.load isAgg9 (ak rfl) (fun _=>by repeat (first | exact lJ | apply Rd.up))) rfl ?_;refine WQ.val (V.adn runUnderlying9 (ak rfl)) rfl (aj "~~w" ?_);refine WQ.call (vs:=[_]) call15 ⟨ak rfl,trivial⟩ (LM hg) rfl ?_;refine aj "~~a~gE" (aX (fun uf=> ?_) fun uf=> ?_)
     ·simp only[dh] at uf;have h3:=uf;exact aj "I$" trivial
     ·simp only[dh] at uf;have h3:=uf;have hdc:(d.length:Int)≤g.cap:=by rw[uQ];omega
      refine aj "Zzc" ?_;refine WL.val (V.eD abM (ak rfl) (ak rfl) (fun _=>by omega) (fun _=>by repeat (first | exact lJ | apply Rd.up))) rfl ?_;refine WL.val (V.load isAgg9 (ak rfl) (fun _=>by repeat (first | exact lJ | apply Rd.up))) rfl ?_;refine aj "~~~n" fun b72 anC ag1 hcp VU=> ?_;refine aj "~5" ?_;have Zl:∀H':List aA,Seq K (pK b72 5 ag1::H') (some ⟨b72,0,none⟩) s.size 1 (av .u8 d):=fun H'=>by
       have :=VU H';rw[su (oH s)] at this;rw[hd];unfold CZ;rw[←O1];exact this
      obtain⟨st0,MS⟩:=ZH.si;have uR:∀l∈T.aF.dN,l.length≤1000000:=fun l GA=>Nat.le_trans (MS.Vv l GA) ay;obtain⟨aR,bB,eF⟩:=ZH.change (by rw[J9];omega) (by rw[J9];omega) ay (i0:=i) ay ay ay Gg (by rw[J9];exact hdc);have hcf:=CQ C.aF T.aF (i:Int) d;refine WL.c3 call16 rfl rfl rfl (vH (d:=d) hC MW hT (Zl _) Gg hcp ay uR) rfl ?_;rintro v73 _ ⟨C2,T2,AQ,g2,wP,s2,t2,hv2,rfl⟩;rw[aR] at hv2;subst hv2;rw[←s2,←t2] at eF;rw[←s2] at hcf;refine aj "sbOih.4" ?_;exact⟨(i+1,C2,T2),⟨him,AQ,g2,wP,⟨_,_,_,eF,by omega,by omega⟩,hcf.trans hfu⟩,(by show q-(i+1)<q-i;omega),.cons rfl bM,fun w h=>h.aY 6 [0,1,2,4,5] rfl⟩
    ·simp only[dh] at mZ;refine aj "W" ?_;obtain rfl:i=q:=by omega
     have WY:11≤(T.stands.length:Int):=by
      obtain⟨st0,MS⟩:=ZH.si;have h1:T.stands.length=11:=MS.len;rw[h1];decide
     have hfd:C.aF.yT=C.aF.aQ:=by unfold aD.yT;rw[if_pos ZH.up]
     obtain⟨hlg,m',hR⟩:=Jq ring C.aF.yT ZH (by rw[J9];omega) (by rw[J9];omega) (by rw[J9];omega) ay ay;obtain⟨R,hRd⟩:∃R,R=xU C.aF T.aF ring C.aF.yT:=⟨_,rfl⟩;rw[←hRd] at hR;refine aj "hz" ?_;refine WL.t1 call27 rfl (EP (C:=C)) rfl ?_;refine WL.c3 call17 rfl rfl rfl (LZ hC MW hT WY (aQ:=C.aF.yT) adi.up.up hlg) rfl ?_;rw[←hRd];rintro _ _ ⟨C2,T2,A2,c2,ps,E,AQ,g2,wP,s2,t2,rfl,nu,hE,rfl⟩;obtain⟨B',N',ZR,ZV,hN'⟩:=hR.aik;have J2:(stM mp).order.length≤2:=by
      unfold bP.order;rw[if_pos (Bh mp)];exact length_filter_le _ _
     have alm:C2.aF.aQ=C1.aF.aQ:=by rw[s2,hR.fu];exact hfu
     have ag9:C2.aF.g=g:=g2;rw[←s2,←t2] at ZR;have ahN:11≤(T2.stands.length:Int):=by
      obtain⟨st0,MS⟩:=ZR.si;have h1:T2.stands.length=11:=MS.len;rw[h1];decide
     refine aj "A" fun b15=> ?_;refine aj "Kbe%k" (aX (fun hc7=> ?_) fun hc7=> ?_)
     ·simp only[dh] at hc7;have hk0:=hc7;refine aj "aG~QBapsc~e~b~lJk" (aX (fun Pk=> ?_) fun Pk=> ?_)
      ·simp only[lX] at Pk;have h8:=Pk;refine WC.sr (WL.call (vs:=[]) call18 trivial (yA _ _) rfl ?_);rintro _ H0 ⟨rfl,h0⟩;subst H0;exact aj "d$" trivial
      ·simp only[lX] at Pk;have h8:=Pk;obtain⟨ho1,ho2,_⟩:=hR.ok h8.1;have ho3:=Y7 (Bh mp) ho1;have hla:KG R.1.1.slot R.1.1.sec 0=true:=by unfold KG;simp;omega
       have ahf:∀l∈T2.aF.dN,l.length≤1000000:=by
        obtain⟨st2,Xh⟩:=ZR.si;exact fun l GA=>Nat.le_trans (Xh.Vv l GA) ay
       have afM:=ZR.aob (by rw[ag9];omega) (by rw[ag9];omega) (by rw[ag9];omega) ay hla;obtain⟨Xc,hXc⟩:∃Xc,Xc=uE C2.aF T2.aF R.1.1.slot R.1.1.sec R.1.2:=⟨_,rfl⟩;rw[show uE C2.aF T2.aF R.1.1.slot R.1.1.sec 0=Xc by rw[hXc,h8.1]] at afM;obtain⟨q1,q2,q3,mq,q4⟩:=afM;refine aj ")" ?_;refine WC.fE (ah b11 37 (R.1.1.cells A2 c2 R.1.2)::ah b4 23 [.i g.bl,.i g.pg,.i g.se,.i g.sb,.i g.fl]::F) (by kernel_rfl) ?_;refine aj "l0l1~~D2n3~5" ?_;refine WL.c3 call28 rfl rfl rfl (M5 AQ g2 wP ahN ahf R.1.1.slot R.1.1.BU R.1.1.sec R.1.2) rfl ?_;rw[←hXc];rintro _ _ ⟨C3,T3,Tv,g3,uS,s3,t3,rfl,rfl⟩;rw[q1];have amZ:C3.aF.yT=C3.aF.aQ:=by unfold aD.yT;rw[if_pos (by rw[s3];exact q4.up)]
       refine WL.nil (WA.t 4 rfl (V.neq (ak rfl) (ak rfl)) ?_);refine aj "l5" ?_;refine WA.tG 6 rfl rfl rfl rfl GC.f (V.move (ak rfl)) ?_;refine WA.tG 8 rfl rfl rfl rfl GC.f (V.fieldAddr aaW (ak rfl)) ?_;refine WA.tG 9 rfl rfl rfl rfl GC.f (V.load isAgg3 (OV.g rfl id) (fun _=>nS)) ?_;refine WA.o 7 rfl ?_;refine WL.qh (oj:=_) (vs:=[_]) rfl rfl rfl GC.f call27 ⟨OV.g rfl id,trivial⟩ (fun _=>EP (C:=C3)) rfl ?_;refine WL.nil (WA.tG 10 rfl rfl rfl rfl GC.f (V.lss (OV.g rfl id) (OV.g rfl id)) ?_);refine WA.t 11 rfl (V.BL (ak rfl) (OV.g rfl id)) ?_;refine WA.fin ?_;refine WC.jq rfl ((by rw[amZ,s3];simp;omega)) ?_;refine aj "ih.4" ?_;first
        | (
         have :=Tv;exact⟨(kk+1,C3,T3,R.1.1,A2,c2,R.1.2),⟨by show kk+1≤2;omega,Tv,g3,uS,⟨_,_,mq,by rw[s3,t3];exact q4,by dsimp only;omega,by dsimp only;omega⟩,by show 0≤C3.aF.aQ;rw[s3];omega,fun _=>by show R.1.1.sec≤C3.aF.aQ;rw[s3];exact q3⟩,(by show 2-(kk+1)<2-kk;omega),.cons rfl (.cons rfl (.cons rfl (.cons rfl (.cons rfl (.cons rfl (.cons rfl (.cons (look_eq rfl (by simp)) (.nil _)))))))),fun w h=>h.aY 7 [0,1,2,5,6] rfl⟩)
        | exact⟨(kk+1,C2,T2,l,A1,c1,er),⟨by show kk+1≤2;omega,AQ,g2,wP,⟨B',N',m',ZR,by dsimp only;omega,by dsimp only;omega⟩,by show 0≤C2.aF.aQ;omega,fun _=>by show l.sec≤C2.aF.aQ;rw[alm];exact KY ay⟩,(by show 2-(kk+1)<2-kk;omega),.cons rfl (.cons rfl (.cons rfl (.cons rfl (.cons rfl (.cons rfl (.cons rfl (.cons (look_eq rfl (by simp)) (.nil _)))))))),fun w h=>h.aY 7 [1,2,3,5,6] rfl⟩
     ·simp only[dh] at hc7;have hk0:=hc7;refine aj "ap%c?=?=~~CVb" ?_;refine WC.jq rfl ((by
       rw[Bool.eq_false_iff];intro hh;simp only[Bool.and_eq_true,decide_eq_true_eq] at hh;have h1:=(hR.ok hh.1).2.1;have h2:=KY ay;omega)) ?_
      refine aj "ih.4" ?_;first
       | (
        have :=Tv;exact⟨(kk+1,C3,T3,R.1.1,A2,c2,R.1.2),⟨by show kk+1≤2;omega,Tv,g3,uS,⟨_,_,mq,by rw[s3,t3];exact q4,by dsimp only;omega,by dsimp only;omega⟩,by show 0≤C3.aF.aQ;rw[s3];omega,fun _=>by show R.1.1.sec≤C3.aF.aQ;rw[s3];exact q3⟩,(by show 2-(kk+1)<2-kk;omega),.cons rfl (.cons rfl (.cons rfl (.cons rfl (.cons rfl (.cons rfl (.cons rfl (.cons (look_eq rfl (by simp)) (.nil _)))))))),fun w h=>h.aY 7 [0,1,2,5,6] rfl⟩)
       | exact⟨(kk+1,C2,T2,l,A1,c1,er),⟨by show kk+1≤2;omega,AQ,g2,wP,⟨B',N',m',ZR,by dsimp only;omega,by dsimp only;omega⟩,by show 0≤C2.aF.aQ;omega,fun _=>by show l.sec≤C2.aF.aQ;rw[alm];exact KY ay⟩,(by show 2-(kk+1)<2-kk;omega),.cons rfl (.cons rfl (.cons rfl (.cons rfl (.cons rfl (.cons rfl (.cons rfl (.cons (look_eq rfl (by simp)) (.nil _)))))))),fun w h=>h.aY 7 [1,2,3,5,6] rfl⟩
  ·simp only[dh] at bB;have hkk:=bB;refine aj "Ra" ?_;refine WL.call (vs:=[]) call18 trivial (yA _ _) rfl ?_;rintro _ H0 ⟨rfl,h0⟩;subst H0;exact aj "d$" trivial
end Go.Proofs.YtcedojacbhnbiaaGreat
