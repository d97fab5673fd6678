import Derived.Test.YtcedojacbhnbiaaGreatP14
set_option linter.unusedSimpArgs false
set_option linter.unusedVariables false
set_option maxHeartbeats 2000000
set_option maxRecDepth 20000
namespace Go.Proofs.YtcedojacbhnbiaaGreat
open Go.Sl Go.RowKit Tryz List Nat
theorem Zb(s:bP)(K:World)(F:List aA):aL prog 25 #[s.v] K F (.bool s.ok):=by
 obtain⟨f,t0,g0,t1,g1⟩:=s;dsimp only[bP.v];refine aC.en func25 ntmps25 ?_;refine aj "a&" fun b1=> ?_;refine aj "tagu~4r5b217~np5cY~e~~~a~Y~b~lJk" (aX (fun aR=> ?_) fun aR=> ?_)
 ·try simp only[KD] at aR
  refine aj "I>" ?_;congr 1;rw[Bool.eq_iff_iff];simp[bP.ok];omega
 ·try simp only[KD] at aR
  refine aj "ih~Ff5b217~np5cY~e~~~a~Y~b~lJk" (aX (fun Vy=> ?_) fun Vy=> ?_)
  ·try simp only[KD] at Vy
   refine aj "I>" ?_;congr 1;rw[Bool.eq_iff_iff];simp[bP.ok];omega
  ·try simp only[KD] at Vy
   refine aj "ih~pf5bORap%c~e~b~~ZJd>" ?_;congr 1;rw[Bool.eq_iff_iff];simp[bP.ok];omega
theorem U7{x:bP}(h:x.ok=true)(hf:x.f∈x.order):∃l,x.order=x.f::l:=by simp_all [bP.order,if_pos,mem_filter,filter_cons_of_pos]
structure Im(W V:bP)(err slot:Int):Prop where
 f:V.f=W.f
 fb:W.f=0∨W.f=1
 ok:V.ok=true
 w0:0≤W.t0∧W.t0≤7
 w1:0≤W.t1∧W.t1≤7
 g0:V.g0=W.g0
 g1:V.g1=W.g1
 q0:W.g0=true→V.t0=W.t0
 q1:W.g1=true→V.t1=W.t1
 t0:W.t0-1≤V.t0∧V.t0≤W.t0
 t1:W.t1-1≤V.t1∧V.t1≤W.t1
 k0:err=0→slot=W.f→W.f=1→V.t0=W.t0
 k1:err=0→slot=W.f→W.f=0→V.t1=W.t1
theorem Im.c5{W V:bP}{e s:Int}(h:Im W V e s):(!decide ((0:Int)=0)|| !decide ((0:Int)=0)|| !decide (V.f=W.f)|| !V.ok)=false:=by rw[h.f,h.ok];simp
theorem Im.c70{W V:bP}{e s:Int}(h:Im W V e s):(!(W.g0==V.g0)||W.g0&& !decide (W.t0=V.t0)||decide (W.t0<V.t0)||decide (V.t0<W.t0-1))=false:=by
 have h1:=h.q0;have h2:=h.t0;rw[h.g0];cases hg:W.g0 with
 | true=>rw[h1 hg];simp;omega
 | false=>simp;omega
theorem Im.c71{W V:bP}{e s:Int}(h:Im W V e s):(!(W.g1==V.g1)||W.g1&& !decide (W.t1=V.t1)||decide (W.t1<V.t1)||decide (V.t1<W.t1-1))=false:=by
 have h1:=h.q1;have h2:=h.t1;rw[h.g1];cases hg:W.g1 with
 | true=>rw[h1 hg];simp;omega
 | false=>simp;omega
theorem Im.c80{W V:bP}{e s:Int}(h:Im W V e s):(decide (e=0)&&decide (s=W.f)&& !decide (0=W.f)&& !(decide (W.t0=V.t0)&&(W.g0==V.g0&&true)))=false:=by
 rw[h.g0,Bool.eq_false_iff];intro hh;simp only[Bool.and_eq_true,Bool.not_eq_true',dh] at hh;have hf:=h.fb;have :=h.k0 hh.1.1.1 hh.1.1.2 ay;rw[this] at hh;simp at hh
theorem Im.c81{W V:bP}{e s:Int}(h:Im W V e s):(decide (e=0)&&decide (s=W.f)&& !decide (1=W.f)&& !(decide (W.t1=V.t1)&&(W.g1==V.g1&&true)))=false:=by
 rw[h.g1,Bool.eq_false_iff];intro hh;simp only[Bool.and_eq_true,Bool.not_eq_true',dh] at hh;have hf:=h.fb;have :=h.k1 hh.1.1.1 hh.1.1.2 ay;rw[this] at hh;simp at hh
theorem YD.two{aQ:Int}{S:aD}{m m':Lm}{B:Nat}{N:Int}{R:Ran}(h:YD aQ (stM m).order (stM m) S m B N R m'):Im (stM m) (stM m') R.1.2 R.1.1.slot:=by
 have hW:=Bh m;have hb:=bP.ou hW;have key:R.1.2=0→R.1.1.slot=(stM m).f→∀k,k=0∨k=1→k≠(stM m).f→(stM m').t k=(stM m).t k:=fun h0 hs=>by
  obtain⟨k1,_,k3⟩:=h.ok h0;obtain⟨l,hl⟩:=U7 hW (hs ▸ k1);exact k3 _ l hl hs
 refine⟨h.st.f,hb.1,Bh m',⟨hb.2.1,hb.2.2.1⟩,⟨hb.2.2.2.1,hb.2.2.2.2⟩,h.st.g 0 (.inl rfl),h.st.g 1 (.inr rfl),h.st.iF 0 (.inl rfl),h.st.iF 1 (.inr rfl),h.st.t 0 (.inl rfl),h.st.t 1 (.inr rfl),fun h0 hs hf=>key h0 hs 0 (.inl rfl) ay,fun h0 hs hf=>key h0 hs 1 (.inr rfl) ay⟩
theorem Gp(g:bL){A D:Option Addr}{m cap k cd:Nat}{ring:List Ky}{ss:List ByteArray}{K:World}{F:List aA}(hr:m≤20→Ring K F A m ring)(hs:Seq K F D k 1 (strs ss))(hl:ss.length=k) :
 aL prog 5 #[g.v,.slice A m cap,.slice D k cd] K F (.bool true):=by
 refine aC.en func5 ntmps5 ?_;refine aj "a&" fun b3=> ?_;refine aj "taG" ?_;refine WL.t1 call13 rfl (FU g _ _) rfl ?_;refine aj "*cY~H~lJcY~H~lJk" (aX (fun aN=> ?_) fun aN=> ?_)
 ·simp only[Bool.or_eq_true,Bool.or_eq_false_iff,Bool.and_eq_true,oD] at aN;exact aj "I$" trivial
 ·simp only[Bool.or_eq_true,Bool.or_eq_false_iff,Bool.and_eq_true,oD] at aN;obtain⟨⟨⟨⟨⟨⟨zY,Ta⟩,amR⟩,anP⟩,hp6⟩,anK⟩,anp⟩:=aN;have hg:=bL.rX zY;have BX:=bL.tO hg;have adi:=hr ay;have ahv:g.cap≤1000:=by
   unfold bL.cap;have h1:(g.pg-1)*g.room≤5*g.room:=Int.mul_le_mul_of_nonneg_right ay (by have :=bL.jW hg;omega);omega
  refine aj "iaG" ?_;refine WL.c1 call14 rfl (BK (g:=g) zY ay _ _) rfl ?_;rintro _ _ ⟨bc,bd,bs,C0,T0,ZO,g0,s0,hT0,t0,rfl,rfl⟩;refine aj "Cf~abO)agu" ?_;have hF0:pJ 11 11 256 1 C0.aF T0.aF (RB ss 0):=by
   rw[t0,s0];have :RB ss 0=fun _=>none:=by funext k;unfold RB;rw[if_neg (not_lt_zero k)]
   rw[this];exact pJ.new hg 11
  refine WC.loop (σ:=Nat×Cw×cZ) (fun s=>[(1,.slice A m cap),(2,.slice D k cd),(3,ptr b3 0),(8,ptr bs 0),(9,.i (s.1:Int))]) (fun s=>s.2.1.A bc::dH bd bc g::s.2.2.A bs bd g::ah b3 23 [.i g.bl,.i g.pg,.i g.se,.i g.sb,.i g.fl]::F) (fun s=>s.1≤k∧s.2.1.Ok∧s.2.1.g=g∧s.2.2.Ok g∧pJ 11 11 (256+s.1) (1+21*(s.1:Int)) s.2.1.aF s.2.2.aF (RB ss s.1)) (fun s=>k-s.1) (0,C0,T0) ⟨zero_le _,ZO,g0,hT0,by simpa using hF0⟩ bM cu ?_;rintro⟨i,C,T⟩ ⟨hi,hC,MW,hT,ZH⟩;dsimp only at hi hC MW hT ZH ⊢;have J9:C.aF.g=g:=MW;refine aj "rco5k" (aX (fun bB=> ?_) fun bB=> ?_)
  ·simp only[dh] at bB;have him:i<k:=ay;have Pn:(i:Int).toNat=i:=ay;obtain⟨s,O1⟩:∃s,s=ss.getD i ByteArray.empty:=⟨_,rfl⟩;have lJ:Rd K F (D.map (·.add ((i:Int).toNat*1))) (.string s):=by rw[Pn,O1];exact Seq.TM hs him
   have uQ:=E9 ss i;rw[←O1] at uQ;obtain⟨d,hd⟩:∃d,d=CZ ss i:=⟨_,rfl⟩;have Gg:aB 256 d:=by rw[hd];exact Iw ss i
   rw[←hd] at uQ;refine aj "HNN~k++" ?_;refine WQ.val (V.eD abM (ak rfl) (ak rfl) (fun _=>by omega) (fun _=>by repeat (first | exact lJ | apply Rd.up))) rfl ?_;refine WQ.val (V.load isAgg9 (ak rfl) (fun _=>by repeat (first | exact lJ | apply Rd.up))) rfl ?_;refine WQ.val (V.adn runUnderlying9 (ak rfl)) rfl (aj "~~w" ?_);refine WQ.call (vs:=[_]) call15 ⟨ak rfl,trivial⟩ (LM hg) rfl ?_;refine aj "~~a~gE" (aX (fun eF=> ?_) fun eF=> ?_)
   ·simp only[dh] at eF;have h3:=eF;exact aj "I$" trivial
   ·simp only[dh] at eF;have h3:=eF;have hdc:(d.length:Int)≤g.cap:=by rw[uQ];omega
    refine aj "Zzc" ?_;refine WL.val (V.eD abM (ak rfl) (ak rfl) (fun _=>by omega) (fun _=>by repeat (first | exact lJ | apply Rd.up))) rfl ?_;refine WL.val (V.load isAgg9 (ak rfl) (fun _=>by repeat (first | exact lJ | apply Rd.up))) rfl ?_;refine aj "~~~n" fun b72 anC ag1 hcp VU=> ?_;refine aj "~5" ?_;have Zl:∀H':List aA,Seq K (pK b72 5 ag1::H') (some ⟨b72,0,none⟩) s.size 1 (av .u8 d):=fun H'=>by
     have :=VU H';rw[su (oH s)] at this;rw[hd];unfold CZ;rw[←O1];exact this
    obtain⟨st0,MS⟩:=ZH.si;have uR:∀l∈T.aF.dN,l.length≤1000000:=fun l GA=>Nat.le_trans (MS.Vv l GA) ay;obtain⟨aR,bB,eF⟩:=ZH.change (by rw[J9];omega) (by rw[J9];omega) ay (i0:=i) ay ay ay Gg (by rw[J9];exact hdc);refine WL.c3 call16 rfl rfl rfl (vH (d:=d) hC MW hT (Zl _) Gg hcp ay uR) rfl ?_;rintro v73 _ ⟨C2,T2,AQ,g2,wP,s2,t2,hv2,rfl⟩;rw[aR] at hv2;subst hv2;rw[←s2,←t2,hd,XT] at eF;refine aj "sbOih.4" ?_;exact⟨(i+1,C2,T2),⟨him,AQ,g2,wP,by
     rw[show 256+(i+1)=256+i+1 by omega,show 1+21*(((i+1:Nat)):Int)=1+21*(i:Int)+21 by omega];exact eF⟩,(by show k-(i+1)<k-i;omega),.cons rfl bM,fun w h=>h.aY 5 [0,1,2,4] rfl⟩
  ·simp only[dh] at bB;refine aj "W" ?_;obtain rfl:i=k:=by omega
   have WY:11≤(T.stands.length:Int):=by
    obtain⟨st0,MS⟩:=ZH.si;have h1:T.stands.length=11:=MS.len;rw[h1];decide
   have dJ:=ZH.ni aK;obtain⟨hlg,m',hR⟩:=Jq ring 0 ZH (by rw[J9];omega) (by rw[J9];omega) (by rw[J9];omega) ay ay;have SQ:=hR.two;obtain⟨W,hW⟩:∃W,W=stM (RB ss i):=⟨_,rfl⟩;obtain⟨Z,hV⟩:∃Z,Z=stM m':=⟨_,rfl⟩;obtain⟨R,hRd⟩:∃R,R=xU C.aF T.aF ring 0:=⟨_,rfl⟩;rw[←hRd] at hR SQ;rw[←hV] at SQ;rw[←hW] at dJ SQ;have hw0:=SQ.w0;have hw1:=SQ.w1;have hz0:=SQ.t0;have JX:=SQ.t1;refine aj "h" ?_;refine WL.c1 call24 rfl (qW hC MW hT WY) rfl ?_;rintro _ _ ⟨T1,lU,t1,rfl,rfl⟩;rw[dJ] at t1 ⊢;dsimp only at t1 ⊢;have ant:11≤(T1.stands.length:Int):=by rw[show T1.stands=T.stands from congrArg St.stands t1];exact WY
   refine aj "!A" fun b10=> ?_;refine aj "K0~5" ?_;refine WL.c3 call17 rfl rfl rfl (LZ hC MW lU ant (aQ:=0) adi.up.up (by rw[t1];exact hlg)) rfl ?_;rw[t1,←hRd];rintro _ _ ⟨C2,T2,A2,c2,ps,E,AQ,g2,wP,s2,t2,rfl,nu,hE,rfl⟩;obtain⟨B',N',ZR,_,_⟩:=hR.aik;rw[←s2,←t2] at ZR;have Cg:=ZR.ni aK;rw[←hV] at Cg;have ahN:11≤(T2.stands.length:Int):=by
    obtain⟨st0,MS⟩:=ZR.si;have h1:T2.stands.length=11:=MS.len;rw[h1];decide
   refine aj "A" fun b12=> ?_;refine aj "Kbe~5" ?_;refine WL.c1 call24 rfl (qW AQ g2 wP ahN) rfl ?_;rintro _ _ ⟨T3,uS,t3,rfl,rfl⟩;rw[Cg] at t3 ⊢;dsimp only at t3 ⊢;refine aj "!A" fun b13=> ?_;refine aj "KfscY~~vJc~e~b~e~b~*Jc" ?_;refine WL.bG (oj:=_) rfl rfl rfl GC.f (V.gG (vs:=[_,_,_,_,_]) ⟨isAgg58,sizeOf58⟩ (ak rfl) rfl (fun _=>Bn)) rfl ?_;refine WL.qh (oj:=_) (vs:=[_]) rfl rfl rfl GC.f call25 ⟨OV.g rfl id,trivial⟩ (fun hg=>Zb Z _ _) rfl ?_;refine aj "~~xJb" ?_;refine WC.jq rfl (SQ.c5) ?_;refine aj ")agu~4r5b217~n~PA" fun b16=> ?_;refine aj "~6be7~n~PA" fun b17=> ?_;refine aj "~6Bapp" ?_;refine WL.val (V.ajJ underlying4 (ak rfl) (ak rfl)) rfl (aj "c~e~b~~j~~s~~t~~s~~t" ?_);refine WL.bG (oj:=_) rfl rfl rfl GC.ct (V.neq (OV.g rfl id) (OV.g rfl id)) rfl (aj "~~kJc~e~b~e~b~~^Jc~e~b~e~b~~~o" ?_);refine WL.bG (oj:=_) rfl rfl rfl GC.f (V.lss (OV.g rfl id) (OV.g rfl id)) rfl (aj "Jb" ?_);refine WC.jq rfl ((by first | exact SQ.c70 | exact SQ.c71)) ?_;refine aj "iap%c?=?=" ?_;refine WL.bG (oj:=_) rfl rfl rfl GC.t (V.eql (OV.g rfl id) (OV.g rfl id)) rfl (aj "Vc8?=" ?_);refine WL.bG (oj:=_) rfl rfl rfl GC.t (V.neq (OV.g rfl id) (OV.g rfl id)) rfl (aj "Vc~~Y~~Y" ?_);refine WL.bG (oj:=_) rfl rfl rfl GC.t (V.TR (by kernel_rfl) (OV.g rfl id) (OV.g rfl id) (afI _ _ _ _)) rfl ?_;refine aj "Vb" ?_;refine WC.jq rfl ((by first | exact SQ.c80 | exact SQ.c81)) ?_;refine aj "ih~Ff5b217~n~PA" fun b16=> ?_;refine aj "~6be7~n~PA" fun b17=> ?_;refine aj "~6Bapp" ?_;refine WL.val (V.ajJ underlying4 (ak rfl) (ak rfl)) rfl (aj "c~e~b~~j~~s~~t~~s~~t" ?_);refine WL.bG (oj:=_) rfl rfl rfl GC.ct (V.neq (OV.g rfl id) (OV.g rfl id)) rfl (aj "~~kJc~e~b~e~b~~^Jc~e~b~e~b~~~o" ?_);refine WL.bG (oj:=_) rfl rfl rfl GC.f (V.lss (OV.g rfl id) (OV.g rfl id)) rfl (aj "Jb" ?_);refine WC.jq rfl ((by first | exact SQ.c70 | exact SQ.c71)) ?_;refine aj "iap%c?=?=" ?_;refine WL.bG (oj:=_) rfl rfl rfl GC.t (V.eql (OV.g rfl id) (OV.g rfl id)) rfl (aj "Vc8?=" ?_);refine WL.bG (oj:=_) rfl rfl rfl GC.t (V.neq (OV.g rfl id) (OV.g rfl id)) rfl (aj "Vc~~Y~~Y" ?_);refine WL.bG (oj:=_) rfl rfl rfl GC.t (V.TR (by kernel_rfl) (OV.g rfl id) (OV.g rfl id) (afI _ _ _ _)) rfl ?_;refine aj "Vb" ?_;refine WC.jq rfl ((by first | exact SQ.c80 | exact SQ.c81)) ?_;refine aj "ih~pf5bOWagu" ?_;refine WC.loop (σ:=Nat×cZ) (fun s=>[(2,.slice D i cd),(8,ptr bs 0),(18,.i (s.1:Int))]) (fun s=>C2.A bc::dH bd bc g::s.2.A bs bd g::F) (fun s=>1≤s.1∧s.2.Ok g∧s.2.aF=T3.aF) (fun s=>i-s.1) (1,T3) ⟨Nat.le_refl _,uS,rfl⟩ bM (fun w h=>h.aY 12 [5,6,7] rfl) ?_;rintro⟨j,T4⟩ ⟨hj,hT4,e4⟩;dsimp only at hj hT4 e4 ⊢;refine aj "rco5k" (aX (fun hc9=> ?_) fun hc9=> ?_)
   ·simp only[dh] at hc9;have Gy:j<i:=ay;have htj:(j:Int).toNat=j:=ay;obtain⟨G,hG⟩:∃G,G=eG C2.aF T4.aF (j:Int):=⟨_,rfl⟩;have hGe:∃N:Nat,G=(⟨0,CZ ss j,N⟩,T3.aF):=by
     obtain⟨st2,Xh⟩:=ZR.si;obtain⟨⟨N,_,h2⟩,_⟩:=Xh.ER ZR.up (i:=j) ay (v:=CZ ss j) (by rw[hR.rest j ay];exact if_pos Gy);exact⟨N,by rw[hG,e4,t3,h2]⟩
    obtain⟨N4,hGe⟩:=hGe;have hrj:Rd K F (D.map (·.add ((j:Int).toNat*1))) (.string (ss.getD j ByteArray.empty)):=by rw[htj];exact Seq.TM hs Gy
    refine aj "1c" ?_;refine WL.c2 call26 rfl rfl (vN AQ g2 hT4 (j:Int)) rfl ?_;rintro _ _ ⟨A9,c9,T5,hT5,t5,rfl,rfl⟩;rw[←hG] at t5 ⊢;have t5':T5.aF=T3.aF:=by rw[t5,hGe]
    have hsG:∀ {H:List aA},Seq K (bq (.slice A9 G.1.d.length c9) 5 1 G.1.d.length (av .u8 G.1.d)::H) A9 G.1.d.length 1 (ints .u8 (bF G.1.d)):=fun {H}=>by rw[←mO];exact bq.seq (by rw[au,Nat.mul_one])
    refine aj "!~Mmmt~k+" ?_;refine WQ.val (V.neq (ak rfl) (ak rfl)) rfl (aj "+~~i" ?_);refine WQ.bG (oj:=_) rfl rfl rfl GC.f (V.ug (xs:=bF G.1.d) underlying34 underlying5 underlying9 (OV.g rfl id) (fun _=>hsG)) rfl ?_;refine aj "~~i~~i" ?_;refine WQ.bG (oj:=_) rfl rfl rfl GC.f (V.eD abM (OV.g rfl id) (OV.g rfl id) (fun hc=>by omega) (fun hc=>by repeat (first | exact hrj | apply Rd.up))) rfl ?_;refine WQ.bG (oj:=_) rfl rfl rfl GC.f (V.load isAgg9 (OV.g rfl id) (fun hc=>by repeat (first | exact hrj | apply Rd.up))) rfl ?_;refine WQ.bG (oj:=_) rfl rfl rfl GC.f (V.ag4 (OV.g rfl id) (OV.g rfl id)) rfl (aj "~~$~g" ?_);refine WC.jq rfl ((by rw[hGe,abv];simp)) ?_;refine aj "ih.4" ?_;exact⟨(j+1,T5),⟨by show 1≤j+1;omega,hT5,t5'⟩,(by show i-(j+1)<i-j;omega),.cons rfl bM,fun w h=>h.tail⟩
   ·simp only[dh] at hc9;refine aj "Ra" ?_;refine WL.call (vs:=[]) call18 trivial (yA _ _) rfl ?_;rintro _ H0 ⟨rfl,h0⟩;subst H0;exact aj "d$" trivial
end Go.Proofs.YtcedojacbhnbiaaGreat
