import Derived.Test.YtcedojacbhnbiaaGreatP4
set_option linter.unusedSimpArgs false
set_option linter.unusedVariables false
set_option maxHeartbeats 2000000
set_option maxRecDepth 20000
namespace Go.Proofs.YtcedojacbhnbiaaGreat
open Go.Sl Go.RowKit Tryz List Nat
def Cw.new(g:bL)(m:Int→Bool)(bp bw bn bm bk:Nat):Cw:=⟨g,fun _=>none,fun _=>none,replicate g.bl.toNat 0,m,fun _=>false,0,true,0,0,bp,bw,bn,bm,bk,[]⟩
def aD.new(g:bL)(l:List Int):aD:=⟨g,fun _=>none,fun _=>none,replicate g.bl.toNat 0,fun k=>decide (k∈l),fun _=>false,0,true,0,0⟩
theorem Cw.ag8{g:bL}(h:g.aU)(m:Int→Bool)(bp bw bn bm bk:Nat):(Cw.new g m bp bw bn bm bk).Ok:=by
 refine⟨h,fun p e he=>(by have h:(none:Option (Option Addr×Nat×List Int))=some e:=he;cases h),fun p e he=>(by have h:(none:Option (Option Addr×Nat×List Int))=some e:=he;cases h), ?_,fun x hx=> ?_,(by show (0:Int)≤0∧(0:Int)≤9223372036854775807;decide)⟩
 ·show ((replicate g.bl.toNat 0).length:Int)=g.bl;rw[length_replicate];unfold bL.aU at h;omega
 ·rw[eq_of_mem_replicate hx];unfold bL.aU at h;show (0:Int)≤0∧0≤g.pg;omega
theorem Nk{l:List Int}{j:Nat}(h:j<l.length):(fun k'=>if k'=l.getD j 0 then true else decide (k'∈l.take j))=fun k=>decide (k∈l.take (j+1)):=by
 funext k;have hg:l.getD j 0=l[j]:=by simp[getD,h]
 have ht:l.take (j+1)=l.take j++[l[j]]:=by rw[take_add_one,getElem?_eq_getElem h];rfl
 rw[hg,ht];by_cases hk:k=l[j]
 ·rw[if_pos hk,decide_eq_true (mem_append.2 (.inr (mem_singleton.2 hk)))]
 ·rw[if_neg hk];exact decide_eq_decide.2 ⟨fun h=>mem_append_left _ h,fun h=>(mem_append.1 h).elim id fun h=>absurd (mem_singleton.1 h) hk⟩
theorem aae(g:bL){B:Option Addr}{q cap:Nat}{l:List Int}{K:World}{F:List aA}(hl:Seq K F B q 1 (ints .i64 l))(hq:q≤9223372036854775807) :
 aC prog 29 #[g.v,.slice B q cap] K F (fun v H' =>
  (g.may=true∧(∀x∈l,0≤x∧x<g.bl)∧∃bc,∃C:Cw,C.Ok∧C.aF=aD.new g l∧v= .tuple #[ptr bc 0,.i 0]∧H'=C.A bc::F) ∨
  (¬(g.may=true∧∀x∈l,0≤x∧x<g.bl)∧v= .tuple #[.pointer none,.i 1]∧H'=F)):=by
 have hll:l.length=q:=by simpa [ints] using hl.len
 cases hm:g.may with
 | false =>
  refine aC.en func29 ntmps29 ?_;refine aj "a&" fun b2=> ?_;refine aj "mxG" ?_;refine WL.t1 call96 rfl (aL.eq (v':= .tuple #[.i 0,.i 1]) (Ov g _ _) (by rw[hm];rfl)) rfl ?_;refine aj "Cfsb2eD" ?_;exact aG.ret (H':=F) (bI.eY rfl rfl rfl) gy (.inr ⟨fun h=>(by cases h.1),rfl,rfl⟩)
 | true =>
  have hg:=bL.rX hm;have wS:=hg;unfold bL.aU at wS;refine aC.en func29 ntmps29 ?_;refine aj "a&" fun b2=> ?_;refine aj "mxG" ?_;refine WL.t1 call96 rfl (aL.eq (v':= .tuple #[.i g.raw,.i 0]) (Ov g _ _) (by rw[hm];rfl)) rfl ?_;refine aj "CfsbO)~T~~D0l1S4:5" ?_;refine WA.par (fuel:=3) (e0:=[(24,.i g.bl),(20,.i g.raw),(19,g.v),(1,.slice B q cap)]) (RO:= #[true,true,true,true,true,true,true,true,true,false,false,false]) [⟨2,21,fun b=> .map (some b),fun b=>eU b iD fun _=>none⟩,⟨3,22,fun b=> .map (some b),fun b=>eU b iD fun _=>none⟩,⟨6,25,fun b=> .slice (some ⟨b,0,none⟩) g.bl.toNat g.bl.toNat,fun b=>ah b 3 (replicate g.bl.toNat (.i 0))⟩,⟨7,26,fun b=> .map (some b),fun b=>eU b ru fun _=>none⟩,⟨8,27,fun b=> .map (some b),fun b=>eU b ru fun _=>none⟩] _ rfl rfl rfl bM (by kernel_rfl) ?_ cu (fun bs hbs=> ?_)
  ·intro x hx;simp only[mem_cons,not_mem_nil,or_false] at hx;rcases hx with rfl | rfl | rfl | rfl | rfl
   ·exact⟨_,rfl,fun e' H' Q' hE h=>WL.makeMap iD rfl h⟩
   ·exact⟨_,rfl,fun e' H' Q' hE h=>WL.makeMap iD rfl h⟩
   ·exact⟨_,rfl,fun e' H' Q' hE h=>WL.sK (m:=g.bl.toNat) underlying124 Td (OV.p (hE 24 _ rfl)) (OV.p (hE 24 _ rfl)) ay ay ay rfl rfl rfl h⟩
   ·exact⟨_,rfl,fun e' H' Q' hE h=>WL.makeMap ru rfl h⟩
   ·exact⟨_,rfl,fun e' H' Q' hE h=>WL.makeMap ru rfl h⟩
  obtain⟨b21,b22,b25,b26,b27,rfl⟩:∃a b c d e,bs=[a,b,c,d,e]:=by
   match bs,hbs with
   | [a,b,c,d,e],_=>exact⟨a,b,c,d,e,rfl⟩
  simp only[zip_cons_cons,zip_nil_right,map_cons,map_nil,cons_append,nil_append];refine WA.t 9 rfl (V.build (vs:=[(0,_),(1,_),(2,_),(3,_),(4,_),(5,_),(6,_),(8,_)]) ⟨ak rfl,ak rfl,ak rfl,ak rfl,ak rfl,ak rfl,ak rfl,ak rfl,trivial⟩ rfl (vP _ _ _ _ _ _ _ _ _ _ _ _ _ _)) ?_;refine WA.o 10 rfl ?_;refine WL.box (cs:=[_,_,_,_,_,_,_,_,_,_,_,_,_,_,_]) (ak rfl) rfl rfl (fun VQ=> ?_);refine aj "b~w;MroP" ?_;refine WC.loop (σ:=Nat) (fun j=>[(8,ptr VQ 0),(30,.slice B q cap),(31,.i (q:Int)),(32,.i (j:Int))]) (fun j=>ah VQ 165 (Cw.new g (fun _=>false) b21 b22 b25 b26 b27).cells::eU b21 iD (fun _=>none)::eU b22 iD (fun _=>none)::ah b25 3 (ints .i64 (replicate g.bl.toNat 0))::eU b26 ru (lD fun k=>decide (k∈l.take j))::eU b27 ru (fun _=>none)::F) (fun j=>j≤q∧∀x∈l.take j,0≤x∧x<g.bl) (fun j=>q-j) 0 ⟨zero_le _,fun x hx=>(by cases hx)⟩ bM (fun w h=> ?_) ?_
  ·rw[IJ];have e1:(Cw.new g (fun _=>false) b21 b22 b25 b26 b27).cells=_:=rfl;refine Sat.aS (h.aY 7 [0,1,2,3,4,5] rfl) ?_;simp[Cw.cells,Cw.new]
  rintro j ⟨hj,EX⟩;refine aj "UE" (aX (fun aR=> ?_) fun aR=> ?_)
  ·try simp only[lX] at aR
   refine aj "Ha" ?_;refine WL.val (V.eD fZ (ak rfl) (ak rfl) Yc (fun hc=>by repeat (first | exact Seq.jk hl (by first | omega | (simp at hc;omega)) | apply Rd.up))) rfl ?_;refine WL.val (V.load isAgg3 (ak rfl) (fun hc=>by repeat (first | exact Seq.jk hl (by first | omega | (simp at hc;omega)) | apply Rd.up))) rfl ?_;refine aj "fc" ?_;refine WL.t2 call97 rfl rfl (vB (C:=Cw.new g (fun _=>false) b21 b22 b25 b26 b27) _ wM) rfl ?_;refine aj "*k" (aX (fun bB=> ?_) fun bB=> ?_)
   ·have h2:=bB;refine aj "aD" ?_;refine aG.ret (H':=F) (bI.eY rfl rfl rfl) gy (.inr ⟨fun h=> ?_,rfl,rfl⟩);have h3:=h.2 (l.getD (j:Int).toNat 0) (by rw[getD,getElem?_eq_getElem ay];exact getElem_mem _);simp[aD.block,Cw.aF,Cw.new] at h2;simp at h3;omega
   ·have h2:=bB;refine aj "ih,pc" ?_;refine WL.vO (k:=_) underlying163 kl3 (ak rfl) (ak rfl) (ak rfl) (by repeat (first | exact ql.here | apply ql.up)) ?_;refine aj "b6" ?_;refine⟨j+1,⟨by show j+1≤q;omega,fun x hx=> ?_⟩,(by show q-(j+1)<q-j;omega),.cons rfl bM,fun w h=> ?_⟩
    ·rw[take_add_one,getElem?_eq_getElem ay] at hx;rcases mem_append.1 hx with hx | hx
     ·exact EX x hx
     ·have ZN:x=l.getD (j:Int).toNat 0:=by
       simp at hx;rw[show (j:Int).toNat=j by omega];simp[getD,show j<l.length by omega,hx]
      subst ZN;simp[aD.block,Cw.aF,Cw.new] at h2;exact h2
    ·rw[Mk,show (j:Int).toNat=j by omega,Nk ay] at h;exact h
  ·try simp only[lX] at aR
   refine aj "ReD" ?_;obtain rfl:j=q:=by omega
   rw[take_of_length_le ay] at EX;refine aG.ret (H':=(Cw.new g (fun k=>decide (k∈l.take j)) b21 b22 b25 b26 b27).A VQ::F) (bI.eY rfl rfl rfl) (fun w h=> ?_) (.inl ⟨(by first | trivial | rfl),EX,VQ,_,Cw.ag8 hg _ _ _ _ _ _, ?_,rfl,rfl⟩)
   ·have h1:=(Sat.all (l:=[]) h).aY 7 [1,2,3,4,5,6,0] rfl;exact Sat.all (l:=(Cw.new g (fun k=>decide (k∈l.take j)) b21 b22 b25 b26 b27).parts VQ) h1
   ·rw[take_of_length_le ay];rfl
theorem R3{A:Option Addr}{m cap:Nat}{xs:List Int}{K:World}{F:List aA}(hs:Seq K F A m 1 (ints .u8 xs))(hm:m≤1000000) :
 aC prog 125 #[.slice A m cap] K F (fun v H'=>∃A' cap',v= .slice A' m cap'∧H'=bq (.slice A' m cap') 5 1 m (ints .u8 xs)::F):=by
 have hl:xs.length=m:=by simpa [ints] using hs.len
 refine aC.nQ (p:=A=none→xs=[]) (fun w hw hA=>by subst hA;simpa [ints] using hs.RN hw) (fun SE=> ?_);refine aC.en func125 ntmps125 ?_;refine aj "af" ?_;refine WL.val (V.abH underlying34 (ak rfl)) rfl ?_;refine aj "k" (aX (fun aN=> ?_) fun aN=> ?_)
 ·have hA:A=none:=by cases A<;>simp at aN ⊢
  subst hA;have hx:=SE rfl;subst hx;obtain rfl:m=0:=hl.symm;refine aj "I" ?_;exact qR (bq (.slice none 0 0) _ 1 0 []::F) rfl rfl (fun w h=>Sat.iG h _ _) ⟨none,0,rfl,rfl⟩
 ·refine aj "ia" ?_;refine WL.buildSlice (E:=5) (cs:=[]) (vs:=[]) trivial rfl (aeu ) rfl (fun b5=> ?_);refine WL.mv rfl rfl ?_;refine WL.sub (Sub.refl _) (fun w h=>Sat.Nq (m:=0) (cap:=0) (s:=1) h rfl (Nat.le_refl _) (zero_le _)) ?_;refine WL.append (m:=0) (cs:=[]) underlying34 zo (ak rfl) (ak rfl) (by repeat (first | exact hs | apply Seq.up)) (yM _ _) ay rfl rfl (fun A' c' ZP hc'=> ?_);refine aj "d" ?_;refine aG.ret (H':=bq (.slice A' m c') _ 1 m (ints .u8 xs)::F) (bI.tmp rfl (look_eq rfl (by simp))) (fun w h=> ?_) ⟨A',c',rfl,rfl⟩
  simpa using h
namespace Cw
end Cw
theorem EA(k:IntKind)(xs:List Nat):av k xs=ints k (xs.map fun x:Nat=>(x:Int)):=by simp[av,ints]
section
variable{K:World}{F:List aA}
theorem l9{A:Option Addr}{m cap:Nat}{xs:List Nat}(hs:Seq K F A m 1 (av .u8 xs))(hm:m≤1000000) :
 aC prog 125 #[.slice A m cap] K F (fun v H'=>∃A' cap',v= .slice A' m cap'∧H'=bq (.slice A' m cap') 5 1 m (av .u8 xs)::F):=by
 rw[EA] at hs ⊢;exact R3 hs hm
theorem Cj{A:Option Addr}{m cap E:Nat}{cs:List Value}(hm:0<m):∀w,Sat K w (bq (.slice A m cap) E 1 m cs::F)→∃x:Nat×List Value,(A=some ⟨x.1,0,none⟩∧(cs++x.2).length=cap∧cap≤maxLen)∧Sat K w (ah x.1 E (cs++x.2)::F):=fun w hw=>by
 cases A with
 | none=>have :=(bq.F7 hw).1;omega
 | some a =>
  obtain⟨g,rfl⟩:=bq.addr hw;obtain⟨r,⟨h1,h2,h3,h4⟩,h5⟩:=Sat.rY hw;exact⟨(g,r),⟨rfl,by show (cs++r).length=cap;omega,h4⟩,h5⟩
theorem Rj{t:Nat}{A B:Option Addr}{m q cap cap':Nat}{d mo:List Nat}(ht:1≤t∧t≤8)(hd:Seq K F A m 1 (av .u8 d))(hm:Seq K F B q 1 (av .u8 mo))(Gg:aB 256 d)(hm8:aB 256 mo)(uQ:1≤m∧m≤512)(GH:q=aM t) :
 aC prog 283 #[.i (t:Int),.slice A m cap,.slice B q cap'] K F
  (fun v H'=>∃bw,∃W:Wd,W.Ok∧W.t=t∧W.d=d∧W.m=iq t mo∧(W.d.length≤W.c1∧W.m.length≤W.c2)∧v= .tuple #[ptr bw 0,.i 0]∧H'=W.parts bw++F):=by
 have hl:d.length=m:=by simpa [av] using hd.len
 have Hf:mo.length=q:=by simpa [av] using hm.len
 have aqh:q≤13:=by rw[GH];unfold aM;omega
 have hq0:0<q:=by rw[GH];unfold aM;omega
 have hqt:13*t≤8*q:=by rw[GH];unfold aM;omega
 refine aC.en func283 ntmps283 ?_;refine aj "am0" ?_;refine WL.t2 call278 rfl rfl (Qy ht uQ) rfl ?_;refine aj "CfscY~HY~*Jb" ?_;refine WC.jq rfl ((by simp;rw[GH])) ?_;refine aj "Zc" ?_;refine WL.c1 call125 rfl (l9 hd ay) rfl ?_;rintro _ _ ⟨A1,c1,rfl,rfl⟩;refine WL.ex (Cj ay) (fun ⟨g1,r1⟩ ⟨e1,DX,aR⟩=> ?_);dsimp only at e1 DX ⊢;subst e1;refine WL.mv rfl rfl (WL.c1 call125 rfl (l9 hm.up ay) rfl ?_);rintro _ _ ⟨A2,c2,rfl,rfl⟩;refine WL.ex (Cj hq0) (fun ⟨g2,r2⟩ ⟨e2,ET,bB⟩=> ?_);dsimp only at e2 ET ⊢;subst e2;have aou:d.length≤c1:=by rw[←DX,length_append,au];omega
 have as4:mo.length≤c2:=by rw[←ET,length_append,au];omega
 refine WL.val (V.build (vs:=[(0,_),(1,_),(2,_)]) ⟨ak rfl,ak rfl,ak rfl,trivial⟩ rfl (Oh _ _ _ _ _ _ _)) rfl ?_;refine aj "~~0" fun b32=> ?_;refine aj "f~Igu" ?_;refine WC.loop (σ:=Nat) (fun k=>[(10,ptr b32 0),(8,.i (q:Int)),(11,.i ((13*t+k:Nat):Int))]) (fun k=>ah g2 5 (av .u8 (iJ mo (13*t) k)++r2)::ah b32 370 [.i (t:Int),.slice (some ⟨g1,0,none⟩) m c1,.slice (some ⟨g2,0,none⟩) q c2]::ah g1 5 (av .u8 d++r1)::F) (fun k=>13*t+k≤8*q) (fun k=>8*q-k) 0 (by simpa using hqt) (.cons rfl (.cons (look_eq rfl (by rw[GH])) bM)) (fun w h=>h.p1) ?_;rintro k hk;refine aj "rc~I5bX" (aX (fun aR=> ?_) fun aR=> ?_)
 ·obtain⟨o,ho⟩:∃o,o=iJ mo (13*t) k:=⟨_,rfl⟩;have J2:o.length=q:=by rw[ho,lK,Hf]
  have ZT:aB 256 o:=by rw[ho];exact nM hm8 k
  rw[←ho];obtain⟨i,hi⟩:∃i,i=13*t+k:=⟨_,rfl⟩;rw[←hi];have Ki:(av .u8 o++r2)[0+((i:Int)/8).toNat*1]? =some (.int .u8 (o.getD (i/8) 0:Nat)):=by rw[show 0+((i:Int)/8).toNat*1=i/8 by omega];exact mD _ _ _ ay
  have Kk:=LU (ZT.at_ aK (i/8)) (mod_lt i (show 0<8 by decide));refine aj "H" ?_;refine WC.fE (ah b32 370 [.i (t:Int),.slice (some ⟨g1,0,none⟩) m c1,.slice (some ⟨g2,0,none⟩) q c2]::ah g1 5 (av .u8 d++r1)::F) (by kernel_rfl) ?_;refine aj "l0@1S2:3l4~~O5[6l8" ?_;refine WA.t 9 rfl (V.aI (v':= .i ((i%8:Nat):Int)) (V.Dv (ak rfl) (ak rfl) (fun _=>by omega)) (fun _=>by simp)) ?_;refine aj "~~=:n7" ?_;refine WL.val (V.load isAgg5 (ak rfl) (fun hc=>Rd.here Ki)) rfl ?_;refine WL.nil ?_;refine WA.t 11 rfl (V.aI (v':= .int .u8 ((IL (o.getD (i/8) 0) (i%8):Nat):Int)) (V.andNot (ak rfl) (ak rfl)) (fun _=>by rw[Kk.1])) ?_;refine aj "[<n=" ?_;refine WL.store (cs:=[_]) sizeOf5 (ak rfl) (ak rfl) rfl rfl rfl (dw.at_ (by rw[length_append,au];omega)) ?_;refine aj "bMh.4" ?_;refine⟨k+1,(by show 13*t+(k+1)≤8*q;omega),(by show 8*q-(k+1)<8*q-k;omega),.cons rfl (.cons rfl (.cons (look_eq rfl (by rw[hi];simp;omega)) (.nil _))),fun w h=>Sat.aS h ?_⟩;rw[show 0+((i:Int)/8).toNat*1=i/8 by omega,nX _ _ _ ay,iJ,←ho,←hi]
 ·refine aj "W" ?_;have Zp:k=8*aM t-13*t:=ay;have hmm:iJ mo (13*t) k=iq t mo:=by unfold iq;rw[Zp]
  rw[hmm];have am3:(iq t mo).length=q:=by unfold iq;rw[lK,Hf]
  refine aj "hD" ?_;refine aG.ret (H':=Wd.parts b32 ⟨t,d,iq t mo,g1,c1,g2,c2,r1,r2⟩++F) (bI.eY rfl rfl rfl) (fun w h=> ?_) ⟨b32,⟨t,d,iq t mo,g1,c1,g2,c2,r1,r2⟩,⟨ht,by show 1≤d.length∧d.length≤512;omega,by show (iq t mo).length=aM t;omega,Gg,nM hm8 _⟩,rfl,rfl,rfl,⟨aou,by show (iq t mo).length≤c2;omega⟩,rfl,rfl⟩;have h':=h.aY 3 [1,2,0] rfl;dsimp only[Wd.parts,Wd.cells,cons_append,nil_append];rw[hl,am3];exact h'
end
theorem yH{xs:List Nat}{i j x:Nat}:(xs.set i x).getD j 0=if i=j∧j<xs.length then x else xs.getD j 0:=by grind
theorem lW{x s i:Nat}:(x*2^s).testBit i=(decide (s≤i)&&x.testBit (i-s)):=by grind
theorem yO{x i:Nat}(h:i<8):(x%256).testBit i=x.testBit i:=by
 rw[show (256:Nat)=2^8 from rfl,testBit_mod_two_pow];simp[h]
theorem yK{x i:Nat}:(x/256).testBit i=x.testBit (8+i):=by grind
theorem kX{x i:Nat}(hx:x<256)(hi:8≤i):x.testBit i=false:=testBit_lt_two_pow (Nat.lt_of_lt_of_le hx (Nat.pow_le_pow_right (n:=2) aK hi))
theorem kD{xs:List Nat}{k:Nat}(h:8*xs.length≤k):bE xs k=false:=by grind [bE,getD,getElem?_eq_none]
theorem xw{out p:List Nat}{at_:Nat}(ho:aB 256 out)(hp:aB 256 p):∀(j:Nat),j+at_/8<out.length→∀k,bE (mF out p at_ j) k=(bE out k ^^ (decide (at_≤k)&&decide (k-at_<8*j)&&bE p (k-at_)))
 | 0,_,k=>by simp[-getD_eq_getElem?_getD,mF]
 | j+1,hj,k=>by
  have ih:=xw (at_:=at_) ho hp j ay k;have hlen:=nK out p at_ j
  have hpj:=hp.at_ aK j;have hw:∀i,(p.getD j 0*2^(at_%8)).testBit i=(decide (at_%8≤i)&&(p.getD j 0).testBit (i-at_%8)):=fun i=>lW;have ai7:¬255<p.getD j 0*2^(at_%8)→p.getD j 0*2^(at_%8)/256=0:=fun h=>by omega
  have OZ:∀o:List Nat,o=mF out p at_ j→bE (mF out p at_ (j+1)) k=(bE o k ^^ ((decide (k/8=j+at_/8)&&(p.getD j 0*2^(at_%8)).testBit (k%8))||(decide (k/8=j+at_/8+1)&&(p.getD j 0*2^(at_%8)).testBit (8+k%8)))):=by
   intro o hoe;have hk8:k%8<8:=mod_lt _ aK;have J2:o.length=out.length:=by rw[hoe];exact hlen
   rw[mF,←hoe];split
   ·unfold bE;simp only[yH,length_set];by_cases h1:j+at_/8+1=k/8
    ·rw[if_pos ⟨h1,by omega⟩,if_neg ay,testBit_xor,yK];have e1:¬k/8=j+at_/8:=ay
     simp[-getD_eq_getElem?_getD,e1,←h1]
    ·rw[if_neg ay];by_cases h2:j+at_/8=k/8
     ·rw[if_pos ⟨h2,by omega⟩,testBit_xor,yO hk8];have e1:¬k/8=j+at_/8+1:=ay
      simp[-getD_eq_getElem?_getD,e1,←h2]
     ·rw[if_neg ay];have e1:¬k/8=j+at_/8+1:=ay
      have e2:¬k/8=j+at_/8:=ay
      simp[-getD_eq_getElem?_getD,e1,e2]
   ·rename_i hs;unfold bE;rw[yH];have hz:(p.getD j 0*2^(at_%8)).testBit (8+k%8)=false:=by rw[←yK,ai7 hs];exact zero_testBit _
    by_cases h2:j+at_/8=k/8
    ·rw[if_pos ⟨h2,by omega⟩,testBit_xor,yO hk8];simp[-getD_eq_getElem?_getD,hz,←h2]
    ·rw[if_neg ay];have e2:¬k/8=j+at_/8:=ay
     simp[-getD_eq_getElem?_getD,hz,e2]
  rw[OZ _ rfl,ih,Bool.xor_assoc];congr 1;rw[hw,hw];by_cases hka:at_≤k
  ·obtain⟨r,hr⟩:∃r,r=k-at_:=⟨_,rfl⟩
   rw[←hr];by_cases h1:k/8=j+at_/8
   ·have e1:¬k/8=j+at_/8+1:=by omega
    by_cases h2:at_%8≤k%8
    ·have hrj:r/8=j:=by omega
     have Ta:r%8=k%8-at_%8:=ay
     have SL:bE p r=(p.getD j 0).testBit (k%8-at_%8):=by unfold bE;rw[hrj,Ta]
     have e3:¬r<8*j:=ay;have e4:r<8*(j+1):=ay;simp[-getD_eq_getElem?_getD,h1,e1,h2,hka,SL,e3,e4]
    ·have e3:(r<8*j↔r<8*(j+1)):=by omega
     have e5:decide (r<8*(j+1))=decide (r<8*j):=decide_eq_decide.2 e3.symm;simp[-getD_eq_getElem?_getD,h1,e1,h2,hka,e5]
   ·by_cases h3:k/8=j+at_/8+1
    ·have h8:at_%8≤8+k%8:=by omega
     by_cases h4:8+k%8-at_%8<8
     ·have hrj:r/8=j:=by omega
      have Ta:r%8=8+k%8-at_%8:=ay
      have SL:bE p r=(p.getD j 0).testBit (8+k%8-at_%8):=by unfold bE;rw[hrj,Ta]
      have e3:¬r<8*j:=ay;have e4:r<8*(j+1):=ay;simp[-getD_eq_getElem?_getD,h1,h3,h8,hka,SL,e3,e4]
     ·have hz:=kX hpj (i:=8+k%8-at_%8) ay;have e3:¬r<8*j:=ay;have e4:¬r<8*(j+1):=ay;simp[-getD_eq_getElem?_getD,h1,h3,hz,e3,e4]
    ·have e5:decide (r<8*(j+1))=decide (r<8*j):=decide_eq_decide.2 ay;simp[-getD_eq_getElem?_getD,h1,h3,e5]
  ·have e1:(decide (k/8=j+at_/8)&&(decide (at_%8≤k%8)&&(p.getD j 0).testBit (k%8-at_%8)))=false:=by
    by_cases h1:k/8=j+at_/8
    ·have :¬at_%8≤k%8:=by omega
     simp[-getD_eq_getElem?_getD,this]
    ·simp[-getD_eq_getElem?_getD,h1]
   have e2:¬k/8=j+at_/8+1:=ay
   simp[-getD_eq_getElem?_getD,hka,e1,e2]
def U2(q:List Nat)(d:Nat):Prop:=bE q d=true∧∀k,d<k→bE q k=false
theorem DZ{p q:List Nat}{lq d:Nat}(hp:aB 256 p)(hq:aB 256 q)(SN:q.length=lq)(hld:lq=d/8+1)(hd:U2 q d):∀k,k≤8*p.length-d→∀b,8*p.length-k≤b→bE (gV p q lq d k) b=false
 | 0,_,b,hb=>by
  rw[gV];unfold bE;by_cases h:b/8=p.length
  ·have e:(p++[0]).getD (b/8) 0=(0:Nat):=by rw[h];simp[getD]
   rw[e];exact zero_testBit _
  ·have e:(p++[0]).getD (b/8) 0=(0:Nat):=by rw[getD,getElem?_eq_none (by simp;omega)];rfl
   rw[e];exact zero_testBit _
 | k+1,hk,b,hb=>by
  have ih:=DZ hp hq SN hld hd k ay;subst SN;rw[gV];split
  ·rename_i OZ;rw[xw (jw hp hq k) hq _ (by rw[gu];omega)];obtain⟨i,hi⟩:∃i,i=8*p.length-1-k:=⟨_,rfl⟩;rw[←hi] at OZ ⊢;by_cases h1:b=i
   ·subst h1;have e1:b-(b-d)=d:=ay;rw[OZ,e1,hd.1];have e2:b-d≤b:=ay;have e3:d<8*q.length:=ay;simp[e2,e3]
   ·rw[ih b ay,hd.2 (b-(i-d)) ay];simp
  ·rename_i OZ;by_cases h1:b=8*p.length-1-k
   ·subst h1;simpa using OZ
   ·exact ih b ay
theorem MN{p q:List Nat}{lq d:Nat}(hp:aB 256 p)(hq:aB 256 q)(SN:q.length=lq)(hld:lq=d/8+1)(hd:U2 q d){b:Nat}(hb:d≤b):bE (gV p q lq d (8*p.length-d)) b=false:=by
 by_cases h:d≤8*p.length
 ·exact DZ hp hq SN hld hd _ (Nat.le_refl _) b ay
 ·have :=DZ hp hq SN hld hd 0 (zero_le _) b ay
  rwa [show 8*p.length-d=0 by omega]
theorem Cv{xs:List Nat}{b:Nat}(hx:aB 256 xs)(h:∀k,b≤k→bE xs k=false):∀n,aT xs n≤(b+7)/8
 | 0=>zero_le _
 | n+1=>by
  rw[aT];split
  ·exact Cv hx h n
  ·rename_i nk;rcases Nat.lt_or_ge n ((b+7)/8) with h1 | h1
   ·omega
   ·exfalso;apply nk;apply eq_of_testBit_eq;intro i;rw[zero_testBit];by_cases hi:i<8
    ·have :=h (8*n+i) ay;unfold bE at this
     rwa [show (8*n+i)/8=n by omega,show (8*n+i)%8=i by omega] at this
    ·exact kX (hx.at_ aK _) ay
def Sj(t:Nat):Bool:=decide (U1 (fO t) (fO t).length=((13*t:Nat):Int))&&decide (aT (fO t) (fO t).length=13*t/8+1)&&decide ((fO t).length=13*t/8+1)&&bE (fO t) (13*t)&&(List.range (8*(fO t).length)).all (fun k=>decide (k≤13*t)|| !bE (fO t) k)&&(fO t).all (fun x=>decide (x<256))
theorem aer:[1,2,3,4,5,6,7,8].all Sj=true:=by kernel_rfl
theorem uh{t:Nat}(ht:1≤t∧t≤8):U1 (fO t) (fO t).length=((13*t:Nat):Int)∧aT (fO t) (fO t).length=13*t/8+1∧(fO t).length=13*t/8+1∧U2 (fO t) (13*t)∧aB 256 (fO t):=by
 have h:=all_eq_true.1 aer t (by simp only[mem_cons,not_mem_nil,or_false];omega);simp only[Sj,Bool.and_eq_true,decide_eq_true_eq,all_eq_true,mem_range,Bool.or_eq_true,Bool.not_eq_true'] at h;obtain⟨⟨⟨⟨⟨h1,h2⟩,h3⟩,h4⟩,h5⟩,h6⟩:=h;refine⟨h1,h2,h3,⟨h4,fun k hk=> ?_⟩,h6⟩;rcases Nat.lt_or_ge k (8*(fO t).length) with h | h
 ·rcases h5 k h with h' | h'
  ·omega
  ·exact h'
 ·exact kD h
def dV(t:Nat):List Nat:=(replicate (aM t+1) 0).set (13*t/8) (2^(13*t%8))
def jK(t:Nat)(d:List Nat):List Nat:=(jl (dV t) d).take (aT (jl (dV t) d) ((dV t).length+d.length+1))
def xX(t:Nat)(d:List Nat):List Nat:=gV (jK t d) (fO t) (fO t).length (13*t) (8*(jK t d).length-13*t)
def jY(t:Nat)(d:List Nat):Nat:=aT (xX t d) ((jK t d).length+1)
def jg(t:Nat)(d:List Nat):List Nat:=(xX t d).take (jY t d)++replicate (aM t-jY t d) 0
theorem lT(t:Nat):(dV t).length=aM t+1:=by simp[dV]
theorem OP(t:Nat):aB 256 (dV t):=(aB.vg aK).set (G7 (mod_lt _ aK))
theorem o7{t:Nat}{d:List Nat}(h:aB 256 d):aB 256 (jK t d):=aB.take (qH h _)
theorem qD(t:Nat)(d:List Nat):(xX t d).length=(jK t d).length+1:=gu _ _ _ _ _
theorem FQ{t:Nat}{d:List Nat}(ht:1≤t∧t≤8)(h:aB 256 d):aB 256 (xX t d):=jw (o7 h) (uh ht).2.2.2.2 _
theorem IV{t:Nat}{d:List Nat}(ht:1≤t∧t≤8)(h:aB 256 d):jY t d≤aM t∧jY t d≤(jK t d).length+1:=by
 obtain⟨g1,g2,g3,g4,g5⟩:=uh ht;refine⟨Cv (FQ ht h) (fun k hk=>MN (o7 h) g5 rfl g3 g4 hk) _,iy _ _⟩
theorem sS{t:Nat}{d:List Nat}(ht:1≤t∧t≤8)(h:aB 256 d):(jg t d).length=aM t:=by grind [IV,jg,length_append,length_take,length_replicate,qD]
theorem Bb{t:Nat}{d:List Nat}(ht:1≤t∧t≤8)(h:aB 256 d):aB 256 (jg t d):=(aB.take (FQ ht h)).append (aB.vg aK)
section
variable{K:World}{F:List aA}
theorem UH{t:Nat}{A:Option Addr}{m cap:Nat}{d:List Nat}(ht:1≤t∧t≤8)(hd:Seq K F A m 1 (av .u8 d))(Gg:aB 256 d)(uQ:1≤m∧m≤512) :
 aC prog 242 #[.i (t:Int),.slice A m cap] K F
  (fun v H'=>∃A' cap',v= .tuple #[.slice A' (aM t) cap',.i 0]∧H'=bq (.slice A' (aM t) cap') 5 1 (aM t) (av .u8 (jg t d))::F):=by
 have hl:d.length=m:=by simpa [av] using hd.len
 have anF:2≤aM t∧aM t≤13∧13*t/8≤aM t:=by unfold aM;omega
 obtain⟨n,hn⟩:∃n,n=aM t:=⟨_,rfl⟩;obtain⟨g1,g2,g3,g4,g5⟩:=uh ht;have nW:=IV ht Gg;have nu:(jK t d).length=aT (jl (dV t) d) ((dV t).length+d.length+1):=by
  unfold jK jl;have :=iy (lG (dV t) d (8*(dV t).length)) ((dV t).length+d.length+1);rw[length_take,iZ];omega
 have aqT:(jK t d).length≤n+1+m+1:=by rw[nu,lT,hl,←hn];exact iy _ _
 rw[←hn] at anF nW ⊢;refine aC.en func242 ntmps242 ?_;refine aj "am0" ?_;refine WL.t2 call278 rfl rfl (aL.eq (v':= .tuple #[.i (n:Int),.i 0]) (Qy ht uQ) (by rw[hn])) rfl ?_;refine aj "CfsbOZ" ?_;refine WL.c1 call279 rfl (Gr ht) rfl ?_;rintro _ _ ⟨gg,ajX,arH,rfl,hgc,hgf,rfl⟩;have J9:∀ {H:List aA},Seq K (ah gg 5 (av .u8 ajX)::H) (some ⟨gg,0,none⟩) (fO t).length 1 (av .u8 (fO t)):=fun {H}=>Seq.here (by rw[au];omega) (by rw[drop_zero];exact sO (by rw[hgf];exact take_prefix _ _));refine aj "Cj." ?_;refine WL.sK (m:=n+1) underlying34 zo (ak rfl) (ak rfl) ay ay ay rfl rfl rfl (fun VQ=> ?_);refine aj "0~I~7c~I" ?_;refine WL.val (V.aI (v':= .i ((13*t%8:Nat):Int)) (V.Dv (ak rfl) (ak rfl) (fun _=>by omega)) (fun _=>by simp)) rfl ?_;refine WL.val (V.aI (v':= .int .u8 ((2^(13*t%8):Nat):Int)) (V.shl (ak rfl) (ak rfl) ay) (fun _=>by rw[JV ay])) rfl ?_;refine aj "~v" ?_;refine WL.store (cs:=[_]) sizeOf5 (ak rfl) (ak rfl) rfl rfl rfl (dw.at_ (by rw[length_replicate];omega)) ?_;have hsh:(replicate (n+1) (Value.int .u8 0)).set (0+(13*(t:Int)/8).toNat*1) (.int .u8 ((2^(13*t%8):Nat):Int))=av .u8 (dV t):=by
  unfold dV;rw[←kr,d9,←hn,show 0+(13*(t:Int)/8).toNat*1=13*t/8 by omega];rfl
 rw[hsh];refine aj "bec" ?_;refine WL.c2 call281 rfl rfl (LV (ps:=dV t) (qs:=d) (Seq.Gq (by rw[lT,hn])) hd.up.up (OP t) Gg (by rw[lT,hl,←hn];omega)) rfl ?_;rintro _ _ ⟨gp,rfl,rfl⟩;have rP:∀ {H:List aA},Seq K (ah gp 5 (av .u8 (jl (dV t) d))::H) (some ⟨gp,0,none⟩) (aT (jl (dV t) d) ((dV t).length+d.length+1)) 1 (av .u8 (jK t d)):=fun {H}=>Seq.here (by rw[au,nu];omega) (by rw[drop_zero];exact sO (take_prefix _ _));refine WL.mv rfl rfl ?_;refine WL.c2 call280 rfl rfl (YK (ps:=jK t d) (qs:=fO t) (d:=13*t) rP (by repeat (first | exact J9 | apply Seq.up)) (o7 Gg) g5 hgc (by rw[g3];omega) g1 (by rw[g2,take_of_length_le ay,←g3];exact g1) (by rw[g2])) rfl ?_;rintro _ _ ⟨gr,rfl,rfl⟩;have SF:gV (jK t d) ((fO t).take (aT (fO t) (fO t).length)) (aT (fO t) (fO t).length) (13*t) (8*aT (jl (dV t) d) ((dV t).length+d.length+1)-13*t)=xX t d:=by
  unfold xX;rw[g2,take_of_length_le ay,←nu,g3]
 rw[SF];have Zx:aT (xX t d) (aT (jl (dV t) d) ((dV t).length+d.length+1)+1)=jY t d:=by unfold jY;rw[nu]
 rw[Zx,←nu];refine aj "Cjzo(" ?_;refine WL.sub (Sub.refl _) (fun w h=>Sat.Nq (m:=jY t d) (cap:=(jK t d).length+1) (s:=1) h (by rw[au,qD,Nat.mul_one]) nW.2 (by simp only[maxLen];omega)) ?_;refine WL.GR (m:=jY t d) (q:=n-jY t d) underlying34 underlying3 zo rfl rfl (ak rfl) (ak rfl) ay ay ay rfl (fun A' c' ZP hc'=> ?_);refine aj "D" ?_;have he:(av .u8 (xX t d)).take (jY t d*1)++replicate (n-jY t d) (.int .u8 0)=av .u8 (jg t d):=by
  unfold jg;rw[dA,Nat.mul_one,dR,←hn,d9];rfl
 have hnn:jY t d+(n-jY t d)=n:=ay;refine aG.ret (H':=bq (.slice A' n c') 5 1 n (av .u8 (jg t d))::F) (bI.eY rfl (look_eq rfl (by rw[hnn])) rfl) (fun w h=> ?_) ⟨A',c',rfl,rfl⟩;have h':=h.aY 4 [0] rfl;rw[he,hnn] at h';exact h'
end
theorem Tg{A:Option Addr}{m cap:Nat}{xs:List Int}{K:World}{F:List aA}(hs:Seq K F A m 1 (ints .i64 xs))(hm:m≤1000000) :
 aC prog 103 #[.slice A m cap] K F (fun v H'=>∃A' cap',v= .slice A' m cap'∧H'=bq (.slice A' m cap') 3 1 m (ints .i64 xs)::F):=by
 have hl:xs.length=m:=by simpa [ints] using hs.len
 refine aC.nQ (p:=A=none→xs=[]) (fun w hw hA=>by subst hA;simpa [ints] using hs.RN hw) (fun SE=> ?_);refine aC.en func103 ntmps103 ?_;refine aj "af" ?_;refine WL.val (V.abH underlying124 (ak rfl)) rfl ?_;refine aj "k" (aX (fun aN=> ?_) fun aN=> ?_)
 ·have hA:A=none:=by cases A<;>simp at aN ⊢
  subst hA;have hx:=SE rfl;subst hx;obtain rfl:m=0:=hl.symm;refine aj "I" ?_;exact qR (bq (.slice none 0 0) _ 1 0 []::F) rfl rfl (fun w h=>Sat.iG h _ _) ⟨none,0,rfl,rfl⟩
 ·refine aj "ia" ?_;refine WL.buildSlice (E:=3) (cs:=[]) (vs:=[]) trivial rfl (aaY ) rfl (fun b5=> ?_);refine WL.mv rfl rfl ?_;refine WL.sub (Sub.refl _) (fun w h=>Sat.Nq (m:=0) (cap:=0) (s:=1) h rfl (Nat.le_refl _) (zero_le _)) ?_;refine WL.append (m:=0) (cs:=[]) underlying124 Td (ak rfl) (ak rfl) (by repeat (first | exact hs | apply Seq.up)) (yM _ _) ay rfl rfl (fun A' c' ZP hc'=> ?_);refine aj "d" ?_;refine aG.ret (H':=bq (.slice A' m c') _ 1 m (ints .i64 xs)::F) (bI.tmp rfl (look_eq rfl (by simp))) (fun w h=> ?_) ⟨A',c',rfl,rfl⟩
  simpa using h
theorem EW{A:Option Addr}{m cap:Nat}{xs:List Int}{fid:FuncId}{KM:List Value}{p:Int→Bool}{K:World}{F:List aA}(hs:Seq K F A m 1 (ints .i64 xs))(hm:m≤maxLen)(Kk:bT prog fid)
 (hf:∀x∈xs,aL prog fid ([Value.int .i64 x]++KM).toArray K F (.bool (p x))) :
 aC prog 188 #[.slice A m cap,.func (.func fid) #[] KM.toArray] K F
  (fun v H'=>H'=F∧((v= .i (-1)∧∀x∈xs,p x=false)∨∃i:Nat,i<m∧v= .i (i:Int)∧(∀x∈xs.take i,p x=false)∧p (xs.getD i 0)=true)):=by
 have hl:xs.length=m:=by simpa [ints] using hs.len
 have wQ:m≤9223372036854775807:=by simp only[maxLen] at hm;omega
 refine aC.en func188 ntmps188 ?_;refine aj "afoP" ?_;refine WC.loop (σ:=Nat) (fun i=>[(0,.slice A m cap),(1,.func (.func fid) #[] KM.toArray),(7,.i (m:Int)),(8,.i (i:Int))]) (fun i=>F) (fun i=>i≤m∧∀x∈xs.take i,p x=false) (fun i=>m-i) 0 ⟨zero_le _,fun x hx=>by simp at hx⟩ bM cu ?_;rintro i ⟨hi,hp⟩;refine aj "UX" (aX (fun aN=> ?_) fun aN=> ?_)
 ·refine aj "1jz" ?_;refine WL.val (V.eD fZ (ak rfl) (ak rfl) (fun hc=>by omega) (fun hc=>Seq.jk hs ay)) rfl ?_;refine WL.val (V.load isAgg3 (ak rfl) (fun hc=>Seq.jk hs ay)) rfl ?_;have Pn:(i:Int).toNat=i:=ay;have K6:xs.getD i 0=xs[i]'ay:=by simp[getD,show i<xs.length by omega]
  refine WL.nC (first:=[]) (vs:=[_]) (captured:=KM) Kk (ak rfl) ⟨ak rfl,trivial⟩ (hf (xs.getD i 0) (by rw[K6];exact getElem_mem _)) rfl ?_;rintro _ H0 ⟨rfl,h0⟩;subst H0;refine aj "k" (aX (fun aR=> ?_) fun aR=> ?_)
  ·have h1:=aR;refine aj "ed" ?_;refine qR F rfl rfl cu ⟨rfl,.inr ⟨i,by omega,rfl,hp,h1⟩⟩
  ·have h1:=aR;refine aj "i6" ?_;refine⟨i+1,⟨by show i+1≤m;omega,fun x hx=> ?_⟩,(by show m-(i+1)<m-i;omega),.cons rfl bM,fun w h=>h⟩;rw[take_add_one,getElem?_eq_getElem ay,←K6] at hx;rcases mem_append.1 hx with hx | hx
   ·exact hp x hx
   ·simp at hx;subst hx;exact h1
 ·refine aj "RI" ?_;obtain rfl:i=m:=by omega
  refine qR F rfl rfl cu ⟨rfl,.inl ⟨rfl,fun x hx=>hp x (by rw[take_of_length_le ay];exact hx)⟩⟩
theorem filter_all{p:Int→Bool}{xs:List Int}(h:∀x∈xs,p x=false):xs.filter (fun x=> !p x)=xs:=by grind [filter_eq_self]
theorem UY{A:Option Addr}{m cap:Nat}{xs:List Int}{fid:FuncId}{KM:List Value}{p:Int→Bool}{K:World}{F:List aA}(Kk:bT prog fid)
 (hf:∀x∈xs,∀X,aL prog fid ([Value.int .i64 x]++KM).toArray K (X::F) (.bool (p x))) :
 aC prog 120 #[.slice A m cap,.func (.func fid) #[] KM.toArray] K (bq (.slice A m cap) 3 1 m (ints .i64 xs)::F)
  (fun v H'=>∃q,q=(xs.filter fun x=> !p x).length∧v= .slice A q cap∧H'=bq (.slice A q cap) 3 1 q (ints .i64 (xs.filter fun x=> !p x))::F):=by
 refine aC.nQ (p:=xs.length=m) (fun w hw=>by have :=bq.len hw;rwa [bY,Nat.mul_one] at this) (fun hl=> ?_);cases A with
 | none =>
  refine aC.nQ (p:=m=0∧cap=0∧xs=[]) (fun w hw=>by have :=bq.F7 hw;simpa [ints] using this) (fun ⟨e1,e2,e3⟩=> ?_);subst e1 e2 e3;refine aC.en func120 ntmps120 ?_;refine aj "a0" ?_;refine WL.c2 call188 rfl rfl (EW (xs:=[]) (p:=p) Seq.agw (zero_le _) Kk (fun x hx=>by simp at hx)) rfl ?_;rintro _ _ ⟨rfl,⟨rfl,_⟩ | ⟨i,hi,_⟩⟩
  rotate_left
  ·exact absurd hi ay
  refine aj "f%b2ed" ?_;exact qR (bq (.slice none 0 0) _ 1 0 []::F) rfl rfl cu ⟨0,rfl,rfl,rfl⟩
 | some a =>
  refine aC.nQ (p:=∃g,a=⟨g,0,none⟩) (fun w hw=>bq.addr hw) (fun ⟨g,e1⟩=> ?_);subst e1;refine aC.ex (fun w hw=>Sat.rY hw) (fun rs ⟨DX,_,ET,KX⟩=> ?_);have wQ:m≤maxLen:=ay;have nO:cap≤9223372036854775807:=by simp only[maxLen] at KX;omega
  have nW:rs.length=cap-m:=by rw[length_append,bY] at DX;omega
  have Xg:∀(ys:List Int) (cs:List Value) (w:World),cs.length=cap→ys.length≤cap→cs.take ys.length=ints .i64 ys→Sat K w (ah g 3 cs::F)→Sat K w (bq (.slice (some ⟨g,0,none⟩) ys.length cap) 3 1 ys.length (ints .i64 ys)::F):=fun ys cs w h1 h2 h3 h=>by
   have :=Sat.Nq (s:=1) h (by rw[h1,Nat.mul_one]) h2 KX;rw[Nat.mul_one,h3] at this;exact this
  have hSq:Seq K (ah g 3 (ints .i64 xs++rs)::F) (some ⟨g,0,none⟩) m 1 (ints .i64 xs):=Seq.here (by rw[bY];omega) (prefix_append _ _);by_cases rO:∀x∈xs,p x=false
  ·skip
   refine aC.en func120 ntmps120 ?_;refine aj "a0" ?_;refine WL.c2 call188 rfl rfl (EW (xs:=xs) (p:=p) hSq wQ Kk (fun x hx=>hf x hx _)) rfl ?_;rintro _ _ ⟨rfl,⟨rfl,_⟩ | ⟨i0,OX,rfl,alD,Zo⟩⟩
   rotate_left
   ·exfalso;have :xs.getD i0 0=xs[i0]'ay:=by simp[getD,show i0<xs.length by omega]
    rw[this,rO _ (getElem_mem _)] at Zo;cases Zo
   refine aj "f%b2ed" ?_;refine qR (bq (.slice (some ⟨g,0,none⟩) xs.length cap) _ 1 xs.length (ints .i64 xs)::F) rfl rfl (fun w h=>Xg xs _ w ay ay (by rw[take_left' (bY _ _)]) h) ⟨xs.length,by rw[filter_all rO],by rw[hl],by rw[filter_all rO]⟩
  ·skip
   refine aC.en func120 ntmps120 ?_;refine aj "a0" ?_;refine WL.c2 call188 rfl rfl (EW (xs:=xs) (p:=p) hSq wQ Kk (fun x hx=>hf x hx _)) rfl ?_;rintro _ _ ⟨rfl,⟨rfl,Ce⟩ | ⟨i0,OX,rfl,alD,Zo⟩⟩
   ·exact absurd Ce rO
   have akl:i0<xs.length:=ay;refine aj "f%b" ?_;refine WC.jq rfl ((by simp)) ?_;refine aj "ir.gu" ?_;refine WC.loop (σ:=Nat×Nat×List Value) (fun x=>[(0,.slice (some ⟨g,0,none⟩) m cap),(1,.func (.func fid) #[] KM.toArray),(5,.i (x.1:Int)),(6,.i (x.2.1:Int))]) (fun x=>ah g 3 x.2.2::F) (fun x=>x.1<x.2.1∧x.2.1≤m∧x.2.2.length=cap∧x.1=((xs.take x.2.1).filter fun y=> !p y).length∧x.2.2.take x.1=ints .i64 ((xs.take x.2.1).filter fun y=> !p y)∧x.2.2.drop x.2.1=(ints .i64 xs++rs).drop x.2.1) (fun x=>m-x.2.1) (i0,i0+1,ints .i64 xs++rs) ?_ bM cu ?_
   ·have e1:(xs.take (i0+1)).filter (fun y=> !p y)=xs.take i0:=by
     rw[take_add_one,getElem?_eq_getElem akl,filter_append,filter_all alD];have :p xs[i0]=true:=by simpa [getD,akl] using Zo
     simp[this]
    refine⟨by show i0<i0+1;omega,by show i0+1≤m;omega,by rw[DX];omega, ?_, ?_,rfl⟩
    ·show i0=((xs.take (i0+1)).filter fun y=> !p y).length;rw[e1,length_take];omega
    ·show (ints .i64 xs++rs).take i0=ints .i64 ((xs.take (i0+1)).filter fun y=> !p y);rw[e1,take_append_of_le_length (by rw[bY];omega),Mx]
   rintro⟨i,j,cs⟩ ⟨Xj,hjm,acW,hi,AP,Gd⟩;dsimp only at Xj hjm acW hi AP Gd ⊢;refine aj "rco5bX" (aX (fun aR=> ?_) fun aR=> ?_)
   ·refine aj "HN" ?_;have arA:j<m:=ay;have hgj:cs[0+(j:Int).toNat*1]? =some (.i (xs.getD j 0)):=by
     have e1:=congrArg (·[0]?) Gd;simp only[getElem?_drop,Nat.add_zero] at e1;rw[show 0+(j:Int).toNat*1=j by omega,e1,getElem?_append_left (by rw[bY];omega),uI _ _ ay]
    have hgx:xs.getD j 0=xs[j]'ay:=by simp[getD,show j<xs.length by omega]
    have htj:xs.take (j+1)=xs.take j++[xs.getD j 0]:=by rw[take_add_one,getElem?_eq_getElem ay,hgx];rfl
    refine aj "Q~v" ?_;refine WL.val (V.load isAgg3 (ak rfl) (fun _=>Rd.here hgj)) rfl ?_;refine aj "0" ?_;refine WL.nC (first:=[]) (vs:=[_]) (captured:=KM) Kk (ak rfl) ⟨ak rfl,trivial⟩ (hf (xs.getD j 0) (by rw[hgx];exact getElem_mem _) _) rfl ?_;rintro _ H0 ⟨rfl,h0⟩;subst H0;refine aj "*k" (aX (fun bB=> ?_) fun bB=> ?_)
    ·simp only[Bool.not_eq_true',Bool.not_eq_false'] at bB;have h2:=bB;have dJ:[xs.getD j 0].filter (fun y=> !p y)=[xs.getD j 0]:=by rw[filter_cons_of_pos (by rw[h2];rfl)];rfl
     refine aj "ez~v" ?_;refine WL.store (cs:=[_]) sizeOf3 (ak rfl) (ak rfl) rfl rfl rfl (dw.at_ ay) ?_;refine aj "bh.gh.4" ?_;first
     | (
      refine⟨(i,j+1,cs),⟨by show i<j+1;omega,by show j+1≤m;omega,acW, ?_, ?_, ?_⟩,(by show m-(j+1)<m-j;omega),.cons rfl (.cons rfl (.cons rfl (.cons (look_eq rfl (by simp)) (.nil _)))),fun w h=>h⟩
      ·show i=((xs.take (j+1)).filter fun y=> !p y).length;rw[htj,filter_append,hse,length_append,←hi];rfl
      ·show cs.take i=ints .i64 ((xs.take (j+1)).filter fun y=> !p y);rw[htj,filter_append,hse,append_nil,AP]
      ·have :=congrArg (List.drop 1) Gd
       rwa [drop_drop,drop_drop] at this)
     | (
      have Cg:=dJ;refine⟨(i+1,j+1,cs.set (0+(i:Int).toNat*1) (.i (xs.getD j 0))),⟨by show i+1<j+1;omega,by show j+1≤m;omega,by rw[length_set];exact acW, ?_, ?_, ?_⟩,(by show m-(j+1)<m-j;omega),.cons rfl (.cons rfl (.cons (look_eq rfl (by simp)) (.cons (look_eq rfl (by simp)) (.nil _)))),fun w h=>h⟩
      ·show i+1=((xs.take (j+1)).filter fun y=> !p y).length;rw[htj,filter_append,Cg,length_append,←hi];rfl
      ·show (cs.set (0+(i:Int).toNat*1) (.i (xs.getD j 0))).take (i+1)=ints .i64 ((xs.take (j+1)).filter fun y=> !p y);rw[htj,filter_append,Cg,eP,←AP,show 0+(i:Int).toNat*1=i by omega,take_add_one,getElem?_set_self ay,take_set_of_le ay];rfl
      ·show (cs.set (0+(i:Int).toNat*1) (.i (xs.getD j 0))).drop (j+1)=(ints .i64 xs++rs).drop (j+1);rw[show 0+(i:Int).toNat*1=i by omega,drop_set_of_lt ay];have :=congrArg (List.drop 1) Gd
       rwa [drop_drop,drop_drop] at this)
    ·simp only[Bool.not_eq_true',Bool.not_eq_false'] at bB;have h2:=bB;have hse:[xs.getD j 0].filter (fun y=> !p y)=[]:=by rw[filter_cons_of_neg (by rw[h2];decide)];rfl
     refine aj "ih.4" ?_;first
     | (
      refine⟨(i,j+1,cs),⟨by show i<j+1;omega,by show j+1≤m;omega,acW, ?_, ?_, ?_⟩,(by show m-(j+1)<m-j;omega),.cons rfl (.cons rfl (.cons rfl (.cons (look_eq rfl (by simp)) (.nil _)))),fun w h=>h⟩
      ·show i=((xs.take (j+1)).filter fun y=> !p y).length;rw[htj,filter_append,hse,length_append,←hi];rfl
      ·show cs.take i=ints .i64 ((xs.take (j+1)).filter fun y=> !p y);rw[htj,filter_append,hse,append_nil,AP]
      ·have :=congrArg (List.drop 1) Gd
       rwa [drop_drop,drop_drop] at this)
     | (
      have Cg:=dJ;refine⟨(i+1,j+1,cs.set (0+(i:Int).toNat*1) (.i (xs.getD j 0))),⟨by show i+1<j+1;omega,by show j+1≤m;omega,by rw[length_set];exact acW, ?_, ?_, ?_⟩,(by show m-(j+1)<m-j;omega),.cons rfl (.cons rfl (.cons (look_eq rfl (by simp)) (.cons (look_eq rfl (by simp)) (.nil _)))),fun w h=>h⟩
      ·show i+1=((xs.take (j+1)).filter fun y=> !p y).length;rw[htj,filter_append,Cg,length_append,←hi];rfl
      ·show (cs.set (0+(i:Int).toNat*1) (.i (xs.getD j 0))).take (i+1)=ints .i64 ((xs.take (j+1)).filter fun y=> !p y);rw[htj,filter_append,Cg,eP,←AP,show 0+(i:Int).toNat*1=i by omega,take_add_one,getElem?_set_self ay,take_set_of_le ay];rfl
      ·show (cs.set (0+(i:Int).toNat*1) (.i (xs.getD j 0))).drop (j+1)=(ints .i64 xs++rs).drop (j+1);rw[show 0+(i:Int).toNat*1=i by omega,drop_set_of_lt ay];have :=congrArg (List.drop 1) Gd
       rwa [drop_drop,drop_drop] at this)
   ·refine aj "Rec" ?_;have hje:j=m:=ay;subst hje;refine WL.val (V.slice (l:=i) (h:=j) (u:=cap) fZ (ak rfl) (OO.some (ak rfl) (fun _=>rfl)) OO.none OO.none (by simp) ay ay (Nat.le_refl _)) rfl ?_;refine WL.ahH (b:=g) (o:=i) underlying124 zeroValue3 rfl rfl (ak rfl) (fun hq=>by rw[if_neg ay];simp[jR]) (dw.row (by rw[length_replicate];omega)) ?_;refine aj "bec" ?_;refine WL.val (V.slice (l:=0) (h:=i) (u:=cap) fZ (ak rfl) OO.none (OO.some (ak rfl) (fun _=>rfl)) OO.none (by simp) ay ay (Nat.le_refl _)) rfl ?_;refine aj "d" ?_;rw[take_of_length_le (Nat.le_of_eq hl)] at hi AP;refine aG.ret (H':=bq (.slice (some ⟨g,0,none⟩) i cap) _ 1 i (ints .i64 (xs.filter fun y=> !p y))::F) (bI.tmp rfl (look_eq rfl (by simp[Addr.add]))) (fun w h=> ?_) ⟨i,hi,rfl,rfl⟩;have hlen:(cs.take i++replicate (j-i) (Value.int .i64 0)++cs.drop (i+(replicate (j-i) (Value.int .i64 0)).length)).length=cap:=by
     simp only[length_append,length_take,length_replicate,length_drop];omega
    have :=Xg (xs.filter fun y=> !p y) _ w hlen ay (by rw[←hi,append_assoc,take_left' (by rw[length_take];omega),AP]) h;rw[←hi] at this;exact this
structure BM where
 c:List Nat
 b:List Nat
 (length shift last:Nat)
def yC(s c:List Nat)(n:Nat):Nat→Nat
 | 0=>s.getD n 0
 | k+1=>yC s c n k ^^^ bA (c.getD (k+1) 0) (s.getD (n-(k+1)) 0)
def oQ(c b:List Nat)(Kg shift:Nat):Nat→List Nat
 | 0=>c
 | k+1=>(oQ c b Kg shift k).set (k+shift) ((oQ c b Kg shift k).getD (k+shift) 0 ^^^ bA Kg (b.getD k 0))
def Kh(s:List Nat)(n:Nat)(x:BM):Nat:=yC s x.c n (min x.length (x.c.length-1))
def o8(x:BM):List Nat:=x.c++replicate (x.b.length+x.shift-x.c.length) 0
def Ph(x:BM)(d:Nat):List Nat:=oQ (o8 x) x.b (bA d (OH x.last)) x.shift x.b.length
def w9(s:List Nat)(n:Nat)(x:BM):BM :=
 if Kh s n x=0 then { x with shift:=x.shift+1 }
 else if 2*x.length≤n then ⟨Ph x (Kh s n x),x.c,n+1-x.length,1,Kh s n x⟩
 else ⟨Ph x (Kh s n x),x.b,x.length,x.shift+1,x.last⟩
def jV(s:List Nat):Nat→BM
 | 0=>⟨[1],[1],0,1,1⟩
 | n+1=>w9 s n (jV s n)
structure BM.Ok(n:Nat)(x:BM):Prop where
 c1:1≤x.c.length
 c2:x.c.length≤n+1
 b2:x.b.length+x.shift≤n+2
 l:x.length≤n
 cs:aB 8192 x.c
 bs:aB 8192 x.b
 la:x.last<8192
 l0:x.last≠0
theorem xM{s c:List Nat}{n:Nat}(hs:aB 8192 s)(hc:aB 8192 c):∀k,yC s c n k<8192
 | 0=>hs.at_ aK _
 | k+1=>fA (k:=13) (xM hs hc k) (bD (hc.at_ aK _))
theorem qp(c b:List Nat)(y sh:Nat):∀k,(oQ c b y sh k).length=c.length
 | 0=>rfl
 | k+1=>by rw[oQ,length_set,qp]
theorem sP{c b:List Nat}{y sh:Nat}(hc:aB 8192 c)(hy:y<8192):∀k,aB 8192 (oQ c b y sh k)
 | 0=>hc
 | k+1=>(sP hc hy k).set (fA (k:=13) ((sP hc hy k).at_ aK _) (bD hy))
theorem wz(x:BM):(o8 x).length=x.c.length+(x.b.length+x.shift-x.c.length):=by simp[o8]
theorem IZ(x:BM)(d:Nat):(Ph x d).length=(o8 x).length:=qp _ _ _ _ _
theorem LC{s:List Nat}{n:Nat}{x:BM}(hs:aB 8192 s)(h:x.Ok n):(w9 s n x).Ok (n+1):=by
 have hd:Kh s n x<8192:=xM hs h.cs _;have h1:=h.c1;have h2:=h.c2;have h3:=h.b2;have h4:=h.l;have hel:=wz x;have Kk:=IZ x (Kh s n x);have pY:aB 8192 (Ph x (Kh s n x)):=sP (h.cs.append (aB.vg aK)) (bD hd) _;unfold w9;split
 ·exact⟨h.c1,by show x.c.length≤n+1+1;omega,by show x.b.length+(x.shift+1)≤n+1+2;omega,by show x.length≤n+1;omega,h.cs,h.bs,h.la,h.l0⟩
 ·rename_i h0;split
  ·exact⟨by show 1≤(Ph x _).length;omega,by show (Ph x _).length≤n+1+1;omega,by show x.c.length+1≤n+1+2;omega,by show n+1-x.length≤n+1;omega,pY,h.cs,hd,h0⟩
  ·exact⟨by show 1≤(Ph x _).length;omega,by show (Ph x _).length≤n+1+1;omega,by show x.b.length+(x.shift+1)≤n+1+2;omega,by show x.length≤n+1;omega,pY,h.bs,h.la,h.l0⟩
theorem CB{s:List Nat}(hs:aB 8192 s):∀n,(jV s n).Ok n
 | 0=>⟨Nat.le_refl 1,Nat.le_refl 1,Nat.le_refl 2,Nat.le_refl 0,fun y hy=>by rw[mem_singleton.1 hy];decide,fun y hy=>by rw[mem_singleton.1 hy];decide,(by decide:1<8192),(by decide:1≠0)⟩
 | n+1=>LC hs (CB hs n)
def uD(s:List Nat):List Nat:=(jV s s.length).c
def wN(s:List Nat):Nat:=aT (uD s) (uD s).length
section
variable{K:World}{F:List aA}
theorem EY{A:Option Addr}{m cap:Nat}{xs:List Nat}(hs:Seq K F A m 1 (av .i64 xs))(hm:m≤1000000) :
 aC prog 103 #[.slice A m cap] K F (fun v H'=>∃A' cap',v= .slice A' m cap'∧H'=bq (.slice A' m cap') 3 1 m (av .i64 xs)::F):=by
 rw[EA] at hs ⊢;exact Tg hs hm
structure LSt where
 n:Nat
 (gc gb cc cb:Nat)
 rc:List Value
 rb:List Value
theorem QN{A:Option Addr}{m cap:Nat}{s:List Nat}(hs:Seq K F A m 1 (av .i64 s))(hs8:aB 8192 s)(hm:m≤64) :
 aC prog 284 #[.slice A m cap] K F
  (fun v H'=>∃g cap' r,v= .slice (some ⟨g,0,none⟩) (wN s) cap'∧H'=ah g 3 (av .i64 (uD s)++r)::F):=by
 have hl:s.length=m:=by simpa [av] using hs.len
 refine aC.en func284 ntmps284 ?_;refine aj "ax" ?_;refine WL.buildSlice (E:=3) (cs:=[_]) (vs:=[(0,_)]) ⟨ak rfl,trivial⟩ rfl (eO _) rfl (fun b17=> ?_);refine WL.buildSlice (E:=3) (cs:=[_]) (vs:=[(0,_)]) ⟨ak rfl,trivial⟩ rfl (eO _) rfl (fun b18=> ?_);refine aj "mxmmfoP" ?_;refine WC.loop (σ:=LSt) (fun x=>[(0,.slice A m cap),(3,.slice (some ⟨x.gc,0,none⟩) (jV s x.n).c.length x.cc),(4,.slice (some ⟨x.gb,0,none⟩) (jV s x.n).b.length x.cb),(5,.i ((jV s x.n).length:Nat)),(6,.i ((jV s x.n).shift:Nat)),(7,.i ((jV s x.n).last:Nat)),(20,.i (m:Int)),(21,.i (x.n:Int))]) (fun x=>ah x.gc 3 (av .i64 (jV s x.n).c++x.rc)::ah x.gb 3 (av .i64 (jV s x.n).b++x.rb)::F) (fun x=>x.n≤m∧(jV s x.n).c.length≤x.cc∧(jV s x.n).b.length≤x.cb) (fun x=>m-x.n) ⟨0,b17,b18,1,1,[],[]⟩ ⟨zero_le _,Nat.le_refl _,Nat.le_refl _⟩ bM (fun w h=>h.aY 2 [1,0] rfl) ?_;rintro⟨n,gc,gb,cc,cb,rc,rb⟩ ⟨hn,Cc,BX⟩;dsimp only at hn Cc BX ⊢;obtain⟨x,hx⟩:∃x,x=jV s n:=⟨_,rfl⟩;have Hu:x.Ok n:=by rw[hx];exact CB hs8 n
 have dP:jV s (n+1)=w9 s n x:=by rw[jV,←hx]
 rw[←hx] at Cc BX ⊢;obtain⟨xc1,xc2,xb2,xl,xcs,xbs,xla,xl0⟩:=Hu;refine aj "UX" (aX (fun aN=> ?_) fun aN=> ?_)
 ·refine aj "1t" ?_;have hnm:n<m:=ay;have hsu:∀ {X Y:aA},Seq K (X::Y::F) A m 1 (av .i64 s):=fun {X Y}=>hs.up.up;have Zl:∀ {X Y:aA},Rd K (X::Y::F) (A.map (·.add ((n:Int).toNat*1))) (.i (s.getD n 0:Nat)):=fun {X Y}=>by
   rw[show (n:Int).toNat=n by omega];exact hsu.jv ay
  refine aj "Q" ?_;refine WL.val (V.eD fZ (ak rfl) (ak rfl) (fun hc=>by omega) (fun hc=>Zl)) rfl ?_;refine WL.val (V.load isAgg3 (ak rfl) (fun hc=>Zl)) rfl ?_;refine aj "tagu" ?_;refine WC.loop (σ:=Nat) (fun k=>[(0,.slice A m cap),(3,.slice (some ⟨gc,0,none⟩) x.c.length cc),(4,.slice (some ⟨gb,0,none⟩) x.b.length cb),(5,.i (x.length:Nat)),(6,.i (x.shift:Nat)),(7,.i (x.last:Nat)),(20,.i (m:Int)),(21,.i (n:Int)),(8,.i (n:Int)),(9,.i (yC s x.c n k:Nat)),(10,.i ((k:Int)+1))]) (fun k=>ah gc 3 (av .i64 x.c++rc)::ah gb 3 (av .i64 x.b++rb)::F) (fun k=>k≤min x.length (x.c.length-1)) (fun k=>min x.length (x.c.length-1)-k) 0 (zero_le _) bM cu ?_;rintro k hk;refine aj "rc~.c88~~e~~CVk" (aX (fun aR=> ?_) fun aR=> ?_)
  ·simp only[He] at aR;have h0:=aR;refine aj "H" ?_;have wR:k+1≤x.length∧k+1<x.c.length:=ay;have hgc:(av .i64 x.c++rc)[0+((k:Int)+1).toNat*1]? =some (.i (x.c.getD (k+1) 0:Nat)):=by rw[show 0+((k:Int)+1).toNat*1=k+1 by omega];exact mD _ _ _ ay
   have aj7:∀ {X Y:aA},Rd K (X::Y::F) (A.map (·.add (((n:Int)-((k:Int)+1)).toNat*1))) (.i (s.getD (n-(k+1)) 0:Nat)):=fun {X Y}=>by
    rw[show ((n:Int)-((k:Int)+1)).toNat=n-(k+1) by omega];exact hsu.jv ay
   have Kk:=xcs.at_ aK (k+1);have rQ:=hs8.at_ aK (n-(k+1));refine aj "~k+++" ?_;refine WQ.val (V.Gs fZ (ak rfl) (ak rfl) (fun hc=>by omega)) rfl ?_;refine WQ.val (V.load isAgg3 (ak rfl) (fun hc=>Rd.here hgc)) rfl ?_;refine aj "+++~~@" ?_;refine WQ.val (V.eD fZ (ak rfl) (ak rfl) (fun hc=>by omega) (fun hc=>aj7)) rfl ?_;refine WQ.val (V.load isAgg3 (ak rfl) (fun hc=>aj7)) rfl ?_;refine WQ.call (vs:=[_,_]) call288 ⟨ak rfl,ak rfl,trivial⟩ (zJ Kk rQ) rfl ?_;refine WQ.val (V.aI (v':= .i (yC s x.c n (k+1):Nat)) (V.xor (ak rfl) (ak rfl)) (fun _=>by rw[nN (by have :=xM hs8 xcs (n:=n) k;omega) (by have :=bD (b:=s.getD (n-(k+1)) 0) Kk;omega),yC])) rfl ?_;refine aj "~m~gh.4" ?_;exact⟨k+1,(by show k+1≤min x.length (x.c.length-1);omega),(by show min x.length (x.c.length-1)-(k+1)<min x.length (x.c.length-1)-k;omega),.cons rfl bM,fun w h=>h⟩
  ·simp only[He] at aR;have h0:=aR;refine aj "WN" ?_;have Zp:k=min x.length (x.c.length-1):=by
    rcases h0 with h | h<;>omega
   have hD:yC s x.c n k=Kh s n x:=by rw[Zp];rfl
   obtain⟨d,hd⟩:∃d,d=Kh s n x:=⟨_,rfl⟩;rw[hD,←hd];have Gg:d<8192:=by rw[hd];exact xM hs8 xcs _
   unfold w9 at dP;rw[←hd] at dP;refine aj "h%bX" (aX (fun bB=> ?_) fun bB=> ?_)
   ·have h2:=bB;rw[if_pos ay] at dP;refine aj "e.gR6" ?_;first
    | exact⟨⟨n+1,gc,gb,cc,cb,rc,rb⟩,⟨by show n+1≤m;omega,by show (jV s (n+1)).c.length≤cc;rw[dP];exact Cc,by show (jV s (n+1)).b.length≤cb;rw[dP];exact BX⟩,(by show m-(n+1)<m-n;omega),.cons rfl (.cons (look_eq rfl (by rw[dP])) (.cons (look_eq rfl (by rw[dP])) (.cons (look_eq rfl (by rw[dP])) (.cons (look_eq rfl (by rw[dP];simp)) (.cons (look_eq rfl (by rw[dP])) (.cons rfl (.cons (look_eq rfl (by simp)) (.nil _)))))))),fun w h=>by dsimp only;rw[dP];exact h⟩
    | exact⟨⟨n+1,g3,go,c3,c1,r3,ro⟩,⟨by show n+1≤m;omega,by show (jV s (n+1)).c.length≤c3;rw[dP];exact Uk,by show (jV s (n+1)).b.length≤c1;rw[dP];exact hco⟩,(by show m-(n+1)<m-n;omega),.cons rfl (.cons (look_eq rfl (by rw[dP])) (.cons (look_eq rfl (by rw[dP])) (.cons (look_eq rfl (by rw[dP];simp;omega)) (.cons (look_eq rfl (by rw[dP];rfl)) (.cons (look_eq rfl (by rw[dP])) (.cons rfl (.cons (look_eq rfl (by simp)) (.nil _)))))))),fun w h=>by dsimp only;rw[dP];exact h.aY 3 [0,1] rfl⟩
    | exact⟨⟨n+1,g3,gb,c3,cb,r3,rb⟩,⟨by show n+1≤m;omega,by show (jV s (n+1)).c.length≤c3;rw[dP];exact Uk,by show (jV s (n+1)).b.length≤cb;rw[dP];exact BX⟩,(by show m-(n+1)<m-n;omega),.cons rfl (.cons (look_eq rfl (by rw[dP])) (.cons (look_eq rfl (by rw[dP])) (.cons (look_eq rfl (by rw[dP])) (.cons (look_eq rfl (by rw[dP];simp)) (.cons (look_eq rfl (by rw[dP])) (.cons rfl (.cons (look_eq rfl (by simp)) (.nil _)))))))),fun w h=>by dsimp only;rw[dP];exact h.aY 3 [0,2] rfl⟩
   ·have h2:=bB;have hd0:d≠0:=ay;rw[if_neg hd0] at dP;refine aj "Z" ?_;refine WL.t1 call324 rfl (agX xla xl0) rfl ?_;refine aj "C0" ?_;refine WL.t2 call288 rfl rfl (zJ Gg (OE xla)) rfl ?_;refine aj "t" ?_;obtain⟨y,hy⟩:∃y,y=bA d (OH x.last):=⟨_,rfl⟩;have hy8:y<8192:=by rw[hy];exact bD Gg
    rw[←hy];refine aj "h" ?_;refine WL.c1 call103 rfl (EY (xs:=x.c) (Seq.here (by rw[au];omega) (by rw[drop_zero];exact prefix_append _ _)) ay) rfl ?_;rintro _ _ ⟨A1,c1,rfl,rfl⟩;refine WL.ex (Cj ay) (fun ⟨go,ro⟩ ⟨e1,DX,aR⟩=> ?_);dsimp only at e1 DX ⊢;subst e1;have hco:x.c.length≤c1:=by rw[←DX,length_append,au];omega
    refine aj "tu" ?_;refine WC.loop (σ:=Nat×Nat×Nat×List Value) (fun z=>[(0,.slice A m cap),(3,.slice (some ⟨z.2.1,0,none⟩) (x.c.length+z.1) z.2.2.1),(4,.slice (some ⟨gb,0,none⟩) x.b.length cb),(5,.i (x.length:Nat)),(6,.i (x.shift:Nat)),(7,.i (x.last:Nat)),(20,.i (m:Int)),(21,.i (n:Int)),(8,.i (n:Int)),(9,.i (d:Nat)),(13,.i (y:Nat)),(14,.slice (some ⟨go,0,none⟩) x.c.length c1)]) (fun z=>ah z.2.1 3 (av .i64 (x.c++replicate z.1 0)++z.2.2.2)::ah go 3 (av .i64 x.c++ro)::ah gb 3 (av .i64 x.b++rb)::F) (fun z=>z.1≤x.b.length+x.shift-x.c.length∧x.c.length+z.1≤z.2.2.1) (fun z=>x.b.length+x.shift-z.1) (0,gc,cc,rc) ⟨zero_le _,Cc⟩ bM (fun w h=>Sat.aS (h.aY 3 [1,0,2] rfl) (by simp)) ?_;rintro⟨z,g,cz,rz⟩ ⟨hz,hzc⟩;dsimp only at hz hzc ⊢;refine aj "rococ.5bX" (aX (fun eF=> ?_) fun eF=> ?_)
    ·refine aj "iuQoco" ?_;refine WL.val (V.aI (v':= .slice (some ⟨g,0,none⟩) (x.c.length+z) (x.c.length+z)) (V.slice (l:=0) (h:=x.c.length+z) (u:=x.c.length+z) fZ (ak rfl) OO.none (OO.some (ak rfl) (fun _=>by omega)) (OO.some (ak rfl) (fun _=>by omega)) (by simp) (zero_le _) (Nat.le_refl _) hzc) (fun _=>by simp[jR])) rfl ?_;refine WL.buildSlice (E:=3) (cs:=[_]) (vs:=[(0,_)]) ⟨ak rfl,trivial⟩ rfl (eO _) rfl (fun b79=> ?_);have hzl:(av .i64 (x.c++replicate z 0)).length=x.c.length+z:=by simp[av]
     refine WL.y8 (m:=x.c.length+z) (q:=1) (cs:=av .i64 (x.c++replicate z 0)) (news:=[.i 0]) underlying124 Td (ak rfl) (ak rfl) (Seq.up (Seq.here ay (by rw[drop_zero];exact prefix_append _ _))) (Seq.all rfl) ay ay aK ay rfl rfl (fun A2 c2 Pq bB=> ?_);refine WL.ex (Cj ay) (fun ⟨g2,r2⟩ ⟨e2,ET,zV⟩=> ?_);dsimp only at e2 ET ⊢;subst e2;refine aj "4" ?_;exact⟨(z+1,g2,c2,r2),⟨by show z+1≤x.b.length+x.shift-x.c.length;omega,bB⟩,(by show x.b.length+x.shift-(z+1)<x.b.length+x.shift-z;omega),.cons rfl bM,fun w h=>Sat.aS (h.aY 5 [0,3,4] rfl) (by simp[av,replicate_succ'])⟩
    ·refine aj "W" ?_;have hze:z=x.b.length+x.shift-x.c.length:=ay;have hex:x.c++replicate z 0=o8 x:=by rw[hze];rfl
     have amX:(o8 x).length=x.c.length+z:=by rw[wz,hze]
     have amL:aB 8192 (o8 x):=xcs.append (aB.vg aK);rw[hex,←amX];refine aj "h" ?_;refine WL.c1 call103 rfl (EY (xs:=o8 x) (Seq.here (by rw[au];omega) (by rw[drop_zero];exact prefix_append _ _)) ay) rfl ?_;rintro _ _ ⟨A3,c3,rfl,rfl⟩;refine WL.ex (Cj ay) (fun ⟨g3,r3⟩ ⟨e3,KX,eF⟩=> ?_);dsimp only at e3 KX ⊢;subst e3;have Uk:(o8 x).length≤c3:=by rw[←KX,length_append,au];omega
     refine aj "foP" ?_;refine WC.loop (σ:=Nat) (fun k=>[(0,.slice A m cap),(3,.slice (some ⟨g3,0,none⟩) (o8 x).length c3),(4,.slice (some ⟨gb,0,none⟩) x.b.length cb),(5,.i (x.length:Nat)),(6,.i (x.shift:Nat)),(7,.i (x.last:Nat)),(20,.i (m:Int)),(21,.i (n:Int)),(8,.i (n:Int)),(9,.i (d:Nat)),(13,.i (y:Nat)),(14,.slice (some ⟨go,0,none⟩) x.c.length c1),(83,.slice (some ⟨gb,0,none⟩) x.b.length cb),(84,.i (x.b.length:Nat)),(85,.i (k:Int))]) (fun k=>ah g3 3 (av .i64 (oQ (o8 x) x.b y x.shift k)++r3)::ah go 3 (av .i64 x.c++ro)::ah gb 3 (av .i64 x.b++rb)::F) (fun k=>k≤x.b.length) (fun k=>x.b.length-k) 0 (zero_le _) bM (fun w h=>h.aY 4 [0,2,3] rfl) ?_;rintro k hk2;refine aj "UX" (aX (fun mZ=> ?_) fun mZ=> ?_)
     ·refine aj "HN" ?_;have hkb:k<x.b.length:=ay;obtain⟨o,ho⟩:∃o,o=oQ (o8 x) x.b y x.shift k:=⟨_,rfl⟩;have J2:o.length=(o8 x).length:=by rw[ho,qp]
      have ZT:aB 8192 o:=by rw[ho];exact sP amL hy8 k
      rw[←ho];have SF:Rd K (ah g3 3 (av .i64 o++r3)::ah go 3 (av .i64 x.c++ro)::ah gb 3 (av .i64 x.b++rb)::F) (some ⟨gb,0+(k:Int).toNat*1,none⟩) (.i (x.b.getD k 0:Nat)):=by
       rw[show 0+(k:Int).toNat*1=k by omega];exact Rd.up (Rd.up (Rd.here (mD _ _ _ hkb)))
      have hgo:(av .i64 o++r3)[0+((k:Int)+(x.shift:Int)).toNat*1]? =some (.i (o.getD (k+x.shift) 0:Nat)):=by rw[show 0+((k:Int)+(x.shift:Int)).toNat*1=k+x.shift by omega];exact mD _ _ _ ay
      have BQ:=xbs.at_ aK k;refine aj "h~v" ?_;refine WL.val (V.load isAgg3 (ak rfl) (fun hc=>SF)) rfl ?_;refine aj "mg" ?_;refine WC.fE (ah go 3 (av .i64 x.c++ro)::ah gb 3 (av .i64 x.b++rb)::F) (by kernel_rfl) ?_;refine aj "l0l1l2~~E3[4l6l7" ?_;refine WA.two (i:=5) (j:=8) gy (by kernel_rfl) rfl rfl ?_ ?_
      ·refine WL.val (V.load isAgg3 (ak rfl) (fun hc=>Rd.here hgo)) rfl ?_;refine aj "bn8" ?_;refine WL.t2 call288 rfl rfl (zJ hy8 BQ) rfl ?_;refine WL.nil ?_;refine WA.t 9 rfl (V.aI (v':= .i ((o.getD (k+x.shift) 0 ^^^ bA y (x.b.getD k 0):Nat):Int)) (V.xor (ak rfl) (ak rfl)) (fun _=>by rw[nN (by have :=ZT.at_ aK (k+x.shift);omega) (by have :=bD (b:=x.b.getD k 0) hy8;omega)])) ?_;refine aj "[:n;" ?_;refine WL.store (cs:=[_]) sizeOf3 (ak rfl) (ak rfl) rfl rfl rfl (dw.at_ (by rw[length_append,au];omega)) ?_;refine aj "bM6" ?_;refine⟨k+1,(by show k+1≤x.b.length;omega),(by show x.b.length-(k+1)<x.b.length-k;omega),.cons rfl bM,fun w h=>Sat.aS h ?_⟩;rw[show 0+((k:Int)+(x.shift:Int)).toNat*1=k+x.shift by omega,nX _ _ _ ay,oQ,←ho]
      ·refine WL.t2 call288 rfl rfl (zJ hy8 BQ) rfl ?_;refine aj "bn5" ?_;refine WL.val (V.load isAgg3 (ak rfl) (fun hc=>Rd.here hgo)) rfl ?_;refine WL.nil ?_;refine WA.t 9 rfl (V.aI (v':= .i ((o.getD (k+x.shift) 0 ^^^ bA y (x.b.getD k 0):Nat):Int)) (V.xor (ak rfl) (ak rfl)) (fun _=>by rw[nN (by have :=ZT.at_ aK (k+x.shift);omega) (by have :=bD (b:=x.b.getD k 0) hy8;omega)])) ?_;refine aj "[:n;" ?_;refine WL.store (cs:=[_]) sizeOf3 (ak rfl) (ak rfl) rfl rfl rfl (dw.at_ (by rw[length_append,au];omega)) ?_;refine aj "bM6" ?_;refine⟨k+1,(by show k+1≤x.b.length;omega),(by show x.b.length-(k+1)<x.b.length-k;omega),.cons rfl bM,fun w h=>Sat.aS h ?_⟩;rw[show 0+((k:Int)+(x.shift:Int)).toNat*1=k+x.shift by omega,nX _ _ _ ay,oQ,←ho]
     ·refine aj "W" ?_;obtain rfl:k=x.b.length:=by omega
      have hC:oQ (o8 x) x.b y x.shift x.b.length=Ph x d:=by rw[hy];rfl
      rw[hC];have hCl:(Ph x d).length=(o8 x).length:=IZ x d;rw[←hCl] at Uk ⊢;refine aj "h~Ic~.bX" (aX (fun uf=> ?_) fun uf=> ?_)
      ·have h5:=uf;rw[if_pos ay] at dP;refine aj "h.c(zmmmg6" ?_;first
       | exact⟨⟨n+1,gc,gb,cc,cb,rc,rb⟩,⟨by show n+1≤m;omega,by show (jV s (n+1)).c.length≤cc;rw[dP];exact Cc,by show (jV s (n+1)).b.length≤cb;rw[dP];exact BX⟩,(by show m-(n+1)<m-n;omega),.cons rfl (.cons (look_eq rfl (by rw[dP])) (.cons (look_eq rfl (by rw[dP])) (.cons (look_eq rfl (by rw[dP])) (.cons (look_eq rfl (by rw[dP];simp)) (.cons (look_eq rfl (by rw[dP])) (.cons rfl (.cons (look_eq rfl (by simp)) (.nil _)))))))),fun w h=>by dsimp only;rw[dP];exact h⟩
       | exact⟨⟨n+1,g3,go,c3,c1,r3,ro⟩,⟨by show n+1≤m;omega,by show (jV s (n+1)).c.length≤c3;rw[dP];exact Uk,by show (jV s (n+1)).b.length≤c1;rw[dP];exact hco⟩,(by show m-(n+1)<m-n;omega),.cons rfl (.cons (look_eq rfl (by rw[dP])) (.cons (look_eq rfl (by rw[dP])) (.cons (look_eq rfl (by rw[dP];simp;omega)) (.cons (look_eq rfl (by rw[dP];rfl)) (.cons (look_eq rfl (by rw[dP])) (.cons rfl (.cons (look_eq rfl (by simp)) (.nil _)))))))),fun w h=>by dsimp only;rw[dP];exact h.aY 3 [0,1] rfl⟩
       | exact⟨⟨n+1,g3,gb,c3,cb,r3,rb⟩,⟨by show n+1≤m;omega,by show (jV s (n+1)).c.length≤c3;rw[dP];exact Uk,by show (jV s (n+1)).b.length≤cb;rw[dP];exact BX⟩,(by show m-(n+1)<m-n;omega),.cons rfl (.cons (look_eq rfl (by rw[dP])) (.cons (look_eq rfl (by rw[dP])) (.cons (look_eq rfl (by rw[dP])) (.cons (look_eq rfl (by rw[dP];simp)) (.cons (look_eq rfl (by rw[dP])) (.cons rfl (.cons (look_eq rfl (by simp)) (.nil _)))))))),fun w h=>by dsimp only;rw[dP];exact h.aY 3 [0,2] rfl⟩
      ·have h5:=uf;rw[if_neg ay] at dP;refine aj "h.g6" ?_;first
       | exact⟨⟨n+1,gc,gb,cc,cb,rc,rb⟩,⟨by show n+1≤m;omega,by show (jV s (n+1)).c.length≤cc;rw[dP];exact Cc,by show (jV s (n+1)).b.length≤cb;rw[dP];exact BX⟩,(by show m-(n+1)<m-n;omega),.cons rfl (.cons (look_eq rfl (by rw[dP])) (.cons (look_eq rfl (by rw[dP])) (.cons (look_eq rfl (by rw[dP])) (.cons (look_eq rfl (by rw[dP];simp)) (.cons (look_eq rfl (by rw[dP])) (.cons rfl (.cons (look_eq rfl (by simp)) (.nil _)))))))),fun w h=>by dsimp only;rw[dP];exact h⟩
       | exact⟨⟨n+1,g3,go,c3,c1,r3,ro⟩,⟨by show n+1≤m;omega,by show (jV s (n+1)).c.length≤c3;rw[dP];exact Uk,by show (jV s (n+1)).b.length≤c1;rw[dP];exact hco⟩,(by show m-(n+1)<m-n;omega),.cons rfl (.cons (look_eq rfl (by rw[dP])) (.cons (look_eq rfl (by rw[dP])) (.cons (look_eq rfl (by rw[dP];simp;omega)) (.cons (look_eq rfl (by rw[dP];rfl)) (.cons (look_eq rfl (by rw[dP])) (.cons rfl (.cons (look_eq rfl (by simp)) (.nil _)))))))),fun w h=>by dsimp only;rw[dP];exact h.aY 3 [0,1] rfl⟩
       | exact⟨⟨n+1,g3,gb,c3,cb,r3,rb⟩,⟨by show n+1≤m;omega,by show (jV s (n+1)).c.length≤c3;rw[dP];exact Uk,by show (jV s (n+1)).b.length≤cb;rw[dP];exact BX⟩,(by show m-(n+1)<m-n;omega),.cons rfl (.cons (look_eq rfl (by rw[dP])) (.cons (look_eq rfl (by rw[dP])) (.cons (look_eq rfl (by rw[dP])) (.cons (look_eq rfl (by rw[dP];simp)) (.cons (look_eq rfl (by rw[dP])) (.cons rfl (.cons (look_eq rfl (by simp)) (.nil _)))))))),fun w h=>by dsimp only;rw[dP];exact h.aY 3 [0,2] rfl⟩
 ·refine aj "Wu" ?_;refine WC.loop (σ:=Nat) (fun j=>[(3,.slice (some ⟨gc,0,none⟩) j cc)]) (fun j=>ah gc 3 (av .i64 x.c++rc)::F) (fun j=>j≤x.c.length∧aT x.c j=aT x.c x.c.length) (fun j=>j) x.c.length ⟨Nat.le_refl _,rfl⟩ bM (fun w h=>h.aY 2 [0] rfl) ?_;rintro j ⟨hj,Gy⟩;have hgc:0<j→(av .i64 x.c++rc)[0+((j:Int)-1).toNat*1]? =some (.i (x.c.getD (j-1) 0:Nat)):=fun h=>by rw[show 0+((j:Int)-1).toNat*1=j-1 by omega];exact mD _ _ _ ay
  refine aj "ro~Uc88~~e~~5" ?_;refine WL.bG (oj:=_) rfl rfl rfl GC.t (V.Gs fZ (OV.g rfl id) (OV.g rfl id) (fun hc=>by simp at hc;omega)) rfl ?_;refine WL.bG (oj:=_) rfl rfl rfl GC.t (V.load isAgg3 (OV.g rfl id) (fun hc=>Rd.here (hgc (by simp at hc;omega)))) rfl ?_;refine aj "~EVk" (aX (fun Zt=> ?_) fun Zt=> ?_)
  ·simp only[He] at Zt;have h6:=Zt;refine aj "iuQo(" ?_;refine WL.val (V.aI (v':= .slice (some ⟨gc,0,none⟩) (j-1) cc) (V.slice (l:=0) (h:=j-1) (u:=cc) fZ (ak rfl) OO.none (OO.some (ak rfl) (fun _=>by omega)) OO.none (by simp) (zero_le _) ay (Nat.le_refl _)) (fun _=>by simp[jR])) rfl ?_;refine aj "4" ?_;refine⟨j-1,⟨by show j-1≤x.c.length;omega, ?_⟩,(by show j-1<j;omega),.cons rfl (.nil _),fun w h=>h⟩;obtain⟨i,rfl⟩:∃i,j=i+1:=⟨j-1,by omega⟩;rw[←Gy,aT,if_pos (by have :=h6.2;simp at this ⊢;omega)];rfl
  ·simp only[He] at Zt;have h6:=Zt;refine aj "Red" ?_;obtain rfl:n=m:=by omega
   have hlC:uD s=x.c:=by unfold uD;rw[hl,←hx]
   have hj2:aT x.c x.c.length=j:=by
    rw[←Gy];cases j with
    | zero=>rfl
    | succ i =>
     rw[aT,if_neg];intro hz;rcases h6 with h1 | h1
     ·omega
     ·have h2:¬((x.c.getD i 0:Nat):Int)=0:=h1;exact h2 (by rw[hz];rfl)
   refine qR (ah gc _ _::F) rfl rfl cu ⟨gc,cc,rc, ?_,by rw[hlC]⟩;unfold wN;rw[hlC,hj2]
end
def DV(x:Nat):Nat:=(List.range 8).countP fun k=>x.testBit k
theorem ZY{x:Nat}(hx:x<256)(h0:x≠0):bitsOf .and .u8 (x:Int) ((x:Int)-1)=((x &&& (x-1):Nat):Int)∧DV (x &&& (x-1))+1=DV x∧(x &&& (x-1))<x:=by
 have h:((List.range 256).all fun a=>decide (a≠0→bitsOf .and .u8 ((a:Nat):Int) (((a:Nat):Int)-1)=((a &&& (a-1):Nat):Int)∧DV (a &&& (a-1))+1=DV a∧(a &&& (a-1))<a))=true:=by kernel_rfl
 have h1:=all_eq_true.1 h x (mem_range.2 hx);exact of_decide_eq_true h1 h0
theorem WU(x:Nat):DV x≤8:=by
 have :=countP_le_length (p:=fun k=>x.testBit k) (l:=List.range 8);rw[length_range] at this;exact this
def rM:List Nat→Nat
 | []=>0
 | x::xs=>DV x+rM xs
theorem Ow:∀xs:List Nat,rM xs≤8*xs.length
 | []=>zero_le _
 | x::xs=>by
  have :=Ow xs;have :=WU x;simp only[rM,length_cons];omega
theorem FJ:∀xs ys:List Nat,rM (xs++ys)=rM xs+rM ys
 | [],ys=>by simp[rM]
 | x::xs,ys=>by rw[cons_append,rM,rM,FJ xs ys];omega
theorem yt(xs:List Nat){j:Nat}(h:j<xs.length):xs.take (j+1)=xs.take j++[xs.getD j 0]:=by grind [take_add_one,getElem?_eq_getElem,getD]
def nz(x:Nat):Nat:=if x=0 then 0 else 1
def iV(s:List Nat):List Nat:=s.map nz
section
variable{K:World}{F:List aA}
theorem L9{A:Option Addr}{m cap:Nat}{xs:List Nat}(hs:Seq K F A m 1 (av .u8 xs))(hx:aB 256 xs)(hm:m≤100000000):aL prog 282 #[.slice A m cap] K F (.i (rM xs:Nat)):=by
 have hl:xs.length=m:=by simpa [av] using hs.len
 refine aC.en func282 ntmps282 ?_;refine aj "axfoP" ?_;refine WC.loop (σ:=Nat) (fun j=>[(3,.i (rM (xs.take j):Nat)),(6,.slice A m cap),(7,.i (m:Int)),(8,.i (j:Int))]) (fun _=>F) (fun j=>j≤m) (fun j=>m-j) 0 (zero_le _) bM cu ?_;rintro j hj;refine aj "UX" (aX (fun aN=> ?_) fun aN=> ?_)
 ·refine aj "HN" ?_;have lJ:Rd K F (A.map (·.add ((j:Int).toNat*1))) (.int .u8 (xs.getD j 0:Nat)):=by
   rw[show (j:Int).toNat=j by omega];exact hs.jv ay
  obtain⟨x0,hx0⟩:∃x0,x0=xs.getD j 0:=⟨_,rfl⟩;have hx8:x0<256:=by rw[hx0];exact hx.at_ aK j
  have hon:rM (xs.take (j+1))=rM (xs.take j)+DV x0:=by rw[yt xs ay,FJ,←hx0];simp[rM]
  have hob:=Ow (xs.take j);rw[length_take] at hob;rw[←hx0] at lJ;refine WC.region ?_;refine WL.val (V.eD eu (ak rfl) (ak rfl) (fun hc=>by omega) (fun hc=>lJ)) rfl ?_;refine WL.val (V.load isAgg5 (ak rfl) (fun hc=>lJ)) rfl ?_;refine aj "gu" ?_;refine WC.loop (σ:=Nat) (fun x=>[(3,.i (rM (xs.take j)+(DV x0-DV x):Nat)),(6,.slice A m cap),(7,.i (m:Int)),(8,.i (j:Int)),(5,.int .u8 (x:Int))]) (fun _=>F) (fun x=>x<256∧DV x≤DV x0) (fun x=>x) x0 ⟨hx8,Nat.le_refl _⟩ (.cons (look_eq rfl (by rw[Nat.sub_self,Nat.add_zero])) bM) cu ?_;rintro x ⟨hx1,hx2⟩;refine aj "rsb~d" (aX (fun aR=> ?_) fun aR=> ?_)
  ·have h1:=aR;refine aj "H" ?_;have hxn:x≠0:=ay;obtain⟨SH,Pt,hp3⟩:=ZY hx1 hxn;have Wo:=WU x0;refine aj "h" ?_;refine WL.val (V.aI (v':= .i (rM (xs.take j)+(DV x0-DV (x &&& (x-1))):Nat)) (V.Ci (ak rfl) (ak rfl) (fun _=>by omega)) (fun _=>by congr 1;omega)) rfl ?_;refine aj "gQ" ?_;refine WL.val (V.aI (v':= .int .u8 ((x:Int)-1)) (V.sub (ak rfl) (ak rfl)) (fun _=>by congr 1;simp only[IntKind.wrap,IntKind.bits,IntKind.signed];simp;omega)) rfl ?_;refine WL.val (V.aI (v':= .int .u8 ((x &&& (x-1):Nat):Int)) (V.and (ak rfl) (ak rfl)) (fun _=>by rw[SH])) rfl ?_;refine aj "4" ?_;exact⟨x &&& (x-1),⟨by show x &&& (x-1)<256;omega,by omega⟩,hp3,.cons rfl bM,fun w h=>h⟩
  ·have h1:=aR;refine WC.exit ?_;have aoD:x=0:=ay;have hpz:DV x=0:=by rw[aoD];rfl
   rw[hpz,Nat.sub_zero];refine aj "6" ?_;exact⟨j+1,(by show j+1≤m;omega),(by show m-(j+1)<m-j;omega),.cons (look_eq rfl (by rw[hon])) bM,fun w h=>h⟩
 ·refine aj "Red" ?_;obtain rfl:j=m:=by omega
  exact qR F rfl rfl cu ⟨by rw[take_of_length_le ay],rfl⟩
theorem TI{A:Option Addr}{m cap:Nat}{s:List Nat}(hs:Seq K F A m 1 (av .i64 s))(hs8:aB 8192 s)(hm:m≤1000000) :
 aC prog 290 #[.slice A m cap] K F (fun v H'=>∃g,v= .slice (some ⟨g,0,none⟩) m m∧H'=ah g 5 (av .u8 (iV s))::F):=by
 have hl:s.length=m:=by simpa [av] using hs.len
 refine aC.en func290 ntmps290 ?_;refine aj "ajo" ?_;refine WL.sK (m:=m) underlying34 zo (ak rfl) (ak rfl) ay ay ay rfl rfl rfl (fun b8=> ?_);refine aj "foP" ?_;refine WC.loop (σ:=Nat) (fun j=>[(3,.slice (some ⟨b8,0,none⟩) m m),(9,.slice A m cap),(10,.i (m:Int)),(11,.i (j:Int))]) (fun j=>ah b8 5 (av .u8 (iV (s.take j)++replicate (m-j) 0))::F) (fun j=>j≤m) (fun j=>m-j) 0 (zero_le _) bM (fun w h=>Sat.aS h (by simp[iV,d9])) ?_;rintro j hj;refine aj "UX" (aX (fun aN=> ?_) fun aN=> ?_)
 ·refine aj "HN" ?_;have hjm:j<m:=ay;have lJ:Rd K (ah b8 5 (av .u8 (iV (s.take j)++replicate (m-j) 0))::F) (A.map (·.add ((j:Int).toNat*1))) (.i (s.getD j 0:Nat)):=by
   rw[show (j:Int).toNat=j by omega];exact (hs.jv ay).up
  obtain⟨x,hx⟩:∃x,x=s.getD j 0:=⟨_,rfl⟩;have AP:=yt s (j:=j) ay;have htl:(iV (s.take j)).length=j:=by simp[iV];omega
  rw[←hx] at lJ AP;refine aj "h" ?_;refine WL.val (V.eD fZ (ak rfl) (ak rfl) (fun hc=>by omega) (fun hc=>lJ)) rfl ?_;refine WL.val (V.load isAgg3 (ak rfl) (fun hc=>lJ)) rfl ?_;refine aj "mjsb~d" (aX (fun aR=> ?_) fun aR=> ?_)
  ·have h1:=aR;refine aj "Q~v" ?_;refine WL.store (cs:=[_]) sizeOf5 (ak rfl) (ak rfl) rfl rfl rfl (dw.at_ (by simp[av,iV];omega)) ?_;refine aj "b6" ?_;refine⟨j+1,(by show j+1≤m;omega),(by show m-(j+1)<m-j;omega),.cons rfl bM,fun w h=>Sat.aS h ?_⟩;have e1:iV (s.take (j+1))=iV (s.take j)++[nz x]:=by rw[AP];simp[iV]
   have e2:m-j=(m-(j+1))+1:=ay;first
    | (
     have e3:nz x=1:=by unfold nz;rw[if_neg ay]
     rw[show 0+(j:Int).toNat*1=j by omega,show Value.int .u8 1=Value.int .u8 ((1:Nat):Int) from rfl,kr,e1,e3,e2,set_append_right _ _ ay,htl,Nat.sub_self,replicate_succ,set_cons_zero];simp)
    | (
     have e3:nz x=0:=by unfold nz;rw[if_pos ay]
     rw[e1,e3,e2,replicate_succ];simp)
  ·have h1:=aR;refine aj "i6" ?_;refine⟨j+1,(by show j+1≤m;omega),(by show m-(j+1)<m-j;omega),.cons rfl bM,fun w h=>Sat.aS h ?_⟩;have e1:iV (s.take (j+1))=iV (s.take j)++[nz x]:=by rw[AP];simp[iV]
   have e2:m-j=(m-(j+1))+1:=ay;first
    | (
     have e3:nz x=1:=by unfold nz;rw[if_neg ay]
     rw[show 0+(j:Int).toNat*1=j by omega,show Value.int .u8 1=Value.int .u8 ((1:Nat):Int) from rfl,kr,e1,e3,e2,set_append_right _ _ ay,htl,Nat.sub_self,replicate_succ,set_cons_zero];simp)
    | (
     have e3:nz x=0:=by unfold nz;rw[if_pos ay]
     rw[e1,e3,e2,replicate_succ];simp)
 ·refine aj "Red" ?_;obtain rfl:j=m:=by omega
  exact qR (ah b8 _ _::F) rfl rfl (fun w h=>Sat.aS h (by rw[take_of_length_le ay];simp)) ⟨b8,rfl,rfl⟩
end
abbrev LL:=List Nat×List Nat
def lS(t:Nat)(p:LL)(i:Nat):LL:=if 13*t≤i then (lM p.1 (i-13*t),p.2) else (p.1,lM p.2 i)
def Av(c:List Nat)(x:Nat):Nat→Nat→Nat
 | 0,v=>v
 | k+1,v=>Av c x k (bA v x ^^^ c.getD k 0)
def wu(c:List Nat)(L i:Nat):Bool:=decide (Av c (dW (-(i:Int))) L 0=0)
def dx(t:Nat)(c:List Nat)(L:Nat)(p:LL):Nat→LL×Nat
 | 0=>(p,0)
 | k+1=>if wu c L k=true then (lS t (dx t c L p k).1 k,(dx t c L p k).2+1) else dx t c L p k
def iB(t:Nat)(p:LL):List Nat:=qb t (13*t+8*p.1.length) (G6 t p.1 p.2)
def rW(t:Nat)(d m:List Nat):Option (LL×Nat) :=
 if t+1<wN (iB t (d,iq t m)) then none
 else
  if (dx t (uD (iB t (d,iq t m))) (wN (iB t (d,iq t m))) (d,iq t m) (13*t+8*d.length)).2+1≠wN (iB t (d,iq t m)) then none
  else if 0<rM (iV (iB t (dx t (uD (iB t (d,iq t m))) (wN (iB t (d,iq t m))) (d,iq t m) (13*t+8*d.length)).1)) then none
  else some (dx t (uD (iB t (d,iq t m))) (wN (iB t (d,iq t m))) (d,iq t m) (13*t+8*d.length))
theorem JU{c:List Nat}{x k v:Nat}:Av c x (k+1) v=Av c x k (bA v x ^^^ c.getD k 0):=rfl
theorem IX(t:Nat)(c:List Nat)(L:Nat)(p:LL):∀k,(dx t c L p k).2≤k
 | 0=>Nat.le_refl _
 | k+1=>by
  have :=IX t c L p k;rw[dx];split
  ·show (dx t c L p k).2+1≤k+1;omega
  ·omega
theorem Yv(t:Nat)(p:LL)(i:Nat):(lS t p i).1.length=p.1.length∧(lS t p i).2.length=p.2.length:=by grind [lS,gQ]
theorem mQ(t:Nat)(c:List Nat)(L:Nat)(p:LL):∀k,(dx t c L p k).1.1.length=p.1.length∧(dx t c L p k).1.2.length=p.2.length
 | 0=>⟨rfl,rfl⟩
 | k+1=>by
  have ih:=mQ t c L p k;rw[dx];split
  ·have :=Yv t (dx t c L p k).1 k;exact⟨by show (lS _ _ _).1.length=_;omega,by show (lS _ _ _).2.length=_;omega⟩
  ·exact ih
theorem yg{t len:Nat}{bit:Nat→Bool}:aB 8192 (qb t len bit):=fun x hx=>by
 obtain⟨k,_,rfl⟩:=mem_map.1 hx;exact aam _ _ aK
theorem Ee{t len:Nat}{bit:Nat→Bool}:(qb t len bit).length=2*t:=by simp[qb]
theorem TF{s:List Nat}(hs:aB 8192 s):aB 8192 (uD s):=(CB hs _).cs
theorem adM{s:List Nat}(hs:aB 8192 s):wN s≤(uD s).length∧(uD s).length≤s.length+1:=⟨iy _ _,(CB hs _).c2⟩
namespace Wd
def put(W:Wd)(p:LL):Wd:= { W with d:=p.1,m:=p.2 }
theorem H8(W:Wd)(p:LL)(i:Nat):(W.put p).flip i=W.put (lS W.t p i):=by grind [Wd.flip,lS,put]
end Wd
def aeM(F:List aA)(o:Option (LL×Nat))(v:Value)(H':List aA):Prop :=
 match o with
 | none=>v= .tuple #[.slice none 0 0,.slice none 0 0,.int .i64 0,.int .i64 50]∧H'=F
 | some (p,n)=>∃g1 c1 r1 g2 c2 r2,p.1.length≤c1∧p.2.length≤c2∧v= .tuple #[.slice (some ⟨g1,0,none⟩) p.1.length c1,.slice (some ⟨g2,0,none⟩) p.2.length c2,.int .i64 (n:Int),.int .i64 0]∧H'=ah g1 5 (av .u8 p.1++r1)::ah g2 5 (av .u8 p.2++r2)::F
section
variable{K:World}{F:List aA}
theorem JD{bw:Nat}{V:Wd}(h:V.Ok):aC prog 285 #[ptr bw 0] K (V.parts bw++F) (fun v H'=>∃g,v= .slice (some ⟨g,0,none⟩) (2*V.t) (2*V.t)∧H'=ah g 3 (av .i64 (iB V.t (V.d,V.m)))::(V.parts bw++F)) :=
 X9 h gD.all (Seq.up (Seq.here (by rw[au];omega) (by rw[drop_zero];exact prefix_append _ _))) (Seq.up (Seq.up (Seq.here (by rw[au];omega) (by rw[drop_zero];exact prefix_append _ _))))
theorem Uf{t:Nat}{A B:Option Addr}{m q cap cap':Nat}{d mo:List Nat}(ht:1≤t∧t≤8)(hd:Seq K F A m 1 (av .u8 d))(hm:Seq K F B q 1 (av .u8 mo))(Gg:aB 256 d)(hm8:aB 256 mo)(uQ:1≤m∧m≤512)(GH:q=aM t) :
 aC prog 244 #[.i (t:Int),.slice A m cap,.slice B q cap'] K F (aeM F (rW t d mo)):=by
 refine aC.en func244 ntmps244 ?_;refine aj "ammmjz" ?_;refine WL.c3 call283 rfl rfl rfl (Rj ht hd hm Gg hm8 uQ GH) rfl ?_;rintro _ _ ⟨bw,W,hW,hWt,hWd,hWm,hWc,rfl,rfl⟩;obtain⟨p,hp⟩:∃p:LL,p=(d,iq t mo):=⟨_,rfl⟩;have SH:W.d=p.1:=by rw[hp,hWd]
 have Pt:W.m=p.2:=by rw[hp,hWm]
 have hdF:rW t d mo=(if t+1<wN (iB t p) then none else if (dx t (uD (iB t p)) (wN (iB t p)) p W.len).2+1≠wN (iB t p) then none else if 0<rM (iV (iB t (dx t (uD (iB t p)) (wN (iB t p)) p W.len).1)) then none else some (dx t (uD (iB t p)) (wN (iB t p)) p W.len)):=by
  unfold rW Wd.len;rw[hp,hWt,hWd]
 rw[hdF];have hWl:W.len≤4200:=by have h1:=hW.t;have h2:=hW.d;unfold Wd.len;omega
 refine aj "CfsbOZ" ?_;refine WL.c1 call285 rfl (JD hW) rfl ?_;rintro _ _ ⟨gs,rfl,rfl⟩;rw[SH,Pt,hWt];obtain⟨s,hs⟩:∃s,s=iB t (p.1,p.2):=⟨_,rfl⟩;have hs':iB t p=s:=hs.symm;have Pg:aB 8192 s:=by rw[hs];exact yg
 have rQ:s.length=2*t:=by rw[hs];exact Ee
 rw[hs'];refine WL.c1 call284 rfl (QN (s:=s) (Seq.Gq rQ) Pg ay) rfl ?_;rintro _ _ ⟨gl,cl,rl,rfl,rfl⟩;obtain⟨L,hL⟩:∃L,L=wN s:=⟨_,rfl⟩;obtain⟨c,hc⟩:∃c,c=uD s:=⟨_,rfl⟩;have hLc:=adM Pg;have p8:=TF Pg;rw[←hL,←hc] at hLc ⊢;rw[←hc] at p8;refine aj "fo(c~UbX" (aX (fun aR=> ?_) fun aR=> ?_)
 ·have h1:=aR;rw[if_pos ay];refine aj "ammD" ?_;exact aG.ret (H':=F) (bI.aea rfl rfl rfl rfl rfl) (fun w h=>h.aY 5 [] rfl) ⟨rfl,rfl⟩
 ·have h1:=aR;rw[if_neg ay];refine aj ")" ?_;have hWW:W.put (dx t c L p 0).1=W:=by unfold Wd.put dx;rw[←SH,←Pt]
  have oK:∀k,(W.put (dx t c L p k).1).Ok:=fun k=>by
   induction k with
   | zero=>rw[hWW];exact hW
   | succ k ih =>
    rw[dx];split
    ·have :=ih.flip k;rw[Wd.H8,hWt] at this;exact this
    ·exact ih
  refine aj "qf" ?_;refine WL.t1 call286 rfl (Rp hW wM) rfl ?_;refine aj "P" ?_;refine WC.loop (σ:=Nat) (fun k=>[(10,ptr bw 0),(12,.slice (some ⟨gl,0,none⟩) L cl),(13,.i ((dx t c L p k).2:Nat)),(37,.i (W.len:Nat)),(38,.i (k:Int))]) (fun k=>(W.put (dx t c L p k).1).parts bw++(ah gl 3 (av .i64 c++rl)::F)) (fun k=>k≤W.len) (fun k=>W.len-k) 0 (zero_le _) bM (fun w h=>by rw[hWW];exact h.aY 5 [2,3,4,0] rfl) ?_;rintro k hk;obtain⟨U,hV⟩:∃U,U=W.put (dx t c L p k).1:=⟨_,rfl⟩;have hVo:U.Ok:=by rw[hV];exact oK k
  have hVt:U.t=t:=by rw[hV];exact hWt
  have hVc:U.d.length=W.d.length:=by rw[hV,SH];exact (mQ t c L p k).1
  have hVl:U.len=W.len:=by unfold Wd.len;rw[hVt,hVc,hWt]
  have uQ:=IX t c L p k;rw[←hV];refine aj "UX" (aX (fun bB=> ?_) fun bB=> ?_)
  ·refine aj "1t" ?_;obtain⟨x,hx⟩:∃x,x=dW (-(k:Int)):=⟨_,rfl⟩;have hx8:x<8192:=by rw[hx];exact ow _
   refine aj "h~~&" ?_;refine WL.t1 call287 rfl (Vl (-(k:Int)) ay) rfl ?_;refine aj "mfo" ?_;refine WL.val (V.aI (v':= .i ((L:Int)-1)) (V.CV (ak rfl) (ak rfl) (fun _=>by omega)) (fun _=>rfl)) rfl ?_;rw[←hx];refine aj "gu" ?_;refine WC.loop (σ:=Nat×Nat) (fun y=>[(10,ptr bw 0),(12,.slice (some ⟨gl,0,none⟩) L cl),(13,.i ((dx t c L p k).2:Nat)),(37,.i (W.len:Nat)),(38,.i (k:Int)),(14,.i (k:Int)),(15,.i (x:Int)),(16,.i (y.2:Int)),(17,.i ((y.1:Int)-1))]) (fun _=>U.parts bw++(ah gl 3 (av .i64 c++rl)::F)) (fun y=>y.1≤L∧y.2<8192∧Av c x y.1 y.2=Av c x L 0) (fun y=>y.1) (L,0) ⟨Nat.le_refl _,by show 0<8192;decide,rfl⟩ bM cu ?_;rintro⟨j,v⟩ ⟨hj,hv,ZC⟩;dsimp only at hj hv ZC ⊢;refine aj "r~ibX" (aX (fun eF=> ?_) fun eF=> ?_)
   ·obtain⟨j',rfl⟩:∃j',j=j'+1:=⟨j-1,by omega⟩;have ZU:((j'+1:Nat):Int)-1=(j':Int):=ay;rw[ZU];rw[JU] at ZC;have agW:=bD (b:=x) hv;have hcj:=p8.at_ aK j';have Ka:Rd K (U.parts bw++(ah gl 3 (av .i64 c++rl)::F)) (some ⟨gl,0+(j':Int).toNat*1,none⟩) (.i (c.getD j' 0:Nat)):=by
     rw[show 0+(j':Int).toNat*1=j' by omega];exact Rd.up (Rd.up (Rd.up (Rd.here (mD _ _ _ ay))))
    refine aj "H~k++" ?_;refine WQ.call (vs:=[_,_]) call288 ⟨ak rfl,ak rfl,trivial⟩ (zJ hv hx8) rfl (aj "++" ?_);refine WQ.val (V.Gs fZ (ak rfl) (ak rfl) (fun hc=>by omega)) rfl ?_;refine WQ.val (V.load isAgg3 (ak rfl) (fun hc=>Ka)) rfl ?_;refine WQ.val (V.aI (v':= .i ((bA v x ^^^ c.getD j' 0:Nat):Int)) (V.xor (ak rfl) (ak rfl)) (fun _=>by rw[nN ay ay])) rfl ?_;refine aj "~m~gh(4" ?_;exact⟨(j',bA v x ^^^ c.getD j' 0),⟨by show j'≤L;omega,fA (k:=13) agW hcj,ZC⟩,lt_succ_self _,.cons rfl bM,fun w h=>h⟩
   ·refine aj "W" ?_;obtain rfl:j=0:=by omega
    have hv2:v=Av c x L 0:=ZC;have hrt:wu c L k=decide (v=0):=by unfold wu;rw[←hx,hv2]
    have hk1:k<W.len:=ay;refine aj "h%bX" (aX (fun mZ=> ?_) fun mZ=> ?_)
    ·have h4:=mZ;have hdk:dx t c L p (k+1)=(lS t (dx t c L p k).1 k,(dx t c L p k).2+1):=by rw[dx,hrt,if_pos (decide_eq_true (show v=0 by omega))]
     refine aj "ec" ?_;refine WL.c2 call289 rfl rfl (X8 hVo (i:=k) ay) rfl ?_;rintro v1 _ rfl;refine aj "bh.g6" ?_;first
     | exact⟨k+1,(by show k+1≤W.len;omega),(by show W.len-(k+1)<W.len-k;omega),.cons rfl (.cons rfl (.cons (look_eq rfl (by rw[hdk];simp only[Int.natCast_add];rfl)) (.cons rfl (.cons (look_eq rfl (by simp)) (.nil _))))),fun w h=>by dsimp only;rw[hdk];dsimp only;rw[hV,Wd.H8,hWt] at h;exact h⟩
     | exact⟨k+1,(by show k+1≤W.len;omega),(by show W.len-(k+1)<W.len-k;omega),.cons rfl (.cons rfl (.cons (look_eq rfl (by rw[hdk])) (.cons rfl (.cons (look_eq rfl (by simp)) (.nil _))))),fun w h=>by dsimp only;rw[hdk,←hV];exact h⟩
    ·have h4:=mZ;have hdk:dx t c L p (k+1)=dx t c L p k:=by rw[dx,hrt,decide_eq_false (show ¬v=0 by omega)];rfl
     refine aj "i6" ?_;first
     | exact⟨k+1,(by show k+1≤W.len;omega),(by show W.len-(k+1)<W.len-k;omega),.cons rfl (.cons rfl (.cons (look_eq rfl (by rw[hdk];simp only[Int.natCast_add];rfl)) (.cons rfl (.cons (look_eq rfl (by simp)) (.nil _))))),fun w h=>by dsimp only;rw[hdk];dsimp only;rw[hV,Wd.H8,hWt] at h;exact h⟩
     | exact⟨k+1,(by show k+1≤W.len;omega),(by show W.len-(k+1)<W.len-k;omega),.cons rfl (.cons rfl (.cons (look_eq rfl (by rw[hdk])) (.cons rfl (.cons (look_eq rfl (by simp)) (.nil _))))),fun w h=>by dsimp only;rw[hdk,←hV];exact h⟩
  ·refine aj "WN" ?_;obtain rfl:k=W.len:=by omega
   obtain⟨r,hr⟩:∃r,r=dx t c L p W.len:=⟨_,rfl⟩;rw[←hr] at hV uQ ⊢;have hVd:U.d=r.1.1:=by rw[hV];rfl
   have hVm:U.m=r.1.2:=by rw[hV];rfl
   obtain⟨bb,hbb⟩:∃bb,bb= !decide ((r.2:Int)=(L:Int)-1):=⟨_,rfl⟩;refine aj "Qo(" ?_;refine WL.val (V.aI (v':= .bool bb) (V.neq (ak rfl) (ak rfl)) (fun _=>by rw[hbb])) rfl ?_;refine aj "~~R" ?_;rcases Bool.eq_false_or_eq_true bb with hb | hb
   ·subst hb;have nk:¬r.2+1=L:=fun h=>by
     have h6:(r.2:Int)=(L:Int)-1:=ay;rw[decide_eq_true h6] at hbb;cases hbb
    rw[if_pos nk];refine WL.Dh (oj:=_) rfl rfl rfl rfl rfl (fun d hd=>by injection hd with hd;subst hd;rfl) ?_;refine WL.Dh (oj:=_) rfl rfl rfl rfl rfl (fun d hd=>by injection hd with hd;subst hd;rfl) ?_;refine WL.Dh (oj:=_) rfl rfl rfl rfl rfl (fun d hd=>by injection hd with hd;subst hd;rfl) ?_;refine WL.Dh (oj:=_) rfl rfl rfl rfl rfl (fun d hd=>by injection hd with hd;subst hd;rfl) ?_;refine WL.Dh (oj:=_) rfl rfl rfl rfl rfl (fun d hd=>by injection hd with hd;subst hd;rfl) ?_;refine WL.val (V.afz (ak rfl) (ak rfl)) rfl (WL.nil (WC.NC rfl rfl (aj "Nq~+~+~+~+3" ?_)));exact aG.ret (H':=F) (bI.aea rfl rfl rfl rfl rfl) (fun w h=>h.aY 4 [] rfl) ⟨rfl,rfl⟩
   subst hb;have nk:r.2+1=L:=by
    have h6:(r.2:Int)=(L:Int)-1:=by
     rcases Decidable.em ((r.2:Int)=(L:Int)-1) with h | h
     ·exact h
     ·rw[decide_eq_false h] at hbb;cases hbb
    omega
   rw[if_neg (fun h=>h nk)];refine aj "~Cc~C" ?_;refine WL.c1 call285 rfl (JD hVo) rfl ?_;rintro _ _ ⟨gs2,rfl,rfl⟩;rw[hVd,hVm,hVt];obtain⟨s2,rJ⟩:∃s2,s2=iB t r.1:=⟨_,rfl⟩;have amy:aB 8192 s2:=by rw[rJ];exact yg
   have adp:s2.length=2*t:=by rw[rJ];exact Ee
   rw[show iB t (r.1.1,r.1.2)=s2 from rJ.symm];refine aj "~C" ?_;refine WL.c1 call290 rfl (TI (s:=s2) (Seq.Gq adp) amy ay) rfl ?_;rintro _ _ ⟨gn,rfl,rfl⟩;refine aj "~C" ?_;refine WL.t1 call282 rfl (L9 (xs:=iV s2) (Seq.Gq (by simp[iV];exact adp)) (fun x hx=>by obtain⟨y,_,rfl⟩:=mem_map.1 hx;unfold nz;split<;>decide) ay) rfl ?_;refine aj "~C~U" ?_;refine WL.val (V.BL (ak rfl) (ak rfl)) rfl ?_;refine aj "k" (aX (fun uf=> ?_) fun uf=> ?_)
   ·simp only[Bool.false_or,dh] at uf;have h5:=uf;rw[if_pos ay];refine aj "ammD" ?_;exact aG.ret (H':=F) (bI.aea rfl rfl rfl rfl rfl) (fun w h=>h.aY 6 [] rfl) ⟨rfl,rfl⟩
   ·simp only[Bool.false_or,dh] at uf;have h5:=uf;rw[if_neg ay];refine aj ")~k+~&~y~G+~&~y~G+~m~m~m~m~g~D" ?_;refine aG.ret (H':=ah U.g1 5 (av .u8 r.1.1++U.r1)::ah U.g2 5 (av .u8 r.1.2++U.r2)::F) (bI.aea rfl rfl rfl rfl rfl) (fun w h=> ?_) ⟨U.g1,U.c1,U.r1,U.g2,U.c2,U.r2, ?_, ?_, ?_,rfl⟩
    ·have h':=h.aY 6 [3,4] rfl;rw[←hVd,←hVm];exact h'
    ·rw[←hVd,hVc,hV];exact hWc.1
    ·rw[hr,(mQ t c L p W.len).2,←Pt,hV];exact hWc.2
    ·rw[hVd,hVm]
end
abbrev NG(bl pg:Int)(S B t:Nat):bL:=⟨bl,pg,(S:Int),(B:Int),(t:Int)⟩
def jH(S B t:Nat):Nat:=S*(B+aM t)+1
structure wZ(S B t:Nat):Prop where
 s:1≤S∧S≤8
 b:4≤B∧B≤512
 t:1≤t∧t≤8
theorem wZ.of{bl pg:Int}{S B t:Nat}(h:(NG bl pg S B t).aU):wZ S B t:=by
 unfold bL.aU at h;dsimp only at h;exact⟨by omega,by omega,by omega⟩
theorem NG.whole{bl pg:Int}{S B t:Nat}:(NG bl pg S B t).whole=((B+aM t:Nat):Int):=by grind [bL.whole,bL.more,aM]
theorem NG.raw{bl pg:Int}{S B t:Nat}:(NG bl pg S B t).raw=((jH S B t:Nat):Int):=by grind [bL.raw,jH,NG.whole]
theorem NG.room{bl pg:Int}{S B t:Nat}:(NG bl pg S B t).room=((S*B:Nat):Int):=by grind [bL.room,Int.natCast_mul]
def gH(B:Nat)(d:List Nat)(j:Nat):List Nat:=(d.drop (j*B)).take B
def Et(t B:Nat)(d:List Nat):Nat→List Nat
 | 0=>[]
 | j+1=>(Et t B d j++gH B d j)++jg t (gH B d j)
def nU(t S B:Nat)(d:List Nat):List Nat:=Et t B d S++[0]
theorem aB.drop{b n:Nat}{xs:List Nat}(h:aB b xs):aB b (xs.drop n):=fun y hy=>h y (mem_of_mem_drop hy)
theorem jr{B:Nat}{d:List Nat}(h:aB 256 d)(j:Nat):aB 256 (gH B d j):=aB.take (aB.drop h)
theorem sJ{B j S:Nat}{d:List Nat}(h:d.length=S*B)(hj:j<S):(gH B d j).length=B:=by
 unfold gH;rw[length_take,length_drop,h];have :(j+1)*B≤S*B:=mul_le_mul_right _ hj;rw[succ_mul] at this;omega
theorem oO{t B S:Nat}{d:List Nat}(ht:1≤t∧t≤8)(h8:aB 256 d)(h:d.length=S*B):∀j,j≤S→(Et t B d j).length=j*(B+aM t)
 | 0,_=>by simp[Et]
 | j+1,hj=>by
  rw[Et,length_append,length_append,oO ht h8 h j ay,sJ h ay,sS ht (jr h8 j),succ_mul];omega
theorem JE{t B:Nat}{d:List Nat}(ht:1≤t∧t≤8)(h8:aB 256 d):∀j,aB 256 (Et t B d j)
 | 0=>fun x hx=>by simp[Et] at hx
 | j+1=>((JE ht h8 j).append (jr h8 j)).append (Bb ht (jr h8 j))
theorem vU{t B S:Nat}{d:List Nat}(ht:1≤t∧t≤8)(h8:aB 256 d)(h:d.length=S*B):(nU t S B d).length=jH S B t:=by
 unfold nU jH;rw[length_append,oO ht h8 h S (Nat.le_refl _)];rfl
theorem FL{t B S:Nat}{d:List Nat}(ht:1≤t∧t≤8)(h8:aB 256 d):aB 256 (nU t S B d):=(JE ht h8 S).append (fun x hx=>by rw[mem_singleton.1 hx];decide)
theorem _root_.Go.Sl.Seq.Pw{K:World}{H:List aA}{A:Option Addr}{m l u:Nat}{vs:List Value}(hs:Seq K H A m 1 vs)(hl:l≤m)(hu:m≤u):Seq K H (if u=l then A else A.map (·.add (l*1))) (m-l) 1 (vs.drop l):=by
 have hlen:=hs.len;refine⟨by rw[length_drop];omega,fun i v hi=> ?_⟩;rw[getElem?_drop] at hi;have Gb:l+i<vs.length:=(List.getElem?_eq_some_iff.1 hi).1;rw[if_neg ay];have :=hs.rd (l+i) v hi;intro w hw;obtain⟨a,h1,h2⟩:=this w hw;cases A with
 | none=>simp at h1
 | some a' =>
  refine⟨_,rfl, ?_⟩;simp only[Option.map_some,Option.some.injEq] at h1;rw[←h1] at h2;have h3:((a'.add (l*1)).add i)=a'.add (l+i):=by rw[Nat.mul_one];rcases eq_zero_or_pos l with h | h; · { subst h;rw[Nat.zero_add];rfl }; · { rcases eq_zero_or_pos i with h' | h'; · { subst h';rfl }; · { unfold Addr.add;rw[if_neg ay,if_neg ay,if_neg ay,Nat.add_assoc] } }
  show w.cell? ((a'.add (l*1)).add i)=some v;rw[h3];exact h2
section
variable{K:World}{F:List aA}
theorem JA(g:bL):aL prog 122 #[g.v] K F (.tuple (if g.may then #[.i g.room,.i 0] else #[.i 0,.i 1])):=by
 refine aC.en func122 ntmps122 ?_;refine aj "a&" fun b1=> ?_;refine aj "mtaG" ?_;refine WL.t1 call161 rfl (MF g _ _) rfl ?_;refine aj "jsk" (aX (fun aN=> ?_) fun aN=> ?_)
 ·have hm:g.may=false:=by cases h:g.may<;>simp[h] at aN ⊢
  refine aj "eD" ?_;rw[hm];exact aG.ret (H':=F) (bI.eY rfl rfl rfl) (fun w h=>h.drop 1) ⟨rfl,rfl⟩
 ·have hm:g.may=true:=by cases h:g.may<;>simp[h] at aN ⊢
  have hb:=bL.rX hm;have hr:=bL.Bt (a:=g.se) (b:=g.sb) (A:=8) (B:=512) (by unfold bL.aU at hb;omega) (by unfold bL.aU at hb;omega) (by unfold bL.aU at hb;omega) (by unfold bL.aU at hb;omega);refine aj "iapp" ?_;refine WL.val (V.OD (ak rfl) (ak rfl) (fun hc=>by omega)) rfl ?_;refine aj "D" ?_;refine aG.ret (H':=F) (bI.eY rfl rfl rfl) (fun w h=>h.drop 1) ⟨?_,rfl⟩;rw[hm];rfl
theorem abt{bl pg:Int}{S B t:Nat}{A:Option Addr}{m cap:Nat}{d:List Nat}(hg:(NG bl pg S B t).aU)(hd:Seq K F A m 1 (av .u8 d))(h8:aB 256 d)(hm:m=S*B)(O5:m≤cap) :
 aC prog 191 #[(NG bl pg S B t).v,.slice A m cap] K F
  (fun v H'=>∃A' cap',v= .tuple #[.slice A' (jH S B t) cap',.i 0]∧H'=bq (.slice A' (jH S B t) cap') 5 1 (jH S B t) (av .u8 (nU t S B d))::F):=by
 have hl:d.length=m:=by simpa [av] using hd.len
 have zY:(NG bl pg S B t).may=true:=decide_eq_true hg;have hN:=wZ.of hg;obtain⟨hs,hb,ht⟩:=hN;have agr:2≤aM t∧aM t≤13:=by unfold aM;omega
 have arh:m≤4096:=by rw[hm];exact Nat.mul_le_mul hs.2 hb.2
 have hm1:1*4≤m:=by rw[hm];exact Nat.mul_le_mul hs.1 hb.1
 refine aC.en func191 ntmps191 ?_;refine aj "a&" fun b2=> ?_;refine aj "mxG" ?_;refine WL.t1 call122 rfl (aL.eq (v':= .tuple #[.i (m:Int),.i 0]) (JA (NG bl pg S B t)) (by rw[zY,NG.room,hm];rfl)) rfl ?_;refine aj "CfscY~HY~*JbOiatu" ?_;refine WC.loop (σ:=Nat×Option Addr×Nat×Option Addr×Nat) (fun x=>[(1,.slice x.2.1 (m-x.1*B) x.2.2.1),(2,ptr b2 0),(8,.slice x.2.2.2.1 (x.1*(B+aM t)) x.2.2.2.2)]) (fun x=>bq (.slice x.2.2.2.1 (x.1*(B+aM t)) x.2.2.2.2) 5 1 (x.1*(B+aM t)) (av .u8 (Et t B d x.1))::ah b2 23 [.i bl,.i pg,.i (S:Int),.i (B:Int),.i (t:Int)]::F) (fun x=>x.1≤S∧m-x.1*B≤x.2.2.1∧Seq K F x.2.1 (m-x.1*B) 1 (av .u8 (d.drop (x.1*B)))) (fun x=>S-x.1) (0,A,cap,none,0) ⟨zero_le _,by show m-0*B≤cap;omega,by simpa using hd⟩ bM (fun w h=>by simpa [Et,av] using Sat.iG h 5 1) ?_;rintro⟨j,Aj,cj,Ao,co⟩ ⟨hj,hjc,hjs⟩;dsimp only at hj hjc hjs ⊢;have hjB:j*B≤m:=by rw[hm];exact mul_le_mul_right _ hj
 have nu:=oO ht h8 (hl.trans hm) j hj;refine aj "ro~UbX" (aX (fun aR=> ?_) fun aR=> ?_)
 ·have hjS:j<S:=by
   rcases Nat.lt_or_ge j S with h | h
   ·exact h
   ·exfalso;have :j=S:=ay;rw[this,←hm] at aR;omega
  have ZU:(j+1)*B≤m:=by rw[hm];exact mul_le_mul_right _ hjS
  rw[succ_mul] at ZU;have rQ:=sJ (hl.trans hm) hjS;have VU:Seq K F Aj B 1 (av .u8 (gH B d j)):=by
   have h1:=Seq.take hjs (show B≤m-j*B by omega);rw[dR] at h1;exact h1
  refine aj "1pp" ?_;refine WL.val (V.aI (v':= .slice Aj B B) (V.slice (l:=0) (h:=B) (u:=B) eu (ak rfl) OO.none (OO.some (ak rfl) (fun _=>rfl)) (OO.some (ak rfl) (fun _=>rfl)) (by simp) (zero_le _) (Nat.le_refl _) ay) (fun _=>by rw[show (B-0:Nat)=B from rfl];cases Aj<;>simp[Addr.add])) rfl ?_;refine aj "xpc" ?_;refine WL.c2 call242 rfl rfl (UH ht (VU.up.up) (jr h8 j) ay) rfl ?_;rintro _ _ ⟨Ae,ce,rfl,rfl⟩;refine aj "CgQ|" ?_;refine WL.append (m:=j*(B+aM t)) (q:=B) underlying34 zo (ak rfl) (ak rfl) (by repeat (first | exact VU | apply Seq.up)) (kE _ _) (by have :=Nat.mul_le_mul hj (show B+aM t≤525 by omega);omega) rfl rfl (fun A3 c3 MV eF=> ?_);refine WL.mv rfl rfl ?_;refine WL.append (m:=j*(B+aM t)+B) (q:=aM t) (news:=av .u8 (jg t (gH B d j))) underlying34 zo (ak rfl) (ak rfl) (bq.seq (by rw[au,sS ht (jr h8 j),Nat.mul_one])) (kE _ _) (by have :=Nat.mul_le_mul hj (show B+aM t≤525 by omega);omega) rfl rfl (fun A4 c4 hA4 mZ=> ?_);refine aj "ghp" ?_;refine WL.val (V.slice (l:=B) (h:=m-j*B) (u:=cj) eu (ak rfl) (OO.some (ak rfl) (fun _=>rfl)) OO.none OO.none (by simp) ay ay (Nat.le_refl _)) rfl ?_;refine aj "4" ?_;refine⟨(j+1,(if cj=B then Aj else Aj.map (·.add (B*1))),cj-B,A4,c4),⟨hjS,by show m-(j+1)*B≤cj-B;rw[succ_mul];omega, ?_⟩,(by show S-(j+1)<S-j;omega),.cons (look_eq rfl (by dsimp only;rw[succ_mul,Nat.sub_sub])) (.cons rfl (.cons (look_eq rfl (by dsimp only;rw[succ_mul,Nat.add_assoc])) (.nil _))),fun w h=> ?_⟩
  ·have h1:=Seq.Pw hjs (show B≤m-j*B by omega) hjc;rw[kT,drop_drop,Nat.sub_sub] at h1;dsimp only;rw[succ_mul];exact h1
  ·dsimp only;rw[succ_mul,←Nat.add_assoc,Et,dA,dA];exact h.aY 3 [0,2] rfl
 ·refine aj "Re" ?_;refine WL.buildSlice (E:=5) (cs:=[_]) (vs:=[(0,_)]) ⟨ak rfl,trivial⟩ rfl (jM _) rfl (fun b51=> ?_);obtain rfl:j=S:=by
   rcases Nat.lt_or_ge j S with h | h
   ·exfalso;have ZU:(j+1)*B≤m:=by rw[hm];exact mul_le_mul_right _ h
    rw[succ_mul] at ZU;omega
   ·omega
  refine aj "|" ?_;refine WL.append (m:=j*(B+aM t)) (q:=1) (news:=[.int .u8 0]) underlying34 zo (ak rfl) (ak rfl) (Seq.all rfl) (by intro u hu;rw[mem_singleton.1 hu];rfl) (by have :=Nat.mul_le_mul hj (show B+aM t≤525 by omega);omega) rfl rfl (fun A5 c5 Z5 uf=> ?_);refine aj "D" ?_;refine aG.ret (H':=bq (.slice A5 (jH j B t) c5) 5 1 (jH j B t) (av .u8 (nU t j B d))::F) (bI.eY rfl rfl rfl) (fun w h=> ?_) ⟨A5,c5,rfl,rfl⟩;have h':=h.aY 3 [0] rfl;unfold nU jH;rw[dA];exact h'
end
def Gm:Option (LL×Nat)→List Nat
 | none=>[]
 | some (p,_)=>p.1
def Xr:Option (LL×Nat)→Nat
 | none=>0
 | some (_,n)=>n
def ajo:Option (LL×Nat)→Nat
 | none=>50
 | some _=>0
theorem _root_.Go.Sl.Seq.pre{K:World}{H:List aA}{b T m:Nat}{cs vs:List Value}(hl:vs.length=m):Seq K (ah b T (vs++cs)::H) (some ⟨b,0,none⟩) m 1 vs:=by simp_all [Seq.here,Nat.mul_one,drop_zero,prefix_append]
theorem _root_.Go.Sl.aC.af5{P:Program}{K:World}{F:List aA}{f:FuncId}{args:Array Value}{post post':Value→List aA→Prop}(h:aC P f args K F post)(hp:∀v H',post v H'→∃oV,(∀w,Sat K w H'→Sat K w oV)∧post' v oV):aC P f args K F post':=fun w hw =>
 (h w hw).mono fun e w' ⟨v,H',h1,h2,h3⟩=>by
  obtain⟨oV,h4,h5⟩:=hp v H' h3;exact⟨v,oV,h1,h4 w' h2,h5⟩
section
variable{K:World}{F:List aA}
theorem Qv{t:Nat}{A B:Option Addr}{m q cap cap':Nat}{d mo:List Nat}(ht:1≤t∧t≤8)(hd:Seq K F A m 1 (av .u8 d))(hm:Seq K F B q 1 (av .u8 mo))(Gg:aB 256 d)(hm8:aB 256 mo)(uQ:1≤m∧m≤512)(GH:q=aM t) :
 aC prog 244 #[.i (t:Int),.slice A m cap,.slice B q cap'] K F
  (fun v H'=>∃A' c mA mm mc l,v= .tuple #[.slice A' (Gm (rW t d mo)).length c,.slice mA mm mc,.i (Xr (rW t d mo):Nat),.i (ajo (rW t d mo):Nat)] ∧
   iQ l A' (Gm (rW t d mo)).length 1 (av .u8 (Gm (rW t d mo)))∧H'=bN l::F):=by
 refine aC.af5 (Uf ht hd hm Gg hm8 uQ GH) (fun v H' h=> ?_);cases ho:rW t d mo with
 | none =>
  rw[ho] at h;obtain⟨rfl,rfl⟩:=h;exact⟨bN []::H',fun w hw=>Sat.all hw,none,0,none,0,0,[],rfl,iQ.nil,rfl⟩
 | some r =>
  obtain⟨p,n⟩:=r;rw[ho] at h;obtain⟨g1,c1,r1,g2,c2,r2,h1,h2,rfl,rfl⟩:=h;exact⟨bN [ah g1 5 (av .u8 p.1++r1)]::F,fun w hw=>Sat.all (Sat.aY 2 [0] rfl hw),_,_,_,_,_,_,rfl,iQ.here (fun K=>Seq.pre (au _ _)),rfl⟩
end
def Wj(n t:Nat)(raw:List Nat)(j:Nat):Bool:=decide (t<8*n-rM (gH n raw j))
def BF(n t:Nat)(raw:List Nat):Nat→Bool
 | 0=>false
 | j+1=>BF n t raw j||Wj n t raw j
theorem FY{n t:Nat}{raw:List Nat}{j:Nat}(h:Wj n t raw j=true):∀k,j<k→BF n t raw k=true
 | 0,hk=>absurd hk (not_lt_zero _)
 | k+1,hk=>by
  rw[BF];rcases Nat.lt_or_ge j k with h1 | h1
  ·rw[FY h k h1];rfl
  ·have :j=k:=by omega
   subst this;rw[h,Bool.or_true]
def gL(t S n:Nat)(raw:List Nat):Nat :=
 if raw.getD (S*n) 0=0 then 0 else if raw.getD (S*n) 0≠255 then 60 else if BF n t raw S=true then 60 else 61
section
variable{K:World}{F:List aA}
theorem YU{bl pg:Int}{S B t:Nat}{A:Option Addr}{m cap:Nat}{raw:List Nat}(hg:(NG bl pg S B t).aU)(hr:Seq K F A m 1 (av .u8 raw))(h8:aB 256 raw)(hm:m=jH S B t)(O5:m≤cap) :
 aL prog 243 #[(NG bl pg S B t).v,.slice A m cap] K F (.i (gL t S (B+aM t) raw:Nat)):=by
 have hl:raw.length=m:=by simpa [av] using hr.len
 have hN:=wZ.of hg;obtain⟨hs,hb,ht⟩:=hN;have agr:2≤aM t∧aM t≤13:=by unfold aM;omega
 obtain⟨n,hn⟩:∃n,n=B+aM t:=⟨_,rfl⟩;have hm2:m=S*n+1:=by rw[hm,hn];rfl
 have hSn:S*n≤8*525:=Nat.mul_le_mul hs.2 ay;rw[←hn];obtain⟨z,hz⟩:∃z,z=raw.getD (S*n) 0:=⟨_,rfl⟩;have dJ:gL t S n raw=if z=0 then 0 else if z≠255 then 60 else if BF n t raw S=true then 60 else 61:=by unfold gL;rw[hz]
 rw[dJ];have hz8:z<256:=by rw[hz];exact h8.at_ aK _
 have MR:∀ {X:aA},Rd K (X::F) (A.map (·.add (((m:Int)-1).toNat*1))) (.int .u8 (z:Nat)):=fun {X}=>by
  rw[show ((m:Int)-1).toNat=S*n by omega,hz];exact (hr.jv ay).up
 refine aC.en func243 ntmps243 ?_;refine aj "a&" fun b2=> ?_;refine aj "fco(" ?_;refine WL.val (V.eD eu (ak rfl) (ak rfl) (fun hc=>by omega) (fun hc=>MR)) rfl ?_;refine WL.val (V.load isAgg5 (ak rfl) (fun hc=>MR)) rfl ?_;refine aj "gue%gX" (aX (fun aN=> ?_) fun aN=> ?_)
 ·rw[if_pos ay];exact aj "I$" trivial
 ·rw[if_neg ay];refine aj "esg~d" (aX (fun aR=> ?_) fun aR=> ?_)
  ·rw[if_pos ay];exact aj "I$" trivial
  ·rw[if_neg ay];refine aj "iaG" ?_;refine WL.t1 call162 rfl (aL.eq (v':= .i (n:Int)) (Eu (NG bl pg S B t) hg _ _) (by rw[NG.whole,hn])) rfl ?_;refine aj "tagu" ?_;refine WC.loop (σ:=Nat) (fun j=>[(1,.slice A m cap),(2,ptr b2 0),(6,.i (n:Int)),(7,.i ((j*n:Nat):Int))]) (fun _=>ah b2 23 [.i bl,.i pg,.i (S:Int),.i (B:Int),.i (t:Int)]::F) (fun j=>j≤S∧BF n t raw j=false) (fun j=>S-j) 0 ⟨zero_le _,rfl⟩ bM cu ?_;rintro j ⟨hj,hjt⟩;have Gy:j*n≤S*n:=mul_le_mul_right _ hj;refine aj "rc~~~rco5bX" (aX (fun bB=> ?_) fun bB=> ?_)
   ·have hjS:j<S:=by
     rcases Nat.lt_or_ge j S with h | h
     ·exact h
     ·exfalso;have :j=S:=ay;rw[this] at bB;omega
    have ZU:(j+1)*n≤S*n:=mul_le_mul_right _ hjS;rw[succ_mul] at ZU;have VU:Seq K F (A.map (·.add (j*n*1))) n 1 (av .u8 (gH n raw j)):=by
     have h1:=Seq.Pw hr (l:=j*n) (u:=cap) ay O5;rw[if_neg ay] at h1;have h2:=Seq.take h1 (show n≤m-j*n by omega);rw[kT,dR] at h2;exact h2
    have hon:=Ow (gH n raw j);have rQ:(gH n raw j).length=n:=by unfold gH;rw[length_take,length_drop];omega
    rw[rQ] at hon;refine aj "HN~k+~~P++++" ?_;refine WQ.val (V.Ci (ak rfl) (ak rfl) (fun _=>by omega)) rfl ?_;refine WQ.val (V.aI (v':= .slice (A.map (·.add (j*n*1))) n (cap-j*n)) (V.slice (l:=j*n) (h:=j*n+n) (u:=cap) eu (ak rfl) (OO.some (ak rfl) (fun _=>rfl)) (OO.some (ak rfl) (fun _=>by omega)) OO.none (by simp) ay ay (Nat.le_refl _)) (fun _=>by rw[if_neg ay,Nat.add_sub_cancel_left])) rfl ?_;refine WQ.call (vs:=[_]) call282 ⟨ak rfl,trivial⟩ (L9 VU.up (jr h8 j) ay) rfl ?_;refine aj "~~@~y~G~~a~gX" (aX (fun eF=> ?_) fun eF=> ?_)
    ·have MQ:Wj n t raw j=true:=decide_eq_true ay;refine aj "I" ?_;rw[if_pos (FY MQ S hjS)];exact aj "$" trivial
    ·have MQ:Wj n t raw j=false:=decide_eq_false ay;refine aj "iQ" ?_;refine WL.val (V.aI (v':= .i (((j+1)*n:Nat):Int)) (V.Ci (ak rfl) (ak rfl) (fun _=>by omega)) (fun _=>by rw[succ_mul];simp)) rfl ?_;refine aj "4" ?_;exact⟨j+1,⟨hjS,by rw[BF,hjt,MQ];rfl⟩,(by show S-(j+1)<S-j;omega),.cons rfl bM,fun w h=>h⟩
   ·refine aj "RI" ?_;obtain rfl:j=S:=by
     rcases Nat.lt_or_ge j S with h | h
     ·exfalso;have ZU:(j+1)*n≤S*n:=mul_le_mul_right _ h;rw[succ_mul] at ZU;omega
     ·omega
    rw[hjt];exact aj "$" trivial
end
def CG(B n:Nat)(raw:List Nat)(j:Nat):List Nat:=(raw.drop (j*n)).take B
def RI(B n:Nat)(raw:List Nat)(j:Nat):List Nat:=((raw.drop (j*n)).drop B).take (n-B)
def BG(t B n:Nat)(raw:List Nat)(j:Nat):Option (LL×Nat):=rW t (CG B n raw j) (RI B n raw j)
structure Ea where
 A:Option Addr
 c:Nat
 o:Option (LL×Nat)
abbrev Ea.cells(r:Ea):List Value:=[.slice r.A (Gm r.o).length r.c,.i (Xr r.o:Nat),.i (ajo r.o:Nat)]
def jI(rs:List Ea):List Value:=rs.flatMap Ea.cells
def acv(l:List aA)(rs:List Ea):Prop:=∀r∈rs,iQ l r.A (Gm r.o).length 1 (av .u8 (Gm r.o))
theorem Gl(rs ss:List Ea):jI (rs++ss)=jI rs++jI ss:=flatMap_append
theorem CK:∀(rs:List Ea) (k:Nat) (r:Ea),rs[k]? =some r→∀i v,r.cells[i]? =some v→(jI rs)[k*3+i]? =some v
 | [],k,r,h=>by simp at h
 | r'::rs,0,r,h=>fun i v hi=>by
  simp only[getElem?_cons_zero,Option.some.injEq] at h;subst h;unfold jI;rw[flatMap_cons,Nat.zero_mul,Nat.zero_add,getElem?_append_left (List.getElem?_eq_some_iff.1 hi).1];exact hi
 | r'::rs,k+1,r,h=>fun i v hi=>by
  have ih:=CK rs k r (by simpa using h) i v hi;unfold jI at ih ⊢;rw[flatMap_cons,getElem?_append_right (by simp[Ea.cells];omega)];rw[←ih];congr 1;simp[Ea.cells];omega
section
variable{K:World}{F:List aA}
theorem IQ{bl pg:Int}{S B t:Nat}{A:Option Addr}{m cap:Nat}{raw:List Nat}(hg:(NG bl pg S B t).aU)(hr:Seq K F A m 1 (av .u8 raw))(h8:aB 256 raw)(hm:m=jH S B t)(O5:m≤cap) :
 aC prog 193 #[(NG bl pg S B t).v,.slice A m cap] K F
  (fun v H'=>(gL t S (B+aM t) raw≠0∧v= .tuple #[.slice none 0 0,.i (gL t S (B+aM t) raw:Nat)]∧H'=F) ∨
   (gL t S (B+aM t) raw=0∧∃A' cap' l rs,v= .tuple #[.slice A' S cap',.i 0]∧rs.map Ea.o=(List.range S).map (BG t B (B+aM t) raw)∧acv l rs ∧
    H'=bq (.slice A' S cap') 296 3 S (jI rs)::bN l::F)):=by
 have hl:raw.length=m:=by simpa [av] using hr.len
 have zY:(NG bl pg S B t).may=true:=decide_eq_true hg;have hN:=wZ.of hg;obtain⟨hs,hb,ht⟩:=hN;have agr:2≤aM t∧aM t≤13:=by unfold aM;omega
 have dJ:=fun (K:World) (F:List aA) (hr:Seq K F A m 1 (av .u8 raw))=>YU hg hr h8 hm O5;obtain⟨n,hn⟩:∃n,n=B+aM t:=⟨_,rfl⟩;have hm2:m=S*n+1:=by rw[hm,hn];rfl
 have hSn:S*n≤8*525:=Nat.mul_le_mul hs.2 ay;rw[←hn] at dJ ⊢;obtain⟨st,adW⟩:∃st,st=gL t S n raw:=⟨_,rfl⟩;rw[←adW] at dJ ⊢;have Cg:st<100:=by rw[adW];unfold gL;repeat (first | split | decide)
 refine aC.en func193 ntmps193 ?_;refine aj "a&" fun b2=> ?_;refine aj "mxG" ?_;refine WL.t1 call96 rfl (aL.eq (v':= .tuple #[.i (m:Int),.i 0]) (Ov (NG bl pg S B t) _ _) (by rw[zY,NG.raw,hm];rfl)) rfl ?_;refine aj "CfscY~HY~*JbO)aGc" ?_;refine WL.t2 call243 rfl rfl (dJ _ _ hr.up) rfl ?_;refine aj "jsb~d" (aX (fun aR=> ?_) fun aR=> ?_)
 ·have h1:=aR;refine aj "eD" ?_;exact aG.ret (H':=F) (bI.eY rfl rfl rfl) (fun w h=>h.drop 1) (.inl ⟨by omega,rfl,rfl⟩)
 ·have h1:=aR;refine aj "iatapP" ?_;refine WC.loop (σ:=Nat×Option Addr×Nat×Option Addr×Nat×List aA×List Ea) (fun x=>[(1,.slice x.2.1 (m-x.1*n) x.2.2.1),(2,ptr b2 0),(9,.slice x.2.2.2.1 x.1 x.2.2.2.2.1),(32,.i (S:Int)),(33,.i (x.1:Int))]) (fun x=>bq (.slice x.2.2.2.1 x.1 x.2.2.2.2.1) 296 3 x.1 (jI x.2.2.2.2.2.2)::bN x.2.2.2.2.2.1::ah b2 23 [.i bl,.i pg,.i (S:Int),.i (B:Int),.i (t:Int)]::F) (fun x=>x.1≤S∧m-x.1*n≤x.2.2.1∧Seq K F x.2.1 (m-x.1*n) 1 (av .u8 (raw.drop (x.1*n)))∧x.2.2.2.2.2.2.map Ea.o=(List.range x.1).map (BG t B n raw)∧acv x.2.2.2.2.2.1 x.2.2.2.2.2.2) (fun x=>S-x.1) (0,A,cap,none,0,[],[]) ⟨zero_le _,by show m-0*n≤cap;omega,by simpa using hr,rfl,fun r hr=>by simp at hr⟩ bM (fun w h=>Sat.iG (Sat.all h) 296 3) ?_;rintro⟨j,Aj,cj,Ao,co,la,rs⟩ ⟨hj,hjc,hjs,wV,EX⟩;dsimp only at hj hjc hjs wV EX ⊢;have Gy:j*n≤S*n:=mul_le_mul_right _ hj;have nW:rs.length=j:=by have :=congrArg List.length wV;simpa using this
  refine aj "UX" (aX (fun bB=> ?_) fun bB=> ?_)
  ·refine aj "HN" ?_;have hjS:j<S:=ay;have ZU:(j+1)*n≤S*n:=mul_le_mul_right _ hjS;rw[succ_mul] at ZU;have O1:Seq K F Aj B 1 (av .u8 (CG B n raw j)):=by
    have h1:=Seq.take hjs (show B≤m-j*n by omega);rw[dR] at h1;exact h1
   have pY:Seq K F (Aj.map (·.add (B*1))) (n-B) 1 (av .u8 (RI B n raw j)):=by
    have h1:=Seq.Pw hjs (l:=B) (u:=cj) ay hjc;rw[if_neg ay] at h1;have h2:=Seq.take h1 (show n-B≤m-j*n-B by omega);rw[kT,dR] at h2;exact h2
   refine aj "qG" ?_;refine WL.t1 call162 rfl (aL.eq (v':= .i (n:Int)) (Eu (NG bl pg S B t) hg _ _) (by rw[NG.whole,hn])) rfl ?_;refine aj "xA" fun b11=> ?_;refine aj "B" ?_;refine WC.fE (bq (.slice Ao j co) 296 3 j (jI rs)::bN la::ah b2 23 [.i bl,.i pg,.i (S:Int),.i (B:Int),.i (t:Int)]::F) (by kernel_rfl) ?_;refine aj "S0:1l2S3:4S5:6" ?_;refine WA.t 7 rfl (V.aI (v':= .slice Aj B B) (V.slice (l:=0) (h:=B) (u:=B) eu (ak rfl) OO.none (OO.some (ak rfl) (fun _=>rfl)) (OO.some (ak rfl) (fun _=>rfl)) (by simp) (zero_le _) (Nat.le_refl _) ay) (fun _=>by rw[show (B-0:Nat)=B from rfl];cases Aj<;>simp[Addr.add])) ?_;refine aj "l8S9::l;l<" ?_;refine WA.t 13 rfl (V.aI (v':= .slice (Aj.map (·.add (B*1))) (n-B) (n-B)) (V.slice (l:=B) (h:=n) (u:=n) eu (ak rfl) (OO.some (ak rfl) (fun _=>rfl)) (OO.some (ak rfl) (fun _=>rfl)) (OO.some (ak rfl) (fun _=>rfl)) (by simp) ay (Nat.le_refl _) ay) (fun _=>by rw[if_neg ay])) ?_;refine WA.o 14 rfl ?_;refine WL.c3 call244 rfl rfl rfl (Qv ht (by repeat (first | exact O1 | apply Seq.up)) (by repeat (first | exact pY | apply Seq.up)) (aB.take (aB.drop h8)) (aB.take (aB.drop (aB.drop h8))) ay ay) rfl ?_;rintro _ _ ⟨A1,c1,mA,mm,mc,l1,rfl,acZ,rfl⟩;refine aj "bl?~u@~uA~uB~uCSDnE~~~dbSFnG~~~dbSHnI~~~dbMe~~u" ?_;refine WL.buildSlice (E:=296) (cs:=[_,_,_]) (vs:=[(0,_)]) ⟨ak rfl,trivial⟩ rfl (Tw _ _ _) rfl (fun b62=> ?_);refine WL.sub (Sub.refl _) (fun w h=>h.aY 6 [3,0,1,4,5] rfl) ?_;refine WL.append (m:=j) (q:=1) underlying265 ajG (ak rfl) (ak rfl) (Seq.all rfl) (by simp[Value.oneCell']) ay rfl rfl (fun A63 c63 alN as0=> ?_);refine aj "gQ" ?_;refine WL.val (V.slice (l:=n) (h:=m-j*n) (u:=cj) eu (ak rfl) (OO.some (ak rfl) (fun _=>rfl)) OO.none OO.none (by simp) ay ay (Nat.le_refl _)) rfl ?_;refine aj "g6" ?_;refine⟨(j+1,(if cj=n then Aj else Aj.map (·.add (n*1))),cj-n,A63,c63,bN l1::la,rs++[⟨A1,c1,BG t B n raw j⟩]),⟨hjS,by show m-(j+1)*n≤cj-n;rw[succ_mul];omega, ?_, ?_, ?_⟩,(by show S-(j+1)<S-j;omega),.cons (look_eq rfl (by dsimp only;rw[succ_mul,Nat.sub_sub])) bM,fun w h=> ?_⟩
   ·have h1:=Seq.Pw hjs (show n≤m-j*n by omega) hjc;rw[kT,drop_drop,Nat.sub_sub] at h1;dsimp only;rw[succ_mul];exact h1
   ·dsimp only;rw[map_append,wV,range_succ,map_append];rfl
   ·intro r ET;rcases mem_append.1 ET with h | h
    ·exact (EX r h).up
    ·rw[mem_singleton] at h;subst h;exact iQ.here (fun K=>iQ.seq acZ)
   ·have h':=(Sat.Ev (h.aY 5 [2,3,0,4] rfl)).p1;dsimp only;rw[Gl];exact h'
  ·refine aj "ReD" ?_;obtain rfl:j=S:=by omega
   exact aG.ret (H':=bq (.slice Ao j co) 296 3 j (jI rs)::bN la::F) (bI.eY rfl rfl rfl) (fun w h=>h.aY 3 [0,1] rfl) (.inr ⟨by omega,Ao,co,la,rs,rfl,wV,EX,rfl⟩)
end
structure RR where
 err:Nat
 d:List Nat
 n:Nat
def jT:List (Option (LL×Nat))→List Nat→Nat→RR
 | [],d,n=>⟨0,d,n⟩
 | none::_,_,_=>⟨50,[],0⟩
 | some (p,k)::rest,d,n=>jT rest (d++p.1) (max n k)
def fB(t S B:Nat)(raw:List Nat):RR :=
 if gL t S (B+aM t) raw≠0 then ⟨gL t S (B+aM t) raw,[],0⟩ else jT ((List.range S).map (BG t B (B+aM t) raw)) [] 0
theorem V9(t:Nat)(d m:List Nat)(h:d.length≤512)(ht:t≤8):(Gm (rW t d m)).length≤d.length∧Xr (rW t d m)≤5000:=by
 cases ho:rW t d m with
 | none=>exact⟨zero_le _,zero_le _⟩
 | some r =>
  unfold rW at ho;split at ho
  ·cases ho
  ·split at ho
   ·cases ho
   ·split at ho
    ·cases ho
    ·injection ho with ho
     subst ho;refine⟨Nat.le_of_eq (mQ _ _ _ _ _).1, ?_⟩;have :=IX t (uD (iB t (d,iq t m))) (wN (iB t (d,iq t m))) (d,iq t m) (13*t+8*d.length);show (dx _ _ _ _ _).2≤5000;omega
theorem ab2{K:World}{F:List aA}{A:Option Addr}{m cap E s:Nat}{cs:List Value}(hm:0<m):∀w,Sat K w (bq (.slice A m cap) E s m cs::F)→∃x:Nat×List Value,(A=some ⟨x.1,0,none⟩)∧Sat K w (ah x.1 E (cs++x.2)::F):=fun w hw=>by
 cases A with
 | none=>have :=(bq.F7 hw).1;omega
 | some a =>
  obtain⟨g,rfl⟩:=bq.addr hw;obtain⟨r,_,h5⟩:=Sat.rY hw;exact⟨(g,r),rfl,h5⟩
section
variable{K:World}{F:List aA}
theorem aaF{bl pg:Int}{S B t:Nat}{A:Option Addr}{m cap:Nat}{raw:List Nat}(hg:(NG bl pg S B t).aU)(hr:Seq K F A m 1 (av .u8 raw))(h8:aB 256 raw)(hm:m=jH S B t)(O5:m≤cap) :
 aC prog 156 #[(NG bl pg S B t).v,.slice A m cap] K F
  (fun v H'=>∃A' cap',v= .tuple #[.slice A' (fB t S B raw).d.length cap',.i ((fB t S B raw).n:Nat),.i ((fB t S B raw).err:Nat)] ∧
   H'=bq (.slice A' (fB t S B raw).d.length cap') 5 1 (fB t S B raw).d.length (av .u8 (fB t S B raw).d)::F):=by
 have hl:raw.length=m:=by simpa [av] using hr.len
 have hN:=wZ.of hg;obtain⟨hs,hb,ht⟩:=hN;obtain⟨R,hR⟩:∃R,R=fB t S B raw:=⟨_,rfl⟩;rw[←hR];unfold fB at hR;refine aC.en func156 ntmps156 ?_;refine aj "a&" fun b2=> ?_;refine aj "mmxGc" ?_;refine WL.c2 call193 rfl rfl (IQ hg hr.up h8 hm O5) rfl ?_;rintro _ _ (⟨dJ,rfl,rfl⟩ | ⟨dJ,A1,c1,la,rs,rfl,wV,EX,rfl⟩)
 ·rw[if_pos dJ] at hR;obtain⟨st,adW⟩:∃st,st=gL t S (B+aM t) raw:=⟨_,rfl⟩;rw[←adW] at dJ hR ⊢;refine aj "~~R" ?_;refine WL.val (V.extract (ak rfl) rfl) rfl (WL.val (V.extract (ak rfl) rfl) rfl (aj "~+~+BNq~~Rsb" ?_));refine WC.NC rfl (by simp;omega) ?_;refine aj "Nq~~R~+~+~+3" ?_;exact aG.ret (H':=bq (.slice none 0 0) 5 1 0 []::F) (bI.zR rfl rfl rfl rfl) (fun w h=>Sat.iG (h.drop 1) _ _) ⟨none,0,by rw[hR];rfl,by rw[hR];rfl⟩
 rw[if_neg (fun h=>h dJ)] at hR;refine WL.ex (ab2 ay) (fun ⟨g1,r1⟩ e1=> ?_);dsimp only at e1 ⊢;subst e1;refine aj "CfsbOiaxtN" ?_;obtain⟨os,ZT⟩:∃os,os=(List.range S).map (BG t B (B+aM t) raw):=⟨_,rfl⟩;rw[←ZT] at wV hR;have J2:os.length=S:=by rw[ZT];simp
 have nW:rs.length=S:=by rw[←J2,←wV,length_map]
 have hob:∀o∈os,(Gm o).length≤512∧Xr o≤5000:=fun o ho=>by
  rw[ZT] at ho;obtain⟨j,hj,rfl⟩:=mem_map.1 ho;have :=V9 t (CG B (B+aM t) raw j) (RI B (B+aM t) raw j) (by unfold CG;rw[length_take];omega) ht.2;have h2:(CG B (B+aM t) raw j).length≤512:=by unfold CG;rw[length_take];omega
  exact⟨Nat.le_trans this.1 h2,this.2⟩
 refine aj "hoP" ?_;refine WC.loop (σ:=Nat×Option Addr×Nat×List Nat×Nat) (fun x=>[(22,.slice (some ⟨g1,0,none⟩) S c1),(23,.i (S:Int)),(24,.i (x.1:Int)),(9,.slice x.2.1 x.2.2.2.1.length x.2.2.1),(10,.i (x.2.2.2.2:Int))]) (fun x=>bq (.slice x.2.1 x.2.2.2.1.length x.2.2.1) 5 1 x.2.2.2.1.length (av .u8 x.2.2.2.1)::ah g1 296 (jI rs++r1)::bN la::ah b2 23 [.i bl,.i pg,.i (S:Int),.i (B:Int),.i (t:Int)]::F) (fun x=>x.1≤S∧x.2.2.2.1.length≤x.1*512∧x.2.2.2.2≤5000∧jT (os.drop x.1) x.2.2.2.1 x.2.2.2.2=jT os [] 0) (fun x=>S-x.1) (0,none,0,[],0) ⟨zero_le _,zero_le _,zero_le _,rfl⟩ bM (fun w h=>Sat.iG h 5 1) ?_;rintro⟨k,Ao,co,d,mx⟩ ⟨hk,uQ,hmx,MQ⟩;dsimp only at hk uQ hmx MQ ⊢;refine aj "UX" (aX (fun aR=> ?_) fun aR=> ?_)
 ·refine aj "HN" ?_;have hkS:k<S:=ay;obtain⟨r,DX⟩:∃r,rs[k]? =some r:=⟨_,getElem?_eq_getElem ay⟩;have hro:os[k]? =some r.o:=by rw[←wV,getElem?_map,DX];rfl
  have Gd:os.drop k=r.o::os.drop (k+1):=by
   rw[drop_eq_getElem_cons ay];congr 1;rw[getElem?_eq_getElem ay] at hro;exact Option.some.inj hro
  have anM:=EX r (mem_of_getElem? DX);have SF:=hob r.o (mem_of_getElem? hro);rw[Gd] at MQ;have ahy:∀ {X:aA} {H:List aA},gD K (X::ah g1 296 (jI rs++r1)::H) g1 (0+(k:Int).toNat*3) r.cells:=fun {X H} i v hi=>by
   refine Rd.up (Rd.here ?_);have h1:=CK rs k r DX i v hi;rw[show 0+(k:Int).toNat*3=k*3 by omega,getElem?_append_left (List.getElem?_eq_some_iff.1 h1).1];exact h1
  refine aj "q~z" ?_;refine WL.val (V.gG (vs:=r.cells) ⟨isAgg296,sizeOf296⟩ (ak rfl) rfl (fun _=>ahy)) rfl ?_;refine aj "A" fun b12=> ?_;refine aj "~;Bapsb~d" (aX (fun bB=> ?_) fun bB=> ?_)
  ·have h2:=bB;refine aj "N~k~y~G~m~m~m~g~D" ?_;have Ce:r.o=none:=by
    cases ho:r.o with
    | none=>rfl
    | some q=>rw[ho] at h2;exact absurd rfl h2
   have hR2:R=⟨50,[],0⟩:=by rw[hR,←MQ,Ce];rfl
   exact aG.ret (H':=bq (.slice none 0 0) 5 1 0 []::F) (bI.zR rfl rfl rfl (look_eq rfl (by rw[Ce]))) (fun w h=>Sat.iG (h.drop 5) _ _) ⟨none,0,by rw[hR2];rfl,by rw[hR2];rfl⟩
  ·have h2:=bB;refine aj "Zp" ?_;obtain⟨q,hq⟩:∃q,r.o=some q:=by
    cases ho:r.o with
    | none=>rw[ho] at h2;exact absurd h2 aK
    | some q=>exact⟨q,rfl⟩
   refine aj "|" ?_;refine WL.append (m:=d.length) (q:=(Gm r.o).length) (news:=av .u8 (Gm r.o)) underlying34 zo (ak rfl) (ak rfl) (by repeat (first | exact iQ.seq anM | apply Seq.up)) (kE _ _) ay rfl rfl (fun A36 c36 anc amS=> ?_);refine aj "ghp~~og6" ?_;obtain⟨⟨p1,p2⟩,nq⟩:=q;rw[hq] at SF MQ;have hdq:Gm r.o=p1:=by rw[hq];rfl
   have hnq:Xr r.o=nq:=by rw[hq];rfl
   refine⟨(k+1,A36,c36,d++p1,max mx nq),⟨hkS,by show (d++p1).length≤(k+1)*512;have :=SF.1;rw[length_append];simp only[Gm] at this;omega,by show max mx nq≤5000;have :=SF.2;simp only[Xr] at this;omega,by dsimp only;rw[←MQ];rfl⟩,(by show S-(k+1)<S-k;omega),.cons rfl (.cons rfl (.cons (look_eq rfl (by simp)) (.cons (look_eq rfl (by dsimp only;rw[length_append,hdq])) (.cons (look_eq rfl (by dsimp only;rw[hnq];congr 1;omega)) (.nil _))))),fun w h=> ?_⟩;have h':=h.aY 5 [0,2,3,4] rfl;rw[hdq,←dA,←length_append] at h';exact h'
 ·refine aj "RecmD" ?_;obtain rfl:k=S:=by omega
  have hR2:R=⟨0,d,mx⟩:=by rw[hR,←MQ,drop_of_length_le ay];rfl
  exact aG.ret (H':=bq (.slice Ao d.length co) 5 1 d.length (av .u8 d)::F) (bI.zR rfl rfl rfl rfl) (fun w h=>h.aY 4 [0] rfl) ⟨Ao,co,by rw[hR2];rfl,by rw[hR2]⟩
end
def gX(xs:List Int):List Nat:=xs.map Int.toNat
theorem su{xs:List Int}(h:bQ xs):ints .u8 xs=av .u8 (gX xs):=by
 unfold ints av gX;rw[map_map];apply map_congr_left;intro x hx;have :=h x hx;show Value.int .u8 x=Value.int .u8 ((x.toNat:Nat):Int);congr 1;omega
theorem nI{xs:List Int}(h:bQ xs):aB 256 (gX xs):=fun y hy=>by
 obtain⟨x,hx,rfl⟩:=mem_map.1 hy;have :=h x hx;omega
theorem jO(xs:List Int):(gX xs).length=xs.length:=by simp[gX]
def bF(xs:List Nat):List Int:=xs.map fun x:Nat=>(x:Int)
theorem kR{xs:List Nat}(h:aB 256 xs):bQ (bF xs):=fun y hy=>by
 obtain⟨x,hx,rfl⟩:=mem_map.1 hy;have :=h x hx;omega
theorem om(xs:List Nat):gX (bF xs)=xs:=by
 unfold gX bF;rw[map_map]
 conv=>rhs;rw[←map_id xs]
 apply map_congr_left;intro x _;rfl
theorem mO(k:IntKind)(xs:List Nat):av k xs=ints k (bF xs):=EA k xs
namespace aD
def ahead(S:aD)(b p:Int)(ok:Bool):Int:=if S.up=false then 70 else if b<0∨S.g.bl≤b∨p<0∨S.g.pg≤p∨ok=false then 1 else if S.bad b then 73 else 0
def done(b:Int)(x:aD×Int):aD×Int:=if x.2≠72 then x else if (x.1.mark b).2≠0 then x.1.mark b else ((x.1.mark b).1,72)
def cK(S:aD)(b:Int):aD×Int:=if S.ahead b 0 true≠0 then (S,S.ahead b 0 true) else done b (S.erase b)
end aD
abbrev dH(bd bc:Nat)(g:bL):aA:=ah bd 169 [ptr bc 0,.i g.bl,.i g.pg,.i g.se,.i g.sb,.i g.fl]
section
variable{bc bd:Nat}{C:Cw}{K:World}{F:List aA}
theorem YM(hC:C.Ok):aC prog 30 #[ptr bc 0] K (C.A bc::F) (fun v H'=>∃bd,v= .tuple #[ptr bd 0,.i 0]∧H'=C.A bc::dH bd bc C.g::F):=by
 refine aC.en func30 ntmps30 ?_;refine aj "amf~abOZc" ?_;refine WL.t1 call98 rfl (KS) rfl ?_;refine WL.val (V.build (vs:=[(0,_),(1,_)]) ⟨ak rfl,ak rfl,trivial⟩ rfl (TG _ _ _ _ _ _)) rfl ?_;refine WL.box (cs:=[_,_,_,_,_,_]) (ak rfl) rfl rfl (fun b10=> ?_);refine aj "D" ?_;exact aG.ret (H':=C.A bc::dH b10 bc C.g::F) (bI.eY rfl rfl rfl) (fun w h=>h.p1) ⟨b10,rfl,rfl⟩
theorem kC{g:bL}:aL prog 100 #[ptr bd 0] K (C.A bc::dH bd bc g::F) g.v:=by
 refine aC.en func100 ntmps100 ?_;refine aj "aA" fun b2=> ?_;refine aj "br~abOZLGK3" ?_;exact aG.ret (H':=C.A bc::dH bd bc g::F) (bI.one rfl (R1.nG (vs:=[_,_,_,_,_]) rfl ⟨isAgg23,sizeOf23⟩ rfl Bn)) (fun w h=>h.drop 1) ⟨rfl,rfl⟩
theorem sj(b p:Int)(ok:Bool):aL prog 154 #[ptr bd 0,.i b,.i p,.bool ok] K (C.A bc::dH bd bc C.g::F) (.i (C.aF.ahead b p ok)):=by
 refine aC.en func154 ntmps154 ?_;refine aj "atue~agOe,p" ?_;refine WL.t1 call185 rfl (VN) rfl ?_;refine aj "*gE" (aX (fun aR=> ?_) fun aR=> ?_)
 ·simp only[Bool.not_eq_true',Bool.not_eq_false'] at aR;have nP:=aR;refine aj "I" ?_;exact qR (C.A bc::dH bd bc C.g::F) rfl rfl cu ⟨by unfold aD.ahead;rw[if_pos (show C.aF.up=false from nP)],rfl⟩
 ·simp only[Bool.not_eq_true',Bool.not_eq_false'] at aR;have nP:=aR;refine aj "e5cYY~~n~Y~Y~b~~QJcY~_JcYY~~n~Y~Y~b~~QJcY~~xJgE" (aX (fun bB=> ?_) fun bB=> ?_)
  ·simp only[Bool.or_eq_true,Bool.or_eq_false_iff,oD] at bB;have h2:=bB;refine aj "I" ?_;exact qR (C.A bc::dH bd bc C.g::F) rfl rfl cu ⟨by unfold aD.ahead;rw[if_neg (show ¬C.aF.up=false by rw[show C.aF.up=C.up from rfl,nP];decide),if_pos (by show b<0∨C.g.bl≤b∨p<0∨C.g.pg≤p∨ok=false;simp only[or_assoc] at h2;exact h2)],rfl⟩
  ·simp only[Bool.or_eq_true,Bool.or_eq_false_iff,oD] at bB;have h2:=bB;refine aj "e,pc" ?_;refine WL.t2 call186 rfl rfl (R4 b) rfl ?_;refine aj "gE" (aX (fun eF=> ?_) fun eF=> ?_)
   ·have h3:=eF;refine aj "I" ?_;exact qR (C.A bc::dH bd bc C.g::F) rfl rfl cu ⟨by unfold aD.ahead;rw[if_neg (show ¬C.aF.up=false by rw[show C.aF.up=C.up from rfl,nP];decide),if_neg (by show ¬(b<0∨C.g.bl≤b∨p<0∨C.g.pg≤p∨ok=false);obtain⟨⟨⟨⟨q1,q2⟩,q3⟩,q4⟩,q5⟩:=h2;rw[q5];simp;omega),if_pos h3],rfl⟩
   ·have h3:=eF;refine aj "iI" ?_;exact qR (C.A bc::dH bd bc C.g::F) rfl rfl cu ⟨by unfold aD.ahead;rw[if_neg (show ¬C.aF.up=false by rw[show C.aF.up=C.up from rfl,nP];decide),if_neg (by show ¬(b<0∨C.g.bl≤b∨p<0∨C.g.pg≤p∨ok=false);obtain⟨⟨⟨⟨q1,q2⟩,q3⟩,q4⟩,q5⟩:=h2;rw[q5];simp;omega),if_neg (by rw[h3];decide)],rfl⟩
theorem Sz(hC:C.Ok)(b e:Int):aC prog 171 #[.i b,.i e,.func (.func 173) #[ptr bc 0] #[]] K (C.A bc::F)
 (fun v H'=>∃C':Cw,C'.Ok∧H'=C'.A bc::F∧C'.aF=(aD.done b (C.aF,e)).1∧v= .i (aD.done b (C.aF,e)).2):=by
 refine aC.en func171 ntmps171 ?_;refine aj "afsb~d" (aX (fun aN=> ?_) fun aN=> ?_)
 ·have h0:=aN;have hd:aD.done b (C.aF,e)=(C.aF,e):=by unfold aD.done;rw[if_pos aN]
  refine aj "ed" ?_;exact qR (C.A bc::F) rfl rfl cu ⟨C,hC,rfl,by rw[hd],by rw[hd]⟩
 ·have h0:=aN;have hd:aD.done b (C.aF,e)=if (C.aF.mark b).2≠0 then C.aF.mark b else ((C.aF.mark b).1,72):=by unfold aD.done;rw[if_neg (by simpa using aN)]
  refine aj "irc" ?_;refine WL.nC (first:=[ptr bc 0]) (vs:=[_]) (captured:=[]) call173 (ak rfl) ⟨ak rfl,trivial⟩ (Yg hC b) rfl ?_;rintro _ _ ⟨C1,Me,rfl,s1,rfl⟩;refine aj "jsb~d" (aX (fun aR=> ?_) fun aR=> ?_)
  ·rw[if_pos aR] at hd;refine aj "ed" ?_;exact qR (C1.A bc::F) rfl rfl cu ⟨C1,Me,rfl,by rw[hd,s1],by rw[hd]⟩
  ·rw[if_neg (by simpa using aR)] at hd;refine aj "Zd" ?_;exact qR (C1.A bc::F) rfl rfl cu ⟨C1,Me,rfl,by rw[hd,s1],by rw[hd,h0]⟩
theorem QT(hC:C.Ok)(b:Int):aC prog 104 #[ptr bd 0,.i b] K (C.A bc::dH bd bc C.g::F)
 (fun v H'=>∃C':Cw,C'.Ok∧H'=C'.A bc::dH bd bc C.g::F∧C'.aF=(C.aF.cK b).1∧v= .i (C.aF.cK b).2):=by
 refine aC.en func104 ntmps104 ?_;refine aj "afc" ?_;refine WL.t4 call154 rfl rfl rfl rfl (sj b 0 true) rfl ?_;refine aj "jsb~d" (aX (fun aN=> ?_) fun aN=> ?_)
 ·have hd:C.aF.cK b=(C.aF,C.aF.ahead b 0 true):=by unfold aD.cK;rw[if_pos aN]
  refine aj "ed" ?_;exact qR (C.A bc::dH bd bc C.g::F) rfl rfl cu ⟨C,hC,rfl,by rw[hd],by rw[hd]⟩
 ·have hd:C.aF.cK b=aD.done b (C.aF.erase b):=by unfold aD.cK;rw[if_neg (by simpa using aN)]
  refine aj ")" ?_;refine WC.fE (dH bd bc C.g::F) (by kernel_rfl) ?_;refine aj "l0l1@2S3:4l5l7@8S9::" ?_;refine WA.t 11 rfl (V.makeFunc (us:=[_]) (vs:=[]) ⟨ak rfl,trivial⟩ trivial) ?_;refine WA.o 6 rfl ?_;refine WL.c2 call172 rfl rfl (TB hC b) rfl ?_;rintro _ _ ⟨C1,Me,rfl,s1,rfl⟩;refine aj "bn<" ?_;refine WL.c3 call171 rfl rfl rfl (Sz Me b _) rfl ?_;rintro _ _ ⟨C2,AQ,rfl,s2,rfl⟩;refine aj "b~w=M~D" ?_;exact qR (C2.A bc::dH bd bc C.g::F) rfl rfl cu ⟨C2,AQ,rfl,by rw[hd,s2,s1],by rw[hd,s1]⟩
end
namespace aD
def room(S:aD):Nat:=S.g.se.toNat*S.g.sb.toNat
def fF(g:bL)(d:List Nat):List Nat:=nU g.fl.toNat g.se.toNat g.sb.toNat d
def dL(S:aD)(b p:Int)(d:List Nat):aD×Int :=
 if S.ahead b p (decide (d.length=S.room))≠0 then (S,S.ahead b p (decide (d.length=S.room))) else done b (S.program b p (bF (fF S.g d)))
structure Got where
 err:Int
 d:List Nat
 n:Nat
def jH(S:aD)(b p:Int):List Nat:=gX (S.reads b p)
def bX(S:aD)(b p:Int):Got :=
 if S.ahead b p true≠0 then ⟨S.ahead b p true,[],0⟩
 else ⟨(fB S.g.fl.toNat S.g.se.toNat S.g.sb.toNat (S.jH b p)).err,(fB S.g.fl.toNat S.g.se.toNat S.g.sb.toNat (S.jH b p)).d,(fB S.g.fl.toNat S.g.se.toNat S.g.sb.toNat (S.jH b p)).n⟩
def pV(S:aD)(b p:Int):Nat:=gL S.g.fl.toNat S.g.se.toNat (S.g.sb.toNat+aM S.g.fl.toNat) (S.jH b p)
def kW(S:aD)(b:Int):Nat→Bool
 | 0=>true
 | k+1=>kW S b k&&decide (S.pV b (k:Nat)=0)
def ny(S:aD)(b n:Int):Bool×Int :=
 if S.ahead b 0 (decide (0≤n)&&decide (n≤S.g.pg))=73 then (false,0)
 else if S.ahead b 0 (decide (0≤n)&&decide (n≤S.g.pg))≠0 then (false,S.ahead b 0 (decide (0≤n)&&decide (n≤S.g.pg)))
 else (S.kW b n.toNat,0)
def fK(S:aD):Nat→List Int
 | 0=>[]
 | k+1=>if (S.up&& !S.bad (k:Int))=true then fK S k++[(k:Int)] else fK S k
def iF(S:aD):List Int:=S.fK S.g.bl.toNat
theorem jN(S:aD):∀k,(S.fK k).length≤k
 | 0=>Nat.le_refl _
 | k+1=>by
  have :=jN S k;rw[fK];split
  ·rw[length_append];simp;omega
  ·omega
theorem Ca{S:aD}{b p:Int}{ok:Bool}(h:S.ahead b p ok=0):S.up=true∧(0≤b∧b<S.g.bl∧0≤p∧p<S.g.pg)∧ok=true∧S.bad b=false:=by
 unfold ahead at h;split at h
 ·cases h
 ·rename_i h1;split at h
  ·cases h
  ·rename_i h2;split at h
   ·cases h
   ·rename_i h3;cases oK:ok with
    | false=>exact absurd (.inr (.inr (.inr (.inr oK)))) h2
    | true=>exact⟨by simpa using h1,by omega,rfl,by simpa using h3⟩
theorem YO{S:aD}{b p:Int}{ok:Bool}(h:S.ahead b p ok=0):S.gU b p=0:=by
 obtain⟨h1,h2,_,_⟩:=Ca h;unfold gU pG block;rw[if_neg (by rw[h1];decide),if_neg (by simp;omega)]
end aD
theorem kS{g:bL}(h:g.aU):g=NG g.bl g.pg g.se.toNat g.sb.toNat g.fl.toNat:=by
 unfold bL.aU at h;obtain⟨a,b,c,d,e⟩:=g;dsimp only at h ⊢;unfold NG;congr 1<;>omega
theorem bL.vw{g:bL}(h:g.aU):g.raw=((jH g.se.toNat g.sb.toNat g.fl.toNat:Nat):Int):=by
 have h1:=NG.raw (bl:=g.bl) (pg:=g.pg) (S:=g.se.toNat) (B:=g.sb.toNat) (t:=g.fl.toNat);rw[←kS h] at h1;exact h1
theorem bL.JR{g:bL}(h:g.aU):g.room=((g.se.toNat*g.sb.toNat:Nat):Int):=by
 have h1:=NG.room (bl:=g.bl) (pg:=g.pg) (S:=g.se.toNat) (B:=g.sb.toNat) (t:=g.fl.toNat);rw[←kS h] at h1;exact h1
section
variable{bc bd:Nat}{C:Cw}{K:World}{F:List aA}
theorem YI{g:bL}{A:Option Addr}{m cap:Nat}{d:List Nat}(hg:g.aU)(hd:Seq K F A m 1 (av .u8 d))(h8:aB 256 d)(hm:m=g.se.toNat*g.sb.toNat)(O5:m≤cap) :
 aC prog 191 #[g.v,.slice A m cap] K F
  (fun v H'=>∃A' cap',v= .tuple #[.slice A' g.raw.toNat cap',.i 0]∧H'=bq (.slice A' g.raw.toNat cap') 5 1 g.raw.toNat (av .u8 (aD.fF g d))::F):=by
 have h:=abt (bl:=g.bl) (pg:=g.pg) (S:=g.se.toNat) (B:=g.sb.toNat) (t:=g.fl.toNat) (by rw[←kS hg];exact hg) hd h8 hm O5;rw[←kS hg] at h;rw[bL.vw hg,Int.toNat_natCast];exact h
theorem Xx{g:bL}{A:Option Addr}{m cap:Nat}{raw:List Nat}(hg:g.aU)(hr:Seq K F A m 1 (av .u8 raw))(h8:aB 256 raw)(hm:m=g.raw.toNat)(O5:m≤cap) :
 aC prog 156 #[g.v,.slice A m cap] K F
  (fun v H'=>∃A' cap',v= .tuple #[.slice A' (fB g.fl.toNat g.se.toNat g.sb.toNat raw).d.length cap',.i ((fB g.fl.toNat g.se.toNat g.sb.toNat raw).n:Nat),.i ((fB g.fl.toNat g.se.toNat g.sb.toNat raw).err:Nat)] ∧
   H'=bq (.slice A' (fB g.fl.toNat g.se.toNat g.sb.toNat raw).d.length cap') 5 1 (fB g.fl.toNat g.se.toNat g.sb.toNat raw).d.length (av .u8 (fB g.fl.toNat g.se.toNat g.sb.toNat raw).d)::F):=by
 have h:=aaF (bl:=g.bl) (pg:=g.pg) (S:=g.se.toNat) (B:=g.sb.toNat) (t:=g.fl.toNat) (by rw[←kS hg];exact hg) hr h8 (by rw[hm,bL.vw hg,Int.toNat_natCast]) O5;rw[←kS hg] at h;exact h
theorem Qe{g:bL}{A:Option Addr}{m cap:Nat}{raw:List Nat}(hg:g.aU)(hr:Seq K F A m 1 (av .u8 raw))(h8:aB 256 raw)(hm:m=g.raw.toNat)(O5:m≤cap) :
 aC prog 193 #[g.v,.slice A m cap] K F
  (fun v H'=>∃A' n' cap',v= .tuple #[.slice A' n' cap',.i (gL g.fl.toNat g.se.toNat (g.sb.toNat+aM g.fl.toNat) raw:Nat)]∧H'=F):=by
 have h:=IQ (bl:=g.bl) (pg:=g.pg) (S:=g.se.toNat) (B:=g.sb.toNat) (t:=g.fl.toNat) (by rw[←kS hg];exact hg) hr h8 (by rw[hm,bL.vw hg,Int.toNat_natCast]) O5;rw[←kS hg] at h;refine aC.af5 h (fun v H' hp=> ?_);rcases hp with ⟨h1,rfl,rfl⟩ | ⟨h1,A',cap',l,rs,rfl,_,_,rfl⟩
 ·exact⟨H',fun w hw=>hw,_,_,_,rfl,rfl⟩
 ·exact⟨F,fun w hw=>hw.drop 2,A',_,cap',by rw[h1];rfl,rfl⟩
theorem R7(hC:C.Ok)(b p:Int){A:Option Addr}{m cap:Nat}{d:List Nat}(hd:Seq K F A m 1 (av .u8 d))(h8:aB 256 d)(O5:m≤cap)(hm:m≤1000000) :
 aC prog 124 #[ptr bd 0,.i b,.i p,.slice A m cap] K (C.A bc::dH bd bc C.g::F)
 (fun v H'=>∃C':Cw,C'.Ok∧H'=C'.A bc::dH bd bc C.g::F∧C'.aF=(C.aF.dL b p d).1∧v= .i (C.aF.dL b p d).2):=by
 have hl:d.length=m:=by simpa [av] using hd.len
 have zY:C.g.may=true:=decide_eq_true hC.aU;refine aC.en func124 ntmps124 ?_;refine aj "aj" ?_;refine WL.t1 call100 rfl (kC) rfl ?_;refine WL.t1 call122 rfl (aL.eq (v':= .tuple #[.i C.g.room,.i 0]) (JA C.g) (by rw[zY];rfl)) rfl ?_;refine aj "Cfzcoc" ?_;refine WL.val (V.aI (v':= .bool (decide (d.length=C.aF.room))) (V.eql (ak rfl) (ak rfl)) (fun _=>by rw[bL.JR hC.aU,hl];congr 1;apply decide_eq_decide.2;show ((m:Int)=((C.g.se.toNat*C.g.sb.toNat:Nat):Int))↔m=C.g.se.toNat*C.g.sb.toNat;omega)) rfl ?_;refine WL.t4 call154 rfl rfl rfl rfl (sj b p _) rfl ?_;refine aj "jsb~d" (aX (fun aN=> ?_) fun aN=> ?_)
 ·have h0:=aN;have hdw:C.aF.dL b p d=(C.aF,C.aF.ahead b p (decide (d.length=C.aF.room))):=by unfold aD.dL;rw[if_pos aN]
  refine aj "ed" ?_;exact qR (C.A bc::dH bd bc C.g::F) rfl rfl cu ⟨C,hC,rfl,by rw[hdw],by rw[hdw]⟩
 ·have h0:=aN;have hdw:C.aF.dL b p d=aD.done b (C.aF.program b p (bF (aD.fF C.g d))):=by unfold aD.dL;rw[if_neg (by simpa using aN)];rfl
  have oK:=(aD.Ca aN).2.2.1;have hmr:m=C.g.se.toNat*C.g.sb.toNat:=by rw[←hl];exact of_decide_eq_true oK
  refine aj "ZLGc" ?_;refine WL.c2 call191 rfl rfl (YI hC.aU hd.up.up h8 hmr O5) rfl ?_;rintro _ _ ⟨Ap,cp,rfl,rfl⟩;refine aj "|" ?_;refine WL.nQ (fun w h=>(bq.shape h.p1.head)) (fun ⟨Aq,cq,hq,Hq,_⟩=> ?_);have hcp:C.g.raw.toNat≤cp:=by injection hq with q1 q2 q3;omega
  have hN:=wZ.of (bl:=C.g.bl) (pg:=C.g.pg) (by rw[←kS hC.aU];exact hC.aU);have nu:(aD.fF C.g d).length=C.g.raw.toNat:=by
   unfold aD.fF;rw[vU hN.t h8 (hl.trans hmr),bL.vw hC.aU,Int.toNat_natCast]
  have rP:aB 256 (aD.fF C.g d):=FL hN.t h8;refine aj "Ct" ?_;refine WC.fE (bq (.slice Ap C.g.raw.toNat cp) 5 1 C.g.raw.toNat (av .u8 (aD.fF C.g d))::dH bd bc C.g::F) (by kernel_rfl) ?_;refine aj "l0l1@2S3:4l5l6l7l9@:S;:<" ?_;refine WA.t 13 rfl (V.makeFunc (us:=[_]) (vs:=[]) ⟨ak rfl,trivial⟩ trivial) ?_;refine WA.o 8 rfl ?_;refine WL.c4 call192 rfl rfl rfl rfl (Nt hC b p (kR rP) (by rw[←mO];exact bq.seq (by rw[au,nu,Nat.mul_one])) hcp) rfl ?_;rintro _ _ ⟨C1,Me,rfl,s1,rfl⟩;refine aj "bn>" ?_;refine WL.c3 call171 rfl rfl rfl (Sz Me b _) rfl ?_;rintro _ _ ⟨C2,AQ,rfl,s2,rfl⟩;refine aj "b~w?M~D" ?_;exact qR (C2.A bc::dH bd bc C.g::F) rfl rfl (fun w h=>h.aY 2 [0] rfl) ⟨C2,AQ,rfl,by rw[hdw,s2,s1],by rw[hdw,s1]⟩
end
end Go.Proofs.YtcedojacbhnbiaaGreat
