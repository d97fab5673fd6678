import Derived.Test.YtcedojacbhnbiaaGreatP2
import Derived.Test.YtcedojacbhnbiaaGreatChecked
set_option linter.unusedSimpArgs false
set_option linter.unusedVariables false
set_option maxHeartbeats 2000000
set_option maxRecDepth 100000
namespace Go.Proofs.YtcedojacbhnbiaaGreat
open Go.Sl Go.RowKit Tryz List Nat
structure bL where
 (bl pg se sb fl:Int)
 deriving DecidableEq
namespace bL
abbrev v(g:bL):Value:= .agg #[.i g.bl,.i g.pg,.i g.se,.i g.sb,.i g.fl]
def aU(g:bL):Prop:=1≤g.bl∧g.bl≤256∧2≤g.pg∧g.pg≤64∧1≤g.se∧g.se≤8∧4≤g.sb∧g.sb≤512∧g.sb%4=0∧1≤g.fl∧g.fl≤8∧16≤g.se*g.sb
instance(g:bL):Decidable g.aU:=by unfold aU;infer_instance
def may(g:bL):Bool:=decide g.aU
def more(g:bL):Int:=(13*g.fl+7)/8
def whole(g:bL):Int:=g.sb+g.more
def raw(g:bL):Int:=g.se*g.whole+1
def room(g:bL):Int:=g.se*g.sb
theorem Bt{a b:Int}{A B:Int}(h1:0≤a)(h2:a≤A)(h3:0≤b)(h4:b≤B):0≤a*b∧a*b≤A*B:=⟨Int.mul_nonneg h1 h3,Int.mul_le_mul h2 h4 h3 ay⟩
theorem rX{g:bL}(h:g.may=true):g.aU:=by simpa [may] using h
theorem aeU{g:bL}(h:g.aU):2≤g.more∧g.more≤13:=by unfold aU at h;unfold more;omega
theorem aax{g:bL}(h:g.aU):6≤g.whole∧g.whole≤525:=by have :=aeU h;unfold aU at h;unfold whole;omega
theorem tJ{g:bL}(h:g.aU):7≤g.raw∧g.raw≤4201:=by
 have h1:=aax h;have h2:1≤g.se∧g.se≤8:=by unfold aU at h;omega
 have h3:=Bt (A:=8) (B:=525) (by omega:0≤g.se) h2.2 (by omega:0≤g.whole) h1.2;have h4:1*g.whole≤g.se*g.whole:=Int.mul_le_mul_of_nonneg_right h2.1 ay;unfold raw;omega
end bL
theorem qY(n low high:Int)(K:World)(F:List aA):aL prog 226 #[.i n,.i low,.i high] K F (.bool (decide (low≤n)&&decide (n≤high))):=by
 refine aC.en func226 ntmps226 ?_;exact aj "a0~ic88~~4Vd$" trivial
theorem MF(g:bL)(K:World)(F:List aA):aL prog 161 #[g.v] K F (.i (if g.may then 0 else 1)):=by
 refine aC.en func161 ntmps161 ?_;refine aj "a&" fun b1=> ?_;refine aj "xp" ?_;refine WL.t3 call226 rfl rfl rfl (qY _ _ _ _ _) rfl ?_;refine aj "c?=" ?_;refine WL.qh (oj:=_) (vs:=[_,_,_]) rfl rfl rfl GC.t call226 ⟨OV.g rfl id,ak rfl,ak rfl,trivial⟩ (fun hg=>qY _ _ _ _ _) rfl ?_;refine aj "Vc?=" ?_;refine WL.qh (oj:=_) (vs:=[_,_,_]) rfl rfl rfl GC.t call226 ⟨OV.g rfl id,ak rfl,ak rfl,trivial⟩ (fun hg=>qY _ _ _ _ _) rfl ?_;refine aj "Vc?=" ?_;refine WL.qh (oj:=_) (vs:=[_,_,_]) rfl rfl rfl GC.t call226 ⟨OV.g rfl id,ak rfl,ak rfl,trivial⟩ (fun hg=>qY _ _ _ _ _) rfl ?_;refine aj "Vc?=~~~i~EVc?=" ?_;refine WL.qh (oj:=_) (vs:=[_,_,_]) rfl rfl rfl GC.t call226 ⟨OV.g rfl id,ak rfl,ak rfl,trivial⟩ (fun hg=>qY _ _ _ _ _) rfl ?_;refine aj "Vc?=?=" ?_;refine WL.bG (oj:=_) rfl rfl rfl GC.t (V.OD (OV.g rfl id) (OV.g rfl id) (fun hc=>by simp at hc;have :=bL.Bt (a:=g.se) (b:=g.sb) (A:=8) (B:=512) ay ay ay ay;omega)) rfl ?_;refine aj "~LVf*k" (aX (fun aN=> ?_) fun aN=> ?_)
 ·simp only[lX] at aN;refine aj "I>" ?_;rw[if_neg (fun h=>by have h:=bL.rX h;unfold bL.aU at h;omega)]
 ·simp only[lX] at aN;refine aj "iI>" ?_;rw[if_pos (by unfold bL.may;rw[decide_eq_true_eq];unfold bL.aU;omega)]
theorem Q7(t:Int)(ht:1≤t∧t≤8)(K:World)(F:List aA):aL prog 227 #[.i t] K F (.tuple #[.i (13*t),.i 0]):=by
 refine aC.en func227 ntmps227 ?_;refine aj "amf5cY~lJb~1Z~ID" ?_;exact aG.ret (H':=F) (bI.eY rfl rfl rfl) gy ⟨rfl,rfl⟩
theorem Eu(g:bL)(h:g.aU)(K:World)(F:List aA):aL prog 162 #[g.v] K F (.i g.whole):=by
 have hb:=h;unfold bL.aU at hb;refine aC.en func162 ntmps162 ?_;refine aj "a&" fun b1=> ?_;refine aj "xp" ?_;refine WL.t1 call227 rfl (Q7 _ ay _ _) rfl ?_;exact aj "Cxpc.~7.d$" trivial
theorem Ov(g:bL)(K:World)(F:List aA):aL prog 96 #[g.v] K F (.tuple (if g.may then #[.i g.raw,.i 0] else #[.i 0,.i 1])):=by
 refine aC.en func96 ntmps96 ?_;refine aj "a&" fun b1=> ?_;refine aj "mtaG" ?_;refine WL.t1 call161 rfl (MF g _ _) rfl ?_;refine aj "jsk" (aX (fun aN=> ?_) fun aN=> ?_)
 ·have hm:g.may=false:=by cases h:g.may<;>simp[h] at aN ⊢
  refine aj "eD" ?_;rw[hm];exact aG.ret (H':=F) (bI.eY rfl rfl rfl) gy ⟨rfl,rfl⟩
 ·have hm:g.may=true:=by cases h:g.may<;>simp[h] at aN ⊢
  have hb:=bL.rX hm;have hr:=bL.tJ hb;unfold bL.raw at hr;refine aj ")~k~y~G~~w" ?_;refine WQ.call (vs:=[_]) call162 ⟨ak rfl,trivial⟩ (Eu g hb _ _) rfl ?_;refine WQ.val (V.OD (ak rfl) (ak rfl) (fun hc=>by omega)) rfl ?_;refine WQ.val (V.Ci (ak rfl) (ak rfl) (fun hc=>by omega)) rfl ?_;refine aj "~m~m~g~D" ?_;refine aG.ret (H':=F) (bI.eY rfl rfl rfl) gy ⟨?_,rfl⟩;rw[hm];rfl
theorem YL(g:bL)(K:World)(F:List aA):aL prog 59 #[g.v] K F (.bool g.may):=by
 refine aC.en func59 ntmps59 ?_;refine aj "a&" fun b1=> ?_;refine aj "xp~ic?=~VVc?=~LVc?=~VVc?=~LVc?=~VVc?=~LVc?=~VVc?=~~~i~EVc?=~LVc?=~VVc?=?=" ?_;refine WL.bG (oj:=_) rfl rfl rfl GC.t (V.OD (OV.g rfl id) (OV.g rfl id) (fun hc=>by simp at hc;have :=bL.Bt (a:=g.se) (b:=g.sb) (A:=8) (B:=512) ay ay ay ay;omega)) rfl ?_;refine aj "~LVd>" ?_;congr 1;rw[Bool.eq_iff_iff];unfold bL.may;rw[decide_eq_true_eq];unfold bL.aU;simp;omega
theorem Ig(g:bL)(h:g.aU)(K:World)(F:List aA):aL prog 60 #[g.v] K F (.i g.room):=by
 have hb:=h;unfold bL.aU at hb;have :=bL.Bt (a:=g.se) (b:=g.sb) (A:=8) (B:=512) ay ay ay ay;refine aC.en func60 ntmps60 ?_;refine aj "a&" fun b1=> ?_;exact aj "xpp~Id$" trivial
def bL.small(g:bL):Bool:= !g.may||(decide (g.room≤32)&&decide (g.bl≤16)&&decide (g.pg≤8))
end Go.Proofs.YtcedojacbhnbiaaGreat
namespace Go.Proofs.YtcedojacbhnbiaaGreat
open Go.Sl Go.ChangeShapes Go.WideShapes Go.ChangeAt Go.RowKit Tryz List Nat
theorem aaR:ownKnob prog.godebug=none:=by kernel_rfl
theorem GJ:laidOutB prog=true:=by kernel_rfl
set_option maxRecDepth 100000 in
theorem Ql{W:World}{r:Reach}{base:Nat}{v:Value}(h:Value.okWide prog W r base 23 v):∃g:bL,v=g.v:=by
 obtain⟨cs,rfl,Kl,hc⟩:=abA (ts:=[3,3,3,3,3]) ⟨_,underlying23,.inl ⟨_,rfl⟩⟩ (by kernel_rfl) (by kernel_rfl) h;obtain⟨l⟩:=cs
 match l,Kl with
 | [c0,c1,c2,c3,c4],_ =>
  obtain⟨x0,rfl,_⟩:=(hc 0 _ c0 rfl rfl).int underlying3;obtain⟨x1,rfl,_⟩:=(hc 1 _ c1 rfl rfl).int underlying3;obtain⟨x2,rfl,_⟩:=(hc 2 _ c2 rfl rfl).int underlying3;obtain⟨x3,rfl,_⟩:=(hc 3 _ c3 rfl rfl).int underlying3;obtain⟨x4,rfl,_⟩:=(hc 4 _ c4 rfl rfl).int underlying3;exact⟨⟨x0,x1,x2,x3,x4⟩,rfl⟩
def vK(P:Program)(fn:Func)(s:ChangeSpec)(c:OpenClaim):Bool :=
 c.wf (OpenSpec.ofChange s)&&fn.params.all (P.readableRec ·)&&namedTie P c.named s.vars &&
 (c.stops==[])&&(P.stops==[])&&(c.knobs==[])&&(P.stopKnobs==[]) &&
 (c.maps==(fn.params.toList++s.plain.varTypes P).any (P.mapsRec ·))&&(c.ifaces==(fn.params.toList++s.plain.varTypes P).any (P.ifacesRec ·))&&(c.mapsOut==P.mapsAmong fn.resultTypes.toList) &&
 (c.loops==(fn.params.toList++s.plain.varTypes P).any (P.loopsFrom ·))&&(c.wideKeys==(fn.params.toList++s.plain.varTypes P++fn.resultTypes.toList).any (P.wideKeysFrom ·)) &&
 s.vars.all (P.varReadable ·)&&fn.resultTypes.all (fun t=>P.readableRec t&&decide (t<P.types.size))&&(c.ifacesOut==fn.resultTypes.toList.any (P.ifacesRec ·))&&(c.loopsOut==fn.resultTypes.toList.any (P.loopsFrom ·))&&(c.plainKeys==P.plainKeys)&&c.shortTexts.isNone &&
 (c.kinds==(if c.domain.isEmpty then [] else fn.params.toList.map fun t=>match P.underlying t with | some (.int k)=>some k | _=>none))&&(c.pinned==c.pinnedBy) &&
 (c.veiled==(fn.params.toList++s.plain.varTypes P++fn.resultTypes.toList).any (P.veiledRec ·))&&c.veiledFits P fn.params.toList (fn.params.toList++s.plain.varTypes P++fn.resultTypes.toList)
theorem LD{P:Program}{f:FuncId}{fn:Func}{s:ChangeSpec}{c:OpenClaim}(h1:laidOutB P=true)(h2:mapsRowed P=true)(h7:P.stopsHeard=true)(h8:P.mayEnter=true)
 (h3:(c.inPlace==P.inPlace f)=true) (h4:(c.unfollowed==P.unfollowed f)=true) (h5:(c.recurses==P.recurses f)=true) (h6:(c.named==P.varsNamed f)=true)
 (h9:(c.lifted==P.liftsFinal)=true) (h10:(P.make==some c.make)=true) (rest:vK P fn s c=true):joinedFacts P f fn s c=true:=by
 simp only[vK,Bool.and_eq_true] at rest;obtain⟨⟨⟨⟨⟨⟨⟨⟨⟨⟨⟨⟨⟨⟨⟨⟨⟨⟨⟨⟨⟨r1,r2⟩,r3⟩,r4⟩,r5⟩,r6⟩,r7⟩,r8⟩,r9⟩,r10⟩,r11⟩,r12⟩,r13⟩,r14⟩,r15⟩,r16⟩,r17⟩,r18⟩,r19⟩,r20⟩,r21⟩,r22⟩:=rest;simp only[joinedFacts,Bool.and_eq_true];exact⟨⟨⟨⟨⟨⟨⟨⟨⟨⟨⟨⟨⟨⟨⟨⟨⟨⟨⟨⟨⟨⟨⟨⟨⟨⟨⟨⟨⟨⟨⟨r1,h1⟩,h2⟩,r2⟩,r3⟩,r4⟩,r5⟩,r6⟩,r7⟩,h3⟩,h4⟩,h5⟩,h6⟩,r8⟩,r9⟩,r10⟩,r11⟩,r12⟩,r13⟩,r14⟩,r15⟩,r16⟩,r17⟩,r18⟩,h7⟩,h8⟩,h9⟩,h10⟩,r19⟩,r20⟩,r21⟩,r22⟩
theorem abb:mapsRowed prog=true:=by kernel_rfl
theorem WI:Program.stopsHeard prog=true:=by kernel_rfl
theorem VO:Program.mayEnter prog=true:=by kernel_rfl
end Go.Proofs.YtcedojacbhnbiaaGreat
namespace Go.Proofs.YtcedojacbhnbiaaGreat
open Go.Sl Go.RowKit Tryz List Nat
section
variable{K:World}{F:List aA}
theorem Zi{g b2 b3 b5 N cap q cap' m Dn:Nat}{A B:Option Addr}{ps qs:List Nat}(hN:ps.length+qs.length=N)(hs:Seq K F A m 1 (av .i64 ps))(hq:Seq K F B q 1 (av .i64 qs))(Wo:aB 8192 ps)(Vr:aB 8192 qs)(nO:N≤1000000)
 (h2:Rd K F (some ⟨b2,0,none⟩) (.slice A m Dn)) (h3:Rd K F (some ⟨b3,0,none⟩) (.slice B q cap')) (h5:Rd K F (some ⟨b5,0,none⟩) (.slice (some ⟨g,0,none⟩) N cap)) :
 aC prog 347 #[.func (.func 353) #[] #[ptr b5 0],ptr b2 0,ptr b3 0] K (ah g 3 (replicate N (.i 0))::F)
  (fun v H'=>H'=ah g 3 (av .i64 (iR ps qs))::F):=by
 have hl:ps.length=m:=by simpa [av] using hs.len
 have Hf:qs.length=q:=by simpa [av] using hq.len
 refine aC.en func347 ntmps347 ?_;refine WC.sr ?_;refine WL.val (V.load isAgg124 (ak rfl) (fun hc=>h2.up)) rfl ?_;refine aj "oP" ?_;refine WC.loop (σ:=Nat) (fun j=>[(0,.func (.func 353) #[] #[ptr b5 0]),(2,ptr b3 0),(6,.slice A m Dn),(7,.i (m:Int)),(8,.i (j:Int))]) (fun j=>ah g 3 (av .i64 (Dt ps qs j))::F) (fun j=>j≤m) (fun j=>m-j) 0 (zero_le _) bM (fun w h=>Sat.aS h (by rw[Dt,hN,d9];rfl)) ?_;rintro j hj;refine aj "UX" (aX (fun aN=> ?_) fun aN=> ?_)
 ·refine aj "HN" ?_;have hjm:j<m:=ay;have xR:Rd K (ah g 3 (av .i64 (Dt ps qs j))::F) (A.map (·.add ((j:Int).toNat*1))) (.i (ps.getD j 0:Nat)):=by
   rw[show (j:Int).toNat=j by omega];exact (hs.jv ay).up
  have pY:=yN (ps:=ps) Vr j;refine aj "h" ?_;refine WL.val (V.eD fZ (ak rfl) (ak rfl) (fun hc=>by omega) (fun hc=>xR)) rfl ?_;refine WL.val (V.load isAgg3 (ak rfl) (fun hc=>xR)) rfl ?_;refine aj "mgh" ?_;refine WL.val (V.load isAgg124 (ak rfl) (fun hc=>h3.up)) rfl ?_;refine aj "z" ?_;refine WL.c4 call348 rfl rfl rfl rfl (abS (N:=N) (cap:=cap) (by rw[qx];exact hN) pY hq Vr ay (Wo.at_ aK j) h5 nO) rfl ?_;rintro v1 _ rfl;refine aj "b6" ?_;exact⟨j+1,(by show j+1≤m;omega),(by show m-(j+1)<m-j;omega),.cons rfl bM,fun w h=>Sat.aS h (by rw[Dt,Hf])⟩
 ·refine WC.exit ?_;obtain rfl:j=m:=by omega
  exact aG.normal (H':=ah g _ _::F) (bI.none rfl) (fun w h=>Sat.aS h (by unfold iR;rw[hl])) rfl
theorem Km{b2 b3 N q cap' m Dn:Nat}{A B:Option Addr}{ps qs:List Nat}(hN:ps.length+qs.length=N)(hs:Seq K F A m 1 (av .i64 ps))(hq:Seq K F B q 1 (av .i64 qs))(Wo:aB 8192 ps)(Vr:aB 8192 qs)(nO:N≤1000000)
 (h2:Rd K F (some ⟨b2,0,none⟩) (.slice A m Dn)) (h3:Rd K F (some ⟨b3,0,none⟩) (.slice B q cap')) :
 aC prog 346 #[.i (N:Int),.func (.func 347) #[] #[ptr b2 0,ptr b3 0]] K F
  (fun v H'=>∃g,v= .slice (some ⟨g,0,none⟩) (aT (iR ps qs) N) N∧H'=ah g 3 (av .i64 (iR ps qs))::F):=by
 have GH:(iR ps qs).length=N:=by unfold iR;rw[qx,hN]
 refine aC.en func346 ntmps346 ?_;refine aj "aj" ?_;refine WL.sK (m:=N) underlying124 Td (ak rfl) (ak rfl) rfl rfl ay rfl rfl rfl (fun b7=> ?_);refine aj "A" fun b5=> ?_;refine aj "~~cbe~3|" ?_;refine WL.nC (first:=[]) (vs:=[_]) (captured:=[ptr b2 0,ptr b3 0]) call347 (ak rfl) ⟨ak rfl,trivial⟩ (Zi hN hs.up hq.up Wo Vr nO h2.up h3.up (Rd.here rfl)) rfl ?_;rintro v1 _ rfl;refine aj "T" ?_;refine WL.val (V.load isAgg124 (ak rfl) (fun hc=>(Rd.here rfl).up)) rfl ?_;refine WL.t1 call354 rfl (Yq (xs:=iR ps qs) (Seq.Gq GH) (Nat.le_refl _) nO) rfl ?_;refine aj "d" ?_;exact qR (ah b7 _ _::F) rfl rfl (fun w h=>h.DT) ⟨b7,rfl,rfl⟩
theorem abD{q cap' m Dn:Nat}{A B:Option Addr}{ps qs:List Nat}(hs:Seq K F A m 1 (av .i64 ps))(hq:Seq K F B q 1 (av .i64 qs))(Wo:aB 8192 ps)(Vr:aB 8192 qs)(nO:ps.length+qs.length≤1000000) :
 aC prog 336 #[.slice A m Dn,.slice B q cap'] K F
  (fun v H'=>∃g,v= .tuple #[.slice (some ⟨g,0,none⟩) (aT (iR ps qs) (ps.length+qs.length)) (ps.length+qs.length),.i 0]∧H'=ah g 3 (av .i64 (iR ps qs))::F):=by
 have hl:ps.length=m:=by simpa [av] using hs.len
 have Hf:qs.length=q:=by simpa [av] using hq.len
 refine aC.en func336 ntmps336 ?_;refine aj "a~h" fun b2=> ?_;refine aj "~h" fun b3=> ?_;refine aj "mta^^" ?_;refine WL.buildSlice (E:=124) (cs:=[_,_]) (vs:=[(0,_),(1,_)]) ⟨ak rfl,ak rfl,trivial⟩ rfl (NA _ _ _ _ _ _) rfl (fun b8=> ?_);refine WL.c1 call345 rfl (aej (ls:=[⟨A,m,Dn,ps⟩,⟨B,q,cap',qs⟩]) (fun p hp=>by
  rcases mem_cons.1 hp with rfl | hp
  ·exact⟨by repeat (first | exact hs | apply Seq.up),Wo,by show m≤1000000;omega⟩
  ·rw[mem_singleton] at hp;subst hp;exact⟨by repeat (first | exact hq | apply Seq.up),Vr,by show q≤1000000;omega⟩) (Seq.all rfl) (by show 2≤1000;omega)) rfl ?_
 rintro _ H0 ⟨rfl,h0⟩;subst H0;refine aj "*bOia^o^o" ?_;refine WL.val (V.aI (v':= .i ((ps.length+qs.length:Nat):Int)) (V.Ci (ak rfl) (ak rfl) (fun _=>by omega)) (fun _=>by rw[hl,Hf];simp)) rfl ?_;refine aj "~]" ?_;refine WL.c2 call346 rfl rfl (Km (Dn:=Dn) (cap':=cap') rfl (by repeat (first | exact hs | apply Seq.up)) (by repeat (first | exact hq | apply Seq.up)) Wo Vr nO nS nS) rfl ?_;rintro _ _ ⟨g,rfl,rfl⟩;refine aj "D" ?_;exact aG.ret (H':=ah g _ _::F) (bI.eY rfl rfl rfl) (fun w h=>h.aY 4 [0] rfl) ⟨g,rfl,rfl⟩
def pX(x:Nat):Nat→Nat
 | 0=>x
 | k+1=>bA (pX x k) (pX x k)
theorem MX{x:Nat}(h:x<8192):∀k,pX x k<8192
 | 0=>h
 | k+1=>bD (MX h k)
theorem YX{r:Option Nat}{σ:Type}{l b1 k:Nat}{i:Int}(hi: -9223372036854775808≤i∧i≤9223372036854775807)(hk:0<k)(Xg:pX (dW i) k=dW i)(Ce:∀j,0<j→j<k→pX (dW i) j≠dW i)(I:Nat→σ→Prop)(M:σ→List aA)(h1:∀j s,I j s→Rd K (M s) (some ⟨b1,0,none⟩) (.i i))
 (BP:∀j s,j<k→I j s→kJ prog K none l #[.i (pX (dW i) j:Nat)] (M s) (fun b H'=>b=true∧∃s',I (j+1) s'∧H'=M s')) (s0:σ) (h0:I 0 s0) :
 aC prog 344 #[.func (.yield l) #[] #[],ptr b1 0] K (M s0) (fun v H'=>∃s,I k s∧H'=M s):=by
 have oJ:=fun j=>MX (x:=dW i) (ow i) j;refine aC.ace func344 rfl ntmps344 rfl ?_;simp only[lH,reduceAdd];refine WC.sr ?_;refine WL.val (V.load isAgg3 (ak rfl) (fun hc=>h1 0 s0 h0)) rfl ?_;refine WL.t1 call287 rfl (Vl i hi) rfl ?_;refine aj "jgu" ?_;refine WC.loop (σ:=Nat×σ) (fun x=>[(0,.func (.yield l) #[] #[]),(3,.i (dW i:Nat)),(4,.i (pX (dW i) x.1:Nat))]) (fun x=>M x.2) (fun x=>x.1<k∧I x.1 x.2) (fun x=>k-x.1) (0,s0) ⟨hk,h0⟩ bM cu ?_;rintro⟨j,s⟩ ⟨hj,hI⟩;dsimp only at hj hI ⊢;refine aj "rc" ?_;refine WL.afT (r:=none) (l:=l) (vs:=[_]) (ak rfl) ⟨ak rfl,trivial⟩ (BP j s hj hI) rfl ?_;rintro _ _ ⟨rfl,s',hI',rfl⟩;refine aj "b2iuec" ?_;refine WL.t2 call328 rfl rfl (Ny (oJ j) (oJ j)) rfl ?_;refine aj "!0%bX" (aX (fun aR=> ?_) fun aR=> ?_)
 ·have h2:(pX (dW i) (j+1)=dW i)∨¬(pX (dW i) (j+1)=dW i):=Decidable.em _;have h3:pX (dW i) (j+1)=dW i:=by have :=aR;exact Int.ofNat.inj this
  have h4:j+1=k:=by
   rcases Nat.lt_or_ge (j+1) k with h | h
   ·exact absurd h3 (Ce (j+1) ay h)
   ·omega
  refine WC.ret ?_;exact aG.ret (H':=M s') (bI.none rfl) cu ⟨s',by rw[←h4];exact hI',rfl⟩
 ·have h2:(pX (dW i) (j+1)=dW i)∨¬(pX (dW i) (j+1)=dW i):=Decidable.em _;have h3:¬pX (dW i) (j+1)=dW i:=fun h=>aR (congrArg Int.ofNat h);have h4:j+1<k:=by
   rcases Nat.lt_or_ge (j+1) k with h | h
   ·exact h
   ·have :j+1=k:=by omega
    rw[this] at h3;exact absurd Xg h3
  refine aj "i~O" ?_;exact⟨(j+1,s'),⟨h4,hI'⟩,(by show k-(j+1)<k-j;omega),.cons rfl bM,fun w h=>h⟩
end
section
variable{K:World}{F:List aA}
theorem qZ{A:Option Addr}{m cap:Nat}{xs:List Nat}(hs:Seq K F A m 1 (av .u8 xs))(nO:m≤cap)(hm:m≤1000000):aL prog 320 #[.slice A m cap] K F (.slice A (aT xs m) cap):=by
 refine aC.en func320 ntmps320 ?_;refine aj "atu" ?_;refine WC.loop (σ:=Nat) (fun j=>[(0,.slice A j cap)]) (fun _=>F) (fun j=>j≤m∧aT xs j=aT xs m) (fun j=>j) m ⟨Nat.le_refl _,rfl⟩ bM cu ?_;rintro j ⟨hj,hn⟩;have lJ:0<j→Rd K F (A.map (·.add (((j:Int)-1).toNat*1))) (.int .u8 (xs.getD (j-1) 0:Nat)):=fun h=>by
  rw[show ((j:Int)-1).toNat=j-1 by omega];exact hs.jv ay
 refine aj "ro~Uc88~~e~~5" ?_;refine WL.bG (oj:=_) rfl rfl rfl GC.t (V.eD eu (OV.g rfl id) (OV.g rfl id) (fun hc=>by simp at hc;omega) (fun hc=>lJ (by simp at hc;omega))) rfl ?_;refine WL.bG (oj:=_) rfl rfl rfl GC.t (V.load isAgg5 (OV.g rfl id) (fun hc=>lJ (by simp at hc;omega))) rfl ?_;refine aj "~EVk" (aX (fun aN=> ?_) fun aN=> ?_)
 ·simp only[He] at aN;have h0:=aN;refine aj "iuQo(" ?_;refine WL.val (V.aI (v':= .slice A (j-1) cap) (V.slice (l:=0) (h:=j-1) (u:=cap) eu (ak rfl) OO.none (OO.some (ak rfl) (fun _=>by omega)) OO.none (by simp) (zero_le _) ay (Nat.le_refl _)) (fun _=>by rw[zQ];rfl)) rfl ?_;refine aj "4" ?_;refine⟨j-1,⟨by show j-1≤m;omega, ?_⟩,(by show j-1<j;omega),.cons rfl (.nil _),fun w h=>h⟩;obtain⟨i,rfl⟩:∃i,j=i+1:=⟨j-1,by omega⟩;rw[←hn,aT,if_pos (by have :=h0.2;simp at this ⊢;omega)];rfl
 ·simp only[He] at aN;have h0:=aN;refine aj "Red>" ?_;have :aT xs m=j:=by
   rw[←hn];cases j with
   | zero=>rfl
   | succ i =>
    rw[aT,if_neg];intro hz;rcases h0 with h1 | h1
    ·omega
    ·have h2:¬((xs.getD i 0:Nat):Int)=0:=h1;exact h2 (by rw[hz];rfl)
  rw[this]
end
theorem CF(v:Nat):IntKind.u8.wrap (v:Int)=((v%256:Nat):Int):=by grind [IntKind.wrap,IntKind.bits,IntKind.signed]
theorem aha{a j:Nat}(ha:a<8192):IntKind.u8.wrap (IntKind.i64.wrap ((a:Int)*2^(min ((j:Int)%8).toNat IntKind.i64.bits)))=((a*2^(j%8)%256:Nat):Int):=by
 have e1:min ((j:Int)%8).toNat IntKind.i64.bits=j%8:=by show min _ 64=_;omega
 have e2:(a:Int)*2^(j%8)=((a*2^(j%8):Nat):Int):=by simp
 have h1:2^(j%8)≤2^7:=Nat.pow_le_pow_right aK ay;have h2:a*2^(j%8)≤8192*128:=Nat.mul_le_mul ay h1;rw[e1,e2,wrap_i64 ay,CF]
def pk(i:Int):Nat→List Nat
 | 0=>[1]
 | k+1=>(iR (pk i k) [pX (dW i) k,1]).take (aT (iR (pk i k) [pX (dW i) k,1]) ((pk i k).length+2))
def nA(p:List Nat):Nat→List Nat
 | 0=>replicate (p.length/8+1) 0
 | j+1=>(nA p j).set (j/8) ((nA p j).getD (j/8) 0 ||| (p.getD j 0*2^(j%8))%256)
theorem tC(p:List Nat):∀j,(nA p j).length=p.length/8+1
 | 0=>length_replicate
 | j+1=>by rw[nA,length_set,tC]
theorem Cy(p:List Nat):∀j,aB 256 (nA p j)
 | 0=>aB.vg aK
 | j+1=>by
  have ih:=Cy p j;rw[nA];exact ih.set (or_lt_two_pow (n:=8) (ih.at_ aK _) (mod_lt _ aK))
def wE(p:List Nat):List Nat:=nA p p.length
def uj(i:Int):List Nat:=(wE (pk i 13)).take (aT (wE (pk i 13)) ((pk i 13).length/8+1))
def G5(i:Int):Bool:=decide (pX (dW i) 13=dW i)&&(List.range 13).all (fun j=>j=0||decide (pX (dW i) j≠dW i))&&decide ((pk i 13).length≤1000)&&(List.range 14).all (fun j=>decide ((pk i j).length≤1000))
theorem abd:[1,3,5,7,9,11,13,15].all G5=true:=by kernel_rfl
theorem ajK{a b:Nat}(ha:a<256)(hb:b<256):bitsOf .or .u8 (a:Int) (b:Int)=((a ||| b:Nat):Int):=by
 have h:a ||| b<2^8:=or_lt_two_pow ha hb
 unfold bitsOf;dsimp only;rw[iN,iN,BitVec.toNat_or,BitVec.toNat_ofNat,BitVec.toNat_ofNat];have e1:a%2^IntKind.u8.bits=a:=mod_eq_of_lt (by show a<2^8;omega);have e2:b%2^IntKind.u8.bits=b:=mod_eq_of_lt (by show b<2^8;omega);rw[e1,e2];show IntKind.u8.wrap _=_;simp only[IntKind.wrap,IntKind.bits,IntKind.signed];simp;omega
section
variable{K:World}{F:List aA}
theorem XQ(i:Int):aC prog 335 #[.i i] K F (fun v H'=>∃b1,v= .func (.func 344) #[] #[ptr b1 0]∧H'=ah b1 3 [.i i]::F):=by
 refine aC.en func335 ntmps335 ?_;refine aj "a~h" fun b1=> ?_;refine aj "x~3d" ?_;exact qR (ah b1 _ _::F) rfl rfl cu ⟨b1,rfl,rfl⟩
theorem KF{i:Int}(hi: -9223372036854775808≤i∧i≤9223372036854775807)(hc:G5 i=true) :
 aC prog 319 #[.i i] K F (fun v H'=>∃g cap,(uj i).length≤cap∧cap=(pk i 13).length/8+1∧v= .slice (some ⟨g,0,none⟩) (uj i).length cap∧H'=ah g 5 (av .u8 (wE (pk i 13)))::F):=by
 simp only[G5,Bool.and_eq_true,decide_eq_true_eq,all_eq_true,mem_range,Bool.or_eq_true] at hc;obtain⟨⟨⟨aR,bB⟩,eF⟩,mZ⟩:=hc;have oJ:=fun j=>MX (x:=dW i) (ow i) j;have rP:∀j,aB 8192 (pk i j):=fun j=>by
  cases j with
  | zero=>intro x hx;simp[pk] at hx;omega
  | succ j=>exact aB.take (yN (fun x hx=>by simp at hx;rcases hx with rfl | rfl;exact oJ j;decide) _)
 refine aC.acK func319 rfl ntmps319 rfl ?_;simp only[lH,reduceAdd];refine aj "ax" ?_;refine WL.buildSlice (E:=3) (cs:=[_]) (vs:=[(0,_)]) ⟨ak rfl,trivial⟩ rfl (eO _) rfl (fun b8=> ?_);refine aj "A" fun b3=> ?_;refine aj "~~cbr" ?_;refine WL.c1 call335 rfl (XQ i) rfl ?_;rintro _ _ ⟨b1,rfl,rfl⟩;refine aj "bu" ?_;obtain⟨M0,hM0⟩:∃M0:Nat×List Nat×Nat×Nat→List aA,M0=fun s=>ah b3 124 [.slice (some ⟨s.1,0,none⟩) s.2.2.1 s.2.2.2]::ah s.1 3 (av .i64 s.2.1)::ah b1 3 [.i i]::F:=⟨_,rfl⟩;obtain⟨I0,MS⟩:∃I0:Nat→Nat×List Nat×Nat×Nat→Prop,I0=fun j s=>s.2.1.take s.2.2.1=pk i j∧s.2.2.1≤s.2.1.length∧s.2.2.1≤s.2.2.2:=⟨_,rfl⟩;refine WC.range (gf:=344) (lb:=[ptr b1 0]) (Done:=fun H1=>∃s,I0 13 s∧H1=M0 s) (X:=fun _ _=>False) rfl call344 (fun r l e1 e2 e3 hA=> ?_) (fun D H1 hd=> ?_) (fun D c H1 h=>h.elim)
 suffices BP:∀j s,j<13→I0 j s→kJ prog K none l #[.i (pX (dW i) j:Nat)] (r.A l .ready none::ig r.D::M0 s) (fun b H'=>b=true∧∃s',I0 (j+1) s'∧H'=r.A l .ready none::ig r.D::M0 s') from by
  have aj6:aC prog 344 #[.func (.yield l) #[] #[],ptr b1 0] K (r.A l .ready none::ig r.D::M0 (b8,[1],1,1)) (fun v H'=>∃s,I0 13 s∧H'=r.A l .ready none::ig r.D::M0 s) :=
   YX (r:=none) hi aK aR (fun j h1 h2=>by rcases bB j h2 with h | h;omega;exact h) I0 (fun s=>r.A l .ready none::ig r.D::M0 s) (fun j s h=>by rw[hM0];exact (Rd.here rfl).up.up.up.up) BP (b8,[1],1,1) (by rw[MS];exact⟨rfl,Nat.le_refl _,Nat.le_refl _⟩)
  exact (aj6.sat fun w h=>by rw[hM0];exact h.aY 5 [0,1,3,4,2] rfl).mono fun v H' ⟨s,hs,e⟩=>⟨none,_,e,s,hs,rfl⟩
 rintro j ⟨g,full,m1,cp⟩ hj hI;refine kJ.mono (Dp (n:=46) (args:=[.i (pX (dW i) j:Nat)]) (post:=fun jj H1=>jj=none∧∃s,I0 (j+1) s∧H1=ig r.D::M0 s) (by rw[e1];rfl) (by rw[e1];simp) hA ?_) (fun b H' ⟨jj,H1,hb,⟨hj,s,hs,e⟩,eH⟩=>by
  subst hj hb e eH;exact⟨rfl,s,hs,rfl⟩)
 rw[e1,e2];rw[MS] at hI;obtain⟨hI1,Xh,hI3⟩:=hI;dsimp only at hI1 Xh hI3;rw[hM0,MS];dsimp only;refine WC.sub (E:=(11,_)::_) (Sub.refl _) cu ?_;have nu:(pk i j).length=m1:=by rw[←hI1,length_take];omega
 have anw:=mZ j ay;have GH:(iR (pk i j) [pX (dW i) j,1]).length=m1+2:=by unfold iR;rw[qx,nu];rfl
 have Xb:=iy (iR (pk i j) [pX (dW i) j,1]) (m1+2);have VU:∀ {H:List aA},Seq K (ah g 3 (av .i64 full)::H) (some ⟨g,0,none⟩) m1 1 (av .i64 (pk i j)):=fun {H}=>Seq.here (by rw[au,nu];omega) (by rw[←hI1,←dR,drop_zero];exact take_prefix _ _)
 ·skip
  refine aj "qg" ?_;refine⟨_,fun w h=>h, ?_⟩;rw[e3];refine aj "uq^c" ?_;refine WL.buildSlice (E:=3) (cs:=[_,_]) (vs:=[(0,_),(1,_)]) ⟨ak rfl,ak rfl,trivial⟩ rfl (qC _ _) rfl (fun b15=> ?_);refine WL.c2 call336 rfl rfl (abD (ps:=pk i j) (qs:=[pX (dW i) j,1]) (by repeat (first | exact VU | apply Seq.up)) (Seq.Gq (k:= .i64) (xs:=[pX (dW i) j,1]) rfl) (rP j) (fun x hx=>by simp at hx;rcases hx with rfl | rfl;exact oJ j;decide) (by show (pk i j).length+2≤1000000;omega)) rfl ?_;rintro _ _ ⟨g2,rfl,rfl⟩;refine aj "!~jb" ?_;refine⟨_,fun w h=>h.aY 7 [2,3,4,0,6] rfl,rfl,(g2,iR (pk i j) [pX (dW i) j,1],aT (iR (pk i j) [pX (dW i) j,1]) ((pk i j).length+2),(pk i j).length+2),⟨rfl, ?_, ?_⟩,rfl⟩
  ·show aT _ _≤(iR _ _).length;rw[GH,nu];exact Xb
  ·show aT _ _≤(pk i j).length+2;rw[nu];exact Xb
 ·skip
  obtain⟨⟨g,full,m1,cp⟩,hI,rfl⟩:=hd;rw[MS] at hI;obtain⟨hI1,Xh,hI3⟩:=hI;dsimp only at hI1 Xh hI3;rw[hM0];have nu:(pk i 13).length=m1:=by rw[←hI1,length_take];omega
  have VU:∀ {H:List aA},Seq K (ah g 3 (av .i64 full)::H) (some ⟨g,0,none⟩) m1 1 (av .i64 (pk i 13)):=fun {H}=>Seq.here (by rw[au,nu];omega) (by rw[←hI1,←dR,drop_zero];exact take_prefix _ _);refine WC.sub (E:=_) (H':=ig D::ah b3 124 [.slice (some ⟨g,0,none⟩) m1 cp]::ah g 3 (av .i64 full)::F) (Sub.refl _) (fun w h=>h.aY 4 [0,1,2] rfl) ?_;refine aj "a^o~7." ?_;refine WL.sK (m:=m1/8+1) underlying34 zo (ak rfl) (ak rfl) ay ay ay rfl rfl rfl (fun b23=> ?_);refine aj "ta^oP" ?_;refine WC.loop (σ:=Nat) (fun j=>[(5,.slice (some ⟨b23,0,none⟩) (m1/8+1) (m1/8+1)),(24,.slice (some ⟨g,0,none⟩) m1 cp),(25,.i (m1:Int)),(26,.i (j:Int))]) (fun j=>ah b23 5 (av .u8 (nA (pk i 13) j))::ig D::ah g 3 (av .i64 full)::F) (fun j=>j≤m1) (fun j=>m1-j) 0 (zero_le _) bM (fun w h=>(h.aY 4 [0,1,3] rfl).aS (by rw[nA,nu,d9];rfl)) ?_;rintro j hj;refine aj "UX" (aX (fun aN=> ?_) fun aN=> ?_)
  ·refine aj "HN" ?_;have hjm:j<m1:=ay;have xR:∀ {X Y:aA},Rd K (X::Y::ah g 3 (av .i64 full)::F) ((some ⟨g,0,none⟩:Option Addr).map (·.add ((j:Int).toNat*1))) (.i ((pk i 13).getD j 0:Nat)):=fun {X Y}=>by
    rw[show (j:Int).toNat=j by omega];exact (VU.jv ay).up.up
   have hpj:=(rP 13).at_ aK j;have MQ:=tC (pk i 13) j;have hgo:(av .u8 (nA (pk i 13) j))[0+((j:Int)/8).toNat*1]? =some (.int .u8 ((nA (pk i 13) j).getD (j/8) 0:Nat)):=by rw[show 0+((j:Int)/8).toNat*1=j/8 by omega];exact jG _ _ ay
   refine aj "h" ?_;refine WL.val (V.eD fZ (ak rfl) (ak rfl) (fun hc=>by omega) (fun hc=>xR)) rfl ?_;refine WL.val (V.load isAgg3 (ak rfl) (fun hc=>xR)) rfl ?_;refine aj "mg" ?_;refine WC.fE (ig D::ah g 3 (av .i64 full)::F) (by kernel_rfl) ?_;refine aj "l0l1~~O2[3l5l6" ?_;refine WA.t 7 rfl (V.Dv (ak rfl) (ak rfl) Yc) ?_;refine aj "~~=8" ?_;refine WA.t 9 rfl (V.aI (v':= .int .u8 (((pk i 13).getD j 0*2^(j%8)%256:Nat):Int)) (V.FX runUnderlying3 runUnderlying5 (ak rfl)) (fun _=>by rw[aha hpj])) ?_;refine WA.o 4 rfl ?_;refine WL.val (V.load isAgg5 (ak rfl) (fun hc=>Rd.here hgo)) rfl ?_;refine WL.nil ?_;refine WA.t 10 rfl (V.aI (v':= .int .u8 (((nA (pk i 13) j).getD (j/8) 0 ||| ((pk i 13).getD j 0*2^(j%8))%256:Nat):Int)) (V.or (ak rfl) (ak rfl)) (fun _=>by rw[ajK ((Cy _ j).at_ aK _) (mod_lt _ aK)])) ?_;refine aj "[;n<" ?_;refine WL.store (cs:=[_]) sizeOf5 (ak rfl) (ak rfl) rfl rfl rfl (dw.at_ (by rw[au];omega)) ?_;refine aj "bM6" ?_;refine⟨j+1,(by show j+1≤m1;omega),(by show m1-(j+1)<m1-j;omega),.cons rfl bM,fun w h=>Sat.aS h ?_⟩;rw[show 0+((j:Int)/8).toNat*1=j/8 by omega,kr,nA]
  ·refine aj "W" ?_;obtain rfl:j=m1:=by omega
   have hpp:nA (pk i 13) j=wE (pk i 13):=by unfold wE;rw[nu]
   rw[hpp];have akr:(wE (pk i 13)).length=j/8+1:=by unfold wE;rw[tC,nu]
   refine aj "h" ?_;refine WL.t1 call320 rfl (qZ (xs:=wE (pk i 13)) (Seq.Gq akr) (Nat.le_refl _) ay) rfl ?_;refine aj "d" ?_;have J5:(uj i).length=aT (wE (pk i 13)) (j/8+1):=by
    unfold uj;have :=iy (wE (pk i 13)) (j/8+1);rw[length_take,nu,akr];omega
   exact nH.agx (ah b23 5 (av .u8 (wE (pk i 13)))::F) (fun w h=>h.aY 3 [1,0] rfl) (bI.tmp rfl rfl) cu ⟨b23,j/8+1,by rw[J5];exact iy _ _,by rw[nu],by rw[J5],rfl⟩
end
theorem Oz{a b:Nat}(ha:a<256)(hb:b<256):bitsOf .xor .u8 (a:Int) (b:Int)=((a ^^^ b:Nat):Int):=by
 have h:a ^^^ b<2^8:=xor_lt_two_pow ha hb;unfold bitsOf;dsimp only;rw[iN,iN,BitVec.toNat_xor,BitVec.toNat_ofNat,BitVec.toNat_ofNat];have e1:a%2^IntKind.u8.bits=a:=mod_eq_of_lt (by show a<2^8;omega);have e2:b%2^IntKind.u8.bits=b:=mod_eq_of_lt (by show b<2^8;omega);rw[e1,e2];show IntKind.u8.wrap _=_;rw[CF];omega
theorem Bu{a:Nat}(ha:a<256):bitsOf .and .u8 (a:Int) 1=((a%2:Nat):Int):=by
 unfold bitsOf;dsimp only;rw[show (1:Int)=((1:Nat):Int) from rfl,iN,iN,BitVec.toNat_and,BitVec.toNat_ofNat,BitVec.toNat_ofNat];have e1:a%2^IntKind.u8.bits=a:=mod_eq_of_lt (by show a<2^8;omega);have e2:1%2^IntKind.u8.bits=1:=rfl;rw[e1,e2,and_one_is_mod];show IntKind.u8.wrap _=_;rw[CF];omega
theorem G8{a j k:Nat}(hj:j≤k):(a:Int).fdiv (2^(min (j:Int).toNat k))=((a/2^j:Nat):Int):=by grind
theorem ad1{a j:Nat}(ha:a<256)(hj:j<8):IntKind.u16.wrap ((a:Int)*2^(min (j:Int).toNat IntKind.u16.bits))=((a*2^j:Nat):Int):=by
 have e1:min (j:Int).toNat IntKind.u16.bits=j:=by show min _ 16=_;omega
 have h1:2^j≤2^7:=Nat.pow_le_pow_right aK ay;have h2:a*2^j≤255*128:=Nat.mul_le_mul ay h1;have e2:(a:Int)*2^j=((a*2^j:Nat):Int):=by simp
 rw[e1,e2];simp only[IntKind.wrap,IntKind.bits,IntKind.signed];simp;omega
theorem sO{k:IntKind}{xs ys:List Nat}(h:xs <+: ys):av k xs <+: av k ys:=h.map _
def bE(p:List Nat)(i:Nat):Bool:=(p.getD (i/8) 0).testBit (i%8)
def mF(out p:List Nat)(at_:Nat):Nat→List Nat
 | 0=>out
 | j+1 =>
  let o:=mF out p at_ j
  let w:=p.getD j 0*2^(at_%8)
  let o1:=o.set (j+at_/8) (o.getD (j+at_/8) 0 ^^^ w%256)
  if 255<w then o1.set (j+at_/8+1) (o1.getD (j+at_/8+1) 0 ^^^ w/256) else o1
theorem nK(out p:List Nat)(at_:Nat):∀j,(mF out p at_ j).length=out.length
 | 0=>rfl
 | j+1=>by
  rw[mF];split<;>simp[nK out p at_ j]
theorem sN{out p:List Nat}{at_:Nat}(h:aB 256 out)(hp:aB 256 p):∀j,aB 256 (mF out p at_ j)
 | 0=>h
 | j+1=>by
  have ih:=sN (at_:=at_) h hp j;have h1:=ih.set (i:=j+at_/8) (fA (k:=8) (ih.at_ aK (j+at_/8)) (mod_lt (p.getD j 0*2^(at_%8)) (y:=256) aK));rw[mF];split
  ·refine h1.set (fA (k:=8) (h1.at_ aK _) ?_);have h2:2^(at_%8)≤2^7:=Nat.pow_le_pow_right aK ay;have h3:p.getD j 0*2^(at_%8)≤255*128:=Nat.mul_le_mul (by have :=hp.at_ aK j;omega) h2;omega
  ·exact h1
def lG(p q:List Nat):Nat→List Nat
 | 0=>replicate (p.length+q.length+1) 0
 | i+1=>if bE p i then mF (lG p q i) q i q.length else lG p q i
def jl(p q:List Nat):List Nat:=lG p q (8*p.length)
theorem iZ(p q:List Nat):∀i,(lG p q i).length=p.length+q.length+1
 | 0=>length_replicate
 | i+1=>by rw[lG];split;rw[nK,iZ];exact iZ p q i
theorem qH{p q:List Nat}(hq:aB 256 q):∀i,aB 256 (lG p q i)
 | 0=>aB.vg aK
 | i+1=>by rw[lG];split;exact sN (qH hq i) hq _;exact qH hq i
section
variable{K:World}{F:List aA}
theorem Mc{A:Option Addr}{m cap i:Nat}{xs:List Nat}(hs:Seq K F A m 1 (av .u8 xs))(hx:aB 256 xs)(hi:i<8*m)(hm:m≤1000000):aL prog 322 #[.slice A m cap,.i (i:Int)] K F (.bool (bE xs i)):=by
 have xR:Rd K F (A.map (·.add (((i:Int)/8).toNat*1))) (.int .u8 (xs.getD (i/8) 0:Nat)):=by
  rw[show ((i:Int)/8).toNat=i/8 by omega];exact hs.jv ay
 have hb:=hx.at_ aK (i/8);refine aC.en func322 ntmps322 ?_;refine aj "a0~7" ?_;refine WL.val (V.eD eu (ak rfl) (ak rfl) (fun hc=>by omega) (fun hc=>xR)) rfl ?_;refine WL.val (V.load isAgg5 (ak rfl) (fun hc=>xR)) rfl ?_;refine WL.mv rfl rfl ?_;refine WL.val (V.aI (v':= .i ((i%8:Nat):Int)) (V.Dv (ak rfl) (ak rfl) (fun _=>by omega)) (fun _=>by simp)) rfl ?_;refine WL.val (V.aI (v':= .int .u8 ((xs.getD (i/8) 0/2^(i%8):Nat):Int)) (V.shr (ak rfl) (ak rfl) ay) (fun _=>by rw[G8 (by show i%8≤8;omega)])) rfl ?_;refine WL.val (V.aI (v':= .int .u8 ((xs.getD (i/8) 0/2^(i%8)%2:Nat):Int)) (V.and (ak rfl) (ak rfl)) (fun _=>by rw[Bu (Nat.lt_of_le_of_lt (div_le_self _ _) hb)])) rfl ?_;refine aj "%d>" ?_;congr 1;unfold bE;rw[testBit_eq_decide_div_mod_eq];apply decide_eq_decide.2;omega
theorem Mj{g N cap:Nat}{out:List Nat}{B:Option Addr}{m cap':Nat}{p:List Nat}{at_:Nat}(hN:out.length=N)(ho:aB 256 out)(hs:Seq K F B m 1 (av .u8 p))(hp:aB 256 p)(Zo:m+at_/8<N)(nO:N≤1000000) :
 aC prog 323 #[.slice (some ⟨g,0,none⟩) N cap,.slice B m cap',.i (at_:Int)] K (ah g 5 (av .u8 out)::F)
  (fun v H'=>H'=ah g 5 (av .u8 (mF out p at_ m))::F):=by
 have hl:p.length=m:=by simpa [av] using hs.len
 have aqx:at_<8000008:=ay
 refine aC.en func323 ntmps323 ?_;refine aj "eoP" ?_;refine WC.loop (σ:=Nat) (fun j=>[(0,.slice (some ⟨g,0,none⟩) N cap),(2,.i (at_:Int)),(9,.slice B m cap'),(10,.i (m:Int)),(11,.i (j:Int))]) (fun j=>ah g 5 (av .u8 (mF out p at_ j))::F) (fun j=>j≤m) (fun j=>m-j) 0 (zero_le _) bM cu ?_;rintro j hj;refine aj "UX" (aX (fun aN=> ?_) fun aN=> ?_)
 ·refine aj "HN" ?_;have hjm:j<m:=ay;obtain⟨o,ho1⟩:∃o,o=mF out p at_ j:=⟨_,rfl⟩
  have J2:o.length=N:=by rw[ho1,nK];exact hN
  have ZT:aB 256 o:=by rw[ho1];exact sN ho hp j
  rw[←ho1];obtain⟨x,hx⟩:∃x,x=p.getD j 0:=⟨_,rfl⟩;have hx8:x<256:=by rw[hx];exact hp.at_ aK j
  have xR:Rd K (ah g 5 (av .u8 o)::F) (B.map (·.add ((j:Int).toNat*1))) (.int .u8 (x:Nat)):=by
   rw[show (j:Int).toNat=j by omega,hx];exact (hs.jv ay).up
  obtain⟨wv,hwv⟩:∃wv,wv=x*2^(at_%8):=⟨_,rfl⟩;have asR:wv<32768:=by
   have h2:2^(at_%8)≤2^7:=Nat.pow_le_pow_right aK ay;have h3:x*2^(at_%8)≤255*128:=Nat.mul_le_mul ay h2;omega
  obtain⟨o1,ho2⟩:∃o1,o1=o.set (j+at_/8) (o.getD (j+at_/8) 0 ^^^ wv%256):=⟨_,rfl⟩;have aqg:o1.length=N:=by rw[ho2,length_set];exact J2
  have anO:aB 256 o1:=by rw[ho2];exact ZT.set (fA (k:=8) (ZT.at_ aK _) (mod_lt _ aK))
  have WV:mF out p at_ (j+1)=if 255<wv then o1.set (j+at_/8+1) (o1.getD (j+at_/8+1) 0 ^^^ wv/256) else o1:=by rw[mF,←ho1,←hx,←hwv,←ho2]
  have Ki:(av .u8 o)[0+(((j:Int)+(at_:Int)/8)).toNat*1]? =some (.int .u8 (o.getD (j+at_/8) 0:Nat)):=by rw[show 0+(((j:Int)+(at_:Int)/8)).toNat*1=j+at_/8 by omega];exact jG _ _ ay
  have Vu:(av .u8 o1)[0+(((j:Int)+(at_:Int)/8+1)).toNat*1]? =some (.int .u8 (o1.getD (j+at_/8+1) 0:Nat)):=by rw[show 0+(((j:Int)+(at_:Int)/8+1)).toNat*1=j+at_/8+1 by omega];exact jG _ _ ay
  refine aj "h" ?_;refine WL.val (V.eD eu (ak rfl) (ak rfl) (fun hc=>by omega) (fun hc=>xR)) rfl ?_;refine WL.val (V.load isAgg5 (ak rfl) (fun hc=>xR)) rfl ?_;refine aj "mj" ?_;refine WL.val (V.Ip runUnderlying5 runUnderlying401 (ak rfl) (fun _=>by simp only[IntKind.wrap,IntKind.bits,IntKind.signed];simp;omega)) rfl ?_;refine WL.mv rfl rfl ?_;refine WL.val (V.aI (v':= .i ((at_%8:Nat):Int)) (V.Dv (ak rfl) (ak rfl) (fun _=>by omega)) (fun _=>by simp)) rfl ?_;refine WL.val (V.aI (v':= .int .u16 (wv:Int)) (V.shl (ak rfl) (ak rfl) ay) (fun _=>by rw[ad1 hx8 ay,hwv])) rfl ?_;refine aj "jz~7.~v" ?_;refine WL.val (V.load isAgg5 (ak rfl) (fun hc=>Rd.here Ki)) rfl ?_;refine WL.mv rfl rfl ?_;refine WL.val (V.aI (v':= .int .u8 ((wv%256:Nat):Int)) (V.FX runUnderlying401 runUnderlying5 (ak rfl)) (fun _=>by rw[CF])) rfl ?_;refine WL.val (V.aI (v':= .int .u8 ((o.getD (j+at_/8) 0 ^^^ wv%256:Nat):Int)) (V.xor (ak rfl) (ak rfl)) (fun _=>by rw[Oz (ZT.at_ aK _) (mod_lt _ aK)])) rfl ?_;refine aj "~v" ?_;refine WL.store (cs:=[_]) sizeOf5 (ak rfl) (ak rfl) rfl rfl rfl (dw.at_ (by rw[au];omega)) ?_;rw[show 0+(((j:Int)+(at_:Int)/8)).toNat*1=j+at_/8 by omega,kr,←ho2];refine aj "be~UbX" (aX (fun aR=> ?_) fun aR=> ?_)
  ·rw[if_pos ay] at WV;refine aj "hz~7..~v" ?_;refine WL.val (V.load isAgg5 (ak rfl) (fun hc=>Rd.here Vu)) rfl ?_;refine WL.mv rfl rfl ?_;refine WL.val (V.aI (v':= .int .u16 ((wv/256:Nat):Int)) (V.shr (ak rfl) (ak rfl) aK) (fun _=>by rw[show (8:Int)=((8:Nat):Int) from rfl,G8 (by show 8≤16;decide)])) rfl ?_;refine WL.val (V.aI (v':= .int .u8 ((wv/256:Nat):Int)) (V.FX runUnderlying401 runUnderlying5 (ak rfl)) (fun _=>by rw[CF];congr 2;omega)) rfl ?_;refine WL.val (V.aI (v':= .int .u8 ((o1.getD (j+at_/8+1) 0 ^^^ wv/256:Nat):Int)) (V.xor (ak rfl) (ak rfl)) (fun _=>by rw[Oz (anO.at_ aK _) ay])) rfl ?_;refine aj "~v" ?_;refine WL.store (cs:=[_]) sizeOf5 (ak rfl) (ak rfl) rfl rfl rfl (dw.at_ (by rw[au];omega)) ?_;rw[show 0+(((j:Int)+(at_:Int)/8+1)).toNat*1=j+at_/8+1 by omega,kr];refine aj "b6" ?_;exact⟨j+1,(by show j+1≤m;omega),(by show m-(j+1)<m-j;omega),.cons rfl bM,fun w h=>Sat.aS h (by rw[WV])⟩
  ·rw[if_neg ay] at WV;refine aj "i6" ?_;exact⟨j+1,(by show j+1≤m;omega),(by show m-(j+1)<m-j;omega),.cons rfl bM,fun w h=>Sat.aS h (by rw[WV])⟩
 ·refine WC.exit ?_;obtain rfl:j=m:=by omega
  exact aG.normal (H':=ah g _ _::F) (bI.none rfl) cu rfl
theorem LV{q cap' m Dn:Nat}{A B:Option Addr}{ps qs:List Nat}(hs:Seq K F A m 1 (av .u8 ps))(hq:Seq K F B q 1 (av .u8 qs))(Wo:aB 256 ps)(Vr:aB 256 qs)(nO:ps.length+qs.length≤100000) :
 aC prog 281 #[.slice A m Dn,.slice B q cap'] K F
  (fun v H'=>∃g,v= .slice (some ⟨g,0,none⟩) (aT (jl ps qs) (ps.length+qs.length+1)) (ps.length+qs.length+1)∧H'=ah g 5 (av .u8 (jl ps qs))::F):=by
 have hl:ps.length=m:=by simpa [av] using hs.len
 have Hf:qs.length=q:=by simpa [av] using hq.len
 refine aC.en func281 ntmps281 ?_;refine aj "ajoco.." ?_;refine WL.sK (m:=m+q+1) underlying34 zo (ak rfl) (ak rfl) ay ay ay rfl rfl rfl (fun b13=> ?_);refine aj "fo~IP" ?_;refine WC.loop (σ:=Nat) (fun j=>[(0,.slice A m Dn),(1,.slice B q cap'),(5,.slice (some ⟨b13,0,none⟩) (m+q+1) (m+q+1)),(16,.i (8*(m:Int))),(17,.i (j:Int))]) (fun j=>ah b13 5 (av .u8 (lG ps qs j))::F) (fun j=>j≤8*m) (fun j=>8*m-j) 0 (zero_le _) bM (fun w h=>Sat.aS h (by rw[lG,hl,Hf,d9];rfl)) ?_;rintro j hj;refine aj "UX" (aX (fun aN=> ?_) fun aN=> ?_)
 ·refine aj "10" ?_;refine WL.t2 call322 rfl rfl (Mc (by repeat (first | exact hs | apply Seq.up)) Wo ay ay) rfl ?_;refine aj "k" (aX (fun aR=> ?_) fun aR=> ?_)
  ·have h1:=aR;refine aj "hz" ?_;refine WL.c3 call323 rfl rfl rfl (Mj (N:=m+q+1) (by rw[iZ,hl,Hf]) (qH Vr j) hq Vr ay ay) rfl ?_;rintro v1 _ rfl;refine aj "b6" ?_;refine⟨j+1,(by show j+1≤8*m;omega),(by show 8*m-(j+1)<8*m-j;omega),.cons rfl bM,fun w h=>Sat.aS h ?_⟩;rw[lG,h1];simp[Hf]
  ·have h1:=aR;refine aj "i6" ?_;refine⟨j+1,(by show j+1≤8*m;omega),(by show 8*m-(j+1)<8*m-j;omega),.cons rfl bM,fun w h=>Sat.aS h ?_⟩;rw[lG,h1];simp[Hf]
 ·refine aj "W" ?_;obtain rfl:j=8*m:=by omega
  have hbm:lG ps qs (8*m)=jl ps qs:=by unfold jl;rw[hl]
  rw[hbm];have BQ:(jl ps qs).length=m+q+1:=by unfold jl;rw[iZ,hl,Hf]
  refine aj "h" ?_;refine WL.t1 call320 rfl (qZ (xs:=jl ps qs) (Seq.Gq BQ) (Nat.le_refl _) ay) rfl ?_;refine aj "d" ?_;exact qR (ah b13 _ _::F) rfl rfl cu ⟨b13,by rw[hl,Hf],rfl⟩
end
def O7(x:Nat):Nat:=if x=0 then 0 else log2 x+1
theorem aei{s:ByteArray}(h:((List.range 256).all fun x=>decide (s[x]? =some (UInt8.ofNat (O7 x))))=true){x:Nat}(hx:x<256):s[x]? =some (UInt8.ofNat (O7 x)):=by grind
theorem Wt{x:Nat}(h:x<256):O7 x≤8:=by
 unfold O7;split
 ·omega
 ·rename_i h0;have :=(log2_lt h0 (k:=8)).2 h;omega
def U1(xs:List Nat)(m:Nat):Int:=if aT xs m=0 then-1 else 8*(aT xs m:Int)-8+(O7 (xs.getD (aT xs m-1) 0):Nat)-1
def gV(p q:List Nat)(lq d:Nat):Nat→List Nat
 | 0=>p++[0]
 | k+1=>if bE (gV p q lq d k) (8*p.length-1-k) then mF (gV p q lq d k) q (8*p.length-1-k-d) lq else gV p q lq d k
theorem gu(p q:List Nat)(lq d:Nat):∀k,(gV p q lq d k).length=p.length+1
 | 0=>by simp[gV]
 | k+1=>by rw[gV];split;rw[nK,gu];exact gu p q lq d k
theorem jw{p q:List Nat}{lq d:Nat}(hp:aB 256 p)(hq:aB 256 q):∀k,aB 256 (gV p q lq d k)
 | 0=>hp.append (fun x hx=>by simp at hx;omega)
 | k+1=>by rw[gV];split;exact sN (jw hp hq k) hq _;exact jw hp hq k
section
variable{K:World}{F:List aA}
theorem ZA{x:Nat}(hx:x<256):aL prog 337 #[.int .u8 (x:Int)] K F (.i (O7 x:Nat)):=by
 have hl:=Wt hx;have h8:(UInt8.ofNat (O7 x)).toNat=O7 x:=by rw[UInt8.toNat_ofNat'];omega
 refine aC.en func337 ntmps337 ?_;refine aj "aj" ?_;refine WL.val (V.ahu (b:=UInt8.ofNat (O7 x)) underlying9 (ak rfl) (ak rfl) (fun _=>⟨by omega,by rw[show ((x:Nat):Int).toNat=x by omega];exact aei (by kernel_rfl) hx⟩)) rfl ?_;refine WL.val (V.Ip runUnderlying5 runUnderlying3 (ak rfl) (fun _=>wrap_i64 ay)) rfl ?_;refine aj "d" ?_;exact qR F rfl rfl cu ⟨by rw[h8],rfl⟩
theorem Nl{A:Option Addr}{m cap:Nat}{xs:List Nat}(hs:Seq K F A m 1 (av .u8 xs))(hx:aB 256 xs)(nO:m≤cap)(hm:m≤100000):aL prog 321 #[.slice A m cap] K F (.i (U1 xs m)):=by
 have hn:=iy xs m;refine aC.en func321 ntmps321 ?_;refine aj "aj" ?_;refine WL.t1 call320 rfl (qZ hs nO ay) rfl ?_;refine aj "fo%bX" (aX (fun aN=> ?_) fun aN=> ?_)
 ·refine aj "I>" ?_;unfold U1;rw[if_pos ay]
 ·refine aj ")" ?_;have lJ:Rd K F (A.map (·.add (((aT xs m:Int)-1).toNat*1))) (.int .u8 (xs.getD (aT xs m-1) 0:Nat)):=by
   rw[show ((aT xs m:Int)-1).toNat=aT xs m-1 by omega];exact hs.jv ay
  have hb:=hx.at_ aK (aT xs m-1);have Hl:=Wt hb;refine aj "ho~I(zo(" ?_;refine WL.val (V.eD eu (ak rfl) (ak rfl) (fun hc=>by omega) (fun hc=>lJ)) rfl ?_;refine WL.val (V.load isAgg5 (ak rfl) (fun hc=>lJ)) rfl ?_;refine WL.t1 call337 rfl (ZA hb) rfl ?_;refine aj ".(d>" ?_;unfold U1;rw[if_neg ay]
theorem YK{q cap' m Dn:Nat}{A B:Option Addr}{ps qs:List Nat}{d:Nat}(hs:Seq K F A m 1 (av .u8 ps))(hq:Seq K F B q 1 (av .u8 qs))(Wo:aB 256 ps)(Vr:aB 256 qs)(hqc:q≤cap')(nO:ps.length+qs.length≤100000)
 (hd:U1 qs q=(d:Int)) (hdd:U1 (qs.take (aT qs q)) (aT qs q)=(d:Int)) (hld:aT qs q=d/8+1) :
 aC prog 280 #[.slice A m Dn,.slice B q cap'] K F
  (fun v H'=>∃g,v= .tuple #[.slice (some ⟨g,0,none⟩) (aT (gV ps (qs.take (aT qs q)) (aT qs q) d (8*m-d)) (m+1)) (m+1),.i 0]∧H'=ah g 5 (av .u8 (gV ps (qs.take (aT qs q)) (aT qs q) d (8*m-d)))::F):=by
 have hl:ps.length=m:=by simpa [av] using hs.len
 have Hf:qs.length=q:=by simpa [av] using hq.len
 have Xb:=iy qs q;obtain⟨lq,SN⟩:∃lq,lq=aT qs q:=⟨_,rfl⟩;obtain⟨Q0,hQ0⟩:∃Q0,Q0=qs.take (aT qs q):=⟨_,rfl⟩;have hQl:Q0.length=lq:=by rw[hQ0,length_take,SN];omega
 have hQ8:aB 256 Q0:=by rw[hQ0];exact Vr.take
 have hsQ:Seq K F B lq 1 (av .u8 Q0):=by rw[hQ0,SN,←dR];exact Seq.take hq Xb
 rw[←hQ0,←SN] at hdd ⊢;rw[←SN] at hld Xb;obtain⟨kk,hkk⟩:∃kk,kk=8*m-d:=⟨_,rfl⟩;rw[←hkk];refine aC.en func280 ntmps280 ?_;refine aj "amj" ?_;refine WL.t1 call320 rfl (aL.eq (v':= .slice B lq cap') (qZ hq hqc ay) (by rw[SN])) rfl ?_;refine aj "j" ?_;refine WL.t1 call321 rfl (aL.eq (v':= .i (d:Int)) (Nl hsQ hQ8 ay ay) (by rw[hdd])) rfl ?_;refine aj "f5b" ?_;refine WC.jq rfl ((by simp)) ?_;refine aj "Zo." ?_;refine WL.sK (m:=m+1) underlying34 zo (ak rfl) (ak rfl) ay ay ay rfl rfl rfl (fun b18=> ?_);refine aj "0" ?_;refine WL.zm eu (ak rfl) (ak rfl) (by repeat (first | exact hs | apply Seq.up)) ay (kE _ _) (dw.front (by simp[av];omega)) rfl ?_;refine aj "bro~I(gu" ?_;refine WC.loop (σ:=Nat) (fun k=>[(1,.slice B lq cap'),(6,.i (d:Int)),(7,.slice (some ⟨b18,0,none⟩) (m+1) (m+1)),(8,.i (8*(m:Int)-1-(k:Int)))]) (fun k=>ah b18 5 (av .u8 (gV ps Q0 lq d k))::F) (fun k=>k≤kk) (fun k=>kk-k) 0 (zero_le _) bM (fun w h=>Sat.aS h (by rw[gV,dA,au,hl,drop_replicate,show m+1-m=1 by omega];rfl)) ?_;rintro k hk;refine aj "rc~ibX" (aX (fun aR=> ?_) fun aR=> ?_)
 ·have hkd:k<kk:=ay;have hi8:8*(m:Int)-1-(k:Int)=((8*m-1-k:Nat):Int):=ay;rw[hi8];refine aj "1c" ?_;refine WL.t2 call322 rfl rfl (Mc (Seq.Gq (by rw[gu,hl])) (jw Wo hQ8 k) ay ay) rfl ?_;refine aj "k" (aX (fun bB=> ?_) fun bB=> ?_)
  ·have h2:=bB;refine aj "hzc" ?_;refine WL.val (V.aI (v':= .i ((8*m-1-k-d:Nat):Int)) (V.CV (ak rfl) (ak rfl) (fun _=>by omega)) (fun _=>by congr 1;omega)) rfl ?_;refine WL.c3 call323 rfl rfl rfl (Mj (N:=m+1) (by rw[gu,hl]) (jw Wo hQ8 k) hsQ hQ8 ay ay) rfl ?_;rintro v1 _ rfl;refine aj "bh(4" ?_;refine⟨k+1,(by show k+1≤kk;omega),(by show kk-(k+1)<kk-k;omega),.cons rfl (.cons rfl (.cons rfl (.cons (look_eq rfl (by simp;omega)) (.nil _)))),fun w h=>Sat.aS h ?_⟩;rw[gV,hl,h2];simp
  ·have h2:=bB;refine aj "ih(4" ?_;refine⟨k+1,(by show k+1≤kk;omega),(by show kk-(k+1)<kk-k;omega),.cons rfl (.cons rfl (.cons rfl (.cons (look_eq rfl (by simp;omega)) (.nil _)))),fun w h=>Sat.aS h ?_⟩;rw[gV,hl,h2];simp
 ·refine aj "W" ?_;obtain rfl:k=kk:=by omega
  refine aj "h" ?_;refine WL.t1 call320 rfl (qZ (xs:=gV ps Q0 lq d k) (Seq.Gq (by rw[gu,hl])) (Nat.le_refl _) ay) rfl ?_;refine aj "D" ?_;exact aG.ret (H':=ah b18 _ _::F) (bI.eY rfl rfl rfl) cu ⟨b18,rfl,rfl⟩
end
def fO:Nat→List Nat
 | 0=>[1]
 | k+1=>(jl (fO k) (uj (2*k+1:Nat))).take (aT (jl (fO k) (uj (2*k+1:Nat))) ((fO k).length+(uj (2*k+1:Nat)).length+1))
def abw(k:Nat):Bool:=decide ((fO k).length≤1000)&&decide ((uj (2*k+1:Nat)).length≤1000)&&(fO k).all (fun x=>decide (x<256))&&(uj (2*k+1:Nat)).all (fun x=>decide (x<256))
theorem ahk:(List.range 8).all abw=true:=by kernel_rfl
section
variable{K:World}{F:List aA}
theorem Gr{t:Nat}(ht:1≤t∧t≤8) :
 aC prog 279 #[.i (t:Int)] K F (fun v H'=>∃g full cap,v= .tuple #[.slice (some ⟨g,0,none⟩) (fO t).length cap,.i 0]∧(fO t).length≤cap∧(fO t)=full.take (fO t).length∧H'=ah g 5 (av .u8 full)::F):=by
 have oK:∀k,k<8→abw k=true:=fun k hk=>all_eq_true.1 ahk k (mem_range.2 hk);have Zz:∀k,k<8→G5 ((2*k+1:Nat):Int)=true:=fun k hk=>by
  have h:=all_eq_true.1 abd;have :((2*k+1:Nat):Int)∈[1,3,5,7,9,11,13,(15:Int)]:=by
   simp only[mem_cons,not_mem_nil,or_false];omega
  exact h _ this
 refine aC.en func279 ntmps279 ?_;refine aj "amf5cY~lJb~1ia" ?_;refine WL.buildSlice (E:=5) (cs:=[_]) (vs:=[(0,_)]) ⟨ak rfl,trivial⟩ rfl (jM _) rfl (fun b12=> ?_);refine aj "tagu" ?_;refine WC.loop (σ:=Nat×Nat×List Nat×Nat) (fun x=>[(0,.i (t:Int)),(4,.slice (some ⟨x.2.1,0,none⟩) (fO x.1).length x.2.2.2),(5,.i ((2*x.1+1:Nat):Int))]) (fun x=>ah x.2.1 5 (av .u8 x.2.2.1)::F) (fun x=>x.1≤t∧(fO x.1).length≤x.2.2.2∧fO x.1=x.2.2.1.take (fO x.1).length) (fun x=>t-x.1) (0,b12,[1],1) ⟨zero_le _,Nat.le_refl _,rfl⟩ bM cu ?_;rintro⟨k,g,full,cp⟩ ⟨hk,hcp,hfu⟩;dsimp only at hk hcp hfu ⊢;refine aj "rc~I5bX" (aX (fun aR=> ?_) fun aR=> ?_)
 ·have hk8:k<8:=ay;have ho:=oK k hk8;simp only[abw,Bool.and_eq_true,decide_eq_true_eq,all_eq_true] at ho;obtain⟨⟨⟨ho1,ho2⟩,ho3⟩,ho4⟩:=ho;have J9:∀ {H:List aA},Seq K (ah g 5 (av .u8 full)::H) (some ⟨g,0,none⟩) (fO k).length 1 (av .u8 (fO k)):=fun {H}=>Seq.here (by rw[au];omega) (by rw[drop_zero];exact sO (by rw[hfu];exact take_prefix _ _));refine aj "HQ" ?_;refine WL.c1 call319 rfl (KF ay (Zz k hk8)) rfl ?_;rintro _ _ ⟨g2,c2,hm1,hm2,rfl,rfl⟩;have hms:∀ {H:List aA},Seq K (ah g2 5 (av .u8 (wE (pk ((2*k+1:Nat):Int) 13)))::H) (some ⟨g2,0,none⟩) (uj ((2*k+1:Nat):Int)).length 1 (av .u8 (uj ((2*k+1:Nat):Int))):=fun {H}=>Seq.here (by rw[au];omega) (by rw[drop_zero];exact sO (take_prefix _ _));refine WL.c2 call281 rfl rfl (LV (ps:=fO k) (qs:=uj ((2*k+1:Nat):Int)) (by repeat (first | exact J9 | apply Seq.up)) hms ho3 ho4 ay) rfl ?_;rintro _ _ ⟨g3,rfl,rfl⟩;refine aj "gh.4" ?_;have Xb:=iy (jl (fO k) (uj ((2*k+1:Nat):Int))) ((fO k).length+(uj ((2*k+1:Nat):Int)).length+1);have BQ:(jl (fO k) (uj ((2*k+1:Nat):Int))).length=(fO k).length+(uj ((2*k+1:Nat):Int)).length+1:=by unfold jl;rw[iZ]
  have hgl:(fO (k+1)).length=aT (jl (fO k) (uj ((2*k+1:Nat):Int))) ((fO k).length+(uj ((2*k+1:Nat):Int)).length+1):=by rw[fO,length_take,BQ];omega
  exact⟨(k+1,g3,jl (fO k) (uj ((2*k+1:Nat):Int)),(fO k).length+(uj ((2*k+1:Nat):Int)).length+1),⟨by show k+1≤t;omega,by rw[hgl];exact Xb,by rw[hgl];rfl⟩,(by show t-(k+1)<t-k;omega),.cons rfl (.cons (look_eq rfl (by rw[hgl])) (.cons (look_eq rfl (by simp;omega)) (.nil _))),fun w h=>h.aY 3 [0] rfl⟩
 ·refine aj "ReD" ?_;obtain rfl:k=t:=by omega
  exact aG.ret (H':=ah g _ _::F) (bI.eY rfl rfl rfl) cu ⟨g,full,cp,rfl,hcp,hfu,rfl⟩
end
def IL(x j:Nat):Nat:=x &&& (255 ^^^ 2^j)
theorem LU{x j:Nat}(hx:x<256)(hj:j<8):bitsOf .andNot .u8 (x:Int) (IntKind.u8.wrap (1*2^(min (j:Int).toNat IntKind.u8.bits)))=(IL x j:Nat)∧IL x j<256:=by
 have h:((List.range 256).all fun a=>(List.range 8).all fun j=>decide (bitsOf .andNot .u8 ((a:Nat):Int) (IntKind.u8.wrap (1*2^(min ((j:Nat):Int).toNat IntKind.u8.bits)))=(IL a j:Nat))&&decide (IL a j<256))=true:=by kernel_rfl
 have h1:=all_eq_true.1 h x (mem_range.2 hx);have h2:=all_eq_true.1 h1 j (mem_range.2 hj);simp only[Bool.and_eq_true,decide_eq_true_eq] at h2;exact h2
theorem JV{j:Nat}(hj:j<8):IntKind.u8.wrap (1*2^(min (j:Int).toNat IntKind.u8.bits))=((2^j:Nat):Int):=by
 have h:((List.range 8).all fun j=>decide (IntKind.u8.wrap (1*2^(min ((j:Nat):Int).toNat IntKind.u8.bits))=((2^j:Nat):Int)))=true:=by kernel_rfl
 have h1:=all_eq_true.1 h j (mem_range.2 hj);exact of_decide_eq_true h1
theorem G7{j:Nat}(hj:j<8):2^j<256:=Nat.pow_lt_pow_right aK (show j<8 from hj)
def G6(t:Nat)(d m:List Nat)(i:Nat):Bool:=if 13*t≤i then bE d (i-13*t) else bE m i
def Gx(b:Bool):Nat:=if b then 1 else 0
def Pp(bit:Nat→Bool)(x:Nat):Nat→Nat→Nat
 | 0,v=>v
 | i+1,v=>Pp bit x i (bA v x ^^^ Gx (bit i))
def qb(t:Nat)(len:Nat)(bit:Nat→Bool):List Nat:=(List.range (2*t)).map fun k=>Pp bit (dW ((k+1:Nat):Int)) len 0
theorem aam{bit:Nat→Bool}{x:Nat}:∀(i v:Nat),v<8192→Pp bit x i v<8192
 | 0,v,h=>h
 | i+1,v,h=>by
  rw[Pp];refine aam i _ (fA (k:=13) (bD h) ?_);unfold Gx;split<;>decide
def iJ(m:List Nat)(i0:Nat):Nat→List Nat
 | 0=>m
 | k+1=>(iJ m i0 k).set ((i0+k)/8) (IL ((iJ m i0 k).getD ((i0+k)/8) 0) ((i0+k)%8))
theorem lK(m:List Nat)(i0:Nat):∀k,(iJ m i0 k).length=m.length
 | 0=>rfl
 | k+1=>by rw[iJ,length_set,lK]
theorem nM{m:List Nat}{i0:Nat}(h:aB 256 m):∀k,aB 256 (iJ m i0 k)
 | 0=>h
 | k+1=>by
  have ih:=nM (i0:=i0) h k;rw[iJ];exact ih.set (LU (ih.at_ aK _) (mod_lt _ aK)).2
def aM(t:Nat):Nat:=(13*t+7)/8
def iq(t:Nat)(m:List Nat):List Nat:=iJ m (13*t) (8*aM t-13*t)
def lM(xs:List Nat)(i:Nat):List Nat:=xs.set (i/8) (xs.getD (i/8) 0 ^^^ 2^(i%8))
theorem gQ(xs:List Nat)(i:Nat):(lM xs i).length=xs.length:=by simp[lM]
theorem mK{xs:List Nat}(h:aB 256 xs)(i:Nat):aB 256 (lM xs i):=h.set (fA (k:=8) (h.at_ aK _) (G7 (mod_lt _ aK)))
structure Wd where
 t:Nat
 d:List Nat
 m:List Nat
 (g1 c1 g2 c2:Nat)
 r1:List Value
 r2:List Value
namespace Wd
abbrev cells(W:Wd):List Value:=[.i (W.t:Int),.slice (some ⟨W.g1,0,none⟩) W.d.length W.c1,.slice (some ⟨W.g2,0,none⟩) W.m.length W.c2]
abbrev parts(bw:Nat)(W:Wd):List aA:=[ah bw 370 W.cells,ah W.g1 5 (av .u8 W.d++W.r1),ah W.g2 5 (av .u8 W.m++W.r2)]
structure Ok(W:Wd):Prop where
 t:1≤W.t∧W.t≤8
 d:1≤W.d.length∧W.d.length≤512
 m:W.m.length=aM W.t
 ds:aB 256 W.d
 ms:aB 256 W.m
def len(W:Wd):Nat:=13*W.t+8*W.d.length
def bit(W:Wd)(i:Nat):Bool:=G6 W.t W.d W.m i
def flip(W:Wd)(i:Nat):Wd:=if 13*W.t≤i then { W with d:=lM W.d (i-13*W.t) } else { W with m:=lM W.m i }
theorem Ok.flip{W:Wd}(h:W.Ok)(i:Nat):(W.flip i).Ok:=by
 unfold Wd.flip;split
 ·exact⟨h.t,by show 1≤(lM _ _).length∧(lM _ _).length≤512;rw[gQ];exact h.d,h.m,mK h.ds _,h.ms⟩
 ·exact⟨h.t,h.d,by show (lM _ _).length=_;rw[gQ];exact h.m,h.ds,mK h.ms _⟩
end Wd
theorem mD(k:IntKind)(xs:List Nat)(r:List Value){i:Nat}(h:i<xs.length):(av k xs++r)[i]? =some (.int k (xs.getD i 0:Nat)):=by grind [getElem?_append_left,au,jG]
theorem nX(k:IntKind)(xs:List Nat)(r:List Value){i x:Nat}(h:i<xs.length):(av k xs++r).set i (.int k (x:Int))=av k (xs.set i x)++r:=by simp_all [set_append,if_pos,au,kr]
section
variable{K:World}{F:List aA}
theorem Qy{A:Option Addr}{t m cap:Nat}(ht:1≤t∧t≤8)(hm:1≤m∧m≤512):aL prog 278 #[.i (t:Int),.slice A m cap] K F (.tuple #[.i (aM t:Nat),.i 0]):=by
 refine aC.en func278 ntmps278 ?_;refine aj "amj" ?_;refine WL.t1 call227 rfl (Q7 t ay _ _) rfl ?_;refine aj "Cf%c8~~e~~~e~~.~)" ?_;refine WL.bG (oj:=_) rfl rfl rfl GC.cf (V.len (t:=34) runUnderlying34 (OV.g rfl id)) rfl (WL.bG (oj:=_) rfl rfl rfl GC.cf (V.gtr (OV.g rfl id) (ak rfl)) rfl (aj "~~:Vb~1Z.~7cD" ?_));refine aG.ret (H':=F) (bI.eY rfl rfl rfl) cu ⟨?_,rfl⟩;unfold aM;simp
theorem Rp{bw:Nat}{W:Wd}(h:W.Ok)(hR:gD K F bw 0 W.cells):aL prog 286 #[ptr bw 0] K F (.i (W.len:Nat)):=by
 have h1:=h.t;have h2:=h.d;have e0:Rd K F (some ⟨bw,0,none⟩) (.i (W.t:Int)):=hR 0 _ rfl;have e1:Rd K F (some ⟨bw,1,none⟩) (.slice (some ⟨W.g1,0,none⟩) W.d.length W.c1):=hR 1 _ rfl;refine aC.en func286 ntmps286 ?_;refine aj "at~k+~&~y" ?_;refine WQ.val (V.load isAgg3 (ak rfl) (fun hc=>e0)) rfl ?_;refine aj "~~P+~&~y" ?_;refine WQ.val (V.load isAgg34 (ak rfl) (fun hc=>e1)) rfl ?_;refine aj "~~>~~P~~m~m~g~D>" ?_;unfold Wd.len;simp
theorem aeC{bw:Nat}{W:Wd}(h:W.Ok){i:Nat}(hi:i<W.len)(hR:gD K F bw 0 W.cells)(hd:Seq K F (some ⟨W.g1,0,none⟩) W.d.length 1 (av .u8 W.d))(hm:Seq K F (some ⟨W.g2,0,none⟩) W.m.length 1 (av .u8 W.m)) :
 aL prog 325 #[ptr bw 0,.i (i:Int)] K F (.bool (W.bit i)):=by
 have h1:=h.t;have h2:=h.d;have h3:=h.m;unfold aM at h3;unfold Wd.len at hi;have e0:Rd K F (some ⟨bw,0,none⟩) (.i (W.t:Int)):=hR 0 _ rfl;have e1:Rd K F (some ⟨bw,1,none⟩) (.slice (some ⟨W.g1,0,none⟩) W.d.length W.c1):=hR 1 _ rfl;have e2:Rd K F (some ⟨bw,2,none⟩) (.slice (some ⟨W.g2,0,none⟩) W.m.length W.c2):=hR 2 _ rfl;have key:∀(xs:List Nat) (j:Nat),decide ((((xs.getD (j/8) 0/2^(j%8)%2:Nat):Int))=1)=bE xs j:=fun xs j=>by
  unfold bE;rw[testBit_eq_decide_div_mod_eq];apply decide_eq_decide.2;omega
 refine aC.en func325 ntmps325 ?_;refine aj "afcL" ?_;refine WL.val (V.load isAgg3 (ak rfl) (fun hc=>e0)) rfl ?_;refine aj "~I(j~ibX" (aX (fun aN=> ?_) fun aN=> ?_)
 ·refine WC.seq ?_;obtain⟨k,hk⟩:∃k,k=i-13*W.t:=⟨_,rfl⟩;have hki:(i:Int)-13*(W.t:Int)=(k:Int):=ay;rw[hki];have lJ:Rd K F (some ⟨W.g1,0+((k:Int)/8).toNat*1,none⟩) (.int .u8 (W.d.getD (k/8) 0:Nat)):=by
   have :=hd.jv (j:=k/8) ay;rw[show 0+((k:Int)/8).toNat*1=0+k/8*1 by omega]
   simpa [jR] using this
  have hb:=h.ds.at_ aK (k/8);refine aj "hL" ?_;refine WL.val (V.load isAgg34 (ak rfl) (fun hc=>e1)) rfl ?_;refine aj "c~7~v" ?_;refine WL.val (V.load isAgg5 (ak rfl) (fun hc=>lJ)) rfl ?_;refine WL.mv rfl rfl ?_;refine WL.val (V.aI (v':= .i ((k%8:Nat):Int)) (V.Dv (ak rfl) (ak rfl) (fun _=>by omega)) (fun _=>by simp)) rfl ?_;refine WL.val (V.aI (v':= .int .u8 ((W.d.getD (k/8) 0/2^(k%8):Nat):Int)) (V.shr (ak rfl) (ak rfl) ay) (fun _=>by rw[G8 (by show k%8≤8;omega)])) rfl ?_;refine WL.val (V.aI (v':= .int .u8 ((W.d.getD (k/8) 0/2^(k%8)%2:Nat):Int)) (V.and (ak rfl) (ak rfl)) (fun _=>by rw[Bu (Nat.lt_of_le_of_lt (div_le_self _ _) hb)])) rfl ?_;refine aj "%d>" ?_;rw[key];unfold Wd.bit G6;rw[if_pos ay,←hk]
 ·refine aj ")" ?_;have lJ:Rd K F (some ⟨W.g2,0+((i:Int)/8).toNat*1,none⟩) (.int .u8 (W.m.getD (i/8) 0:Nat)):=by
   have :=hm.jv (j:=i/8) ay;rw[show 0+((i:Int)/8).toNat*1=0+i/8*1 by omega]
   simpa [jR] using this
  have hb:=h.ms.at_ aK (i/8);refine aj "hL" ?_;refine WL.val (V.load isAgg34 (ak rfl) (fun hc=>e2)) rfl ?_;refine aj "c~7~v" ?_;refine WL.val (V.load isAgg5 (ak rfl) (fun hc=>lJ)) rfl ?_;refine WL.mv rfl rfl ?_;refine WL.val (V.aI (v':= .i ((i%8:Nat):Int)) (V.Dv (ak rfl) (ak rfl) (fun _=>by omega)) (fun _=>by simp)) rfl ?_;refine WL.val (V.aI (v':= .int .u8 ((W.m.getD (i/8) 0/2^(i%8):Nat):Int)) (V.shr (ak rfl) (ak rfl) ay) (fun _=>by rw[G8 (by show i%8≤8;omega)])) rfl ?_;refine WL.val (V.aI (v':= .int .u8 ((W.m.getD (i/8) 0/2^(i%8)%2:Nat):Int)) (V.and (ak rfl) (ak rfl)) (fun _=>by rw[Bu (Nat.lt_of_le_of_lt (div_le_self _ _) hb)])) rfl ?_;refine aj "%d>" ?_;rw[key];unfold Wd.bit G6;rw[if_neg ay]
theorem X8{bw:Nat}{W:Wd}(h:W.Ok){i:Nat}(hi:i<W.len) :
 aC prog 289 #[ptr bw 0,.i (i:Int)] K (W.parts bw++F) (fun v H'=>H'=(W.flip i).parts bw++F):=by
 have h1:=h.t;have h2:=h.d;have h3:=h.m;unfold aM at h3;unfold Wd.len at hi;dsimp only[Wd.parts,cons_append,nil_append];refine aC.en func289 ntmps289 ?_;refine aj "ec,p~I(j~ibX" (aX (fun aN=> ?_) fun aN=> ?_)
 ·obtain⟨k,hk⟩:∃k,k=i-13*W.t:=⟨_,rfl⟩;have hki:(i:Int)-13*(W.t:Int)=(k:Int):=ay;rw[hki];have Ki:(av .u8 W.d++W.r1)[0+((k:Int)/8).toNat*1]? =some (.int .u8 (W.d.getD (k/8) 0:Nat)):=by rw[show 0+((k:Int)/8).toNat*1=k/8 by omega];exact mD _ _ _ ay
  have hb:=h.ds.at_ aK (k/8);have hWf:W.flip i= { W with d:=lM W.d k }:=by unfold Wd.flip;rw[if_pos ay,←hk]
  refine WC.sub (Sub.refl _) (fun w h=>h.p1) ?_;refine WC.fE (ah bw 370 W.cells::ah W.g2 5 (av .u8 W.m++W.r2)::F) (by kernel_rfl) ?_;refine aj "l0@1S2:3l4~~O5[6l8" ?_;refine WA.t 9 rfl (V.aI (v':= .i ((k%8:Nat):Int)) (V.Dv (ak rfl) (ak rfl) (fun _=>by omega)) (fun _=>by simp)) ?_;refine WA.t 10 rfl (V.aI (v':= .int .u8 ((2^(k%8):Nat):Int)) (V.shl (ak rfl) (ak rfl) ay) (fun _=>by rw[JV ay])) ?_;refine WA.o 7 rfl ?_;refine WL.val (V.load isAgg5 (ak rfl) (fun hc=>by repeat (first | exact Rd.here Ki | apply Rd.up))) rfl ?_;refine WL.nil ?_;refine WA.t 11 rfl (V.aI (v':= .int .u8 ((W.d.getD (k/8) 0 ^^^ 2^(k%8):Nat):Int)) (V.xor (ak rfl) (ak rfl)) (fun _=>by rw[Oz hb (G7 ay)])) ?_;refine aj "[<n=" ?_;refine WL.store (cs:=[_]) sizeOf5 (ak rfl) (ak rfl) rfl rfl rfl (dw.at_ (by rw[length_append,au];omega)) ?_;refine aj "bM" ?_;first
  | (
   refine aG.normal (H':=(W.flip i).parts bw++F) (bI.none rfl) (fun w h=> ?_) rfl;rw[hWf];rw[show 0+((k:Int)/8).toNat*1=k/8 by omega,nX _ _ _ ay] at h;have h':=h.p1;dsimp only[Wd.parts,Wd.cells,cons_append,nil_append];rw[gQ];exact h')
  | (
   refine aG.normal (H':=(W.flip i).parts bw++F) (bI.none rfl) (fun w h=> ?_) rfl;rw[hWf];rw[show 0+((i:Int)/8).toNat*1=i/8 by omega,nX _ _ _ ay] at h;have h':=h.aY 3 [1,2,0] rfl;dsimp only[Wd.parts,Wd.cells,cons_append,nil_append];rw[gQ];exact h')
 ·have hWf:W.flip i= { W with m:=lM W.m i }:=by unfold Wd.flip;rw[if_neg ay]
  have Ki:(av .u8 W.m++W.r2)[0+((i:Int)/8).toNat*1]? =some (.int .u8 (W.m.getD (i/8) 0:Nat)):=by rw[show 0+((i:Int)/8).toNat*1=i/8 by omega];exact mD _ _ _ ay
  have hb:=h.ms.at_ aK (i/8);refine WC.sub (Sub.refl _) (fun w h=>h.p2) ?_;refine WC.fE (ah bw 370 W.cells::ah W.g1 5 (av .u8 W.d++W.r1)::F) (by kernel_rfl) ?_;refine aj "l0@1S2:3l4~~O5[6l8" ?_;refine WA.t 9 rfl (V.aI (v':= .i ((i%8:Nat):Int)) (V.Dv (ak rfl) (ak rfl) (fun _=>by omega)) (fun _=>by simp)) ?_;refine WA.t 10 rfl (V.aI (v':= .int .u8 ((2^(i%8):Nat):Int)) (V.shl (ak rfl) (ak rfl) ay) (fun _=>by rw[JV ay])) ?_;refine WA.o 7 rfl ?_;refine WL.val (V.load isAgg5 (ak rfl) (fun hc=>by repeat (first | exact Rd.here Ki | apply Rd.up))) rfl ?_;refine WL.nil ?_;refine WA.t 11 rfl (V.aI (v':= .int .u8 ((W.m.getD (i/8) 0 ^^^ 2^(i%8):Nat):Int)) (V.xor (ak rfl) (ak rfl)) (fun _=>by rw[Oz hb (G7 ay)])) ?_;refine aj "[<n=" ?_;refine WL.store (cs:=[_]) sizeOf5 (ak rfl) (ak rfl) rfl rfl rfl (dw.at_ (by rw[length_append,au];omega)) ?_;refine aj "bM" ?_;first
  | (
   refine aG.normal (H':=(W.flip i).parts bw++F) (bI.none rfl) (fun w h=> ?_) rfl;rw[hWf];rw[show 0+((k:Int)/8).toNat*1=k/8 by omega,nX _ _ _ ay] at h;have h':=h.p1;dsimp only[Wd.parts,Wd.cells,cons_append,nil_append];rw[gQ];exact h')
  | (
   refine aG.normal (H':=(W.flip i).parts bw++F) (bI.none rfl) (fun w h=> ?_) rfl;rw[hWf];rw[show 0+((i:Int)/8).toNat*1=i/8 by omega,nX _ _ _ ay] at h;have h':=h.aY 3 [1,2,0] rfl;dsimp only[Wd.parts,Wd.cells,cons_append,nil_append];rw[gQ];exact h')
theorem aa4{bit:Nat→Bool}{x i v:Nat}:Pp bit x (i+1) v=Pp bit x i (bA v x ^^^ Gx (bit i)):=rfl
theorem X9{bw:Nat}{W:Wd}(h:W.Ok)(hR:gD K F bw 0 W.cells)(hd:Seq K F (some ⟨W.g1,0,none⟩) W.d.length 1 (av .u8 W.d))(hm:Seq K F (some ⟨W.g2,0,none⟩) W.m.length 1 (av .u8 W.m)) :
 aC prog 285 #[ptr bw 0] K F (fun v H'=>∃g,v= .slice (some ⟨g,0,none⟩) (2*W.t) (2*W.t)∧H'=ah g 3 (av .i64 (qb W.t W.len W.bit))::F):=by
 have h1:=h.t;have h2:=h.d;have e0:Rd K F (some ⟨bw,0,none⟩) (.i (W.t:Int)):=hR 0 _ rfl;have hlen:W.len≤4200:=by unfold Wd.len;omega
 have afE:0<W.len:=by unfold Wd.len;omega
 have hRu:∀ {X:aA},gD K (X::F) bw 0 W.cells:=fun {X}=>hR.up;refine aC.en func285 ntmps285 ?_;refine aj "ajL" ?_;refine WL.val (V.load isAgg3 (ak rfl) (fun hc=>e0)) rfl ?_;refine aj "~I" ?_;refine WL.sK (m:=2*W.t) underlying124 Td (ak rfl) (ak rfl) ay ay ay rfl rfl rfl (fun b13=> ?_);refine aj "foP" ?_;refine WC.loop (σ:=Nat) (fun k=>[(0,ptr bw 0),(3,.slice (some ⟨b13,0,none⟩) (2*W.t) (2*W.t)),(15,.i ((2*W.t:Nat):Int)),(16,.i (k:Int))]) (fun k=>ah b13 3 (av .i64 ((qb W.t W.len W.bit).take k++replicate (2*W.t-k) 0))::F) (fun k=>k≤2*W.t) (fun k=>2*W.t-k) 0 (zero_le _) bM (fun w h=>Sat.aS h (by simp[d9])) ?_;rintro k hk;refine aj "UX" (aX (fun aN=> ?_) fun aN=> ?_)
 ·refine aj "1t" ?_;have hkt:k<2*W.t:=ay;refine aj "h" ?_;refine WL.val (V.aI (v':= .i ((k+1:Nat):Int)) (V.Ci (ak rfl) (ak rfl) (fun _=>by omega)) (fun _=>by simp)) rfl ?_;refine WL.t1 call287 rfl (Vl _ ay) rfl ?_;refine aj "mf" ?_;refine WL.t1 call286 rfl (Rp h hRu) rfl ?_;refine WL.val (V.aI (v':= .i ((W.len:Int)-1)) (V.CV (ak rfl) (ak rfl) (fun _=>by omega)) (fun _=>rfl)) rfl ?_;refine aj "gu" ?_;refine WC.loop (σ:=Nat×Nat) (fun x=>[(0,ptr bw 0),(3,.slice (some ⟨b13,0,none⟩) (2*W.t) (2*W.t)),(15,.i ((2*W.t:Nat):Int)),(16,.i (k:Int)),(4,.i (k:Int)),(5,.i (dW ((k+1:Nat):Int):Nat)),(6,.i (x.2:Int)),(7,.i ((x.1:Int)-1))]) (fun _=>ah b13 3 (av .i64 ((qb W.t W.len W.bit).take k++replicate (2*W.t-k) 0))::F) (fun x=>x.1≤W.len∧x.2<8192∧Pp W.bit (dW ((k+1:Nat):Int)) x.1 x.2=Pp W.bit (dW ((k+1:Nat):Int)) W.len 0) (fun x=>x.1) (W.len,0) ⟨Nat.le_refl _,by show 0<8192;decide,rfl⟩ bM cu ?_;rintro⟨i,v⟩ ⟨hi,hv,hh⟩;dsimp only at hi hv hh ⊢;refine aj "r~ibX" (aX (fun aR=> ?_) fun aR=> ?_)
  ·obtain⟨i',rfl⟩:∃i',i=i'+1:=⟨i-1,by omega⟩;have hi1:((i'+1:Nat):Int)-1=(i':Int):=ay;rw[hi1];rw[aa4] at hh;have GH:=bD (b:=dW ((k+1:Nat):Int)) hv;refine aj "1c" ?_;refine WL.t2 call288 rfl rfl (zJ hv (ow _)) rfl ?_;refine aj "0" ?_;refine WL.t2 call325 rfl rfl (aeC h (i:=i') ay hRu hd.up hm.up) rfl ?_;refine aj "k" (aX (fun bB=> ?_) fun bB=> ?_)
   ·have h9:=bB;rw[h9] at hh;refine aj "h" ?_;refine WL.val (V.aI (v':= .i ((bA v (dW ((k+1:Nat):Int)) ^^^ 1:Nat):Int)) (V.xor (ak rfl) (ak rfl)) (fun _=>by rw[show (1:Int)=((1:Nat):Int) from rfl,nN ay ay])) rfl ?_;refine aj "gh(4" ?_;first
    | exact⟨(i',bA v (dW ((k+1:Nat):Int)) ^^^ 1),⟨by show i'≤W.len;omega,fA (k:=13) GH aK,hh⟩,lt_succ_self _,.cons rfl (.cons rfl (.cons rfl (.cons rfl (.cons rfl (.cons rfl (.cons rfl (.cons rfl (.nil _)))))))),fun w h=>h⟩
    | exact⟨(i',bA v (dW ((k+1:Nat):Int))),⟨by show i'≤W.len;omega,GH,by rw[show Gx false=0 from rfl,xor_zero] at hh;exact hh⟩,lt_succ_self _,.cons rfl (.cons rfl (.cons rfl (.cons rfl (.cons rfl (.cons rfl (.cons rfl (.cons rfl (.nil _)))))))),fun w h=>h⟩
   ·have h9:=bB;rw[h9] at hh;refine aj "ih(4" ?_;first
    | exact⟨(i',bA v (dW ((k+1:Nat):Int)) ^^^ 1),⟨by show i'≤W.len;omega,fA (k:=13) GH aK,hh⟩,lt_succ_self _,.cons rfl (.cons rfl (.cons rfl (.cons rfl (.cons rfl (.cons rfl (.cons rfl (.cons rfl (.nil _)))))))),fun w h=>h⟩
    | exact⟨(i',bA v (dW ((k+1:Nat):Int))),⟨by show i'≤W.len;omega,GH,by rw[show Gx false=0 from rfl,xor_zero] at hh;exact hh⟩,lt_succ_self _,.cons rfl (.cons rfl (.cons rfl (.cons rfl (.cons rfl (.cons rfl (.cons rfl (.cons rfl (.nil _)))))))),fun w h=>h⟩
  ·refine WC.exit ?_;obtain rfl:i=0:=by omega
   have hv2:v=Pp W.bit (dW ((k+1:Nat):Int)) W.len 0:=hh;refine aj "hz~v" ?_;refine WL.store (cs:=[_]) sizeOf3 (ak rfl) (ak rfl) rfl rfl rfl (dw.at_ (by rw[au];simp[qb];omega)) ?_;refine aj "b6" ?_;refine⟨k+1,(by show k+1≤2*W.t;omega),(by show 2*W.t-(k+1)<2*W.t-k;omega),.cons rfl bM,fun w h=>Sat.aS h ?_⟩;have rQ:(qb W.t W.len W.bit).length=2*W.t:=by simp[qb]
   have hsk:(qb W.t W.len W.bit)[k]'ay=v:=by rw[hv2];simp[qb]
   rw[show 0+(k:Int).toNat*1=k by omega,kr,set_append_right _ _ (by rw[length_take];omega),length_take,show k-min k (qb W.t W.len W.bit).length=0 by omega,take_add_one,getElem?_eq_getElem ay,hsk];rw[show 2*W.t-k=(2*W.t-(k+1))+1 by omega,replicate_succ,set_cons_zero];simp
 ·refine aj "Red" ?_;obtain rfl:k=2*W.t:=by omega
  refine qR (ah b13 _ _::F) rfl rfl (fun w h=>Sat.aS h ?_) ⟨b13,rfl,rfl⟩;rw[Nat.sub_self,replicate_zero,append_nil,take_of_length_le (by simp[qb])]
end
structure aD where
 g:bL
 aW:Int×Int→Option (List Int)
 bK:Int×Int→Option (List Int)
 next:List Int
 marked:Int→Bool
 fH:Int→Bool
 aQ:Int
 up:Bool
 left:Int
 lI:Int
namespace aD
def raw(S:aD):Int:=S.g.raw
def block(S:aD)(b:Int):Bool:=decide (0≤b)&&decide (b<S.g.bl)
def pG(S:aD)(b p:Int):Bool:=S.block b&&decide (0≤p)&&decide (p<S.g.pg)
def ready(S:aD):Int:=if S.up then 0 else 70
def cut(S:aD):Bool:=decide (S.left=1)
def aZ(S:aD):aD:= { S with left:=if S.left=0 then 0 else S.left-1,up:=S.up&& !S.cut }
def after(cut:Bool):Int:=if cut then 70 else 0
def nD(S:aD)(b:Int):Int:=S.next.getD b.toNat 0
def kU(S:aD)(b x:Int):List Int:=S.next.set b.toNat x
def blank(S:aD):List Int:=replicate S.raw.toNat 255
def DN{α:Type}(f:Int×Int→Option α)(k:Int×Int)(v:Option α):Int×Int→Option α:=fun k'=>if k'=k then v else f k'
def kept(S:aD)(n:Int):Int:=min (max S.lI 0) n
def program(S:aD)(b p:Int)(xs:List Int):aD×Int :=
 if S.up=false then (S,70)
 else if S.pG b p=false∨(xs.length:Int)≠S.raw then (S,1)
 else if p≠S.nD b then (S,71)
 else
  let T:=S.aZ
  if S.cut then ({ T with aW:=DN T.aW (b,p) (some (xs.take (S.kept xs.length).toNat++S.blank.drop (S.kept xs.length).toNat)),next:=T.kU b (p+1) },70)
  else if S.fH b then (T,72)
  else ({ T with aW:=DN T.aW (b,p) (some xs),next:=T.kU b (p+1) },0)
def bC{α:Type}(f:Int×Int→Option α)(b n:Int):Int×Int→Option α:=fun k=>if k.1=b∧0≤k.2∧k.2<n then none else f k
def erase(S:aD)(b:Int):aD×Int :=
 if S.up=false then (S,70)
 else if S.block b=false then (S,1)
 else
  let T:=S.aZ
  if S.cut then ({ T with aW:=bC T.aW b (S.kept S.g.pg),bK:=bC T.bK b (S.kept S.g.pg) },70)
  else if S.fH b then (T,72)
  else ({ T with aW:=bC T.aW b S.g.pg,bK:=bC T.bK b S.g.pg,next:=T.kU b 0 },0)
def all(S:aD)(f:aD→aD):aD×Int:=(if !S.cut||decide (0<S.lI) then f S.aZ else S.aZ,after S.cut)
def mark(S:aD)(b:Int):aD×Int :=
 if S.up=false then (S,70) else if S.block b=false then (S,1)
 else S.all fun T=> { T with marked:=fun k=>if k=b then true else T.marked k }
def pR(S:aD)(n:Int):aD×Int :=
 if S.up=false then (S,70) else if 64<n then (S,1) else if n<S.aQ then (S,74)
 else S.all fun T=> { T with aQ:=n }
def off(S:aD):aD:= { S with up:=false }
def bad(S:aD)(b:Int):Bool:=S.up&&S.marked b
def yT(S:aD):Int:=if S.up then S.aQ else 0
end aD
structure Cw where
 g:bL
 aW:Int×Int→Option (Option Addr×Nat×List Int)
 bK:Int×Int→Option (Option Addr×Nat×List Int)
 next:List Int
 marked:Int→Bool
 fH:Int→Bool
 aQ:Int
 up:Bool
 left:Int
 lI:Int
 (bp bw bn bm bk:Nat)
 own:List aA
namespace Cw
def aF(C:Cw):aD:=⟨C.g,fun p=>(C.aW p).map (·.2.2),fun p=>(C.bK p).map (·.2.2),C.next,C.marked,C.fH,C.aQ,C.up,C.left,C.lI⟩
def oo(e:Option Addr×Nat×List Int):Value:= .slice e.1 e.2.2.length e.2.1
def jS(C:Cw):Int×Int→Option Value:=fun p=>(C.aW p).map oo
def nL(C:Cw):Int×Int→Option Value:=fun p=>(C.bK p).map oo
abbrev cells(C:Cw):List Value:=[.i C.g.bl,.i C.g.pg,.i C.g.se,.i C.g.sb,.i C.g.fl,.i C.g.raw,.map (some C.bp),.map (some C.bw),.slice (some ⟨C.bn,0,none⟩) C.next.length C.next.length,
 .map (some C.bm),.map (some C.bk),.i C.aQ,.bool C.up,.i C.left,.i C.lI]
abbrev parts(bc:Nat)(C:Cw):List aA:=[ah bc 165 C.cells,eU C.bp iD C.jS,eU C.bw iD C.nL,ah C.bn 3 (ints .i64 C.next),eU C.bm ru (lD C.marked),eU C.bk ru (lD C.fH),bN C.own]
def A(bc:Nat)(C:Cw):aA:=bN (C.parts bc)
structure Ok(C:Cw):Prop where
 aU:C.g.aU
 pG:∀p e,C.aW p=some e→iQ C.own e.1 e.2.2.length 1 (ints .u8 e.2.2)∧(e.2.2.length:Int)=C.g.raw∧bQ e.2.2
 wr:∀p e,C.bK p=some e→iQ C.own e.1 e.2.2.length 1 (ints .i64 e.2.2)∧(∀i∈e.2.2,0≤i∧i<8*C.g.raw)∧e.2.2.length≤maxLen
 len:(C.next.length:Int)=C.g.bl
 next:∀x∈C.next,0≤x∧x≤C.g.pg
 left:0≤C.left∧C.left≤9223372036854775807
def aZ(C:Cw):Cw:= { C with left:=if C.left=0 then 0 else C.left-1,up:=C.up&& !decide (C.left=1) }
end Cw
theorem aC.wG{f:FuncId}{args:Array Value}{bc:Nat}{C:Cw}{K:World}{F:List aA}{post:Value→List aA→Prop}(h:aC prog f args K (C.parts bc++F) post):aC prog f args K (C.A bc::F) post:=h.sat fun w hw=>hw.Ga
section
variable{bc:Nat}{C:Cw}{K:World}{F:List aA}
theorem jE(hR:gD K F bc 0 C.cells):aL prog 93 #[ptr bc 0] K F (.i C.aF.ready):=by
 refine aC.en func93 ntmps93 ?_;refine aj "atue~agOeL" ?_;refine WL.val (V.load isAgg4 (ak rfl) (fun _=>by repeat (first | exact Rd.here rfl | exact hR _ _ rfl | apply Rd.up))) rfl ?_;refine aj "*gE" (aX (fun aR=> ?_) fun aR=> ?_)
 ·try simp only[lX] at aR
  refine aj "I>" ?_;unfold aD.ready Cw.aF;simp[*]
 ·try simp only[lX] at aR
  refine aj "iI>" ?_;unfold aD.ready Cw.aF;simp[*]
theorem vB(b:Int)(hR:gD K F bc 0 C.cells):aL prog 97 #[ptr bc 0,.i b] K F (.bool (C.aF.block b)):=by
 refine aC.en func97 ntmps97 ?_;refine aj "aj~ic88~~B~^~^" ?_;refine WL.bG (oj:=_) rfl rfl rfl GC.t (V.load isAgg3 (OV.g rfl id) (fun _=>by repeat (first | exact Rd.here rfl | exact hR _ _ rfl | apply Rd.up))) rfl ?_;exact aj "~~CVd$" trivial
theorem ES(b p:Int)(hR:gD K F bc 0 C.cells):aL prog 221 #[ptr bc 0,.i b,.i p] K F (.bool (C.aF.pG b p)):=by
 refine aC.en func221 ntmps221 ?_;refine aj "a0" ?_;refine WL.t2 call97 rfl rfl (vB b hR) rfl ?_;refine aj "c8~LVc88~~B~^~^" ?_;refine WL.bG (oj:=_) rfl rfl rfl GC.t (V.load isAgg3 (OV.g rfl id) (fun _=>by repeat (first | exact Rd.here rfl | exact hR _ _ rfl | apply Rd.up))) rfl ?_;exact aj "~~CVd$" trivial
theorem nZ(v:Value)(b:Bool):aL prog 225 #[v,.bool b] K F (.i (aD.after b)):=by
 refine aC.en func225 ntmps225 ?_;refine aj "afk" (aX (fun aN=> ?_) fun aN=> ?_)
 ·try simp only[lX] at aN
  refine aj "I" ?_;exact qR F rfl rfl gy ⟨by simp[aD.after,aN],rfl⟩
 ·try simp only[lX] at aN
  refine aj "iI" ?_;exact qR F rfl rfl gy ⟨by simp[aD.after,aN],rfl⟩
theorem EK(hl:0≤C.left∧C.left≤9223372036854775807):aC prog 224 #[ptr bc 0] K (ah bc 165 C.cells::F) (fun v H'=>v= .bool C.aF.cut∧H'=ah bc 165 C.aZ.cells::F):=by
 dsimp only[Cw.cells];refine aC.en func224 ntmps224 ?_;refine aj "af,p%k" (aX (fun aN=> ?_) fun aN=> ?_)
 ·simp only[lX] at aN;refine aj "I" ?_;refine qR (ah bc _ C.aZ.cells::F) rfl rfl (fun w h=>Sat.aS h ?_) ⟨?_,rfl⟩
  ·simp[Cw.aZ,aN]
  ·simp[aD.cut,Cw.aF,aN]
 ·simp only[lX] at aN;refine aj "Z,p(L~jbr,p%k" (aX (fun aR=> ?_) fun aR=> ?_)
  ·simp only[lX] at aR;have h1:C.left=1:=ay;refine aj "hL~jbe,p%d" ?_;refine qR (ah bc _ C.aZ.cells::F) rfl rfl (fun w h=>Sat.aS h ?_) ⟨?_,rfl⟩
   ·simp[Cw.aZ,pU,h1,aN]
   ·simp[aD.cut,Cw.aF,h1];try omega
  ·simp only[lX] at aR;have h1:C.left≠1:=ay;refine aj "Z,p%d" ?_;refine qR (ah bc _ C.aZ.cells::F) rfl rfl (fun w h=>Sat.aS h ?_) ⟨?_,rfl⟩
   ·simp[Cw.aZ,pU,h1,aN]
   ·simp[aD.cut,Cw.aF,h1];try omega
theorem Ib(hm:C.g.aU)(hR:gD K F bc 0 C.cells):aC prog 222 #[ptr bc 0] K F (fun v H'=>∃b,v= .slice (some ⟨b,0,none⟩) C.g.raw.toNat C.g.raw.toNat∧H'=ah b 5 (ints .u8 (replicate C.g.raw.toNat 255))::F):=by
 have hr:=bL.tJ hm;refine aC.en func222 ntmps222 ?_;refine aj "ajL" ?_;refine WL.val (V.load isAgg3 (ak rfl) (fun _=>by repeat (first | exact Rd.here rfl | exact hR _ _ rfl | apply Rd.up))) rfl ?_;refine WL.sK (m:=C.g.raw.toNat) underlying34 zo (ak rfl) (ak rfl) ay ay ay rfl rfl rfl (fun b9=> ?_);refine aj "foP" ?_;refine WC.loop (σ:=Nat) (fun i=>[(3,.slice (some ⟨b9,0,none⟩) C.g.raw.toNat C.g.raw.toNat),(11,.i (C.g.raw.toNat:Int)),(12,.i (i:Int))]) (fun i=>ah b9 5 (ints .u8 (replicate i 255++replicate (C.g.raw.toNat-i) 0))::F) (fun i=>i≤C.g.raw.toNat) (fun i=>C.g.raw.toNat-i) 0 (zero_le _) bM (fun w h=>Sat.aS h (by simp[ints])) ?_;rintro i hi;refine aj "UE" (aX (fun aN=> ?_) fun aN=> ?_)
 ·try simp only[lX] at aN
  refine aj "1gQ~z" ?_;refine WL.store (cs:=[_]) sizeOf5 (ak rfl) (ak rfl) rfl rfl rfl (dw.at_ (by simp[ints];omega)) ?_;refine aj "b6" ?_;refine⟨i+1,(by show i+1≤_;omega),(by show C.g.raw.toNat-(i+1)<C.g.raw.toNat-i;omega),.cons rfl bM,fun w h=>Sat.aS h ?_⟩;rw[show 0+(i:Int).toNat*1=i by simp,ints_set,HZ ay]
 ·try simp only[lX] at aN
  refine aj "Red" ?_;obtain rfl:i=C.g.raw.toNat:=by omega
  refine qR (ah b9 _ _::F) rfl rfl (fun w h=>Sat.aS h ?_) ⟨b9,rfl,rfl⟩;simp
end
namespace Cw
def jB(C:Cw)(k:Int×Int)(e:Option Addr×Nat×List Int)(own:List aA):Cw:= { C with aW:=fun q=>if q=k then some e else C.aW q,own:=own }
def dQ(C:Cw)(b x:Int):Cw:= { C with next:=C.next.set b.toNat x }
theorem Tf(C:Cw)(k:Int×Int)(e:Option Addr×Nat×List Int)(own:List aA):(C.jB k e own).jS=J3 C.jS k (some (oo e)):=by
 funext q;show (if q=k then some e else C.aW q).map oo=if q=k then some (oo e) else (C.aW q).map oo
 split<;>rfl
theorem Ok.aZ{C:Cw}(h:C.Ok):C.aZ.Ok:=⟨h.aU,h.pG,h.wr,h.len,h.next,by
 have :=h.left;show 0≤(if C.left=0 then 0 else C.left-1)∧(if C.left=0 then 0 else C.left-1)≤9223372036854775807;split<;>omega⟩
theorem Ok.jB{C:Cw}(h:C.Ok){k:Int×Int}{e:Option Addr×Nat×List Int}{own:List aA}(nP:∀K w,Sat K w [bN own]→Sat K w [bN C.own])(h1:iQ own e.1 e.2.2.length 1 (ints .u8 e.2.2))(h2:(e.2.2.length:Int)=C.g.raw)(h3:bQ e.2.2) :
 (C.jB k e own).Ok:=by
 refine⟨h.aU,fun p e' hp=> ?_,fun p e' hp=>⟨(h.wr p e' hp).1.mono nP,(h.wr p e' hp).2⟩,h.len,h.next,h.left⟩;have DU:(if p=k then some e else C.aW p)=some e':=hp;split at DU
 ·injection DU with DU;subst DU;exact⟨h1,h2,h3⟩
 ·have :=h.pG p e' DU;exact⟨this.1.mono nP,this.2⟩
theorem Ok.dQ{C:Cw}(h:C.Ok){b x:Int}(hx:0≤x∧x≤C.g.pg):(C.dQ b x).Ok:=by
 refine⟨h.aU,h.pG,h.wr, ?_,fun y hy=> ?_,h.left⟩
 ·show ((C.next.set b.toNat x).length:Int)=C.g.bl;rw[length_set];exact h.len
 ·rcases mem_or_eq_of_mem_set hy with h1 | h1
  ·exact h.next y h1
  ·subst h1;exact hx
theorem GL(C:Cw)(k:Int×Int)(e:Option Addr×Nat×List Int)(own:List aA):(C.jB k e own).aF= { C.aF with aW:=aD.DN C.aF.aW k (some e.2.2) }:=by
 unfold aF jB;simp only[aD.mk.injEq,true_and,and_true];funext q;show (if q=k then some e else C.aW q).map (·.2.2)=if q=k then some e.2.2 else (C.aW q).map (·.2.2)
 split<;>rfl
theorem mH(C:Cw)(b x:Int):(C.dQ b x).aF= { C.aF with next:=C.aF.kU b x }:=rfl
theorem ahQ(A:aA)(l:List aA):∀K w,Sat K w [bN (A::l)]→Sat K w [bN l]:=fun K w h=>Sat.all (l:=l) (H:=[]) h.Ga.tail
end Cw
theorem Cr{bc bo:Nat}{C:Cw}{b p x:Int}{bytes:List Int}{nx vs:List Value}{K w:World}{F:List aA}(hvs:vs=ints .u8 bytes)(hn:bytes.length=C.g.raw.toNat)(ZL:nx=ints .i64 (C.next.set b.toNat x))
 (h:Sat K w (ah bc 165 C.cells::ah bo 5 vs::eU C.bp iD (J3 C.jS (b,p) (some (.slice (some ⟨bo,0,none⟩) C.g.raw.toNat C.g.raw.toNat)))::eU C.bw iD C.nL::ah C.bn 3 nx
  :: eU C.bm ru (lD C.marked)::eU C.bk ru (lD C.fH)::bN C.own::F)) :
 Sat K w (((C.jB (b,p) (some ⟨bo,0,none⟩,C.g.raw.toNat,bytes) (ah bo 5 (ints .u8 bytes)::C.own)).dQ b x).A bc::F):=by
 subst hvs ZL;have h1:=(h.aY 8 [1,7,0,2,3,4,5,6] rfl).Ev;have h2:=h1.aY 7 [1,2,3,4,5,6,0] rfl;have e1:((C.jB (b,p) (some ⟨bo,0,none⟩,C.g.raw.toNat,bytes) (ah bo 5 (ints .u8 bytes)::C.own)).dQ b x).jS=J3 C.jS (b,p) (some (.slice (some ⟨bo,0,none⟩) C.g.raw.toNat C.g.raw.toNat)):=by
  refine (Cw.Tf C (b,p) (some ⟨bo,0,none⟩,C.g.raw.toNat,bytes) (ah bo 5 (ints .u8 bytes)::C.own)).trans ?_;unfold Cw.oo;rw[hn]
 refine Sat.all (l:=Cw.parts bc _) ?_;unfold Cw.parts;rw[e1];have e2:((C.jB (b,p) (some ⟨bo,0,none⟩,C.g.raw.toNat,bytes) (ah bo 5 (ints .u8 bytes)::C.own)).dQ b x).cells=C.cells:=by
  unfold Cw.cells Cw.dQ Cw.jB;simp
 rw[e2];exact h2
theorem Nr{bo:Nat}{C:Cw}(hC:C.Ok){b p x:Int}{bytes:List Int}(hn:bytes.length=C.g.raw.toNat)(hb:bQ bytes)(hx:0≤x∧x≤C.g.pg) :
 ((C.jB (b,p) (some ⟨bo,0,none⟩,C.g.raw.toNat,bytes) (ah bo 5 (ints .u8 bytes)::C.own)).dQ b x).Ok:=by
 have hr:=bL.tJ hC.aU;refine Cw.Ok.dQ (hC.jB (Cw.ahQ _ _) (iQ.here fun K=>Seq.allI rfl) (by show (bytes.length:Int)=_;omega) hb) hx
theorem Nt{bc:Nat}{C:Cw}(hC:C.Ok){B:Option Addr}{m cap:Nat}{xs:List Int}(b p:Int)(hx:bQ xs){K:World}{F:List aA}(hs:Seq K F B m 1 (ints .u8 xs))(nO:m≤cap) :
 aC prog 192 #[ptr bc 0,.i b,.i p,.slice B m cap] K (C.A bc::F)
  (fun v H'=>∃C':Cw,C'.Ok∧H'=C'.A bc::F∧C'.aF=(C.aF.program b p xs).1∧v= .i (C.aF.program b p xs).2):=by
 have hl:xs.length=m:=by simpa [ints] using hs.len
 have hlen:=hC.len;have ak4:(C.aZ.next.length:Int)=C.g.bl:=hC.len;have hm:=hC.aU;unfold bL.aU at hm;have hr:=bL.tJ hC.aU;refine aC.wG ?_;dsimp only[Cw.parts,cons_append,nil_append];refine aC.en func192 ntmps192 ?_;refine aj "af" ?_;refine WL.t1 call93 rfl (jE (C:=C) wM) rfl ?_;refine aj "jsk" (aX (fun aN=> ?_) fun aN=> ?_)
 ·have nP:C.up=false:=by cases h:C.up<;>simp[aD.ready,Cw.aF,h] at aN ⊢
  refine aj "ed" ?_;have e1:C.aF.program b p xs=(C.aF,70):=by unfold aD.program;rw[if_pos (show C.aF.up=false from nP)]
  rw[e1];exact qR (C.A bc::F) rfl rfl (fun w h=>Sat.all (l:=C.parts bc) h) ⟨C,hC,rfl,rfl,by unfold aD.ready;rw[if_neg (by show ¬C.up=true;rw[nP];decide)]⟩
 ·have nP:C.up=true:=by cases h:C.up<;>simp[aD.ready,Cw.aF,h] at aN ⊢
  refine aj "1z" ?_;refine WL.t3 call221 rfl rfl rfl (ES (C:=C) b p wM) rfl ?_;refine aj "*cY~HY~~n~Y~b~*JgE" (aX (fun aR=> ?_) fun aR=> ?_)
  ·simp only[KD] at aR;have e1:C.aF.program b p xs=(C.aF,1):=by
    unfold aD.program;rw[if_neg (by show ¬C.up=false;rw[nP];decide),if_pos (by rw[hl];exact aR)]
   refine aj "I" ?_;rw[e1];exact qR (C.A bc::F) rfl rfl (fun w h=>Sat.all (l:=C.parts bc) h) ⟨C,hC,rfl,rfl,rfl⟩
  ·simp only[KD] at aR;obtain⟨RF,K5⟩:=aR;have GI:0≤b∧b<C.g.bl∧0≤p∧p<C.g.pg:=by
    have h:=RF;simp only[aD.pG,aD.block,Bool.and_eq_true,decide_eq_true_eq] at h;exact⟨h.1.1.1,h.1.1.2,h.1.2,h.2⟩
   have hk:C.aF.kept m=min (max C.lI 0) m:=rfl;have ZL:0≤C.aF.nD b∧C.aF.nD b≤C.g.pg:=by
    have h1:C.aF.nD b=C.next.getD b.toNat 0:=rfl;have h2:b.toNat<C.next.length:=ay;rw[h1,getD,getElem?_eq_getElem h2];exact hC.next _ (getElem_mem h2)
   have K6:(ints .i64 C.next)[0+b.toNat*1]? =some (.i (C.aF.nD b)):=by
    rw[Nat.zero_add,Nat.mul_one];exact uI _ _ ay
   refine aj "ec,pc~z" ?_;refine WL.val (V.load isAgg3 (ak rfl) (fun _=>by repeat (first | exact Rd.here K6 | apply Rd.up))) rfl ?_;refine aj "sgE" (aX (fun bB=> ?_) fun bB=> ?_)
   ·simp only[KD] at bB;have h2:=bB;refine aj "I" ?_;have e1:C.aF.program b p xs=(C.aF,71):=by
     unfold aD.program;rw[if_neg (by show ¬C.up=false;rw[nP];decide),if_neg (by rw[hl,RF];rintro (h | h);cases h;exact h K5),if_pos h2]
    rw[e1];exact qR (C.A bc::F) rfl rfl (fun w h=>Sat.all (l:=C.parts bc) h) ⟨C,hC,rfl,rfl,rfl⟩
   ·simp only[KD] at bB;have h2:=bB;refine aj "Z" ?_;refine WL.c1 call222 rfl (Ib (C:=C) hC.aU wM) rfl ?_;rintro _ _ ⟨bo,rfl,rfl⟩;refine aj "j|" ?_;refine WL.c1 call224 rfl (EK (C:=C) hC.left) rfl ?_;rintro _ _ ⟨rfl,rfl⟩;refine aj "tuegE" (aX (fun eF=> ?_) fun eF=> ?_)
    ·have h3:=eF;refine aj "hz,p~~oco" ?_;refine WL.val (V.min (ak rfl) (ak rfl)) rfl ?_;refine WL.val (V.slice (h:=(C.aF.kept m).toNat) eu (ak rfl) OO.none (OO.some (ak rfl) (fun _=>by show min (max C.lI 0) (m:Int)=_;rw[hk];omega)) OO.none (by simp) (zero_le _) (by rw[hk];omega) (Nat.le_refl _)) rfl ?_;refine WL.zm eu (ak rfl) (ak rfl) (news:=ints .u8 (xs.take (C.aF.kept m).toNat)) (by rw[zQ,←Mx];exact Seq.take (by repeat (first | exact hs | apply Seq.up)) (by rw[hk];omega)) (by rw[hk];omega) (yM _ _) (dw.up (dw.front (by simp[ints];rw[hk];omega))) rfl ?_;refine aj "be,pz" ?_;refine WL.val (V.build (vs:=[(0,_),(1,_)]) ⟨ak rfl,ak rfl,trivial⟩ rfl (iW _ _)) rfl (WL.mv rfl rfl ?_);refine WL.vO (k:=(_,_)) underlying161 Ac (ak rfl) (ak rfl) (ak rfl) (by repeat (first | exact ql.here | apply ql.up)) ?_;refine aj "be,pc~z" ?_;refine WL.val (V.load isAgg3 (ak rfl) (fun _=>by repeat (first | exact Rd.here K6 | apply Rd.up))) rfl ?_;refine aj ".~z" ?_;refine WL.store (cs:=[_]) sizeOf3 (ak rfl) (ak rfl) rfl rfl rfl (by repeat (first | exact dw.at_ (by rw[Nat.zero_add,Nat.mul_one,bY];omega) | apply dw.up)) ?_;refine aj "bec" ?_;refine WL.t2 call225 rfl rfl (nZ _ _) rfl ?_;refine aj "d" ?_;have hn1:¬C.aF.up=false:=by show ¬C.up=false;rw[nP];decide
     have hn2:¬(C.aF.pG b p=false∨(xs.length:Int)≠C.aF.raw):=by rw[hl,RF];rintro (h | h);cases h;exact h K5
     have hn3:¬p≠C.aF.nD b:=by rw[h2];exact fun h=>h rfl
     have BQ:C.aF.blank.length=C.g.raw.toNat:=length_replicate;cases tV:C.aF.cut with
     | true =>
      have e1:C.aF.program b p xs=({ C.aF.aZ with aW:=aD.DN C.aF.aZ.aW (b,p) (some (xs.take (C.aF.kept xs.length).toNat++C.aF.blank.drop (C.aF.kept xs.length).toNat)),next:=C.aF.aZ.kU b (p+1) },70):=by
       unfold aD.program;rw[if_neg hn1,if_neg hn2,if_neg hn3,if_pos tV]
      first
       | (exfalso;exact Bool.noConfusion (h3.symm.trans tV))
       | (
        rw[hl] at e1;rw[e1];have pF:(xs.take (C.aF.kept m).toNat++C.aF.blank.drop (C.aF.kept m).toNat).length=C.g.raw.toNat:=by
         rw[length_append,length_take,length_drop,BQ,hl,hk];omega
        refine aG.ret (H':=Cw.A bc ((C.aZ.jB (b,p) (some ⟨bo,0,none⟩,C.g.raw.toNat,xs.take (C.aF.kept m).toNat++C.aF.blank.drop (C.aF.kept m).toNat) (ah bo 5 (ints .u8 (xs.take (C.aF.kept m).toNat++C.aF.blank.drop (C.aF.kept m).toNat))::C.own)).dQ b (p+1))::F)
         (bI.tmp rfl rfl) (fun w h=>Cr (C:=C.aZ) ?_ pF ?_ h) ⟨_,Nr (C:=C.aZ) hC.aZ pF ((hx.take _).append ((bQ.vg ay).drop _)) (by show 0≤p+1∧p+1≤C.g.pg;omega),rfl, ?_, ?_⟩
        ·rw[eP,←zI,bY,length_take,hl,show min (C.aF.kept m).toNat m=(C.aF.kept m).toNat by rw[hk];omega];rfl
        ·rw[Nat.zero_add,Nat.mul_one,ints_set,←h2];rfl
        ·rw[Cw.mH,Cw.GL];rfl
        ·rfl)
     | false =>
      first
       | (exfalso;exact Bool.noConfusion (h3.symm.trans tV))
       | (
        have e1:C.aF.program b p xs=({ C.aF.aZ with aW:=aD.DN C.aF.aZ.aW (b,p) (some xs),next:=C.aF.aZ.kU b (p+1) },0):=by
         unfold aD.program;rw[if_neg hn1,if_neg hn2,if_neg hn3,if_neg (by rw[tV];decide),if_neg (by rw[show C.aF.fH b=false from h4];decide)]
        rw[e1];have pF:xs.length=C.g.raw.toNat:=ay;refine aG.ret (H':=Cw.A bc ((C.aZ.jB (b,p) (some ⟨bo,0,none⟩,C.g.raw.toNat,xs) (ah bo 5 (ints .u8 xs)::C.own)).dQ b (p+1))::F)
         (bI.tmp rfl rfl) (fun w h=>Cr (C:=C.aZ) ?_ pF ?_ h) ⟨_,Nr (C:=C.aZ) hC.aZ pF hx (by show 0≤p+1∧p+1≤C.g.pg;omega),rfl, ?_, ?_⟩
        ·rw[zI,drop_eq_nil_of_le (by rw[bY,length_replicate];omega)];simp[ints]
        ·rw[Nat.zero_add,Nat.mul_one,ints_set,←h2];rfl
        ·rw[Cw.mH,Cw.GL];rfl
        ·rfl)
    ·have h3:=eF;refine aj "e,pc" ?_;refine WL.val (V.aI (v':= .bool _) (V.lookup (k:=_) underlying163 zeroValue4 kl3 (ak rfl) (ak rfl) (fun _=>by repeat (first | exact KN.here | apply KN.up))) (fun _=>Ef _ _)) rfl ?_;refine aj "gE" (aX (fun mZ=> ?_) fun mZ=> ?_)
     ·have h4:=mZ;refine aj "I" ?_;have e1:C.aF.program b p xs=(C.aF.aZ,72):=by
       unfold aD.program;rw[if_neg (by show ¬C.up=false;rw[nP];decide),if_neg (by rw[hl,RF];rintro (h | h);cases h;exact h K5),if_neg (by rw[h2];exact fun h=>h rfl),if_neg (by rw[h3];decide),if_pos (show C.aF.fH b=true from h4)]
      rw[e1];exact qR (C.aZ.A bc::F) rfl rfl (fun w h=>Sat.all (l:=C.aZ.parts bc) (h.aY 2 [0] rfl)) ⟨C.aZ,hC.aZ,rfl,rfl,rfl⟩
     ·have h4:=mZ;refine aj "Q" ?_;refine WL.zm eu (ak rfl) (ak rfl) (by repeat (first | exact hs | apply Seq.up)) ay (yM _ _) (dw.up (dw.front (by simp[ints];omega))) rfl ?_;refine aj "be,pz" ?_;refine WL.val (V.build (vs:=[(0,_),(1,_)]) ⟨ak rfl,ak rfl,trivial⟩ rfl (iW _ _)) rfl (WL.mv rfl rfl ?_);refine WL.vO (k:=(_,_)) underlying161 Ac (ak rfl) (ak rfl) (ak rfl) (by repeat (first | exact ql.here | apply ql.up)) ?_;refine aj "be,pc~z" ?_;refine WL.val (V.load isAgg3 (ak rfl) (fun _=>by repeat (first | exact Rd.here K6 | apply Rd.up))) rfl ?_;refine aj ".~z" ?_;refine WL.store (cs:=[_]) sizeOf3 (ak rfl) (ak rfl) rfl rfl rfl (by repeat (first | exact dw.at_ (by rw[Nat.zero_add,Nat.mul_one,bY];omega) | apply dw.up)) ?_;refine aj "bec" ?_;refine WL.t2 call225 rfl rfl (nZ _ _) rfl ?_;refine aj "d" ?_;have hn1:¬C.aF.up=false:=by show ¬C.up=false;rw[nP];decide
      have hn2:¬(C.aF.pG b p=false∨(xs.length:Int)≠C.aF.raw):=by rw[hl,RF];rintro (h | h);cases h;exact h K5
      have hn3:¬p≠C.aF.nD b:=by rw[h2];exact fun h=>h rfl
      have BQ:C.aF.blank.length=C.g.raw.toNat:=length_replicate;cases tV:C.aF.cut with
      | true =>
       have e1:C.aF.program b p xs=({ C.aF.aZ with aW:=aD.DN C.aF.aZ.aW (b,p) (some (xs.take (C.aF.kept xs.length).toNat++C.aF.blank.drop (C.aF.kept xs.length).toNat)),next:=C.aF.aZ.kU b (p+1) },70):=by
        unfold aD.program;rw[if_neg hn1,if_neg hn2,if_neg hn3,if_pos tV]
       first
        | (exfalso;exact Bool.noConfusion (h3.symm.trans tV))
        | (
         rw[hl] at e1;rw[e1];have pF:(xs.take (C.aF.kept m).toNat++C.aF.blank.drop (C.aF.kept m).toNat).length=C.g.raw.toNat:=by
          rw[length_append,length_take,length_drop,BQ,hl,hk];omega
         refine aG.ret (H':=Cw.A bc ((C.aZ.jB (b,p) (some ⟨bo,0,none⟩,C.g.raw.toNat,xs.take (C.aF.kept m).toNat++C.aF.blank.drop (C.aF.kept m).toNat) (ah bo 5 (ints .u8 (xs.take (C.aF.kept m).toNat++C.aF.blank.drop (C.aF.kept m).toNat))::C.own)).dQ b (p+1))::F)
          (bI.tmp rfl rfl) (fun w h=>Cr (C:=C.aZ) ?_ pF ?_ h) ⟨_,Nr (C:=C.aZ) hC.aZ pF ((hx.take _).append ((bQ.vg ay).drop _)) (by show 0≤p+1∧p+1≤C.g.pg;omega),rfl, ?_, ?_⟩
         ·rw[eP,←zI,bY,length_take,hl,show min (C.aF.kept m).toNat m=(C.aF.kept m).toNat by rw[hk];omega];rfl
         ·rw[Nat.zero_add,Nat.mul_one,ints_set,←h2];rfl
         ·rw[Cw.mH,Cw.GL];rfl
         ·rfl)
      | false =>
       first
        | (exfalso;exact Bool.noConfusion (h3.symm.trans tV))
        | (
         have e1:C.aF.program b p xs=({ C.aF.aZ with aW:=aD.DN C.aF.aZ.aW (b,p) (some xs),next:=C.aF.aZ.kU b (p+1) },0):=by
          unfold aD.program;rw[if_neg hn1,if_neg hn2,if_neg hn3,if_neg (by rw[tV];decide),if_neg (by rw[show C.aF.fH b=false from h4];decide)]
         rw[e1];have pF:xs.length=C.g.raw.toNat:=ay;refine aG.ret (H':=Cw.A bc ((C.aZ.jB (b,p) (some ⟨bo,0,none⟩,C.g.raw.toNat,xs) (ah bo 5 (ints .u8 xs)::C.own)).dQ b (p+1))::F)
          (bI.tmp rfl rfl) (fun w h=>Cr (C:=C.aZ) ?_ pF ?_ h) ⟨_,Nr (C:=C.aZ) hC.aZ pF hx (by show 0≤p+1∧p+1≤C.g.pg;omega),rfl, ?_, ?_⟩
         ·rw[zI,drop_eq_nil_of_le (by rw[bY,length_replicate];omega)];simp[ints]
         ·rw[Nat.zero_add,Nat.mul_one,ints_set,←h2];rfl
         ·rw[Cw.mH,Cw.GL];rfl
         ·rfl)
namespace Cw
def off(C:Cw):Cw:= { C with up:=false }
def mark(C:Cw)(b:Int):Cw:= { C with marked:=fun k=>if k=b then true else C.marked k }
def pR(C:Cw)(n:Int):Cw:= { C with aQ:=n }
variable{C:Cw}(h:C.Ok)
include h
theorem Ok.off:C.off.Ok:=⟨h.aU,h.pG,h.wr,h.len,h.next,h.left⟩
theorem Ok.mark{b:Int}:(C.mark b).Ok:=⟨h.aU,h.pG,h.wr,h.len,h.next,h.left⟩
theorem Ok.pR{n:Int}:(C.pR n).Ok:=⟨h.aU,h.pG,h.wr,h.len,h.next,h.left⟩
end Cw
section
variable{bc:Nat}{C:Cw}{K:World}{F:List aA}
theorem VN:aL prog 185 #[ptr bc 0] K (C.A bc::F) (.bool C.up):=by
 refine aC.wG ?_;dsimp only[Cw.parts,cons_append,nil_append];refine aC.en func185 ntmps185 ?_;refine aj "aj" ?_;refine WL.t1 call93 rfl (jE (C:=C) wM) rfl ?_;refine aj "%d" ?_;refine qR (C.A bc::F) rfl rfl (fun w h=>Sat.all (l:=C.parts bc) h) ⟨?_,rfl⟩;show Value.bool (decide ((if C.up then (0:Int) else 70)=0))=_;cases C.up<;>rfl
theorem EP:aL prog 27 #[ptr bc 0] K (C.A bc::F) (.i C.aF.yT):=by
 refine aC.wG ?_;dsimp only[Cw.parts,cons_append,nil_append];refine aC.en func27 ntmps27 ?_;refine aj "af" ?_;refine WL.t1 call93 rfl (jE (C:=C) wM) rfl ?_;refine aj "sk" (aX (fun aN=> ?_) fun aN=> ?_)
 ·have h0:=aN;refine aj "I" ?_;refine qR (C.A bc::F) rfl rfl (fun w h=>Sat.all (l:=C.parts bc) h) ⟨?_,rfl⟩;have h1:C.aF.ready=if C.up then 0 else 70:=rfl
  rw[h1] at h0;show _=Value.int .i64 (if C.up then C.aQ else 0);cases hu:C.up<;>simp[hu] at h0 ⊢
 ·have h0:=aN;refine aj "Z,pd" ?_;refine qR (C.A bc::F) rfl rfl (fun w h=>Sat.all (l:=C.parts bc) h) ⟨?_,rfl⟩;have h1:C.aF.ready=if C.up then 0 else 70:=rfl
  rw[h1] at h0;show _=Value.int .i64 (if C.up then C.aQ else 0);cases hu:C.up<;>simp[hu] at h0 ⊢
theorem R4(b:Int):aL prog 186 #[ptr bc 0,.i b] K (C.A bc::F) (.bool (C.aF.bad b)):=by
 refine aC.wG ?_;dsimp only[Cw.parts,cons_append,nil_append];refine aC.en func186 ntmps186 ?_;refine aj "aj" ?_;refine WL.t1 call93 rfl (jE (C:=C) wM) rfl ?_;refine aj "%c8~~B~^=8" ?_;refine WL.bG (oj:=_) rfl rfl rfl GC.t (V.aI (v':= .bool _) (V.lookup (k:=_) underlying163 zeroValue4 kl3 (OV.g rfl id) (OV.g rfl id) (fun _=>by repeat (first | exact KN.here | apply KN.up))) (fun _=>Ef _ _)) rfl ?_;refine aj "Vd" ?_;refine qR (C.A bc::F) rfl rfl (fun w h=>Sat.all (l:=C.parts bc) h) ⟨?_,rfl⟩;show Value.bool (decide ((if C.up then (0:Int) else 70)=0)&&C.marked b)=Value.bool (C.up&&C.marked b);cases C.up<;>rfl
theorem KS:aL prog 98 #[ptr bc 0] K (C.A bc::F) C.g.v:=by
 refine aC.wG ?_;dsimp only[Cw.parts,cons_append,nil_append];refine aC.en func98 ntmps98 ?_;refine aj "aA" fun b2=> ?_;refine aj "br~abOZLGK3" ?_;exact aG.ret (H':=C.A bc::F) (bI.one rfl (R1.nG (vs:=[_,_,_,_,_]) rfl ⟨isAgg23,sizeOf23⟩ rfl Bn)) (fun w h=>Sat.all (l:=C.parts bc) h.tail) ⟨rfl,rfl⟩
end
theorem vv(f:Int×Int→Option Value)(b:Int)(i:Nat):J3 (aD.bC f b i) (b,(i:Int)) none=aD.bC f b ((i+1:Nat):Int):=by unfold J3 aD.bC;grind
theorem sF{α:Type}(f:Int×Int→Option α)(b:Int):aD.bC f b 0=f:=by unfold aD.bC;grind
namespace Cw
def bC(C:Cw)(b n:Int):Cw:= { C with aW:=aD.bC C.aW b n,bK:=aD.bC C.bK b n }
theorem Bc{α β:Type}(f:Int×Int→Option α)(g:α→β)(b n:Int):(fun p=>(aD.bC f b n p).map g)=aD.bC (fun p=>(f p).map g) b n:=by grind [aD.bC]
theorem sG(C:Cw)(b n:Int):(C.bC b n).jS=aD.bC C.jS b n:=Bc C.aW oo b n
theorem sI(C:Cw)(b n:Int):(C.bC b n).nL=aD.bC C.nL b n:=Bc C.bK oo b n
theorem DR(C:Cw)(b n:Int):(C.bC b n).aF= { C.aF with aW:=aD.bC C.aF.aW b n,bK:=aD.bC C.aF.bK b n }:=by simp_all [aF,bC,Bc]
theorem Ok.bC{C:Cw}(h:C.Ok)(b n:Int):(C.bC b n).Ok:=by
 have hd:∀ {α:Type} (f:Int×Int→Option α) p e,aD.bC f b n p=some e→f p=some e:=fun f p e he=>by
  unfold aD.bC at he;split at he
  ·cases he
  ·exact he
 exact⟨h.aU,fun p e he=>h.pG p e (hd _ p e he),fun p e he=>h.wr p e (hd _ p e he),h.len,h.next,h.left⟩
end Cw
theorem TB{bc:Nat}{C:Cw}(hC:C.Ok)(b:Int){K:World}{F:List aA} :
 aC prog 172 #[ptr bc 0,.i b] K (C.A bc::F)
  (fun v H'=>∃C':Cw,C'.Ok∧H'=C'.A bc::F∧C'.aF=(C.aF.erase b).1∧v= .i (C.aF.erase b).2):=by
 have hlen:=hC.len;have ak4:(C.aZ.next.length:Int)=C.g.bl:=hC.len;have hm:=hC.aU;unfold bL.aU at hm;refine aC.wG ?_;dsimp only[Cw.parts,cons_append,nil_append];refine aC.en func172 ntmps172 ?_;refine aj "af" ?_;refine WL.t1 call93 rfl (jE (C:=C) wM) rfl ?_;refine aj "jsk" (aX (fun aN=> ?_) fun aN=> ?_)
 ·have nP:C.up=false:=by cases h:C.up<;>simp[aD.ready,Cw.aF,h] at aN ⊢
  refine aj "ed" ?_;have e1:C.aF.erase b=(C.aF,70):=by unfold aD.erase;rw[if_pos (show C.aF.up=false from nP)]
  rw[e1];exact qR (C.A bc::F) rfl rfl (fun w h=>Sat.all (l:=C.parts bc) h) ⟨C,hC,rfl,rfl,by unfold aD.ready;rw[if_neg (by show ¬C.up=true;rw[nP];decide)]⟩
 ·have nP:C.up=true:=by cases h:C.up<;>simp[aD.ready,Cw.aF,h] at aN ⊢
  refine aj "irc" ?_;refine WL.t2 call97 rfl rfl (vB (C:=C) b wM) rfl ?_;refine aj "*k" (aX (fun aR=> ?_) fun aR=> ?_)
  ·simp only[KD] at aR;refine aj "I" ?_;have e1:C.aF.erase b=(C.aF,1):=by unfold aD.erase;rw[if_neg (by show ¬C.up=false;rw[nP];decide),if_pos aR]
   rw[e1];exact qR (C.A bc::F) rfl rfl (fun w h=>Sat.all (l:=C.parts bc) h) ⟨C,hC,rfl,rfl,rfl⟩
  ·simp only[KD] at aR;have BQ:0≤b∧b<C.g.bl:=by
    have h:=aR;simp only[aD.block,Bool.and_eq_true,decide_eq_true_eq] at h;exact h
   refine aj "ZLpj" ?_;refine WL.c1 call224 rfl (EK (C:=C) hC.left) rfl ?_;rintro _ _ ⟨rfl,rfl⟩;refine aj "tuegE" (aX (fun bB=> ?_) fun bB=> ?_)
   ·have h2:=bB;refine aj "h,p~~oc" ?_;refine WL.val (V.min (ak rfl) (ak rfl)) rfl (aj "tN" ?_);first
    | refine WC.Ni (α:=Int×List Int) (fun x=>0≤x.1∧x.1≤C.g.pg∧((C.aF.cut=true∧x.1=C.aF.kept C.g.pg∧x.2=C.next)∨(C.aF.cut=false∧C.aF.fH b=false∧x.1=C.g.pg∧x.2=C.next.set b.toNat 0))) (fun x=>[(0,ptr bc 0),(1,.int .i64 b),(6,.int .i64 x.1),(7,.bool C.aF.cut)]) (fun x=>ah bc 165 C.aZ.cells::eU C.bp iD C.jS::eU C.bw iD C.nL::ah C.bn 3 (ints .i64 x.2)::eU C.bm ru (lD C.marked)::eU C.bk ru (lD C.fH)::bN C.own::F) (C.aF.kept C.g.pg,C.next) ⟨by show 0≤min (max C.lI 0) C.g.pg;omega,by show min (max C.lI 0) C.g.pg≤C.g.pg;omega,.inl ⟨h2,rfl,rfl⟩⟩ (.cons rfl (.cons rfl (.cons rfl (.cons rfl (.nil _))))) cu (fun x hx=> ?_)
    | refine WC.Ni (α:=Int×List Int) (fun x=>0≤x.1∧x.1≤C.g.pg∧((C.aF.cut=true∧x.1=C.aF.kept C.g.pg∧x.2=C.next)∨(C.aF.cut=false∧C.aF.fH b=false∧x.1=C.g.pg∧x.2=C.next.set b.toNat 0))) (fun x=>[(0,ptr bc 0),(1,.int .i64 b),(6,.int .i64 x.1),(7,.bool C.aF.cut)]) (fun x=>ah bc 165 C.aZ.cells::eU C.bp iD C.jS::eU C.bw iD C.nL::ah C.bn 3 (ints .i64 x.2)::eU C.bm ru (lD C.marked)::eU C.bk ru (lD C.fH)::bN C.own::F) (C.g.pg,C.next.set b.toNat 0) ⟨by omega,Int.le_refl _,.inr ⟨h2,h3,rfl,rfl⟩⟩ (.cons rfl (.cons rfl (.cons rfl (.cons rfl (.nil _))))) (fun w h=>by rw[Nat.zero_add,Nat.mul_one,ints_set] at h;exact h) (fun x hx=> ?_)
    obtain⟨n,nx⟩:=x;obtain⟨hn0,hn1,hx⟩:=hx;dsimp only at hn0 hn1 hx ⊢;refine aj "hP" ?_;refine WC.loop (σ:=Nat) (fun i=>[(0,ptr bc 0),(1,.i b),(7,.bool C.aF.cut),(47,.i n),(48,.i (i:Int))]) (fun i=>ah bc 165 C.aZ.cells::eU C.bp iD (aD.bC C.jS b i)::eU C.bw iD (aD.bC C.nL b i)::ah C.bn 3 (ints .i64 nx)::eU C.bm ru (lD C.marked)::eU C.bk ru (lD C.fH)::bN C.own::F) (fun i=>(i:Int)≤n) (fun i=>n.toNat-i) 0 (by show ((0:Nat):Int)≤n;omega) bM (fun w h=>by rw[show ((0:Nat):Int)=0 from rfl,sF,sF];exact h) ?_;rintro i hi;refine aj "UE" (aX (fun mZ=> ?_) fun mZ=> ?_)
    ·try simp only[lX] at mZ
     refine aj "1j,pz" ?_;refine WL.val (V.build (vs:=[(0,_),(1,_)]) ⟨ak rfl,ak rfl,trivial⟩ rfl (iW _ _)) rfl ?_;refine WL.Cn (k:=(_,_)) underlying161 Ac (ak rfl) (ak rfl) (by repeat (first | exact ql.here | apply ql.up)) ?_;refine aj "bh,pz" ?_;refine WL.val (V.build (vs:=[(0,_),(1,_)]) ⟨ak rfl,ak rfl,trivial⟩ rfl (iW _ _)) rfl ?_;refine WL.Cn (k:=(_,_)) underlying162 Ac (ak rfl) (ak rfl) (by repeat (first | exact ql.here | apply ql.up)) ?_;refine aj "b6" ?_;refine⟨i+1,(by show ((i+1:Nat):Int)≤n;omega),(by show n.toNat-(i+1)<n.toNat-i;omega),.cons rfl bM,fun w h=> ?_⟩;rw[vv,vv] at h;exact h
    ·try simp only[lX] at mZ
     refine aj "Rec" ?_;refine WL.t2 call225 rfl rfl (nZ _ _) rfl ?_;refine aj "d" ?_;obtain rfl:n=(i:Int):=by omega
     have hu:¬C.aF.up=false:=by show ¬C.up=false;rw[nP];decide
     have tY:¬C.aF.block b=false:=by rw[aR];decide
     rcases hx with ⟨tV,hn,rfl⟩ | ⟨tV,hw,hn,rfl⟩
     ·have e1:C.aF.erase b=({ C.aF.aZ with aW:=aD.bC C.aF.aZ.aW b i,bK:=aD.bC C.aF.aZ.bK b i },70):=by
       unfold aD.erase;rw[if_neg hu,if_neg tY,if_pos tV,hn];rfl
      rw[e1,tV];refine qR ((C.aZ.bC b i).A bc::F) rfl rfl (fun w h=>Sat.all (l:=(C.aZ.bC b i).parts bc) ?_) ⟨_,hC.aZ.bC b i,rfl,Cw.DR _ _ _,rfl⟩;unfold Cw.parts;rw[Cw.sG,Cw.sI];exact h
     ·have e1:C.aF.erase b=({ C.aF.aZ with aW:=aD.bC C.aF.aZ.aW b i,bK:=aD.bC C.aF.aZ.bK b i,next:=C.aF.aZ.kU b 0 },0):=by
       unfold aD.erase;rw[if_neg hu,if_neg tY,if_neg (by rw[tV];decide),if_neg (by rw[hw];decide),hn];rfl
      rw[e1,tV];refine qR (((C.aZ.bC b i).dQ b 0).A bc::F) rfl rfl (fun w h=>Sat.all (l:=((C.aZ.bC b i).dQ b 0).parts bc) ?_) ⟨_,(hC.aZ.bC b i).dQ (by show (0:Int)≤0∧0≤C.g.pg;omega),rfl, ?_,rfl⟩
      ·unfold Cw.parts;rw[show ((C.aZ.bC b i).dQ b 0).jS=_ from Cw.sG C.aZ b i,show ((C.aZ.bC b i).dQ b 0).nL=_ from Cw.sI C.aZ b i];have e2:((C.aZ.bC b i).dQ b 0).cells=C.aZ.cells:=by
        unfold Cw.cells Cw.dQ Cw.bC;simp
       rw[e2];exact h
      ·rw[Cw.mH,Cw.DR];rfl
   ·have h2:=bB;refine aj "e,pc" ?_;refine WL.val (V.aI (v':= .bool _) (V.lookup (k:=_) underlying163 zeroValue4 kl3 (ak rfl) (ak rfl) (fun _=>by repeat (first | exact KN.here | apply KN.up))) (fun _=>Ef _ _)) rfl ?_;refine aj "gE" (aX (fun eF=> ?_) fun eF=> ?_)
    ·have h3:=eF;refine aj "I" ?_;have e1:C.aF.erase b=(C.aF.aZ,72):=by unfold aD.erase;rw[if_neg (by show ¬C.up=false;rw[nP];decide),if_neg (by rw[aR];decide),if_neg (by rw[h2];decide),if_pos (show C.aF.fH b=true from h3)]
     rw[e1];exact qR (C.aZ.A bc::F) rfl rfl (fun w h=>Sat.all (l:=C.aZ.parts bc) h) ⟨C.aZ,hC.aZ,rfl,rfl,rfl⟩
    ·have h3:=eF;refine aj "h,pc~z" ?_;refine WL.store (cs:=[_]) sizeOf3 (ak rfl) (ak rfl) rfl rfl rfl (by repeat (first | exact dw.at_ (by rw[Nat.zero_add,Nat.mul_one,bY];omega) | apply dw.up)) ?_;refine aj "BN" ?_;first
     | refine WC.Ni (α:=Int×List Int) (fun x=>0≤x.1∧x.1≤C.g.pg∧((C.aF.cut=true∧x.1=C.aF.kept C.g.pg∧x.2=C.next)∨(C.aF.cut=false∧C.aF.fH b=false∧x.1=C.g.pg∧x.2=C.next.set b.toNat 0))) (fun x=>[(0,ptr bc 0),(1,.int .i64 b),(6,.int .i64 x.1),(7,.bool C.aF.cut)]) (fun x=>ah bc 165 C.aZ.cells::eU C.bp iD C.jS::eU C.bw iD C.nL::ah C.bn 3 (ints .i64 x.2)::eU C.bm ru (lD C.marked)::eU C.bk ru (lD C.fH)::bN C.own::F) (C.aF.kept C.g.pg,C.next) ⟨by show 0≤min (max C.lI 0) C.g.pg;omega,by show min (max C.lI 0) C.g.pg≤C.g.pg;omega,.inl ⟨h2,rfl,rfl⟩⟩ (.cons rfl (.cons rfl (.cons rfl (.cons rfl (.nil _))))) cu (fun x hx=> ?_)
     | refine WC.Ni (α:=Int×List Int) (fun x=>0≤x.1∧x.1≤C.g.pg∧((C.aF.cut=true∧x.1=C.aF.kept C.g.pg∧x.2=C.next)∨(C.aF.cut=false∧C.aF.fH b=false∧x.1=C.g.pg∧x.2=C.next.set b.toNat 0))) (fun x=>[(0,ptr bc 0),(1,.int .i64 b),(6,.int .i64 x.1),(7,.bool C.aF.cut)]) (fun x=>ah bc 165 C.aZ.cells::eU C.bp iD C.jS::eU C.bw iD C.nL::ah C.bn 3 (ints .i64 x.2)::eU C.bm ru (lD C.marked)::eU C.bk ru (lD C.fH)::bN C.own::F) (C.g.pg,C.next.set b.toNat 0) ⟨by omega,Int.le_refl _,.inr ⟨h2,h3,rfl,rfl⟩⟩ (.cons rfl (.cons rfl (.cons rfl (.cons rfl (.nil _))))) (fun w h=>by rw[Nat.zero_add,Nat.mul_one,ints_set] at h;exact h) (fun x hx=> ?_)
     obtain⟨n,nx⟩:=x;obtain⟨hn0,hn1,hx⟩:=hx;dsimp only at hn0 hn1 hx ⊢;refine aj "hP" ?_;refine WC.loop (σ:=Nat) (fun i=>[(0,ptr bc 0),(1,.i b),(7,.bool C.aF.cut),(47,.i n),(48,.i (i:Int))]) (fun i=>ah bc 165 C.aZ.cells::eU C.bp iD (aD.bC C.jS b i)::eU C.bw iD (aD.bC C.nL b i)::ah C.bn 3 (ints .i64 nx)::eU C.bm ru (lD C.marked)::eU C.bk ru (lD C.fH)::bN C.own::F) (fun i=>(i:Int)≤n) (fun i=>n.toNat-i) 0 (by show ((0:Nat):Int)≤n;omega) bM (fun w h=>by rw[show ((0:Nat):Int)=0 from rfl,sF,sF];exact h) ?_;rintro i hi;refine aj "UE" (aX (fun mZ=> ?_) fun mZ=> ?_)
     ·try simp only[lX] at mZ
      refine aj "1j,pz" ?_;refine WL.val (V.build (vs:=[(0,_),(1,_)]) ⟨ak rfl,ak rfl,trivial⟩ rfl (iW _ _)) rfl ?_;refine WL.Cn (k:=(_,_)) underlying161 Ac (ak rfl) (ak rfl) (by repeat (first | exact ql.here | apply ql.up)) ?_;refine aj "bh,pz" ?_;refine WL.val (V.build (vs:=[(0,_),(1,_)]) ⟨ak rfl,ak rfl,trivial⟩ rfl (iW _ _)) rfl ?_;refine WL.Cn (k:=(_,_)) underlying162 Ac (ak rfl) (ak rfl) (by repeat (first | exact ql.here | apply ql.up)) ?_;refine aj "b6" ?_;refine⟨i+1,(by show ((i+1:Nat):Int)≤n;omega),(by show n.toNat-(i+1)<n.toNat-i;omega),.cons rfl bM,fun w h=> ?_⟩;rw[vv,vv] at h;exact h
     ·try simp only[lX] at mZ
      refine aj "Rec" ?_;refine WL.t2 call225 rfl rfl (nZ _ _) rfl ?_;refine aj "d" ?_;obtain rfl:n=(i:Int):=by omega
      have hu:¬C.aF.up=false:=by show ¬C.up=false;rw[nP];decide
      have tY:¬C.aF.block b=false:=by rw[aR];decide
      rcases hx with ⟨tV,hn,rfl⟩ | ⟨tV,hw,hn,rfl⟩
      ·have e1:C.aF.erase b=({ C.aF.aZ with aW:=aD.bC C.aF.aZ.aW b i,bK:=aD.bC C.aF.aZ.bK b i },70):=by
        unfold aD.erase;rw[if_neg hu,if_neg tY,if_pos tV,hn];rfl
       rw[e1,tV];refine qR ((C.aZ.bC b i).A bc::F) rfl rfl (fun w h=>Sat.all (l:=(C.aZ.bC b i).parts bc) ?_) ⟨_,hC.aZ.bC b i,rfl,Cw.DR _ _ _,rfl⟩;unfold Cw.parts;rw[Cw.sG,Cw.sI];exact h
      ·have e1:C.aF.erase b=({ C.aF.aZ with aW:=aD.bC C.aF.aZ.aW b i,bK:=aD.bC C.aF.aZ.bK b i,next:=C.aF.aZ.kU b 0 },0):=by
        unfold aD.erase;rw[if_neg hu,if_neg tY,if_neg (by rw[tV];decide),if_neg (by rw[hw];decide),hn];rfl
       rw[e1,tV];refine qR (((C.aZ.bC b i).dQ b 0).A bc::F) rfl rfl (fun w h=>Sat.all (l:=((C.aZ.bC b i).dQ b 0).parts bc) ?_) ⟨_,(hC.aZ.bC b i).dQ (by show (0:Int)≤0∧0≤C.g.pg;omega),rfl, ?_,rfl⟩
       ·unfold Cw.parts;rw[show ((C.aZ.bC b i).dQ b 0).jS=_ from Cw.sG C.aZ b i,show ((C.aZ.bC b i).dQ b 0).nL=_ from Cw.sI C.aZ b i];have e2:((C.aZ.bC b i).dQ b 0).cells=C.aZ.cells:=by
         unfold Cw.cells Cw.dQ Cw.bC;simp
        rw[e2];exact h
       ·rw[Cw.mH,Cw.DR];rfl
section
variable{bc:Nat}{C:Cw}{K:World}{F:List aA}
theorem UN{b b2 b3:Nat}{k:Int}(h2:Rd K F (some ⟨b2,0,none⟩) (ptr bc 0))(h3:Rd K F (some ⟨b3,0,none⟩) (.i k)):aC prog 230 #[ptr b2 0,ptr b3 0] K (C.A bc::F) (fun v H'=>H'=(C.mark k).A bc::F):=by
 refine aC.wG ?_;dsimp only[Cw.parts,cons_append,nil_append];refine aC.en func230 ntmps230 ?_;refine WC.fE F (by kernel_rfl) ?_;refine WA.t 0 rfl (V.load isAgg27 (ak rfl) (fun _=>h2)) ?_;refine aj "@1S2" ?_;refine WA.t 4 rfl (V.load isAgg3 (ak rfl) (fun _=>h3)) ?_;refine aj "n3^bn5" ?_;refine WL.vO (k:=_) underlying163 kl3 (ak rfl) (ak rfl) (ak rfl) (by repeat (first | exact ql.here | apply ql.up)) ?_;refine aj "bM" ?_;exact aG.ret (H':=(C.mark k).A bc::F) (bI.none rfl) (fun w h=>Sat.all (l:=(C.mark k).parts bc) (by rw[Mk] at h;exact h)) rfl
theorem Tx{b2 b3:Nat}{k:Int}(h2:Rd K F (some ⟨b2,0,none⟩) (ptr bc 0))(h3:Rd K F (some ⟨b3,0,none⟩) (.i k)):aC prog 160 #[ptr b3 0,ptr b2 0] K (C.A bc::F) (fun v H'=>H'=(C.pR k).A bc::F):=by
 refine aC.wG ?_;dsimp only[Cw.parts,cons_append,nil_append];refine aC.en func160 ntmps160 ?_;refine WC.region ?_;refine WL.val (V.load isAgg27 (ak rfl) (fun _=>by repeat (first | exact h2 | apply Rd.up))) rfl ?_;refine WL.val (V.load isAgg3 (ak rfl) (fun _=>by repeat (first | exact h3 | apply Rd.up))) rfl ?_;refine aj "L~jb" ?_;exact aG.ret (H':=(C.pR k).A bc::F) (bI.none rfl) (fun w h=>Sat.all (l:=(C.pR k).parts bc) h) rfl
theorem QJ(hC:C.Ok){f:FuncId}{caps:List Value}{C1:Cw}(hf:bT prog f)(hdo:aC prog f caps.toArray K (C.aZ.A bc::F) (fun v H'=>H'=C1.A bc::F)) :
 aC prog 159 #[ptr bc 0,.func (.func f) #[] caps.toArray] K (C.A bc::F) (fun v H'=>v= .i (aD.after C.aF.cut)∧H'=(if !C.aF.cut||decide (0<C.lI) then C1 else C.aZ).A bc::F):=by
 refine aC.wG ?_;dsimp only[Cw.parts,cons_append,nil_append];refine aC.en func159 ntmps159 ?_;refine aj "aj" ?_;refine WL.c1 call224 rfl (EK (C:=C) hC.left) rfl ?_;rintro _ _ ⟨rfl,rfl⟩;refine aj "f*cY~~n~Y~b~lJk" (aX (fun aN=> ?_) fun aN=> ?_)
 ·have h0:=aN;refine aj "h" ?_;refine WL.sub (Sub.refl _) (fun w h=>Sat.all (l:=C.aZ.parts bc) h) ?_;refine WL.nC (first:=[]) (captured:=caps) (vs:=[]) hf (ak rfl) trivial hdo rfl ?_;rintro _ _ rfl;refine aj "bec" ?_;refine WL.t2 call225 rfl rfl (nZ _ _) rfl ?_;refine aj "d" ?_;first
  | exact qR (C1.A bc::F) rfl rfl cu ⟨rfl,by rw[if_pos (show (!C.aF.cut||decide (0<C.lI))=true from h0)]⟩
  | exact qR (C.aZ.A bc::F) rfl rfl (fun w h=>Sat.all (l:=C.aZ.parts bc) h) ⟨rfl,by rw[if_neg (show ¬(!C.aF.cut||decide (0<C.lI))=true by rw[show (!C.aF.cut||decide (0<C.lI))=false from h0];decide)]⟩
 ·have h0:=aN;refine aj "Zc" ?_;refine WL.t2 call225 rfl rfl (nZ _ _) rfl ?_;refine aj "d" ?_;first
  | exact qR (C1.A bc::F) rfl rfl cu ⟨rfl,by rw[if_pos (show (!C.aF.cut||decide (0<C.lI))=true from h0)]⟩
  | exact qR (C.aZ.A bc::F) rfl rfl (fun w h=>Sat.all (l:=C.aZ.parts bc) h) ⟨rfl,by rw[if_neg (show ¬(!C.aF.cut||decide (0<C.lI))=true by rw[show (!C.aF.cut||decide (0<C.lI))=false from h0];decide)]⟩
end
theorem afN{c:Bool}{C1 C2:Cw}{S1 S2:aD}(h1:C1.aF=S1)(h2:C2.aF=S2):(if c then C1 else C2).aF=if c then S1 else S2:=by cases c<;>simp[h1,h2]
theorem aby{c:Bool}{C1 C2:Cw}(h1:C1.Ok)(h2:C2.Ok):(if c then C1 else C2).Ok:=by cases c<;>simp[h1,h2]
theorem Yg{bc:Nat}{C:Cw}(hC:C.Ok)(b:Int){K:World}{F:List aA} :
 aC prog 173 #[ptr bc 0,.i b] K (C.A bc::F)
  (fun v H'=>∃C':Cw,C'.Ok∧H'=C'.A bc::F∧C'.aF=(C.aF.mark b).1∧v= .i (C.aF.mark b).2):=by
 refine aC.wG ?_;dsimp only[Cw.parts,cons_append,nil_append];refine aC.en func173 ntmps173 ?_;refine aj "a~h" fun b2=> ?_;refine aj "~h" fun b3=> ?_;refine aj "ta^" ?_;refine WL.t1 call93 rfl (jE (C:=C) wM) rfl ?_;refine aj "jsk" (aX (fun aN=> ?_) fun aN=> ?_)
 ·have nP:C.up=false:=by cases h:C.up<;>simp[aD.ready,Cw.aF,h] at aN ⊢
  refine aj "ed" ?_;have e1:C.aF.mark b=(C.aF,70):=by unfold aD.mark;rw[if_pos (show C.aF.up=false from nP)]
  rw[e1];exact qR (C.A bc::F) rfl rfl (fun w h=>Sat.all (l:=C.parts bc) h.tail.tail) ⟨C,hC,rfl,rfl,by unfold aD.ready;rw[if_neg (by show ¬C.up=true;rw[nP];decide)]⟩
 ·have nP:C.up=true:=by cases h:C.up<;>simp[aD.ready,Cw.aF,h] at aN ⊢
  refine aj ")a^^" ?_;refine WL.t2 call97 rfl rfl (vB (C:=C) b wM) rfl ?_;refine aj "*k" (aX (fun aR=> ?_) fun aR=> ?_)
  ·simp only[KD] at aR;refine aj "I" ?_;have e1:C.aF.mark b=(C.aF,1):=by unfold aD.mark;rw[if_neg (by show ¬C.up=false;rw[nP];decide),if_pos aR]
   rw[e1];exact qR (C.A bc::F) rfl rfl (fun w h=>Sat.all (l:=C.parts bc) h.tail.tail) ⟨C,hC,rfl,rfl,rfl⟩
  ·simp only[KD] at aR;refine aj "ia^~]" ?_;refine WL.sub (Sub.refl _) (fun w h=>Sat.all (l:=C.parts bc) (h.aY 9 [2,3,4,5,6,7,8,0,1] rfl)) ?_;refine WL.c2 call159 rfl rfl (QJ (caps:=[ptr b2 0,ptr b3 0]) (C1:=C.aZ.mark b) hC call230 (UN (b:=0) nS nS)) rfl ?_;rintro _ _ ⟨rfl,rfl⟩;refine aj "d" ?_;have e1:C.aF.mark b=C.aF.all fun T=> { T with marked:=fun k=>if k=b then true else T.marked k }:=by unfold aD.mark;rw[if_neg (by show ¬C.up=false;rw[nP];decide),if_neg (by rw[aR];decide)]
   rw[e1];exact qR ((if !C.aF.cut||decide (0<C.lI) then C.aZ.mark b else C.aZ).A bc::F) rfl rfl (fun w h=>h.aY 3 [0] rfl) ⟨_,aby hC.aZ.mark hC.aZ,rfl,afN rfl rfl,rfl⟩
theorem Xz{bc:Nat}{C:Cw}(hC:C.Ok)(n:Int){K:World}{F:List aA} :
 aC prog 95 #[ptr bc 0,.i n] K (C.A bc::F)
  (fun v H'=>∃C':Cw,C'.Ok∧H'=C'.A bc::F∧C'.aF=(C.aF.pR n).1∧v= .i (C.aF.pR n).2):=by
 refine aC.wG ?_;dsimp only[Cw.parts,cons_append,nil_append];refine aC.en func95 ntmps95 ?_;refine aj "a~h" fun b2=> ?_;refine aj "~h" fun b3=> ?_;refine aj "ta^" ?_;refine WL.t1 call93 rfl (jE (C:=C) wM) rfl ?_;refine aj "jsk" (aX (fun aN=> ?_) fun aN=> ?_)
 ·have nP:C.up=false:=by cases h:C.up<;>simp[aD.ready,Cw.aF,h] at aN ⊢
  refine aj "ed" ?_;have e1:C.aF.pR n=(C.aF,70):=by unfold aD.pR;rw[if_pos (show C.aF.up=false from nP)]
  rw[e1];exact qR (C.A bc::F) rfl rfl (fun w h=>Sat.all (l:=C.parts bc) h.tail.tail) ⟨C,hC,rfl,rfl,by unfold aD.ready;rw[if_neg (by show ¬C.up=true;rw[nP];decide)]⟩
 ·have nP:C.up=true:=by cases h:C.up<;>simp[aD.ready,Cw.aF,h] at aN ⊢
  have hu:¬C.aF.up=false:=by show ¬C.up=false;rw[nP];decide
  refine aj "Ha^~UgX" (aX (fun aR=> ?_) fun aR=> ?_)
  ·refine aj "I" ?_;have e1:C.aF.pR n=(C.aF,1):=by unfold aD.pR;rw[if_neg hu,if_pos aR]
   rw[e1];exact qR (C.A bc::F) rfl rfl (fun w h=>Sat.all (l:=C.parts bc) h.tail.tail) ⟨C,hC,rfl,rfl,rfl⟩
  ·refine aj "N~k~G~G~&~y~G" ?_;refine WQ.val (V.lss (ak rfl) (ak rfl)) rfl ?_;refine aj "~m~gX" (aX (fun bB=> ?_) fun bB=> ?_)
   ·refine aj "I" ?_;have e1:C.aF.pR n=(C.aF,74):=by unfold aD.pR;rw[if_neg hu,if_neg aR,if_pos (show n<C.aF.aQ from bB)]
    rw[e1];exact qR (C.A bc::F) rfl rfl (fun w h=>Sat.all (l:=C.parts bc) h.tail.tail) ⟨C,hC,rfl,rfl,rfl⟩
   ·refine aj "ia^~]" ?_;refine WL.sub (Sub.refl _) (fun w h=>Sat.all (l:=C.parts bc) (h.aY 9 [2,3,4,5,6,7,8,0,1] rfl)) ?_;refine WL.c2 call159 rfl rfl (QJ (caps:=[ptr b3 0,ptr b2 0]) (C1:=C.aZ.pR n) hC call160 (Tx nS nS)) rfl ?_;rintro _ _ ⟨rfl,rfl⟩;refine aj "d" ?_;have e1:C.aF.pR n=C.aF.all fun T=> { T with aQ:=n }:=by unfold aD.pR;rw[if_neg hu,if_neg aR,if_neg (show ¬n<C.aF.aQ from bB)]
    rw[e1];exact qR ((if !C.aF.cut||decide (0<C.lI) then C.aZ.pR n else C.aZ).A bc::F) rfl rfl (fun w h=>h.aY 3 [0] rfl) ⟨_,aby hC.aZ.pR hC.aZ,rfl,afN rfl rfl,rfl⟩
def FW(x k:Int):Int:=((x.toNat ^^^ 2^k.toNat:Nat):Int)
def JL(ys:List Int)(i:Int):List Int:=ys.set (i/8).toNat (FW (ys.getD (i/8).toNat 0) (i%8))
def turn(xs l:List Int):List Int:=l.foldl JL xs
theorem Il{x k:Int}(hx:0≤x∧x<256)(hk:0≤k∧k<8):bitsOf .xor .u8 x (IntKind.u8.wrap (1*2^(min k.toNat IntKind.u8.bits)))=FW x k∧0≤FW x k∧FW x k<256:=by
 have h:((List.range 256).all fun a=>(List.range 8).all fun j=>decide (bitsOf .xor .u8 (a:Int) (IntKind.u8.wrap (1*2^(min j IntKind.u8.bits)))=FW a j)&&decide (0≤FW a j)&&decide (FW a j<256))=true:=by kernel_rfl
 have h1:=all_eq_true.1 h x.toNat (mem_range.2 ay);have h2:=all_eq_true.1 h1 k.toNat (mem_range.2 ay);simp only[Bool.and_eq_true,decide_eq_true_eq] at h2;rw[show ((x.toNat:Nat):Int)=x by omega,show ((k.toNat:Nat):Int)=k by omega] at h2;exact⟨h2.1.1,h2.1.2,h2.2⟩
theorem Cq(ys:List Int)(i:Int):(JL ys i).length=ys.length:=by simp[JL]
theorem mV:∀(l xs:List Int),(turn xs l).length=xs.length
 | [],_=>rfl
 | i::l,xs=>by rw[turn,foldl_cons,←turn,mV l,Cq]
theorem Yu{ys:List Int}{i:Int}(h:bQ ys)(hi:0≤i∧i<8*ys.length):bQ (JL ys i):=fun x hx=>by
 rcases mem_or_eq_of_mem_set hx with h1 | rfl
 ·exact h x h1
 ·have oJ:(i/8).toNat<ys.length:=by omega
  rw[getD,getElem?_eq_getElem oJ];exact (Il (h _ (getElem_mem oJ)) ay).2
theorem I6:∀ {l xs:List Int},bQ xs→(∀i∈l,0≤i∧i<8*(xs.length:Int))→bQ (turn xs l)
 | [],_,h,_=>h
 | i::l,xs,h,hi=>by
  rw[turn,foldl_cons,←turn];exact I6 (Yu h (hi i (.head _))) (fun j hj=>by rw[Cq];exact hi j (.tail _ hj))
theorem Yn{xs l:List Int}{j:Nat}(h:j<l.length):turn xs (l.take (j+1))=JL (turn xs (l.take j)) (l.getD j 0):=by
 rw[take_add_one,getElem?_eq_getElem h,turn,turn,foldl_append];simp[getD,h]
theorem Lf{A B:Option Addr}{m q cap cap':Nat}{xs l:List Int}(hx:bQ xs){K:World}{F:List aA}(hs:Seq K F A m 1 (ints .u8 xs))(hl:Seq K F B q 1 (ints .i64 l))(hi:∀i∈l,0≤i∧i<8*(xs.length:Int))(hmx:m≤100000)(hq:q≤maxLen) :
 aC prog 223 #[.slice A m cap,.slice B q cap'] K F (fun v H'=>∃b,v= .tuple #[.slice (some ⟨b,0,none⟩) m m,.i 0]∧H'=ah b 5 (ints .u8 (turn xs l))::F):=by
 have zO:xs.length=m:=by simpa [ints] using hs.len
 have hll:l.length=q:=by simpa [ints] using hl.len
 have hq':q≤9223372036854775807:=by simpa [maxLen] using hq
 refine aC.en func223 ntmps223 ?_;refine aj "amjo" ?_;refine WL.sK (m:=m) underlying34 zo (ak rfl) (ak rfl) rfl rfl ay rfl rfl rfl (fun b6=> ?_);refine aj "0" ?_;refine WL.zm eu (ak rfl) (ak rfl) (by repeat (first | exact hs | apply Seq.up)) (Nat.le_refl _) (yM _ _) (dw.front (by simp[ints];omega)) rfl ?_;refine aj "broP" ?_;refine WC.loop (σ:=Nat) (fun j=>[(0,.slice A m cap),(6,.slice (some ⟨b6,0,none⟩) m m),(15,.slice B q cap'),(16,.i (q:Int)),(17,.i (j:Int))]) (fun j=>ah b6 5 (ints .u8 (turn xs (l.take j)))::F) (fun j=>j≤q) (fun j=>q-j) 0 (zero_le _) bM (fun w h=>Sat.aS h (by rw[drop_eq_nil_of_le (by simp[ints];omega)];simp[turn])) ?_;rintro j hj;refine aj "UE" (aX (fun aN=> ?_) fun aN=> ?_)
 ·try simp only[lX] at aN
  refine aj "Ha" ?_;refine WL.val (V.eD fZ (ak rfl) (ak rfl) (fun hc=>by omega) (fun hc=>by repeat (first | exact Seq.jk hl ay | apply Rd.up))) rfl ?_;refine WL.val (V.load isAgg3 (ak rfl) (fun hc=>by repeat (first | exact Seq.jk hl ay | apply Rd.up))) rfl ?_;refine aj "tN" ?_;have hjq:j<q:=ay;have Xj:0≤l.getD j 0∧l.getD j 0<8*(xs.length:Int):=by
   rw[getD,getElem?_eq_getElem ay];exact hi _ (getElem_mem _)
  rw[show (j:Int).toNat=j by omega];refine aj "h5cYY~H~~~k~~QJb" ?_;refine WC.jq rfl ((by simp only[Bool.or_eq_false_iff,decide_eq_false_iff_not];omega)) ?_;refine WC.skip ?_;refine WC.fE F (by kernel_rfl) ?_;refine aj "l0l1" ?_;refine WA.t 2 rfl (V.ad9 (ak rfl) (ak rfl) (fun hc=>by omega)) ?_;refine aj "[3l5" ?_;refine WA.t 6 rfl (V.Dv (ak rfl) (ak rfl) Yc) ?_;refine aj "~~=7n4" ?_;refine WL.val (V.load isAgg5 (ak rfl) (fun _=>Rd.here (v:= .int .u8 ((turn xs (l.take j)).getD (l.getD j 0/8).toNat 0)) (by rw[Nat.zero_add,Nat.mul_one];exact uI _ _ (by rw[mV];omega)))) rfl ?_;refine WL.nil (WA.t 8 rfl (V.xor (ak rfl) (ak rfl)) ?_);refine WA.t 9 rfl (V.Gs eu (ak rfl) (ak rfl) Yc) ?_;refine WA.o 10 rfl ?_;refine WL.store (cs:=[_]) sizeOf5 (ak rfl) (ak rfl) rfl rfl rfl (dw.at_ (by rw[Nat.zero_add,Nat.mul_one,bY,mV];omega)) ?_;refine aj "bM6" ?_;refine⟨j+1,(by show j+1≤q;omega),(by show q-(j+1)<q-j;omega),.cons rfl bM,fun w h=>Sat.aS h ?_⟩;have hib:=I6 (xs:=xs) (l:=l.take j) hx (fun i h=>hi i (mem_of_mem_take h));have oJ:(l.getD j 0/8).toNat<(turn xs (l.take j)).length:=by rw[mV];omega
  rw[Yn ay,Nat.zero_add,Nat.mul_one,(Il (x:=(turn xs (l.take j)).getD (l.getD j 0/8).toNat 0) (by rw[getD,getElem?_eq_getElem oJ];exact hib _ (getElem_mem oJ)) ay).1,ints_set];rfl
 ·try simp only[lX] at aN
  refine aj "ReD" ?_;obtain rfl:j=q:=by omega
  refine aG.ret (H':=ah b6 _ _::F) (bI.eY rfl rfl rfl) (fun w h=>Sat.aS h ?_) ⟨b6,rfl,rfl⟩;rw[take_of_length_le ay]
def aD.gU(S:aD)(b p:Int):Int:=if S.up=false then 70 else if S.pG b p=false then 1 else 0
def aD.reads(S:aD)(b p:Int):List Int:=turn ((S.aW (b,p)).getD S.blank) ((S.bK (b,p)).getD [])
theorem Cw.Ok.Ld{C:Cw}(hC:C.Ok)(b p:Int):(C.aF.reads b p).length=C.g.raw.toNat:=by
 have hr:=bL.tJ hC.aU;unfold aD.reads;rw[mV];have h1:C.aF.aW (b,p)=(C.aW (b,p)).map (·.2.2):=rfl;rw[h1];cases h:C.aW (b,p) with
 | none=>exact length_replicate
 | some e=>have :=(hC.pG _ e h).2.1;simp;omega
theorem Cw.Ok.Si{C:Cw}(hC:C.Ok)(b p:Int):bQ ((C.aF.aW (b,p)).getD C.aF.blank):=by
 have h1:C.aF.aW (b,p)=(C.aW (b,p)).map (·.2.2):=rfl;rw[h1];cases h:C.aW (b,p) with
 | none=>exact bQ.vg ay
 | some e=>exact (hC.pG _ e h).2.2
theorem Cw.Ok.aaJ{C:Cw}(hC:C.Ok)(b p:Int):(((C.aF.aW (b,p)).getD C.aF.blank).length:Int)=C.g.raw:=by
 have hr:=bL.tJ hC.aU;have h1:C.aF.aW (b,p)=(C.aW (b,p)).map (·.2.2):=rfl;rw[h1];cases h:C.aW (b,p) with
 | none =>
  show ((replicate C.g.raw.toNat 255).length:Int)=C.g.raw;rw[length_replicate];omega
 | some e=>exact (hC.pG _ e h).2.1
theorem Cw.Ok.Rn{C:Cw}(hC:C.Ok)(b p:Int):∃Aw cw lw,(C.nL (b,p)).getD (.slice none 0 0)= .slice Aw lw.length cw∧iQ C.own Aw lw.length 1 (ints .i64 lw)∧(∀i∈lw,0≤i∧i<8*C.g.raw)∧lw=(C.aF.bK (b,p)).getD []∧lw.length≤maxLen:=by
 have h1:C.aF.bK (b,p)=(C.bK (b,p)).map (·.2.2):=rfl;have h2:C.nL (b,p)=(C.bK (b,p)).map Cw.oo:=rfl;rw[h1,h2];cases h:C.bK (b,p) with
 | none=>exact⟨none,0,[],rfl,iQ.nil,fun i hi=>by simp at hi,rfl,zero_le _⟩
 | some e=>have :=hC.wr _ e h;exact⟨e.1,e.2.1,e.2.2,rfl,this.1,this.2.1,rfl,this.2.2⟩
theorem MJ{bc:Nat}{C:Cw}(hC:C.Ok)(b p:Int){K:World}{F:List aA} :
 aC prog 155 #[ptr bc 0,.i b,.i p] K (C.A bc::F)
  (fun v H'=>(C.aF.gU b p=0∧∃bo,v= .tuple #[.slice (some ⟨bo,0,none⟩) C.g.raw.toNat C.g.raw.toNat,.i 0]∧H'=ah bo 5 (ints .u8 (C.aF.reads b p))::C.A bc::F) ∨
   (C.aF.gU b p≠0∧v= .tuple #[.slice none 0 0,.i (C.aF.gU b p)]∧H'=C.A bc::F)):=by
 have hr:=bL.tJ hC.aU;obtain⟨Aw,cw,lw,hw1,hw2,hw3,hw4,OY⟩:=hC.Rn b p;have BQ:=hC.aaJ b p;have hbb:=hC.Si b p;have hre:turn ((C.aF.aW (b,p)).getD C.aF.blank) lw=C.aF.reads b p:=by unfold aD.reads;rw[hw4]
 refine aC.wG ?_;dsimp only[Cw.parts,cons_append,nil_append];cases GI:C.aW (b,p) with
 | none =>
  have hb0:(C.aF.aW (b,p)).getD C.aF.blank=replicate C.g.raw.toNat 255:=by
   rw[show C.aF.aW (b,p)=(C.aW (b,p)).map (·.2.2) from rfl,GI];rfl
  rw[hb0] at hre BQ hbb;refine aC.en func155 ntmps155 ?_;refine aj "amf" ?_;refine WL.t1 call93 rfl (jE (C:=C) wM) rfl ?_;refine aj "jsk" (aX (fun aN=> ?_) fun aN=> ?_)
  ·have nP:C.up=false:=by cases h:C.up<;>simp[aD.ready,Cw.aF,h] at aN ⊢
   refine aj "eD" ?_;have e1:C.aF.gU b p=70:=by unfold aD.gU;rw[if_pos (show C.aF.up=false from nP)]
   have e2:C.aF.ready=70:=by unfold aD.ready;rw[if_neg (by show ¬C.up=true;rw[nP];decide)]
   rw[e2];exact aG.ret (H':=C.A bc::F) (bI.eY rfl rfl rfl) (fun w h=>Sat.all (l:=C.parts bc) h) (.inr ⟨by rw[e1];decide,by rw[e1],rfl⟩)
  ·have nP:C.up=true:=by cases h:C.up<;>simp[aD.ready,Cw.aF,h] at aN ⊢
   refine aj "irz" ?_;refine WL.t3 call221 rfl rfl rfl (ES (C:=C) b p wM) rfl ?_;refine aj "*k" (aX (fun aR=> ?_) fun aR=> ?_)
   ·simp only[KD] at aR;have h1:=aR;refine aj "aD" ?_;have e1:C.aF.gU b p=1:=by unfold aD.gU;rw[if_neg (by show ¬C.up=false;rw[nP];decide),if_pos h1]
    exact aG.ret (H':=C.A bc::F) (bI.eY rfl rfl rfl) (fun w h=>Sat.all (l:=C.parts bc) h) (.inr ⟨by rw[e1];decide,by rw[e1],rfl⟩)
   ·simp only[KD] at aR;have h1:=aR;refine aj "Z,pz" ?_;refine WL.val (V.build (vs:=[(0,_),(1,_)]) ⟨ak rfl,ak rfl,trivial⟩ rfl (iW _ _)) rfl ?_;refine WL.val (V.aI (v':= .tuple #[.slice none 0 0,.bool false]) (V.Sk (k:=(b,p)) underlying161 zeroValue34 Ac (ak rfl) (ak rfl) (fun _=>by repeat (first | exact KN.here | apply KN.up))) (fun _=>by unfold Cw.jS;rw[GI];rfl)) rfl ?_;refine aj "Cf*b2h" ?_;refine WL.c1 call222 rfl (Ib (C:=C) hC.aU wM) rfl ?_;rintro _ _ ⟨bo,rfl,rfl⟩;refine aj "0,pz" ?_;refine WL.val (V.build (vs:=[(0,_),(1,_)]) ⟨ak rfl,ak rfl,trivial⟩ rfl (iW _ _)) rfl ?_;refine WL.val (V.aI (v':= .slice Aw lw.length cw) (V.lookup (k:=(b,p)) underlying162 zeroValue124 Ac (ak rfl) (ak rfl) (fun _=>by repeat (first | exact KN.here | apply KN.up))) (fun _=>hw1)) rfl ?_;refine WL.c2 call223 rfl rfl (Lf hbb (by repeat (first | exact Seq.allI (by simp) | apply Seq.up)) (by repeat (first | exact iQ.seq hw2 | apply Seq.up)) (by rw[BQ];exact hw3) ay OY) rfl ?_;rintro _ _ ⟨bt,rfl,rfl⟩;refine aj "~ZD" ?_;have e1:C.aF.gU b p=0:=by unfold aD.gU;rw[if_neg (by show ¬C.up=false;rw[nP];decide),if_neg (by rw[h1];decide)]
    refine aG.ret (H':=ah bt _ (ints .u8 (C.aF.reads b p))::C.A bc::F) (bI.eY rfl rfl rfl) (fun w h=> ?_) (.inl ⟨e1,bt,rfl,rfl⟩);rw[hre] at h;exact (Sat.all (l:=C.parts bc) (h.aY 9 [2,3,4,5,6,7,8,0] rfl)).p1
 | some e =>
  obtain⟨Ap,cp,xp⟩:=e;have ZW:=hC.pG _ _ GI;have hb0:(C.aF.aW (b,p)).getD C.aF.blank=xp:=by
   rw[show C.aF.aW (b,p)=(C.aW (b,p)).map (·.2.2) from rfl,GI];rfl
  rw[hb0] at hre BQ hbb;have zO:xp.length=C.g.raw.toNat:=ay;have hsp:iQ C.own Ap xp.length 1 (ints .u8 xp):=ZW.1;refine aC.en func155 ntmps155 ?_;refine aj "amf" ?_;refine WL.t1 call93 rfl (jE (C:=C) wM) rfl ?_;refine aj "jsk" (aX (fun aN=> ?_) fun aN=> ?_)
  ·have nP:C.up=false:=by cases h:C.up<;>simp[aD.ready,Cw.aF,h] at aN ⊢
   refine aj "eD" ?_;have e1:C.aF.gU b p=70:=by unfold aD.gU;rw[if_pos (show C.aF.up=false from nP)]
   have e2:C.aF.ready=70:=by unfold aD.ready;rw[if_neg (by show ¬C.up=true;rw[nP];decide)]
   rw[e2];exact aG.ret (H':=C.A bc::F) (bI.eY rfl rfl rfl) (fun w h=>Sat.all (l:=C.parts bc) h) (.inr ⟨by rw[e1];decide,by rw[e1],rfl⟩)
  ·have nP:C.up=true:=by cases h:C.up<;>simp[aD.ready,Cw.aF,h] at aN ⊢
   refine aj "irz" ?_;refine WL.t3 call221 rfl rfl rfl (ES (C:=C) b p wM) rfl ?_;refine aj "*k" (aX (fun aR=> ?_) fun aR=> ?_)
   ·simp only[KD] at aR;have h1:=aR;refine aj "aD" ?_;have e1:C.aF.gU b p=1:=by unfold aD.gU;rw[if_neg (by show ¬C.up=false;rw[nP];decide),if_pos h1]
    exact aG.ret (H':=C.A bc::F) (bI.eY rfl rfl rfl) (fun w h=>Sat.all (l:=C.parts bc) h) (.inr ⟨by rw[e1];decide,by rw[e1],rfl⟩)
   ·simp only[KD] at aR;have h1:=aR;refine aj "Z,pz" ?_;refine WL.val (V.build (vs:=[(0,_),(1,_)]) ⟨ak rfl,ak rfl,trivial⟩ rfl (iW _ _)) rfl ?_;refine WL.val (V.aI (v':= .tuple #[.slice Ap xp.length cp,.bool true]) (V.Sk (k:=(b,p)) underlying161 zeroValue34 Ac (ak rfl) (ak rfl) (fun _=>by repeat (first | exact KN.here | apply KN.up))) (fun _=>by unfold Cw.jS;rw[GI];rfl)) rfl ?_;refine aj "Cf*bOZc,pz" ?_;refine WL.val (V.build (vs:=[(0,_),(1,_)]) ⟨ak rfl,ak rfl,trivial⟩ rfl (iW _ _)) rfl ?_;refine WL.val (V.aI (v':= .slice Aw lw.length cw) (V.lookup (k:=(b,p)) underlying162 zeroValue124 Ac (ak rfl) (ak rfl) (fun _=>by repeat (first | exact KN.here | apply KN.up))) (fun _=>hw1)) rfl ?_;refine WL.c2 call223 rfl rfl (Lf hbb (by repeat (first | exact iQ.seq hsp | apply Seq.up)) (by repeat (first | exact iQ.seq hw2 | apply Seq.up)) (by rw[BQ];exact hw3) ay OY) rfl ?_;rintro _ _ ⟨bt,rfl,rfl⟩;refine aj "~ZD" ?_;have e1:C.aF.gU b p=0:=by unfold aD.gU;rw[if_neg (by show ¬C.up=false;rw[nP];decide),if_neg (by rw[h1];decide)]
    refine aG.ret (H':=ah bt _ (ints .u8 (C.aF.reads b p))::C.A bc::F) (bI.eY rfl rfl rfl) (fun w h=> ?_) (.inl ⟨e1,bt,by rw[zO],rfl⟩);rw[hre] at h;exact (Sat.all (l:=C.parts bc) (h.aY 8 [1,2,3,4,5,6,7,0] rfl)).p1
end Go.Proofs.YtcedojacbhnbiaaGreat
