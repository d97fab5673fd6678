import Derived.Test.YtcedojacbhnbiaaGreatP2
import Derived.Test.YtcedojacbhnbiaaGreatChecked
set_option autoImplicit true
set_option linter.all false
set_option maxHeartbeats 2000000
set_option maxRecDepth 100000
set_option relaxedAutoImplicit true
namespace Go.Proofs.YtcedojacbhnbiaaGreat
open Go.Sl Go.RowKit Tryz List Nat
structure bQ where
 (bl pg se sb fl:Int)
 deriving DecidableEq
namespace bQ
abbrev v(g:bQ):Value:= .agg #[.i g.bl,.i g.pg,.i g.se,.i g.sb,.i g.fl]
def aU(g:bQ):Prop:=1≤g.bl∧g.bl≤256∧2≤g.pg∧g.pg≤64∧1≤g.se∧g.se≤8∧4≤g.sb∧g.sb≤512∧g.sb%4=0∧1≤g.fl∧g.fl≤8∧16≤g.se*g.sb
instance(g:bQ):Decidable g.aU:=by unfold aU;infer_instance
def may(g:bQ):Bool:=decide g.aU
def more(g:bQ):Int:=(13*g.fl+7)/8
def whole(g:bQ):Int:=g.sb+g.more
def raw(g:bQ):Int:=g.se*g.whole+1
def room(g:bQ):Int:=g.se*g.sb
theorem Bd{a:Int}(h1:0≤a)(h2:a≤A)(h3:0≤b)(h4:b≤B):0≤a*b∧a*b≤A*B:=⟨Int.mul_nonneg h1 h3,Int.mul_le_mul h2 h4 h3 ay⟩
theorem rF{g:bQ}(h:g.may=true):g.aU:=by simpa [may] using h
theorem ads{g:bQ}(h:g.aU):2≤g.more∧g.more≤13:=by unfold aU at h;unfold more;omega
theorem ab4{g:bQ}(h:g.aU):6≤g.whole∧g.whole≤525:=by have :=ads h;unfold aU at h;unfold whole;omega
theorem sS{g:bQ}(h:g.aU):7≤g.raw∧g.raw≤4201:=by
 have h1:=ab4 h;have h2:1≤g.se∧g.se≤8:=by unfold aU at h;omega
 have h3:=Bd (A:=8) (B:=525) (by omega:0≤g.se) h2.2 (by omega:0≤g.whole) h1.2;have h4:1*g.whole≤g.se*g.whole:=Int.mul_le_mul_of_nonneg_right h2.1 ay;unfold raw;omega
end bQ
theorem qJ(n low high:Int)(K:World)(F:List aH):aK prog 226 #[.i n,.i low,.i high] K F (.bool (decide (low≤n)&&decide (n≤high))):=by
 refine aB.en func226 ntmps226 ?_;exact aj "aY~ic!!~~%Qd." trivial
theorem KZ(g:bQ)(K:World)(F:List aH):aK prog 161 #[g.v] K F (.i (if g.may then 0 else 1)):=by
 refine aB.en func161 ntmps161 ?_;refine aj "a%" fun b1=> ?_;refine aj "vo" ?_;refine WL.t3 call226 rfl rfl rfl (qJ _ _ _ _ _) rfl ?_;refine aj "c^_" ?_;refine WL.nL (oj:=_) (vs:=[_,_,_]) rfl rfl rfl GC.t call226 ⟨OV.g rfl id,ak rfl,ak rfl,trivial⟩ (fun hg=>qJ _ _ _ _ _) rfl ?_;refine aj "Qc^_" ?_;refine WL.nL (oj:=_) (vs:=[_,_,_]) rfl rfl rfl GC.t call226 ⟨OV.g rfl id,ak rfl,ak rfl,trivial⟩ (fun hg=>qJ _ _ _ _ _) rfl ?_;refine aj "Qc^_" ?_;refine WL.nL (oj:=_) (vs:=[_,_,_]) rfl rfl rfl GC.t call226 ⟨OV.g rfl id,ak rfl,ak rfl,trivial⟩ (fun hg=>qJ _ _ _ _ _) rfl ?_;refine aj "Qc^_~~~q~NQc^_" ?_;refine WL.nL (oj:=_) (vs:=[_,_,_]) rfl rfl rfl GC.t call226 ⟨OV.g rfl id,ak rfl,ak rfl,trivial⟩ (fun hg=>qJ _ _ _ _ _) rfl ?_;refine aj "Qc^_^_" ?_;refine WL.bI (oj:=_) rfl rfl rfl GC.t (V.MK (OV.g rfl id) (OV.g rfl id) (fun hc=>by simp at hc;have :=bQ.Bd (a:=g.se) (b:=g.sb) (A:=8) (B:=512) ay ay ay ay;omega)) rfl ?_;refine aj "~OQf*i" (aW (fun aL=> ?_) fun aL=> ?_)
 ·simp only[iC] at aL;refine aj "G;" ?_;rw[if_neg (fun h=>by have h:=bQ.rF h;unfold bQ.aU at h;omega)]
 ·simp only[iC] at aL;refine aj "qG;" ?_;rw[if_pos (by unfold bQ.may;rw[decide_eq_true_eq];unfold bQ.aU;omega)]
theorem Ra(t:Int)(ht:1≤t∧t≤8)(K:World)(F:List aH):aK prog 227 #[.i t] K F (.tuple #[.i (13*t),.i 0]):=by
 refine aB.en func227 ntmps227 ?_;refine aj "alf4cV~mLb~9U~LC" ?_;exact aF.ret (H':=F) (bJ.eU rfl rfl rfl) eO ⟨rfl,rfl⟩
theorem Dz(g:bQ)(h:g.aU)(K:World)(F:List aH):aK prog 162 #[g.v] K F (.i g.whole):=by
 have hb:=h;unfold bQ.aU at hb;refine aB.en func162 ntmps162 ?_;refine aj "a%" fun b1=> ?_;refine aj "vo" ?_;refine WL.t1 call227 rfl (Ra _ ay _ _) rfl ?_;exact aj "Dvoc$~*$d." trivial
theorem Nh(g:bQ)(K:World)(F:List aH):aK prog 96 #[g.v] K F (.tuple (if g.may then #[.i g.raw,.i 0] else #[.i 0,.i 1])):=by
 refine aB.en func96 ntmps96 ?_;refine aj "a%" fun b1=> ?_;refine aj "luaB" ?_;refine WL.t1 call161 rfl (KZ g _ _) rfl ?_;refine aj "jsi" (aW (fun aL=> ?_) fun aL=> ?_)
 ·have hm:g.may=false:=by cases h:g.may<;>simp[h] at aL ⊢
  refine aj "eC" ?_;rw[hm];exact aF.ret (H':=F) (bJ.eU rfl rfl rfl) eO ⟨rfl,rfl⟩
 ·have hm:g.may=true:=by cases h:g.may<;>simp[h] at aL ⊢
  have hb:=bQ.rF hm;have hr:=bQ.sS hb;unfold bQ.raw at hr;refine aj ",~k~y~G~~B" ?_;refine WQ.call (vs:=[_]) call162 ⟨ak rfl,trivial⟩ (Dz g hb _ _) rfl ?_;refine WQ.val (V.MK (ak rfl) (ak rfl) (fun hc=>by omega)) rfl ?_;refine WQ.val (V.CX (ak rfl) (ak rfl) (fun hc=>by omega)) rfl ?_;refine aj "~n~n~f~C" ?_;refine aF.ret (H':=F) (bJ.eU rfl rfl rfl) eO ⟨?_,rfl⟩;rw[hm];rfl
theorem XJ(g:bQ)(K:World)(F:List aH):aK prog 59 #[g.v] K F (.bool g.may):=by
 refine aB.en func59 ntmps59 ?_;refine aj "a%" fun b1=> ?_;refine aj "vo~ic^_~PQc^_~OQc^_~PQc^_~OQc^_~PQc^_~OQc^_~PQc^_~~~q~NQc^_~OQc^_~PQc^_^_" ?_;refine WL.bI (oj:=_) rfl rfl rfl GC.t (V.MK (OV.g rfl id) (OV.g rfl id) (fun hc=>by simp at hc;have :=bQ.Bd (a:=g.se) (b:=g.sb) (A:=8) (B:=512) ay ay ay ay;omega)) rfl ?_;refine aj "~OQd;" ?_;congr 1;rw[Bool.eq_iff_iff];unfold bQ.may;rw[decide_eq_true_eq];unfold bQ.aU;simp;omega
theorem GV(g:bQ)(h:g.aU)(K:World)(F:List aH):aK prog 60 #[g.v] K F (.i g.room):=by
 have hb:=h;unfold bQ.aU at hb;have :=bQ.Bd (a:=g.se) (b:=g.sb) (A:=8) (B:=512) ay ay ay ay;refine aB.en func60 ntmps60 ?_;refine aj "a%" fun b1=> ?_;exact aj "voo~Ld." trivial
def bQ.small(g:bQ):Bool:= !g.may||(decide (g.room≤32)&&decide (g.bl≤16)&&decide (g.pg≤8))
end Go.Proofs.YtcedojacbhnbiaaGreat
namespace Go.Proofs.YtcedojacbhnbiaaGreat
open Go.Sl Go.ChangeShapes Go.WideShapes Go.ChangeAt Go.RowKit Tryz List Nat
theorem ag4:ownKnob prog.godebug=none:=by kernel_rfl
theorem Vd:laidOutB prog=true:=by kernel_rfl
set_option maxRecDepth 100000 in
theorem aaM{W:World}{r:Reach}{base:Nat}{v:Value}(h:Value.okWide prog W r base 23 v):∃g:bQ,v=g.v:=by
 obtain⟨cs,rfl,JQ,hc⟩:=aa7 (ts:=[3,3,3,3,3]) ⟨_,underlying23,.inl ⟨_,rfl⟩⟩ (by kernel_rfl) (by kernel_rfl) h;obtain⟨l⟩:=cs
 match l,JQ with
 | [c0,c1,c2,c3,c4],_ =>
  obtain⟨x0,rfl,_⟩:=(hc 0 _ c0 rfl rfl).int underlying3;obtain⟨x1,rfl,_⟩:=(hc 1 _ c1 rfl rfl).int underlying3;obtain⟨x2,rfl,_⟩:=(hc 2 _ c2 rfl rfl).int underlying3;obtain⟨x3,rfl,_⟩:=(hc 3 _ c3 rfl rfl).int underlying3;obtain⟨x4,rfl,_⟩:=(hc 4 _ c4 rfl rfl).int underlying3;exact⟨⟨x0,x1,x2,x3,x4⟩,rfl⟩
def AQ(P:Program)(fn:Func)(s:ChangeSpec)(c:OpenClaim):Bool :=
 c.wf (OpenSpec.ofChange s)&&fn.params.all (P.readableRec ·)&&namedTie P c.named s.vars &&
 (c.stops==[])&&(P.stops==[])&&(c.knobs==[])&&(P.stopKnobs==[]) &&
 (c.maps==(fn.params.toList++s.plain.varTypes P).any (P.mapsRec ·))&&(c.ifaces==(fn.params.toList++s.plain.varTypes P).any (P.ifacesRec ·))&&(c.mapsOut==P.mapsAmong fn.resultTypes.toList) &&
 (c.loops==(fn.params.toList++s.plain.varTypes P).any (P.loopsFrom ·))&&(c.wideKeys==(fn.params.toList++s.plain.varTypes P++fn.resultTypes.toList).any (P.wideKeysFrom ·)) &&
 s.vars.all (P.varReadable ·)&&fn.resultTypes.all (fun t=>P.readableRec t&&decide (t<P.types.size))&&(c.ifacesOut==fn.resultTypes.toList.any (P.ifacesRec ·))&&(c.loopsOut==fn.resultTypes.toList.any (P.loopsFrom ·))&&(c.plainKeys==P.plainKeys)&&c.shortTexts.isNone &&
 (c.kinds==(if c.domain.isEmpty then [] else fn.params.toList.map fun t=>match P.underlying t with | some (.int k)=>some k | _=>none))&&(c.pinned==c.pinnedBy) &&
 (c.veiled==(fn.params.toList++s.plain.varTypes P++fn.resultTypes.toList).any (P.veiledRec ·))&&c.veiledFits P fn.params.toList (fn.params.toList++s.plain.varTypes P++fn.resultTypes.toList)
theorem X7{P:Program}{f:FuncId}{fn:Func}{s:ChangeSpec}{c:OpenClaim}(h1:laidOutB P=true)(h2:mapsRowed P=true)(h7:P.stopsHeard=true)(h8:P.mayEnter=true)
 (h3:(c.inPlace==P.inPlace f)=true) (h4:(c.unfollowed==P.unfollowed f)=true) (h5:(c.recurses==P.recurses f)=true) (h6:(c.named==P.varsNamed f)=true)
 (h9:(c.lifted==P.liftsFinal)=true) (RJ:(P.make==some c.make)=true) (rest:AQ P fn s c=true):joinedFacts P f fn s c=true:=by
 simp only[AQ,Bool.and_eq_true] at rest;obtain⟨⟨⟨⟨⟨⟨⟨⟨⟨⟨⟨⟨⟨⟨⟨⟨⟨⟨⟨⟨⟨r1,r2⟩,r3⟩,r4⟩,r5⟩,r6⟩,r7⟩,r8⟩,r9⟩,r10⟩,r11⟩,r12⟩,r13⟩,r14⟩,r15⟩,r16⟩,r17⟩,r18⟩,r19⟩,r20⟩,r21⟩,r22⟩:=rest;simp only[joinedFacts,Bool.and_eq_true];exact⟨⟨⟨⟨⟨⟨⟨⟨⟨⟨⟨⟨⟨⟨⟨⟨⟨⟨⟨⟨⟨⟨⟨⟨⟨⟨⟨⟨⟨⟨⟨r1,h1⟩,h2⟩,r2⟩,r3⟩,r4⟩,r5⟩,r6⟩,r7⟩,h3⟩,h4⟩,h5⟩,h6⟩,r8⟩,r9⟩,r10⟩,r11⟩,r12⟩,r13⟩,r14⟩,r15⟩,r16⟩,r17⟩,r18⟩,h7⟩,h8⟩,h9⟩,RJ⟩,r19⟩,r20⟩,r21⟩,r22⟩
theorem agU:mapsRowed prog=true:=by kernel_rfl
theorem ad5:Program.stopsHeard prog=true:=by kernel_rfl
theorem ad7:Program.mayEnter prog=true:=by kernel_rfl
end Go.Proofs.YtcedojacbhnbiaaGreat
namespace Go.Proofs.YtcedojacbhnbiaaGreat
open Go.Sl Go.RowKit Tryz List Nat
theorem Xa(hN:ps.length+qs.length=N)(hs:Seq K F A m 1 (av .i64 ps))(hq:Seq K F B q 1 (av .i64 qs))(V4:aA 8192 ps)(ZK:aA 8192 qs)(kS:N≤1000000)
 (h2:Rd K F (some ⟨b2,0,none⟩) (.slice A m Ml)) (h3:Rd K F (some ⟨b3,0,none⟩) (.slice B q cap')) (h5:Rd K F (some ⟨b5,0,none⟩) (.slice (some ⟨g,0,none⟩) N cap)) :
 aB prog 347 #[.func (.func 353) #[] #[ptr b5 0],ptr b2 0,ptr b3 0] K (ah g 3 (replicate N (.i 0))::F)
  (fun v H'=>H'=ah g 3 (av .i64 (iI ps qs))::F):=by
 have hl:ps.length=m:=by simpa [av] using hs.len
 have Ki:qs.length=q:=by simpa [av] using hq.len
 refine aB.en func347 ntmps347 ?_;refine WC.sr ?_;refine WL.val (V.load isAgg124 (ak rfl) (fun hc=>h2.up)) rfl ?_;refine aj "kN" ?_;refine WC.loop (σ:=Nat) (fun j=>[(0,.func (.func 353) #[] #[ptr b5 0]),(2,ptr b3 0),(6,.slice A m Ml),(7,.i (m:Int)),(8,.i (j:Int))]) (fun j=>ah g 3 (av .i64 (Dh ps qs j))::F) (fun j=>j≤m) (fun j=>m-j) 0 (zero_le _) bC (fun w h=>Sat.aT h (by rw[Dh,hN,eD];rfl)) ?_;rintro j hj;refine aj "TZ" (aW (fun aL=> ?_) fun aL=> ?_)
 ·refine aj "IM" ?_;have hjm:j<m:=ay;have xO:Rd K (ah g 3 (av .i64 (Dh ps qs j))::F) (A.map (·.add ((j:Int).toNat*1))) (.i (ps.getD j 0:Nat)):=by
   rw[show (j:Int).toNat=j by omega];exact (hs.jo ay).up
  have nS:=yE (ps:=ps) ZK j;refine aj "h" ?_;refine WL.val (V.dw eB (ak rfl) (ak rfl) (fun hc=>by omega) (fun hc=>xO)) rfl ?_;refine WL.val (V.load isAgg3 (ak rfl) (fun hc=>xO)) rfl ?_;refine aj "lgh" ?_;refine WL.val (V.load isAgg124 (ak rfl) (fun hc=>h3.up)) rfl ?_;refine aj "z" ?_;refine WL.c4 call348 rfl rfl rfl rfl (abF (N:=N) (cap:=cap) (by rw[qc];exact hN) nS hq ZK ay (V4.at_ aN j) h5 kS) rfl ?_;rintro v1 _ rfl;refine aj "b7" ?_;exact⟨j+1,(by show j+1≤m;omega),(by show m-(j+1)<m-j;omega),.cons rfl bC,fun w h=>Sat.aT h (by rw[Dh,Ki])⟩
 ·refine WC.exit ?_;obtain rfl:j=m:=by omega
  exact aF.normal (H':=ah g _ _::F) (bJ.none rfl) (fun w h=>Sat.aT h (by unfold iI;rw[hl])) rfl
theorem Kq{N:Nat}(hN:ps.length+qs.length=N)(hs:Seq K F A m 1 (av .i64 ps))(hq:Seq K F B q 1 (av .i64 qs))(V4:aA 8192 ps)(ZK:aA 8192 qs)(kS:N≤1000000)
 (h2:Rd K F (some ⟨b2,0,none⟩) (.slice A m Ml)) (h3:Rd K F (some ⟨b3,0,none⟩) (.slice B q cap')) :
 aB prog 346 #[.i (N:Int),.func (.func 347) #[] #[ptr b2 0,ptr b3 0]] K F
  (fun v H'=>∃g,v= .slice (some ⟨g,0,none⟩) (aZ (iI ps qs) N) N∧H'=ah g 3 (av .i64 (iI ps qs))::F):=by
 have Oa:(iI ps qs).length=N:=by unfold iI;rw[qc,hN]
 refine aB.en func346 ntmps346 ?_;refine aj "aj" ?_;refine WL.nM (m:=N) underlying124 Me (ak rfl) (ak rfl) rfl rfl ay rfl rfl rfl (fun b7=> ?_);refine aj "w" fun b5=> ?_;refine aj "~%be~U?" ?_;refine WL.ny (first:=[]) (vs:=[_]) (captured:=[ptr b2 0,ptr b3 0]) call347 (ak rfl) ⟨ak rfl,trivial⟩ (Xa hN hs.up hq.up V4 ZK kS h2.up h3.up (Rd.here rfl)) rfl ?_;rintro v1 _ rfl;refine aj "R" ?_;refine WL.val (V.load isAgg124 (ak rfl) (fun hc=>(Rd.here rfl).up)) rfl ?_;refine WL.t1 call354 rfl (YC (xs:=iI ps qs) (Seq.Gb Oa) (Nat.le_refl _) kS) rfl ?_;refine aj "d" ?_;exact qR (ah b7 _ _::F) rfl rfl (fun w h=>h.oJ) ⟨b7,rfl,rfl⟩
theorem abl(hs:Seq K F A m 1 (av .i64 ps))(hq:Seq K F B q 1 (av .i64 qs))(V4:aA 8192 ps)(ZK:aA 8192 qs)(kS:ps.length+qs.length≤1000000) :
 aB prog 336 #[.slice A m Ml,.slice B q cap'] K F
  (fun v H'=>∃g,v= .tuple #[.slice (some ⟨g,0,none⟩) (aZ (iI ps qs) (ps.length+qs.length)) (ps.length+qs.length),.i 0]∧H'=ah g 3 (av .i64 (iI ps qs))::F):=by
 have hl:ps.length=m:=by simpa [av] using hs.len
 have Ki:qs.length=q:=by simpa [av] using hq.len
 refine aB.en func336 ntmps336 ?_;refine aj "a~h" fun b2=> ?_;refine aj "~h" fun b3=> ?_;refine aj "lua<<" ?_;refine WL.buildSlice (E:=124) (cs:=[_,_]) (vs:=[(0,_),(1,_)]) ⟨ak rfl,ak rfl,trivial⟩ rfl (NU _ _ _ _ _ _) rfl (fun b8=> ?_);refine WL.c1 call345 rfl (adI (ls:=[⟨A,m,Ml,ps⟩,⟨B,q,cap',qs⟩]) (fun p hp=>by
  rcases mem_cons.1 hp with rfl | hp
  ·exact⟨by repeat (first | exact hs | apply Seq.up),V4,by show m≤1000000;omega⟩
  ·rw[mem_singleton] at hp;subst hp;exact⟨by repeat (first | exact hq | apply Seq.up),ZK,by show q≤1000000;omega⟩) (Seq.all rfl) (by show 2≤1000;omega)) rfl ?_
 rintro _ H0 ⟨rfl,h0⟩;subst H0;refine aj "*39<k<k" ?_;refine WL.val (V.aG (v':= .i ((ps.length+qs.length:Nat):Int)) (V.CX (ak rfl) (ak rfl) (fun _=>by omega)) (fun _=>by rw[hl,Ki];simp)) rfl ?_;refine aj "~~d" ?_;refine WL.c2 call346 rfl rfl (Kq (Ml:=Ml) (cap':=cap') rfl (by repeat (first | exact hs | apply Seq.up)) (by repeat (first | exact hq | apply Seq.up)) V4 ZK kS lD lD) rfl ?_;rintro _ _ ⟨g,rfl,rfl⟩;refine aj "C" ?_;exact aF.ret (H':=ah g _ _::F) (bJ.eU rfl rfl rfl) (fun w h=>h.bg 4 [0] rfl) ⟨g,rfl,rfl⟩
def o9(x:Nat):Nat→Nat
 | 0=>x
 | k+1=>kK (o9 x k) (o9 x k)
theorem MG(h:x<8192):∀k,o9 x k<8192
 | 0=>h
 | k+1=>fD (MG h k)
theorem Xk{r:Option Nat}{σ:Type}(hi: -9223372036854775808≤i∧i≤9223372036854775807)(hk:0<k)(yR:o9 (gG i) k=gG i)(uN:∀j,0<j→j<k→o9 (gG i) j≠gG i)(I:Nat→σ→Prop)(M:σ→List aH)(h1:∀j s,I j s→Rd K (M s) (some ⟨b1,0,none⟩) (.i i))
 (Ba:∀j s,j<k→I j s→jY prog K none l #[.i (o9 (gG i) j:Nat)] (M s) (fun b H'=>b=true∧∃s',I (j+1) s'∧H'=M s')) (s0:σ) (h0:I 0 s0) :
 aB prog 344 #[.func (.yield l) #[] #[],ptr b1 0] K (M s0) (fun v H'=>∃s,I k s∧H'=M s):=by
 have o7:=fun j=>MG (x:=gG i) (GA i) j;refine aB.aaR func344 rfl ntmps344 rfl ?_;simp only[kV,reduceAdd];refine WC.sr ?_;refine WL.val (V.load isAgg3 (ak rfl) (fun hc=>h1 0 s0 h0)) rfl ?_;refine WL.t1 call287 rfl (Tz i hi) rfl ?_;refine aj "jgt" ?_;refine WC.loop (σ:=Nat×σ) (fun x=>[(0,.func (.yield l) #[] #[]),(3,.i (gG i:Nat)),(4,.i (o9 (gG i) x.1:Nat))]) (fun x=>M x.2) (fun x=>x.1<k∧I x.1 x.2) (fun x=>k-x.1) (0,s0) ⟨hk,h0⟩ bC cO ?_;rintro⟨j,s⟩ ⟨hj,hI⟩;dsimp only at hj hI ⊢;refine aj "rc" ?_;refine WL.afm (r:=none) (l:=l) (vs:=[_]) (ak rfl) ⟨ak rfl,trivial⟩ (Ba j s hj hI) rfl ?_;rintro _ _ ⟨rfl,s',hI',rfl⟩;refine aj "b5qtec" ?_;refine WL.t2 call328 rfl rfl (NV (o7 j) (o7 j)) rfl ?_;refine aj "6Y:bZ" (aW (fun aQ=> ?_) fun aQ=> ?_)
 ·have h2:(o9 (gG i) (j+1)=gG i)∨¬(o9 (gG i) (j+1)=gG i):=Decidable.em _;have h3:o9 (gG i) (j+1)=gG i:=by have :=aQ;exact Int.ofNat.inj this
  have h4:j+1=k:=by
   rcases Nat.lt_or_ge (j+1) k with h | h
   ·exact absurd h3 (uN (j+1) ay h)
   ·omega
  refine WC.ret ?_;exact aF.ret (H':=M s') (bJ.none rfl) cO ⟨s',by rw[←h4];exact hI',rfl⟩
 ·have h2:(o9 (gG i) (j+1)=gG i)∨¬(o9 (gG i) (j+1)=gG i):=Decidable.em _;have h3:¬o9 (gG i) (j+1)=gG i:=fun h=>aQ (congrArg Int.ofNat h);have h4:j+1<k:=by
   rcases Nat.lt_or_ge (j+1) k with h | h
   ·exact h
   ·have :j+1=k:=by omega
    rw[this] at h3;exact absurd yR h3
  refine aj "q~A" ?_;exact⟨(j+1,s'),⟨h4,hI'⟩,(by show k-(j+1)<k-j;omega),.cons rfl bC,fun w h=>h⟩
theorem qN(hs:Seq K F A m 1 (av .u8 xs))(kS:m≤cap)(hm:m≤1000000):aK prog 320 #[.slice A m cap] K F (.slice A (aZ xs m) cap):=by
 refine aB.en func320 ntmps320 ?_;refine aj "aut" ?_;refine WC.loop (σ:=Nat) (fun j=>[(0,.slice A j cap)]) (fun _=>F) (fun j=>j≤m∧aZ xs j=aZ xs m) (fun j=>j) m ⟨Nat.le_refl _,rfl⟩ bC cO ?_;rintro j ⟨hj,hn⟩;have kr:0<j→Rd K F (A.map (·.add (((j:Int)-1).toNat*1))) (.int .u8 (xs.getD (j-1) 0:Nat)):=fun h=>by
  rw[show ((j:Int)-1).toNat=j-1 by omega];exact hs.jo ay
 refine aj "rk~Jc!!~~m~~&" ?_;refine WL.bI (oj:=_) rfl rfl rfl GC.t (V.dw dO (OV.g rfl id) (OV.g rfl id) (fun hc=>by simp at hc;omega) (fun hc=>kr (by simp at hc;omega))) rfl ?_;refine WL.bI (oj:=_) rfl rfl rfl GC.t (V.load isAgg5 (OV.g rfl id) (fun hc=>kr (by simp at hc;omega))) rfl ?_;refine aj "~NQi" (aW (fun h0=> ?_) fun h0=> ?_)
 ·simp only[Gi] at h0;refine aj "qtPk[" ?_;refine WL.val (V.aG (v':= .slice A (j-1) cap) (V.slice (l:=0) (h:=j-1) (u:=cap) dO (ak rfl) OO.none (OO.some (ak rfl) (fun _=>by omega)) OO.none (by simp) (zero_le _) ay (Nat.le_refl _)) (fun _=>by rw[zK];rfl)) rfl ?_;refine aj "X" ?_;refine⟨j-1,⟨by show j-1≤m;omega, ?_⟩,(by show j-1<j;omega),.cons rfl (.nil _),fun w h=>h⟩;obtain⟨i,rfl⟩:∃i,j=i+1:=⟨j-1,by omega⟩;rw[←hn,aZ,if_pos (by have :=h0.2;simp at this ⊢;omega)];rfl
 ·simp only[Gi] at h0;refine aj "Ked;" ?_;have :aZ xs m=j:=by
   rw[←hn];cases j with
   | zero=>rfl
   | succ i =>
    rw[aZ,if_neg];intro hz;rcases h0 with h1 | h1
    ·omega
    ·have h2:¬((xs.getD i 0:Nat):Int)=0:=h1;exact h2 (by rw[hz];rfl)
  rw[this]
theorem Cx(v:Nat):IntKind.u8.wrap (v:Int)=((v%256:Nat):Int):=by grind [IntKind.wrap,IntKind.bits,IntKind.signed]
theorem agr{a j:Nat}(ha:a<8192):IntKind.u8.wrap (IntKind.i64.wrap ((a:Int)*2^(min ((j:Int)%8).toNat IntKind.i64.bits)))=((a*2^(j%8)%256:Nat):Int):=by
 have e1:min ((j:Int)%8).toNat IntKind.i64.bits=j%8:=by show min _ 64=_;omega
 have e2:(a:Int)*2^(j%8)=((a*2^(j%8):Nat):Int):=by simp
 have h1:2^(j%8)≤2^7:=Nat.pow_le_pow_right aN ay;have h2:a*2^(j%8)≤8192*128:=Nat.mul_le_mul ay h1;rw[e1,e2,wrap_i64 ay,Cx]
def pk(i:Int):Nat→List Nat
 | 0=>[1]
 | k+1=>(iI (pk i k) [o9 (gG i) k,1]).take (aZ (iI (pk i k) [o9 (gG i) k,1]) ((pk i k).length+2))
def nA(p:List Nat):Nat→List Nat
 | 0=>replicate (p.length/8+1) 0
 | j+1=>(nA p j).set (j/8) ((nA p j).getD (j/8) 0 ||| (p.getD j 0*2^(j%8))%256)
theorem sO(p:List Nat):∀j,(nA p j).length=p.length/8+1
 | 0=>length_replicate
 | j+1=>by rw[nA,length_set,sO]
theorem Cm(p:List Nat):∀j,aA 256 (nA p j)
 | 0=>aA.wJ aN
 | j+1=>by
  have ih:=Cm p j;rw[nA];exact ih.set (or_lt_two_pow (n:=8) (ih.at_ aN _) (mod_lt _ aN))
def wz(p:List Nat):List Nat:=nA p p.length
def uE(i:Int):List Nat:=(wz (pk i 13)).take (aZ (wz (pk i 13)) ((pk i 13).length/8+1))
def GJ(i:Int):Bool:=decide (o9 (gG i) 13=gG i)&&(List.range 13).all (fun j=>j=0||decide (o9 (gG i) j≠gG i))&&decide ((pk i 13).length≤1000)&&(List.range 14).all (fun j=>decide ((pk i j).length≤1000))
theorem abH:[1,3,5,7,9,11,13,15].all GJ=true:=by kernel_rfl
theorem ajF{a b:Nat}(ha:a<256)(hb:b<256):bitsOf .or .u8 (a:Int) (b:Int)=((a ||| b:Nat):Int):=by
 have h:a ||| b<2^8:=or_lt_two_pow ha hb
 unfold bitsOf;dsimp only;rw[iG,iG,BitVec.toNat_or,BitVec.toNat_ofNat,BitVec.toNat_ofNat];have e1:a%2^IntKind.u8.bits=a:=mod_eq_of_lt (by show a<2^8;omega);have e2:b%2^IntKind.u8.bits=b:=mod_eq_of_lt (by show b<2^8;omega);rw[e1,e2];show IntKind.u8.wrap _=_;simp only[IntKind.wrap,IntKind.bits,IntKind.signed];simp;omega
theorem Xe(i:Int):aB prog 335 #[.i i] K F (fun v H'=>∃b1,v= .func (.func 344) #[] #[ptr b1 0]∧H'=ah b1 3 [.i i]::F):=by
 refine aB.en func335 ntmps335 ?_;refine aj "a~h" fun b1=> ?_;refine aj "v~Ud" ?_;exact qR (ah b1 _ _::F) rfl rfl cO ⟨b1,rfl,rfl⟩
theorem Ko(hi: -9223372036854775808≤i∧i≤9223372036854775807)(hc:GJ i=true) :
 aB prog 319 #[.i i] K F (fun v H'=>∃g cap,(uE i).length≤cap∧cap=(pk i 13).length/8+1∧v= .slice (some ⟨g,0,none⟩) (uE i).length cap∧H'=ah g 5 (av .u8 (wz (pk i 13)))::F):=by
 simp only[GJ,Bool.and_eq_true,decide_eq_true_eq,all_eq_true,mem_range,Bool.or_eq_true] at hc;obtain⟨⟨⟨aQ,bA⟩,eu⟩,mQ⟩:=hc;have o7:=fun j=>MG (x:=gG i) (GA i) j;have qY:∀j,aA 8192 (pk i j):=fun j=>by
  cases j with
  | zero=>intro x hx;simp[pk] at hx;omega
  | succ j=>exact aA.take (yE (fun x hx=>by simp at hx;rcases hx with rfl | rfl;exact o7 j;decide) _)
 refine aB.aaG func319 rfl ntmps319 rfl ?_;simp only[kV,reduceAdd];refine aj "av" ?_;refine WL.buildSlice (E:=3) (cs:=[_]) (vs:=[(0,_)]) ⟨ak rfl,trivial⟩ rfl (dJ _) rfl (fun b8=> ?_);refine aj "w" fun b3=> ?_;refine aj "~%br" ?_;refine WL.c1 call335 rfl (Xe i) rfl ?_;rintro _ _ ⟨b1,rfl,rfl⟩;refine aj "bt" ?_;obtain⟨M0,hM0⟩:∃M0:Nat×List Nat×Nat×Nat→List aH,M0=fun s=>ah b3 124 [.slice (some ⟨s.1,0,none⟩) s.2.2.1 s.2.2.2]::ah s.1 3 (av .i64 s.2.1)::ah b1 3 [.i i]::F:=⟨_,rfl⟩;obtain⟨I0,ZH⟩:∃I0:Nat→Nat×List Nat×Nat×Nat→Prop,I0=fun j s=>s.2.1.take s.2.2.1=pk i j∧s.2.2.1≤s.2.1.length∧s.2.2.1≤s.2.2.2:=⟨_,rfl⟩;refine WC.range (gf:=344) (lb:=[ptr b1 0]) (Done:=fun H1=>∃s,I0 13 s∧H1=M0 s) (X:=fun _ _=>False) rfl call344 (fun r l e1 e2 e3 hA=> ?_) (fun D H1 hd=> ?_) (fun D c H1 h=>h.elim)
 suffices Ba:∀j s,j<13→I0 j s→jY prog K none l #[.i (o9 (gG i) j:Nat)] (r.A l .ready none::jT r.D::M0 s) (fun b H'=>b=true∧∃s',I0 (j+1) s'∧H'=r.A l .ready none::jT r.D::M0 s') from by
  have aji:aB prog 344 #[.func (.yield l) #[] #[],ptr b1 0] K (r.A l .ready none::jT r.D::M0 (b8,[1],1,1)) (fun v H'=>∃s,I0 13 s∧H'=r.A l .ready none::jT r.D::M0 s) :=
   Xk (r:=none) hi aN aQ (fun j h1 h2=>by rcases bA j h2 with h | h;omega;exact h) I0 (fun s=>r.A l .ready none::jT r.D::M0 s) (fun j s h=>by rw[hM0];exact (Rd.here rfl).up.up.up.up) Ba (b8,[1],1,1) (by rw[ZH];exact⟨rfl,Nat.le_refl _,Nat.le_refl _⟩)
  exact (aji.sat fun w h=>by rw[hM0];exact h.bg 5 [0,1,3,4,2] rfl).mono fun v H' ⟨s,hs,e⟩=>⟨none,_,e,s,hs,rfl⟩
 rintro j ⟨g,full,m1,cp⟩ hj hI;refine jY.mono (CS (n:=46) (args:=[.i (o9 (gG i) j:Nat)]) (post:=fun jj H1=>jj=none∧∃s,I0 (j+1) s∧H1=jT r.D::M0 s) (by rw[e1];rfl) (by rw[e1];simp) hA ?_) (fun b H' ⟨jj,H1,hb,⟨hj,s,hs,e⟩,eH⟩=>by
  subst hj hb e eH;exact⟨rfl,s,hs,rfl⟩)
 rw[e1,e2];rw[ZH] at hI;obtain⟨hI1,hI2,hI3⟩:=hI;dsimp only at hI1 hI2 hI3;rw[hM0,ZH];dsimp only;refine WC.sub (E:=(11,_)::_) (Sub.refl _) cO ?_;have l7:(pk i j).length=m1:=by rw[←hI1,length_take];omega
 have anj:=mQ j ay;have Oa:(iI (pk i j) [o9 (gG i) j,1]).length=m1+2:=by unfold iI;rw[qc,l7];rfl
 have Ws:=iy (iI (pk i j) [o9 (gG i) j,1]) (m1+2);have Oi:∀ {H:List aH},Seq K (ah g 3 (av .i64 full)::H) (some ⟨g,0,none⟩) m1 1 (av .i64 (pk i j)):=fun {H}=>Seq.here (by rw[au,l7];omega) (by rw[←hI1,←dU,drop_zero];exact take_prefix _ _)
 ·skip
  refine aj "pg" ?_;refine⟨_,fun w h=>h, ?_⟩;rw[e3];refine aj "tp<c" ?_;refine WL.buildSlice (E:=3) (cs:=[_,_]) (vs:=[(0,_),(1,_)]) ⟨ak rfl,ak rfl,trivial⟩ rfl (p9 _ _) rfl (fun b15=> ?_);refine WL.c2 call336 rfl rfl (abl (ps:=pk i j) (qs:=[o9 (gG i) j,1]) (by repeat (first | exact Oi | apply Seq.up)) (Seq.Gb (k:= .i64) (xs:=[o9 (gG i) j,1]) rfl) (qY j) (fun x hx=>by simp at hx;rcases hx with rfl | rfl;exact o7 j;decide) (by show (pk i j).length+2≤1000000;omega)) rfl ?_;rintro _ _ ⟨g2,rfl,rfl⟩;refine aj "6~pb" ?_;refine⟨_,fun w h=>h.bg 7 [2,3,4,0,6] rfl,rfl,(g2,iI (pk i j) [o9 (gG i) j,1],aZ (iI (pk i j) [o9 (gG i) j,1]) ((pk i j).length+2),(pk i j).length+2),⟨rfl, ?_, ?_⟩,rfl⟩
  ·show aZ _ _≤(iI _ _).length;rw[Oa,l7];exact Ws
  ·show aZ _ _≤(pk i j).length+2;rw[l7];exact Ws
 ·skip
  obtain⟨⟨g,full,m1,cp⟩,hI,rfl⟩:=hd;rw[ZH] at hI;obtain⟨hI1,hI2,hI3⟩:=hI;dsimp only at hI1 hI2 hI3;rw[hM0];have l7:(pk i 13).length=m1:=by rw[←hI1,length_take];omega
  have Oi:∀ {H:List aH},Seq K (ah g 3 (av .i64 full)::H) (some ⟨g,0,none⟩) m1 1 (av .i64 (pk i 13)):=fun {H}=>Seq.here (by rw[au,l7];omega) (by rw[←hI1,←dU,drop_zero];exact take_prefix _ _);refine WC.sub (E:=_) (H':=jT D::ah b3 124 [.slice (some ⟨g,0,none⟩) m1 cp]::ah g 3 (av .i64 full)::F) (Sub.refl _) (fun w h=>h.bg 4 [0,1,2] rfl) ?_;refine aj "a<k~*$" ?_;refine WL.nM (m:=m1/8+1) underlying34 yL (ak rfl) (ak rfl) ay ay ay rfl rfl rfl (fun b23=> ?_);refine aj "ua<kN" ?_;refine WC.loop (σ:=Nat) (fun j=>[(5,.slice (some ⟨b23,0,none⟩) (m1/8+1) (m1/8+1)),(24,.slice (some ⟨g,0,none⟩) m1 cp),(25,.i (m1:Int)),(26,.i (j:Int))]) (fun j=>ah b23 5 (av .u8 (nA (pk i 13) j))::jT D::ah g 3 (av .i64 full)::F) (fun j=>j≤m1) (fun j=>m1-j) 0 (zero_le _) bC (fun w h=>(h.bg 4 [0,1,3] rfl).aT (by rw[nA,l7,eD];rfl)) ?_;rintro j hj;refine aj "TZ" (aW (fun aL=> ?_) fun aL=> ?_)
  ·refine aj "IM" ?_;have hjm:j<m1:=ay;have xO:∀ {X Y:aH},Rd K (X::Y::ah g 3 (av .i64 full)::F) ((some ⟨g,0,none⟩:Option Addr).map (·.add ((j:Int).toNat*1))) (.i ((pk i 13).getD j 0:Nat)):=fun {X Y}=>by
    rw[show (j:Int).toNat=j by omega];exact (Oi.jo ay).up.up
   have hpj:=(qY 13).at_ aN j;have zN:=sO (pk i 13) j;have hgo:(av .u8 (nA (pk i 13) j))[0+((j:Int)/8).toNat*1]? =some (.int .u8 ((nA (pk i 13) j).getD (j/8) 0:Nat)):=by rw[show 0+((j:Int)/8).toNat*1=j/8 by omega];exact jH _ _ ay
   refine aj "h" ?_;refine WL.val (V.dw eB (ak rfl) (ak rfl) (fun hc=>by omega) (fun hc=>xO)) rfl ?_;refine WL.val (V.load isAgg3 (ak rfl) (fun hc=>xO)) rfl ?_;refine aj "lg" ?_;refine WC.dM (jT D::ah g 3 (av .i64 full)::F) (by kernel_rfl) ?_;refine aj "m0m1~~O2~c3m5m6" ?_;refine WA.t 7 rfl (V.Av (ak rfl) (ak rfl) Jy) ?_;refine aj "~~*8" ?_;refine WA.t 9 rfl (V.aG (v':= .int .u8 (((pk i 13).getD j 0*2^(j%8)%256:Nat):Int)) (V.FC runUnderlying3 runUnderlying5 (ak rfl)) (fun _=>by rw[agr hpj])) ?_;refine WA.o 4 rfl ?_;refine WL.val (V.load isAgg5 (ak rfl) (fun hc=>Rd.here hgo)) rfl ?_;refine WL.nil ?_;refine WA.t 10 rfl (V.aG (v':= .int .u8 (((nA (pk i 13) j).getD (j/8) 0 ||| ((pk i 13).getD j 0*2^(j%8))%256:Nat):Int)) (V.or (ak rfl) (ak rfl)) (fun _=>by rw[ajF ((Cm _ j).at_ aN _) (mod_lt _ aN)])) ?_;refine aj "~c;n<" ?_;refine WL.store (cs:=[_]) sizeOf5 (ak rfl) (ak rfl) rfl rfl rfl (bT.at_ (by rw[au];omega)) ?_;refine aj "bO7" ?_;refine⟨j+1,(by show j+1≤m1;omega),(by show m1-(j+1)<m1-j;omega),.cons rfl bC,fun w h=>Sat.aT h ?_⟩;rw[show 0+((j:Int)/8).toNat*1=j/8 by omega,lu,nA]
  ·refine aj "W" ?_;obtain rfl:j=m1:=by omega
   have hpp:nA (pk i 13) j=wz (pk i 13):=by unfold wz;rw[l7]
   rw[hpp];have ajI:(wz (pk i 13)).length=j/8+1:=by unfold wz;rw[sO,l7]
   refine aj "h" ?_;refine WL.t1 call320 rfl (qN (xs:=wz (pk i 13)) (Seq.Gb ajI) (Nat.le_refl _) ay) rfl ?_;refine aj "d" ?_;have JG:(uE i).length=aZ (wz (pk i 13)) (j/8+1):=by
    unfold uE;have :=iy (wz (pk i 13)) (j/8+1);rw[length_take,l7,ajI];omega
   exact mZ.agu (ah b23 5 (av .u8 (wz (pk i 13)))::F) (fun w h=>h.bg 3 [1,0] rfl) (bJ.tmp rfl rfl) cO ⟨b23,j/8+1,by rw[JG];exact iy _ _,by rw[l7],by rw[JG],rfl⟩
theorem MQ{a b:Nat}(ha:a<256)(hb:b<256):bitsOf .xor .u8 (a:Int) (b:Int)=((a ^^^ b:Nat):Int):=by
 have h:a ^^^ b<2^8:=xor_lt_two_pow ha hb;unfold bitsOf;dsimp only;rw[iG,iG,BitVec.toNat_xor,BitVec.toNat_ofNat,BitVec.toNat_ofNat];have e1:a%2^IntKind.u8.bits=a:=mod_eq_of_lt (by show a<2^8;omega);have e2:b%2^IntKind.u8.bits=b:=mod_eq_of_lt (by show b<2^8;omega);rw[e1,e2];show IntKind.u8.wrap _=_;rw[Cx];omega
theorem Bh{a:Nat}(ha:a<256):bitsOf .and .u8 (a:Int) 1=((a%2:Nat):Int):=by
 unfold bitsOf;dsimp only;rw[show (1:Int)=((1:Nat):Int) from rfl,iG,iG,BitVec.toNat_and,BitVec.toNat_ofNat,BitVec.toNat_ofNat];have e1:a%2^IntKind.u8.bits=a:=mod_eq_of_lt (by show a<2^8;omega);have e2:1%2^IntKind.u8.bits=1:=rfl;rw[e1,e2,and_one_is_mod];show IntKind.u8.wrap _=_;rw[Cx];omega
theorem GH{a j:Nat}(hj:j≤k):(a:Int).fdiv (2^(min (j:Int).toNat k))=((a/2^j:Nat):Int):=by grind
theorem adf{a j:Nat}(ha:a<256)(hj:j<8):IntKind.u16.wrap ((a:Int)*2^(min (j:Int).toNat IntKind.u16.bits))=((a*2^j:Nat):Int):=by
 have e1:min (j:Int).toNat IntKind.u16.bits=j:=by show min _ 16=_;omega
 have h1:2^j≤2^7:=Nat.pow_le_pow_right aN ay;have h2:a*2^j≤255*128:=Nat.mul_le_mul ay h1;have e2:(a:Int)*2^j=((a*2^j:Nat):Int):=by simp
 rw[e1,e2];simp only[IntKind.wrap,IntKind.bits,IntKind.signed];simp;omega
theorem rR(h:xs <+: ys):av k xs <+: av k ys:=h.map _
def tF(p:List Nat)(i:Nat):Bool:=(p.getD (i/8) 0).testBit (i%8)
def mI(out p:List Nat)(at_:Nat):Nat→List Nat
 | 0=>out
 | j+1 =>
  let o:=mI out p at_ j
  let w:=p.getD j 0*2^(at_%8)
  let o1:=o.set (j+at_/8) (o.getD (j+at_/8) 0 ^^^ w%256)
  if 255<w then o1.set (j+at_/8+1) (o1.getD (j+at_/8+1) 0 ^^^ w/256) else o1
theorem mW(out p:List Nat)(at_:Nat):∀j,(mI out p at_ j).length=out.length
 | 0=>rfl
 | j+1=>by
  rw[mI];split<;>simp[mW out p at_ j]
theorem su(h:aA 256 out)(hp:aA 256 p):∀j,aA 256 (mI out p at_ j)
 | 0=>h
 | j+1=>by
  have ih:=su (at_:=at_) h hp j;have h1:=ih.set (i:=j+at_/8) (je (k:=8) (ih.at_ aN (j+at_/8)) (mod_lt (p.getD j 0*2^(at_%8)) (y:=256) aN));rw[mI];split
  ·refine h1.set (je (k:=8) (h1.at_ aN _) ?_);have h2:2^(at_%8)≤2^7:=Nat.pow_le_pow_right aN ay;have h3:p.getD j 0*2^(at_%8)≤255*128:=Nat.mul_le_mul (by have :=hp.at_ aN j;omega) h2;omega
  ·exact h1
def kY(p q:List Nat):Nat→List Nat
 | 0=>replicate (p.length+q.length+1) 0
 | i+1=>if tF p i then mI (kY p q i) q i q.length else kY p q i
def iZ(p q:List Nat):List Nat:=kY p q (8*p.length)
theorem iU(p q:List Nat):∀i,(kY p q i).length=p.length+q.length+1
 | 0=>length_replicate
 | i+1=>by rw[kY];split;rw[mW,iU];exact iU p q i
theorem pX(hq:aA 256 q):∀i,aA 256 (kY p q i)
 | 0=>aA.wJ aN
 | i+1=>by rw[kY];split;exact su (pX hq i) hq _;exact pX hq i
theorem KV(hs:Seq K F A m 1 (av .u8 xs))(hx:aA 256 xs)(hi:i<8*m)(hm:m≤1000000):aK prog 322 #[.slice A m cap,.i (i:Int)] K F (.bool (tF xs i)):=by
 have xO:Rd K F (A.map (·.add (((i:Int)/8).toNat*1))) (.int .u8 (xs.getD (i/8) 0:Nat)):=by
  rw[show ((i:Int)/8).toNat=i/8 by omega];exact hs.jo ay
 have hb:=hx.at_ aN (i/8);refine aB.en func322 ntmps322 ?_;refine aj "aY~*" ?_;refine WL.val (V.dw dO (ak rfl) (ak rfl) (fun hc=>by omega) (fun hc=>xO)) rfl ?_;refine WL.val (V.load isAgg5 (ak rfl) (fun hc=>xO)) rfl ?_;refine WL.mv rfl rfl ?_;refine WL.val (V.aG (v':= .i ((i%8:Nat):Int)) (V.Av (ak rfl) (ak rfl) (fun _=>by omega)) (fun _=>by simp)) rfl ?_;refine WL.val (V.aG (v':= .int .u8 ((xs.getD (i/8) 0/2^(i%8):Nat):Int)) (V.shr (ak rfl) (ak rfl) ay) (fun _=>by rw[GH (by show i%8≤8;omega)])) rfl ?_;refine WL.val (V.aG (v':= .int .u8 ((xs.getD (i/8) 0/2^(i%8)%2:Nat):Int)) (V.and (ak rfl) (ak rfl)) (fun _=>by rw[Bh (Nat.lt_of_le_of_lt (div_le_self _ _) hb)])) rfl ?_;refine aj ":d;" ?_;congr 1;unfold tF;rw[testBit_eq_decide_div_mod_eq];apply decide_eq_decide.2;omega
theorem KW(hN:out.length=N)(ho:aA 256 out)(hs:Seq K F B m 1 (av .u8 p))(hp:aA 256 p)(Zb:m+at_/8<N)(kS:N≤1000000) :
 aB prog 323 #[.slice (some ⟨g,0,none⟩) N cap,.slice B m cap',.i (at_:Int)] K (ah g 5 (av .u8 out)::F)
  (fun v H'=>H'=ah g 5 (av .u8 (mI out p at_ m))::F):=by
 have hl:p.length=m:=by simpa [av] using hs.len
 have ash:at_<8000008:=ay
 refine aB.en func323 ntmps323 ?_;refine aj "ekN" ?_;refine WC.loop (σ:=Nat) (fun j=>[(0,.slice (some ⟨g,0,none⟩) N cap),(2,.i (at_:Int)),(9,.slice B m cap'),(10,.i (m:Int)),(11,.i (j:Int))]) (fun j=>ah g 5 (av .u8 (mI out p at_ j))::F) (fun j=>j≤m) (fun j=>m-j) 0 (zero_le _) bC cO ?_;rintro j hj;refine aj "TZ" (aW (fun aL=> ?_) fun aL=> ?_)
 ·refine aj "IM" ?_;have hjm:j<m:=ay;obtain⟨o,ho1⟩:∃o,o=mI out p at_ j:=⟨_,rfl⟩
  have Gh:o.length=N:=by rw[ho1,mW];exact hN
  have Zy:aA 256 o:=by rw[ho1];exact su ho hp j
  rw[←ho1];obtain⟨x,hx⟩:∃x,x=p.getD j 0:=⟨_,rfl⟩;have hx8:x<256:=by rw[hx];exact hp.at_ aN j
  have xO:Rd K (ah g 5 (av .u8 o)::F) (B.map (·.add ((j:Int).toNat*1))) (.int .u8 (x:Nat)):=by
   rw[show (j:Int).toNat=j by omega,hx];exact (hs.jo ay).up
  obtain⟨wv,hwv⟩:∃wv,wv=x*2^(at_%8):=⟨_,rfl⟩;have atK:wv<32768:=by
   have h2:2^(at_%8)≤2^7:=Nat.pow_le_pow_right aN ay;have h3:x*2^(at_%8)≤255*128:=Nat.mul_le_mul ay h2;omega
  obtain⟨o1,ho2⟩:∃o1,o1=o.set (j+at_/8) (o.getD (j+at_/8) 0 ^^^ wv%256):=⟨_,rfl⟩;have arK:o1.length=N:=by rw[ho2,length_set];exact Gh
  have aoq:aA 256 o1:=by rw[ho2];exact Zy.set (je (k:=8) (Zy.at_ aN _) (mod_lt _ aN))
  have Wn:mI out p at_ (j+1)=if 255<wv then o1.set (j+at_/8+1) (o1.getD (j+at_/8+1) 0 ^^^ wv/256) else o1:=by rw[mI,←ho1,←hx,←hwv,←ho2]
  have EH:(av .u8 o)[0+(((j:Int)+(at_:Int)/8)).toNat*1]? =some (.int .u8 (o.getD (j+at_/8) 0:Nat)):=by rw[show 0+(((j:Int)+(at_:Int)/8)).toNat*1=j+at_/8 by omega];exact jH _ _ ay
  have U1:(av .u8 o1)[0+(((j:Int)+(at_:Int)/8+1)).toNat*1]? =some (.int .u8 (o1.getD (j+at_/8+1) 0:Nat)):=by rw[show 0+(((j:Int)+(at_:Int)/8+1)).toNat*1=j+at_/8+1 by omega];exact jH _ _ ay
  refine aj "h" ?_;refine WL.val (V.dw dO (ak rfl) (ak rfl) (fun hc=>by omega) (fun hc=>xO)) rfl ?_;refine WL.val (V.load isAgg5 (ak rfl) (fun hc=>xO)) rfl ?_;refine aj "lj" ?_;refine WL.val (V.uy runUnderlying5 runUnderlying401 (ak rfl) (fun _=>by simp only[IntKind.wrap,IntKind.bits,IntKind.signed];simp;omega)) rfl ?_;refine WL.mv rfl rfl ?_;refine WL.val (V.aG (v':= .i ((at_%8:Nat):Int)) (V.Av (ak rfl) (ak rfl) (fun _=>by omega)) (fun _=>by simp)) rfl ?_;refine WL.val (V.aG (v':= .int .u16 (wv:Int)) (V.shl (ak rfl) (ak rfl) ay) (fun _=>by rw[adf hx8 ay,hwv])) rfl ?_;refine aj "jz~*$~r" ?_;refine WL.val (V.load isAgg5 (ak rfl) (fun hc=>Rd.here EH)) rfl ?_;refine WL.mv rfl rfl ?_;refine WL.val (V.aG (v':= .int .u8 ((wv%256:Nat):Int)) (V.FC runUnderlying401 runUnderlying5 (ak rfl)) (fun _=>by rw[Cx])) rfl ?_;refine WL.val (V.aG (v':= .int .u8 ((o.getD (j+at_/8) 0 ^^^ wv%256:Nat):Int)) (V.xor (ak rfl) (ak rfl)) (fun _=>by rw[MQ (Zy.at_ aN _) (mod_lt _ aN)])) rfl ?_;refine aj "~r" ?_;refine WL.store (cs:=[_]) sizeOf5 (ak rfl) (ak rfl) rfl rfl rfl (bT.at_ (by rw[au];omega)) ?_;rw[show 0+(((j:Int)+(at_:Int)/8)).toNat*1=j+at_/8 by omega,lu,←ho2];refine aj "be~JbZ" (aW (fun aQ=> ?_) fun aQ=> ?_)
  ·rw[if_pos ay] at Wn;refine aj "hz~*$$~r" ?_;refine WL.val (V.load isAgg5 (ak rfl) (fun hc=>Rd.here U1)) rfl ?_;refine WL.mv rfl rfl ?_;refine WL.val (V.aG (v':= .int .u16 ((wv/256:Nat):Int)) (V.shr (ak rfl) (ak rfl) aN) (fun _=>by rw[show (8:Int)=((8:Nat):Int) from rfl,GH (by show 8≤16;decide)])) rfl ?_;refine WL.val (V.aG (v':= .int .u8 ((wv/256:Nat):Int)) (V.FC runUnderlying401 runUnderlying5 (ak rfl)) (fun _=>by rw[Cx];congr 2;omega)) rfl ?_;refine WL.val (V.aG (v':= .int .u8 ((o1.getD (j+at_/8+1) 0 ^^^ wv/256:Nat):Int)) (V.xor (ak rfl) (ak rfl)) (fun _=>by rw[MQ (aoq.at_ aN _) ay])) rfl ?_;refine aj "~r" ?_;refine WL.store (cs:=[_]) sizeOf5 (ak rfl) (ak rfl) rfl rfl rfl (bT.at_ (by rw[au];omega)) ?_;rw[show 0+(((j:Int)+(at_:Int)/8+1)).toNat*1=j+at_/8+1 by omega,lu];refine aj "b7" ?_;exact⟨j+1,(by show j+1≤m;omega),(by show m-(j+1)<m-j;omega),.cons rfl bC,fun w h=>Sat.aT h (by rw[Wn])⟩
  ·rw[if_neg ay] at Wn;refine aj "q7" ?_;exact⟨j+1,(by show j+1≤m;omega),(by show m-(j+1)<m-j;omega),.cons rfl bC,fun w h=>Sat.aT h (by rw[Wn])⟩
 ·refine WC.exit ?_;obtain rfl:j=m:=by omega
  exact aF.normal (H':=ah g _ _::F) (bJ.none rfl) cO rfl
theorem KI(hs:Seq K F A m 1 (av .u8 ps))(hq:Seq K F B q 1 (av .u8 qs))(V4:aA 256 ps)(ZK:aA 256 qs)(kS:ps.length+qs.length≤100000) :
 aB prog 281 #[.slice A m Ml,.slice B q cap'] K F
  (fun v H'=>∃g,v= .slice (some ⟨g,0,none⟩) (aZ (iZ ps qs) (ps.length+qs.length+1)) (ps.length+qs.length+1)∧H'=ah g 5 (av .u8 (iZ ps qs))::F):=by
 have hl:ps.length=m:=by simpa [av] using hs.len
 have Ki:qs.length=q:=by simpa [av] using hq.len
 refine aB.en func281 ntmps281 ?_;refine aj "ajkck$$" ?_;refine WL.nM (m:=m+q+1) underlying34 yL (ak rfl) (ak rfl) ay ay ay rfl rfl rfl (fun b13=> ?_);refine aj "fk~LN" ?_;refine WC.loop (σ:=Nat) (fun j=>[(0,.slice A m Ml),(1,.slice B q cap'),(5,.slice (some ⟨b13,0,none⟩) (m+q+1) (m+q+1)),(16,.i (8*(m:Int))),(17,.i (j:Int))]) (fun j=>ah b13 5 (av .u8 (kY ps qs j))::F) (fun j=>j≤8*m) (fun j=>8*m-j) 0 (zero_le _) bC (fun w h=>Sat.aT h (by rw[kY,hl,Ki,eD];rfl)) ?_;rintro j hj;refine aj "TZ" (aW (fun aL=> ?_) fun aL=> ?_)
 ·refine aj "1Y" ?_;refine WL.t2 call322 rfl rfl (KV (by repeat (first | exact hs | apply Seq.up)) V4 ay ay) rfl ?_;refine aj "i" (aW (fun h1=> ?_) fun h1=> ?_)
  ·refine aj "hz" ?_;refine WL.c3 call323 rfl rfl rfl (KW (N:=m+q+1) (by rw[iU,hl,Ki]) (pX ZK j) hq ZK ay ay) rfl ?_;rintro v1 _ rfl;refine aj "b7" ?_;refine⟨j+1,(by show j+1≤8*m;omega),(by show 8*m-(j+1)<8*m-j;omega),.cons rfl bC,fun w h=>Sat.aT h ?_⟩;rw[kY,h1];simp[Ki]
  ·refine aj "q7" ?_;refine⟨j+1,(by show j+1≤8*m;omega),(by show 8*m-(j+1)<8*m-j;omega),.cons rfl bC,fun w h=>Sat.aT h ?_⟩;rw[kY,h1];simp[Ki]
 ·refine aj "W" ?_;obtain rfl:j=8*m:=by omega
  have hbm:kY ps qs (8*m)=iZ ps qs:=by unfold iZ;rw[hl]
  rw[hbm];have BI:(iZ ps qs).length=m+q+1:=by unfold iZ;rw[iU,hl,Ki]
  refine aj "h" ?_;refine WL.t1 call320 rfl (qN (xs:=iZ ps qs) (Seq.Gb BI) (Nat.le_refl _) ay) rfl ?_;refine aj "d" ?_;exact qR (ah b13 _ _::F) rfl rfl cO ⟨b13,by rw[hl,Ki],rfl⟩
def N8(x:Nat):Nat:=if x=0 then 0 else log2 x+1
theorem aeb{s:ByteArray}(h:((List.range 256).all fun x=>decide (s[x]? =some (UInt8.ofNat (N8 x))))=true)(hx:x<256):s[x]? =some (UInt8.ofNat (N8 x)):=by grind
theorem VY(h:x<256):N8 x≤8:=by
 unfold N8;split
 ·omega
 ·rename_i h0;have :=(log2_lt h0 (k:=8)).2 h;omega
def TW(xs:List Nat)(m:Nat):Int:=if aZ xs m=0 then-1 else 8*(aZ xs m:Int)-8+(N8 (xs.getD (aZ xs m-1) 0):Nat)-1
def gW(p q:List Nat)(lq d:Nat):Nat→List Nat
 | 0=>p++[0]
 | k+1=>if tF (gW p q lq d k) (8*p.length-1-k) then mI (gW p q lq d k) q (8*p.length-1-k-d) lq else gW p q lq d k
theorem gy(p q:List Nat)(lq d:Nat):∀k,(gW p q lq d k).length=p.length+1
 | 0=>by simp[gW]
 | k+1=>by rw[gW];split;rw[mW,gy];exact gy p q lq d k
theorem jq(hp:aA 256 p)(hq:aA 256 q):∀k,aA 256 (gW p q lq d k)
 | 0=>hp.append (fun x hx=>by simp at hx;omega)
 | k+1=>by rw[gW];split;exact su (jq hp hq k) hq _;exact jq hp hq k
theorem Y4{x:Nat}(hx:x<256):aK prog 337 #[.int .u8 (x:Int)] K F (.i (N8 x:Nat)):=by
 have hl:=VY hx;have h8:(UInt8.ofNat (N8 x)).toNat=N8 x:=by rw[UInt8.toNat_ofNat'];omega
 refine aB.en func337 ntmps337 ?_;refine aj "aj" ?_;refine WL.val (V.ahb (b:=UInt8.ofNat (N8 x)) underlying9 (ak rfl) (ak rfl) (fun _=>⟨by omega,by rw[show ((x:Nat):Int).toNat=x by omega];exact aeb (by kernel_rfl) hx⟩)) rfl ?_;refine WL.val (V.uy runUnderlying5 runUnderlying3 (ak rfl) (fun _=>wrap_i64 ay)) rfl ?_;refine aj "d" ?_;exact qR F rfl rfl cO ⟨by rw[h8],rfl⟩
theorem NZ(hs:Seq K F A m 1 (av .u8 xs))(hx:aA 256 xs)(kS:m≤cap)(hm:m≤100000):aK prog 321 #[.slice A m cap] K F (.i (TW xs m)):=by
 have hn:=iy xs m;refine aB.en func321 ntmps321 ?_;refine aj "aj" ?_;refine WL.t1 call320 rfl (qN hs kS ay) rfl ?_;refine aj "fk:bZ" (aW (fun aL=> ?_) fun aL=> ?_)
 ·refine aj "G;" ?_;unfold TW;rw[if_pos ay]
 ·refine aj "," ?_;have kr:Rd K F (A.map (·.add (((aZ xs m:Int)-1).toNat*1))) (.int .u8 (xs.getD (aZ xs m-1) 0:Nat)):=by
   rw[show ((aZ xs m:Int)-1).toNat=aZ xs m-1 by omega];exact hs.jo ay
  have hb:=hx.at_ aN (aZ xs m-1);have Gs:=VY hb;refine aj "hk~L[zk[" ?_;refine WL.val (V.dw dO (ak rfl) (ak rfl) (fun hc=>by omega) (fun hc=>kr)) rfl ?_;refine WL.val (V.load isAgg5 (ak rfl) (fun hc=>kr)) rfl ?_;refine WL.t1 call337 rfl (Y4 hb) rfl ?_;refine aj "$[d;" ?_;unfold TW;rw[if_neg ay]
theorem Yd{d:Nat}(hs:Seq K F A m 1 (av .u8 ps))(hq:Seq K F B q 1 (av .u8 qs))(V4:aA 256 ps)(ZK:aA 256 qs)(hqc:q≤cap')(kS:ps.length+qs.length≤100000)
 (hd:TW qs q=(d:Int)) (hdd:TW (qs.take (aZ qs q)) (aZ qs q)=(d:Int)) (RX:aZ qs q=d/8+1) :
 aB prog 280 #[.slice A m Ml,.slice B q cap'] K F
  (fun v H'=>∃g,v= .tuple #[.slice (some ⟨g,0,none⟩) (aZ (gW ps (qs.take (aZ qs q)) (aZ qs q) d (8*m-d)) (m+1)) (m+1),.i 0]∧H'=ah g 5 (av .u8 (gW ps (qs.take (aZ qs q)) (aZ qs q) d (8*m-d)))::F):=by
 have hl:ps.length=m:=by simpa [av] using hs.len
 have Ki:qs.length=q:=by simpa [av] using hq.len
 have Ws:=iy qs q;obtain⟨lq,RL⟩:∃lq,lq=aZ qs q:=⟨_,rfl⟩;obtain⟨Q0,hQ0⟩:∃Q0,Q0=qs.take (aZ qs q):=⟨_,rfl⟩;have hQl:Q0.length=lq:=by rw[hQ0,length_take,RL];omega
 have hQ8:aA 256 Q0:=by rw[hQ0];exact ZK.take
 have hsQ:Seq K F B lq 1 (av .u8 Q0):=by rw[hQ0,RL,←dU];exact Seq.take hq Ws
 rw[←hQ0,←RL] at hdd ⊢;rw[←RL] at RX Ws;obtain⟨kk,hkk⟩:∃kk,kk=8*m-d:=⟨_,rfl⟩;rw[←hkk];refine aB.en func280 ntmps280 ?_;refine aj "alj" ?_;refine WL.t1 call320 rfl (aK.eq (v':= .slice B lq cap') (qN hq hqc ay) (by rw[RL])) rfl ?_;refine aj "j" ?_;refine WL.t1 call321 rfl (aK.eq (v':= .i (d:Int)) (NZ hsQ hQ8 ay ay) (by rw[hdd])) rfl ?_;refine aj "f4b" ?_;refine WC.ni rfl ((by simp)) ?_;refine aj "Uk$" ?_;refine WL.nM (m:=m+1) underlying34 yL (ak rfl) (ak rfl) ay ay ay rfl rfl rfl (fun b18=> ?_);refine aj "Y" ?_;refine WL.yY dO (ak rfl) (ak rfl) (by repeat (first | exact hs | apply Seq.up)) ay (jB _ _) (bT.front (by simp[av];omega)) rfl ?_;refine aj "brk~L[gt" ?_;refine WC.loop (σ:=Nat) (fun k=>[(1,.slice B lq cap'),(6,.i (d:Int)),(7,.slice (some ⟨b18,0,none⟩) (m+1) (m+1)),(8,.i (8*(m:Int)-1-(k:Int)))]) (fun k=>ah b18 5 (av .u8 (gW ps Q0 lq d k))::F) (fun k=>k≤kk) (fun k=>kk-k) 0 (zero_le _) bC (fun w h=>Sat.aT h (by rw[gW,dx,au,hl,drop_replicate,show m+1-m=1 by omega];rfl)) ?_;rintro k hk;refine aj "rc~ibZ" (aW (fun aQ=> ?_) fun aQ=> ?_)
 ·have hkd:k<kk:=ay;have hi8:8*(m:Int)-1-(k:Int)=((8*m-1-k:Nat):Int):=ay;rw[hi8];refine aj "1c" ?_;refine WL.t2 call322 rfl rfl (KV (Seq.Gb (by rw[gy,hl])) (jq V4 hQ8 k) ay ay) rfl ?_;refine aj "i" (aW (fun h2=> ?_) fun h2=> ?_)
  ·refine aj "hzc" ?_;refine WL.val (V.aG (v':= .i ((8*m-1-k-d:Nat):Int)) (V.Eo (ak rfl) (ak rfl) (fun _=>by omega)) (fun _=>by congr 1;omega)) rfl ?_;refine WL.c3 call323 rfl rfl rfl (KW (N:=m+1) (by rw[gy,hl]) (jq V4 hQ8 k) hsQ hQ8 ay ay) rfl ?_;rintro v1 _ rfl;refine aj "bh[X" ?_;refine⟨k+1,(by show k+1≤kk;omega),(by show kk-(k+1)<kk-k;omega),.cons rfl (.cons rfl (.cons rfl (.cons (look_eq rfl (by simp;omega)) (.nil _)))),fun w h=>Sat.aT h ?_⟩;rw[gW,hl,h2];simp
  ·refine aj "qh[X" ?_;refine⟨k+1,(by show k+1≤kk;omega),(by show kk-(k+1)<kk-k;omega),.cons rfl (.cons rfl (.cons rfl (.cons (look_eq rfl (by simp;omega)) (.nil _)))),fun w h=>Sat.aT h ?_⟩;rw[gW,hl,h2];simp
 ·refine aj "W" ?_;obtain rfl:k=kk:=by omega
  refine aj "h" ?_;refine WL.t1 call320 rfl (qN (xs:=gW ps Q0 lq d k) (Seq.Gb (by rw[gy,hl])) (Nat.le_refl _) ay) rfl ?_;refine aj "C" ?_;exact aF.ret (H':=ah b18 _ _::F) (bJ.eU rfl rfl rfl) cO ⟨b18,rfl,rfl⟩
def fO:Nat→List Nat
 | 0=>[1]
 | k+1=>(iZ (fO k) (uE (2*k+1:Nat))).take (aZ (iZ (fO k) (uE (2*k+1:Nat))) ((fO k).length+(uE (2*k+1:Nat)).length+1))
def Z8(k:Nat):Bool:=decide ((fO k).length≤1000)&&decide ((uE (2*k+1:Nat)).length≤1000)&&(fO k).all (fun x=>decide (x<256))&&(uE (2*k+1:Nat)).all (fun x=>decide (x<256))
theorem ahq:(List.range 8).all Z8=true:=by kernel_rfl
theorem F7{t:Nat}(ht:1≤t∧t≤8) :
 aB prog 279 #[.i (t:Int)] K F (fun v H'=>∃g full cap,v= .tuple #[.slice (some ⟨g,0,none⟩) (fO t).length cap,.i 0]∧(fO t).length≤cap∧(fO t)=full.take (fO t).length∧H'=ah g 5 (av .u8 full)::F):=by
 have jh:∀k,k<8→Z8 k=true:=fun k hk=>all_eq_true.1 ahq k (mem_range.2 hk);have Y5:∀k,k<8→GJ ((2*k+1:Nat):Int)=true:=fun k hk=>by
  have h:=all_eq_true.1 abH;have :((2*k+1:Nat):Int)∈[1,3,5,7,9,11,13,(15:Int)]:=by
   simp only[mem_cons,not_mem_nil,or_false];omega
  exact h _ this
 refine aB.en func279 ntmps279 ?_;refine aj "alf4cV~mLb~99" ?_;refine WL.buildSlice (E:=5) (cs:=[_]) (vs:=[(0,_)]) ⟨ak rfl,trivial⟩ rfl (jc _) rfl (fun b12=> ?_);refine aj "uagt" ?_;refine WC.loop (σ:=Nat×Nat×List Nat×Nat) (fun x=>[(0,.i (t:Int)),(4,.slice (some ⟨x.2.1,0,none⟩) (fO x.1).length x.2.2.2),(5,.i ((2*x.1+1:Nat):Int))]) (fun x=>ah x.2.1 5 (av .u8 x.2.2.1)::F) (fun x=>x.1≤t∧(fO x.1).length≤x.2.2.2∧fO x.1=x.2.2.1.take (fO x.1).length) (fun x=>t-x.1) (0,b12,[1],1) ⟨zero_le _,Nat.le_refl _,rfl⟩ bC cO ?_;rintro⟨k,g,full,cp⟩ ⟨hk,ZG,hfu⟩;dsimp only at hk ZG hfu ⊢;refine aj "rc~L4bZ" (aW (fun aQ=> ?_) fun aQ=> ?_)
 ·have hk8:k<8:=ay;have ho:=jh k hk8;simp only[Z8,Bool.and_eq_true,decide_eq_true_eq,all_eq_true] at ho;obtain⟨⟨⟨ho1,ho2⟩,ho3⟩,ho4⟩:=ho;have Od:∀ {H:List aH},Seq K (ah g 5 (av .u8 full)::H) (some ⟨g,0,none⟩) (fO k).length 1 (av .u8 (fO k)):=fun {H}=>Seq.here (by rw[au];omega) (by rw[drop_zero];exact rR (by rw[hfu];exact take_prefix _ _));refine aj "IP" ?_;refine WL.c1 call319 rfl (Ko ay (Y5 k hk8)) rfl ?_;rintro _ _ ⟨g2,c2,hm1,hm2,rfl,rfl⟩;have hms:∀ {H:List aH},Seq K (ah g2 5 (av .u8 (wz (pk ((2*k+1:Nat):Int) 13)))::H) (some ⟨g2,0,none⟩) (uE ((2*k+1:Nat):Int)).length 1 (av .u8 (uE ((2*k+1:Nat):Int))):=fun {H}=>Seq.here (by rw[au];omega) (by rw[drop_zero];exact rR (take_prefix _ _));refine WL.c2 call281 rfl rfl (KI (ps:=fO k) (qs:=uE ((2*k+1:Nat):Int)) (by repeat (first | exact Od | apply Seq.up)) hms ho3 ho4 ay) rfl ?_;rintro _ _ ⟨g3,rfl,rfl⟩;refine aj "gh$X" ?_;have Ws:=iy (iZ (fO k) (uE ((2*k+1:Nat):Int))) ((fO k).length+(uE ((2*k+1:Nat):Int)).length+1);have BI:(iZ (fO k) (uE ((2*k+1:Nat):Int))).length=(fO k).length+(uE ((2*k+1:Nat):Int)).length+1:=by unfold iZ;rw[iU]
  have hgl:(fO (k+1)).length=aZ (iZ (fO k) (uE ((2*k+1:Nat):Int))) ((fO k).length+(uE ((2*k+1:Nat):Int)).length+1):=by rw[fO,length_take,BI];omega
  exact⟨(k+1,g3,iZ (fO k) (uE ((2*k+1:Nat):Int)),(fO k).length+(uE ((2*k+1:Nat):Int)).length+1),⟨by show k+1≤t;omega,by rw[hgl];exact Ws,by rw[hgl];rfl⟩,(by show t-(k+1)<t-k;omega),.cons rfl (.cons (look_eq rfl (by rw[hgl])) (.cons (look_eq rfl (by simp;omega)) (.nil _))),fun w h=>h.bg 3 [0] rfl⟩
 ·refine aj "KeC" ?_;obtain rfl:k=t:=by omega
  exact aF.ret (H':=ah g _ _::F) (bJ.eU rfl rfl rfl) cO ⟨g,full,cp,rfl,ZG,hfu,rfl⟩
def OI(x j:Nat):Nat:=x &&& (255 ^^^ 2^j)
theorem Lb{x j:Nat}(hx:x<256)(hj:j<8):bitsOf .andNot .u8 (x:Int) (IntKind.u8.wrap (1*2^(min (j:Int).toNat IntKind.u8.bits)))=(OI x j:Nat)∧OI x j<256:=by
 have h:((List.range 256).all fun a=>(List.range 8).all fun j=>decide (bitsOf .andNot .u8 ((a:Nat):Int) (IntKind.u8.wrap (1*2^(min ((j:Nat):Int).toNat IntKind.u8.bits)))=(OI a j:Nat))&&decide (OI a j<256))=true:=by kernel_rfl
 have h1:=all_eq_true.1 h x (mem_range.2 hx);have h2:=all_eq_true.1 h1 j (mem_range.2 hj);simp only[Bool.and_eq_true,decide_eq_true_eq] at h2;exact h2
theorem Jr{j:Nat}(hj:j<8):IntKind.u8.wrap (1*2^(min (j:Int).toNat IntKind.u8.bits))=((2^j:Nat):Int):=by
 have h:((List.range 8).all fun j=>decide (IntKind.u8.wrap (1*2^(min ((j:Nat):Int).toNat IntKind.u8.bits))=((2^j:Nat):Int)))=true:=by kernel_rfl
 have h1:=all_eq_true.1 h j (mem_range.2 hj);exact of_decide_eq_true h1
theorem Gt(hj:j<8):2^j<256:=Nat.pow_lt_pow_right aN (show j<8 from hj)
def wAt(t:Nat)(d m:List Nat)(i:Nat):Bool:=if 13*t≤i then tF d (i-13*t) else tF m i
def H8(b:Bool):Nat:=if b then 1 else 0
def RI(bit:Nat→Bool)(x:Nat):Nat→Nat→Nat
 | 0,v=>v
 | i+1,v=>RI bit x i (kK v x ^^^ H8 (bit i))
def qL(t len:Nat)(bit:Nat→Bool):List Nat:=(List.range (2*t)).map fun k=>RI bit (gG ((k+1:Nat):Int)) len 0
theorem ab1:∀(i v:Nat),v<8192→RI bit x i v<8192
 | 0,v,h=>h
 | i+1,v,h=>by
  rw[RI];refine ab1 i _ (je (k:=13) (fD h) ?_);unfold H8;split<;>decide
def nQ(m:List Nat)(i0:Nat):Nat→List Nat
 | 0=>m
 | k+1=>(nQ m i0 k).set ((i0+k)/8) (OI ((nQ m i0 k).getD ((i0+k)/8) 0) ((i0+k)%8))
theorem sJ(m:List Nat)(i0:Nat):∀k,(nQ m i0 k).length=m.length
 | 0=>rfl
 | k+1=>by rw[nQ,length_set,sJ]
theorem vD(h:aA 256 m):∀k,aA 256 (nQ m i0 k)
 | 0=>h
 | k+1=>by
  have ih:=vD (i0:=i0) h k;rw[nQ];exact ih.set (Lb (ih.at_ aN _) (mod_lt _ aN)).2
def aR(t:Nat):Nat:=(13*t+7)/8
def jI(t:Nat)(m:List Nat):List Nat:=nQ m (13*t) (8*aR t-13*t)
def wo(xs:List Nat)(i:Nat):List Nat:=xs.set (i/8) (xs.getD (i/8) 0 ^^^ 2^(i%8))
theorem nu(xs:List Nat)(i:Nat):(wo xs i).length=xs.length:=by simp[wo]
theorem yF(h:aA 256 xs)(i:Nat):aA 256 (wo xs i):=h.set (je (k:=8) (h.at_ aN _) (Gt (mod_lt _ aN)))
structure Wd where
 t:Nat
 d:List Nat
 m:List Nat
 (g1 c1 g2 c2:Nat)
 r1:List Value
 r2:List Value
namespace Wd
abbrev cells(W:Wd):List Value:=[.i (W.t:Int),.slice (some ⟨W.g1,0,none⟩) W.d.length W.c1,.slice (some ⟨W.g2,0,none⟩) W.m.length W.c2]
abbrev parts(bw:Nat)(W:Wd):List aH:=[ah bw 370 W.cells,ah W.g1 5 (av .u8 W.d++W.r1),ah W.g2 5 (av .u8 W.m++W.r2)]
structure Ok(W:Wd):Prop where
 t:1≤W.t∧W.t≤8
 d:1≤W.d.length∧W.d.length≤512
 m:W.m.length=aR W.t
 ds:aA 256 W.d
 ms:aA 256 W.m
def len(W:Wd):Nat:=13*W.t+8*W.d.length
def bit(W:Wd)(i:Nat):Bool:=wAt W.t W.d W.m i
def flip(W:Wd)(i:Nat):Wd:=if 13*W.t≤i then { W with d:=wo W.d (i-13*W.t) } else { W with m:=wo W.m i }
theorem Ok.flip{W:Wd}(h:W.Ok)(i:Nat):(W.flip i).Ok:=by
 unfold Wd.flip;split
 ·exact⟨h.t,by show 1≤(wo _ _).length∧(wo _ _).length≤512;rw[nu];exact h.d,h.m,yF h.ds _,h.ms⟩
 ·exact⟨h.t,h.d,by show (wo _ _).length=_;rw[nu];exact h.m,h.ds,yF h.ms _⟩
end Wd
theorem mF(k:IntKind)(xs:List Nat)(r:List Value)(h:i<xs.length):(av k xs++r)[i]? =some (.int k (xs.getD i 0:Nat)):=by grind [getElem?_append_left,au,jH]
theorem uj(k:IntKind)(xs:List Nat)(r:List Value){x:Nat}(h:i<xs.length):(av k xs++r).set i (.int k (x:Int))=av k (xs.set i x)++r:=by simp_all [set_append,if_pos,au,lu]
theorem P7{t:Nat}(ht:1≤t∧t≤8)(hm:1≤m∧m≤512):aK prog 278 #[.i (t:Int),.slice A m cap] K F (.tuple #[.i (aR t:Nat),.i 0]):=by
 refine aB.en func278 ntmps278 ?_;refine aj "alj" ?_;refine WL.t1 call227 rfl (Ra t ay _ _) rfl ?_;refine aj "Df:c!~~m~~~n~~+~~e" ?_;refine WL.bI (oj:=_) rfl rfl rfl GC.cf (V.len (t:=34) runUnderlying34 (OV.g rfl id)) rfl (WL.bI (oj:=_) rfl rfl rfl GC.cf (V.gtr (OV.g rfl id) (ak rfl)) rfl (aj "~~.Qb~9U$~*cC" ?_));refine aF.ret (H':=F) (bJ.eU rfl rfl rfl) cO ⟨?_,rfl⟩;unfold aR;simp
theorem Rt{W:Wd}(h:W.Ok)(hR:fH K F bw 0 W.cells):aK prog 286 #[ptr bw 0] K F (.i (W.len:Nat)):=by
 have h1:=h.t;have h2:=h.d;have e0:Rd K F (some ⟨bw,0,none⟩) (.i (W.t:Int)):=hR 0 _ rfl;have e1:Rd K F (some ⟨bw,1,none⟩) (.slice (some ⟨W.g1,0,none⟩) W.d.length W.c1):=hR 1 _ rfl;refine aB.en func286 ntmps286 ?_;refine aj "au~k&~;~y" ?_;refine WQ.val (V.load isAgg3 (ak rfl) (fun hc=>e0)) rfl ?_;refine aj "~~P&~;~y" ?_;refine WQ.val (V.load isAgg34 (ak rfl) (fun hc=>e1)) rfl ?_;refine aj "~~Q~~P~~p~n~f~C;" ?_;unfold Wd.len;simp
theorem adl{W:Wd}(h:W.Ok)(hi:i<W.len)(hR:fH K F bw 0 W.cells)(hd:Seq K F (some ⟨W.g1,0,none⟩) W.d.length 1 (av .u8 W.d))(hm:Seq K F (some ⟨W.g2,0,none⟩) W.m.length 1 (av .u8 W.m)) :
 aK prog 325 #[ptr bw 0,.i (i:Int)] K F (.bool (W.bit i)):=by
 have h1:=h.t;have h2:=h.d;have h3:=h.m;unfold aR at h3;unfold Wd.len at hi;have e0:Rd K F (some ⟨bw,0,none⟩) (.i (W.t:Int)):=hR 0 _ rfl;have e1:Rd K F (some ⟨bw,1,none⟩) (.slice (some ⟨W.g1,0,none⟩) W.d.length W.c1):=hR 1 _ rfl;have e2:Rd K F (some ⟨bw,2,none⟩) (.slice (some ⟨W.g2,0,none⟩) W.m.length W.c2):=hR 2 _ rfl;have key:∀(xs:List Nat) (j:Nat),decide ((((xs.getD (j/8) 0/2^(j%8)%2:Nat):Int))=1)=tF xs j:=fun xs j=>by
  unfold tF;rw[testBit_eq_decide_div_mod_eq];apply decide_eq_decide.2;omega
 refine aB.en func325 ntmps325 ?_;refine aj "afcS" ?_;refine WL.val (V.load isAgg3 (ak rfl) (fun hc=>e0)) rfl ?_;refine aj "~L[j~ibZ" (aW (fun aL=> ?_) fun aL=> ?_)
 ·refine WC.seq ?_;obtain⟨k,hk⟩:∃k,k=i-13*W.t:=⟨_,rfl⟩;have hki:(i:Int)-13*(W.t:Int)=(k:Int):=ay;rw[hki];have kr:Rd K F (some ⟨W.g1,0+((k:Int)/8).toNat*1,none⟩) (.int .u8 (W.d.getD (k/8) 0:Nat)):=by
   have :=hd.jo (j:=k/8) ay;rw[show 0+((k:Int)/8).toNat*1=0+k/8*1 by omega]
   simpa [jM] using this
  have hb:=h.ds.at_ aN (k/8);refine aj "hS" ?_;refine WL.val (V.load isAgg34 (ak rfl) (fun hc=>e1)) rfl ?_;refine aj "c~*~r" ?_;refine WL.val (V.load isAgg5 (ak rfl) (fun hc=>kr)) rfl ?_;refine WL.mv rfl rfl ?_;refine WL.val (V.aG (v':= .i ((k%8:Nat):Int)) (V.Av (ak rfl) (ak rfl) (fun _=>by omega)) (fun _=>by simp)) rfl ?_;refine WL.val (V.aG (v':= .int .u8 ((W.d.getD (k/8) 0/2^(k%8):Nat):Int)) (V.shr (ak rfl) (ak rfl) ay) (fun _=>by rw[GH (by show k%8≤8;omega)])) rfl ?_;refine WL.val (V.aG (v':= .int .u8 ((W.d.getD (k/8) 0/2^(k%8)%2:Nat):Int)) (V.and (ak rfl) (ak rfl)) (fun _=>by rw[Bh (Nat.lt_of_le_of_lt (div_le_self _ _) hb)])) rfl ?_;refine aj ":d;" ?_;rw[key];unfold Wd.bit wAt;rw[if_pos ay,←hk]
 ·refine aj "," ?_;have kr:Rd K F (some ⟨W.g2,0+((i:Int)/8).toNat*1,none⟩) (.int .u8 (W.m.getD (i/8) 0:Nat)):=by
   have :=hm.jo (j:=i/8) ay;rw[show 0+((i:Int)/8).toNat*1=0+i/8*1 by omega]
   simpa [jM] using this
  have hb:=h.ms.at_ aN (i/8);refine aj "hS" ?_;refine WL.val (V.load isAgg34 (ak rfl) (fun hc=>e2)) rfl ?_;refine aj "c~*~r" ?_;refine WL.val (V.load isAgg5 (ak rfl) (fun hc=>kr)) rfl ?_;refine WL.mv rfl rfl ?_;refine WL.val (V.aG (v':= .i ((i%8:Nat):Int)) (V.Av (ak rfl) (ak rfl) (fun _=>by omega)) (fun _=>by simp)) rfl ?_;refine WL.val (V.aG (v':= .int .u8 ((W.m.getD (i/8) 0/2^(i%8):Nat):Int)) (V.shr (ak rfl) (ak rfl) ay) (fun _=>by rw[GH (by show i%8≤8;omega)])) rfl ?_;refine WL.val (V.aG (v':= .int .u8 ((W.m.getD (i/8) 0/2^(i%8)%2:Nat):Int)) (V.and (ak rfl) (ak rfl)) (fun _=>by rw[Bh (Nat.lt_of_le_of_lt (div_le_self _ _) hb)])) rfl ?_;refine aj ":d;" ?_;rw[key];unfold Wd.bit wAt;rw[if_neg ay]
theorem YF{W:Wd}(h:W.Ok)(hi:i<W.len) :
 aB prog 289 #[ptr bw 0,.i (i:Int)] K (W.parts bw++F) (fun v H'=>H'=(W.flip i).parts bw++F):=by
 have h1:=h.t;have h2:=h.d;have h3:=h.m;unfold aR at h3;unfold Wd.len at hi;dsimp only[Wd.parts,cons_append,nil_append];refine aB.en func289 ntmps289 ?_;refine aj "ec`o~L[j~ibZ" (aW (fun aL=> ?_) fun aL=> ?_)
 ·obtain⟨k,hk⟩:∃k,k=i-13*W.t:=⟨_,rfl⟩;have hki:(i:Int)-13*(W.t:Int)=(k:Int):=ay;rw[hki];have EH:(av .u8 W.d++W.r1)[0+((k:Int)/8).toNat*1]? =some (.int .u8 (W.d.getD (k/8) 0:Nat)):=by rw[show 0+((k:Int)/8).toNat*1=k/8 by omega];exact mF _ _ _ ay
  have hb:=h.ds.at_ aN (k/8);have hWf:W.flip i= { W with d:=wo W.d k }:=by unfold Wd.flip;rw[if_pos ay,←hk]
  refine WC.sub (Sub.refl _) (fun w h=>h.p1) ?_;refine WC.dM (ah bw 370 W.cells::ah W.g2 5 (av .u8 W.m++W.r2)::F) (by kernel_rfl) ?_;refine aj "m0~a102(3m4~~O5~c6m8" ?_;refine WA.t 9 rfl (V.aG (v':= .i ((k%8:Nat):Int)) (V.Av (ak rfl) (ak rfl) (fun _=>by omega)) (fun _=>by simp)) ?_;refine WA.t 10 rfl (V.aG (v':= .int .u8 ((2^(k%8):Nat):Int)) (V.shl (ak rfl) (ak rfl) ay) (fun _=>by rw[Jr ay])) ?_;refine WA.o 7 rfl ?_;refine WL.val (V.load isAgg5 (ak rfl) (fun hc=>by repeat (first | exact Rd.here EH | apply Rd.up))) rfl ?_;refine WL.nil ?_;refine WA.t 11 rfl (V.aG (v':= .int .u8 ((W.d.getD (k/8) 0 ^^^ 2^(k%8):Nat):Int)) (V.xor (ak rfl) (ak rfl)) (fun _=>by rw[MQ hb (Gt ay)])) ?_;refine aj "~c<n=" ?_;refine WL.store (cs:=[_]) sizeOf5 (ak rfl) (ak rfl) rfl rfl rfl (bT.at_ (by rw[length_append,au];omega)) ?_;refine aj "bO" ?_;refine aF.normal (H':=(W.flip i).parts bw++F) (bJ.none rfl) (fun w h=> ?_) rfl;rw[hWf];rw[show 0+((k:Int)/8).toNat*1=k/8 by omega,uj _ _ _ ay] at h;have h':=h.p1;dsimp only[Wd.parts,Wd.cells,cons_append,nil_append];rw[nu];exact h'
 ·have hWf:W.flip i= { W with m:=wo W.m i }:=by unfold Wd.flip;rw[if_neg ay]
  have EH:(av .u8 W.m++W.r2)[0+((i:Int)/8).toNat*1]? =some (.int .u8 (W.m.getD (i/8) 0:Nat)):=by rw[show 0+((i:Int)/8).toNat*1=i/8 by omega];exact mF _ _ _ ay
  have hb:=h.ms.at_ aN (i/8);refine WC.sub (Sub.refl _) (fun w h=>h.p2) ?_;refine WC.dM (ah bw 370 W.cells::ah W.g1 5 (av .u8 W.d++W.r1)::F) (by kernel_rfl) ?_;refine aj "m0~a102(3m4~~O5~c6m8" ?_;refine WA.t 9 rfl (V.aG (v':= .i ((i%8:Nat):Int)) (V.Av (ak rfl) (ak rfl) (fun _=>by omega)) (fun _=>by simp)) ?_;refine WA.t 10 rfl (V.aG (v':= .int .u8 ((2^(i%8):Nat):Int)) (V.shl (ak rfl) (ak rfl) ay) (fun _=>by rw[Jr ay])) ?_;refine WA.o 7 rfl ?_;refine WL.val (V.load isAgg5 (ak rfl) (fun hc=>by repeat (first | exact Rd.here EH | apply Rd.up))) rfl ?_;refine WL.nil ?_;refine WA.t 11 rfl (V.aG (v':= .int .u8 ((W.m.getD (i/8) 0 ^^^ 2^(i%8):Nat):Int)) (V.xor (ak rfl) (ak rfl)) (fun _=>by rw[MQ hb (Gt ay)])) ?_;refine aj "~c<n=" ?_;refine WL.store (cs:=[_]) sizeOf5 (ak rfl) (ak rfl) rfl rfl rfl (bT.at_ (by rw[length_append,au];omega)) ?_;refine aj "bO" ?_;refine aF.normal (H':=(W.flip i).parts bw++F) (bJ.none rfl) (fun w h=> ?_) rfl;rw[hWf];rw[show 0+((i:Int)/8).toNat*1=i/8 by omega,uj _ _ _ ay] at h;have h':=h.bg 3 [1,2,0] rfl;dsimp only[Wd.parts,Wd.cells,cons_append,nil_append];rw[nu];exact h'
theorem aaW:RI bit x (i+1) v=RI bit x i (kK v x ^^^ H8 (bit i)):=rfl
theorem Yb{W:Wd}(h:W.Ok)(hR:fH K F bw 0 W.cells)(hd:Seq K F (some ⟨W.g1,0,none⟩) W.d.length 1 (av .u8 W.d))(hm:Seq K F (some ⟨W.g2,0,none⟩) W.m.length 1 (av .u8 W.m)) :
 aB prog 285 #[ptr bw 0] K F (fun v H'=>∃g,v= .slice (some ⟨g,0,none⟩) (2*W.t) (2*W.t)∧H'=ah g 3 (av .i64 (qL W.t W.len W.bit))::F):=by
 have h1:=h.t;have h2:=h.d;have e0:Rd K F (some ⟨bw,0,none⟩) (.i (W.t:Int)):=hR 0 _ rfl;have hlen:W.len≤4200:=by unfold Wd.len;omega
 have afv:0<W.len:=by unfold Wd.len;omega
 have hRu:∀ {X:aH},fH K (X::F) bw 0 W.cells:=fun {X}=>hR.up;refine aB.en func285 ntmps285 ?_;refine aj "ajS" ?_;refine WL.val (V.load isAgg3 (ak rfl) (fun hc=>e0)) rfl ?_;refine aj "~L" ?_;refine WL.nM (m:=2*W.t) underlying124 Me (ak rfl) (ak rfl) ay ay ay rfl rfl rfl (fun b13=> ?_);refine aj "fkN" ?_;refine WC.loop (σ:=Nat) (fun k=>[(0,ptr bw 0),(3,.slice (some ⟨b13,0,none⟩) (2*W.t) (2*W.t)),(15,.i ((2*W.t:Nat):Int)),(16,.i (k:Int))]) (fun k=>ah b13 3 (av .i64 ((qL W.t W.len W.bit).take k++replicate (2*W.t-k) 0))::F) (fun k=>k≤2*W.t) (fun k=>2*W.t-k) 0 (zero_le _) bC (fun w h=>Sat.aT h (by simp[eD])) ?_;rintro k hk;refine aj "TZ" (aW (fun aL=> ?_) fun aL=> ?_)
 ·refine aj "1u" ?_;have hkt:k<2*W.t:=ay;refine aj "h" ?_;refine WL.val (V.aG (v':= .i ((k+1:Nat):Int)) (V.CX (ak rfl) (ak rfl) (fun _=>by omega)) (fun _=>by simp)) rfl ?_;refine WL.t1 call287 rfl (Tz _ ay) rfl ?_;refine aj "lf" ?_;refine WL.t1 call286 rfl (Rt h hRu) rfl ?_;refine WL.val (V.aG (v':= .i ((W.len:Int)-1)) (V.Eo (ak rfl) (ak rfl) (fun _=>by omega)) (fun _=>rfl)) rfl ?_;refine aj "gt" ?_;refine WC.loop (σ:=Nat×Nat) (fun x=>[(0,ptr bw 0),(3,.slice (some ⟨b13,0,none⟩) (2*W.t) (2*W.t)),(15,.i ((2*W.t:Nat):Int)),(16,.i (k:Int)),(4,.i (k:Int)),(5,.i (gG ((k+1:Nat):Int):Nat)),(6,.i (x.2:Int)),(7,.i ((x.1:Int)-1))]) (fun _=>ah b13 3 (av .i64 ((qL W.t W.len W.bit).take k++replicate (2*W.t-k) 0))::F) (fun x=>x.1≤W.len∧x.2<8192∧RI W.bit (gG ((k+1:Nat):Int)) x.1 x.2=RI W.bit (gG ((k+1:Nat):Int)) W.len 0) (fun x=>x.1) (W.len,0) ⟨Nat.le_refl _,by show 0<8192;decide,rfl⟩ bC cO ?_;rintro⟨i,v⟩ ⟨hi,hv,hh⟩;dsimp only at hi hv hh ⊢;refine aj "r~ibZ" (aW (fun aQ=> ?_) fun aQ=> ?_)
  ·obtain⟨i',rfl⟩:∃i',i=i'+1:=⟨i-1,by omega⟩;have hi1:((i'+1:Nat):Int)-1=(i':Int):=ay;rw[hi1];rw[aaW] at hh;have Oa:=fD (b:=gG ((k+1:Nat):Int)) hv;refine aj "1c" ?_;refine WL.t2 call288 rfl rfl (zu hv (GA _)) rfl ?_;refine aj "Y" ?_;refine WL.t2 call325 rfl rfl (adl h (i:=i') ay hRu hd.up hm.up) rfl ?_;refine aj "i" (aW (fun h9=> ?_) fun h9=> ?_)
   ·rw[h9] at hh;refine aj "h" ?_;refine WL.val (V.aG (v':= .i ((kK v (gG ((k+1:Nat):Int)) ^^^ 1:Nat):Int)) (V.xor (ak rfl) (ak rfl)) (fun _=>by rw[show (1:Int)=((1:Nat):Int) from rfl,nC ay ay])) rfl ?_;refine aj "gh[X" ?_;exact⟨(i',kK v (gG ((k+1:Nat):Int)) ^^^ 1),⟨by show i'≤W.len;omega,je (k:=13) Oa aN,hh⟩,lt_succ_self _,.cons rfl bC,fun w h=>h⟩
   ·rw[h9] at hh;refine aj "qh[X" ?_;exact⟨(i',kK v (gG ((k+1:Nat):Int))),⟨by show i'≤W.len;omega,Oa,by rw[show H8 false=0 from rfl,xor_zero] at hh;exact hh⟩,lt_succ_self _,.cons rfl bC,fun w h=>h⟩
  ·refine WC.exit ?_;obtain rfl:i=0:=by omega
   have UO:v=RI W.bit (gG ((k+1:Nat):Int)) W.len 0:=hh;refine aj "hz~r" ?_;refine WL.store (cs:=[_]) sizeOf3 (ak rfl) (ak rfl) rfl rfl rfl (bT.at_ (by rw[au];simp[qL];omega)) ?_;refine aj "b7" ?_;refine⟨k+1,(by show k+1≤2*W.t;omega),(by show 2*W.t-(k+1)<2*W.t-k;omega),.cons rfl bC,fun w h=>Sat.aT h ?_⟩;have mR:(qL W.t W.len W.bit).length=2*W.t:=by simp[qL]
   have hsk:(qL W.t W.len W.bit)[k]'ay=v:=by rw[UO];simp[qL]
   rw[show 0+(k:Int).toNat*1=k by omega,lu,set_append_right _ _ (by rw[length_take];omega),length_take,show k-min k (qL W.t W.len W.bit).length=0 by omega,take_add_one,getElem?_eq_getElem ay,hsk];rw[show 2*W.t-k=(2*W.t-(k+1))+1 by omega,replicate_succ,set_cons_zero];simp
 ·refine aj "Ked" ?_;obtain rfl:k=2*W.t:=by omega
  refine qR (ah b13 _ _::F) rfl rfl (fun w h=>Sat.aT h ?_) ⟨b13,rfl,rfl⟩;rw[Nat.sub_self,replicate_zero,append_nil,take_of_length_le (by simp[qL])]
structure aD where
 g:bQ
 aX:Int×Int→Option (List Int)
 bM:Int×Int→Option (List Int)
 next:List Int
 marked:Int→Bool
 dQ:Int→Bool
 aO:Int
 up:Bool
 left:Int
 nG:Int
namespace aD
def raw(S:aD):Int:=S.g.raw
def block(S:aD)(b:Int):Bool:=decide (0≤b)&&decide (b<S.g.bl)
def oG(S:aD)(b p:Int):Bool:=S.block b&&decide (0≤p)&&decide (p<S.g.pg)
def ready(S:aD):Int:=if S.up then 0 else 70
def cut(S:aD):Bool:=decide (S.left=1)
def bE(S:aD):aD:= { S with left:=if S.left=0 then 0 else S.left-1,up:=S.up&& !S.cut }
def after(cut:Bool):Int:=if cut then 70 else 0
def nk(S:aD)(b:Int):Int:=S.next.getD b.toNat 0
def lH(S:aD)(b x:Int):List Int:=S.next.set b.toNat x
def blank(S:aD):List Int:=replicate S.raw.toNat 255
def DR{α:Type}(f:Int×Int→Option α)(k:Int×Int)(v:Option α):Int×Int→Option α:=fun k'=>if k'=k then v else f k'
def kept(S:aD)(n:Int):Int:=min (max S.nG 0) n
def program(S:aD)(b p:Int)(xs:List Int):aD×Int :=
 if S.up=false then (S,70)
 else if S.oG b p=false∨(xs.length:Int)≠S.raw then (S,1)
 else if p≠S.nk b then (S,71)
 else
  let T:=S.bE
  if S.cut then ({ T with aX:=DR T.aX (b,p) (some (xs.take (S.kept xs.length).toNat++S.blank.drop (S.kept xs.length).toNat)),next:=T.lH b (p+1) },70)
  else if S.dQ b then (T,72)
  else ({ T with aX:=DR T.aX (b,p) (some xs),next:=T.lH b (p+1) },0)
def bD{α:Type}(f:Int×Int→Option α)(b n:Int):Int×Int→Option α:=fun k=>if k.1=b∧0≤k.2∧k.2<n then none else f k
def erase(S:aD)(b:Int):aD×Int :=
 if S.up=false then (S,70)
 else if S.block b=false then (S,1)
 else
  let T:=S.bE
  if S.cut then ({ T with aX:=bD T.aX b (S.kept S.g.pg),bM:=bD T.bM b (S.kept S.g.pg) },70)
  else if S.dQ b then (T,72)
  else ({ T with aX:=bD T.aX b S.g.pg,bM:=bD T.bM b S.g.pg,next:=T.lH b 0 },0)
def all(S:aD)(f:aD→aD):aD×Int:=(if !S.cut||decide (0<S.nG) then f S.bE else S.bE,after S.cut)
def mark(S:aD)(b:Int):aD×Int :=
 if S.up=false then (S,70) else if S.block b=false then (S,1)
 else S.all fun T=> { T with marked:=fun k=>if k=b then true else T.marked k }
def off(S:aD):aD:= { S with up:=false }
def bad(S:aD)(b:Int):Bool:=S.up&&S.marked b
end aD
structure Cw where
 g:bQ
 aX:Int×Int→Option (Option Addr×Nat×List Int)
 bM:Int×Int→Option (Option Addr×Nat×List Int)
 next:List Int
 marked:Int→Bool
 dQ:Int→Bool
 aO:Int
 up:Bool
 left:Int
 nG:Int
 (bp bw bn bm bk:Nat)
 own:List aH
namespace Cw
def aC(C:Cw):aD:=⟨C.g,fun p=>(C.aX p).map (·.2.2),fun p=>(C.bM p).map (·.2.2),C.next,C.marked,C.dQ,C.aO,C.up,C.left,C.nG⟩
def nW(e:Option Addr×Nat×List Int):Value:= .slice e.1 e.2.2.length e.2.1
def kU(C:Cw):Int×Int→Option Value:=fun p=>(C.aX p).map nW
def oV(C:Cw):Int×Int→Option Value:=fun p=>(C.bM p).map nW
abbrev cells(C:Cw):List Value:=[.i C.g.bl,.i C.g.pg,.i C.g.se,.i C.g.sb,.i C.g.fl,.i C.g.raw,.map (some C.bp),.map (some C.bw),.slice (some ⟨C.bn,0,none⟩) C.next.length C.next.length,
 .map (some C.bm),.map (some C.bk),.i C.aO,.bool C.up,.i C.left,.i C.nG]
abbrev parts(bc:Nat)(C:Cw):List aH:=[ah bc 165 C.cells,gD C.bp jw C.kU,gD C.bw jw C.oV,ah C.bn 3 (ints .i64 C.next),gD C.bm vJ (nJ C.marked),gD C.bk vJ (nJ C.dQ),bK C.own]
def A(bc:Nat)(C:Cw):aH:=bK (C.parts bc)
structure Ok(C:Cw):Prop where
 aU:C.g.aU
 oG:∀p e,C.aX p=some e→iK C.own e.1 e.2.2.length 1 (ints .u8 e.2.2)∧(e.2.2.length:Int)=C.g.raw∧bF e.2.2
 wr:∀p e,C.bM p=some e→iK C.own e.1 e.2.2.length 1 (ints .i64 e.2.2)∧(∀i∈e.2.2,0≤i∧i<8*C.g.raw)∧e.2.2.length≤maxLen
 len:(C.next.length:Int)=C.g.bl
 next:∀x∈C.next,0≤x∧x≤C.g.pg
 left:0≤C.left∧C.left≤9223372036854775807
def bE(C:Cw):Cw:= { C with left:=if C.left=0 then 0 else C.left-1,up:=C.up&& !decide (C.left=1) }
end Cw
theorem aB.wC{C:Cw}(h:aB prog f args K (C.parts bc++F) post):aB prog f args K (C.A bc::F) post:=h.sat fun w hw=>hw.yJ
theorem jm{C:Cw}(hR:fH K F bc 0 C.cells):aK prog 93 #[ptr bc 0] K F (.i C.aC.ready):=by
 refine aB.en func93 ntmps93 ?_;refine aj "aute]g~BeS" ?_;refine WL.val (V.load isAgg4 (ak rfl) (fun _=>by repeat (first | exact Rd.here rfl | exact hR _ _ rfl | apply Rd.up))) rfl ?_;refine aj "*gH" (aW (fun aQ=> ?_) fun aQ=> ?_)
 ·try simp only[iC] at aQ
  refine aj "G;" ?_;unfold aD.ready Cw.aC;simp[*]
 ·try simp only[iC] at aQ
  refine aj "qG;" ?_;unfold aD.ready Cw.aC;simp[*]
theorem vw{C:Cw}(b:Int)(hR:fH K F bc 0 C.cells):aK prog 97 #[ptr bc 0,.i b] K F (.bool (C.aC.block b)):=by
 refine aB.en func97 ntmps97 ?_;refine aj "aj~ic!!~~D~[~[" ?_;refine WL.bI (oj:=_) rfl rfl rfl GC.t (V.load isAgg3 (OV.g rfl id) (fun _=>by repeat (first | exact Rd.here rfl | exact hR _ _ rfl | apply Rd.up))) rfl ?_;exact aj "~~qQd." trivial
theorem En{C:Cw}(b p:Int)(hR:fH K F bc 0 C.cells):aK prog 221 #[ptr bc 0,.i b,.i p] K F (.bool (C.aC.oG b p)):=by
 refine aB.en func221 ntmps221 ?_;refine aj "aY" ?_;refine WL.t2 call97 rfl rfl (vw b hR) rfl ?_;refine aj "c!~OQc!!~~D~[~[" ?_;refine WL.bI (oj:=_) rfl rfl rfl GC.t (V.load isAgg3 (OV.g rfl id) (fun _=>by repeat (first | exact Rd.here rfl | exact hR _ _ rfl | apply Rd.up))) rfl ?_;exact aj "~~qQd." trivial
theorem nP(v:Value)(b:Bool):aK prog 225 #[v,.bool b] K F (.i (aD.after b)):=by
 refine aB.en func225 ntmps225 ?_;refine aj "afi" (aW (fun aL=> ?_) fun aL=> ?_)
 ·try simp only[iC] at aL
  refine aj "G" ?_;exact qR F rfl rfl eO ⟨by simp[aD.after,aL],rfl⟩
 ·try simp only[iC] at aL
  refine aj "qG" ?_;exact qR F rfl rfl eO ⟨by simp[aD.after,aL],rfl⟩
theorem Ez{C:Cw}(hl:0≤C.left∧C.left≤9223372036854775807):aB prog 224 #[ptr bc 0] K (ah bc 165 C.cells::F) (fun v H'=>v= .bool C.aC.cut∧H'=ah bc 165 C.bE.cells::F):=by
 dsimp only[Cw.cells];refine aB.en func224 ntmps224 ?_;refine aj "af`o:i" (aW (fun aL=> ?_) fun aL=> ?_)
 ·simp only[iC] at aL;refine aj "G" ?_;refine qR (ah bc _ C.bE.cells::F) rfl rfl (fun w h=>Sat.aT h ?_) ⟨?_,rfl⟩
  ·simp[Cw.bE,aL]
  ·simp[aD.cut,Cw.aC,aL]
 ·simp only[iC] at aL;refine aj "U`o[S~pbr`o:i" (aW (fun aQ=> ?_) fun aQ=> ?_)
  ·simp only[iC] at aQ;have h1:C.left=1:=ay;refine aj "hS~pbe`o:d" ?_;refine qR (ah bc _ C.bE.cells::F) rfl rfl (fun w h=>Sat.aT h ?_) ⟨?_,rfl⟩
   ·simp[Cw.bE,oU,h1,aL]
   ·simp[aD.cut,Cw.aC,h1];try omega
  ·simp only[iC] at aQ;have h1:C.left≠1:=ay;refine aj "U`o:d" ?_;refine qR (ah bc _ C.bE.cells::F) rfl rfl (fun w h=>Sat.aT h ?_) ⟨?_,rfl⟩
   ·simp[Cw.bE,oU,h1,aL]
   ·simp[aD.cut,Cw.aC,h1];try omega
theorem Ij{C:Cw}(hm:C.g.aU)(hR:fH K F bc 0 C.cells):aB prog 222 #[ptr bc 0] K F (fun v H'=>∃b,v= .slice (some ⟨b,0,none⟩) C.g.raw.toNat C.g.raw.toNat∧H'=ah b 5 (ints .u8 (replicate C.g.raw.toNat 255))::F):=by
 have hr:=bQ.sS hm;refine aB.en func222 ntmps222 ?_;refine aj "ajS" ?_;refine WL.val (V.load isAgg3 (ak rfl) (fun _=>by repeat (first | exact Rd.here rfl | exact hR _ _ rfl | apply Rd.up))) rfl ?_;refine WL.nM (m:=C.g.raw.toNat) underlying34 yL (ak rfl) (ak rfl) ay ay ay rfl rfl rfl (fun b9=> ?_);refine aj "fkN" ?_;refine WC.loop (σ:=Nat) (fun i=>[(3,.slice (some ⟨b9,0,none⟩) C.g.raw.toNat C.g.raw.toNat),(11,.i (C.g.raw.toNat:Int)),(12,.i (i:Int))]) (fun i=>ah b9 5 (ints .u8 (replicate i 255++replicate (C.g.raw.toNat-i) 0))::F) (fun i=>i≤C.g.raw.toNat) (fun i=>C.g.raw.toNat-i) 0 (zero_le _) bC (fun w h=>Sat.aT h (by simp[ints])) ?_;rintro i hi;refine aj "TH" (aW (fun aL=> ?_) fun aL=> ?_)
 ·try simp only[iC] at aL
  refine aj "1gP~E" ?_;refine WL.store (cs:=[_]) sizeOf5 (ak rfl) (ak rfl) rfl rfl rfl (bT.at_ (by simp[ints];omega)) ?_;refine aj "b7" ?_;refine⟨i+1,(by show i+1≤_;omega),(by show C.g.raw.toNat-(i+1)<C.g.raw.toNat-i;omega),.cons rfl bC,fun w h=>Sat.aT h ?_⟩;rw[show 0+(i:Int).toNat*1=i by simp,ints_set,GR ay]
 ·try simp only[iC] at aL
  refine aj "Ked" ?_;obtain rfl:i=C.g.raw.toNat:=by omega
  refine qR (ah b9 _ _::F) rfl rfl (fun w h=>Sat.aT h ?_) ⟨b9,rfl,rfl⟩;simp
namespace Cw
def kF(C:Cw)(k:Int×Int)(e:Option Addr×Nat×List Int)(own:List aH):Cw:= { C with aX:=fun q=>if q=k then some e else C.aX q,own:=own }
def eG(C:Cw)(b x:Int):Cw:= { C with next:=C.next.set b.toNat x }
theorem Sy(C:Cw)(k:Int×Int)(e:Option Addr×Nat×List Int)(own:List aH):(C.kF k e own).kU=FT C.kU k (some (nW e)):=by
 funext q;show (if q=k then some e else C.aX q).map nW=if q=k then some (nW e) else (C.aX q).map nW
 split<;>rfl
theorem Ok.bE{C:Cw}(h:C.Ok):C.bE.Ok:=⟨h.aU,h.oG,h.wr,h.len,h.next,by
 have :=h.left;show 0≤(if C.left=0 then 0 else C.left-1)∧(if C.left=0 then 0 else C.left-1)≤9223372036854775807;split<;>omega⟩
theorem Ok.kF{C:Cw}(h:C.Ok){own:List aH}(nD:∀K w,Sat K w [bK own]→Sat K w [bK C.own])(h1:iK own e.1 e.2.2.length 1 (ints .u8 e.2.2))(h2:(e.2.2.length:Int)=C.g.raw)(h3:bF e.2.2) :
 (C.kF k e own).Ok:=by
 refine⟨h.aU,fun p e' hp=> ?_,fun p e' hp=>⟨(h.wr p e' hp).1.mono nD,(h.wr p e' hp).2⟩,h.len,h.next,h.left⟩;have BA:(if p=k then some e else C.aX p)=some e':=hp;split at BA
 ·injection BA with BA;subst BA;exact⟨h1,h2,h3⟩
 ·have :=h.oG p e' BA;exact⟨this.1.mono nD,this.2⟩
theorem Ok.eG{C:Cw}(h:C.Ok)(hx:0≤x∧x≤C.g.pg):(C.eG b x).Ok:=by
 refine⟨h.aU,h.oG,h.wr, ?_,fun y hy=> ?_,h.left⟩
 ·show ((C.next.set b.toNat x).length:Int)=C.g.bl;rw[length_set];exact h.len
 ·rcases mem_or_eq_of_mem_set hy with h1 | h1
  ·exact h.next y h1
  ·subst h1;exact hx
theorem Gr(C:Cw)(k:Int×Int)(e:Option Addr×Nat×List Int)(own:List aH):(C.kF k e own).aC= { C.aC with aX:=aD.DR C.aC.aX k (some e.2.2) }:=by
 unfold aC kF;simp only[aD.mk.injEq,true_and,and_true];funext q;show (if q=k then some e else C.aX q).map (·.2.2)=if q=k then some e.2.2 else (C.aX q).map (·.2.2)
 split<;>rfl
theorem rP(C:Cw)(b x:Int):(C.eG b x).aC= { C.aC with next:=C.aC.lH b x }:=rfl
theorem ag8(A:aH)(l:List aH):∀K w,Sat K w [bK (A::l)]→Sat K w [bK l]:=fun K w h=>Sat.all (l:=l) (H:=[]) h.yJ.tail
end Cw
theorem QZ{C:Cw}{bytes:List Int}(hvs:vs=ints .u8 bytes)(hn:bytes.length=C.g.raw.toNat)(Zk:nx=ints .i64 (C.next.set b.toNat x))
 (h:Sat K w (ah bc 165 C.cells::ah bo 5 vs::gD C.bp jw (FT C.kU (b,p) (some (.slice (some ⟨bo,0,none⟩) C.g.raw.toNat C.g.raw.toNat)))::gD C.bw jw C.oV::ah C.bn 3 nx
  :: gD C.bm vJ (nJ C.marked)::gD C.bk vJ (nJ C.dQ)::bK C.own::F)) :
 Sat K w (((C.kF (b,p) (some ⟨bo,0,none⟩,C.g.raw.toNat,bytes) (ah bo 5 (ints .u8 bytes)::C.own)).eG b x).A bc::F):=by
 subst hvs Zk;have h1:=(h.bg 8 [1,7,0,2,3,4,5,6] rfl).Bc;have h2:=h1.bg 7 [1,2,3,4,5,6,0] rfl;have e1:((C.kF (b,p) (some ⟨bo,0,none⟩,C.g.raw.toNat,bytes) (ah bo 5 (ints .u8 bytes)::C.own)).eG b x).kU=FT C.kU (b,p) (some (.slice (some ⟨bo,0,none⟩) C.g.raw.toNat C.g.raw.toNat)):=by
  refine (Cw.Sy C (b,p) (some ⟨bo,0,none⟩,C.g.raw.toNat,bytes) (ah bo 5 (ints .u8 bytes)::C.own)).trans ?_;unfold Cw.nW;rw[hn]
 refine Sat.all (l:=Cw.parts bc _) ?_;unfold Cw.parts;rw[e1];have e2:((C.kF (b,p) (some ⟨bo,0,none⟩,C.g.raw.toNat,bytes) (ah bo 5 (ints .u8 bytes)::C.own)).eG b x).cells=C.cells:=by
  unfold Cw.cells Cw.eG Cw.kF;simp
 rw[e2];exact h2
theorem aam{C:Cw}(hC:C.Ok){bytes:List Int}(hn:bytes.length=C.g.raw.toNat)(hb:bF bytes)(hx:0≤x∧x≤C.g.pg) :
 ((C.kF (b,p) (some ⟨bo,0,none⟩,C.g.raw.toNat,bytes) (ah bo 5 (ints .u8 bytes)::C.own)).eG b x).Ok:=by
 have hr:=bQ.sS hC.aU;refine Cw.Ok.eG (hC.kF (Cw.ag8 _ _) (iK.here fun K=>Seq.allI rfl) (by show (bytes.length:Int)=_;omega) hb) hx
theorem Nu{C:Cw}(hC:C.Ok)(b p:Int)(hx:bF xs)(hs:Seq K F B m 1 (ints .u8 xs))(kS:m≤cap) :
 aB prog 192 #[ptr bc 0,.i b,.i p,.slice B m cap] K (C.A bc::F)
  (fun v H'=>∃C':Cw,C'.Ok∧H'=C'.A bc::F∧C'.aC=(C.aC.program b p xs).1∧v= .i (C.aC.program b p xs).2):=by
 have hl:xs.length=m:=by simpa [ints] using hs.len
 have hlen:=hC.len;have alM:(C.bE.next.length:Int)=C.g.bl:=hC.len;have hm:=hC.aU;unfold bQ.aU at hm;have hr:=bQ.sS hC.aU;refine aB.wC ?_;dsimp only[Cw.parts,cons_append,nil_append];refine aB.en func192 ntmps192 ?_;refine aj "af" ?_;refine WL.t1 call93 rfl (jm (C:=C) wL) rfl ?_;refine aj "jsi" (aW (fun aL=> ?_) fun aL=> ?_)
 ·have nD:C.up=false:=by cases h:C.up<;>simp[aD.ready,Cw.aC,h] at aL ⊢
  refine aj "ed" ?_;have e1:C.aC.program b p xs=(C.aC,70):=by unfold aD.program;rw[if_pos (show C.aC.up=false from nD)]
  rw[e1];exact qR (C.A bc::F) rfl rfl (fun w h=>Sat.all (l:=C.parts bc) h) ⟨C,hC,rfl,rfl,by unfold aD.ready;rw[if_neg (by show ¬C.up=true;rw[nD];decide)]⟩
 ·have nD:C.up=true:=by cases h:C.up<;>simp[aD.ready,Cw.aC,h] at aL ⊢
  refine aj "1z" ?_;refine WL.t3 call221 rfl rfl rfl (En (C:=C) b p wL) rfl ?_;refine aj "*cV~DV~~r~5~b~VLgH" (aW (fun aQ=> ?_) fun aQ=> ?_)
  ·simp only[Gd] at aQ;have e1:C.aC.program b p xs=(C.aC,1):=by
    unfold aD.program;rw[if_neg (by show ¬C.up=false;rw[nD];decide),if_pos (by rw[hl];exact aQ)]
   refine aj "G" ?_;rw[e1];exact qR (C.A bc::F) rfl rfl (fun w h=>Sat.all (l:=C.parts bc) h) ⟨C,hC,rfl,rfl,rfl⟩
  ·simp only[Gd] at aQ;obtain⟨Py,KA⟩:=aQ;have Dt:0≤b∧b<C.g.bl∧0≤p∧p<C.g.pg:=by
    have h:=Py;simp only[aD.oG,aD.block,Bool.and_eq_true,decide_eq_true_eq] at h;exact⟨h.1.1.1,h.1.1.2,h.1.2,h.2⟩
   have hk:C.aC.kept m=min (max C.nG 0) m:=rfl;have Zk:0≤C.aC.nk b∧C.aC.nk b≤C.g.pg:=by
    have h1:C.aC.nk b=C.next.getD b.toNat 0:=rfl;have h2:b.toNat<C.next.length:=ay;rw[h1,getD,getElem?_eq_getElem h2];exact hC.next _ (getElem_mem h2)
   have Kz:(ints .i64 C.next)[0+b.toNat*1]? =some (.i (C.aC.nk b)):=by
    rw[Nat.zero_add,Nat.mul_one];exact tY _ _ ay
   refine aj "ec`oc~E" ?_;refine WL.val (V.load isAgg3 (ak rfl) (fun _=>by repeat (first | exact Rd.here Kz | apply Rd.up))) rfl ?_;refine aj "sgH" (aW (fun h2=> ?_) fun h2=> ?_)
   ·simp only[Gd] at h2;refine aj "G" ?_;have e1:C.aC.program b p xs=(C.aC,71):=by
     unfold aD.program;rw[if_neg (by show ¬C.up=false;rw[nD];decide),if_neg (by rw[hl,Py];rintro (h | h);cases h;exact h KA),if_pos h2]
    rw[e1];exact qR (C.A bc::F) rfl rfl (fun w h=>Sat.all (l:=C.parts bc) h) ⟨C,hC,rfl,rfl,rfl⟩
   ·simp only[Gd] at h2;refine aj "U" ?_;refine WL.c1 call222 rfl (Ij (C:=C) hC.aU wL) rfl ?_;rintro _ _ ⟨bo,rfl,rfl⟩;refine aj "j?" ?_;refine WL.c1 call224 rfl (Ez (C:=C) hC.left) rfl ?_;rintro _ _ ⟨rfl,rfl⟩;refine aj "utegH" (aW (fun h3=> ?_) fun h3=> ?_)
    ·refine aj "hz`o~~sck" ?_;refine WL.val (V.min (ak rfl) (ak rfl)) rfl ?_;refine WL.val (V.slice (h:=(C.aC.kept m).toNat) dO (ak rfl) OO.none (OO.some (ak rfl) (fun _=>by show min (max C.nG 0) (m:Int)=_;rw[hk];omega)) OO.none (by simp) (zero_le _) (by rw[hk];omega) (Nat.le_refl _)) rfl ?_;refine WL.yY dO (ak rfl) (ak rfl) (news:=ints .u8 (xs.take (C.aC.kept m).toNat)) (by rw[zK,←LY];exact Seq.take (by repeat (first | exact hs | apply Seq.up)) (by rw[hk];omega)) (by rw[hk];omega) (xI _ _) (bT.up (bT.front (by simp[ints];rw[hk];omega))) rfl ?_;refine aj "be`oz" ?_;refine WL.val (V.build (vs:=[(0,_),(1,_)]) ⟨ak rfl,ak rfl,trivial⟩ rfl (iT _ _)) rfl (WL.mv rfl rfl ?_);refine WL.u6 (k:=(_,_)) underlying161 zQ (ak rfl) (ak rfl) (ak rfl) (by repeat (first | exact p8.here | apply p8.up)) ?_;refine aj "be`oc~E" ?_;refine WL.val (V.load isAgg3 (ak rfl) (fun _=>by repeat (first | exact Rd.here Kz | apply Rd.up))) rfl ?_;refine aj "$~E" ?_;refine WL.store (cs:=[_]) sizeOf3 (ak rfl) (ak rfl) rfl rfl rfl (by repeat (first | exact bT.at_ (by rw[Nat.zero_add,Nat.mul_one,bR];omega) | apply bT.up)) ?_;refine aj "bec" ?_;refine WL.t2 call225 rfl rfl (nP _ _) rfl ?_;refine aj "d" ?_;have hn1:¬C.aC.up=false:=by show ¬C.up=false;rw[nD];decide
     have hn2:¬(C.aC.oG b p=false∨(xs.length:Int)≠C.aC.raw):=by rw[hl,Py];rintro (h | h);cases h;exact h KA
     have hn3:¬p≠C.aC.nk b:=by rw[h2];exact fun h=>h rfl
     have BI:C.aC.blank.length=C.g.raw.toNat:=length_replicate;cases wM:C.aC.cut with
     | true =>
      have e1:C.aC.program b p xs=({ C.aC.bE with aX:=aD.DR C.aC.bE.aX (b,p) (some (xs.take (C.aC.kept xs.length).toNat++C.aC.blank.drop (C.aC.kept xs.length).toNat)),next:=C.aC.bE.lH b (p+1) },70):=by
       unfold aD.program;rw[if_neg hn1,if_neg hn2,if_neg hn3,if_pos wM]
      rw[hl] at e1;rw[e1];have qC:(xs.take (C.aC.kept m).toNat++C.aC.blank.drop (C.aC.kept m).toNat).length=C.g.raw.toNat:=by
       rw[length_append,length_take,length_drop,BI,hl,hk];omega
      refine aF.ret (H':=Cw.A bc ((C.bE.kF (b,p) (some ⟨bo,0,none⟩,C.g.raw.toNat,xs.take (C.aC.kept m).toNat++C.aC.blank.drop (C.aC.kept m).toNat) (ah bo 5 (ints .u8 (xs.take (C.aC.kept m).toNat++C.aC.blank.drop (C.aC.kept m).toNat))::C.own)).eG b (p+1))::F)
       (bJ.tmp rfl rfl) (fun w h=>QZ (C:=C.bE) ?_ qC ?_ h) ⟨_,aam (C:=C.bE) hC.bE qC ((hx.take _).append ((bF.wJ ay).drop _)) (by show 0≤p+1∧p+1≤C.g.pg;omega),rfl, ?_, ?_⟩
      ·rw[gY,←K7,bR,length_take,hl,show min (C.aC.kept m).toNat m=(C.aC.kept m).toNat by rw[hk];omega];rfl
      ·rw[Nat.zero_add,Nat.mul_one,ints_set,←h2];rfl
      ·rw[Cw.rP,Cw.Gr];rfl
      ·rfl
     | false =>
      exfalso;exact Bool.noConfusion (h3.symm.trans wM)
    ·refine aj "e`oc" ?_;refine WL.val (V.aG (v':= .bool _) (V.lookup (k:=_) underlying163 zeroValue4 kl3 (ak rfl) (ak rfl) (fun _=>by repeat (first | exact J2.here | apply J2.up))) (fun _=>Ej _ _)) rfl ?_;refine aj "gH" (aW (fun h4=> ?_) fun h4=> ?_)
     ·refine aj "G" ?_;have e1:C.aC.program b p xs=(C.aC.bE,72):=by
       unfold aD.program;rw[if_neg (by show ¬C.up=false;rw[nD];decide),if_neg (by rw[hl,Py];rintro (h | h);cases h;exact h KA),if_neg (by rw[h2];exact fun h=>h rfl),if_neg (by rw[h3];decide),if_pos (show C.aC.dQ b=true from h4)]
      rw[e1];exact qR (C.bE.A bc::F) rfl rfl (fun w h=>Sat.all (l:=C.bE.parts bc) (h.bg 2 [0] rfl)) ⟨C.bE,hC.bE,rfl,rfl,rfl⟩
     ·refine aj "P" ?_;refine WL.yY dO (ak rfl) (ak rfl) (by repeat (first | exact hs | apply Seq.up)) ay (xI _ _) (bT.up (bT.front (by simp[ints];omega))) rfl ?_;refine aj "be`oz" ?_;refine WL.val (V.build (vs:=[(0,_),(1,_)]) ⟨ak rfl,ak rfl,trivial⟩ rfl (iT _ _)) rfl (WL.mv rfl rfl ?_);refine WL.u6 (k:=(_,_)) underlying161 zQ (ak rfl) (ak rfl) (ak rfl) (by repeat (first | exact p8.here | apply p8.up)) ?_;refine aj "be`oc~E" ?_;refine WL.val (V.load isAgg3 (ak rfl) (fun _=>by repeat (first | exact Rd.here Kz | apply Rd.up))) rfl ?_;refine aj "$~E" ?_;refine WL.store (cs:=[_]) sizeOf3 (ak rfl) (ak rfl) rfl rfl rfl (by repeat (first | exact bT.at_ (by rw[Nat.zero_add,Nat.mul_one,bR];omega) | apply bT.up)) ?_;refine aj "bec" ?_;refine WL.t2 call225 rfl rfl (nP _ _) rfl ?_;refine aj "d" ?_;have hn1:¬C.aC.up=false:=by show ¬C.up=false;rw[nD];decide
      have hn2:¬(C.aC.oG b p=false∨(xs.length:Int)≠C.aC.raw):=by rw[hl,Py];rintro (h | h);cases h;exact h KA
      have hn3:¬p≠C.aC.nk b:=by rw[h2];exact fun h=>h rfl
      have BI:C.aC.blank.length=C.g.raw.toNat:=length_replicate;cases wM:C.aC.cut with
      | true =>
       have e1:C.aC.program b p xs=({ C.aC.bE with aX:=aD.DR C.aC.bE.aX (b,p) (some (xs.take (C.aC.kept xs.length).toNat++C.aC.blank.drop (C.aC.kept xs.length).toNat)),next:=C.aC.bE.lH b (p+1) },70):=by
        unfold aD.program;rw[if_neg hn1,if_neg hn2,if_neg hn3,if_pos wM]
       exfalso;exact Bool.noConfusion (h3.symm.trans wM)
      | false =>
       have e1:C.aC.program b p xs=({ C.aC.bE with aX:=aD.DR C.aC.bE.aX (b,p) (some xs),next:=C.aC.bE.lH b (p+1) },0):=by
        unfold aD.program;rw[if_neg hn1,if_neg hn2,if_neg hn3,if_neg (by rw[wM];decide),if_neg (by rw[show C.aC.dQ b=false from h4];decide)]
       rw[e1];have qC:xs.length=C.g.raw.toNat:=ay;refine aF.ret (H':=Cw.A bc ((C.bE.kF (b,p) (some ⟨bo,0,none⟩,C.g.raw.toNat,xs) (ah bo 5 (ints .u8 xs)::C.own)).eG b (p+1))::F)
        (bJ.tmp rfl rfl) (fun w h=>QZ (C:=C.bE) ?_ qC ?_ h) ⟨_,aam (C:=C.bE) hC.bE qC hx (by show 0≤p+1∧p+1≤C.g.pg;omega),rfl, ?_, ?_⟩
       ·rw[K7,drop_eq_nil_of_le (by rw[bR,length_replicate];omega)];simp[ints]
       ·rw[Nat.zero_add,Nat.mul_one,ints_set,←h2];rfl
       ·rw[Cw.rP,Cw.Gr];rfl
       ·rfl
namespace Cw
def off(C:Cw):Cw:= { C with up:=false }
def mark(C:Cw)(b:Int):Cw:= { C with marked:=fun k=>if k=b then true else C.marked k }
variable{C:Cw}(h:C.Ok)
include h
theorem Ok.off:C.off.Ok:=⟨h.aU,h.oG,h.wr,h.len,h.next,h.left⟩
theorem Ok.mark:(C.mark b).Ok:=⟨h.aU,h.oG,h.wr,h.len,h.next,h.left⟩
end Cw
theorem V6{C:Cw}:aK prog 185 #[ptr bc 0] K (C.A bc::F) (.bool C.up):=by
 refine aB.wC ?_;dsimp only[Cw.parts,cons_append,nil_append];refine aB.en func185 ntmps185 ?_;refine aj "aj" ?_;refine WL.t1 call93 rfl (jm (C:=C) wL) rfl ?_;refine aj ":d" ?_;refine qR (C.A bc::F) rfl rfl (fun w h=>Sat.all (l:=C.parts bc) h) ⟨?_,rfl⟩;show Value.bool (decide ((if C.up then (0:Int) else 70)=0))=_;cases C.up<;>rfl
theorem Qh{C:Cw}(b:Int):aK prog 186 #[ptr bc 0,.i b] K (C.A bc::F) (.bool (C.aC.bad b)):=by
 refine aB.wC ?_;dsimp only[Cw.parts,cons_append,nil_append];refine aB.en func186 ntmps186 ?_;refine aj "aj" ?_;refine WL.t1 call93 rfl (jm (C:=C) wL) rfl ?_;refine aj ":c!~~D~[_!" ?_;refine WL.bI (oj:=_) rfl rfl rfl GC.t (V.aG (v':= .bool _) (V.lookup (k:=_) underlying163 zeroValue4 kl3 (OV.g rfl id) (OV.g rfl id) (fun _=>by repeat (first | exact J2.here | apply J2.up))) (fun _=>Ej _ _)) rfl ?_;refine aj "Qd" ?_;refine qR (C.A bc::F) rfl rfl (fun w h=>Sat.all (l:=C.parts bc) h) ⟨?_,rfl⟩;show Value.bool (decide ((if C.up then (0:Int) else 70)=0)&&C.marked b)=Value.bool (C.up&&C.marked b);cases C.up<;>rfl
theorem Kk{C:Cw}:aK prog 98 #[ptr bc 0] K (C.A bc::F) C.g.v:=by
 refine aB.wC ?_;dsimp only[Cw.parts,cons_append,nil_append];refine aB.en func98 ntmps98 ?_;refine aj "aw" fun b2=> ?_;refine aj "br]3USBE2" ?_;exact aF.ret (H':=C.A bc::F) (bJ.one rfl (R1.jQ (vs:=[_,_,_,_,_]) rfl ⟨isAgg23,sizeOf23⟩ rfl tN)) (fun w h=>Sat.all (l:=C.parts bc) h.tail) ⟨rfl,rfl⟩
theorem vV(f:Int×Int→Option Value)(b:Int)(i:Nat):FT (aD.bD f b i) (b,(i:Int)) none=aD.bD f b ((i+1:Nat):Int):=by unfold FT aD.bD;grind
theorem sw{α:Type}(f:Int×Int→Option α)(b:Int):aD.bD f b 0=f:=by unfold aD.bD;grind
namespace Cw
def bD(C:Cw)(b n:Int):Cw:= { C with aX:=aD.bD C.aX b n,bM:=aD.bD C.bM b n }
theorem Bo{α β:Type}(f:Int×Int→Option α)(g:α→β)(b n:Int):(fun p=>(aD.bD f b n p).map g)=aD.bD (fun p=>(f p).map g) b n:=by grind [aD.bD]
theorem rU(C:Cw)(b n:Int):(C.bD b n).kU=aD.bD C.kU b n:=Bo C.aX nW b n
theorem rO(C:Cw)(b n:Int):(C.bD b n).oV=aD.bD C.oV b n:=Bo C.bM nW b n
theorem tT(C:Cw)(b n:Int):(C.bD b n).aC= { C.aC with aX:=aD.bD C.aC.aX b n,bM:=aD.bD C.aC.bM b n }:=by simp_all [aC,bD,Bo]
theorem Ok.bD{C:Cw}(h:C.Ok)(b n:Int):(C.bD b n).Ok:=by
 have hd:∀ {α:Type} (f:Int×Int→Option α) p e,aD.bD f b n p=some e→f p=some e:=fun f p e he=>by
  unfold aD.bD at he;split at he
  ·cases he
  ·exact he
 exact⟨h.aU,fun p e he=>h.oG p e (hd _ p e he),fun p e he=>h.wr p e (hd _ p e he),h.len,h.next,h.left⟩
end Cw
theorem SE{C:Cw}(hC:C.Ok)(b:Int) :
 aB prog 172 #[ptr bc 0,.i b] K (C.A bc::F)
  (fun v H'=>∃C':Cw,C'.Ok∧H'=C'.A bc::F∧C'.aC=(C.aC.erase b).1∧v= .i (C.aC.erase b).2):=by
 have hlen:=hC.len;have alM:(C.bE.next.length:Int)=C.g.bl:=hC.len;have hm:=hC.aU;unfold bQ.aU at hm;refine aB.wC ?_;dsimp only[Cw.parts,cons_append,nil_append];refine aB.en func172 ntmps172 ?_;refine aj "af" ?_;refine WL.t1 call93 rfl (jm (C:=C) wL) rfl ?_;refine aj "jsi" (aW (fun aL=> ?_) fun aL=> ?_)
 ·have nD:C.up=false:=by cases h:C.up<;>simp[aD.ready,Cw.aC,h] at aL ⊢
  refine aj "ed" ?_;have e1:C.aC.erase b=(C.aC,70):=by unfold aD.erase;rw[if_pos (show C.aC.up=false from nD)]
  rw[e1];exact qR (C.A bc::F) rfl rfl (fun w h=>Sat.all (l:=C.parts bc) h) ⟨C,hC,rfl,rfl,by unfold aD.ready;rw[if_neg (by show ¬C.up=true;rw[nD];decide)]⟩
 ·have nD:C.up=true:=by cases h:C.up<;>simp[aD.ready,Cw.aC,h] at aL ⊢
  refine aj "qrc" ?_;refine WL.t2 call97 rfl rfl (vw (C:=C) b wL) rfl ?_;refine aj "*i" (aW (fun aQ=> ?_) fun aQ=> ?_)
  ·simp only[Gd] at aQ;refine aj "G" ?_;have e1:C.aC.erase b=(C.aC,1):=by unfold aD.erase;rw[if_neg (by show ¬C.up=false;rw[nD];decide),if_pos aQ]
   rw[e1];exact qR (C.A bc::F) rfl rfl (fun w h=>Sat.all (l:=C.parts bc) h) ⟨C,hC,rfl,rfl,rfl⟩
  ·simp only[Gd] at aQ;have BI:0≤b∧b<C.g.bl:=by
    have h:=aQ;simp only[aD.block,Bool.and_eq_true,decide_eq_true_eq] at h;exact h
   refine aj "USoj" ?_;refine WL.c1 call224 rfl (Ez (C:=C) hC.left) rfl ?_;rintro _ _ ⟨rfl,rfl⟩;refine aj "utegH" (aW (fun h2=> ?_) fun h2=> ?_)
   ·refine aj "h`o~~sc" ?_;refine WL.val (V.min (ak rfl) (ak rfl)) rfl (aj "uM" ?_);refine WC.abO (α:=Int×List Int) (fun x=>0≤x.1∧x.1≤C.g.pg∧((C.aC.cut=true∧x.1=C.aC.kept C.g.pg∧x.2=C.next)∨(C.aC.cut=false∧C.aC.dQ b=false∧x.1=C.g.pg∧x.2=C.next.set b.toNat 0))) (fun x=>[(0,ptr bc 0),(1,.i b),(6,.i x.1),(7,.bool C.aC.cut)]) (fun x=>ah bc 165 C.bE.cells::gD C.bp jw C.kU::gD C.bw jw C.oV::ah C.bn 3 (ints .i64 x.2)::gD C.bm vJ (nJ C.marked)::gD C.bk vJ (nJ C.dQ)::bK C.own::F) (C.aC.kept C.g.pg,C.next) ⟨by show 0≤min (max C.nG 0) C.g.pg;omega,by show min (max C.nG 0) C.g.pg≤C.g.pg;omega,.inl ⟨h2,rfl,rfl⟩⟩ bC cO (fun x hx=> ?_);obtain⟨n,nx⟩:=x;obtain⟨hn0,hn1,hx⟩:=hx;dsimp only at hn0 hn1 hx ⊢;refine aj "hN" ?_;refine WC.loop (σ:=Nat) (fun i=>[(0,ptr bc 0),(1,.i b),(7,.bool C.aC.cut),(47,.i n),(48,.i (i:Int))]) (fun i=>ah bc 165 C.bE.cells::gD C.bp jw (aD.bD C.kU b i)::gD C.bw jw (aD.bD C.oV b i)::ah C.bn 3 (ints .i64 nx)::gD C.bm vJ (nJ C.marked)::gD C.bk vJ (nJ C.dQ)::bK C.own::F) (fun i=>(i:Int)≤n) (fun i=>n.toNat-i) 0 (by show ((0:Nat):Int)≤n;omega) bC (fun w h=>by rw[show ((0:Nat):Int)=0 from rfl,sw,sw];exact h) ?_;rintro i hi;refine aj "TH" (aW (fun mQ=> ?_) fun mQ=> ?_)
    ·try simp only[iC] at mQ
     refine aj "1j`oz" ?_;refine WL.val (V.build (vs:=[(0,_),(1,_)]) ⟨ak rfl,ak rfl,trivial⟩ rfl (iT _ _)) rfl ?_;refine WL.Ck (k:=(_,_)) underlying161 zQ (ak rfl) (ak rfl) (by repeat (first | exact p8.here | apply p8.up)) ?_;refine aj "bh`oz" ?_;refine WL.val (V.build (vs:=[(0,_),(1,_)]) ⟨ak rfl,ak rfl,trivial⟩ rfl (iT _ _)) rfl ?_;refine WL.Ck (k:=(_,_)) underlying162 zQ (ak rfl) (ak rfl) (by repeat (first | exact p8.here | apply p8.up)) ?_;refine aj "b7" ?_;refine⟨i+1,(by show ((i+1:Nat):Int)≤n;omega),(by show n.toNat-(i+1)<n.toNat-i;omega),.cons rfl bC,fun w h=> ?_⟩;rw[vV,vV] at h;exact h
    ·try simp only[iC] at mQ
     refine aj "Kec" ?_;refine WL.t2 call225 rfl rfl (nP _ _) rfl ?_;refine aj "d" ?_;obtain rfl:n=(i:Int):=by omega
     have hu:¬C.aC.up=false:=by show ¬C.up=false;rw[nD];decide
     have wE:¬C.aC.block b=false:=by rw[aQ];decide
     rcases hx with ⟨wM,hn,rfl⟩ | ⟨wM,hw,hn,rfl⟩
     ·have e1:C.aC.erase b=({ C.aC.bE with aX:=aD.bD C.aC.bE.aX b i,bM:=aD.bD C.aC.bE.bM b i },70):=by
       unfold aD.erase;rw[if_neg hu,if_neg wE,if_pos wM,hn];rfl
      rw[e1,wM];refine qR ((C.bE.bD b i).A bc::F) rfl rfl (fun w h=>Sat.all (l:=(C.bE.bD b i).parts bc) ?_) ⟨_,hC.bE.bD b i,rfl,Cw.tT _ _ _,rfl⟩;unfold Cw.parts;rw[Cw.rU,Cw.rO];exact h
     ·have e1:C.aC.erase b=({ C.aC.bE with aX:=aD.bD C.aC.bE.aX b i,bM:=aD.bD C.aC.bE.bM b i,next:=C.aC.bE.lH b 0 },0):=by
       unfold aD.erase;rw[if_neg hu,if_neg wE,if_neg (by rw[wM];decide),if_neg (by rw[hw];decide),hn];rfl
      rw[e1,wM];refine qR (((C.bE.bD b i).eG b 0).A bc::F) rfl rfl (fun w h=>Sat.all (l:=((C.bE.bD b i).eG b 0).parts bc) ?_) ⟨_,(hC.bE.bD b i).eG (by show (0:Int)≤0∧0≤C.g.pg;omega),rfl, ?_,rfl⟩
      ·unfold Cw.parts;rw[show ((C.bE.bD b i).eG b 0).kU=_ from Cw.rU C.bE b i,show ((C.bE.bD b i).eG b 0).oV=_ from Cw.rO C.bE b i];have e2:((C.bE.bD b i).eG b 0).cells=C.bE.cells:=by
        unfold Cw.cells Cw.eG Cw.bD;simp
       rw[e2];exact h
      ·rw[Cw.rP,Cw.tT];rfl
   ·refine aj "e`oc" ?_;refine WL.val (V.aG (v':= .bool _) (V.lookup (k:=_) underlying163 zeroValue4 kl3 (ak rfl) (ak rfl) (fun _=>by repeat (first | exact J2.here | apply J2.up))) (fun _=>Ej _ _)) rfl ?_;refine aj "gH" (aW (fun h3=> ?_) fun h3=> ?_)
    ·refine aj "G" ?_;have e1:C.aC.erase b=(C.aC.bE,72):=by unfold aD.erase;rw[if_neg (by show ¬C.up=false;rw[nD];decide),if_neg (by rw[aQ];decide),if_neg (by rw[h2];decide),if_pos (show C.aC.dQ b=true from h3)]
     rw[e1];exact qR (C.bE.A bc::F) rfl rfl (fun w h=>Sat.all (l:=C.bE.parts bc) h) ⟨C.bE,hC.bE,rfl,rfl,rfl⟩
    ·refine aj "h`oc~E" ?_;refine WL.store (cs:=[_]) sizeOf3 (ak rfl) (ak rfl) rfl rfl rfl (by repeat (first | exact bT.at_ (by rw[Nat.zero_add,Nat.mul_one,bR];omega) | apply bT.up)) ?_;refine aj "FM" ?_;refine WC.abO (α:=Int×List Int) (fun x=>0≤x.1∧x.1≤C.g.pg∧((C.aC.cut=true∧x.1=C.aC.kept C.g.pg∧x.2=C.next)∨(C.aC.cut=false∧C.aC.dQ b=false∧x.1=C.g.pg∧x.2=C.next.set b.toNat 0))) (fun x=>[(0,ptr bc 0),(1,.i b),(6,.i x.1),(7,.bool C.aC.cut)]) (fun x=>ah bc 165 C.bE.cells::gD C.bp jw C.kU::gD C.bw jw C.oV::ah C.bn 3 (ints .i64 x.2)::gD C.bm vJ (nJ C.marked)::gD C.bk vJ (nJ C.dQ)::bK C.own::F) (C.g.pg,C.next.set b.toNat 0) ⟨by omega,Int.le_refl _,.inr ⟨h2,h3,rfl,rfl⟩⟩ bC (fun w h=>by rw[Nat.zero_add,Nat.mul_one,ints_set] at h;exact h) (fun x hx=> ?_);obtain⟨n,nx⟩:=x;obtain⟨hn0,hn1,hx⟩:=hx;dsimp only at hn0 hn1 hx ⊢;refine aj "hN" ?_;refine WC.loop (σ:=Nat) (fun i=>[(0,ptr bc 0),(1,.i b),(7,.bool C.aC.cut),(47,.i n),(48,.i (i:Int))]) (fun i=>ah bc 165 C.bE.cells::gD C.bp jw (aD.bD C.kU b i)::gD C.bw jw (aD.bD C.oV b i)::ah C.bn 3 (ints .i64 nx)::gD C.bm vJ (nJ C.marked)::gD C.bk vJ (nJ C.dQ)::bK C.own::F) (fun i=>(i:Int)≤n) (fun i=>n.toNat-i) 0 (by show ((0:Nat):Int)≤n;omega) bC (fun w h=>by rw[show ((0:Nat):Int)=0 from rfl,sw,sw];exact h) ?_;rintro i hi;refine aj "TH" (aW (fun mQ=> ?_) fun mQ=> ?_)
     ·try simp only[iC] at mQ
      refine aj "1j`oz" ?_;refine WL.val (V.build (vs:=[(0,_),(1,_)]) ⟨ak rfl,ak rfl,trivial⟩ rfl (iT _ _)) rfl ?_;refine WL.Ck (k:=(_,_)) underlying161 zQ (ak rfl) (ak rfl) (by repeat (first | exact p8.here | apply p8.up)) ?_;refine aj "bh`oz" ?_;refine WL.val (V.build (vs:=[(0,_),(1,_)]) ⟨ak rfl,ak rfl,trivial⟩ rfl (iT _ _)) rfl ?_;refine WL.Ck (k:=(_,_)) underlying162 zQ (ak rfl) (ak rfl) (by repeat (first | exact p8.here | apply p8.up)) ?_;refine aj "b7" ?_;refine⟨i+1,(by show ((i+1:Nat):Int)≤n;omega),(by show n.toNat-(i+1)<n.toNat-i;omega),.cons rfl bC,fun w h=> ?_⟩;rw[vV,vV] at h;exact h
     ·try simp only[iC] at mQ
      refine aj "Kec" ?_;refine WL.t2 call225 rfl rfl (nP _ _) rfl ?_;refine aj "d" ?_;obtain rfl:n=(i:Int):=by omega
      have hu:¬C.aC.up=false:=by show ¬C.up=false;rw[nD];decide
      have wE:¬C.aC.block b=false:=by rw[aQ];decide
      rcases hx with ⟨wM,hn,rfl⟩ | ⟨wM,hw,hn,rfl⟩
      ·have e1:C.aC.erase b=({ C.aC.bE with aX:=aD.bD C.aC.bE.aX b i,bM:=aD.bD C.aC.bE.bM b i },70):=by
        unfold aD.erase;rw[if_neg hu,if_neg wE,if_pos wM,hn];rfl
       rw[e1,wM];refine qR ((C.bE.bD b i).A bc::F) rfl rfl (fun w h=>Sat.all (l:=(C.bE.bD b i).parts bc) ?_) ⟨_,hC.bE.bD b i,rfl,Cw.tT _ _ _,rfl⟩;unfold Cw.parts;rw[Cw.rU,Cw.rO];exact h
      ·have e1:C.aC.erase b=({ C.aC.bE with aX:=aD.bD C.aC.bE.aX b i,bM:=aD.bD C.aC.bE.bM b i,next:=C.aC.bE.lH b 0 },0):=by
        unfold aD.erase;rw[if_neg hu,if_neg wE,if_neg (by rw[wM];decide),if_neg (by rw[hw];decide),hn];rfl
       rw[e1,wM];refine qR (((C.bE.bD b i).eG b 0).A bc::F) rfl rfl (fun w h=>Sat.all (l:=((C.bE.bD b i).eG b 0).parts bc) ?_) ⟨_,(hC.bE.bD b i).eG (by show (0:Int)≤0∧0≤C.g.pg;omega),rfl, ?_,rfl⟩
       ·unfold Cw.parts;rw[show ((C.bE.bD b i).eG b 0).kU=_ from Cw.rU C.bE b i,show ((C.bE.bD b i).eG b 0).oV=_ from Cw.rO C.bE b i];have e2:((C.bE.bD b i).eG b 0).cells=C.bE.cells:=by
         unfold Cw.cells Cw.eG Cw.bD;simp
        rw[e2];exact h
       ·rw[Cw.rP,Cw.tT];rfl
theorem SH{C:Cw}{b:Nat}(h2:Rd K F (some ⟨b2,0,none⟩) (ptr bc 0))(h3:Rd K F (some ⟨b3,0,none⟩) (.i k)):aB prog 230 #[ptr b2 0,ptr b3 0] K (C.A bc::F) (fun v H'=>H'=(C.mark k).A bc::F):=by
 refine aB.wC ?_;dsimp only[Cw.parts,cons_append,nil_append];refine aB.en func230 ntmps230 ?_;refine WC.dM F (by kernel_rfl) ?_;refine WA.t 0 rfl (V.load isAgg27 (ak rfl) (fun _=>h2)) ?_;refine aj "~a102" ?_;refine WA.t 4 rfl (V.load isAgg3 (ak rfl) (fun _=>h3)) ?_;refine aj "n3<bn5" ?_;refine WL.u6 (k:=_) underlying163 kl3 (ak rfl) (ak rfl) (ak rfl) (by repeat (first | exact p8.here | apply p8.up)) ?_;refine aj "bO" ?_;exact aF.ret (H':=(C.mark k).A bc::F) (bJ.none rfl) (fun w h=>Sat.all (l:=(C.mark k).parts bc) (by rw[KO] at h;exact h)) rfl
theorem Rv{C:Cw}(hC:C.Ok){caps:List Value}(hf:bP prog f)(hdo:aB prog f caps.toArray K (C.bE.A bc::F) (fun v H'=>H'=C1.A bc::F)) :
 aB prog 159 #[ptr bc 0,.func (.func f) #[] caps.toArray] K (C.A bc::F) (fun v H'=>v= .i (aD.after C.aC.cut)∧H'=(if !C.aC.cut||decide (0<C.nG) then C1 else C.bE).A bc::F):=by
 refine aB.wC ?_;dsimp only[Cw.parts,cons_append,nil_append];refine aB.en func159 ntmps159 ?_;refine aj "aj" ?_;refine WL.c1 call224 rfl (Ez (C:=C) hC.left) rfl ?_;rintro _ _ ⟨rfl,rfl⟩;refine aj "f*cV~~r~5~b~mLi" (aW (fun h0=> ?_) fun h0=> ?_)
 ·refine aj "h" ?_;refine WL.sub (Sub.refl _) (fun w h=>Sat.all (l:=C.bE.parts bc) h) ?_;refine WL.ny (first:=[]) (captured:=caps) (vs:=[]) hf (ak rfl) trivial hdo rfl ?_;rintro _ _ rfl;refine aj "bec" ?_;refine WL.t2 call225 rfl rfl (nP _ _) rfl ?_;refine aj "d" ?_;exact qR (C1.A bc::F) rfl rfl cO ⟨rfl,by rw[if_pos (show (!C.aC.cut||decide (0<C.nG))=true from h0)]⟩
 ·refine aj "Uc" ?_;refine WL.t2 call225 rfl rfl (nP _ _) rfl ?_;refine aj "d" ?_;exact qR (C.bE.A bc::F) rfl rfl (fun w h=>Sat.all (l:=C.bE.parts bc) h) ⟨rfl,by rw[if_neg (show ¬(!C.aC.cut||decide (0<C.nG))=true by rw[show (!C.aC.cut||decide (0<C.nG))=false from h0];decide)]⟩
theorem ae0{c:Bool}{C1:Cw}(h1:C1.aC=S1)(h2:C2.aC=S2):(if c then C1 else C2).aC=if c then S1 else S2:=by cases c<;>simp[h1,h2]
theorem Z7{c:Bool}{C1:Cw}(h1:C1.Ok)(h2:C2.Ok):(if c then C1 else C2).Ok:=by cases c<;>simp[h1,h2]
theorem XZ{C:Cw}(hC:C.Ok)(b:Int) :
 aB prog 173 #[ptr bc 0,.i b] K (C.A bc::F)
  (fun v H'=>∃C':Cw,C'.Ok∧H'=C'.A bc::F∧C'.aC=(C.aC.mark b).1∧v= .i (C.aC.mark b).2):=by
 refine aB.wC ?_;dsimp only[Cw.parts,cons_append,nil_append];refine aB.en func173 ntmps173 ?_;refine aj "a~h" fun b2=> ?_;refine aj "~h" fun b3=> ?_;refine aj "ua<" ?_;refine WL.t1 call93 rfl (jm (C:=C) wL) rfl ?_;refine aj "jsi" (aW (fun aL=> ?_) fun aL=> ?_)
 ·have nD:C.up=false:=by cases h:C.up<;>simp[aD.ready,Cw.aC,h] at aL ⊢
  refine aj "ed" ?_;have e1:C.aC.mark b=(C.aC,70):=by unfold aD.mark;rw[if_pos (show C.aC.up=false from nD)]
  rw[e1];exact qR (C.A bc::F) rfl rfl (fun w h=>Sat.all (l:=C.parts bc) h.tail.tail) ⟨C,hC,rfl,rfl,by unfold aD.ready;rw[if_neg (by show ¬C.up=true;rw[nD];decide)]⟩
 ·have nD:C.up=true:=by cases h:C.up<;>simp[aD.ready,Cw.aC,h] at aL ⊢
  refine aj ",a<<" ?_;refine WL.t2 call97 rfl rfl (vw (C:=C) b wL) rfl ?_;refine aj "*i" (aW (fun aQ=> ?_) fun aQ=> ?_)
  ·simp only[Gd] at aQ;refine aj "G" ?_;have e1:C.aC.mark b=(C.aC,1):=by unfold aD.mark;rw[if_neg (by show ¬C.up=false;rw[nD];decide),if_pos aQ]
   rw[e1];exact qR (C.A bc::F) rfl rfl (fun w h=>Sat.all (l:=C.parts bc) h.tail.tail) ⟨C,hC,rfl,rfl,rfl⟩
  ·simp only[Gd] at aQ;refine aj "9<~~d" ?_;refine WL.sub (Sub.refl _) (fun w h=>Sat.all (l:=C.parts bc) (h.bg 9 [2,3,4,5,6,7,8,0,1] rfl)) ?_;refine WL.c2 call159 rfl rfl (Rv (caps:=[ptr b2 0,ptr b3 0]) (C1:=C.bE.mark b) hC call230 (SH (b:=0) lD lD)) rfl ?_;rintro _ _ ⟨rfl,rfl⟩;refine aj "d" ?_;have e1:C.aC.mark b=C.aC.all fun T=> { T with marked:=fun k=>if k=b then true else T.marked k }:=by unfold aD.mark;rw[if_neg (by show ¬C.up=false;rw[nD];decide),if_neg (by rw[aQ];decide)]
   rw[e1];exact qR ((if !C.aC.cut||decide (0<C.nG) then C.bE.mark b else C.bE).A bc::F) rfl rfl (fun w h=>h.bg 3 [0] rfl) ⟨_,Z7 hC.bE.mark hC.bE,rfl,ae0 rfl rfl,rfl⟩
def adF(x k:Int):Int:=((x.toNat ^^^ 2^k.toNat:Nat):Int)
def Oq(ys:List Int)(i:Int):List Int:=ys.set (i/8).toNat (adF (ys.getD (i/8).toNat 0) (i%8))
def turn(xs l:List Int):List Int:=l.foldl Oq xs
theorem HY(hx:0≤x∧x<256)(hk:0≤k∧k<8):bitsOf .xor .u8 x (IntKind.u8.wrap (1*2^(min k.toNat IntKind.u8.bits)))=adF x k∧0≤adF x k∧adF x k<256:=by
 have h:((List.range 256).all fun a=>(List.range 8).all fun j=>decide (bitsOf .xor .u8 (a:Int) (IntKind.u8.wrap (1*2^(min j IntKind.u8.bits)))=adF a j)&&decide (0≤adF a j)&&decide (adF a j<256))=true:=by kernel_rfl
 have h1:=all_eq_true.1 h x.toNat (mem_range.2 ay);have h2:=all_eq_true.1 h1 k.toNat (mem_range.2 ay);simp only[Bool.and_eq_true,decide_eq_true_eq] at h2;rw[show ((x.toNat:Nat):Int)=x by omega,show ((k.toNat:Nat):Int)=k by omega] at h2;exact⟨h2.1.1,h2.1.2,h2.2⟩
theorem Cn(ys:List Int)(i:Int):(Oq ys i).length=ys.length:=by simp[Oq]
theorem mO:∀(l xs:List Int),(turn xs l).length=xs.length
 | [],_=>rfl
 | i::l,xs=>by rw[turn,foldl_cons,←turn,mO l,Cn]
theorem WI{i:Int}(h:bF ys)(hi:0≤i∧i<8*ys.length):bF (Oq ys i):=fun x hx=>by
 rcases mem_or_eq_of_mem_set hx with h1 | rfl
 ·exact h x h1
 ·have o7:(i/8).toNat<ys.length:=by omega
  rw[getD,getElem?_eq_getElem o7];exact (HY (h _ (getElem_mem o7)) ay).2
theorem IQ:∀ {l xs:List Int},bF xs→(∀i∈l,0≤i∧i<8*(xs.length:Int))→bF (turn xs l)
 | [],_,h,_=>h
 | i::l,xs,h,hi=>by
  rw[turn,foldl_cons,←turn];exact IQ (WI h (hi i (.head _))) (fun j hj=>by rw[Cn];exact hi j (.tail _ hj))
theorem YB{l:List Int}(h:j<l.length):turn xs (l.take (j+1))=Oq (turn xs (l.take j)) (l.getD j 0):=by
 rw[take_add_one,getElem?_eq_getElem h,turn,turn,foldl_append];simp[getD,h]
theorem KP(hx:bF xs)(hs:Seq K F A m 1 (ints .u8 xs))(hl:Seq K F B q 1 (ints .i64 l))(hi:∀i∈l,0≤i∧i<8*(xs.length:Int))(hmx:m≤100000)(hq:q≤maxLen) :
 aB prog 223 #[.slice A m cap,.slice B q cap'] K F (fun v H'=>∃b,v= .tuple #[.slice (some ⟨b,0,none⟩) m m,.i 0]∧H'=ah b 5 (ints .u8 (turn xs l))::F):=by
 have uI:xs.length=m:=by simpa [ints] using hs.len
 have hll:l.length=q:=by simpa [ints] using hl.len
 have hq':q≤9223372036854775807:=by simpa [maxLen] using hq
 refine aB.en func223 ntmps223 ?_;refine aj "aljk" ?_;refine WL.nM (m:=m) underlying34 yL (ak rfl) (ak rfl) rfl rfl ay rfl rfl rfl (fun b6=> ?_);refine aj "Y" ?_;refine WL.yY dO (ak rfl) (ak rfl) (by repeat (first | exact hs | apply Seq.up)) (Nat.le_refl _) (xI _ _) (bT.front (by simp[ints];omega)) rfl ?_;refine aj "brkN" ?_;refine WC.loop (σ:=Nat) (fun j=>[(0,.slice A m cap),(6,.slice (some ⟨b6,0,none⟩) m m),(15,.slice B q cap'),(16,.i (q:Int)),(17,.i (j:Int))]) (fun j=>ah b6 5 (ints .u8 (turn xs (l.take j)))::F) (fun j=>j≤q) (fun j=>q-j) 0 (zero_le _) bC (fun w h=>Sat.aT h (by rw[drop_eq_nil_of_le (by simp[ints];omega)];simp[turn])) ?_;rintro j hj;refine aj "TH" (aW (fun aL=> ?_) fun aL=> ?_)
 ·try simp only[iC] at aL
  refine aj "Ia" ?_;refine WL.val (V.dw eB (ak rfl) (ak rfl) (fun hc=>by omega) (fun hc=>by repeat (first | exact Seq.dD hl ay | apply Rd.up))) rfl ?_;refine WL.val (V.load isAgg3 (ak rfl) (fun hc=>by repeat (first | exact Seq.dD hl ay | apply Rd.up))) rfl ?_;refine aj "uM" ?_;have hjq:j<q:=ay;have ZI:0≤l.getD j 0∧l.getD j 0<8*(xs.length:Int):=by
   rw[getD,getElem?_eq_getElem ay];exact hi _ (getElem_mem _)
  rw[show (j:Int).toNat=j by omega];refine aj "h4cVV~D~~~r~~RLb" ?_;refine WC.ni rfl ((by simp only[Bool.or_eq_false_iff,decide_eq_false_iff_not];omega)) ?_;refine WC.skip ?_;refine WC.dM F (by kernel_rfl) ?_;refine aj "m0m1" ?_;refine WA.t 2 rfl (V.aeC (ak rfl) (ak rfl) (fun hc=>by omega)) ?_;refine aj "~c3m5" ?_;refine WA.t 6 rfl (V.Av (ak rfl) (ak rfl) Jy) ?_;refine aj "~~*7n4" ?_;refine WL.val (V.load isAgg5 (ak rfl) (fun _=>Rd.here (v:= .int .u8 ((turn xs (l.take j)).getD (l.getD j 0/8).toNat 0)) (by rw[Nat.zero_add,Nat.mul_one];exact tY _ _ (by rw[mO];omega)))) rfl ?_;refine WL.nil (WA.t 8 rfl (V.xor (ak rfl) (ak rfl)) ?_);refine WA.t 9 rfl (V.FW dO (ak rfl) (ak rfl) Jy) ?_;refine WA.o 10 rfl ?_;refine WL.store (cs:=[_]) sizeOf5 (ak rfl) (ak rfl) rfl rfl rfl (bT.at_ (by rw[Nat.zero_add,Nat.mul_one,bR,mO];omega)) ?_;refine aj "bO7" ?_;refine⟨j+1,(by show j+1≤q;omega),(by show q-(j+1)<q-j;omega),.cons rfl bC,fun w h=>Sat.aT h ?_⟩;have hib:=IQ (xs:=xs) (l:=l.take j) hx (fun i h=>hi i (mem_of_mem_take h));have o7:(l.getD j 0/8).toNat<(turn xs (l.take j)).length:=by rw[mO];omega
  rw[YB ay,Nat.zero_add,Nat.mul_one,(HY (x:=(turn xs (l.take j)).getD (l.getD j 0/8).toNat 0) (by rw[getD,getElem?_eq_getElem o7];exact hib _ (getElem_mem o7)) ay).1,ints_set];rfl
 ·try simp only[iC] at aL
  refine aj "KeC" ?_;obtain rfl:j=q:=by omega
  refine aF.ret (H':=ah b6 _ _::F) (bJ.eU rfl rfl rfl) (fun w h=>Sat.aT h ?_) ⟨b6,rfl,rfl⟩;rw[take_of_length_le ay]
def aD.gU(S:aD)(b p:Int):Int:=if S.up=false then 70 else if S.oG b p=false then 1 else 0
def aD.reads(S:aD)(b p:Int):List Int:=turn ((S.aX (b,p)).getD S.blank) ((S.bM (b,p)).getD [])
theorem Cw.Ok.Le{C:Cw}(hC:C.Ok)(b p:Int):(C.aC.reads b p).length=C.g.raw.toNat:=by
 have hr:=bQ.sS hC.aU;unfold aD.reads;rw[mO];have h1:C.aC.aX (b,p)=(C.aX (b,p)).map (·.2.2):=rfl;rw[h1];cases h:C.aX (b,p) with
 | none=>exact length_replicate
 | some e=>have :=(hC.oG _ e h).2.1;simp;omega
theorem Cw.Ok.OP{C:Cw}(hC:C.Ok)(b p:Int):bF ((C.aC.aX (b,p)).getD C.aC.blank):=by
 have h1:C.aC.aX (b,p)=(C.aX (b,p)).map (·.2.2):=rfl;rw[h1];cases h:C.aX (b,p) with
 | none=>exact bF.wJ ay
 | some e=>exact (hC.oG _ e h).2.2
theorem Cw.Ok.aci{C:Cw}(hC:C.Ok)(b p:Int):(((C.aC.aX (b,p)).getD C.aC.blank).length:Int)=C.g.raw:=by
 have hr:=bQ.sS hC.aU;have h1:C.aC.aX (b,p)=(C.aX (b,p)).map (·.2.2):=rfl;rw[h1];cases h:C.aX (b,p) with
 | none =>
  show ((replicate C.g.raw.toNat 255).length:Int)=C.g.raw;rw[length_replicate];omega
 | some e=>exact (hC.oG _ e h).2.1
theorem Cw.Ok.OD{C:Cw}(hC:C.Ok)(b p:Int):∃Aw cw lw,(C.oV (b,p)).getD (.slice none 0 0)= .slice Aw lw.length cw∧iK C.own Aw lw.length 1 (ints .i64 lw)∧(∀i∈lw,0≤i∧i<8*C.g.raw)∧lw=(C.aC.bM (b,p)).getD []∧lw.length≤maxLen:=by
 have h1:C.aC.bM (b,p)=(C.bM (b,p)).map (·.2.2):=rfl;have h2:C.oV (b,p)=(C.bM (b,p)).map Cw.nW:=rfl;rw[h1,h2];cases h:C.bM (b,p) with
 | none=>exact⟨none,0,[],rfl,iK.nil,fun i hi=>by simp at hi,rfl,zero_le _⟩
 | some e=>have :=hC.wr _ e h;exact⟨e.1,e.2.1,e.2.2,rfl,this.1,this.2.1,rfl,this.2.2⟩
theorem LJ{C:Cw}(hC:C.Ok)(b p:Int) :
 aB prog 155 #[ptr bc 0,.i b,.i p] K (C.A bc::F)
  (fun v H'=>(C.aC.gU b p=0∧∃bo,v= .tuple #[.slice (some ⟨bo,0,none⟩) C.g.raw.toNat C.g.raw.toNat,.i 0]∧H'=ah bo 5 (ints .u8 (C.aC.reads b p))::C.A bc::F) ∨
   (C.aC.gU b p≠0∧v= .tuple #[.slice none 0 0,.i (C.aC.gU b p)]∧H'=C.A bc::F)):=by
 have hr:=bQ.sS hC.aU;obtain⟨Aw,cw,lw,hw1,hw2,hw3,hw4,UQ⟩:=hC.OD b p;have BI:=hC.aci b p;have hbb:=hC.OP b p;have hre:turn ((C.aC.aX (b,p)).getD C.aC.blank) lw=C.aC.reads b p:=by unfold aD.reads;rw[hw4]
 refine aB.wC ?_;dsimp only[Cw.parts,cons_append,nil_append];cases Dt:C.aX (b,p) with
 | none =>
  have hb0:(C.aC.aX (b,p)).getD C.aC.blank=replicate C.g.raw.toNat 255:=by
   rw[show C.aC.aX (b,p)=(C.aX (b,p)).map (·.2.2) from rfl,Dt];rfl
  rw[hb0] at hre BI hbb;refine aB.en func155 ntmps155 ?_;refine aj "alf" ?_;refine WL.t1 call93 rfl (jm (C:=C) wL) rfl ?_;refine aj "jsi" (aW (fun aL=> ?_) fun aL=> ?_)
  ·have nD:C.up=false:=by cases h:C.up<;>simp[aD.ready,Cw.aC,h] at aL ⊢
   refine aj "eC" ?_;have e1:C.aC.gU b p=70:=by unfold aD.gU;rw[if_pos (show C.aC.up=false from nD)]
   have e2:C.aC.ready=70:=by unfold aD.ready;rw[if_neg (by show ¬C.up=true;rw[nD];decide)]
   rw[e2];exact aF.ret (H':=C.A bc::F) (bJ.eU rfl rfl rfl) (fun w h=>Sat.all (l:=C.parts bc) h) (.inr ⟨by rw[e1];decide,by rw[e1],rfl⟩)
  ·have nD:C.up=true:=by cases h:C.up<;>simp[aD.ready,Cw.aC,h] at aL ⊢
   refine aj "qrz" ?_;refine WL.t3 call221 rfl rfl rfl (En (C:=C) b p wL) rfl ?_;refine aj "*i" (aW (fun h1=> ?_) fun h1=> ?_)
   ·simp only[Gd] at h1;refine aj "aC" ?_;have e1:C.aC.gU b p=1:=by unfold aD.gU;rw[if_neg (by show ¬C.up=false;rw[nD];decide),if_pos h1]
    exact aF.ret (H':=C.A bc::F) (bJ.eU rfl rfl rfl) (fun w h=>Sat.all (l:=C.parts bc) h) (.inr ⟨by rw[e1];decide,by rw[e1],rfl⟩)
   ·simp only[Gd] at h1;refine aj "U`oz" ?_;refine WL.val (V.build (vs:=[(0,_),(1,_)]) ⟨ak rfl,ak rfl,trivial⟩ rfl (iT _ _)) rfl ?_;refine WL.val (V.aG (v':= .tuple #[.slice none 0 0,.bool false]) (V.Qu (k:=(b,p)) underlying161 zeroValue34 zQ (ak rfl) (ak rfl) (fun _=>by repeat (first | exact J2.here | apply J2.up))) (fun _=>by unfold Cw.kU;rw[Dt];rfl)) rfl ?_;refine aj "Df*b5h" ?_;refine WL.c1 call222 rfl (Ij (C:=C) hC.aU wL) rfl ?_;rintro _ _ ⟨bo,rfl,rfl⟩;refine aj "Y`oz" ?_;refine WL.val (V.build (vs:=[(0,_),(1,_)]) ⟨ak rfl,ak rfl,trivial⟩ rfl (iT _ _)) rfl ?_;refine WL.val (V.aG (v':= .slice Aw lw.length cw) (V.lookup (k:=(b,p)) underlying162 zeroValue124 zQ (ak rfl) (ak rfl) (fun _=>by repeat (first | exact J2.here | apply J2.up))) (fun _=>hw1)) rfl ?_;refine WL.c2 call223 rfl rfl (KP hbb (by repeat (first | exact Seq.allI (by simp) | apply Seq.up)) (by repeat (first | exact iK.seq hw2 | apply Seq.up)) (by rw[BI];exact hw3) ay UQ) rfl ?_;rintro _ _ ⟨bt,rfl,rfl⟩;refine aj "~6C" ?_;have e1:C.aC.gU b p=0:=by unfold aD.gU;rw[if_neg (by show ¬C.up=false;rw[nD];decide),if_neg (by rw[h1];decide)]
    refine aF.ret (H':=ah bt _ (ints .u8 (C.aC.reads b p))::C.A bc::F) (bJ.eU rfl rfl rfl) (fun w h=> ?_) (.inl ⟨e1,bt,rfl,rfl⟩);rw[hre] at h;exact (Sat.all (l:=C.parts bc) (h.bg 9 [2,3,4,5,6,7,8,0] rfl)).p1
 | some e =>
  obtain⟨Ap,cp,xp⟩:=e;have ZF:=hC.oG _ _ Dt;have hb0:(C.aC.aX (b,p)).getD C.aC.blank=xp:=by
   rw[show C.aC.aX (b,p)=(C.aX (b,p)).map (·.2.2) from rfl,Dt];rfl
  rw[hb0] at hre BI hbb;have uI:xp.length=C.g.raw.toNat:=ay;have hsp:iK C.own Ap xp.length 1 (ints .u8 xp):=ZF.1;refine aB.en func155 ntmps155 ?_;refine aj "alf" ?_;refine WL.t1 call93 rfl (jm (C:=C) wL) rfl ?_;refine aj "jsi" (aW (fun aL=> ?_) fun aL=> ?_)
  ·have nD:C.up=false:=by cases h:C.up<;>simp[aD.ready,Cw.aC,h] at aL ⊢
   refine aj "eC" ?_;have e1:C.aC.gU b p=70:=by unfold aD.gU;rw[if_pos (show C.aC.up=false from nD)]
   have e2:C.aC.ready=70:=by unfold aD.ready;rw[if_neg (by show ¬C.up=true;rw[nD];decide)]
   rw[e2];exact aF.ret (H':=C.A bc::F) (bJ.eU rfl rfl rfl) (fun w h=>Sat.all (l:=C.parts bc) h) (.inr ⟨by rw[e1];decide,by rw[e1],rfl⟩)
  ·have nD:C.up=true:=by cases h:C.up<;>simp[aD.ready,Cw.aC,h] at aL ⊢
   refine aj "qrz" ?_;refine WL.t3 call221 rfl rfl rfl (En (C:=C) b p wL) rfl ?_;refine aj "*i" (aW (fun h1=> ?_) fun h1=> ?_)
   ·simp only[Gd] at h1;refine aj "aC" ?_;have e1:C.aC.gU b p=1:=by unfold aD.gU;rw[if_neg (by show ¬C.up=false;rw[nD];decide),if_pos h1]
    exact aF.ret (H':=C.A bc::F) (bJ.eU rfl rfl rfl) (fun w h=>Sat.all (l:=C.parts bc) h) (.inr ⟨by rw[e1];decide,by rw[e1],rfl⟩)
   ·simp only[Gd] at h1;refine aj "U`oz" ?_;refine WL.val (V.build (vs:=[(0,_),(1,_)]) ⟨ak rfl,ak rfl,trivial⟩ rfl (iT _ _)) rfl ?_;refine WL.val (V.aG (v':= .tuple #[.slice Ap xp.length cp,.bool true]) (V.Qu (k:=(b,p)) underlying161 zeroValue34 zQ (ak rfl) (ak rfl) (fun _=>by repeat (first | exact J2.here | apply J2.up))) (fun _=>by unfold Cw.kU;rw[Dt];rfl)) rfl ?_;refine aj "Df*3Uc`oz" ?_;refine WL.val (V.build (vs:=[(0,_),(1,_)]) ⟨ak rfl,ak rfl,trivial⟩ rfl (iT _ _)) rfl ?_;refine WL.val (V.aG (v':= .slice Aw lw.length cw) (V.lookup (k:=(b,p)) underlying162 zeroValue124 zQ (ak rfl) (ak rfl) (fun _=>by repeat (first | exact J2.here | apply J2.up))) (fun _=>hw1)) rfl ?_;refine WL.c2 call223 rfl rfl (KP hbb (by repeat (first | exact iK.seq hsp | apply Seq.up)) (by repeat (first | exact iK.seq hw2 | apply Seq.up)) (by rw[BI];exact hw3) ay UQ) rfl ?_;rintro _ _ ⟨bt,rfl,rfl⟩;refine aj "~6C" ?_;have e1:C.aC.gU b p=0:=by unfold aD.gU;rw[if_neg (by show ¬C.up=false;rw[nD];decide),if_neg (by rw[h1];decide)]
    refine aF.ret (H':=ah bt _ (ints .u8 (C.aC.reads b p))::C.A bc::F) (bJ.eU rfl rfl rfl) (fun w h=> ?_) (.inl ⟨e1,bt,by rw[uI],rfl⟩);rw[hre] at h;exact (Sat.all (l:=C.parts bc) (h.bg 8 [1,2,3,4,5,6,7,0] rfl)).p1
def Cw.new(g:bQ)(m:Int→Bool)(bp bw bn bm bk:Nat):Cw:=⟨g,fun _=>none,fun _=>none,replicate g.bl.toNat 0,m,fun _=>false,0,true,0,0,bp,bw,bn,bm,bk,[]⟩
def aD.new(g:bQ)(l:List Int):aD:=⟨g,fun _=>none,fun _=>none,replicate g.bl.toNat 0,fun k=>decide (k∈l),fun _=>false,0,true,0,0⟩
theorem Cw.agR{g:bQ}(h:g.aU)(m:Int→Bool)(bp bw bn bm bk:Nat):(Cw.new g m bp bw bn bm bk).Ok:=by
 refine⟨h,fun p e he=>(by have h:(none:Option (Option Addr×Nat×List Int))=some e:=he;cases h),fun p e he=>(by have h:(none:Option (Option Addr×Nat×List Int))=some e:=he;cases h), ?_,fun x hx=> ?_,(by show (0:Int)≤0∧(0:Int)≤9223372036854775807;decide)⟩
 ·show ((replicate g.bl.toNat 0).length:Int)=g.bl;rw[length_replicate];unfold bQ.aU at h;omega
 ·rw[eq_of_mem_replicate hx];unfold bQ.aU at h;show (0:Int)≤0∧0≤g.pg;omega
theorem Nb{l:List Int}(h:j<l.length):(fun k'=>if k'=l.getD j 0 then true else decide (k'∈l.take j))=fun k=>decide (k∈l.take (j+1)):=by
 funext k;have hg:l.getD j 0=l[j]:=by simp[getD,h]
 have ht:l.take (j+1)=l.take j++[l[j]]:=by rw[take_add_one,getElem?_eq_getElem h];rfl
 rw[hg,ht];by_cases hk:k=l[j]
 ·rw[if_pos hk,decide_eq_true (mem_append.2 (.inr (mem_singleton.2 hk)))]
 ·rw[if_neg hk];exact decide_eq_decide.2 ⟨fun h=>mem_append_left _ h,fun h=>(mem_append.1 h).elim id fun h=>absurd (mem_singleton.1 h) hk⟩
theorem ZU(g:bQ)(hl:Seq K F B q 1 (ints .i64 l))(hq:q≤9223372036854775807) :
 aB prog 29 #[g.v,.slice B q cap] K F (fun v H' =>
  (g.may=true∧(∀x∈l,0≤x∧x<g.bl)∧∃bc,∃C:Cw,C.Ok∧C.aC=aD.new g l∧v= .tuple #[ptr bc 0,.i 0]∧H'=C.A bc::F) ∨
  (¬(g.may=true∧∀x∈l,0≤x∧x<g.bl)∧v= .tuple #[.pointer none,.i 1]∧H'=F)):=by
 have hll:l.length=q:=by simpa [ints] using hl.len
 cases hm:g.may with
 | false =>
  refine aB.en func29 ntmps29 ?_;refine aj "a%" fun b2=> ?_;refine aj "lvB" ?_;refine WL.t1 call96 rfl (aK.eq (v':= .tuple #[.i 0,.i 1]) (Nh g _ _) (by rw[hm];rfl)) rfl ?_;refine aj "Dfsb5eC" ?_;exact aF.ret (H':=F) (bJ.eU rfl rfl rfl) eO (.inr ⟨fun h=>(by cases h.1),rfl,rfl⟩)
 | true =>
  have hg:=bQ.rF hm;have uJ:=hg;unfold bQ.aU at uJ;refine aB.en func29 ntmps29 ?_;refine aj "a%" fun b2=> ?_;refine aj "lvB" ?_;refine WL.t1 call96 rfl (aK.eq (v':= .tuple #[.i g.raw,.i 0]) (Nh g _ _) (by rw[hm];rfl)) rfl ?_;refine aj "Dfs3,~Z~~f0m104(5" ?_;refine WA.par (fuel:=3) (e0:=[(24,.i g.bl),(20,.i g.raw),(19,g.v),(1,.slice B q cap)]) (UJ:= #[true,true,true,true,true,true,true,true,true,false,false,false]) [⟨2,21,fun b=> .map (some b),fun b=>gD b jw fun _=>none⟩,⟨3,22,fun b=> .map (some b),fun b=>gD b jw fun _=>none⟩,⟨6,25,fun b=> .slice (some ⟨b,0,none⟩) g.bl.toNat g.bl.toNat,fun b=>ah b 3 (replicate g.bl.toNat (.i 0))⟩,⟨7,26,fun b=> .map (some b),fun b=>gD b vJ fun _=>none⟩,⟨8,27,fun b=> .map (some b),fun b=>gD b vJ fun _=>none⟩] _ rfl rfl rfl bC (by kernel_rfl) ?_ cO (fun bs hbs=> ?_)
  ·intro x hx;simp only[mem_cons,not_mem_nil,or_false] at hx;rcases hx with rfl | rfl | rfl | rfl | rfl
   ·exact⟨_,rfl,fun e' H' Q' hE h=>WL.makeMap jw rfl h⟩
   ·exact⟨_,rfl,fun e' H' Q' hE h=>WL.makeMap jw rfl h⟩
   ·exact⟨_,rfl,fun e' H' Q' hE h=>WL.nM (m:=g.bl.toNat) underlying124 Me (OV.p (hE 24 _ rfl)) (OV.p (hE 24 _ rfl)) ay ay ay rfl rfl rfl h⟩
   ·exact⟨_,rfl,fun e' H' Q' hE h=>WL.makeMap vJ rfl h⟩
   ·exact⟨_,rfl,fun e' H' Q' hE h=>WL.makeMap vJ rfl h⟩
  obtain⟨b21,QB,b25,b26,b27,rfl⟩:∃a b c d e,bs=[a,b,c,d,e]:=by
   match bs,hbs with
   | [a,b,c,d,e],_=>exact⟨a,b,c,d,e,rfl⟩
  simp only[zip_cons_cons,zip_nil_right,map_cons,map_nil,cons_append,nil_append];refine WA.t 9 rfl (V.build (vs:=[(0,_),(1,_),(2,_),(3,_),(4,_),(5,_),(6,_),(8,_)]) ⟨ak rfl,ak rfl,ak rfl,ak rfl,ak rfl,ak rfl,ak rfl,ak rfl,trivial⟩ rfl (vG _ _ _ _ _ _ _ _ _ _ _ _ _ _)) ?_;refine WA.o 10 rfl ?_;refine WL.box (cs:=[_,_,_,_,_,_,_,_,_,_,_,_,_,_,_]) (ak rfl) rfl rfl (fun Va=> ?_);refine aj "b~u;OrkN" ?_;refine WC.loop (σ:=Nat) (fun j=>[(8,ptr Va 0),(30,.slice B q cap),(31,.i (q:Int)),(32,.i (j:Int))]) (fun j=>ah Va 165 (Cw.new g (fun _=>false) b21 QB b25 b26 b27).cells::gD b21 jw (fun _=>none)::gD QB jw (fun _=>none)::ah b25 3 (ints .i64 (replicate g.bl.toNat 0))::gD b26 vJ (nJ fun k=>decide (k∈l.take j))::gD b27 vJ (fun _=>none)::F) (fun j=>j≤q∧∀x∈l.take j,0≤x∧x<g.bl) (fun j=>q-j) 0 ⟨zero_le _,fun x hx=>(by cases hx)⟩ bC (fun w h=> ?_) ?_
  ·rw[GX];have e1:(Cw.new g (fun _=>false) b21 QB b25 b26 b27).cells=_:=rfl;refine Sat.aT (h.bg 7 [0,1,2,3,4,5] rfl) ?_;simp[Cw.cells,Cw.new]
  rintro j ⟨hj,BG⟩;refine aj "TH" (aW (fun aQ=> ?_) fun aQ=> ?_)
  ·try simp only[iC] at aQ
   refine aj "Ia" ?_;refine WL.val (V.dw eB (ak rfl) (ak rfl) Jy (fun hc=>by repeat (first | exact Seq.dD hl (by first | omega | (simp at hc;omega)) | apply Rd.up))) rfl ?_;refine WL.val (V.load isAgg3 (ak rfl) (fun hc=>by repeat (first | exact Seq.dD hl (by first | omega | (simp at hc;omega)) | apply Rd.up))) rfl ?_;refine aj "fc" ?_;refine WL.t2 call97 rfl rfl (vw (C:=Cw.new g (fun _=>false) b21 QB b25 b26 b27) _ wL) rfl ?_;refine aj "*i" (aW (fun h2=> ?_) fun h2=> ?_)
   ·refine aj "aC" ?_;refine aF.ret (H':=F) (bJ.eU rfl rfl rfl) eO (.inr ⟨fun h=> ?_,rfl,rfl⟩);have h3:=h.2 (l.getD (j:Int).toNat 0) (by rw[getD,getElem?_eq_getElem ay];exact getElem_mem _);simp[aD.block,Cw.aC,Cw.new] at h2;simp at h3;omega
   ·refine aj "qh`oc" ?_;refine WL.u6 (k:=_) underlying163 kl3 (ak rfl) (ak rfl) (ak rfl) (by repeat (first | exact p8.here | apply p8.up)) ?_;refine aj "b7" ?_;refine⟨j+1,⟨by show j+1≤q;omega,fun x hx=> ?_⟩,(by show q-(j+1)<q-j;omega),.cons rfl bC,fun w h=> ?_⟩
    ·rw[take_add_one,getElem?_eq_getElem ay] at hx;rcases mem_append.1 hx with hx | hx
     ·exact BG x hx
     ·have Wz:x=l.getD (j:Int).toNat 0:=by
       simp at hx;rw[show (j:Int).toNat=j by omega];simp[getD,show j<l.length by omega,hx]
      subst Wz;simp[aD.block,Cw.aC,Cw.new] at h2;exact h2
    ·rw[KO,show (j:Int).toNat=j by omega,Nb ay] at h;exact h
  ·try simp only[iC] at aQ
   refine aj "KeC" ?_;obtain rfl:j=q:=by omega
   rw[take_of_length_le ay] at BG;refine aF.ret (H':=(Cw.new g (fun k=>decide (k∈l.take j)) b21 QB b25 b26 b27).A Va::F) (bJ.eU rfl rfl rfl) (fun w h=> ?_) (.inl ⟨(by first | trivial | rfl),BG,Va,_,Cw.agR hg _ _ _ _ _ _, ?_,rfl,rfl⟩)
   ·have h1:=(Sat.all (l:=[]) h).bg 7 [1,2,3,4,5,6,0] rfl;exact Sat.all (l:=(Cw.new g (fun k=>decide (k∈l.take j)) b21 QB b25 b26 b27).parts Va) h1
   ·rw[take_of_length_le ay];rfl
theorem O5(hs:Seq K F A m 1 (ints .u8 xs))(hm:m≤1000000) :
 aB prog 125 #[.slice A m cap] K F (fun v H'=>∃A' cap',v= .slice A' m cap'∧H'=aV (.slice A' m cap') 5 1 m (ints .u8 xs)::F):=by
 have hl:xs.length=m:=by simpa [ints] using hs.len
 refine aB.lG (p:=A=none→xs=[]) (fun w hw hA=>by subst hA;simpa [ints] using hs.Rb hw) (fun RB=> ?_);refine aB.en func125 ntmps125 ?_;refine aj "af~~;i" (aW (fun aL=> ?_) fun aL=> ?_)
 ·have hA:A=none:=by cases A<;>simp at aL ⊢
  subst hA;have hx:=RB rfl;subst hx;obtain rfl:m=0:=hl.symm;refine aj "G" ?_;exact qR (aV (.slice none 0 0) _ 1 0 []::F) rfl rfl (fun w h=>Sat.gI h _ _) ⟨none,0,rfl,rfl⟩
 ·refine aj "9" ?_;refine WL.buildSlice (E:=5) (cs:=[]) (vs:=[]) trivial rfl (adt ) rfl (fun b5=> ?_);refine WL.mv rfl rfl ?_;refine WL.sub (Sub.refl _) (fun w h=>Sat.BX (m:=0) (cap:=0) (s:=1) h rfl (Nat.le_refl _) (zero_le _)) ?_;refine WL.append (m:=0) (cs:=[]) underlying34 yL (ak rfl) (ak rfl) (by repeat (first | exact hs | apply Seq.up)) (xI _ _) ay rfl rfl (fun A' c' hn' hc'=> ?_);refine aj "d" ?_;refine aF.ret (H':=aV (.slice A' m c') _ 1 m (ints .u8 xs)::F) (bJ.tmp rfl (look_eq rfl (by simp))) (fun w h=> ?_) ⟨A',c',rfl,rfl⟩
  simpa using h
namespace Cw
end Cw
end Go.Proofs.YtcedojacbhnbiaaGreat
