import Derived.Test.YtcedojacbhnbiaaGreatP2
import Derived.Test.YtcedojacbhnbiaaGreatChecked
set_option autoImplicit true
set_option linter.all false
set_option maxHeartbeats 2000000
set_option maxRecDepth 100000
set_option relaxedAutoImplicit true
namespace Go.Proofs.YtcedojacbhnbiaaGreat
open Go.Sl Go.RowKit Tryz List Nat
structure bQ where
 (bl pg se sb fl:Int)
 deriving DecidableEq
namespace bQ
abbrev v(g:bQ):Value:= .agg #[.i g.bl,.i g.pg,.i g.se,.i g.sb,.i g.fl]
def aU(g:bQ):Prop:=1≤g.bl∧g.bl≤256∧2≤g.pg∧g.pg≤64∧1≤g.se∧g.se≤8∧4≤g.sb∧g.sb≤512∧g.sb%4=0∧1≤g.fl∧g.fl≤8∧16≤g.se*g.sb
instance(g:bQ):Decidable g.aU:=by unfold aU;infer_instance
def may(g:bQ):Bool:=decide g.aU
def more(g:bQ):Int:=(13*g.fl+7)/8
def whole(g:bQ):Int:=g.sb+g.more
def raw(g:bQ):Int:=g.se*g.whole+1
def room(g:bQ):Int:=g.se*g.sb
theorem Bd{a:Int}(h1:0≤a)(h2:a≤A)(h3:0≤b)(h4:b≤B):0≤a*b∧a*b≤A*B:=⟨Int.mul_nonneg h1 h3,Int.mul_le_mul h2 h4 h3 ay⟩
theorem rF{g:bQ}(h:g.may=true):g.aU:=by simpa [may] using h
theorem ads{g:bQ}(h:g.aU):2≤g.more∧g.more≤13:=by unfold aU at h;unfold more;omega
theorem ab4{g:bQ}(h:g.aU):6≤g.whole∧g.whole≤525:=by have :=ads h;unfold aU at h;unfold whole;omega
theorem sS{g:bQ}(h:g.aU):7≤g.raw∧g.raw≤4201:=by
 have b:=ab4 h;have a:1≤g.se∧g.se≤8:=by unfold aU at h;omega
 have e:=Bd (A:=8) (B:=525) (by omega:0≤g.se) a.2 (by omega:0≤g.whole) b.2;have d:1*g.whole≤g.se*g.whole:=Int.mul_le_mul_of_nonneg_right a.1 ay;unfold raw;omega
end bQ
theorem qJ(n low high:Int)(K:World)(F:List aH):aK prog 226 #[.i n,.i low,.i high] K F (.bool (decide (low≤n)&&decide (n≤high))):=by
 refine aB.en func226 ntmps226 ?_;exact aj "a0~gb!!~~.Sd+" trivial
theorem KZ(g:bQ)(K:World)(F:List aH):aK prog 161 #[g.v] K F (.i (if g.may then 0 else 1)):=by
 refine aB.en func161 ntmps161 ?_;refine aj "a&" λj=> ?_;refine aj "wk" ?_;refine WL.t3 call226 Z Z Z (qJ _ _ _ _ _) Z<|aj "b,`" ?_;refine WL.nL (oj:=_) (vs:=[_,_,_]) Z Z Z GC.t call226 ⟨OV.g Z id,ak Z,ak Z,trivial⟩ (λd=>qJ _ _ _ _ _) Z<|aj "Sb,`" ?_;refine WL.nL (oj:=_) (vs:=[_,_,_]) Z Z Z GC.t call226 ⟨OV.g Z id,ak Z,ak Z,trivial⟩ (λd=>qJ _ _ _ _ _) Z<|aj "Sb,`" ?_;refine WL.nL (oj:=_) (vs:=[_,_,_]) Z Z Z GC.t call226 ⟨OV.g Z id,ak Z,ak Z,trivial⟩ (λd=>qJ _ _ _ _ _) Z<|aj "Sb,`~~~v~SSb,`" ?_;refine WL.nL (oj:=_) (vs:=[_,_,_]) Z Z Z GC.t call226 ⟨OV.g Z id,ak Z,ak Z,trivial⟩ (λd=>qJ _ _ _ _ _) Z<|aj "Sb,`,`" ?_;refine WL.bI (oj:=_) Z Z Z GC.t (V.MK (OV.g Z id) (OV.g Z id) (λe=>by simp at e;have :=bQ.Bd (a:=g.se) (b:=g.sb) (A:=8) (B:=512) ay ay ay ay;omega)) Z<|aj "~USf9h" (aW (λaL=> ?_) λaL=> ?_)
 ·simp only[iC] at aL;refine aj "D:" ?_;rw[if_neg (λh=>by have h:=bQ.rF h;unfold bQ.aU at h;omega)]
 ·simp only[iC] at aL;refine aj "qD:" ?_;rw[if_pos (by unfold bQ.may;rw[decide_eq_true_eq];unfold bQ.aU;omega)]
theorem Ra(t:Int)(ht:1≤t∧t≤8)(K:World)(F:List aH):aK prog 227 #[.i t] K F (.tuple #[.i (13*t),.i 0]):=by
 refine aB.en func227 ntmps227 ?_;refine aj "alfP%~jIc~&T~EF" ?_;exact aF.ret (H':=F) (bJ.eU Z Z Z) eO ⟨Z,Z⟩
theorem Dz(g:bQ)(h:g.aU)(K:World)(F:List aH):aK prog 162 #[g.v] K F (.i g.whole):=by
 have a:=h;unfold bQ.aU at a;refine aB.en func162 ntmps162 ?_;refine aj "a&" λb=> ?_;refine aj "wk" ?_;exact WL.t1 call227 Z (Ra _ ay _ _) Z<|aj "HwkbZ~:Zd+" trivial
theorem Nh(g:bQ)(K:World)(F:List aH):aK prog 96 #[g.v] K F (.tuple (if g.may then #[.i g.raw,.i 0] else #[.i 0,.i 1])):=by
 refine aB.en func96 ntmps96 ?_;refine aj "a&" λj=> ?_;refine aj "ltay" ?_;refine WL.t1 call161 Z (KZ g _ _) Z<|aj "iuh" (aW (λaL=> ?_) λaL=> ?_)
 ·have a:g.may=false:=by cases h:g.may<;>simp[h] at aL ⊢
  refine aj "eF" ?_;rw[a];exact aF.ret (H':=F) (bJ.eU Z Z Z) eO ⟨Z,Z⟩
 ·have a:g.may=true:=by cases h:g.may<;>simp[h] at aL ⊢
  have b:=bQ.rF a;have d:=bQ.sS b;unfold bQ.raw at d;refine aj "|~i~t~F~~F" ?_;refine WQ.call (vs:=[_]) call162 ⟨ak Z,trivial⟩ (Dz g b _ _) Z<|WQ.val (V.MK (ak Z) (ak Z) (λe=>by omega)) Z<|WQ.val (V.CX (ak Z) (ak Z) (λe=>by omega)) Z<|aj "~n~n~d~J" ?_;refine aF.ret (H':=F) (bJ.eU Z Z Z) eO ⟨?_,Z⟩;rw[a];rfl
theorem XJ(g:bQ)(K:World)(F:List aH):aK prog 59 #[g.v] K F (.bool g.may):=by
 refine aB.en func59 ntmps59 ?_;refine aj "a&" λe=> ?_;refine aj "wk~gb,`~RSb,`~USb,`~RSb,`~USb,`~RSb,`~USb,`~RSb,`~~~v~SSb,`~USb,`~RSb,`,`" ?_;refine WL.bI (oj:=_) Z Z Z GC.t (V.MK (OV.g Z id) (OV.g Z id) (λd=>by simp at d;have :=bQ.Bd (a:=g.se) (b:=g.sb) (A:=8) (B:=512) ay ay ay ay;omega)) Z<|aj "~USd:" ?_;congr 1;rw[Bool.eq_iff_iff];unfold bQ.may;rw[decide_eq_true_eq];unfold bQ.aU;simp;omega
theorem GV(g:bQ)(h:g.aU)(K:World)(F:List aH):aK prog 60 #[g.v] K F (.i g.room):=by
 have d:=h;unfold bQ.aU at d;have :=bQ.Bd (a:=g.se) (b:=g.sb) (A:=8) (B:=512) ay ay ay ay;refine aB.en func60 ntmps60 ?_;refine aj "a&" λe=> ?_;exact aj "wkk~Ed+" trivial
def bQ.small(g:bQ):Bool:= !g.may||(decide (g.room≤32)&&decide (g.bl≤16)&&decide (g.pg≤8))
end Go.Proofs.YtcedojacbhnbiaaGreat
namespace Go.Proofs.YtcedojacbhnbiaaGreat
open Go.Sl Go.ChangeShapes Go.WideShapes Go.ChangeAt Go.RowKit Tryz List Nat
theorem ag4:ownKnob prog.godebug=none:=by kernel_rfl
theorem Vd:laidOutB prog=true:=by kernel_rfl
set_option maxRecDepth 100000 in
theorem aaM{W:World}{r:Reach}{base:Nat}{v:Value}(h:Value.okWide prog W r base 23 v):∃g:bQ,v=g.v:=by
 obtain⟨e,rfl,JQ,a⟩:=aa7 (ts:=[3,3,3,3,3]) ⟨_,underlying23,.inl ⟨_,Z⟩⟩ (by kernel_rfl) (by kernel_rfl) h;obtain⟨l⟩:=e
 match l,JQ with
 | [c0,c1,c2,c3,c4],_ =>
  obtain⟨k,rfl,_⟩:=(a 0 _ c0 Z Z).int underlying3;obtain⟨x1,rfl,_⟩:=(a 1 _ c1 Z Z).int underlying3;obtain⟨j,rfl,_⟩:=(a 2 _ c2 Z Z).int underlying3;obtain⟨b,rfl,_⟩:=(a 3 _ c3 Z Z).int underlying3;obtain⟨d,rfl,_⟩:=(a 4 _ c4 Z Z).int underlying3;exact⟨⟨k,x1,j,b,d⟩,Z⟩
def AQ(P:Program)(fn:Func)(s:ChangeSpec)(c:OpenClaim):Bool :=
 c.wf (OpenSpec.ofChange s)&&fn.params.all (P.readableRec ·)&&namedTie P c.named s.vars &&
 (c.stops==[])&&(P.stops==[])&&(c.knobs==[])&&(P.stopKnobs==[]) &&
 (c.maps==(fn.params.toList++s.plain.varTypes P).any (P.mapsRec ·))&&(c.ifaces==(fn.params.toList++s.plain.varTypes P).any (P.ifacesRec ·))&&(c.mapsOut==P.mapsAmong fn.resultTypes.toList) &&
 (c.loops==(fn.params.toList++s.plain.varTypes P).any (P.loopsFrom ·))&&(c.wideKeys==(fn.params.toList++s.plain.varTypes P++fn.resultTypes.toList).any (P.wideKeysFrom ·)) &&
 s.vars.all (P.varReadable ·)&&fn.resultTypes.all (λt=>P.readableRec t&&decide (t<P.types.size))&&(c.ifacesOut==fn.resultTypes.toList.any (P.ifacesRec ·))&&(c.loopsOut==fn.resultTypes.toList.any (P.loopsFrom ·))&&(c.plainKeys==P.plainKeys)&&c.shortTexts.isNone &&
 (c.kinds==(if c.domain.isEmpty then [] else fn.params.toList.map λt=>match P.underlying t with | some (.int k)=>some k | _=>none))&&(c.pinned==c.pinnedBy) &&
 (c.veiled==(fn.params.toList++s.plain.varTypes P++fn.resultTypes.toList).any (P.veiledRec ·))&&c.veiledFits P fn.params.toList (fn.params.toList++s.plain.varTypes P++fn.resultTypes.toList)
theorem X7{P:Program}{f:FuncId}{fn:Func}{s:ChangeSpec}{c:OpenClaim}(h1:laidOutB P=true)(h2:mapsRowed P=true)(h7:P.stopsHeard=true)(h8:P.mayEnter=true)
 (h3:(c.inPlace==P.inPlace f)=true) (h4:(c.unfollowed==P.unfollowed f)=true) (h5:(c.recurses==P.recurses f)=true) (h6:(c.named==P.varsNamed f)=true)
 (h9:(c.lifted==P.liftsFinal)=true) (RJ:(P.make==some c.make)=true) (rest:AQ P fn s c=true):joinedFacts P f fn s c=true:=by
 simp only[AQ,Bool.and_eq_true] at rest;obtain⟨⟨⟨⟨⟨⟨⟨⟨⟨⟨⟨⟨⟨⟨⟨⟨⟨⟨⟨⟨⟨F,G⟩,K⟩,B⟩,H⟩,L⟩,D⟩,J⟩,I⟩,l⟩,r⟩,e⟩,a⟩,k⟩,j⟩,x⟩,u⟩,y⟩,n⟩,d⟩,b⟩,m⟩:=rest;simp only[joinedFacts,Bool.and_eq_true];exact⟨⟨⟨⟨⟨⟨⟨⟨⟨⟨⟨⟨⟨⟨⟨⟨⟨⟨⟨⟨⟨⟨⟨⟨⟨⟨⟨⟨⟨⟨⟨F,h1⟩,h2⟩,G⟩,K⟩,B⟩,H⟩,L⟩,D⟩,h3⟩,h4⟩,h5⟩,h6⟩,J⟩,I⟩,l⟩,r⟩,e⟩,a⟩,k⟩,j⟩,x⟩,u⟩,y⟩,h7⟩,h8⟩,h9⟩,RJ⟩,n⟩,d⟩,b⟩,m⟩
theorem agU:mapsRowed prog=true:=by kernel_rfl
theorem ad5:Program.stopsHeard prog=true:=by kernel_rfl
theorem ad7:Program.mayEnter prog=true:=by kernel_rfl
end Go.Proofs.YtcedojacbhnbiaaGreat
namespace Go.Proofs.YtcedojacbhnbiaaGreat
open Go.Sl Go.RowKit Tryz List Nat
theorem Xa(hN:ps.length+qs.length=N)(hs:Seq K F A m 1 (av .i64 ps))(hq:Seq K F B q 1 (av .i64 qs))(V4:aA 8192 ps)(ZK:aA 8192 qs)(kS:N≤1000000)
 (h2:Rd K F (some ⟨b2,0,none⟩) (.slice A m Ml)) (h3:Rd K F (some ⟨b3,0,none⟩) (.slice B q cap')) (h5:Rd K F (some ⟨b5,0,none⟩) (.slice (some ⟨g,0,none⟩) N cap)) :
 aB prog 347 #[.func (.func 353) #[] #[ptr b5 0],ptr b2 0,ptr b3 0] K (ah g 3 (replicate N (.i 0))::F)
  (λv H'=>H'=ah g 3 (av .i64 (iI ps qs))::F):=by
 have b:ps.length=m:=by simpa [av] using hs.len
 have Ki:qs.length=q:=by simpa [av] using hq.len
 refine aB.en func347 ntmps347 ?_;refine WC.sr<|WL.val (V.load isAgg124 (ak Z) (λa=>h2.up)) Z<|aj "jR" ?_;refine WC.loop (σ:=Nat) (λj=>[(0,.func (.func 353) #[] #[ptr b5 0]),(2,ptr b3 0),(6,.slice A m Ml),(7,.i (m:Int)),(8,.i (j:Int))]) (λj=>ah g 3 (av .i64 (Dh ps qs j))::F) (λj=>j≤m) (λj=>m-j) 0 (zero_le _) bC (λw h=>Sat.aT h (by rw[Dh,hN,eD];rfl)) ?_;rintro j e;refine aj "V1" (aW (λaL=> ?_) λaL=> ?_)
 ·refine aj "EL" ?_;have d:j<m:=ay;have xO:Rd K (ah g 3 (av .i64 (Dh ps qs j))::F) (A.map (·.add ((j:Int).toNat*1))) (.i (ps.getD j 0:Nat)):=by
   rw[show (j:Int).toNat=j by omega];exact (hs.jo ay).up
  have nS:=yE (ps:=ps) ZK j;refine aj "g" ?_;refine WL.val (V.dw eB (ak Z) (ak Z) (λa=>by omega) (λa=>xO)) Z<|WL.val (V.load isAgg3 (ak Z) (λa=>xO)) Z<|aj "lO" ?_;refine WL.val (V.load isAgg124 (ak Z) (λa=>h3.up)) Z<|aj "x" ?_;refine WL.c4 call348 Z Z Z Z (abF (N:=N) (cap:=cap) (by rw[qc];exact hN) nS hq ZK ay (V4.at_ aN j) h5 kS) Z ?_;rintro k _ rfl;refine aj "c8" ?_;exact⟨j+1,(by show j+1≤m;omega),(by show m-(j+1)<m-j;omega),.cons Z bC,λw h=>Sat.aT h (by rw[Dh,Ki])⟩
 ·refine WC.exit ?_;obtain rfl:j=m:=by omega
  exact aF.normal (H':=ah g _ _::F) (bJ.none Z) (λw h=>Sat.aT h (by unfold iI;rw[b])) Z
theorem Kq{N:Nat}(hN:ps.length+qs.length=N)(hs:Seq K F A m 1 (av .i64 ps))(hq:Seq K F B q 1 (av .i64 qs))(V4:aA 8192 ps)(ZK:aA 8192 qs)(kS:N≤1000000)
 (h2:Rd K F (some ⟨b2,0,none⟩) (.slice A m Ml)) (h3:Rd K F (some ⟨b3,0,none⟩) (.slice B q cap')) :
 aB prog 346 #[.i (N:Int),.func (.func 347) #[] #[ptr b2 0,ptr b3 0]] K F
  (λv H'=>∃g,v= .slice (some ⟨g,0,none⟩) (aZ (iI ps qs) N) N∧H'=ah g 3 (av .i64 (iI ps qs))::F):=by
 have Oa:(iI ps qs).length=N:=by unfold iI;rw[qc,hN]
 refine aB.en func346 ntmps346 ?_;refine aj "ai" ?_;refine WL.nM (m:=N) underlying124 Me (ak Z) (ak Z) Z Z ay Z Z Z (λa=>aj "v" λe=> ?_);refine aj "~+ce~2?" ?_;refine WL.ny (first:=[]) (vs:=[_]) (captured:=[ptr b2 0,ptr b3 0]) call347 (ak Z) ⟨ak Z,trivial⟩ (Xa hN hs.up hq.up V4 ZK kS h2.up h3.up (Rd.here Z)) Z ?_;rintro d _ rfl;refine aj "Q" ?_;refine WL.val (V.load isAgg124 (ak Z) (λb=>(Rd.here Z).up)) Z<|WL.t1 call354 Z (YC (xs:=iI ps qs) (Seq.Gb Oa) (Nat.le_refl _) kS) Z<|aj "d" ?_;exact qR (ah a _ _::F) Z Z (λw h=>h.oJ) ⟨a,Z,Z⟩
theorem abl(hs:Seq K F A m 1 (av .i64 ps))(hq:Seq K F B q 1 (av .i64 qs))(V4:aA 8192 ps)(ZK:aA 8192 qs)(kS:ps.length+qs.length≤1000000) :
 aB prog 336 #[.slice A m Ml,.slice B q cap'] K F
  (λv H'=>∃g,v= .tuple #[.slice (some ⟨g,0,none⟩) (aZ (iI ps qs) (ps.length+qs.length)) (ps.length+qs.length),.i 0]∧H'=ah g 3 (av .i64 (iI ps qs))::F):=by
 have b:ps.length=m:=by simpa [av] using hs.len
 have Ki:qs.length=q:=by simpa [av] using hq.len
 refine aB.en func336 ntmps336 ?_;refine aj "a~k" λj=> ?_;refine aj "~k" λe=> ?_;refine aj "lta<<" ?_;refine WL.buildSlice (E:=124) (cs:=[_,_]) (vs:=[(0,_),(1,_)]) ⟨ak Z,ak Z,trivial⟩ Z (NU _ _ _ _ _ _) Z (λl=> ?_);refine WL.c1 call345 Z (adI (ls:=[⟨A,m,Ml,ps⟩,⟨B,q,cap',qs⟩]) (λp a=>by
  rcases mem_cons.1 a with rfl | a
  ·exact⟨by repeat (first | exact hs | apply Seq.up),V4,by show m≤1000000;omega⟩
  ·rw[mem_singleton] at a;subst a;exact⟨by repeat (first | exact hq | apply Seq.up),ZK,by show q≤1000000;omega⟩) (Seq.all Z) (by show 2≤1000;omega)) Z ?_
 rintro _ d ⟨rfl,k⟩;subst d;refine aj "927<j<j" ?_;refine WL.val (V.aG (v':= .i ((ps.length+qs.length:Nat):Int)) (V.CX (ak Z) (ak Z) (λ_=>by omega)) (λ_=>by rw[b,Ki];simp)) Z<|aj "~~i" ?_;refine WL.c2 call346 Z Z (Kq (Ml:=Ml) (cap':=cap') Z (by repeat (first | exact hs | apply Seq.up)) (by repeat (first | exact hq | apply Seq.up)) V4 ZK kS lD lD) Z ?_;rintro _ _ ⟨g,rfl,rfl⟩;refine aj "F" ?_;exact aF.ret (H':=ah g _ _::F) (bJ.eU Z Z Z) (λw h=>h.bg 4 [0] Z) ⟨g,Z,Z⟩
def o9(x:Nat):Nat→Nat
 | 0=>x
 | k+1=>kK (o9 x k) (o9 x k)
theorem MG(h:x<8192):∀k,o9 x k<8192
 | 0=>h
 | k+1=>fD (MG h k)
theorem Xk{r:Option Nat}{σ:Type}(hi: -9223372036854775808≤i∧i≤9223372036854775807)(hk:0<k)(yR:o9 (gG i) k=gG i)(uN:∀j,0<j→j<k→o9 (gG i) j≠gG i)(I:Nat→σ→Prop)(M:σ→List aH)(h1:∀j s,I j s→Rd K (M s) (some ⟨b1,0,none⟩) (.i i))
 (Ba:∀j s,j<k→I j s→jY prog K none l #[.i (o9 (gG i) j:Nat)] (M s) (λb H'=>b=true∧∃s',I (j+1) s'∧H'=M s')) (s0:σ) (h0:I 0 s0) :
 aB prog 344 #[.func (.yield l) #[] #[],ptr b1 0] K (M s0) (λv H'=>∃s,I k s∧H'=M s):=by
 have o7:=λj=>MG (x:=gG i) (GA i) j;refine aB.aaR func344 Z ntmps344 Z ?_;simp only[kV,reduceAdd];refine WC.sr<|WL.val (V.load isAgg3 (ak Z) (λn=>h1 0 s0 h0)) Z<|WL.t1 call287 Z (Tz i hi) Z<|aj "ios" ?_;refine WC.loop (σ:=Nat×σ) (λx=>[(0,.func (.yield l) #[] #[]),(3,.i (gG i:Nat)),(4,.i (o9 (gG i) x.1:Nat))]) (λx=>M x.2) (λx=>x.1<k∧I x.1 x.2) (λx=>k-x.1) (0,s0) ⟨hk,h0⟩ bC cO ?_;rintro⟨j,s⟩ ⟨hj,hI⟩;dsimp only at hj hI ⊢;refine aj "rb" ?_;refine WL.afm (r:=none) (l:=l) (vs:=[_]) (ak Z) ⟨ak Z,trivial⟩ (Ba j s hj hI) Z ?_;rintro _ _ ⟨rfl,s',a,rfl⟩;refine aj "c3qseb" ?_;refine WL.t2 call328 Z Z (NV (o7 j) (o7 j)) Z<|aj "50;c1" (aW (λaQ=> ?_) λaQ=> ?_)
 ·have m:(o9 (gG i) (j+1)=gG i)∨¬(o9 (gG i) (j+1)=gG i):=Decidable.em _;have d:o9 (gG i) (j+1)=gG i:=by have :=aQ;exact Int.ofNat.inj this
  have e:j+1=k:=by
   rcases Nat.lt_or_ge (j+1) k with h | h
   ·exact absurd d (uN (j+1) ay h)
   ·omega
  exact WC.ret<|aF.ret (H':=M s') (bJ.none Z) cO ⟨s',by rw[←e];exact a,Z⟩
 ·have m:(o9 (gG i) (j+1)=gG i)∨¬(o9 (gG i) (j+1)=gG i):=Decidable.em _;have d:¬o9 (gG i) (j+1)=gG i:=λh=>aQ (congrArg Int.ofNat h);have e:j+1<k:=by
   rcases Nat.lt_or_ge (j+1) k with h | h
   ·exact h
   ·have :j+1=k:=by omega
    rw[this] at d;exact absurd yR d
  refine aj "q~s" ?_;exact⟨(j+1,s'),⟨e,a⟩,(by show k-(j+1)<k-j;omega),.cons Z bC,λw h=>h⟩
theorem qN(hs:Seq K F A m 1 (av .u8 xs))(kS:m≤cap)(hm:m≤1000000):aK prog 320 #[.slice A m cap] K F (.slice A (aZ xs m) cap):=by
 refine aB.en func320 ntmps320 ?_;refine aj "ats" ?_;refine WC.loop (σ:=Nat) (λj=>[(0,.slice A j cap)]) (λ_=>F) (λj=>j≤m∧aZ xs j=aZ xs m) (λj=>j) m ⟨Nat.le_refl _,Z⟩ bC cO ?_;rintro j ⟨r,d⟩;have kr:0<j→Rd K F (A.map (·.add (((j:Int)-1).toNat*1))) (.int .u8 (xs.getD (j-1) 0:Nat)):=λh=>by
  rw[show ((j:Int)-1).toNat=j-1 by omega];exact hs.jo ay
 refine aj "rj~Hb!!~~r~~:" ?_;refine WL.bI (oj:=_) Z Z Z GC.t (V.dw dO (OV.g Z id) (OV.g Z id) (λa=>by simp at a;omega) (λa=>kr (by simp at a;omega))) Z<|WL.bI (oj:=_) Z Z Z GC.t (V.load isAgg5 (OV.g Z id) (λa=>kr (by simp at a;omega))) Z<|aj "~SSh" (aW (λb=> ?_) λb=> ?_)
 ·simp only[Gi] at b;refine aj "qsgbj)" ?_;refine WL.val (V.aG (v':= .slice A (j-1) cap) (V.slice (l:=0) (h:=j-1) (u:=cap) dO (ak Z) OO.none (OO.some (ak Z) (λ_=>by omega)) OO.none (by simp) (zero_le _) ay (Nat.le_refl _)) (λ_=>by rw[zK];rfl)) Z<|aj "N" ?_;refine⟨j-1,⟨by show j-1≤m;omega, ?_⟩,(by show j-1<j;omega),.cons Z (.nil _),λw h=>h⟩;obtain⟨i,rfl⟩:∃i,j=i+1:=⟨j-1,by omega⟩;rw[←d,aZ,if_pos (by have :=b.2;simp at this ⊢;omega)];rfl
 ·simp only[Gi] at b;refine aj "Ked:" ?_;have :aZ xs m=j:=by
   rw[←d];cases j with
   | zero=>rfl
   | succ i =>
    rw[aZ,if_neg];intro n;rcases b with e | e
    ·omega
    ·have k:¬((xs.getD i 0:Nat):Int)=0:=e;exact k (by rw[n];rfl)
  rw[this]
theorem Cx(v:Nat):IntKind.u8.wrap (v:Int)=((v%256:Nat):Int):=by grind [IntKind.wrap,IntKind.bits,IntKind.signed]
theorem agr{a j:Nat}(ha:a<8192):IntKind.u8.wrap (IntKind.i64.wrap ((a:Int)*2^(min ((j:Int)%8).toNat IntKind.i64.bits)))=((a*2^(j%8)%256:Nat):Int):=by
 have d:min ((j:Int)%8).toNat IntKind.i64.bits=j%8:=by show min _ 64=_;omega
 have b:(a:Int)*2^(j%8)=((a*2^(j%8):Nat):Int):=by simp
 have e:2^(j%8)≤2^7:=Nat.pow_le_pow_right aN ay;have k:a*2^(j%8)≤8192*128:=Nat.mul_le_mul ay e;rw[d,b,wrap_i64 ay,Cx]
def pk(i:Int):Nat→List Nat
 | 0=>[1]
 | k+1=>(iI (pk i k) [o9 (gG i) k,1]).take (aZ (iI (pk i k) [o9 (gG i) k,1]) ((pk i k).length+2))
def nA(p:List Nat):Nat→List Nat
 | 0=>replicate (p.length/8+1) 0
 | j+1=>(nA p j).set (j/8) ((nA p j).getD (j/8) 0 ||| (p.getD j 0*2^(j%8))%256)
theorem sO(p:List Nat):∀j,(nA p j).length=p.length/8+1
 | 0=>length_replicate
 | j+1=>by rw[nA,length_set,sO]
theorem Cm(p:List Nat):∀j,aA 256 (nA p j)
 | 0=>aA.wJ aN
 | j+1=>by
  have ih:=Cm p j;rw[nA];exact ih.set (or_lt_two_pow (n:=8) (ih.at_ aN _) (mod_lt _ aN))
def wz(p:List Nat):List Nat:=nA p p.length
def uE(i:Int):List Nat:=(wz (pk i 13)).take (aZ (wz (pk i 13)) ((pk i 13).length/8+1))
def GJ(i:Int):Bool:=decide (o9 (gG i) 13=gG i)&&(List.range 13).all (λj=>j=0||decide (o9 (gG i) j≠gG i))&&decide ((pk i 13).length≤1000)&&(List.range 14).all (λj=>decide ((pk i j).length≤1000))
theorem abH:[1,3,5,7,9,11,13,15].all GJ=true:=by kernel_rfl
theorem ajF{a b:Nat}(ha:a<256)(hb:b<256):bitsOf .or .u8 (a:Int) (b:Int)=((a ||| b:Nat):Int):=by
 have h:a ||| b<2^8:=or_lt_two_pow ha hb
 unfold bitsOf;dsimp only;rw[iG,iG,BitVec.toNat_or,BitVec.toNat_ofNat,BitVec.toNat_ofNat];have e:a%2^IntKind.u8.bits=a:=mod_eq_of_lt (by show a<2^8;omega);have d:b%2^IntKind.u8.bits=b:=mod_eq_of_lt (by show b<2^8;omega);rw[e,d];show IntKind.u8.wrap _=_;simp only[IntKind.wrap,IntKind.bits,IntKind.signed];simp;omega
theorem Xe(i:Int):aB prog 335 #[.i i] K F (λv H'=>∃b1,v= .func (.func 344) #[] #[ptr b1 0]∧H'=ah b1 3 [.i i]::F):=by
 refine aB.en func335 ntmps335 ?_;refine aj "a~k" λb1=> ?_;refine aj "w~2d" ?_;exact qR (ah b1 _ _::F) Z Z cO ⟨b1,Z,Z⟩
theorem Ko(hi: -9223372036854775808≤i∧i≤9223372036854775807)(hc:GJ i=true) :
 aB prog 319 #[.i i] K F (λv H'=>∃g cap,(uE i).length≤cap∧cap=(pk i 13).length/8+1∧v= .slice (some ⟨g,0,none⟩) (uE i).length cap∧H'=ah g 5 (av .u8 (wz (pk i 13)))::F):=by
 simp only[GJ,Bool.and_eq_true,decide_eq_true_eq,all_eq_true,mem_range,Bool.or_eq_true] at hc;obtain⟨⟨⟨aQ,bA⟩,eu⟩,mQ⟩:=hc;have o7:=λj=>MG (x:=gG i) (GA i) j;have qY:∀j,aA 8192 (pk i j):=λj=>by
  cases j with
  | zero=>intro x J;simp[pk] at J;omega
  | succ j=>exact aA.take (yE (λx J=>by simp at J;rcases J with rfl | rfl;exact o7 j;decide) _)
 refine aB.aaG func319 Z ntmps319 Z ?_;simp only[kV,reduceAdd];refine aj "aw" ?_;refine WL.buildSlice (E:=3) (cs:=[_]) (vs:=[(0,_)]) ⟨ak Z,trivial⟩ Z (dJ _) Z (λb8=>aj "v" λW=> ?_);refine aj "~+cr" ?_;refine WL.c1 call335 Z (Xe i) Z ?_;rintro _ _ ⟨P,rfl,rfl⟩;refine aj "cs" ?_;obtain⟨M0,B⟩:∃M0:Nat×List Nat×Nat×Nat→List aH,M0=λs=>ah W 124 [.slice (some ⟨s.1,0,none⟩) s.2.2.1 s.2.2.2]::ah s.1 3 (av .i64 s.2.1)::ah P 3 [.i i]::F:=⟨_,Z⟩;obtain⟨G,ZH⟩:∃G:Nat→Nat×List Nat×Nat×Nat→Prop,G=λj s=>s.2.1.take s.2.2.1=pk i j∧s.2.2.1≤s.2.1.length∧s.2.2.1≤s.2.2.2:=⟨_,Z⟩;refine WC.range (gf:=344) (lb:=[ptr P 0]) (Done:=λM=>∃s,G 13 s∧M=M0 s) (X:=λ_ _=>False) Z call344 (λr l O e2 e3 hA=> ?_) (λD M hd=> ?_) (λD c M h=>h.elim)
 suffices Ba:∀j s,j<13→G j s→jY prog K none l #[.i (o9 (gG i) j:Nat)] (r.A l .ready none::jT r.D::M0 s) (λb H'=>b=true∧∃s',G (j+1) s'∧H'=r.A l .ready none::jT r.D::M0 s') from by
  have aji:aB prog 344 #[.func (.yield l) #[] #[],ptr P 0] K (r.A l .ready none::jT r.D::M0 (b8,[1],1,1)) (λv H'=>∃s,G 13 s∧H'=r.A l .ready none::jT r.D::M0 s) :=
   Xk (r:=none) hi aN aQ (λj h1 h2=>by rcases bA j h2 with h | h;omega;exact h) G (λs=>r.A l .ready none::jT r.D::M0 s) (λj s h=>by rw[B];exact (Rd.here Z).up.up.up.up) Ba (b8,[1],1,1) (by rw[ZH];exact⟨Z,Nat.le_refl _,Nat.le_refl _⟩)
  exact (aji.sat λw h=>by rw[B];exact h.bg 5 [0,1,3,4,2] Z).mono λv H' ⟨s,hs,e⟩=>⟨none,_,e,s,hs,Z⟩
 rintro j ⟨g,a,d,T⟩ U N;refine jY.mono (CS (n:=46) (args:=[.i (o9 (gG i) j:Nat)]) (post:=λjj M=>jj=none∧∃s,G (j+1) s∧M=jT r.D::M0 s) (by rw[O];rfl) (by rw[O];simp) hA ?_) (λb H' ⟨jj,M,hb,⟨U,s,hs,e⟩,eH⟩=>by
  subst U hb e eH;exact⟨Z,s,hs,Z⟩)
 rw[O,e2];rw[ZH] at N;obtain⟨u,L,I⟩:=N;dsimp only at u L I;rw[B,ZH];dsimp only;refine WC.sub (E:=(11,_)::_) (Sub.refl _) cO ?_;have l7:(pk i j).length=d:=by rw[←u,length_take];omega
 have anj:=mQ j ay;have Oa:(iI (pk i j) [o9 (gG i) j,1]).length=d+2:=by unfold iI;rw[qc,l7];rfl
 have Ws:=iy (iI (pk i j) [o9 (gG i) j,1]) (d+2);have Oi:∀ {H:List aH},Seq K (ah g 3 (av .i64 a)::H) (some ⟨g,0,none⟩) d 1 (av .i64 (pk i j)):=λ{H}=>Seq.here (by rw[au,l7];omega) (by rw[←u,←dU,drop_zero];exact take_prefix _ _)
 ·skip
  refine aj "po" ?_;refine⟨_,λw h=>h, ?_⟩;rw[e3];refine aj "sp<b" ?_;refine WL.buildSlice (E:=3) (cs:=[_,_]) (vs:=[(0,_),(1,_)]) ⟨ak Z,ak Z,trivial⟩ Z (p9 _ _) Z (λx0=> ?_);refine WL.c2 call336 Z Z (abl (ps:=pk i j) (qs:=[o9 (gG i) j,1]) (by repeat (first | exact Oi | apply Seq.up)) (Seq.Gb (k:= .i64) (xs:=[o9 (gG i) j,1]) Z) (qY j) (λx J=>by simp at J;rcases J with rfl | rfl;exact o7 j;decide) (by show (pk i j).length+2≤1000000;omega)) Z ?_;rintro _ _ ⟨g2,rfl,rfl⟩;refine aj "5~oc" ?_;refine⟨_,λw h=>h.bg 7 [2,3,4,0,6] Z,Z,(g2,iI (pk i j) [o9 (gG i) j,1],aZ (iI (pk i j) [o9 (gG i) j,1]) ((pk i j).length+2),(pk i j).length+2),⟨Z, ?_, ?_⟩,Z⟩
  ·show aZ _ _≤(iI _ _).length;rw[Oa,l7];exact Ws
  ·show aZ _ _≤(pk i j).length+2;rw[l7];exact Ws
 ·skip
  obtain⟨⟨g,a,d,T⟩,N,rfl⟩:=hd;rw[ZH] at N;obtain⟨u,L,I⟩:=N;dsimp only at u L I;rw[B];have l7:(pk i 13).length=d:=by rw[←u,length_take];omega
  have Oi:∀ {H:List aH},Seq K (ah g 3 (av .i64 a)::H) (some ⟨g,0,none⟩) d 1 (av .i64 (pk i 13)):=λ{H}=>Seq.here (by rw[au,l7];omega) (by rw[←u,←dU,drop_zero];exact take_prefix _ _);refine WC.sub (E:=_) (H':=jT D::ah W 124 [.slice (some ⟨g,0,none⟩) d T]::ah g 3 (av .i64 a)::F) (Sub.refl _) (λw h=>h.bg 4 [0,1,2] Z)<|aj "a<j~:Z" ?_;refine WL.nM (m:=d/8+1) underlying34 yL (ak Z) (ak Z) ay ay ay Z Z Z (λy=>aj "ta<jR" ?_);refine WC.loop (σ:=Nat) (λj=>[(5,.slice (some ⟨y,0,none⟩) (d/8+1) (d/8+1)),(24,.slice (some ⟨g,0,none⟩) d T),(25,.i (d:Int)),(26,.i (j:Int))]) (λj=>ah y 5 (av .u8 (nA (pk i 13) j))::jT D::ah g 3 (av .i64 a)::F) (λj=>j≤d) (λj=>d-j) 0 (zero_le _) bC (λw h=>(h.bg 4 [0,1,3] Z).aT (by rw[nA,l7,eD];rfl)) ?_;rintro j U;refine aj "V1" (aW (λaL=> ?_) λaL=> ?_)
  ·refine aj "EL" ?_;have x2:j<d:=ay;have xO:∀ {X Y:aH},Rd K (X::Y::ah g 3 (av .i64 a)::F) ((some ⟨g,0,none⟩:Option Addr).map (·.add ((j:Int).toNat*1))) (.i ((pk i 13).getD j 0:Nat)):=λ{X Y}=>by
    rw[show (j:Int).toNat=j by omega];exact (Oi.jo ay).up.up
   have S:=(qY 13).at_ aN j;have zN:=sO (pk i 13) j;have Q:(av .u8 (nA (pk i 13) j))[0+((j:Int)/8).toNat*1]? =some (.int .u8 ((nA (pk i 13) j).getD (j/8) 0:Nat)):=by rw[show 0+((j:Int)/8).toNat*1=j/8 by omega];exact jH _ _ ay
   refine aj "g" ?_;refine WL.val (V.dw eB (ak Z) (ak Z) (λhc=>by omega) (λhc=>xO)) Z<|WL.val (V.load isAgg3 (ak Z) (λhc=>xO)) Z<|aj "lo" ?_;refine WC.dM (jT D::ah g 3 (av .i64 a)::F) (by kernel_rfl)<|aj "n0n1~~U2~e3n5n6" ?_;refine WA.t 7 Z (V.Av (ak Z) (ak Z) Jy) ?_;refine aj "~~;8" ?_;refine WA.t 9 Z (V.aG (v':= .int .u8 (((pk i 13).getD j 0*2^(j%8)%256:Nat):Int)) (V.FC runUnderlying3 runUnderlying5 (ak Z)) (λ_=>by rw[agr S])) ?_;refine WA.o 4 Z ?_;refine WL.val (V.load isAgg5 (ak Z) (λhc=>Rd.here Q)) Z<|WL.nil<|WA.t 10 Z (V.aG (v':= .int .u8 (((nA (pk i 13) j).getD (j/8) 0 ||| ((pk i 13).getD j 0*2^(j%8))%256:Nat):Int)) (V.or (ak Z) (ak Z)) (λ_=>by rw[ajF ((Cm _ j).at_ aN _) (mod_lt _ aN)])) ?_;refine aj "~e;m<" ?_;refine WL.store (cs:=[_]) sizeOf5 (ak Z) (ak Z) Z Z Z (bT.at_ (by rw[au];omega))<|aj "*8" ?_;refine⟨j+1,(by show j+1≤d;omega),(by show d-(j+1)<d-j;omega),.cons Z bC,λw h=>Sat.aT h ?_⟩;rw[show 0+((j:Int)/8).toNat*1=j/8 by omega,lu,nA]
  ·refine aj "W" ?_;obtain rfl:j=d:=by omega
   have R:nA (pk i 13) j=wz (pk i 13):=by unfold wz;rw[l7]
   rw[R];have ajI:(wz (pk i 13)).length=j/8+1:=by unfold wz;rw[sO,l7]
   refine aj "g" ?_;refine WL.t1 call320 Z (qN (xs:=wz (pk i 13)) (Seq.Gb ajI) (Nat.le_refl _) ay) Z<|aj "d" ?_;have JG:(uE i).length=aZ (wz (pk i 13)) (j/8+1):=by
    unfold uE;have :=iy (wz (pk i 13)) (j/8+1);rw[length_take,l7,ajI];omega
   exact mZ.agu (ah y 5 (av .u8 (wz (pk i 13)))::F) (λw h=>h.bg 3 [1,0] Z) (bJ.tmp Z Z) cO ⟨y,j/8+1,by rw[JG];exact iy _ _,by rw[l7],by rw[JG],Z⟩
theorem MQ{a b:Nat}(ha:a<256)(hb:b<256):bitsOf .xor .u8 (a:Int) (b:Int)=((a ^^^ b:Nat):Int):=by
 have h:a ^^^ b<2^8:=xor_lt_two_pow ha hb;unfold bitsOf;dsimp only;rw[iG,iG,BitVec.toNat_xor,BitVec.toNat_ofNat,BitVec.toNat_ofNat];have e:a%2^IntKind.u8.bits=a:=mod_eq_of_lt (by show a<2^8;omega);have d:b%2^IntKind.u8.bits=b:=mod_eq_of_lt (by show b<2^8;omega);rw[e,d];show IntKind.u8.wrap _=_;rw[Cx];omega
theorem Bh{a:Nat}(ha:a<256):bitsOf .and .u8 (a:Int) 1=((a%2:Nat):Int):=by
 unfold bitsOf;dsimp only;rw[show (1:Int)=((1:Nat):Int) from Z,iG,iG,BitVec.toNat_and,BitVec.toNat_ofNat,BitVec.toNat_ofNat];have d:a%2^IntKind.u8.bits=a:=mod_eq_of_lt (by show a<2^8;omega);have b:1%2^IntKind.u8.bits=1:=rfl;rw[d,b,and_one_is_mod];show IntKind.u8.wrap _=_;rw[Cx];omega
theorem GH{a j:Nat}(hj:j≤k):(a:Int).fdiv (2^(min (j:Int).toNat k))=((a/2^j:Nat):Int):=by grind
theorem adf{a j:Nat}(ha:a<256)(hj:j<8):IntKind.u16.wrap ((a:Int)*2^(min (j:Int).toNat IntKind.u16.bits))=((a*2^j:Nat):Int):=by
 have d:min (j:Int).toNat IntKind.u16.bits=j:=by show min _ 16=_;omega
 have e:2^j≤2^7:=Nat.pow_le_pow_right aN ay;have k:a*2^j≤255*128:=Nat.mul_le_mul ay e;have b:(a:Int)*2^j=((a*2^j:Nat):Int):=by simp
 rw[d,b];simp only[IntKind.wrap,IntKind.bits,IntKind.signed];simp;omega
theorem rR(h:xs <+: ys):av k xs <+: av k ys:=h.map _
def Ak(p:List Nat)(i:Nat):Bool:=(p.getD (i/8) 0).testBit (i%8)
def mI(out p:List Nat)(at_:Nat):Nat→List Nat
 | 0=>out
 | j+1 =>
  let o:=mI out p at_ j
  let w:=p.getD j 0*2^(at_%8)
  let o1:=o.set (j+at_/8) (o.getD (j+at_/8) 0 ^^^ w%256)
  if 255<w then o1.set (j+at_/8+1) (o1.getD (j+at_/8+1) 0 ^^^ w/256) else o1
theorem mW(out p:List Nat)(at_:Nat):∀j,(mI out p at_ j).length=out.length
 | 0=>rfl
 | j+1=>by
  rw[mI];split<;>simp[mW out p at_ j]
theorem su(h:aA 256 out)(hp:aA 256 p):∀j,aA 256 (mI out p at_ j)
 | 0=>h
 | j+1=>by
  have ih:=su (at_:=at_) h hp j;have a:=ih.set (i:=j+at_/8) (je (k:=8) (ih.at_ aN (j+at_/8)) (mod_lt (p.getD j 0*2^(at_%8)) (y:=256) aN));rw[mI];split
  ·refine a.set (je (k:=8) (a.at_ aN _) ?_);have b:2^(at_%8)≤2^7:=Nat.pow_le_pow_right aN ay;have d:p.getD j 0*2^(at_%8)≤255*128:=Nat.mul_le_mul (by have :=hp.at_ aN j;omega) b;omega
  ·exact a
def kY(p q:List Nat):Nat→List Nat
 | 0=>replicate (p.length+q.length+1) 0
 | i+1=>if Ak p i then mI (kY p q i) q i q.length else kY p q i
def iZ(p q:List Nat):List Nat:=kY p q (8*p.length)
theorem iU(p q:List Nat):∀i,(kY p q i).length=p.length+q.length+1
 | 0=>length_replicate
 | i+1=>by rw[kY];split;rw[mW,iU];exact iU p q i
theorem pX(hq:aA 256 q):∀i,aA 256 (kY p q i)
 | 0=>aA.wJ aN
 | i+1=>by rw[kY];split;exact su (pX hq i) hq _;exact pX hq i
theorem KV(hs:Seq K F A m 1 (av .u8 xs))(hx:aA 256 xs)(hi:i<8*m)(hm:m≤1000000):aK prog 322 #[.slice A m cap,.i (i:Int)] K F (.bool (Ak xs i)):=by
 have xO:Rd K F (A.map (·.add (((i:Int)/8).toNat*1))) (.int .u8 (xs.getD (i/8) 0:Nat)):=by
  rw[show ((i:Int)/8).toNat=i/8 by omega];exact hs.jo ay
 have b:=hx.at_ aN (i/8);refine aB.en func322 ntmps322 ?_;refine aj "a0~:" ?_;refine WL.val (V.dw dO (ak Z) (ak Z) (λa=>by omega) (λa=>xO)) Z<|WL.val (V.load isAgg5 (ak Z) (λa=>xO)) Z<|WL.mv Z Z<|WL.val (V.aG (v':= .i ((i%8:Nat):Int)) (V.Av (ak Z) (ak Z) (λ_=>by omega)) (λ_=>by simp)) Z<|WL.val (V.aG (v':= .int .u8 ((xs.getD (i/8) 0/2^(i%8):Nat):Int)) (V.shr (ak Z) (ak Z) ay) (λ_=>by rw[GH (by show i%8≤8;omega)])) Z<|WL.val (V.aG (v':= .int .u8 ((xs.getD (i/8) 0/2^(i%8)%2:Nat):Int)) (V.and (ak Z) (ak Z)) (λ_=>by rw[Bh (Nat.lt_of_le_of_lt (div_le_self _ _) b)])) Z<|aj ";d:" ?_;congr 1;unfold Ak;rw[testBit_eq_decide_div_mod_eq];apply decide_eq_decide.2;omega
theorem KW(hN:out.length=N)(ho:aA 256 out)(hs:Seq K F B m 1 (av .u8 p))(hp:aA 256 p)(Zb:m+at_/8<N)(kS:N≤1000000) :
 aB prog 323 #[.slice (some ⟨g,0,none⟩) N cap,.slice B m cap',.i (at_:Int)] K (ah g 5 (av .u8 out)::F)
  (λv H'=>H'=ah g 5 (av .u8 (mI out p at_ m))::F):=by
 have G:p.length=m:=by simpa [av] using hs.len
 have ash:at_<8000008:=ay
 refine aB.en func323 ntmps323 ?_;refine aj "ejR" ?_;refine WC.loop (σ:=Nat) (λj=>[(0,.slice (some ⟨g,0,none⟩) N cap),(2,.i (at_:Int)),(9,.slice B m cap'),(10,.i (m:Int)),(11,.i (j:Int))]) (λj=>ah g 5 (av .u8 (mI out p at_ j))::F) (λj=>j≤m) (λj=>m-j) 0 (zero_le _) bC cO ?_;rintro j I;refine aj "V1" (aW (λaL=> ?_) λaL=> ?_)
 ·refine aj "EL" ?_;have D:j<m:=ay;obtain⟨o,e⟩:∃o,o=mI out p at_ j:=⟨_,Z⟩
  have Gh:o.length=N:=by rw[e,mW];exact hN
  have Zy:aA 256 o:=by rw[e];exact su ho hp j
  rw[←e];obtain⟨x,r⟩:∃x,x=p.getD j 0:=⟨_,Z⟩;have u:x<256:=by rw[r];exact hp.at_ aN j
  have xO:Rd K (ah g 5 (av .u8 o)::F) (B.map (·.add ((j:Int).toNat*1))) (.int .u8 (x:Nat)):=by
   rw[show (j:Int).toNat=j by omega,r];exact (hs.jo ay).up
  obtain⟨a,l⟩:∃a,a=x*2^(at_%8):=⟨_,Z⟩;have atK:a<32768:=by
   have y:2^(at_%8)≤2^7:=Nat.pow_le_pow_right aN ay;have H:x*2^(at_%8)≤255*128:=Nat.mul_le_mul ay y;omega
  obtain⟨b,d⟩:∃b,b=o.set (j+at_/8) (o.getD (j+at_/8) 0 ^^^ a%256):=⟨_,Z⟩;have arK:b.length=N:=by rw[d,length_set];exact Gh
  have aoq:aA 256 b:=by rw[d];exact Zy.set (je (k:=8) (Zy.at_ aN _) (mod_lt _ aN))
  have Wn:mI out p at_ (j+1)=if 255<a then b.set (j+at_/8+1) (b.getD (j+at_/8+1) 0 ^^^ a/256) else b:=by rw[mI,←e,←r,←l,←d]
  have EH:(av .u8 o)[0+(((j:Int)+(at_:Int)/8)).toNat*1]? =some (.int .u8 (o.getD (j+at_/8) 0:Nat)):=by rw[show 0+(((j:Int)+(at_:Int)/8)).toNat*1=j+at_/8 by omega];exact jH _ _ ay
  have U1:(av .u8 b)[0+(((j:Int)+(at_:Int)/8+1)).toNat*1]? =some (.int .u8 (b.getD (j+at_/8+1) 0:Nat)):=by rw[show 0+(((j:Int)+(at_:Int)/8+1)).toNat*1=j+at_/8+1 by omega];exact jH _ _ ay
  refine aj "g" ?_;refine WL.val (V.dw dO (ak Z) (ak Z) (λn=>by omega) (λn=>xO)) Z<|WL.val (V.load isAgg5 (ak Z) (λn=>xO)) Z<|aj "li" ?_;refine WL.val (V.uy runUnderlying5 runUnderlying401 (ak Z) (λ_=>by simp only[IntKind.wrap,IntKind.bits,IntKind.signed];simp;omega)) Z<|WL.mv Z Z<|WL.val (V.aG (v':= .i ((at_%8:Nat):Int)) (V.Av (ak Z) (ak Z) (λ_=>by omega)) (λ_=>by simp)) Z<|WL.val (V.aG (v':= .int .u16 (a:Int)) (V.shl (ak Z) (ak Z) ay) (λ_=>by rw[adf u ay,l])) Z<|aj "ix~:Z~x" ?_;refine WL.val (V.load isAgg5 (ak Z) (λn=>Rd.here EH)) Z<|WL.mv Z Z<|WL.val (V.aG (v':= .int .u8 ((a%256:Nat):Int)) (V.FC runUnderlying401 runUnderlying5 (ak Z)) (λ_=>by rw[Cx])) Z<|WL.val (V.aG (v':= .int .u8 ((o.getD (j+at_/8) 0 ^^^ a%256:Nat):Int)) (V.xor (ak Z) (ak Z)) (λ_=>by rw[MQ (Zy.at_ aN _) (mod_lt _ aN)])) Z<|aj "~x" ?_;refine WL.store (cs:=[_]) sizeOf5 (ak Z) (ak Z) Z Z Z (bT.at_ (by rw[au];omega)) ?_;rw[show 0+(((j:Int)+(at_:Int)/8)).toNat*1=j+at_/8 by omega,lu,←d];refine aj "ce~Hc1" (aW (λaQ=> ?_) λaQ=> ?_)
  ·rw[if_pos ay] at Wn;refine aj "gx~:ZZ~x" ?_;refine WL.val (V.load isAgg5 (ak Z) (λn=>Rd.here U1)) Z<|WL.mv Z Z<|WL.val (V.aG (v':= .int .u16 ((a/256:Nat):Int)) (V.shr (ak Z) (ak Z) aN) (λ_=>by rw[show (8:Int)=((8:Nat):Int) from Z,GH (by show 8≤16;decide)])) Z<|WL.val (V.aG (v':= .int .u8 ((a/256:Nat):Int)) (V.FC runUnderlying401 runUnderlying5 (ak Z)) (λ_=>by rw[Cx];congr 2;omega)) Z<|WL.val (V.aG (v':= .int .u8 ((b.getD (j+at_/8+1) 0 ^^^ a/256:Nat):Int)) (V.xor (ak Z) (ak Z)) (λ_=>by rw[MQ (aoq.at_ aN _) ay])) Z<|aj "~x" ?_;refine WL.store (cs:=[_]) sizeOf5 (ak Z) (ak Z) Z Z Z (bT.at_ (by rw[au];omega)) ?_;rw[show 0+(((j:Int)+(at_:Int)/8+1)).toNat*1=j+at_/8+1 by omega,lu];refine aj "c8" ?_;exact⟨j+1,(by show j+1≤m;omega),(by show m-(j+1)<m-j;omega),.cons Z bC,λw h=>Sat.aT h (by rw[Wn])⟩
  ·rw[if_neg ay] at Wn;refine aj "q8" ?_;exact⟨j+1,(by show j+1≤m;omega),(by show m-(j+1)<m-j;omega),.cons Z bC,λw h=>Sat.aT h (by rw[Wn])⟩
 ·refine WC.exit ?_;obtain rfl:j=m:=by omega
  exact aF.normal (H':=ah g _ _::F) (bJ.none Z) cO Z
theorem KI(hs:Seq K F A m 1 (av .u8 ps))(hq:Seq K F B q 1 (av .u8 qs))(V4:aA 256 ps)(ZK:aA 256 qs)(kS:ps.length+qs.length≤100000) :
 aB prog 281 #[.slice A m Ml,.slice B q cap'] K F
  (λv H'=>∃g,v= .slice (some ⟨g,0,none⟩) (aZ (iZ ps qs) (ps.length+qs.length+1)) (ps.length+qs.length+1)∧H'=ah g 5 (av .u8 (iZ ps qs))::F):=by
 have b:ps.length=m:=by simpa [av] using hs.len
 have Ki:qs.length=q:=by simpa [av] using hq.len
 refine aB.en func281 ntmps281 ?_;refine aj "aijbjZZ" ?_;refine WL.nM (m:=m+q+1) underlying34 yL (ak Z) (ak Z) ay ay ay Z Z Z (λa=>aj "fj~ER" ?_);refine WC.loop (σ:=Nat) (λj=>[(0,.slice A m Ml),(1,.slice B q cap'),(5,.slice (some ⟨a,0,none⟩) (m+q+1) (m+q+1)),(16,.i (8*(m:Int))),(17,.i (j:Int))]) (λj=>ah a 5 (av .u8 (kY ps qs j))::F) (λj=>j≤8*m) (λj=>8*m-j) 0 (zero_le _) bC (λw h=>Sat.aT h (by rw[kY,b,Ki,eD];rfl)) ?_;rintro j k;refine aj "V1" (aW (λaL=> ?_) λaL=> ?_)
 ·refine aj "Y0" ?_;refine WL.t2 call322 Z Z (KV (by repeat (first | exact hs | apply Seq.up)) V4 ay ay) Z<|aj "h" (aW (λd=> ?_) λd=> ?_)
  ·refine aj "gx" ?_;refine WL.c3 call323 Z Z Z (KW (N:=m+q+1) (by rw[iU,b,Ki]) (pX ZK j) hq ZK ay ay) Z ?_;rintro l _ rfl;refine aj "c8" ?_;refine⟨j+1,(by show j+1≤8*m;omega),(by show 8*m-(j+1)<8*m-j;omega),.cons Z bC,λw h=>Sat.aT h ?_⟩;rw[kY,d];simp[Ki]
  ·refine aj "q8" ?_;refine⟨j+1,(by show j+1≤8*m;omega),(by show 8*m-(j+1)<8*m-j;omega),.cons Z bC,λw h=>Sat.aT h ?_⟩;rw[kY,d];simp[Ki]
 ·refine aj "W" ?_;obtain rfl:j=8*m:=by omega
  have e:kY ps qs (8*m)=iZ ps qs:=by unfold iZ;rw[b]
  rw[e];have BI:(iZ ps qs).length=m+q+1:=by unfold iZ;rw[iU,b,Ki]
  refine aj "g" ?_;refine WL.t1 call320 Z (qN (xs:=iZ ps qs) (Seq.Gb BI) (Nat.le_refl _) ay) Z<|aj "d" ?_;exact qR (ah a _ _::F) Z Z cO ⟨a,by rw[b,Ki],Z⟩
def N8(x:Nat):Nat:=if x=0 then 0 else log2 x+1
theorem aeb{s:ByteArray}(h:((List.range 256).all λx=>decide (s[x]? =some (UInt8.ofNat (N8 x))))=true)(hx:x<256):s[x]? =some (UInt8.ofNat (N8 x)):=by grind
theorem VY(h:x<256):N8 x≤8:=by
 unfold N8;split
 ·omega
 ·rename_i a;have :=(log2_lt a (k:=8)).2 h;omega
def TW(xs:List Nat)(m:Nat):Int:=if aZ xs m=0 then-1 else 8*(aZ xs m:Int)-8+(N8 (xs.getD (aZ xs m-1) 0):Nat)-1
def gW(p q:List Nat)(lq d:Nat):Nat→List Nat
 | 0=>p++[0]
 | k+1=>if Ak (gW p q lq d k) (8*p.length-1-k) then mI (gW p q lq d k) q (8*p.length-1-k-d) lq else gW p q lq d k
theorem gy(p q:List Nat)(lq d:Nat):∀k,(gW p q lq d k).length=p.length+1
 | 0=>by simp[gW]
 | k+1=>by rw[gW];split;rw[mW,gy];exact gy p q lq d k
theorem jq(hp:aA 256 p)(hq:aA 256 q):∀k,aA 256 (gW p q lq d k)
 | 0=>hp.append (λx hx=>by simp at hx;omega)
 | k+1=>by rw[gW];split;exact su (jq hp hq k) hq _;exact jq hp hq k
theorem Y4{x:Nat}(hx:x<256):aK prog 337 #[.int .u8 (x:Int)] K F (.i (N8 x:Nat)):=by
 have d:=VY hx;have a:(UInt8.ofNat (N8 x)).toNat=N8 x:=by rw[UInt8.toNat_ofNat'];omega
 refine aB.en func337 ntmps337 ?_;refine aj "ai" ?_;refine WL.val (V.ahb (b:=UInt8.ofNat (N8 x)) underlying9 (ak Z) (ak Z) (λ_=>⟨by omega,by rw[show ((x:Nat):Int).toNat=x by omega];exact aeb (by kernel_rfl) hx⟩)) Z<|WL.val (V.uy runUnderlying5 runUnderlying3 (ak Z) (λ_=>wrap_i64 ay)) Z<|aj "d" ?_;exact qR F Z Z cO ⟨by rw[a],Z⟩
theorem NZ(hs:Seq K F A m 1 (av .u8 xs))(hx:aA 256 xs)(kS:m≤cap)(hm:m≤100000):aK prog 321 #[.slice A m cap] K F (.i (TW xs m)):=by
 have d:=iy xs m;refine aB.en func321 ntmps321 ?_;refine aj "ai" ?_;refine WL.t1 call320 Z (qN hs kS ay) Z<|aj "fj;c1" (aW (λaL=> ?_) λaL=> ?_)
 ·refine aj "D:" ?_;unfold TW;rw[if_pos ay]
 ·refine aj "|" ?_;have kr:Rd K F (A.map (·.add (((aZ xs m:Int)-1).toNat*1))) (.int .u8 (xs.getD (aZ xs m-1) 0:Nat)):=by
   rw[show ((aZ xs m:Int)-1).toNat=aZ xs m-1 by omega];exact hs.jo ay
  have a:=hx.at_ aN (aZ xs m-1);have Gs:=VY a;refine aj "gj~E)xj)" ?_;refine WL.val (V.dw dO (ak Z) (ak Z) (λb=>by omega) (λb=>kr)) Z<|WL.val (V.load isAgg5 (ak Z) (λb=>kr)) Z<|WL.t1 call337 Z (Y4 a) Z<|aj "Z)d:" ?_;unfold TW;rw[if_neg ay]
theorem Yd{d:Nat}(hs:Seq K F A m 1 (av .u8 ps))(hq:Seq K F B q 1 (av .u8 qs))(V4:aA 256 ps)(ZK:aA 256 qs)(hqc:q≤cap')(kS:ps.length+qs.length≤100000)
 (hd:TW qs q=(d:Int)) (hdd:TW (qs.take (aZ qs q)) (aZ qs q)=(d:Int)) (RX:aZ qs q=d/8+1) :
 aB prog 280 #[.slice A m Ml,.slice B q cap'] K F
  (λv H'=>∃g,v= .tuple #[.slice (some ⟨g,0,none⟩) (aZ (gW ps (qs.take (aZ qs q)) (aZ qs q) d (8*m-d)) (m+1)) (m+1),.i 0]∧H'=ah g 5 (av .u8 (gW ps (qs.take (aZ qs q)) (aZ qs q) d (8*m-d)))::F):=by
 have r:ps.length=m:=by simpa [av] using hs.len
 have Ki:qs.length=q:=by simpa [av] using hq.len
 have Ws:=iy qs q;obtain⟨l,RL⟩:∃l,l=aZ qs q:=⟨_,Z⟩;obtain⟨n,j⟩:∃n,n=qs.take (aZ qs q):=⟨_,Z⟩;have H:n.length=l:=by rw[j,length_take,RL];omega
 have b:aA 256 n:=by rw[j];exact ZK.take
 have u:Seq K F B l 1 (av .u8 n):=by rw[j,RL,←dU];exact Seq.take hq Ws
 rw[←j,←RL] at hdd ⊢;rw[←RL] at RX Ws;obtain⟨a,x⟩:∃a,a=8*m-d:=⟨_,Z⟩;rw[←x];refine aB.en func280 ntmps280 ?_;refine aj "ali" ?_;refine WL.t1 call320 Z (aK.eq (v':= .slice B l cap') (qN hq hqc ay) (by rw[RL])) Z<|aj "i" ?_;refine WL.t1 call321 Z (aK.eq (v':= .i (d:Int)) (NZ u b ay ay) (by rw[hdd])) Z<|aj "fPc" ?_;refine WC.ni Z ((by simp))<|aj "TjZ" ?_;refine WL.nM (m:=m+1) underlying34 yL (ak Z) (ak Z) ay ay ay Z Z Z (λe=>aj "0" ?_);refine WL.yY dO (ak Z) (ak Z) (by repeat (first | exact hs | apply Seq.up)) ay (jB _ _) (bT.front (by simp[av];omega)) Z<|aj "crj~E)os" ?_;refine WC.loop (σ:=Nat) (λk=>[(1,.slice B l cap'),(6,.i (d:Int)),(7,.slice (some ⟨e,0,none⟩) (m+1) (m+1)),(8,.i (8*(m:Int)-1-(k:Int)))]) (λk=>ah e 5 (av .u8 (gW ps n l d k))::F) (λk=>k≤a) (λk=>a-k) 0 (zero_le _) bC (λw h=>Sat.aT h (by rw[gW,dx,au,r,drop_replicate,show m+1-m=1 by omega];rfl)) ?_;rintro k J;refine aj "rb~gc1" (aW (λaQ=> ?_) λaQ=> ?_)
 ·have G:k<a:=ay;have D:8*(m:Int)-1-(k:Int)=((8*m-1-k:Nat):Int):=ay;rw[D];refine aj "Yb" ?_;refine WL.t2 call322 Z Z (KV (Seq.Gb (by rw[gy,r])) (jq V4 b k) ay ay) Z<|aj "h" (aW (λy=> ?_) λy=> ?_)
  ·refine aj "gxb" ?_;refine WL.val (V.aG (v':= .i ((8*m-1-k-d:Nat):Int)) (V.Eo (ak Z) (ak Z) (λ_=>by omega)) (λ_=>by congr 1;omega)) Z<|WL.c3 call323 Z Z Z (KW (N:=m+1) (by rw[gy,r]) (jq V4 b k) u b ay ay) Z ?_;rintro I _ rfl;refine aj "cg)N" ?_;refine⟨k+1,(by show k+1≤a;omega),(by show a-(k+1)<a-k;omega),.cons Z (.cons Z (.cons Z (.cons (look_eq Z (by simp;omega)) (.nil _)))),λw h=>Sat.aT h ?_⟩;rw[gW,r,y];simp
  ·refine aj "qg)N" ?_;refine⟨k+1,(by show k+1≤a;omega),(by show a-(k+1)<a-k;omega),.cons Z (.cons Z (.cons Z (.cons (look_eq Z (by simp;omega)) (.nil _)))),λw h=>Sat.aT h ?_⟩;rw[gW,r,y];simp
 ·refine aj "W" ?_;obtain rfl:k=a:=by omega
  refine aj "g" ?_;refine WL.t1 call320 Z (qN (xs:=gW ps n l d k) (Seq.Gb (by rw[gy,r])) (Nat.le_refl _) ay) Z<|aj "F" ?_;exact aF.ret (H':=ah e _ _::F) (bJ.eU Z Z Z) cO ⟨e,Z,Z⟩
def fO:Nat→List Nat
 | 0=>[1]
 | k+1=>(iZ (fO k) (uE (2*k+1:Nat))).take (aZ (iZ (fO k) (uE (2*k+1:Nat))) ((fO k).length+(uE (2*k+1:Nat)).length+1))
def Z8(k:Nat):Bool:=decide ((fO k).length≤1000)&&decide ((uE (2*k+1:Nat)).length≤1000)&&(fO k).all (λx=>decide (x<256))&&(uE (2*k+1:Nat)).all (λx=>decide (x<256))
theorem ahq:(List.range 8).all Z8=true:=by kernel_rfl
theorem F7{t:Nat}(ht:1≤t∧t≤8) :
 aB prog 279 #[.i (t:Int)] K F (λv H'=>∃g full cap,v= .tuple #[.slice (some ⟨g,0,none⟩) (fO t).length cap,.i 0]∧(fO t).length≤cap∧(fO t)=full.take (fO t).length∧H'=ah g 5 (av .u8 full)::F):=by
 have jh:∀k,k<8→Z8 k=true:=λk d=>all_eq_true.1 ahq k (mem_range.2 d);have Y5:∀k,k<8→GJ ((2*k+1:Nat):Int)=true:=λk d=>by
  have h:=all_eq_true.1 abH;have :((2*k+1:Nat):Int)∈[1,3,5,7,9,11,13,(15:Int)]:=by
   simp only[mem_cons,not_mem_nil,or_false];omega
  exact h _ this
 refine aB.en func279 ntmps279 ?_;refine aj "alfP%~jIc~&7" ?_;refine WL.buildSlice (E:=5) (cs:=[_]) (vs:=[(0,_)]) ⟨ak Z,trivial⟩ Z (jc _) Z (λe=>aj "taos" ?_);refine WC.loop (σ:=Nat×Nat×List Nat×Nat) (λx=>[(0,.i (t:Int)),(4,.slice (some ⟨x.2.1,0,none⟩) (fO x.1).length x.2.2.2),(5,.i ((2*x.1+1:Nat):Int))]) (λx=>ah x.2.1 5 (av .u8 x.2.2.1)::F) (λx=>x.1≤t∧(fO x.1).length≤x.2.2.2∧fO x.1=x.2.2.1.take (fO x.1).length) (λx=>t-x.1) (0,e,[1],1) ⟨zero_le _,Nat.le_refl _,Z⟩ bC cO ?_;rintro⟨k,g,full,cp⟩ ⟨d,ZG,hfu⟩;dsimp only at d ZG hfu ⊢;refine aj "rb~EPc1" (aW (λaQ=> ?_) λaQ=> ?_)
 ·have b:k<8:=ay;have r:=jh k b;simp only[Z8,Bool.and_eq_true,decide_eq_true_eq,all_eq_true] at r;obtain⟨⟨⟨G,u⟩,m⟩,l⟩:=r;have Od:∀ {H:List aH},Seq K (ah g 5 (av .u8 full)::H) (some ⟨g,0,none⟩) (fO k).length 1 (av .u8 (fO k)):=λ{H}=>Seq.here (by rw[au];omega) (by rw[drop_zero];exact rR (by rw[hfu];exact take_prefix _ _));refine aj "Egb" ?_;refine WL.c1 call319 Z (Ko ay (Y5 k b)) Z ?_;rintro _ _ ⟨n,c2,D,y,rfl,rfl⟩;have j:∀ {H:List aH},Seq K (ah n 5 (av .u8 (wz (pk ((2*k+1:Nat):Int) 13)))::H) (some ⟨n,0,none⟩) (uE ((2*k+1:Nat):Int)).length 1 (av .u8 (uE ((2*k+1:Nat):Int))):=λ{H}=>Seq.here (by rw[au];omega) (by rw[drop_zero];exact rR (take_prefix _ _));refine WL.c2 call281 Z Z (KI (ps:=fO k) (qs:=uE ((2*k+1:Nat):Int)) (by repeat (first | exact Od | apply Seq.up)) j m l ay) Z ?_;rintro _ _ ⟨B,rfl,rfl⟩;refine aj "OZN" ?_;have Ws:=iy (iZ (fO k) (uE ((2*k+1:Nat):Int))) ((fO k).length+(uE ((2*k+1:Nat):Int)).length+1);have BI:(iZ (fO k) (uE ((2*k+1:Nat):Int))).length=(fO k).length+(uE ((2*k+1:Nat):Int)).length+1:=by unfold iZ;rw[iU]
  have a:(fO (k+1)).length=aZ (iZ (fO k) (uE ((2*k+1:Nat):Int))) ((fO k).length+(uE ((2*k+1:Nat):Int)).length+1):=by rw[fO,length_take,BI];omega
  exact⟨(k+1,B,iZ (fO k) (uE ((2*k+1:Nat):Int)),(fO k).length+(uE ((2*k+1:Nat):Int)).length+1),⟨by show k+1≤t;omega,by rw[a];exact Ws,by rw[a];rfl⟩,(by show t-(k+1)<t-k;omega),.cons Z (.cons (look_eq Z (by rw[a])) (.cons (look_eq Z (by simp;omega)) (.nil _))),λw h=>h.bg 3 [0] Z⟩
 ·refine aj "KeF" ?_;obtain rfl:k=t:=by omega
  exact aF.ret (H':=ah g _ _::F) (bJ.eU Z Z Z) cO ⟨g,full,cp,Z,ZG,hfu,Z⟩
def OI(x j:Nat):Nat:=x &&& (255 ^^^ 2^j)
theorem Lb{x j:Nat}(hx:x<256)(hj:j<8):bitsOf .andNot .u8 (x:Int) (IntKind.u8.wrap (1*2^(min (j:Int).toNat IntKind.u8.bits)))=(OI x j:Nat)∧OI x j<256:=by
 have h:((List.range 256).all λa=>(List.range 8).all λj=>decide (bitsOf .andNot .u8 ((a:Nat):Int) (IntKind.u8.wrap (1*2^(min ((j:Nat):Int).toNat IntKind.u8.bits)))=(OI a j:Nat))&&decide (OI a j<256))=true:=by kernel_rfl
 have d:=all_eq_true.1 h x (mem_range.2 hx);have b:=all_eq_true.1 d j (mem_range.2 hj);simp only[Bool.and_eq_true,decide_eq_true_eq] at b;exact b
theorem Jr{j:Nat}(hj:j<8):IntKind.u8.wrap (1*2^(min (j:Int).toNat IntKind.u8.bits))=((2^j:Nat):Int):=by
 have h:((List.range 8).all λj=>decide (IntKind.u8.wrap (1*2^(min ((j:Nat):Int).toNat IntKind.u8.bits))=((2^j:Nat):Int)))=true:=by kernel_rfl
 have a:=all_eq_true.1 h j (mem_range.2 hj);exact of_decide_eq_true a
theorem Gt(hj:j<8):2^j<256:=Nat.pow_lt_pow_right aN (show j<8 from hj)
def wAt(t:Nat)(d m:List Nat)(i:Nat):Bool:=if 13*t≤i then Ak d (i-13*t) else Ak m i
def H8(b:Bool):Nat:=if b then 1 else 0
def RI(bit:Nat→Bool)(x:Nat):Nat→Nat→Nat
 | 0,v=>v
 | i+1,v=>RI bit x i (kK v x ^^^ H8 (bit i))
def qL(t len:Nat)(bit:Nat→Bool):List Nat:=(List.range (2*t)).map λk=>RI bit (gG ((k+1:Nat):Int)) len 0
theorem ab1:∀(i v:Nat),v<8192→RI bit x i v<8192
 | 0,v,h=>h
 | i+1,v,h=>by
  rw[RI];refine ab1 i _ (je (k:=13) (fD h) ?_);unfold H8;split<;>decide
def nQ(m:List Nat)(i0:Nat):Nat→List Nat
 | 0=>m
 | k+1=>(nQ m i0 k).set ((i0+k)/8) (OI ((nQ m i0 k).getD ((i0+k)/8) 0) ((i0+k)%8))
theorem sJ(m:List Nat)(i0:Nat):∀k,(nQ m i0 k).length=m.length
 | 0=>rfl
 | k+1=>by rw[nQ,length_set,sJ]
theorem vD(h:aA 256 m):∀k,aA 256 (nQ m i0 k)
 | 0=>h
 | k+1=>by
  have ih:=vD (i0:=i0) h k;rw[nQ];exact ih.set (Lb (ih.at_ aN _) (mod_lt _ aN)).2
def aR(t:Nat):Nat:=(13*t+7)/8
def jI(t:Nat)(m:List Nat):List Nat:=nQ m (13*t) (8*aR t-13*t)
def wo(xs:List Nat)(i:Nat):List Nat:=xs.set (i/8) (xs.getD (i/8) 0 ^^^ 2^(i%8))
theorem nu(xs:List Nat)(i:Nat):(wo xs i).length=xs.length:=by simp[wo]
theorem yF(h:aA 256 xs)(i:Nat):aA 256 (wo xs i):=h.set (je (k:=8) (h.at_ aN _) (Gt (mod_lt _ aN)))
structure Wd where
 t:Nat
 d:List Nat
 m:List Nat
 (g1 c1 g2 c2:Nat)
 r1:List Value
 r2:List Value
namespace Wd
abbrev cells(W:Wd):List Value:=[.i (W.t:Int),.slice (some ⟨W.g1,0,none⟩) W.d.length W.c1,.slice (some ⟨W.g2,0,none⟩) W.m.length W.c2]
abbrev parts(bw:Nat)(W:Wd):List aH:=[ah bw 370 W.cells,ah W.g1 5 (av .u8 W.d++W.r1),ah W.g2 5 (av .u8 W.m++W.r2)]
structure Ok(W:Wd):Prop where
 t:1≤W.t∧W.t≤8
 d:1≤W.d.length∧W.d.length≤512
 m:W.m.length=aR W.t
 ds:aA 256 W.d
 ms:aA 256 W.m
def len(W:Wd):Nat:=13*W.t+8*W.d.length
def bit(W:Wd)(i:Nat):Bool:=wAt W.t W.d W.m i
def flip(W:Wd)(i:Nat):Wd:=if 13*W.t≤i then { W with d:=wo W.d (i-13*W.t) } else { W with m:=wo W.m i }
theorem Ok.flip{W:Wd}(h:W.Ok)(i:Nat):(W.flip i).Ok:=by
 unfold Wd.flip;split
 ·exact⟨h.t,by show 1≤(wo _ _).length∧(wo _ _).length≤512;rw[nu];exact h.d,h.m,yF h.ds _,h.ms⟩
 ·exact⟨h.t,h.d,by show (wo _ _).length=_;rw[nu];exact h.m,h.ds,yF h.ms _⟩
end Wd
theorem mF(k:IntKind)(xs:List Nat)(r:List Value)(h:i<xs.length):(av k xs++r)[i]? =some (.int k (xs.getD i 0:Nat)):=by grind [getElem?_append_left,au,jH]
theorem uj(k:IntKind)(xs:List Nat)(r:List Value){x:Nat}(h:i<xs.length):(av k xs++r).set i (.int k (x:Int))=av k (xs.set i x)++r:=by simp_all [set_append,if_pos,au,lu]
theorem P7{t:Nat}(ht:1≤t∧t≤8)(hm:1≤m∧m≤512):aK prog 278 #[.i (t:Int),.slice A m cap] K F (.tuple #[.i (aR t:Nat),.i 0]):=by
 refine aB.en func278 ntmps278 ?_;refine aj "ali" ?_;refine WL.t1 call227 Z (Ra t ay _ _) Z<|aj "Hf;b!~~r~~~s~~<~~j" ?_;refine WL.bI (oj:=_) Z Z Z GC.cf (V.len (t:=34) runUnderlying34 (OV.g Z id)) Z (WL.bI (oj:=_) Z Z Z GC.cf (V.gtr (OV.g Z id) (ak Z)) Z (aj "~~=Sc~&TZ~:bF" ?_));refine aF.ret (H':=F) (bJ.eU Z Z Z) cO ⟨?_,Z⟩;unfold aR;simp
theorem Rt{W:Wd}(h:W.Ok)(hR:fH K F bw 0 W.cells):aK prog 286 #[ptr bw 0] K F (.i (W.len:Nat)):=by
 have e:=h.t;have j:=h.d;have d:Rd K F (some ⟨bw,0,none⟩) (.i (W.t:Int)):=hR 0 _ Z;have a:Rd K F (some ⟨bw,1,none⟩) (.slice (some ⟨W.g1,0,none⟩) W.d.length W.c1):=hR 1 _ Z;refine aB.en func286 ntmps286 ?_;refine aj "at~i$~>~t" ?_;refine WQ.val (V.load isAgg3 (ak Z) (λb=>d)) Z<|aj "~~V$~>~t" ?_;refine WQ.val (V.load isAgg34 (ak Z) (λb=>a)) Z<|aj "~~W~~V~~u~n~d~J:" ?_;unfold Wd.len;simp
theorem adl{W:Wd}(h:W.Ok)(hi:i<W.len)(hR:fH K F bw 0 W.cells)(hd:Seq K F (some ⟨W.g1,0,none⟩) W.d.length 1 (av .u8 W.d))(hm:Seq K F (some ⟨W.g2,0,none⟩) W.m.length 1 (av .u8 W.m)) :
 aK prog 325 #[ptr bw 0,.i (i:Int)] K F (.bool (W.bit i)):=by
 have y:=h.t;have B:=h.d;have n:=h.m;unfold aR at n;unfold Wd.len at hi;have r:Rd K F (some ⟨bw,0,none⟩) (.i (W.t:Int)):=hR 0 _ Z;have u:Rd K F (some ⟨bw,1,none⟩) (.slice (some ⟨W.g1,0,none⟩) W.d.length W.c1):=hR 1 _ Z;have m:Rd K F (some ⟨bw,2,none⟩) (.slice (some ⟨W.g2,0,none⟩) W.m.length W.c2):=hR 2 _ Z;have a:∀(d:List Nat) (j:Nat),decide ((((d.getD (j/8) 0/2^(j%8)%2:Nat):Int))=1)=Ak d j:=λd j=>by
  unfold Ak;rw[testBit_eq_decide_div_mod_eq];apply decide_eq_decide.2;omega
 refine aB.en func325 ntmps325 ?_;refine aj "afbU" ?_;refine WL.val (V.load isAgg3 (ak Z) (λb=>r)) Z<|aj "~E)i~gc1" (aW (λaL=> ?_) λaL=> ?_)
 ·refine WC.seq ?_;obtain⟨k,x⟩:∃k,k=i-13*W.t:=⟨_,Z⟩;have e:(i:Int)-13*(W.t:Int)=(k:Int):=ay;rw[e];have kr:Rd K F (some ⟨W.g1,0+((k:Int)/8).toNat*1,none⟩) (.int .u8 (W.d.getD (k/8) 0:Nat)):=by
   have :=hd.jo (j:=k/8) ay;rw[show 0+((k:Int)/8).toNat*1=0+k/8*1 by omega]
   simpa [jM] using this
  have l:=h.ds.at_ aN (k/8);refine aj "gU" ?_;refine WL.val (V.load isAgg34 (ak Z) (λb=>u)) Z<|aj "b~:~x" ?_;refine WL.val (V.load isAgg5 (ak Z) (λb=>kr)) Z<|WL.mv Z Z<|WL.val (V.aG (v':= .i ((k%8:Nat):Int)) (V.Av (ak Z) (ak Z) (λ_=>by omega)) (λ_=>by simp)) Z<|WL.val (V.aG (v':= .int .u8 ((W.d.getD (k/8) 0/2^(k%8):Nat):Int)) (V.shr (ak Z) (ak Z) ay) (λ_=>by rw[GH (by show k%8≤8;omega)])) Z<|WL.val (V.aG (v':= .int .u8 ((W.d.getD (k/8) 0/2^(k%8)%2:Nat):Int)) (V.and (ak Z) (ak Z)) (λ_=>by rw[Bh (Nat.lt_of_le_of_lt (div_le_self _ _) l)])) Z<|aj ";d:" ?_;rw[a];unfold Wd.bit wAt;rw[if_pos ay,←x]
 ·refine aj "|" ?_;have kr:Rd K F (some ⟨W.g2,0+((i:Int)/8).toNat*1,none⟩) (.int .u8 (W.m.getD (i/8) 0:Nat)):=by
   have :=hm.jo (j:=i/8) ay;rw[show 0+((i:Int)/8).toNat*1=0+i/8*1 by omega]
   simpa [jM] using this
  have l:=h.ms.at_ aN (i/8);refine aj "gU" ?_;refine WL.val (V.load isAgg34 (ak Z) (λb=>m)) Z<|aj "b~:~x" ?_;refine WL.val (V.load isAgg5 (ak Z) (λb=>kr)) Z<|WL.mv Z Z<|WL.val (V.aG (v':= .i ((i%8:Nat):Int)) (V.Av (ak Z) (ak Z) (λ_=>by omega)) (λ_=>by simp)) Z<|WL.val (V.aG (v':= .int .u8 ((W.m.getD (i/8) 0/2^(i%8):Nat):Int)) (V.shr (ak Z) (ak Z) ay) (λ_=>by rw[GH (by show i%8≤8;omega)])) Z<|WL.val (V.aG (v':= .int .u8 ((W.m.getD (i/8) 0/2^(i%8)%2:Nat):Int)) (V.and (ak Z) (ak Z)) (λ_=>by rw[Bh (Nat.lt_of_le_of_lt (div_le_self _ _) l)])) Z<|aj ";d:" ?_;rw[a];unfold Wd.bit wAt;rw[if_neg ay]
theorem YF{W:Wd}(h:W.Ok)(hi:i<W.len) :
 aB prog 289 #[ptr bw 0,.i (i:Int)] K (W.parts bw++F) (λv H'=>H'=(W.flip i).parts bw++F):=by
 have u:=h.t;have x:=h.d;have n:=h.m;unfold aR at n;unfold Wd.len at hi;dsimp only[Wd.parts,cons_append,nil_append];refine aB.en func289 ntmps289 ?_;refine aj "eb[k~E)i~gc1" (aW (λaL=> ?_) λaL=> ?_)
 ·obtain⟨k,r⟩:∃k,k=i-13*W.t:=⟨_,Z⟩;have e:(i:Int)-13*(W.t:Int)=(k:Int):=ay;rw[e];have EH:(av .u8 W.d++W.r1)[0+((k:Int)/8).toNat*1]? =some (.int .u8 (W.d.getD (k/8) 0:Nat)):=by rw[show 0+((k:Int)/8).toNat*1=k/8 by omega];exact mF _ _ _ ay
  have j:=h.ds.at_ aN (k/8);have a:W.flip i= { W with d:=wo W.d k }:=by unfold Wd.flip;rw[if_pos ay,←r]
  refine WC.sub (Sub.refl _) (λw h=>h.p1)<|WC.dM (ah bw 370 W.cells::ah W.g2 5 (av .u8 W.m++W.r2)::F) (by kernel_rfl)<|aj "n0~c142]3n4~~U5~e6n8" ?_;refine WA.t 9 Z (V.aG (v':= .i ((k%8:Nat):Int)) (V.Av (ak Z) (ak Z) (λ_=>by omega)) (λ_=>by simp)) ?_;refine WA.t 10 Z (V.aG (v':= .int .u8 ((2^(k%8):Nat):Int)) (V.shl (ak Z) (ak Z) ay) (λ_=>by rw[Jr ay])) ?_;refine WA.o 7 Z ?_;refine WL.val (V.load isAgg5 (ak Z) (λl=>by repeat (first | exact Rd.here EH | apply Rd.up))) Z<|WL.nil<|WA.t 11 Z (V.aG (v':= .int .u8 ((W.d.getD (k/8) 0 ^^^ 2^(k%8):Nat):Int)) (V.xor (ak Z) (ak Z)) (λ_=>by rw[MQ j (Gt ay)])) ?_;refine aj "~e<m=" ?_;refine WL.store (cs:=[_]) sizeOf5 (ak Z) (ak Z) Z Z Z (bT.at_ (by rw[length_append,au];omega))<|aj "*" ?_;refine aF.normal (H':=(W.flip i).parts bw++F) (bJ.none Z) (λw h=> ?_) Z;rw[a];rw[show 0+((k:Int)/8).toNat*1=k/8 by omega,uj _ _ _ ay] at h;have b:=h.p1;dsimp only[Wd.parts,Wd.cells,cons_append,nil_append];rw[nu];exact b
 ·have a:W.flip i= { W with m:=wo W.m i }:=by unfold Wd.flip;rw[if_neg ay]
  have EH:(av .u8 W.m++W.r2)[0+((i:Int)/8).toNat*1]? =some (.int .u8 (W.m.getD (i/8) 0:Nat)):=by rw[show 0+((i:Int)/8).toNat*1=i/8 by omega];exact mF _ _ _ ay
  have j:=h.ms.at_ aN (i/8);refine WC.sub (Sub.refl _) (λw h=>h.p2)<|WC.dM (ah bw 370 W.cells::ah W.g1 5 (av .u8 W.d++W.r1)::F) (by kernel_rfl)<|aj "n0~c142]3n4~~U5~e6n8" ?_;refine WA.t 9 Z (V.aG (v':= .i ((i%8:Nat):Int)) (V.Av (ak Z) (ak Z) (λ_=>by omega)) (λ_=>by simp)) ?_;refine WA.t 10 Z (V.aG (v':= .int .u8 ((2^(i%8):Nat):Int)) (V.shl (ak Z) (ak Z) ay) (λ_=>by rw[Jr ay])) ?_;refine WA.o 7 Z ?_;refine WL.val (V.load isAgg5 (ak Z) (λl=>by repeat (first | exact Rd.here EH | apply Rd.up))) Z<|WL.nil<|WA.t 11 Z (V.aG (v':= .int .u8 ((W.m.getD (i/8) 0 ^^^ 2^(i%8):Nat):Int)) (V.xor (ak Z) (ak Z)) (λ_=>by rw[MQ j (Gt ay)])) ?_;refine aj "~e<m=" ?_;refine WL.store (cs:=[_]) sizeOf5 (ak Z) (ak Z) Z Z Z (bT.at_ (by rw[length_append,au];omega))<|aj "*" ?_;refine aF.normal (H':=(W.flip i).parts bw++F) (bJ.none Z) (λw h=> ?_) Z;rw[a];rw[show 0+((i:Int)/8).toNat*1=i/8 by omega,uj _ _ _ ay] at h;have b:=h.bg 3 [1,2,0] Z;dsimp only[Wd.parts,Wd.cells,cons_append,nil_append];rw[nu];exact b
theorem aaW:RI bit x (i+1) v=RI bit x i (kK v x ^^^ H8 (bit i)):=rfl
theorem Yb{W:Wd}(h:W.Ok)(hR:fH K F bw 0 W.cells)(hd:Seq K F (some ⟨W.g1,0,none⟩) W.d.length 1 (av .u8 W.d))(hm:Seq K F (some ⟨W.g2,0,none⟩) W.m.length 1 (av .u8 W.m)) :
 aB prog 285 #[ptr bw 0] K F (λv H'=>∃g,v= .slice (some ⟨g,0,none⟩) (2*W.t) (2*W.t)∧H'=ah g 3 (av .i64 (qL W.t W.len W.bit))::F):=by
 have B:=h.t;have G:=h.d;have u:Rd K F (some ⟨bw,0,none⟩) (.i (W.t:Int)):=hR 0 _ Z;have r:W.len≤4200:=by unfold Wd.len;omega
 have afv:0<W.len:=by unfold Wd.len;omega
 have e:∀ {X:aH},fH K (X::F) bw 0 W.cells:=λ{X}=>hR.up;refine aB.en func285 ntmps285 ?_;refine aj "aiU" ?_;refine WL.val (V.load isAgg3 (ak Z) (λD=>u)) Z<|aj "~E" ?_;refine WL.nM (m:=2*W.t) underlying124 Me (ak Z) (ak Z) ay ay ay Z Z Z (λa=>aj "fjR" ?_);refine WC.loop (σ:=Nat) (λk=>[(0,ptr bw 0),(3,.slice (some ⟨a,0,none⟩) (2*W.t) (2*W.t)),(15,.i ((2*W.t:Nat):Int)),(16,.i (k:Int))]) (λk=>ah a 3 (av .i64 ((qL W.t W.len W.bit).take k++replicate (2*W.t-k) 0))::F) (λk=>k≤2*W.t) (λk=>2*W.t-k) 0 (zero_le _) bC (λw h=>Sat.aT h (by simp[eD])) ?_;rintro k H;refine aj "V1" (aW (λaL=> ?_) λaL=> ?_)
 ·refine aj "Yt" ?_;have y:k<2*W.t:=ay;refine aj "g" ?_;refine WL.val (V.aG (v':= .i ((k+1:Nat):Int)) (V.CX (ak Z) (ak Z) (λ_=>by omega)) (λ_=>by simp)) Z<|WL.t1 call287 Z (Tz _ ay) Z<|aj "lf" ?_;refine WL.t1 call286 Z (Rt h e) Z<|WL.val (V.aG (v':= .i ((W.len:Int)-1)) (V.Eo (ak Z) (ak Z) (λ_=>by omega)) (λ_=>Z)) Z<|aj "os" ?_;refine WC.loop (σ:=Nat×Nat) (λx=>[(0,ptr bw 0),(3,.slice (some ⟨a,0,none⟩) (2*W.t) (2*W.t)),(15,.i ((2*W.t:Nat):Int)),(16,.i (k:Int)),(4,.i (k:Int)),(5,.i (gG ((k+1:Nat):Int):Nat)),(6,.i (x.2:Int)),(7,.i ((x.1:Int)-1))]) (λ_=>ah a 3 (av .i64 ((qL W.t W.len W.bit).take k++replicate (2*W.t-k) 0))::F) (λx=>x.1≤W.len∧x.2<8192∧RI W.bit (gG ((k+1:Nat):Int)) x.1 x.2=RI W.bit (gG ((k+1:Nat):Int)) W.len 0) (λx=>x.1) (W.len,0) ⟨Nat.le_refl _,by show 0<8192;decide,Z⟩ bC cO ?_;rintro⟨i,v⟩ ⟨hi,hv,hh⟩;dsimp only at hi hv hh ⊢;refine aj "r~gc1" (aW (λaQ=> ?_) λaQ=> ?_)
  ·obtain⟨d,rfl⟩:∃d,i=d+1:=⟨i-1,by omega⟩;have j:((d+1:Nat):Int)-1=(d:Int):=ay;rw[j];rw[aaW] at hh;have Oa:=fD (b:=gG ((k+1:Nat):Int)) hv;refine aj "Yb" ?_;refine WL.t2 call288 Z Z (zu hv (GA _)) Z<|aj "0" ?_;refine WL.t2 call325 Z Z (adl h (i:=d) ay e hd.up hm.up) Z<|aj "h" (aW (λn=> ?_) λn=> ?_)
   ·rw[n] at hh;refine aj "g" ?_;refine WL.val (V.aG (v':= .i ((kK v (gG ((k+1:Nat):Int)) ^^^ 1:Nat):Int)) (V.xor (ak Z) (ak Z)) (λ_=>by rw[show (1:Int)=((1:Nat):Int) from Z,nC ay ay])) Z<|aj "O)N" ?_;exact⟨(d,kK v (gG ((k+1:Nat):Int)) ^^^ 1),⟨by show d≤W.len;omega,je (k:=13) Oa aN,hh⟩,lt_succ_self _,.cons Z bC,λw h=>h⟩
   ·rw[n] at hh;refine aj "qg)N" ?_;exact⟨(d,kK v (gG ((k+1:Nat):Int))),⟨by show d≤W.len;omega,Oa,by rw[show H8 false=0 from Z,xor_zero] at hh;exact hh⟩,lt_succ_self _,.cons Z bC,λw h=>h⟩
  ·refine WC.exit ?_;obtain rfl:i=0:=by omega
   have UO:v=RI W.bit (gG ((k+1:Nat):Int)) W.len 0:=hh;refine aj "gx~x" ?_;refine WL.store (cs:=[_]) sizeOf3 (ak Z) (ak Z) Z Z Z (bT.at_ (by rw[au];simp[qL];omega))<|aj "c8" ?_;refine⟨k+1,(by show k+1≤2*W.t;omega),(by show 2*W.t-(k+1)<2*W.t-k;omega),.cons Z bC,λw h=>Sat.aT h ?_⟩;have mR:(qL W.t W.len W.bit).length=2*W.t:=by simp[qL]
   have l:(qL W.t W.len W.bit)[k]'ay=v:=by rw[UO];simp[qL]
   rw[show 0+(k:Int).toNat*1=k by omega,lu,set_append_right _ _ (by rw[length_take];omega),length_take,show k-min k (qL W.t W.len W.bit).length=0 by omega,take_add_one,getElem?_eq_getElem ay,l];rw[show 2*W.t-k=(2*W.t-(k+1))+1 by omega,replicate_succ,set_cons_zero];simp
 ·refine aj "Ked" ?_;obtain rfl:k=2*W.t:=by omega
  refine qR (ah a _ _::F) Z Z (λw h=>Sat.aT h ?_) ⟨a,Z,Z⟩;rw[Nat.sub_self,replicate_zero,append_nil,take_of_length_le (by simp[qL])]
structure aD where
 g:bQ
 aX:Int×Int→Option (List Int)
 bM:Int×Int→Option (List Int)
 next:List Int
 marked:Int→Bool
 dQ:Int→Bool
 aO:Int
 up:Bool
 left:Int
 nG:Int
namespace aD
def raw(S:aD):Int:=S.g.raw
def block(S:aD)(b:Int):Bool:=decide (0≤b)&&decide (b<S.g.bl)
def oG(S:aD)(b p:Int):Bool:=S.block b&&decide (0≤p)&&decide (p<S.g.pg)
def ready(S:aD):Int:=if S.up then 0 else 70
def cut(S:aD):Bool:=decide (S.left=1)
def bE(S:aD):aD:= { S with left:=if S.left=0 then 0 else S.left-1,up:=S.up&& !S.cut }
def after(cut:Bool):Int:=if cut then 70 else 0
def nk(S:aD)(b:Int):Int:=S.next.getD b.toNat 0
def lH(S:aD)(b x:Int):List Int:=S.next.set b.toNat x
def blank(S:aD):List Int:=replicate S.raw.toNat 255
def DR{α:Type}(f:Int×Int→Option α)(k:Int×Int)(v:Option α):Int×Int→Option α:=λa=>if a=k then v else f a
def kept(S:aD)(n:Int):Int:=min (max S.nG 0) n
def program(S:aD)(b p:Int)(xs:List Int):aD×Int :=
 if S.up=false then (S,70)
 else if S.oG b p=false∨(xs.length:Int)≠S.raw then (S,1)
 else if p≠S.nk b then (S,71)
 else
  let T:=S.bE
  if S.cut then ({ T with aX:=DR T.aX (b,p) (some (xs.take (S.kept xs.length).toNat++S.blank.drop (S.kept xs.length).toNat)),next:=T.lH b (p+1) },70)
  else if S.dQ b then (T,72)
  else ({ T with aX:=DR T.aX (b,p) (some xs),next:=T.lH b (p+1) },0)
def bD{α:Type}(f:Int×Int→Option α)(b n:Int):Int×Int→Option α:=λk=>if k.1=b∧0≤k.2∧k.2<n then none else f k
def erase(S:aD)(b:Int):aD×Int :=
 if S.up=false then (S,70)
 else if S.block b=false then (S,1)
 else
  let T:=S.bE
  if S.cut then ({ T with aX:=bD T.aX b (S.kept S.g.pg),bM:=bD T.bM b (S.kept S.g.pg) },70)
  else if S.dQ b then (T,72)
  else ({ T with aX:=bD T.aX b S.g.pg,bM:=bD T.bM b S.g.pg,next:=T.lH b 0 },0)
def all(S:aD)(f:aD→aD):aD×Int:=(if !S.cut||decide (0<S.nG) then f S.bE else S.bE,after S.cut)
def mark(S:aD)(b:Int):aD×Int :=
 if S.up=false then (S,70) else if S.block b=false then (S,1)
 else S.all λT=> { T with marked:=λk=>if k=b then true else T.marked k }
def off(S:aD):aD:= { S with up:=false }
def bad(S:aD)(b:Int):Bool:=S.up&&S.marked b
end aD
structure Cw where
 g:bQ
 aX:Int×Int→Option (Option Addr×Nat×List Int)
 bM:Int×Int→Option (Option Addr×Nat×List Int)
 next:List Int
 marked:Int→Bool
 dQ:Int→Bool
 aO:Int
 up:Bool
 left:Int
 nG:Int
 (bp bw bn bm bk:Nat)
 own:List aH
namespace Cw
def aC(C:Cw):aD:=⟨C.g,λp=>(C.aX p).map (·.2.2),λp=>(C.bM p).map (·.2.2),C.next,C.marked,C.dQ,C.aO,C.up,C.left,C.nG⟩
def nW(e:Option Addr×Nat×List Int):Value:= .slice e.1 e.2.2.length e.2.1
def kU(C:Cw):Int×Int→Option Value:=λp=>(C.aX p).map nW
def oV(C:Cw):Int×Int→Option Value:=λp=>(C.bM p).map nW
abbrev cells(C:Cw):List Value:=[.i C.g.bl,.i C.g.pg,.i C.g.se,.i C.g.sb,.i C.g.fl,.i C.g.raw,.map (some C.bp),.map (some C.bw),.slice (some ⟨C.bn,0,none⟩) C.next.length C.next.length,
 .map (some C.bm),.map (some C.bk),.i C.aO,.bool C.up,.i C.left,.i C.nG]
abbrev parts(bc:Nat)(C:Cw):List aH:=[ah bc 165 C.cells,gD C.bp jw C.kU,gD C.bw jw C.oV,ah C.bn 3 (ints .i64 C.next),gD C.bm vJ (nJ C.marked),gD C.bk vJ (nJ C.dQ),bK C.own]
def A(bc:Nat)(C:Cw):aH:=bK (C.parts bc)
structure Ok(C:Cw):Prop where
 aU:C.g.aU
 oG:∀p e,C.aX p=some e→iK C.own e.1 e.2.2.length 1 (ints .u8 e.2.2)∧(e.2.2.length:Int)=C.g.raw∧bF e.2.2
 wr:∀p e,C.bM p=some e→iK C.own e.1 e.2.2.length 1 (ints .i64 e.2.2)∧(∀i∈e.2.2,0≤i∧i<8*C.g.raw)∧e.2.2.length≤maxLen
 len:(C.next.length:Int)=C.g.bl
 next:∀x∈C.next,0≤x∧x≤C.g.pg
 left:0≤C.left∧C.left≤9223372036854775807
def bE(C:Cw):Cw:= { C with left:=if C.left=0 then 0 else C.left-1,up:=C.up&& !decide (C.left=1) }
end Cw
theorem aB.wC{C:Cw}(h:aB prog f args K (C.parts bc++F) post):aB prog f args K (C.A bc::F) post:=h.sat λw a=>a.yJ
theorem jm{C:Cw}(hR:fH K F bc 0 C.cells):aK prog 93 #[ptr bc 0] K F (.i C.aC.ready):=by
 refine aB.en func93 ntmps93 ?_;refine aj "atse~bo~IeU" ?_;refine WL.val (V.load isAgg4 (ak Z) (λ_=>by repeat (first | exact Rd.here Z | exact hR _ _ Z | apply Rd.up))) Z<|aj "9oJ" (aW (λaQ=> ?_) λaQ=> ?_)
 ·try simp only[iC] at aQ
  refine aj "D:" ?_;unfold aD.ready Cw.aC;simp[*]
 ·try simp only[iC] at aQ
  refine aj "qD:" ?_;unfold aD.ready Cw.aC;simp[*]
theorem vw{C:Cw}(b:Int)(hR:fH K F bc 0 C.cells):aK prog 97 #[ptr bc 0,.i b] K F (.bool (C.aC.block b)):=by
 refine aB.en func97 ntmps97 ?_;refine aj "ai~gb!!~~G~~e~~e" ?_;exact WL.bI (oj:=_) Z Z Z GC.t (V.load isAgg3 (OV.g Z id) (λ_=>by repeat (first | exact Rd.here Z | exact hR _ _ Z | apply Rd.up))) Z<|aj "~~vSd+" trivial
theorem En{C:Cw}(b p:Int)(hR:fH K F bc 0 C.cells):aK prog 221 #[ptr bc 0,.i b,.i p] K F (.bool (C.aC.oG b p)):=by
 refine aB.en func221 ntmps221 ?_;refine aj "a0" ?_;refine WL.t2 call97 Z Z (vw b hR) Z<|aj "b!~USb!!~~G~~e~~e" ?_;exact WL.bI (oj:=_) Z Z Z GC.t (V.load isAgg3 (OV.g Z id) (λ_=>by repeat (first | exact Rd.here Z | exact hR _ _ Z | apply Rd.up))) Z<|aj "~~vSd+" trivial
theorem nP(v:Value)(b:Bool):aK prog 225 #[v,.bool b] K F (.i (aD.after b)):=by
 refine aB.en func225 ntmps225 ?_;refine aj "afh" (aW (λaL=> ?_) λaL=> ?_)
 ·try simp only[iC] at aL
  refine aj "D" ?_;exact qR F Z Z eO ⟨by simp[aD.after,aL],Z⟩
 ·try simp only[iC] at aL
  refine aj "qD" ?_;exact qR F Z Z eO ⟨by simp[aD.after,aL],Z⟩
theorem Ez{C:Cw}(hl:0≤C.left∧C.left≤9223372036854775807):aB prog 224 #[ptr bc 0] K (ah bc 165 C.cells::F) (λv H'=>v= .bool C.aC.cut∧H'=ah bc 165 C.bE.cells::F):=by
 dsimp only[Cw.cells];refine aB.en func224 ntmps224 ?_;refine aj "af[k;h" (aW (λaL=> ?_) λaL=> ?_)
 ·simp only[iC] at aL;refine aj "D" ?_;refine qR (ah bc _ C.bE.cells::F) Z Z (λw h=>Sat.aT h ?_) ⟨?_,Z⟩
  ·simp[Cw.bE,aL]
  ·simp[aD.cut,Cw.aC,aL]
 ·simp only[iC] at aL;refine aj "T[k)U~ocr[k;h" (aW (λaQ=> ?_) λaQ=> ?_)
  ·simp only[iC] at aQ;have a:C.left=1:=ay;refine aj "gU~oce[k;d" ?_;refine qR (ah bc _ C.bE.cells::F) Z Z (λw h=>Sat.aT h ?_) ⟨?_,Z⟩
   ·simp[Cw.bE,oU,a,aL]
   ·simp[aD.cut,Cw.aC,a];try omega
  ·simp only[iC] at aQ;have a:C.left≠1:=ay;refine aj "T[k;d" ?_;refine qR (ah bc _ C.bE.cells::F) Z Z (λw h=>Sat.aT h ?_) ⟨?_,Z⟩
   ·simp[Cw.bE,oU,a,aL]
   ·simp[aD.cut,Cw.aC,a];try omega
theorem Ij{C:Cw}(hm:C.g.aU)(hR:fH K F bc 0 C.cells):aB prog 222 #[ptr bc 0] K F (λv H'=>∃b,v= .slice (some ⟨b,0,none⟩) C.g.raw.toNat C.g.raw.toNat∧H'=ah b 5 (ints .u8 (replicate C.g.raw.toNat 255))::F):=by
 have e:=bQ.sS hm;refine aB.en func222 ntmps222 ?_;refine aj "aiU" ?_;refine WL.val (V.load isAgg3 (ak Z) (λ_=>by repeat (first | exact Rd.here Z | exact hR _ _ Z | apply Rd.up))) Z<|WL.nM (m:=C.g.raw.toNat) underlying34 yL (ak Z) (ak Z) ay ay ay Z Z Z (λa=>aj "fjR" ?_);refine WC.loop (σ:=Nat) (λi=>[(3,.slice (some ⟨a,0,none⟩) C.g.raw.toNat C.g.raw.toNat),(11,.i (C.g.raw.toNat:Int)),(12,.i (i:Int))]) (λi=>ah a 5 (ints .u8 (replicate i 255++replicate (C.g.raw.toNat-i) 0))::F) (λi=>i≤C.g.raw.toNat) (λi=>C.g.raw.toNat-i) 0 (zero_le _) bC (λw h=>Sat.aT h (by simp[ints])) ?_;rintro i d;refine aj "VJ" (aW (λaL=> ?_) λaL=> ?_)
 ·try simp only[iC] at aL
  refine aj "YOb~u" ?_;refine WL.store (cs:=[_]) sizeOf5 (ak Z) (ak Z) Z Z Z (bT.at_ (by simp[ints];omega))<|aj "c8" ?_;refine⟨i+1,(by show i+1≤_;omega),(by show C.g.raw.toNat-(i+1)<C.g.raw.toNat-i;omega),.cons Z bC,λw h=>Sat.aT h ?_⟩;rw[show 0+(i:Int).toNat*1=i by simp,ints_set,GR ay]
 ·try simp only[iC] at aL
  refine aj "Ked" ?_;obtain rfl:i=C.g.raw.toNat:=by omega
  refine qR (ah a _ _::F) Z Z (λw h=>Sat.aT h ?_) ⟨a,Z,Z⟩;simp
namespace Cw
def kF(C:Cw)(k:Int×Int)(e:Option Addr×Nat×List Int)(own:List aH):Cw:= { C with aX:=λq=>if q=k then some e else C.aX q,own:=own }
def eG(C:Cw)(b x:Int):Cw:= { C with next:=C.next.set b.toNat x }
theorem Sy(C:Cw)(k:Int×Int)(e:Option Addr×Nat×List Int)(own:List aH):(C.kF k e own).kU=FT C.kU k (some (nW e)):=by
 funext q;show (if q=k then some e else C.aX q).map nW=if q=k then some (nW e) else (C.aX q).map nW
 split<;>rfl
theorem Ok.bE{C:Cw}(h:C.Ok):C.bE.Ok:=⟨h.aU,h.oG,h.wr,h.len,h.next,by
 have :=h.left;show 0≤(if C.left=0 then 0 else C.left-1)∧(if C.left=0 then 0 else C.left-1)≤9223372036854775807;split<;>omega⟩
theorem Ok.kF{C:Cw}(h:C.Ok){own:List aH}(nD:∀K w,Sat K w [bK own]→Sat K w [bK C.own])(h1:iK own e.1 e.2.2.length 1 (ints .u8 e.2.2))(h2:(e.2.2.length:Int)=C.g.raw)(h3:bF e.2.2) :
 (C.kF k e own).Ok:=by
 refine⟨h.aU,λp a b=> ?_,λp a b=>⟨(h.wr p a b).1.mono nD,(h.wr p a b).2⟩,h.len,h.next,h.left⟩;have BA:(if p=k then some e else C.aX p)=some a:=b;split at BA
 ·injection BA with BA;subst BA;exact⟨h1,h2,h3⟩
 ·have :=h.oG p a BA;exact⟨this.1.mono nD,this.2⟩
theorem Ok.eG{C:Cw}(h:C.Ok)(hx:0≤x∧x≤C.g.pg):(C.eG b x).Ok:=by
 refine⟨h.aU,h.oG,h.wr, ?_,λy d=> ?_,h.left⟩
 ·show ((C.next.set b.toNat x).length:Int)=C.g.bl;rw[length_set];exact h.len
 ·rcases mem_or_eq_of_mem_set d with a | a
  ·exact h.next y a
  ·subst a;exact hx
theorem Gr(C:Cw)(k:Int×Int)(e:Option Addr×Nat×List Int)(own:List aH):(C.kF k e own).aC= { C.aC with aX:=aD.DR C.aC.aX k (some e.2.2) }:=by
 unfold aC kF;simp only[aD.mk.injEq,true_and,and_true];funext q;show (if q=k then some e else C.aX q).map (·.2.2)=if q=k then some e.2.2 else (C.aX q).map (·.2.2)
 split<;>rfl
theorem rP(C:Cw)(b x:Int):(C.eG b x).aC= { C.aC with next:=C.aC.lH b x }:=rfl
theorem ag8(A:aH)(l:List aH):∀K w,Sat K w [bK (A::l)]→Sat K w [bK l]:=λK w h=>Sat.all (l:=l) (H:=[]) h.yJ.tail
end Cw
theorem QZ{C:Cw}{bytes:List Int}(hvs:vs=ints .u8 bytes)(hn:bytes.length=C.g.raw.toNat)(Zk:nx=ints .i64 (C.next.set b.toNat x))
 (h:Sat K w (ah bc 165 C.cells::ah bo 5 vs::gD C.bp jw (FT C.kU (b,p) (some (.slice (some ⟨bo,0,none⟩) C.g.raw.toNat C.g.raw.toNat)))::gD C.bw jw C.oV::ah C.bn 3 nx
  :: gD C.bm vJ (nJ C.marked)::gD C.bk vJ (nJ C.dQ)::bK C.own::F)) :
 Sat K w (((C.kF (b,p) (some ⟨bo,0,none⟩,C.g.raw.toNat,bytes) (ah bo 5 (ints .u8 bytes)::C.own)).eG b x).A bc::F):=by
 subst hvs Zk;have e:=(h.bg 8 [1,7,0,2,3,4,5,6] Z).Bc;have j:=e.bg 7 [1,2,3,4,5,6,0] Z;have d:((C.kF (b,p) (some ⟨bo,0,none⟩,C.g.raw.toNat,bytes) (ah bo 5 (ints .u8 bytes)::C.own)).eG b x).kU=FT C.kU (b,p) (some (.slice (some ⟨bo,0,none⟩) C.g.raw.toNat C.g.raw.toNat)):=by
  refine (Cw.Sy C (b,p) (some ⟨bo,0,none⟩,C.g.raw.toNat,bytes) (ah bo 5 (ints .u8 bytes)::C.own)).trans ?_;unfold Cw.nW;rw[hn]
 refine Sat.all (l:=Cw.parts bc _) ?_;unfold Cw.parts;rw[d];have a:((C.kF (b,p) (some ⟨bo,0,none⟩,C.g.raw.toNat,bytes) (ah bo 5 (ints .u8 bytes)::C.own)).eG b x).cells=C.cells:=by
  unfold Cw.cells Cw.eG Cw.kF;simp
 rw[a];exact j
theorem aam{C:Cw}(hC:C.Ok){bytes:List Int}(hn:bytes.length=C.g.raw.toNat)(hb:bF bytes)(hx:0≤x∧x≤C.g.pg) :
 ((C.kF (b,p) (some ⟨bo,0,none⟩,C.g.raw.toNat,bytes) (ah bo 5 (ints .u8 bytes)::C.own)).eG b x).Ok:=by
 have a:=bQ.sS hC.aU;refine Cw.Ok.eG (hC.kF (Cw.ag8 _ _) (iK.here λK=>Seq.allI Z) (by show (bytes.length:Int)=_;omega) hb) hx
theorem Nu{C:Cw}(hC:C.Ok)(b p:Int)(hx:bF xs)(hs:Seq K F B m 1 (ints .u8 xs))(kS:m≤cap) :
 aB prog 192 #[ptr bc 0,.i b,.i p,.slice B m cap] K (C.A bc::F)
  (λv H'=>∃C':Cw,C'.Ok∧H'=C'.A bc::F∧C'.aC=(C.aC.program b p xs).1∧v= .i (C.aC.program b p xs).2):=by
 have r:xs.length=m:=by simpa [ints] using hs.len
 have G:=hC.len;have alM:(C.bE.next.length:Int)=C.g.bl:=hC.len;have I:=hC.aU;unfold bQ.aU at I;have J:=bQ.sS hC.aU;refine aB.wC ?_;dsimp only[Cw.parts,cons_append,nil_append];refine aB.en func192 ntmps192 ?_;refine aj "af" ?_;refine WL.t1 call93 Z (jm (C:=C) wL) Z<|aj "iuh" (aW (λaL=> ?_) λaL=> ?_)
 ·have nD:C.up=false:=by cases h:C.up<;>simp[aD.ready,Cw.aC,h] at aL ⊢
  refine aj "ed" ?_;have a:C.aC.program b p xs=(C.aC,70):=by unfold aD.program;rw[if_pos (show C.aC.up=false from nD)]
  rw[a];exact qR (C.A bc::F) Z Z (λw h=>Sat.all (l:=C.parts bc) h) ⟨C,hC,Z,Z,by unfold aD.ready;rw[if_neg (by show ¬C.up=true;rw[nD];decide)]⟩
 ·have nD:C.up=true:=by cases h:C.up<;>simp[aD.ready,Cw.aC,h] at aL ⊢
  refine aj "Yx" ?_;refine WL.t3 call221 Z Z Z (En (C:=C) b p wL) Z<|aj "9%~p~z~~w~!@~QIoJ" (aW (λaQ=> ?_) λaQ=> ?_)
  ·simp only[Gd] at aQ;have a:C.aC.program b p xs=(C.aC,1):=by
    unfold aD.program;rw[if_neg (by show ¬C.up=false;rw[nD];decide),if_pos (by rw[r];exact aQ)]
   refine aj "D" ?_;rw[a];exact qR (C.A bc::F) Z Z (λw h=>Sat.all (l:=C.parts bc) h) ⟨C,hC,Z,Z,Z⟩
  ·simp only[Gd] at aQ;obtain⟨Py,KA⟩:=aQ;have Dt:0≤b∧b<C.g.bl∧0≤p∧p<C.g.pg:=by
    have h:=Py;simp only[aD.oG,aD.block,Bool.and_eq_true,decide_eq_true_eq] at h;exact⟨h.1.1.1,h.1.1.2,h.1.2,h.2⟩
   have u:C.aC.kept m=min (max C.nG 0) m:=rfl;have Zk:0≤C.aC.nk b∧C.aC.nk b≤C.g.pg:=by
    have H:C.aC.nk b=C.next.getD b.toNat 0:=rfl;have d:b.toNat<C.next.length:=ay;rw[H,getD,getElem?_eq_getElem d];exact hC.next _ (getElem_mem d)
   have Kz:(ints .i64 C.next)[0+b.toNat*1]? =some (.i (C.aC.nk b)):=by
    rw[Nat.zero_add,Nat.mul_one];exact tY _ _ ay
   refine aj "eb[kb~u" ?_;refine WL.val (V.load isAgg3 (ak Z) (λ_=>by repeat (first | exact Rd.here Kz | apply Rd.up))) Z<|aj "uoJ" (aW (λd=> ?_) λd=> ?_)
   ·simp only[Gd] at d;refine aj "D" ?_;have a:C.aC.program b p xs=(C.aC,71):=by
     unfold aD.program;rw[if_neg (by show ¬C.up=false;rw[nD];decide),if_neg (by rw[r,Py];rintro (h | h);cases h;exact h KA),if_pos d]
    rw[a];exact qR (C.A bc::F) Z Z (λw h=>Sat.all (l:=C.parts bc) h) ⟨C,hC,Z,Z,Z⟩
   ·simp only[Gd] at d;refine aj "T" ?_;refine WL.c1 call222 Z (Ij (C:=C) hC.aU wL) Z ?_;rintro _ _ ⟨x,rfl,rfl⟩;refine aj "i?" ?_;refine WL.c1 call224 Z (Ez (C:=C) hC.left) Z ?_;rintro _ _ ⟨rfl,rfl⟩;refine aj "tseoJ" (aW (λy=> ?_) λy=> ?_)
    ·refine aj "gx[k~~xbj" ?_;refine WL.val (V.min (ak Z) (ak Z)) Z<|WL.val (V.slice (h:=(C.aC.kept m).toNat) dO (ak Z) OO.none (OO.some (ak Z) (λ_=>by show min (max C.nG 0) (m:Int)=_;rw[u];omega)) OO.none (by simp) (zero_le _) (by rw[u];omega) (Nat.le_refl _)) Z<|WL.yY dO (ak Z) (ak Z) (news:=ints .u8 (xs.take (C.aC.kept m).toNat)) (by rw[zK,←LY];exact Seq.take (by repeat (first | exact hs | apply Seq.up)) (by rw[u];omega)) (by rw[u];omega) (xI _ _) (bT.up (bT.front (by simp[ints];rw[u];omega))) Z<|aj "ce[kx" ?_;refine WL.val (V.build (vs:=[(0,_),(1,_)]) ⟨ak Z,ak Z,trivial⟩ Z (iT _ _)) Z (WL.mv Z Z ?_);refine WL.u6 (k:=(_,_)) underlying161 zQ (ak Z) (ak Z) (ak Z) (by repeat (first | exact p8.here | apply p8.up))<|aj "ce[kb~u" ?_;refine WL.val (V.load isAgg3 (ak Z) (λ_=>by repeat (first | exact Rd.here Kz | apply Rd.up))) Z<|aj "Z~u" ?_;refine WL.store (cs:=[_]) sizeOf3 (ak Z) (ak Z) Z Z Z (by repeat (first | exact bT.at_ (by rw[Nat.zero_add,Nat.mul_one,bR];omega) | apply bT.up))<|aj "ceb" ?_;refine WL.t2 call225 Z Z (nP _ _) Z<|aj "d" ?_;have j:¬C.aC.up=false:=by show ¬C.up=false;rw[nD];decide
     have n:¬(C.aC.oG b p=false∨(xs.length:Int)≠C.aC.raw):=by rw[r,Py];rintro (h | h);cases h;exact h KA
     have e:¬p≠C.aC.nk b:=by rw[d];exact λh=>h Z
     have BI:C.aC.blank.length=C.g.raw.toNat:=length_replicate;cases wM:C.aC.cut with
     | true =>
      have a:C.aC.program b p xs=({ C.aC.bE with aX:=aD.DR C.aC.bE.aX (b,p) (some (xs.take (C.aC.kept xs.length).toNat++C.aC.blank.drop (C.aC.kept xs.length).toNat)),next:=C.aC.bE.lH b (p+1) },70):=by
       unfold aD.program;rw[if_neg j,if_neg n,if_neg e,if_pos wM]
      rw[r] at a;rw[a];have qC:(xs.take (C.aC.kept m).toNat++C.aC.blank.drop (C.aC.kept m).toNat).length=C.g.raw.toNat:=by
       rw[length_append,length_take,length_drop,BI,r,u];omega
      refine aF.ret (H':=Cw.A bc ((C.bE.kF (b,p) (some ⟨x,0,none⟩,C.g.raw.toNat,xs.take (C.aC.kept m).toNat++C.aC.blank.drop (C.aC.kept m).toNat) (ah x 5 (ints .u8 (xs.take (C.aC.kept m).toNat++C.aC.blank.drop (C.aC.kept m).toNat))::C.own)).eG b (p+1))::F)
       (bJ.tmp Z Z) (λw h=>QZ (C:=C.bE) ?_ qC ?_ h) ⟨_,aam (C:=C.bE) hC.bE qC ((hx.take _).append ((bF.wJ ay).drop _)) (by show 0≤p+1∧p+1≤C.g.pg;omega),Z, ?_, ?_⟩
      ·rw[gY,←K7,bR,length_take,r,show min (C.aC.kept m).toNat m=(C.aC.kept m).toNat by rw[u];omega];rfl
      ·rw[Nat.zero_add,Nat.mul_one,ints_set,←d];rfl
      ·rw[Cw.rP,Cw.Gr];rfl
      ·rfl
     | false =>
      exfalso;exact Bool.noConfusion (y.symm.trans wM)
    ·refine aj "e[kb" ?_;refine WL.val (V.aG (v':= .bool _) (V.lookup (k:=_) underlying163 zeroValue4 kl3 (ak Z) (ak Z) (λ_=>by repeat (first | exact J2.here | apply J2.up))) (λ_=>Ej _ _)) Z<|aj "oJ" (aW (λD=> ?_) λD=> ?_)
     ·refine aj "D" ?_;have a:C.aC.program b p xs=(C.aC.bE,72):=by
       unfold aD.program;rw[if_neg (by show ¬C.up=false;rw[nD];decide),if_neg (by rw[r,Py];rintro (h | h);cases h;exact h KA),if_neg (by rw[d];exact λh=>h Z),if_neg (by rw[y];decide),if_pos (show C.aC.dQ b=true from D)]
      rw[a];exact qR (C.bE.A bc::F) Z Z (λw h=>Sat.all (l:=C.bE.parts bc) (h.bg 2 [0] Z)) ⟨C.bE,hC.bE,Z,Z,Z⟩
     ·refine aj "gb" ?_;refine WL.yY dO (ak Z) (ak Z) (by repeat (first | exact hs | apply Seq.up)) ay (xI _ _) (bT.up (bT.front (by simp[ints];omega))) Z<|aj "ce[kx" ?_;refine WL.val (V.build (vs:=[(0,_),(1,_)]) ⟨ak Z,ak Z,trivial⟩ Z (iT _ _)) Z (WL.mv Z Z ?_);refine WL.u6 (k:=(_,_)) underlying161 zQ (ak Z) (ak Z) (ak Z) (by repeat (first | exact p8.here | apply p8.up))<|aj "ce[kb~u" ?_;refine WL.val (V.load isAgg3 (ak Z) (λ_=>by repeat (first | exact Rd.here Kz | apply Rd.up))) Z<|aj "Z~u" ?_;refine WL.store (cs:=[_]) sizeOf3 (ak Z) (ak Z) Z Z Z (by repeat (first | exact bT.at_ (by rw[Nat.zero_add,Nat.mul_one,bR];omega) | apply bT.up))<|aj "ceb" ?_;refine WL.t2 call225 Z Z (nP _ _) Z<|aj "d" ?_;have j:¬C.aC.up=false:=by show ¬C.up=false;rw[nD];decide
      have n:¬(C.aC.oG b p=false∨(xs.length:Int)≠C.aC.raw):=by rw[r,Py];rintro (h | h);cases h;exact h KA
      have e:¬p≠C.aC.nk b:=by rw[d];exact λh=>h Z
      have BI:C.aC.blank.length=C.g.raw.toNat:=length_replicate;cases wM:C.aC.cut with
      | true =>
       have a:C.aC.program b p xs=({ C.aC.bE with aX:=aD.DR C.aC.bE.aX (b,p) (some (xs.take (C.aC.kept xs.length).toNat++C.aC.blank.drop (C.aC.kept xs.length).toNat)),next:=C.aC.bE.lH b (p+1) },70):=by
        unfold aD.program;rw[if_neg j,if_neg n,if_neg e,if_pos wM]
       exfalso;exact Bool.noConfusion (y.symm.trans wM)
      | false =>
       have a:C.aC.program b p xs=({ C.aC.bE with aX:=aD.DR C.aC.bE.aX (b,p) (some xs),next:=C.aC.bE.lH b (p+1) },0):=by
        unfold aD.program;rw[if_neg j,if_neg n,if_neg e,if_neg (by rw[wM];decide),if_neg (by rw[show C.aC.dQ b=false from D];decide)]
       rw[a];have qC:xs.length=C.g.raw.toNat:=ay;refine aF.ret (H':=Cw.A bc ((C.bE.kF (b,p) (some ⟨x,0,none⟩,C.g.raw.toNat,xs) (ah x 5 (ints .u8 xs)::C.own)).eG b (p+1))::F)
        (bJ.tmp Z Z) (λw h=>QZ (C:=C.bE) ?_ qC ?_ h) ⟨_,aam (C:=C.bE) hC.bE qC hx (by show 0≤p+1∧p+1≤C.g.pg;omega),Z, ?_, ?_⟩
       ·rw[K7,drop_eq_nil_of_le (by rw[bR,length_replicate];omega)];simp[ints]
       ·rw[Nat.zero_add,Nat.mul_one,ints_set,←d];rfl
       ·rw[Cw.rP,Cw.Gr];rfl
       ·rfl
namespace Cw
def off(C:Cw):Cw:= { C with up:=false }
def mark(C:Cw)(b:Int):Cw:= { C with marked:=λk=>if k=b then true else C.marked k }
variable{C:Cw}(h:C.Ok)
include h
theorem Ok.off:C.off.Ok:=⟨h.aU,h.oG,h.wr,h.len,h.next,h.left⟩
theorem Ok.mark:(C.mark b).Ok:=⟨h.aU,h.oG,h.wr,h.len,h.next,h.left⟩
end Cw
theorem V6{C:Cw}:aK prog 185 #[ptr bc 0] K (C.A bc::F) (.bool C.up):=by
 refine aB.wC ?_;dsimp only[Cw.parts,cons_append,nil_append];refine aB.en func185 ntmps185 ?_;refine aj "ai" ?_;refine WL.t1 call93 Z (jm (C:=C) wL) Z<|aj ";d" ?_;refine qR (C.A bc::F) Z Z (λw h=>Sat.all (l:=C.parts bc) h) ⟨?_,Z⟩;show Value.bool (decide ((if C.up then (0:Int) else 70)=0))=_;cases C.up<;>rfl
theorem Qh{C:Cw}(b:Int):aK prog 186 #[ptr bc 0,.i b] K (C.A bc::F) (.bool (C.aC.bad b)):=by
 refine aB.wC ?_;dsimp only[Cw.parts,cons_append,nil_append];refine aB.en func186 ntmps186 ?_;refine aj "ai" ?_;refine WL.t1 call93 Z (jm (C:=C) wL) Z<|aj ";b!~~G~~e`!" ?_;refine WL.bI (oj:=_) Z Z Z GC.t (V.aG (v':= .bool _) (V.lookup (k:=_) underlying163 zeroValue4 kl3 (OV.g Z id) (OV.g Z id) (λ_=>by repeat (first | exact J2.here | apply J2.up))) (λ_=>Ej _ _)) Z<|aj "Sd" ?_;refine qR (C.A bc::F) Z Z (λw h=>Sat.all (l:=C.parts bc) h) ⟨?_,Z⟩;show Value.bool (decide ((if C.up then (0:Int) else 70)=0)&&C.marked b)=Value.bool (C.up&&C.marked b);cases C.up<;>rfl
theorem Kk{C:Cw}:aK prog 98 #[ptr bc 0] K (C.A bc::F) C.g.v:=by
 refine aB.wC ?_;dsimp only[Cw.parts,cons_append,nil_append];refine aB.en func98 ntmps98 ?_;refine aj "av" λa=> ?_;refine aj "cr~b2TUyC6" ?_;exact aF.ret (H':=C.A bc::F) (bJ.one Z (R1.jQ (vs:=[_,_,_,_,_]) Z ⟨isAgg23,sizeOf23⟩ Z tN)) (λw h=>Sat.all (l:=C.parts bc) h.tail) ⟨Z,Z⟩
theorem vV(f:Int×Int→Option Value)(b:Int)(i:Nat):FT (aD.bD f b i) (b,(i:Int)) none=aD.bD f b ((i+1:Nat):Int):=by unfold FT aD.bD;grind
theorem sw{α:Type}(f:Int×Int→Option α)(b:Int):aD.bD f b 0=f:=by unfold aD.bD;grind
namespace Cw
def bD(C:Cw)(b n:Int):Cw:= { C with aX:=aD.bD C.aX b n,bM:=aD.bD C.bM b n }
theorem Bo{α β:Type}(f:Int×Int→Option α)(g:α→β)(b n:Int):(λp=>(aD.bD f b n p).map g)=aD.bD (λp=>(f p).map g) b n:=by grind [aD.bD]
theorem rU(C:Cw)(b n:Int):(C.bD b n).kU=aD.bD C.kU b n:=Bo C.aX nW b n
theorem rO(C:Cw)(b n:Int):(C.bD b n).oV=aD.bD C.oV b n:=Bo C.bM nW b n
theorem tT(C:Cw)(b n:Int):(C.bD b n).aC= { C.aC with aX:=aD.bD C.aC.aX b n,bM:=aD.bD C.aC.bM b n }:=by simp_all [aC,bD,Bo]
theorem Ok.bD{C:Cw}(h:C.Ok)(b n:Int):(C.bD b n).Ok:=by
 have hd:∀ {α:Type} (f:Int×Int→Option α) p e,aD.bD f b n p=some e→f p=some e:=λf p e a=>by
  unfold aD.bD at a;split at a
  ·cases a
  ·exact a
 exact⟨h.aU,λp e a=>h.oG p e (hd _ p e a),λp e a=>h.wr p e (hd _ p e a),h.len,h.next,h.left⟩
end Cw
theorem SE{C:Cw}(hC:C.Ok)(b:Int) :
 aB prog 172 #[ptr bc 0,.i b] K (C.A bc::F)
  (λv H'=>∃C':Cw,C'.Ok∧H'=C'.A bc::F∧C'.aC=(C.aC.erase b).1∧v= .i (C.aC.erase b).2):=by
 have H:=hC.len;have alM:(C.bE.next.length:Int)=C.g.bl:=hC.len;have J:=hC.aU;unfold bQ.aU at J;refine aB.wC ?_;dsimp only[Cw.parts,cons_append,nil_append];refine aB.en func172 ntmps172 ?_;refine aj "af" ?_;refine WL.t1 call93 Z (jm (C:=C) wL) Z<|aj "iuh" (aW (λaL=> ?_) λaL=> ?_)
 ·have nD:C.up=false:=by cases h:C.up<;>simp[aD.ready,Cw.aC,h] at aL ⊢
  refine aj "ed" ?_;have a:C.aC.erase b=(C.aC,70):=by unfold aD.erase;rw[if_pos (show C.aC.up=false from nD)]
  rw[a];exact qR (C.A bc::F) Z Z (λw h=>Sat.all (l:=C.parts bc) h) ⟨C,hC,Z,Z,by unfold aD.ready;rw[if_neg (by show ¬C.up=true;rw[nD];decide)]⟩
 ·have nD:C.up=true:=by cases h:C.up<;>simp[aD.ready,Cw.aC,h] at aL ⊢
  refine aj "qrb" ?_;refine WL.t2 call97 Z Z (vw (C:=C) b wL) Z<|aj "9h" (aW (λaQ=> ?_) λaQ=> ?_)
  ·simp only[Gd] at aQ;refine aj "D" ?_;have a:C.aC.erase b=(C.aC,1):=by unfold aD.erase;rw[if_neg (by show ¬C.up=false;rw[nD];decide),if_pos aQ]
   rw[a];exact qR (C.A bc::F) Z Z (λw h=>Sat.all (l:=C.parts bc) h) ⟨C,hC,Z,Z,Z⟩
  ·simp only[Gd] at aQ;have BI:0≤b∧b<C.g.bl:=by
    have h:=aQ;simp only[aD.block,Bool.and_eq_true,decide_eq_true_eq] at h;exact h
   refine aj "TUki" ?_;refine WL.c1 call224 Z (Ez (C:=C) hC.left) Z ?_;rintro _ _ ⟨rfl,rfl⟩;refine aj "tseoJ" (aW (λu=> ?_) λu=> ?_)
   ·refine aj "g[k~~xb" ?_;refine WL.val (V.min (ak Z) (ak Z)) Z (aj "tL" ?_);refine WC.abO (α:=Int×List Int) (λx=>0≤x.1∧x.1≤C.g.pg∧((C.aC.cut=true∧x.1=C.aC.kept C.g.pg∧x.2=C.next)∨(C.aC.cut=false∧C.aC.dQ b=false∧x.1=C.g.pg∧x.2=C.next.set b.toNat 0))) (λx=>[(0,ptr bc 0),(1,.i b),(6,.i x.1),(7,.bool C.aC.cut)]) (λx=>ah bc 165 C.bE.cells::gD C.bp jw C.kU::gD C.bw jw C.oV::ah C.bn 3 (ints .i64 x.2)::gD C.bm vJ (nJ C.marked)::gD C.bk vJ (nJ C.dQ)::bK C.own::F) (C.aC.kept C.g.pg,C.next) ⟨by show 0≤min (max C.nG 0) C.g.pg;omega,by show min (max C.nG 0) C.g.pg≤C.g.pg;omega,.inl ⟨u,Z,Z⟩⟩ bC cO (λx d=> ?_);obtain⟨n,y⟩:=x;obtain⟨e,m,d⟩:=d;dsimp only at e m d ⊢;refine aj "gR" ?_;refine WC.loop (σ:=Nat) (λi=>[(0,ptr bc 0),(1,.i b),(7,.bool C.aC.cut),(47,.i n),(48,.i (i:Int))]) (λi=>ah bc 165 C.bE.cells::gD C.bp jw (aD.bD C.kU b i)::gD C.bw jw (aD.bD C.oV b i)::ah C.bn 3 (ints .i64 y)::gD C.bm vJ (nJ C.marked)::gD C.bk vJ (nJ C.dQ)::bK C.own::F) (λi=>(i:Int)≤n) (λi=>n.toNat-i) 0 (by show ((0:Nat):Int)≤n;omega) bC (λw h=>by rw[show ((0:Nat):Int)=0 from Z,sw,sw];exact h) ?_;rintro i I;refine aj "VJ" (aW (λmQ=> ?_) λmQ=> ?_)
    ·try simp only[iC] at mQ
     refine aj "Yi[kx" ?_;refine WL.val (V.build (vs:=[(0,_),(1,_)]) ⟨ak Z,ak Z,trivial⟩ Z (iT _ _)) Z<|WL.Ck (k:=(_,_)) underlying161 zQ (ak Z) (ak Z) (by repeat (first | exact p8.here | apply p8.up))<|aj "cg[kx" ?_;refine WL.val (V.build (vs:=[(0,_),(1,_)]) ⟨ak Z,ak Z,trivial⟩ Z (iT _ _)) Z<|WL.Ck (k:=(_,_)) underlying162 zQ (ak Z) (ak Z) (by repeat (first | exact p8.here | apply p8.up))<|aj "c8" ?_;refine⟨i+1,(by show ((i+1:Nat):Int)≤n;omega),(by show n.toNat-(i+1)<n.toNat-i;omega),.cons Z bC,λw h=> ?_⟩;rw[vV,vV] at h;exact h
    ·try simp only[iC] at mQ
     refine aj "Keb" ?_;refine WL.t2 call225 Z Z (nP _ _) Z<|aj "d" ?_;obtain rfl:n=(i:Int):=by omega
     have r:¬C.aC.up=false:=by show ¬C.up=false;rw[nD];decide
     have wE:¬C.aC.block b=false:=by rw[aQ];decide
     rcases d with ⟨wM,j,rfl⟩ | ⟨wM,G,j,rfl⟩
     ·have a:C.aC.erase b=({ C.aC.bE with aX:=aD.bD C.aC.bE.aX b i,bM:=aD.bD C.aC.bE.bM b i },70):=by
       unfold aD.erase;rw[if_neg r,if_neg wE,if_pos wM,j];rfl
      rw[a,wM];refine qR ((C.bE.bD b i).A bc::F) Z Z (λw h=>Sat.all (l:=(C.bE.bD b i).parts bc) ?_) ⟨_,hC.bE.bD b i,Z,Cw.tT _ _ _,Z⟩;unfold Cw.parts;rw[Cw.rU,Cw.rO];exact h
     ·have a:C.aC.erase b=({ C.aC.bE with aX:=aD.bD C.aC.bE.aX b i,bM:=aD.bD C.aC.bE.bM b i,next:=C.aC.bE.lH b 0 },0):=by
       unfold aD.erase;rw[if_neg r,if_neg wE,if_neg (by rw[wM];decide),if_neg (by rw[G];decide),j];rfl
      rw[a,wM];refine qR (((C.bE.bD b i).eG b 0).A bc::F) Z Z (λw h=>Sat.all (l:=((C.bE.bD b i).eG b 0).parts bc) ?_) ⟨_,(hC.bE.bD b i).eG (by show (0:Int)≤0∧0≤C.g.pg;omega),Z, ?_,Z⟩
      ·unfold Cw.parts;rw[show ((C.bE.bD b i).eG b 0).kU=_ from Cw.rU C.bE b i,show ((C.bE.bD b i).eG b 0).oV=_ from Cw.rO C.bE b i];have B:((C.bE.bD b i).eG b 0).cells=C.bE.cells:=by
        unfold Cw.cells Cw.eG Cw.bD;simp
       rw[B];exact h
      ·rw[Cw.rP,Cw.tT];rfl
   ·refine aj "e[kb" ?_;refine WL.val (V.aG (v':= .bool _) (V.lookup (k:=_) underlying163 zeroValue4 kl3 (ak Z) (ak Z) (λ_=>by repeat (first | exact J2.here | apply J2.up))) (λ_=>Ej _ _)) Z<|aj "oJ" (aW (λD=> ?_) λD=> ?_)
    ·refine aj "D" ?_;have a:C.aC.erase b=(C.aC.bE,72):=by unfold aD.erase;rw[if_neg (by show ¬C.up=false;rw[nD];decide),if_neg (by rw[aQ];decide),if_neg (by rw[u];decide),if_pos (show C.aC.dQ b=true from D)]
     rw[a];exact qR (C.bE.A bc::F) Z Z (λw h=>Sat.all (l:=C.bE.parts bc) h) ⟨C.bE,hC.bE,Z,Z,Z⟩
    ·refine aj "g[kb~u" ?_;refine WL.store (cs:=[_]) sizeOf3 (ak Z) (ak Z) Z Z Z (by repeat (first | exact bT.at_ (by rw[Nat.zero_add,Nat.mul_one,bR];omega) | apply bT.up))<|aj "GL" ?_;refine WC.abO (α:=Int×List Int) (λx=>0≤x.1∧x.1≤C.g.pg∧((C.aC.cut=true∧x.1=C.aC.kept C.g.pg∧x.2=C.next)∨(C.aC.cut=false∧C.aC.dQ b=false∧x.1=C.g.pg∧x.2=C.next.set b.toNat 0))) (λx=>[(0,ptr bc 0),(1,.i b),(6,.i x.1),(7,.bool C.aC.cut)]) (λx=>ah bc 165 C.bE.cells::gD C.bp jw C.kU::gD C.bw jw C.oV::ah C.bn 3 (ints .i64 x.2)::gD C.bm vJ (nJ C.marked)::gD C.bk vJ (nJ C.dQ)::bK C.own::F) (C.g.pg,C.next.set b.toNat 0) ⟨by omega,Int.le_refl _,.inr ⟨u,D,Z,Z⟩⟩ bC (λw h=>by rw[Nat.zero_add,Nat.mul_one,ints_set] at h;exact h) (λx d=> ?_);obtain⟨n,y⟩:=x;obtain⟨e,m,d⟩:=d;dsimp only at e m d ⊢;refine aj "gR" ?_;refine WC.loop (σ:=Nat) (λi=>[(0,ptr bc 0),(1,.i b),(7,.bool C.aC.cut),(47,.i n),(48,.i (i:Int))]) (λi=>ah bc 165 C.bE.cells::gD C.bp jw (aD.bD C.kU b i)::gD C.bw jw (aD.bD C.oV b i)::ah C.bn 3 (ints .i64 y)::gD C.bm vJ (nJ C.marked)::gD C.bk vJ (nJ C.dQ)::bK C.own::F) (λi=>(i:Int)≤n) (λi=>n.toNat-i) 0 (by show ((0:Nat):Int)≤n;omega) bC (λw h=>by rw[show ((0:Nat):Int)=0 from Z,sw,sw];exact h) ?_;rintro i I;refine aj "VJ" (aW (λmQ=> ?_) λmQ=> ?_)
     ·try simp only[iC] at mQ
      refine aj "Yi[kx" ?_;refine WL.val (V.build (vs:=[(0,_),(1,_)]) ⟨ak Z,ak Z,trivial⟩ Z (iT _ _)) Z<|WL.Ck (k:=(_,_)) underlying161 zQ (ak Z) (ak Z) (by repeat (first | exact p8.here | apply p8.up))<|aj "cg[kx" ?_;refine WL.val (V.build (vs:=[(0,_),(1,_)]) ⟨ak Z,ak Z,trivial⟩ Z (iT _ _)) Z<|WL.Ck (k:=(_,_)) underlying162 zQ (ak Z) (ak Z) (by repeat (first | exact p8.here | apply p8.up))<|aj "c8" ?_;refine⟨i+1,(by show ((i+1:Nat):Int)≤n;omega),(by show n.toNat-(i+1)<n.toNat-i;omega),.cons Z bC,λw h=> ?_⟩;rw[vV,vV] at h;exact h
     ·try simp only[iC] at mQ
      refine aj "Keb" ?_;refine WL.t2 call225 Z Z (nP _ _) Z<|aj "d" ?_;obtain rfl:n=(i:Int):=by omega
      have r:¬C.aC.up=false:=by show ¬C.up=false;rw[nD];decide
      have wE:¬C.aC.block b=false:=by rw[aQ];decide
      rcases d with ⟨wM,j,rfl⟩ | ⟨wM,G,j,rfl⟩
      ·have a:C.aC.erase b=({ C.aC.bE with aX:=aD.bD C.aC.bE.aX b i,bM:=aD.bD C.aC.bE.bM b i },70):=by
        unfold aD.erase;rw[if_neg r,if_neg wE,if_pos wM,j];rfl
       rw[a,wM];refine qR ((C.bE.bD b i).A bc::F) Z Z (λw h=>Sat.all (l:=(C.bE.bD b i).parts bc) ?_) ⟨_,hC.bE.bD b i,Z,Cw.tT _ _ _,Z⟩;unfold Cw.parts;rw[Cw.rU,Cw.rO];exact h
      ·have a:C.aC.erase b=({ C.aC.bE with aX:=aD.bD C.aC.bE.aX b i,bM:=aD.bD C.aC.bE.bM b i,next:=C.aC.bE.lH b 0 },0):=by
        unfold aD.erase;rw[if_neg r,if_neg wE,if_neg (by rw[wM];decide),if_neg (by rw[G];decide),j];rfl
       rw[a,wM];refine qR (((C.bE.bD b i).eG b 0).A bc::F) Z Z (λw h=>Sat.all (l:=((C.bE.bD b i).eG b 0).parts bc) ?_) ⟨_,(hC.bE.bD b i).eG (by show (0:Int)≤0∧0≤C.g.pg;omega),Z, ?_,Z⟩
       ·unfold Cw.parts;rw[show ((C.bE.bD b i).eG b 0).kU=_ from Cw.rU C.bE b i,show ((C.bE.bD b i).eG b 0).oV=_ from Cw.rO C.bE b i];have B:((C.bE.bD b i).eG b 0).cells=C.bE.cells:=by
         unfold Cw.cells Cw.eG Cw.bD;simp
        rw[B];exact h
       ·rw[Cw.rP,Cw.tT];rfl
theorem SH{C:Cw}{b:Nat}(h2:Rd K F (some ⟨b2,0,none⟩) (ptr bc 0))(h3:Rd K F (some ⟨b3,0,none⟩) (.i k)):aB prog 230 #[ptr b2 0,ptr b3 0] K (C.A bc::F) (λv H'=>H'=(C.mark k).A bc::F):=by
 refine aB.wC ?_;dsimp only[Cw.parts,cons_append,nil_append];refine aB.en func230 ntmps230 ?_;refine WC.dM F (by kernel_rfl)<|WA.t 0 Z (V.load isAgg27 (ak Z) (λ_=>h2)) ?_;refine aj "~c142" ?_;refine WA.t 4 Z (V.load isAgg3 (ak Z) (λ_=>h3)) ?_;refine aj "m3<cm5" ?_;refine WL.u6 (k:=_) underlying163 kl3 (ak Z) (ak Z) (ak Z) (by repeat (first | exact p8.here | apply p8.up))<|aj "*" ?_;exact aF.ret (H':=(C.mark k).A bc::F) (bJ.none Z) (λw h=>Sat.all (l:=(C.mark k).parts bc) (by rw[KO] at h;exact h)) Z
theorem Rv{C:Cw}(hC:C.Ok){caps:List Value}(hf:bP prog f)(hdo:aB prog f caps.toArray K (C.bE.A bc::F) (λv H'=>H'=C1.A bc::F)) :
 aB prog 159 #[ptr bc 0,.func (.func f) #[] caps.toArray] K (C.A bc::F) (λv H'=>v= .i (aD.after C.aC.cut)∧H'=(if !C.aC.cut||decide (0<C.nG) then C1 else C.bE).A bc::F):=by
 refine aB.wC ?_;dsimp only[Cw.parts,cons_append,nil_append];refine aB.en func159 ntmps159 ?_;refine aj "ai" ?_;refine WL.c1 call224 Z (Ez (C:=C) hC.left) Z ?_;rintro _ _ ⟨rfl,rfl⟩;refine aj "f9%~~w~!@~jIh" (aW (λa=> ?_) λa=> ?_)
 ·refine aj "g" ?_;refine WL.sub (Sub.refl _) (λw h=>Sat.all (l:=C.bE.parts bc) h)<|WL.ny (first:=[]) (captured:=caps) (vs:=[]) hf (ak Z) trivial hdo Z ?_;rintro _ _ rfl;refine aj "ceb" ?_;refine WL.t2 call225 Z Z (nP _ _) Z<|aj "d" ?_;exact qR (C1.A bc::F) Z Z cO ⟨Z,by rw[if_pos (show (!C.aC.cut||decide (0<C.nG))=true from a)]⟩
 ·refine aj "Tb" ?_;refine WL.t2 call225 Z Z (nP _ _) Z<|aj "d" ?_;exact qR (C.bE.A bc::F) Z Z (λw h=>Sat.all (l:=C.bE.parts bc) h) ⟨Z,by rw[if_neg (show ¬(!C.aC.cut||decide (0<C.nG))=true by rw[show (!C.aC.cut||decide (0<C.nG))=false from a];decide)]⟩
theorem ae0{c:Bool}{C1:Cw}(h1:C1.aC=S1)(h2:C2.aC=S2):(if c then C1 else C2).aC=if c then S1 else S2:=by cases c<;>simp[h1,h2]
theorem Z7{c:Bool}{C1:Cw}(h1:C1.Ok)(h2:C2.Ok):(if c then C1 else C2).Ok:=by cases c<;>simp[h1,h2]
theorem XZ{C:Cw}(hC:C.Ok)(b:Int) :
 aB prog 173 #[ptr bc 0,.i b] K (C.A bc::F)
  (λv H'=>∃C':Cw,C'.Ok∧H'=C'.A bc::F∧C'.aC=(C.aC.mark b).1∧v= .i (C.aC.mark b).2):=by
 refine aB.wC ?_;dsimp only[Cw.parts,cons_append,nil_append];refine aB.en func173 ntmps173 ?_;refine aj "a~k" λe=> ?_;refine aj "~k" λd=> ?_;refine aj "ta<" ?_;refine WL.t1 call93 Z (jm (C:=C) wL) Z<|aj "iuh" (aW (λaL=> ?_) λaL=> ?_)
 ·have nD:C.up=false:=by cases h:C.up<;>simp[aD.ready,Cw.aC,h] at aL ⊢
  refine aj "ed" ?_;have a:C.aC.mark b=(C.aC,70):=by unfold aD.mark;rw[if_pos (show C.aC.up=false from nD)]
  rw[a];exact qR (C.A bc::F) Z Z (λw h=>Sat.all (l:=C.parts bc) h.tail.tail) ⟨C,hC,Z,Z,by unfold aD.ready;rw[if_neg (by show ¬C.up=true;rw[nD];decide)]⟩
 ·have nD:C.up=true:=by cases h:C.up<;>simp[aD.ready,Cw.aC,h] at aL ⊢
  refine aj "|a<<" ?_;refine WL.t2 call97 Z Z (vw (C:=C) b wL) Z<|aj "9h" (aW (λaQ=> ?_) λaQ=> ?_)
  ·simp only[Gd] at aQ;refine aj "D" ?_;have a:C.aC.mark b=(C.aC,1):=by unfold aD.mark;rw[if_neg (by show ¬C.up=false;rw[nD];decide),if_pos aQ]
   rw[a];exact qR (C.A bc::F) Z Z (λw h=>Sat.all (l:=C.parts bc) h.tail.tail) ⟨C,hC,Z,Z,Z⟩
  ·simp only[Gd] at aQ;refine aj "7<~~i" ?_;refine WL.sub (Sub.refl _) (λw h=>Sat.all (l:=C.parts bc) (h.bg 9 [2,3,4,5,6,7,8,0,1] Z))<|WL.c2 call159 Z Z (Rv (caps:=[ptr e 0,ptr d 0]) (C1:=C.bE.mark b) hC call230 (SH (b:=0) lD lD)) Z ?_;rintro _ _ ⟨rfl,rfl⟩;refine aj "d" ?_;have a:C.aC.mark b=C.aC.all λT=> { T with marked:=λk=>if k=b then true else T.marked k }:=by unfold aD.mark;rw[if_neg (by show ¬C.up=false;rw[nD];decide),if_neg (by rw[aQ];decide)]
   rw[a];exact qR ((if !C.aC.cut||decide (0<C.nG) then C.bE.mark b else C.bE).A bc::F) Z Z (λw h=>h.bg 3 [0] Z) ⟨_,Z7 hC.bE.mark hC.bE,Z,ae0 Z Z,Z⟩
def aeT(x k:Int):Int:=((x.toNat ^^^ 2^k.toNat:Nat):Int)
def Oq(ys:List Int)(i:Int):List Int:=ys.set (i/8).toNat (aeT (ys.getD (i/8).toNat 0) (i%8))
def turn(xs l:List Int):List Int:=l.foldl Oq xs
theorem HY(hx:0≤x∧x<256)(hk:0≤k∧k<8):bitsOf .xor .u8 x (IntKind.u8.wrap (1*2^(min k.toNat IntKind.u8.bits)))=aeT x k∧0≤aeT x k∧aeT x k<256:=by
 have h:((List.range 256).all λa=>(List.range 8).all λj=>decide (bitsOf .xor .u8 (a:Int) (IntKind.u8.wrap (1*2^(min j IntKind.u8.bits)))=aeT a j)&&decide (0≤aeT a j)&&decide (aeT a j<256))=true:=by kernel_rfl
 have d:=all_eq_true.1 h x.toNat (mem_range.2 ay);have b:=all_eq_true.1 d k.toNat (mem_range.2 ay);simp only[Bool.and_eq_true,decide_eq_true_eq] at b;rw[show ((x.toNat:Nat):Int)=x by omega,show ((k.toNat:Nat):Int)=k by omega] at b;exact⟨b.1.1,b.1.2,b.2⟩
theorem Cn(ys:List Int)(i:Int):(Oq ys i).length=ys.length:=by simp[Oq]
theorem mO:∀(l xs:List Int),(turn xs l).length=xs.length
 | [],_=>rfl
 | i::l,xs=>by rw[turn,foldl_cons,←turn,mO l,Cn]
theorem WI{i:Int}(h:bF ys)(hi:0≤i∧i<8*ys.length):bF (Oq ys i):=λx a=>by
 rcases mem_or_eq_of_mem_set a with b | rfl
 ·exact h x b
 ·have o7:(i/8).toNat<ys.length:=by omega
  rw[getD,getElem?_eq_getElem o7];exact (HY (h _ (getElem_mem o7)) ay).2
theorem IQ:∀ {l xs:List Int},bF xs→(∀i∈l,0≤i∧i<8*(xs.length:Int))→bF (turn xs l)
 | [],_,h,_=>h
 | i::l,xs,h,hi=>by
  rw[turn,foldl_cons,←turn];exact IQ (WI h (hi i (.head _))) (λj hj=>by rw[Cn];exact hi j (.tail _ hj))
theorem YB{l:List Int}(h:j<l.length):turn xs (l.take (j+1))=Oq (turn xs (l.take j)) (l.getD j 0):=by
 rw[take_add_one,getElem?_eq_getElem h,turn,turn,foldl_append];simp[getD,h]
theorem KP(hx:bF xs)(hs:Seq K F A m 1 (ints .u8 xs))(hl:Seq K F B q 1 (ints .i64 l))(hi:∀i∈l,0≤i∧i<8*(xs.length:Int))(hmx:m≤100000)(hq:q≤maxLen) :
 aB prog 223 #[.slice A m cap,.slice B q cap'] K F (λv H'=>∃b,v= .tuple #[.slice (some ⟨b,0,none⟩) m m,.i 0]∧H'=ah b 5 (ints .u8 (turn xs l))::F):=by
 have uI:xs.length=m:=by simpa [ints] using hs.len
 have n:l.length=q:=by simpa [ints] using hl.len
 have r:q≤9223372036854775807:=by simpa [maxLen] using hq
 refine aB.en func223 ntmps223 ?_;refine aj "alij" ?_;refine WL.nM (m:=m) underlying34 yL (ak Z) (ak Z) Z Z ay Z Z Z (λa=>aj "0" ?_);refine WL.yY dO (ak Z) (ak Z) (by repeat (first | exact hs | apply Seq.up)) (Nat.le_refl _) (xI _ _) (bT.front (by simp[ints];omega)) Z<|aj "crjR" ?_;refine WC.loop (σ:=Nat) (λj=>[(0,.slice A m cap),(6,.slice (some ⟨a,0,none⟩) m m),(15,.slice B q cap'),(16,.i (q:Int)),(17,.i (j:Int))]) (λj=>ah a 5 (ints .u8 (turn xs (l.take j)))::F) (λj=>j≤q) (λj=>q-j) 0 (zero_le _) bC (λw h=>Sat.aT h (by rw[drop_eq_nil_of_le (by simp[ints];omega)];simp[turn])) ?_;rintro j u;refine aj "VJ" (aW (λaL=> ?_) λaL=> ?_)
 ·try simp only[iC] at aL
  refine aj "Ea" ?_;refine WL.val (V.dw eB (ak Z) (ak Z) (λd=>by omega) (λd=>by repeat (first | exact Seq.dD hl ay | apply Rd.up))) Z<|WL.val (V.load isAgg3 (ak Z) (λd=>by repeat (first | exact Seq.dD hl ay | apply Rd.up))) Z<|aj "tL" ?_;have k:j<q:=ay;have ZI:0≤l.getD j 0∧l.getD j 0<8*(xs.length:Int):=by
   rw[getD,getElem?_eq_getElem ay];exact hi _ (getElem_mem _)
  rw[show (j:Int).toNat=j by omega];refine aj "gP%~z~p~~?~~XIc" ?_;refine WC.ni Z ((by simp only[Bool.or_eq_false_iff,decide_eq_false_iff_not];omega))<|WC.skip<|WC.dM F (by kernel_rfl)<|aj "n0n1" ?_;refine WA.t 2 Z (V.aeC (ak Z) (ak Z) (λd=>by omega)) ?_;refine aj "~e3n5" ?_;refine WA.t 6 Z (V.Av (ak Z) (ak Z) Jy) ?_;refine aj "~~;7m4" ?_;refine WL.val (V.load isAgg5 (ak Z) (λ_=>Rd.here (v:= .int .u8 ((turn xs (l.take j)).getD (l.getD j 0/8).toNat 0)) (by rw[Nat.zero_add,Nat.mul_one];exact tY _ _ (by rw[mO];omega)))) Z<|WL.nil (WA.t 8 Z (V.xor (ak Z) (ak Z)) ?_);refine WA.t 9 Z (V.FW dO (ak Z) (ak Z) Jy) ?_;refine WA.o 10 Z ?_;refine WL.store (cs:=[_]) sizeOf5 (ak Z) (ak Z) Z Z Z (bT.at_ (by rw[Nat.zero_add,Nat.mul_one,bR,mO];omega))<|aj "*8" ?_;refine⟨j+1,(by show j+1≤q;omega),(by show q-(j+1)<q-j;omega),.cons Z bC,λw h=>Sat.aT h ?_⟩;have e:=IQ (xs:=xs) (l:=l.take j) hx (λi h=>hi i (mem_of_mem_take h));have o7:(l.getD j 0/8).toNat<(turn xs (l.take j)).length:=by rw[mO];omega
  rw[YB ay,Nat.zero_add,Nat.mul_one,(HY (x:=(turn xs (l.take j)).getD (l.getD j 0/8).toNat 0) (by rw[getD,getElem?_eq_getElem o7];exact e _ (getElem_mem o7)) ay).1,ints_set];rfl
 ·try simp only[iC] at aL
  refine aj "KeF" ?_;obtain rfl:j=q:=by omega
  refine aF.ret (H':=ah a _ _::F) (bJ.eU Z Z Z) (λw h=>Sat.aT h ?_) ⟨a,Z,Z⟩;rw[take_of_length_le ay]
def aD.gU(S:aD)(b p:Int):Int:=if S.up=false then 70 else if S.oG b p=false then 1 else 0
def aD.reads(S:aD)(b p:Int):List Int:=turn ((S.aX (b,p)).getD S.blank) ((S.bM (b,p)).getD [])
theorem Cw.Ok.Le{C:Cw}(hC:C.Ok)(b p:Int):(C.aC.reads b p).length=C.g.raw.toNat:=by
 have d:=bQ.sS hC.aU;unfold aD.reads;rw[mO];have a:C.aC.aX (b,p)=(C.aX (b,p)).map (·.2.2):=rfl;rw[a];cases h:C.aX (b,p) with
 | none=>exact length_replicate
 | some e=>have :=(hC.oG _ e h).2.1;simp;omega
theorem Cw.Ok.OP{C:Cw}(hC:C.Ok)(b p:Int):bF ((C.aC.aX (b,p)).getD C.aC.blank):=by
 have a:C.aC.aX (b,p)=(C.aX (b,p)).map (·.2.2):=rfl;rw[a];cases h:C.aX (b,p) with
 | none=>exact bF.wJ ay
 | some e=>exact (hC.oG _ e h).2.2
theorem Cw.Ok.aci{C:Cw}(hC:C.Ok)(b p:Int):(((C.aC.aX (b,p)).getD C.aC.blank).length:Int)=C.g.raw:=by
 have d:=bQ.sS hC.aU;have a:C.aC.aX (b,p)=(C.aX (b,p)).map (·.2.2):=rfl;rw[a];cases h:C.aX (b,p) with
 | none =>
  show ((replicate C.g.raw.toNat 255).length:Int)=C.g.raw;rw[length_replicate];omega
 | some e=>exact (hC.oG _ e h).2.1
theorem Cw.Ok.OD{C:Cw}(hC:C.Ok)(b p:Int):∃Aw cw lw,(C.oV (b,p)).getD (.slice none 0 0)= .slice Aw lw.length cw∧iK C.own Aw lw.length 1 (ints .i64 lw)∧(∀i∈lw,0≤i∧i<8*C.g.raw)∧lw=(C.aC.bM (b,p)).getD []∧lw.length≤maxLen:=by
 have a:C.aC.bM (b,p)=(C.bM (b,p)).map (·.2.2):=rfl;have j:C.oV (b,p)=(C.bM (b,p)).map Cw.nW:=rfl;rw[a,j];cases h:C.bM (b,p) with
 | none=>exact⟨none,0,[],Z,iK.nil,λi d=>by simp at d,Z,zero_le _⟩
 | some e=>have :=hC.wr _ e h;exact⟨e.1,e.2.1,e.2.2,Z,this.1,this.2.1,Z,this.2.2⟩
theorem LJ{C:Cw}(hC:C.Ok)(b p:Int) :
 aB prog 155 #[ptr bc 0,.i b,.i p] K (C.A bc::F)
  (λv H'=>(C.aC.gU b p=0∧∃bo,v= .tuple #[.slice (some ⟨bo,0,none⟩) C.g.raw.toNat C.g.raw.toNat,.i 0]∧H'=ah bo 5 (ints .u8 (C.aC.reads b p))::C.A bc::F) ∨
   (C.aC.gU b p≠0∧v= .tuple #[.slice none 0 0,.i (C.aC.gU b p)]∧H'=C.A bc::F)):=by
 have O:=bQ.sS hC.aU;obtain⟨J,L,I,y,u,x,H,UQ⟩:=hC.OD b p;have BI:=hC.aci b p;have m:=hC.OP b p;have j:turn ((C.aC.aX (b,p)).getD C.aC.blank) I=C.aC.reads b p:=by unfold aD.reads;rw[H]
 refine aB.wC ?_;dsimp only[Cw.parts,cons_append,nil_append];cases Dt:C.aX (b,p) with
 | none =>
  have n:(C.aC.aX (b,p)).getD C.aC.blank=replicate C.g.raw.toNat 255:=by
   rw[show C.aC.aX (b,p)=(C.aX (b,p)).map (·.2.2) from Z,Dt];rfl
  rw[n] at j BI m;refine aB.en func155 ntmps155 ?_;refine aj "alf" ?_;refine WL.t1 call93 Z (jm (C:=C) wL) Z<|aj "iuh" (aW (λaL=> ?_) λaL=> ?_)
  ·have nD:C.up=false:=by cases h:C.up<;>simp[aD.ready,Cw.aC,h] at aL ⊢
   refine aj "eF" ?_;have a:C.aC.gU b p=70:=by unfold aD.gU;rw[if_pos (show C.aC.up=false from nD)]
   have G:C.aC.ready=70:=by unfold aD.ready;rw[if_neg (by show ¬C.up=true;rw[nD];decide)]
   rw[G];exact aF.ret (H':=C.A bc::F) (bJ.eU Z Z Z) (λw h=>Sat.all (l:=C.parts bc) h) (.inr ⟨by rw[a];decide,by rw[a],Z⟩)
  ·have nD:C.up=true:=by cases h:C.up<;>simp[aD.ready,Cw.aC,h] at aL ⊢
   refine aj "qrx" ?_;refine WL.t3 call221 Z Z Z (En (C:=C) b p wL) Z<|aj "9h" (aW (λd=> ?_) λd=> ?_)
   ·simp only[Gd] at d;refine aj "aF" ?_;have a:C.aC.gU b p=1:=by unfold aD.gU;rw[if_neg (by show ¬C.up=false;rw[nD];decide),if_pos d]
    exact aF.ret (H':=C.A bc::F) (bJ.eU Z Z Z) (λw h=>Sat.all (l:=C.parts bc) h) (.inr ⟨by rw[a];decide,by rw[a],Z⟩)
   ·simp only[Gd] at d;refine aj "T[kx" ?_;refine WL.val (V.build (vs:=[(0,_),(1,_)]) ⟨ak Z,ak Z,trivial⟩ Z (iT _ _)) Z<|WL.val (V.aG (v':= .tuple #[.slice none 0 0,.bool false]) (V.Qu (k:=(b,p)) underlying161 zeroValue34 zQ (ak Z) (ak Z) (λ_=>by repeat (first | exact J2.here | apply J2.up))) (λ_=>by unfold Cw.kU;rw[Dt];rfl)) Z<|aj "Hf9c3g" ?_;refine WL.c1 call222 Z (Ij (C:=C) hC.aU wL) Z ?_;rintro _ _ ⟨bo,rfl,rfl⟩;refine aj "0[kx" ?_;refine WL.val (V.build (vs:=[(0,_),(1,_)]) ⟨ak Z,ak Z,trivial⟩ Z (iT _ _)) Z<|WL.val (V.aG (v':= .slice J I.length L) (V.lookup (k:=(b,p)) underlying162 zeroValue124 zQ (ak Z) (ak Z) (λ_=>by repeat (first | exact J2.here | apply J2.up))) (λ_=>y)) Z<|WL.c2 call223 Z Z (KP m (by repeat (first | exact Seq.allI (by simp) | apply Seq.up)) (by repeat (first | exact iK.seq u | apply Seq.up)) (by rw[BI];exact x) ay UQ) Z ?_;rintro _ _ ⟨B,rfl,rfl⟩;refine aj "~$F" ?_;have a:C.aC.gU b p=0:=by unfold aD.gU;rw[if_neg (by show ¬C.up=false;rw[nD];decide),if_neg (by rw[d];decide)]
    refine aF.ret (H':=ah B _ (ints .u8 (C.aC.reads b p))::C.A bc::F) (bJ.eU Z Z Z) (λw h=> ?_) (.inl ⟨a,B,Z,Z⟩);rw[j] at h;exact (Sat.all (l:=C.parts bc) (h.bg 9 [2,3,4,5,6,7,8,0] Z)).p1
 | some e =>
  obtain⟨M,N,r⟩:=e;have ZF:=hC.oG _ _ Dt;have n:(C.aC.aX (b,p)).getD C.aC.blank=r:=by
   rw[show C.aC.aX (b,p)=(C.aX (b,p)).map (·.2.2) from Z,Dt];rfl
  rw[n] at j BI m;have uI:r.length=C.g.raw.toNat:=ay;have D:iK C.own M r.length 1 (ints .u8 r):=ZF.1;refine aB.en func155 ntmps155 ?_;refine aj "alf" ?_;refine WL.t1 call93 Z (jm (C:=C) wL) Z<|aj "iuh" (aW (λaL=> ?_) λaL=> ?_)
  ·have nD:C.up=false:=by cases h:C.up<;>simp[aD.ready,Cw.aC,h] at aL ⊢
   refine aj "eF" ?_;have a:C.aC.gU b p=70:=by unfold aD.gU;rw[if_pos (show C.aC.up=false from nD)]
   have G:C.aC.ready=70:=by unfold aD.ready;rw[if_neg (by show ¬C.up=true;rw[nD];decide)]
   rw[G];exact aF.ret (H':=C.A bc::F) (bJ.eU Z Z Z) (λw h=>Sat.all (l:=C.parts bc) h) (.inr ⟨by rw[a];decide,by rw[a],Z⟩)
  ·have nD:C.up=true:=by cases h:C.up<;>simp[aD.ready,Cw.aC,h] at aL ⊢
   refine aj "qrx" ?_;refine WL.t3 call221 Z Z Z (En (C:=C) b p wL) Z<|aj "9h" (aW (λd=> ?_) λd=> ?_)
   ·simp only[Gd] at d;refine aj "aF" ?_;have a:C.aC.gU b p=1:=by unfold aD.gU;rw[if_neg (by show ¬C.up=false;rw[nD];decide),if_pos d]
    exact aF.ret (H':=C.A bc::F) (bJ.eU Z Z Z) (λw h=>Sat.all (l:=C.parts bc) h) (.inr ⟨by rw[a];decide,by rw[a],Z⟩)
   ·simp only[Gd] at d;refine aj "T[kx" ?_;refine WL.val (V.build (vs:=[(0,_),(1,_)]) ⟨ak Z,ak Z,trivial⟩ Z (iT _ _)) Z<|WL.val (V.aG (v':= .tuple #[.slice M r.length N,.bool true]) (V.Qu (k:=(b,p)) underlying161 zeroValue34 zQ (ak Z) (ak Z) (λ_=>by repeat (first | exact J2.here | apply J2.up))) (λ_=>by unfold Cw.kU;rw[Dt];rfl)) Z<|aj "Hf92Tb[kx" ?_;refine WL.val (V.build (vs:=[(0,_),(1,_)]) ⟨ak Z,ak Z,trivial⟩ Z (iT _ _)) Z<|WL.val (V.aG (v':= .slice J I.length L) (V.lookup (k:=(b,p)) underlying162 zeroValue124 zQ (ak Z) (ak Z) (λ_=>by repeat (first | exact J2.here | apply J2.up))) (λ_=>y)) Z<|WL.c2 call223 Z Z (KP m (by repeat (first | exact iK.seq D | apply Seq.up)) (by repeat (first | exact iK.seq u | apply Seq.up)) (by rw[BI];exact x) ay UQ) Z ?_;rintro _ _ ⟨B,rfl,rfl⟩;refine aj "~$F" ?_;have a:C.aC.gU b p=0:=by unfold aD.gU;rw[if_neg (by show ¬C.up=false;rw[nD];decide),if_neg (by rw[d];decide)]
    refine aF.ret (H':=ah B _ (ints .u8 (C.aC.reads b p))::C.A bc::F) (bJ.eU Z Z Z) (λw h=> ?_) (.inl ⟨a,B,by rw[uI],Z⟩);rw[j] at h;exact (Sat.all (l:=C.parts bc) (h.bg 8 [1,2,3,4,5,6,7,0] Z)).p1
def Cw.new(g:bQ)(m:Int→Bool)(bp bw bn bm bk:Nat):Cw:=⟨g,λ_=>none,λ_=>none,replicate g.bl.toNat 0,m,λ_=>false,0,true,0,0,bp,bw,bn,bm,bk,[]⟩
def aD.new(g:bQ)(l:List Int):aD:=⟨g,λ_=>none,λ_=>none,replicate g.bl.toNat 0,λk=>decide (k∈l),λ_=>false,0,true,0,0⟩
theorem Cw.agR{g:bQ}(h:g.aU)(m:Int→Bool)(bp bw bn bm bk:Nat):(Cw.new g m bp bw bn bm bk).Ok:=by
 refine⟨h,λp e a=>(by have h:(none:Option (Option Addr×Nat×List Int))=some e:=a;cases h),λp e a=>(by have h:(none:Option (Option Addr×Nat×List Int))=some e:=a;cases h), ?_,λx b=> ?_,(by show (0:Int)≤0∧(0:Int)≤9223372036854775807;decide)⟩
 ·show ((replicate g.bl.toNat 0).length:Int)=g.bl;rw[length_replicate];unfold bQ.aU at h;omega
 ·rw[eq_of_mem_replicate b];unfold bQ.aU at h;show (0:Int)≤0∧0≤g.pg;omega
theorem Nb{l:List Int}(h:j<l.length):(λk'=>if k'=l.getD j 0 then true else decide (k'∈l.take j))=λk=>decide (k∈l.take (j+1)):=by
 funext k;have d:l.getD j 0=l[j]:=by simp[getD,h]
 have b:l.take (j+1)=l.take j++[l[j]]:=by rw[take_add_one,getElem?_eq_getElem h];rfl
 rw[d,b];by_cases a:k=l[j]
 ·rw[if_pos a,decide_eq_true (mem_append.2 (.inr (mem_singleton.2 a)))]
 ·rw[if_neg a];exact decide_eq_decide.2 ⟨λh=>mem_append_left _ h,λh=>(mem_append.1 h).elim id λh=>absurd (mem_singleton.1 h) a⟩
theorem ZU(g:bQ)(hl:Seq K F B q 1 (ints .i64 l))(hq:q≤9223372036854775807) :
 aB prog 29 #[g.v,.slice B q cap] K F (λv H' =>
  (g.may=true∧(∀x∈l,0≤x∧x<g.bl)∧∃bc,∃C:Cw,C.Ok∧C.aC=aD.new g l∧v= .tuple #[ptr bc 0,.i 0]∧H'=C.A bc::F) ∨
  (¬(g.may=true∧∀x∈l,0≤x∧x<g.bl)∧v= .tuple #[.pointer none,.i 1]∧H'=F)):=by
 have R:l.length=q:=by simpa [ints] using hl.len
 cases hm:g.may with
 | false =>
  refine aB.en func29 ntmps29 ?_;refine aj "a&" λS=> ?_;refine aj "lwy" ?_;refine WL.t1 call96 Z (aK.eq (v':= .tuple #[.i 0,.i 1]) (Nh g _ _) (by rw[hm];rfl)) Z<|aj "Hfuc3eF" ?_;exact aF.ret (H':=F) (bJ.eU Z Z Z) eO (.inr ⟨λh=>(by cases h.1),rfl,rfl⟩)
 | true =>
  have N:=bQ.rF hm;have uJ:=N;unfold bQ.aU at uJ;refine aB.en func29 ntmps29 ?_;refine aj "a&" λS=> ?_;refine aj "lwy" ?_;refine WL.t1 call96 Z (aK.eq (v':= .tuple #[.i g.raw,.i 0]) (Nh g _ _) (by rw[hm];rfl)) Z<|aj "Hfu2|~X~)0n144]5" ?_;refine WA.par (fuel:=3) (e0:=[(24,.i g.bl),(20,.i g.raw),(19,g.v),(1,.slice B q cap)]) (UJ:= #[true,true,true,true,true,true,true,true,true,false,false,false]) [⟨2,21,λb=> .map (some b),λb=>gD b jw λ_=>none⟩,⟨3,22,λb=> .map (some b),λb=>gD b jw λ_=>none⟩,⟨6,25,λb=> .slice (some ⟨b,0,none⟩) g.bl.toNat g.bl.toNat,λb=>ah b 3 (replicate g.bl.toNat (.i 0))⟩,⟨7,26,λb=> .map (some b),λb=>gD b vJ λ_=>none⟩,⟨8,27,λb=> .map (some b),λb=>gD b vJ λ_=>none⟩] _ Z Z Z bC (by kernel_rfl) ?_ cO (λO M=> ?_)
  ·intro x D;simp only[mem_cons,not_mem_nil,or_false] at D;rcases D with rfl | rfl | rfl | rfl | rfl
   ·exact⟨_,Z,λJ H' H G h=>WL.makeMap jw Z h⟩
   ·exact⟨_,Z,λJ H' H G h=>WL.makeMap jw Z h⟩
   ·exact⟨_,Z,λJ H' H G h=>WL.nM (m:=g.bl.toNat) underlying124 Me (OV.p (G 24 _ Z)) (OV.p (G 24 _ Z)) ay ay ay Z Z Z h⟩
   ·exact⟨_,Z,λJ H' H G h=>WL.makeMap vJ Z h⟩
   ·exact⟨_,Z,λJ H' H G h=>WL.makeMap vJ Z h⟩
  obtain⟨n,QB,y,u,r,rfl⟩:∃a b c d e,O=[a,b,c,d,e]:=by
   match O,M with
   | [a,b,c,d,e],_=>exact⟨a,b,c,d,e,Z⟩
  simp only[zip_cons_cons,zip_nil_right,map_cons,map_nil,cons_append,nil_append];refine WA.t 9 Z (V.build (vs:=[(0,_),(1,_),(2,_),(3,_),(4,_),(5,_),(6,_),(8,_)]) ⟨ak Z,ak Z,ak Z,ak Z,ak Z,ak Z,ak Z,ak Z,trivial⟩ Z (vG _ _ _ _ _ _ _ _ _ _ _ _ _ _)) ?_;refine WA.o 10 Z ?_;refine WL.box (cs:=[_,_,_,_,_,_,_,_,_,_,_,_,_,_,_]) (ak Z) Z Z (λVa=> ?_);refine aj "c~A;~rrjR" ?_;refine WC.loop (σ:=Nat) (λj=>[(8,ptr Va 0),(30,.slice B q cap),(31,.i (q:Int)),(32,.i (j:Int))]) (λj=>ah Va 165 (Cw.new g (λ_=>false) n QB y u r).cells::gD n jw (λ_=>none)::gD QB jw (λ_=>none)::ah y 3 (ints .i64 (replicate g.bl.toNat 0))::gD u vJ (nJ λk=>decide (k∈l.take j))::gD r vJ (λ_=>none)::F) (λj=>j≤q∧∀x∈l.take j,0≤x∧x<g.bl) (λj=>q-j) 0 ⟨zero_le _,λx D=>(by cases D)⟩ bC (λw h=> ?_) ?_
  ·rw[GX];have T:(Cw.new g (λ_=>false) n QB y u r).cells=_:=rfl;refine Sat.aT (h.bg 7 [0,1,2,3,4,5] Z) ?_;simp[Cw.cells,Cw.new]
  rintro j ⟨U,BG⟩;refine aj "VJ" (aW (λaQ=> ?_) λaQ=> ?_)
  ·try simp only[iC] at aQ
   refine aj "Ea" ?_;refine WL.val (V.dw eB (ak Z) (ak Z) Jy (λL=>by repeat (first | exact Seq.dD hl (by first | omega | (simp at L;omega)) | apply Rd.up))) Z<|WL.val (V.load isAgg3 (ak Z) (λL=>by repeat (first | exact Seq.dD hl (by first | omega | (simp at L;omega)) | apply Rd.up))) Z<|aj "fb" ?_;refine WL.t2 call97 Z Z (vw (C:=Cw.new g (λ_=>false) n QB y u r) _ wL) Z<|aj "9h" (aW (λI=> ?_) λI=> ?_)
   ·refine aj "aF" ?_;refine aF.ret (H':=F) (bJ.eU Z Z Z) eO (.inr ⟨λh=> ?_,Z,Z⟩);have Q:=h.2 (l.getD (j:Int).toNat 0) (by rw[getD,getElem?_eq_getElem ay];exact getElem_mem _);simp[aD.block,Cw.aC,Cw.new] at I;simp at Q;omega
   ·refine aj "qg[kb" ?_;refine WL.u6 (k:=_) underlying163 kl3 (ak Z) (ak Z) (ak Z) (by repeat (first | exact p8.here | apply p8.up))<|aj "c8" ?_;refine⟨j+1,⟨by show j+1≤q;omega,λx D=> ?_⟩,(by show q-(j+1)<q-j;omega),.cons Z bC,λw h=> ?_⟩
    ·rw[take_add_one,getElem?_eq_getElem ay] at D;rcases mem_append.1 D with D | D
     ·exact BG x D
     ·have Wz:x=l.getD (j:Int).toNat 0:=by
       simp at D;rw[show (j:Int).toNat=j by omega];simp[getD,show j<l.length by omega,D]
      subst Wz;simp[aD.block,Cw.aC,Cw.new] at I;exact I
    ·rw[KO,show (j:Int).toNat=j by omega,Nb ay] at h;exact h
  ·try simp only[iC] at aQ
   refine aj "KeF" ?_;obtain rfl:j=q:=by omega
   rw[take_of_length_le ay] at BG;refine aF.ret (H':=(Cw.new g (λk=>decide (k∈l.take j)) n QB y u r).A Va::F) (bJ.eU Z Z Z) (λw h=> ?_) (.inl ⟨(by first | trivial | rfl),BG,Va,_,Cw.agR N _ _ _ _ _ _, ?_,Z,Z⟩)
   ·have P:=(Sat.all (l:=[]) h).bg 7 [1,2,3,4,5,6,0] Z;exact Sat.all (l:=(Cw.new g (λk=>decide (k∈l.take j)) n QB y u r).parts Va) P
   ·rw[take_of_length_le ay];rfl
theorem O5(hs:Seq K F A m 1 (ints .u8 xs))(hm:m≤1000000) :
 aB prog 125 #[.slice A m cap] K F (λv H'=>∃A' cap',v= .slice A' m cap'∧H'=aV (.slice A' m cap') 5 1 m (ints .u8 xs)::F):=by
 have j:xs.length=m:=by simpa [ints] using hs.len
 refine aB.lG (p:=A=none→xs=[]) (λw k a=>by subst a;simpa [ints] using hs.Rb k) (λRB=>aB.en func125 ntmps125 ?_);refine aj "af~~@h" (aW (λaL=> ?_) λaL=> ?_)
 ·have a:A=none:=by cases A<;>simp at aL ⊢
  subst a;have d:=RB Z;subst d;obtain rfl:m=0:=j.symm;refine aj "D" ?_;exact qR (aV (.slice none 0 0) _ 1 0 []::F) Z Z (λw h=>Sat.gI h _ _) ⟨none,0,Z,Z⟩
 ·refine aj "7" ?_;refine WL.buildSlice (E:=5) (cs:=[]) (vs:=[]) trivial Z (adt ) Z (λn=>WL.mv Z Z<|WL.sub (Sub.refl _) (λw h=>Sat.BX (m:=0) (cap:=0) (s:=1) h Z (Nat.le_refl _) (zero_le _))<|WL.append (m:=0) (cs:=[]) underlying34 yL (ak Z) (ak Z) (by repeat (first | exact hs | apply Seq.up)) (xI _ _) ay Z Z (λA' b e l=>aj "d" ?_));refine aF.ret (H':=aV (.slice A' m b) _ 1 m (ints .u8 xs)::F) (bJ.tmp Z (look_eq Z (by simp))) (λw h=> ?_) ⟨A',b,Z,Z⟩
  simpa using h
namespace Cw
end Cw
theorem Ew(k:IntKind)(xs:List Nat):av k xs=ints k (xs.map λx:Nat=>(x:Int)):=by simp[av,ints]
theorem lY(hs:Seq K F A m 1 (av .u8 xs))(hm:m≤1000000) :
 aB prog 125 #[.slice A m cap] K F (λv H'=>∃A' cap',v= .slice A' m cap'∧H'=aV (.slice A' m cap') 5 1 m (av .u8 xs)::F):=by
 rw[Ew] at hs ⊢;exact O5 hs hm
theorem BP(hm:0<m):∀w,Sat K w (aV (.slice A m cap) E 1 m cs::F)→∃x:Nat×List Value,(A=some ⟨x.1,0,none⟩∧(cs++x.2).length=cap∧cap≤maxLen)∧Sat K w (ah x.1 E (cs++x.2)::F):=λw b=>by
 cases A with
 | none=>have :=(aV.yM b).1;omega
 | some a =>
  obtain⟨g,rfl⟩:=aV.addr b;obtain⟨r,⟨j,k,l,d⟩,e⟩:=Sat.nU b;exact⟨(g,r),⟨Z,by show (cs++r).length=cap;omega,d⟩,e⟩
theorem PK{mo:List Nat}(ht:1≤t∧t≤8)(hd:Seq K F A m 1 (av .u8 d))(hm:Seq K F B q 1 (av .u8 mo))(Nf:aA 256 d)(hm8:aA 256 mo)(wF:1≤m∧m≤512)(Oa:q=aR t) :
 aB prog 283 #[.i (t:Int),.slice A m cap,.slice B q cap'] K F
  (λv H'=>∃bw,∃W:Wd,W.Ok∧W.t=t∧W.d=d∧W.m=jI t mo∧(W.d.length≤W.c1∧W.m.length≤W.c2)∧v= .tuple #[ptr bw 0,.i 0]∧H'=W.parts bw++F):=by
 have H:d.length=m:=by simpa [av] using hd.len
 have Ki:mo.length=q:=by simpa [av] using hm.len
 have arl:q≤13:=by rw[Oa];unfold aR;omega
 have x:0<q:=by rw[Oa];unfold aR;omega
 have u:13*t≤8*q:=by rw[Oa];unfold aR;omega
 refine aB.en func283 ntmps283 ?_;refine aj "al0" ?_;refine WL.t2 call278 Z Z (P7 ht wF) Z<|aj "Hfu%~p~z~QIc" ?_;refine WC.ni Z ((by simp;rw[Oa]))<|aj "Tb" ?_;refine WL.c1 call125 Z (lY hd ay) Z ?_;rintro _ _ ⟨J,c1,rfl,rfl⟩;refine WL.ex (BP ay) (λ⟨b,l⟩ ⟨G,Dq,aQ⟩=> ?_);dsimp only at G Dq ⊢;subst G;refine WL.mv Z Z (WL.c1 call125 Z (lY hm.up ay) Z ?_);rintro _ _ ⟨M,c2,rfl,rfl⟩;refine WL.ex (BP x) (λ⟨e,n⟩ ⟨D,EB,bA⟩=> ?_);dsimp only at D EB ⊢;subst D;have aoY:d.length≤c1:=by rw[←Dq,length_append,au];omega
 have as1:mo.length≤c2:=by rw[←EB,length_append,au];omega
 refine WL.val (V.build (vs:=[(0,_),(1,_),(2,_)]) ⟨ak Z,ak Z,ak Z,trivial⟩ Z (MH _ _ _ _ _ _ _)) Z<|aj "~~%" λa=> ?_;refine aj "f~Eos" ?_;refine WC.loop (σ:=Nat) (λk=>[(10,ptr a 0),(8,.i (q:Int)),(11,.i ((13*t+k:Nat):Int))]) (λk=>ah e 5 (av .u8 (nQ mo (13*t) k)++n)::ah a 370 [.i (t:Int),.slice (some ⟨b,0,none⟩) m c1,.slice (some ⟨e,0,none⟩) q c2]::ah b 5 (av .u8 d++l)::F) (λk=>13*t+k≤8*q) (λk=>8*q-k) 0 (by simpa using u) (.cons Z (.cons (look_eq Z (by rw[Oa])) bC)) (λw h=>h.p1) ?_;rintro k N;refine aj "rb~EPc1" (aW (λaQ=> ?_) λaQ=> ?_)
 ·obtain⟨o,j⟩:∃o,o=nQ mo (13*t) k:=⟨_,Z⟩;have Gh:o.length=q:=by rw[j,sJ,Ki]
  have Zy:aA 256 o:=by rw[j];exact vD hm8 k
  rw[←j];obtain⟨i,y⟩:∃i,i=13*t+k:=⟨_,Z⟩;rw[←y];have EH:(av .u8 o++n)[0+((i:Int)/8).toNat*1]? =some (.int .u8 (o.getD (i/8) 0:Nat)):=by rw[show 0+((i:Int)/8).toNat*1=i/8 by omega];exact mF _ _ _ ay
  have JM:=Lb (Zy.at_ aN (i/8)) (mod_lt i (show 0<8 by decide));refine aj "E" ?_;refine WC.dM (ah a 370 [.i (t:Int),.slice (some ⟨b,0,none⟩) m c1,.slice (some ⟨e,0,none⟩) q c2]::ah b 5 (av .u8 d++l)::F) (by kernel_rfl)<|aj "n0~c142]3n4~~U5~e6n8" ?_;refine WA.t 9 Z (V.aG (v':= .i ((i%8:Nat):Int)) (V.Av (ak Z) (ak Z) (λ_=>by omega)) (λ_=>by simp)) ?_;refine aj "~~;:m7" ?_;refine WL.val (V.load isAgg5 (ak Z) (λL=>Rd.here EH)) Z<|WL.nil<|WA.t 11 Z (V.aG (v':= .int .u8 ((OI (o.getD (i/8) 0) (i%8):Nat):Int)) (V.andNot (ak Z) (ak Z)) (λ_=>by rw[JM.1])) ?_;refine aj "~e<m=" ?_;refine WL.store (cs:=[_]) sizeOf5 (ak Z) (ak Z) Z Z Z (bT.at_ (by rw[length_append,au];omega))<|aj "*gZN" ?_;refine⟨k+1,(by show 13*t+(k+1)≤8*q;omega),(by show 8*q-(k+1)<8*q-k;omega),.cons Z (.cons Z (.cons (look_eq Z (by rw[y];simp;omega)) (.nil _))),λw h=>Sat.aT h ?_⟩;rw[show 0+((i:Int)/8).toNat*1=i/8 by omega,uj _ _ _ ay,nQ,←j,←y]
 ·refine aj "W" ?_;have YX:k=8*aR t-13*t:=ay;have r:nQ mo (13*t) k=jI t mo:=by unfold jI;rw[YX]
  rw[r];have anH:(jI t mo).length=q:=by unfold jI;rw[sJ,Ki]
  refine aj "gF" ?_;refine aF.ret (H':=Wd.parts a ⟨t,d,jI t mo,b,c1,e,c2,l,n⟩++F) (bJ.eU Z Z Z) (λw h=> ?_) ⟨a,⟨t,d,jI t mo,b,c1,e,c2,l,n⟩,⟨ht,by show 1≤d.length∧d.length≤512;omega,by show (jI t mo).length=aR t;omega,Nf,vD hm8 _⟩,Z,Z,Z,⟨aoY,by show (jI t mo).length≤c2;omega⟩,Z,Z⟩;have I:=h.bg 3 [1,2,0] Z;dsimp only[Wd.parts,Wd.cells,cons_append,nil_append];rw[H,anH];exact I
end Go.Proofs.YtcedojacbhnbiaaGreat
