import Derived.Test.YtcedojacbhnbiaaGreatP14
import Derived.OpenShut
import Derived.ChangeArms
set_option autoImplicit true
set_option linter.all false
set_option maxHeartbeats 2000000
set_option maxRecDepth 100000
set_option relaxedAutoImplicit true
namespace Go.Proofs.YtcedojacbhnbiaaGreat
open Go.Sl Go.RowKit Tryz List Nat
theorem Xh{C:aD}{T:St}{mp M:Lm}{B:Nat}{N:Int}(hF:jg 11 11 B N C T mp)(hR:Jj mp M)(EA:11<C.g.bl)(oH:C.g.bl≤20)(kS:16≤C.g.cap)(hN:N≤900000)(hB:B≤900000)(ring:List Ky)(fu:Int){X:aY×Int}(hX:X=nR (fun s=>decide ((fT M ring fu s).2=0)) (stM M).order (stM M)){R:Ran}(hRd:R=tH C T ring fu) :
 ((
  lK C T).2.1=0→wY ring fu (lK C T).1.order (lK C T).1 C (lK C T).2.2)∧R.1=Hq (fT M ring fu) X.2∧(R.1.2=0→(R.1.1.slot=0∨R.1.1.slot=1)∧fu≤R.1.1.sec)∧R.2.1.g=C.g∧R.2.1.aO=C.aO ∧
  ∃ (m':Lm) (B':Nat) (N':Int),jg 11 11 B' N' R.2.1 R.2.2 m'∧B'≤B+2∧N'≤N+42∧(∀i,i≠0→m' i=M i)∧stM m'=X.1:=by
 have dL:=hF.lK aN;have Dv:=qw M;have Gh:(stM M).order.length≤2:=by
  unfold aY.order;rw[if_pos Dv];exact length_filter_le _ _
 obtain⟨hlg,m1,hT⟩:=Ti ring fu hF EA oH kS hN hB;have jh:=hT.ok;rw[←hRd,hR.st] at jh;have RX:∀s,s=0∨s=1→fT mp ring fu s=fT M ring fu s:=fun s hs=>hR.load hs ring fu;obtain⟨m',h2⟩:=OT ring fu (fT M ring fu) (fun s=>ZX M ring fu s) (stM M).order (stM M) C T mp B N hF RX hR.st EA oH kS ay ay (fun s hs=>ql Dv hs);have e:tH C T ring fu=BN ring fu (stM M).order (stM M) C T:=by
  unfold tH;rw[dL,if_neg (fun h=>h rfl),hR.st]
 rw[←e,←hRd] at h2;obtain⟨B',N',f1,f2,f3⟩:=h2.Kt;refine⟨hlg,by rw[hX];exact h2.res,fun h0=> ?_,h2.g,h2.fu,m',B',N',f1,by omega,by omega,fun i hi=>(h2.rest i hi).trans (hR.rest i hi),by rw[hX];exact h2.st⟩;obtain⟨q1,q2,_⟩:=jh h0;exact⟨ql Dv q1,q2⟩
theorem Jj.refl(m:Lm):Jj m m:=⟨fun _ _=>rfl,rfl⟩
theorem ahQ{pk r s:Nat}{b:List Nat}{M:sI}{aO:Int}(hp:pk<256^32)(hr:r<256^32)(hs:s<256^32)(hM:iL b=some M)(hk:M.key=1)(hf:aO≤M.sec)(hv:kE pk b r s=true) :
 eT [⟨1,bG 256 32 pk,false⟩] aO (b++(bG 256 32 r++bG 256 32 s))=(M,0):=by
 have hl:(b++(bG 256 32 r++bG 256 32 s)).length=b.length+64:=by rw[length_append,length_append,aI,aI]
 have al6:∀ {n:Nat},n<256^32→vl 256 (bG 256 32 n)=n:=fun h=>by rw[xV,mod_eq_of_lt h]
 have ao2:q9 [⟨1,bG 256 32 pk,false⟩] M.key=(bG 256 32 pk,0):=by
  unfold q9;rw[if_pos (show j6 [⟨1,bG 256 32 pk,false⟩]=true from rfl),hk];rfl
 unfold eT;rw[if_neg (show ¬j6 [⟨1,bG 256 32 pk,false⟩]=false from fun h=>by cases h),hl,if_neg ay,Nat.add_sub_cancel,take_left,List.drop_left,hM,IX,ao2,if_neg (fun h=>h rfl),take_left' (aI _ _ _),drop_left' (aI _ _ _),al6 hp,al6 hr,al6 hs,hv];rw[if_neg aN,if_neg ay]
theorem agI{ring:List Ky}{aO:Int}{sd d:List Nat}{M:sI}{s:yP}(hh:eT ring aO sd=(M,0))(hs:M.gH=[s])(h1:s.bytes=(d.length:Int))(h2:sum256 d=s.bG):kW ring aO sd [d]=(⟨0,M.yS,M.sec,[(s.load,d)]⟩,0):=by
 unfold kW;rw[hh,if_neg (fun h=>h rfl)];dsimp only;rw[hs,if_neg (fun h=>h rfl),if_pos (by unfold EO;rw[Xi,h1,h2];simp)];rfl
theorem ahL{m:Lm}{ring:List Ky}{aO slot:Int}{sd d:List Nat}{M:sI}{s:yP}(mR:slot=0∨slot=1)(h0:m (1+5*slot).toNat=some sd)(h1:m (2+5*slot).toNat=some d)(hh:eT ring aO sd=(M,0))(hs:M.gH=[s])(hb:s.bytes=(d.length:Int))(hd:sum256 d=s.bG) :
 fT m ring aO slot=(⟨slot,M.yS,M.sec,[(s.load,d)]⟩,0):=by
 have e1:gF m slot 1 0=([d],0):=by
  rw[gF,aex mR (show 0<4 by decide),if_neg (fun h=>h rfl)];dsimp only;rw[show (2+5*slot+((0:Nat):Int)).toNat=(2+5*slot).toNat by simp,h1];rfl
 unfold fT;rw[XH mR,h0];dsimp only;rw[hh,if_neg (fun h=>h rfl)];dsimp only;rw[hs,show [s].length=1 from rfl,e1,if_neg (fun h=>h rfl)];dsimp only;rw[agI hh hs hb hd]
def M0:sI:=⟨0,0,1,0,[⟨0,0,replicate 32 0⟩]⟩
def abc:List Nat:=[97,98,99]
def M1:sI:=aeF M0 [abc]
theorem ao4:M1.ok=true:=by kernel_rfl
theorem ae3:iL (Al M1)=some M1:=by kernel_rfl
theorem aiO:kE (Ms 0) (Al M1) (Vg 0 (Al M1)).1 (Vg 0 (Al M1)).2=true:=by kernel_rfl
theorem afK:∀s∈M1.gH,s.Ok:=fun s hs=>by
 unfold M1 aeF M0 at hs;simp only[List.zipWith_cons_cons,List.zipWith_nil_left,mem_cons,not_mem_nil,or_false] at hs;rw[hs];exact afs _ _
theorem ac1(seed:Nat)(b:List Nat):(Ak seed b).length=b.length+64∧(Ak seed b).take ((Ak seed b).length-64)=b:=by
 have h:(Ak seed b).length=b.length+64:=by unfold Ak;rw[length_append,length_append,aI,aI]
 exact⟨h,by rw[h,Nat.add_sub_cancel];unfold Ak;exact take_left⟩
theorem aeR(seed:Nat){b:List Nat}(h:aA 256 b):aA 256 (Ak seed b):=fun x hx=>by
 unfold Ak at hx;rcases mem_append.1 hx with hx | hx
 ·exact h x hx
 ·rcases mem_append.1 hx with hx | hx<;>exact bL aN _ _ x hx
theorem alU{cap:Int}(hc:128≤cap):acB cap (Ak 0 (Al M1)) [abc]=0:=by
 obtain⟨h1,h2⟩:=ac1 0 (Al M1);have hl:(Al M1).length=64:=acX afK;unfold acB;rw[h2,h1,hl,ae3];unfold I7;rw[ae3,if_neg aN,if_neg aN,if_neg aN,if_neg];simp only[acs,any_cons,any_nil,h1,hl];simp;exact⟨by omega,by show ((abc.length:Nat):Int)≤cap;exact Int.le_trans (show ((abc.length:Nat):Int)≤128 by decide) hc⟩
def x1:aY:=(aY.zero.install 1).1
def mAw(sd:List Nat):Lm:=Xc (fun _=>none) (aaI aY.zero sd [abc])
theorem ah4(sd:List Nat):mAw sd 0=some (bU x1)∧mAw sd 6=some sd∧mAw sd 7=some abc:=⟨rfl,rfl,rfl⟩
theorem alI(sd:List Nat):stM (mAw sd)=x1:=by
 have h:mAw sd=(Xc (fun _=>none) (acW 7 [abc]++[(6,sd)])).put 0 (some (bU x1)):=rfl;rw[h];exact GI rfl
theorem agm(seed:Nat):Ms seed<256^32:=ac6 _
theorem afx(seed:Nat)(msg:List Nat):(Vg seed msg).1<256^32∧(Vg seed msg).2<256^32:=⟨ac6 _,Nat.lt_of_lt_of_le (mod_lt _ aN) aN⟩
theorem ah3{pk r s:Nat}{b:List Nat}(hp:pk<256^32)(hr:r<256^32)(hs:s<256^32)(hb:iL b=some M1)(hv:kE pk b r s=true):fT (mAw (b++(bG 256 32 r++bG 256 32 s))) [⟨1,bG 256 32 pk,false⟩] 0 1=(⟨1,M1.yS,M1.sec,[(0,abc)]⟩,0) :=
 ahL (s:=acY ⟨0,0,replicate 32 0⟩ abc) (.inr rfl) (ah4 _).2.1 (ah4 _).2.2 (ahQ hp hr hs hb rfl (Int.le_refl _) hv) rfl rfl rfl
theorem ahz:fT (mAw (Ak 0 (Al M1))) [⟨1,bG 256 32 (Ms 0),false⟩] 0 1=(⟨1,M1.yS,M1.sec,[(0,abc)]⟩,0) :=
 ah3 (agm 0) (afx 0 _).1 (afx 0 _).2 ae3 aiO
theorem ajp:nR (fun s=>decide ((fT (mAw (Ak 0 (Al M1))) [⟨1,bG 256 32 (Ms 0),false⟩] 0 s).2=0)) (stM (mAw (Ak 0 (Al M1)))).order (stM (mAw (Ak 0 (Al M1))))=((x1.gM 1).1,1):=by
 rw[alI,show x1.order=[1] from rfl,nR,if_pos (by rw[ahz];rfl)]
theorem afp(g:bQ)(K:World)(F:List aH):aK prog 45 #[g.v] K F (.bool (g.may&&decide (g.room≤128)&&decide (12≤g.bl)&&decide (g.bl≤16)&&decide (g.pg≤6))):=by
 refine aB.en func45 ntmps45 ?_;refine aj "a%" fun b1=> ?_;refine aj "vB" ?_;refine WL.t1 call59 rfl (XJ g _ _) rfl ?_;refine aj "c~~6" ?_;refine WL.nL (oj:=_) (vs:=[_]) rfl rfl rfl GC.t call60 ⟨OV.g rfl id,trivial⟩ (fun hg=>GV g (bQ.rF (by simpa using hg)) _ _) rfl ?_;exact aj "~PQc^_~OQc^_~PQc^_~PQd." trivial
theorem ac7{g:bQ}(hm:g.may=true)(h19:g.bl≤19)(K:World)(F:List aH):aB prog 46 #[g.v] K F
 (fun v H'=>∃(bc bd bs:Nat) (C:Cw) (T:bZ),C.Ok∧C.g=g∧C.aC=aD.new g []∧T.Ok g∧T.aC=oh C.aC 11∧v= .tuple #[ptr bc 0,ptr bd 0,ptr bs 0]∧H'=C.A bc::dA bd bc g::T.A bs bd g::F):=by
 refine aB.en func46 ntmps46 ?_;refine aj "a%" fun b1=> ?_;refine aj "llvB" ?_;refine WL.c2 call29 rfl rfl (ZU g (l:=[]) Seq.nil aN) rfl ?_;rintro _ _ (⟨_,BG,bc,C0,hC0,s0,rfl,rfl⟩ | ⟨uN,rfl,rfl⟩)
 rotate_left
 ·exact (uN ⟨hm,fun x hx=>by simp at hx⟩).elim
 have g0:C0.g=g:=by rw[show C0.g=C0.aC.g from rfl,s0];rfl
 have u0:C0.aC.up=true:=by rw[s0];rfl
 refine aj "Dj" ?_;refine WL.c1 call30 rfl (UF hC0 g0) rfl ?_;rintro _ _ ⟨bd,rfl,rfl⟩;refine aj "Dj" ?_;refine WL.c2 call31 rfl rfl (Te hC0 g0 (aJ:=11) aN h19 (P6 hC0.aU u0)) rfl ?_;rintro _ _ ⟨bs,T,hT,t0,rfl,rfl⟩;refine aj "DfscV~~aLcV~~aL3UzlC" ?_;exact aF.ret (H':=C0.A bc::dA bd bc g::T.A bs bd g::F) (bJ.Bl rfl rfl rfl rfl) (fun w h=>h.bg 4 [0,1,2] rfl) ⟨bc,bd,bs,C0,T,hC0,g0,s0,hT,t0,rfl,rfl⟩
def aib(sd:List Nat)(ds:List Bs):Bool:= !(decide (1000<(sd.length:Int))||decide (10<(ds.length:Int)))&&ds.all fun p=> !decide (1000<(p.m:Int))
theorem ahO{S D:Option Addr}{q cs k kd:Nat}{sd:List Nat}{ds:List Bs}{K:World}{F:List aH}(hq:sd.length=q)(hd:Seq K F D k 1 (ds.map Bs.v)):aK prog 47 #[.slice S q cs,.slice D k kd] K F (.bool (aib sd ds)):=by
 have wF:ds.length=k:=by have :=hd.len;rwa [length_map,Nat.mul_one] at this
 unfold aib;rw[hq,wF];refine aB.en func47 ntmps47 ?_;refine aj "afk~JcV~D~mLi" (aW (fun h0=> ?_) fun h0=> ?_)
 ·skip
  refine aj "G" ?_;exact qR F rfl rfl eO ⟨by rw[h0];rfl,rfl⟩
 ·skip
  refine aj ",agt" ?_;refine WC.loop (σ:=Nat) (fun i=>[(1,.slice D k kd),(5,.i (i:Int))]) (fun i=>F) (fun i=>i≤k∧(ds.take i).all (fun p=> !decide (1000<(p.m:Int)))=true) (fun i=>k-i) 0 ⟨zero_le _,rfl⟩ bC cO ?_;rintro i ⟨hi,nT⟩;have awG:k≤10:=by simp at h0;omega
  rw[h0];refine aj "rck4i" (aW (fun h1=> ?_) fun h1=> ?_)
  ·simp only[cZ] at h1;obtain⟨p,hp⟩:∃p,ds[i]? =some p:=⟨_,getElem?_eq_getElem ay⟩;have hr:Rd K F (D.map (·.add ((i:Int).toNat*1))) p.v:=by rw[Int.toNat_natCast,Nat.mul_one];exact hd.rd i _ (by rw[getElem?_map,hp];rfl)
   refine aj "1c" ?_;refine WL.val (V.dw adb (ak rfl) (ak rfl) (fun _=>by omega) (fun _=>hr)) rfl ?_;refine WL.val (V.load isAgg34 (ak rfl) (fun _=>hr)) rfl ?_;refine aj "k~Ji" (aW (fun h2=> ?_) fun h2=> ?_)
   ·skip
    refine aj "G;" ?_;have h3:ds.all (fun p=> !decide (1000<(p.m:Int)))=false:=by
     rw[←Bool.not_eq_true];intro h;have :=all_eq_true.1 h p (mem_of_getElem? hp);rw[h2] at this;cases this
    rw[h3,Bool.and_false]
   ·skip
    refine aj "qh$X" ?_;refine⟨i+1,⟨by show i+1≤k;omega, ?_⟩,(by show k-(i+1)<k-i;omega),.cons rfl bC,fun w h=>h⟩;rw[take_add_one,hp,all_append,nT];show ((!decide (1000<(p.m:Int)))&&true)=true;rw[h2];rfl
  ·simp only[cZ] at h1;refine aj "KG;" ?_;obtain rfl:i=k:=by omega
   rw[take_of_length_le ay] at nT;rw[nT];rfl
theorem ajE:∀(cs:List Value) (h:cs.length=34) (w:World),(Instr.buildSlice 24 1 [(0,.agg cs.toArray)].toArray).run prog w= .ok (.slice (some ⟨w.heap.size,0,none⟩) 1 1) (w.alloc (.cells cs.toArray 99))
 | v00::v01::v02::v03::v04::v05::v06::v07::v08::v09::v10::v11::v12::v13::v14::v15::v16::v17::v18::v19::v20::v21::v22::v23::v24::v25::v26::v27::v28::v29::v30::v31::v32::v33::[],_,w=>ahN v00 v01 v02 v03 v04 v05 v06 v07 v08 v09 v10 v11 v12 v13 v14 v15 v16 v17 v18 v19 v20 v21 v22 v23 v24 v25 v26 v27 v28 v29 v30 v31 v32 v33 w
theorem acZ(K:World)(F:List aH):aK prog 54 #[] K F (.bool true):=by
 have qm:(bQ.mk 13 4 1 64 1).may=true:=by kernel_rfl
 obtain⟨g,hg⟩:∃g,g=bQ.mk 13 4 1 64 1:=⟨_,rfl⟩;have gbl:g.bl=13:=by rw[hg]
 have ar5:g.cap=192:=by rw[hg];kernel_rfl
 rw[←hg] at qm;refine aB.en func54 ntmps54 ?_;refine aj "av" ?_;refine WL.val (V.aG (v':=g.v) (V.build (vs:=[(0,_),(1,_),(2,_),(3,_),(4,_)]) ⟨ak rfl,ak rfl,ak rfl,ak rfl,ak rfl,trivial⟩ rfl (FU _ _ _ _ _)) (fun _=>by rw[hg])) rfl ?_;refine WL.c1 call46 rfl (ac7 qm ay _ _) rfl ?_;rintro _ _ ⟨bc,bd,bs,C0,T0,hC0,g0,s0,hT0,t0,rfl,rfl⟩;have hF0:jg 11 11 256 1 C0.aC T0.aC (fun _=>none):=by rw[t0,s0];exact jg.new (bQ.rF qm) 11
 have e0:lK C0.aC T0.aC=(aY.zero,0,T0.aC):=hF0.lK aN;have hlb:11≤(T0.stands.length:Int):=by
  obtain⟨st0,ZH⟩:=hF0.si;have h1:T0.stands.length=11:=ZH.len;rw[h1];decide
 refine aP "6~Mllf]39x" fun b4=> ?_;refine aj "be~1" ?_;refine WL.c1 call48 rfl (ac8 hC0 g0 hT0 hlb e0 rfl) rfl ?_;rintro _ _ ⟨T1,oZ,t1,rfl,rfl⟩;refine aj "Dj" ?_;refine WL.Vf (m:=63) underlying34 yL (ak rfl) (ak rfl) (fun b26=> ?_) (hb:=by decide);refine aj "~1" ?_;have e63:acB g.cap (replicate 63 0) (([]:List Bs).map Bs.l)=4:=by unfold acB;rw[if_pos aN]
 refine WL.c3 call51 rfl rfl rfl (acn (sd:=replicate 63 0) (ds:=[]) (mp:=fun _=>none) hC0 g0 oZ (by rw[t1];exact hF0) ay ay aN aN (Seq.all rfl) (aA.wJ aN) aN (Nat.le_refl _) ⟨Seq.nil,fun p hp=>by cases hp⟩ (fun p hp=>by cases hp) (zero_le _)) rfl ?_;rintro _ _ ⟨C1,T2,RP,g1,BH,f1,rfl,⟨B1,N1,hF1,hB1,hN1⟩,rfl⟩;rw[e63,if_neg aN] at hF1;rw[e63];refine aP "vA@" ?_;refine WL.buildSlice (E:=140) (cs:=[_,_,_,_,_,_,_,_,_,_,_,_,_,_,_,_,_,_,_,_,_,_,_,_,_,_,_,_,_,_,_,_,_,_]) (vs:=[(0,_)]) ⟨ak rfl,trivial⟩ rfl (X5 _ _ _ _ _ _ _ _ _ _ _ _ _ _ _ _ _ _ _ _ _ _ _ _ _ _ _ _ _ _ _ _ _ _) rfl (fun b31=> ?_);refine WL.val (V.build (vs:=[(2,_),(4,_)]) ⟨ak rfl,ak rfl,trivial⟩ rfl (ahK _ _ _ _)) rfl ?_;refine WL.buildSlice (E:=5) (cs:=av .u8 [_,_,_]) (vs:=[(0,_),(1,_),(2,_)]) ⟨ak rfl,ak rfl,ak rfl,trivial⟩ rfl (acI _ _ _) rfl (fun b33=> ?_);refine aj "~~u" ?_;refine WL.buildSlice (E:=34) (cs:=[_]) (vs:=[(0,_)]) ⟨ak rfl,trivial⟩ rfl (Lv _ _ _) rfl (fun b35=> ?_);have hM1:aeF M0 ([(⟨some ⟨b33,0,none⟩,3,3,abc⟩:Bs)].map Bs.l)=M1:=rfl;have h8:aA 256 abc:=by unfold aA abc;decide
 refine WL.c3 call114 rfl rfl rfl (agp (seed:=0) (M:=M0) (ds:=[⟨some ⟨b33,0,none⟩,3,3,abc⟩]) (n:=1) ⟨(Seq.all rfl).up.up,rfl,fun s hs=>by rw[mem_singleton.1 hs];exact⟨rfl,aA.wJ aN⟩⟩ aN aN ⟨Seq.all rfl,fun p hp=>by rw[mem_singleton.1 hp];exact⟨(Seq.agX rfl).up,h8,(show 3≤1000000 by decide)⟩⟩) rfl ?_;rw[hM1];obtain⟨SD,hSD⟩:∃SD,SD=Ak 0 (Al M1):=⟨_,rfl⟩;rw[←hSD];rintro _ _ (⟨_,A36,c36,rfl,rfl⟩ | ⟨k1,_⟩)
 rotate_left
 ·rw[ao4] at k1;cases k1
 have hSl:SD.length=128:=by rw[hSD,(ac1 0 _).1,acX afK];rfl
 refine aj "DY" ?_;refine WL.buildSlice (E:=5) (cs:=av .u8 [_,_,_]) (vs:=[(0,_),(1,_),(2,_)]) ⟨ak rfl,ak rfl,ak rfl,trivial⟩ rfl (acI _ _ _) rfl (fun b41=> ?_);refine aj "~~u" ?_;refine WL.buildSlice (E:=34) (cs:=[_]) (vs:=[(0,_)]) ⟨ak rfl,trivial⟩ rfl (Lv _ _ _) rfl (fun b43=> ?_);refine WL.lG (p:=24+40*1+64≤c36) (fun w h=>aV.room (h.bg 3 [2] rfl)) (fun ane=> ?_);refine WL.sub (Sub.refl _) (fun w h=>h.bg 9 [6,7,8,0,1,2] rfl) ?_;have ao6:acB g.cap SD ([(⟨some ⟨b41,0,none⟩,3,3,abc⟩:Bs)].map Bs.l)=0:=by rw[hSD];exact alU ay
 have hS8:aA 256 SD:=by rw[hSD];exact aeR 0 (ac2 afK)
 refine WL.c3 call51 rfl rfl rfl (acn (sd:=SD) (ds:=[⟨some ⟨b41,0,none⟩,3,3,abc⟩]) (mp:=fun _=>none) RP g1 BH hF1 ay ay ay ay (aV.seq (by rw[au,hSl])).up.up hS8 aN ane ⟨Seq.all rfl,fun p hp=>by rw[mem_singleton.1 hp];exact⟨(Seq.agX rfl).up,h8,(show 3≤1000000 by decide)⟩⟩ (fun p hp=>by rw[mem_singleton.1 hp];exact Nat.le_refl _) aN) rfl ?_;rintro _ _ ⟨C3,T3,TS,g3,hT3,f3,rfl,⟨B3,N3,hF3,hB3,hN3⟩,rfl⟩;rw[ao6,if_pos rfl] at hF3;rw[ao6];obtain⟨mw,hmw⟩:∃mw,mw=mAw SD:=⟨_,rfl⟩;have ao9:jg 11 11 B3 N3 C3.aC T3.aC mw:=by rw[hmw];exact hF3
 have amJ:11≤(T3.stands.length:Int):=by
  obtain⟨st0,ZH⟩:=ao9.si;have h1:T3.stands.length=11:=ZH.len;rw[h1];decide
 refine aP "jA" ?_;refine WL.t1 call56 rfl (ahF (seed:=0)) rfl ?_;obtain⟨pk,hpk⟩:∃pk,pk=Ms 0:=⟨_,rfl⟩;rw[←hpk];obtain⟨ky,hky⟩:∃ky:Ky,ky=⟨1,bG 256 32 pk,false⟩:=⟨_,rfl⟩;have alT:ky.Ok:=by rw[hky];exact⟨aI _ _ _,bL aN _ _⟩
 refine WL.val (V.aG (v':= .agg ky.cells.toArray) (V.build (vs:=[(0,_),(1,o8 pk)]) ⟨ak rfl,ak rfl,trivial⟩ rfl (ahI _ _ _ _ _ _ _ _ _ _ _ _ _ _ _ _ _ _ _ _ _ _ _ _ _ _ _ _ _ _ _ _ _)) (fun _=>by rw[hky];rfl)) rfl ?_;refine WL.buildSlice (E:=99) (cs:=ky.cells) (vs:=[(0,.agg ky.cells.toArray)]) ⟨ak rfl,trivial⟩ rfl (ajE ky.cells (Ky.dB alT)) rfl (fun b49=> ?_);refine aj "~1" ?_;have Ww:∀H:List aH,Ring K (ah b49 99 ky.cells::H) (some ⟨b49,0,none⟩) 1 [ky]:=fun H=>⟨by rw[flatMap_cons,flatMap_nil,append_nil];exact Seq.all (by rw[Ky.dB alT]),rfl,fun k hk=>by rw[mem_singleton.1 hk];exact alT,by decide⟩;obtain⟨R,hRd⟩:∃R,R=tH C3.aC T3.aC [ky] 0:=⟨_,rfl⟩;have g3':C3.aC.g=g:=g3;have hX:((x1.gM 1).1,(1:Int))=nR (fun s=>decide ((fT mw [ky] 0 s).2=0)) (stM mw).order (stM mw):=by rw[hmw,hSD,hky,hpk];exact ajp.symm
 have RX:fT mw [ky] 0 1=(⟨1,M1.yS,M1.sec,[(0,abc)]⟩,0):=by rw[hmw,hSD,hky,hpk];exact ahz
 obtain⟨hlg,hR1,_⟩:=Xh ao9 (Jj.refl mw) (by rw[g3'];omega) (by rw[g3'];omega) (by rw[g3'];omega) ay ay [ky] 0 hX hRd;refine WL.c3 call17 rfl rfl rfl (YJ TS g3 hT3 amJ (aO:=0) (Ww _) hlg) rfl ?_;rw[←hRd];rintro _ _ ⟨C4,T4,A4,c4,ps,E4,hC4,g4,hT4,s4,t4,rfl,l7,hE4,rfl⟩;have hR2:R.1.2=0:=by rw[hR1];rfl
 have hR3:R.1.1=⟨1,M1.yS,M1.sec,[(0,abc)]⟩:=by rw[hR1];unfold Hq;rw[if_neg aN,RX]
 rw[hR2,hR3];refine aj "w" fun b11=> ?_;refine aP "Ebe~~Fc!~~xQc!" ?_;refine WL.bI (oj:=_) rfl rfl rfl GC.t (V.G5 (j:=4) (OV.g rfl id) (ak rfl)) rfl (aP "Qc!~~xQc!~~xQc^" ?_);refine WL.bI (oj:=_) rfl rfl rfl GC.t (V.d9 isAgg32 (OV.g rfl id)) rfl (aP "~~xQc^" ?_);refine WL.bI (oj:=_) rfl rfl rfl GC.t (V.d9 isAgg3 (OV.g rfl id)) rfl (WL.bI (oj:=_) rfl rfl rfl GC.t (V.G5 (j:=1) (OV.g rfl id) (ak rfl)) rfl ?_);exact aj "Qd." trivial
structure Im(K:World)(F:List aH)(S:Option Addr)(q cs:Nat)(sd:List Nat)(P:Option Addr)(kp:Nat)(ds:List Bs):Prop where
 seq:Seq K F S q 1 (av .u8 sd)
 small:aA 256 sd
 room:q≤cs
 rows:Seq K F P kp 1 (ds.map Bs.v)
 ok:∀p∈ds,Seq K F p.A p.m 1 (av .u8 p.l)∧aA 256 p.l∧p.m≤p.cap
theorem adw{i:Nat}:∀ {l:List (Int×List Nat)} {m:Lm},(∀p∈l,p.1.toNat≠i)→Xc m l i=m i
 | [],_,_=>rfl
 | p::l,m,h=>by
  rw[Xc,adw (fun y hy=>h y (.tail _ hy))];unfold Lm.put;rw[if_neg (fun e=>h p (.head _) e.symm)]
theorem afL{x:aY}(hx:x.ok=true){sd:List Nat}{ds:List (List Nat)}(hd:ds.length≤4){m:Lm}{i:Nat}(h1:1+5*x.f≤(i:Int))(h2:(i:Int)<1+5*x.f+5):Xc m (aaI x sd ds) i=m i:=adw fun p hp=>by
 have hf:=(aY.lJ hx).1;unfold aaI at hp;rcases mem_append.1 hp with h | h
 ·have :=ae7 h;omega
 ·simp only[mem_cons,not_mem_nil,or_false] at h;rcases h with rfl | rfl<;>dsimp only<;>omega
theorem ajR{x:aY}(hx:x.ok=true){m:Lm}{sd:List Nat}{ds:List (List Nat)}:stM (Xc m (aaI x sd ds))=(x.install (1-x.f)).1:=by
 unfold aaI;rw[show ∀l:List (Int×List Nat),l++[(1+5*(1-x.f),sd),(0,bU (x.install (1-x.f)).1)]=(l++[(1+5*(1-x.f),sd)])++[(0,bU (x.install (1-x.f)).1)] from fun l=>by simp,ado,Xc,Xc];exact GI (abA hx).1
theorem agj{x:aY}(hx:x.ok=true):(x.install (1-x.f)).1=if x.f=0 then ⟨1,x.t0,x.g0,7,false⟩ else ⟨0,7,false,x.t1,x.g1⟩:=by
 have h1:=aY.lJ hx;have hs:1-x.f=0∨1-x.f=1:=ay;unfold aY.install;rw[if_neg (by rw[aY.GZ hx hs];omega)];unfold aY.put;rcases h1.1 with hf | hf
 all_goals
  rw[hf];simp
theorem acR(g:bQ){D S P:Option Addr}{k cd q cs kp cp:Nat}{ss:List ByteArray}{sd:List Nat}{ds:List Bs}{K:World}{F:List aH}(hs:Seq K F D k 1 (strs ss))(hl:ss.length=k)(hi:Im K F S q cs sd P kp ds) :
 aK prog 10 #[g.v,.slice D k cd,.agg #[.slice S q cs,.slice P kp cp]] K F (.bool true):=by
 have Ki:sd.length=q:=by have :=hi.seq.len;rwa [au,Nat.mul_one] at this
 have vX:ds.length=kp:=by have :=hi.rows.len;rwa [length_map,Nat.mul_one] at this
 refine aB.en func10 ntmps10 ?_;refine aj "a%" fun b3=> ?_;refine aj "~7" fun b5=> ?_;refine aj "uaB" ?_;refine WL.t1 call45 rfl (afp g _ _) rfl ?_;refine aj "*cV~D~mLc~g~b~g~b" ?_;refine WL.nL (oj:=_) (vs:=[_,_]) rfl rfl rfl GC.f call47 ⟨OV.g rfl id,OV.g rfl id,trivial⟩ (fun hc=>ahO (ds:=ds) (sd:=sd) Ki hi.rows.up.up) rfl ?_;refine aj "~~CLi" (aW (fun aL=> ?_) fun aL=> ?_)
 ·simp only[Bool.or_eq_true,Bool.or_eq_false_iff,Bool.and_eq_true,oK] at aL;exact aj "G." trivial
 ·simp only[Bool.or_eq_true,Bool.or_eq_false_iff,Bool.and_eq_true,oK] at aL;obtain⟨⟨⟨⟨⟨⟨EC,hrm⟩,asB⟩,asu⟩,hp6⟩,avP⟩,agb⟩:=aL;have hg:=bQ.rF EC;have FR:=bQ.vL hg;have an3:g.cap≤1000:=by
   unfold bQ.cap;have h1:(g.pg-1)*g.room≤5*g.room:=Int.mul_le_mul_of_nonneg_right ay (by have :=bQ.kP hg;omega);omega
  have hfw:q≤1000∧kp≤10∧∀p∈ds,p.m≤1000:=by
   unfold aib at agb;simp only[Bool.and_eq_true,Bool.not_eq_true',Bool.or_eq_false_iff,decide_eq_false_iff_not,all_eq_true,Int.not_lt] at agb;exact⟨by omega,by omega,fun p hp=>by have :=agb.2 p hp;omega⟩
  have ap0:ajm K F P kp ds:=⟨hi.rows,fun p hp=>⟨(hi.ok p hp).1,(hi.ok p hp).2.1,Nat.le_trans (hfw.2.2 p hp) aN⟩⟩;refine aj "9B" ?_;refine WL.c1 call46 rfl (ac7 (g:=g) EC ay _ _) rfl ?_;rintro _ _ ⟨bc,bd,bs,C0,T0,hC0,g0,s0,hT0,t0,rfl,rfl⟩;refine aj "6~Mllf]3,agt" ?_;have hF0:jg 11 11 256 1 C0.aC T0.aC (aeE ss 0):=by
   rw[t0,s0];have :aeE ss 0=fun _=>none:=by funext k;unfold aeE;rw[if_neg (not_lt_zero k)]
   rw[this];exact jg.new hg 11
  refine WC.loop (σ:=Nat×Cw×bZ) (fun s=>[(1,.slice D k cd),(3,ptr b3 0),(5,ptr b5 0),(9,ptr bs 0),(10,.i (s.1:Int))]) (fun s=>s.2.1.A bc::dA bd bc g::s.2.2.A bs bd g::ah b5 105 [.slice S q cs,.slice P kp cp]::ah b3 23 [.i g.bl,.i g.pg,.i g.se,.i g.sb,.i g.fl]::F) (fun s=>s.1≤k∧s.2.1.Ok∧s.2.1.g=g∧s.2.2.Ok g∧jg 11 11 (256+s.1) (1+21*(s.1:Int)) s.2.1.aC s.2.2.aC (aeE ss s.1)) (fun s=>k-s.1) (0,C0,T0) ⟨zero_le _,hC0,g0,hT0,by simpa using hF0⟩ bC cO ?_;rintro⟨i,C,T⟩ ⟨hik,hC,N9,hT,hFi⟩;dsimp only at hik hC N9 hT hFi ⊢;have Od:C.aC.g=g:=N9;refine aj "rck4i" (aW (fun bA=> ?_) fun bA=> ?_)
  ·simp only[cZ] at bA;have him:i<k:=ay;have Bv:(i:Int).toNat=i:=ay;obtain⟨s,UN⟩:∃s,s=ss.getD i ByteArray.empty:=⟨_,rfl⟩;have kr:Rd K F (D.map (·.add ((i:Int).toNat*1))) (.string s):=by rw[Bv,UN];exact Seq.agK hs him
   have wF:=afC ss i;rw[←UN] at wF;obtain⟨d,hd⟩:∃d,d=acV ss i:=⟨_,rfl⟩;have Nf:aA 256 d:=by rw[hd];exact af5 ss i
   rw[←hd] at wF;refine aj "IMM~k&&" ?_;refine WQ.val (V.dw abj (ak rfl) (ak rfl) (fun _=>by omega) (fun _=>by repeat (first | exact kr | apply Rd.up))) rfl ?_;refine WQ.val (V.load isAgg9 (ak rfl) (fun _=>by repeat (first | exact kr | apply Rd.up))) rfl ?_;refine WQ.val (V.ahA runUnderlying9 (ak rfl)) rfl (aj "~~B" ?_);refine WQ.call (vs:=[_]) call15 ⟨ak rfl,trivial⟩ (Yo hg) rfl ?_;refine aj "~_~fH" (aW (fun eu=> ?_) fun eu=> ?_)
   ·simp only[cZ] at eu;have h3:=eu;exact aj "G." trivial
   ·simp only[cZ] at eu;have h3:=eu;have hdc:(d.length:Int)≤g.cap:=by rw[wF];omega
    refine aj "Uzc" ?_;refine WL.val (V.dw abj (ak rfl) (ak rfl) (fun _=>by omega) (fun _=>by repeat (first | exact kr | apply Rd.up))) rfl ?_;refine WL.val (V.load isAgg9 (ak rfl) (fun _=>by repeat (first | exact kr | apply Rd.up))) rfl ?_;refine aj "~~K" fun b72 am4 ajV ZG Oi=> ?_;refine aj "~1" ?_;have Zd:∀H':List aH,Seq K (lZ b72 5 ajV::H') (some ⟨b72,0,none⟩) s.size 1 (av .u8 d):=fun H'=>by
     have :=Oi H';rw[mJ (eY s)] at this;rw[hd];unfold acV;rw[←UN];exact this
    obtain⟨st0,ZH⟩:=hFi.si;have qZ:∀l∈T.aC.cu,l.length≤1000000:=fun l Dp=>Nat.le_trans (ZH.Y9 l Dp) ay;obtain⟨aQ,bA,eu⟩:=hFi.change (by rw[Od];omega) (by rw[Od];omega) ay (i0:=i) ay ay ay Nf (by rw[Od];exact hdc);refine WL.c3 call16 rfl rfl rfl (Da (d:=d) hC N9 hT (Zd _) Nf ZG ay qZ) rfl ?_;rintro v73 _ ⟨C2,T2,Bz,g2,BH,s2,t2,UO,rfl⟩;rw[aQ] at UO;subst UO;rw[←s2,←t2,hd,ahH] at eu;refine aj "s3qh$X" ?_;exact⟨(i+1,C2,T2),⟨him,Bz,g2,BH,by
     rw[show 256+(i+1)=256+i+1 by omega,show 1+21*(((i+1:Nat)):Int)=1+21*(i:Int)+21 by omega];exact eu⟩,(by show k-(i+1)<k-i;omega),.cons rfl bC,fun w h=>h.bg 6 [0,1,2,4,5] rfl⟩
  ·simp only[cZ] at bA;refine aj "W" ?_;obtain rfl:i=k:=by omega
   have hlb:11≤(T.stands.length:Int):=by
    obtain⟨st0,ZH⟩:=hFi.si;have h1:T.stands.length=11:=ZH.len;rw[h1];decide
   have dL:=hFi.lK aN;obtain⟨W,hW⟩:∃W,W=stM (aeE ss i):=⟨_,rfl⟩;have hWk:W.ok=true:=by rw[hW];exact qw _
   have hWs:=aY.lJ hWk;rw[←hW] at dL;refine aj "h" ?_;refine WL.c1 call24 rfl (vB hC N9 hT hlb) rfl ?_;rintro _ _ ⟨T1,oZ,t1,rfl,rfl⟩;rw[dL] at t1 ⊢;dsimp only[aY.v] at t1 ⊢;refine aj "6w" fun b11=> ?_;refine aj "Ejoo~1" ?_;obtain⟨e,he⟩:∃e,e=acB g.cap sd (ds.map Bs.l):=⟨_,rfl⟩;obtain⟨m2,hm2⟩:∃m2,m2=if e=0 then Xc (aeE ss i) (aaI W sd (ds.map Bs.l)) else aeE ss i:=⟨_,rfl⟩
   refine WL.c3 call51 rfl rfl rfl (acn (sd:=sd) (ds:=ds) hC N9 oZ (by rw[t1];exact hFi) ay ay ay ay hi.seq.up.up.up hi.small ay hi.room ap0.up.up.up (fun p hp=>(hi.ok p hp).2.2) ay) rfl ?_;rw[←he];rintro _ _ ⟨C2,T2,Bz,g2,BH,f2,rfl,⟨B2,N2,hF2,hB2,hN2⟩,rfl⟩;rw[←hW,←hm2] at hF2;have XR:=hF2.lK aN;obtain⟨Z,hV⟩:∃Z,Z=stM m2:=⟨_,rfl⟩;rw[←hV] at XR;have aqR:11≤(T2.stands.length:Int):=by
    obtain⟨st0,ZH⟩:=hF2.si;have h1:T2.stands.length=11:=ZH.len;rw[h1];decide
   refine aj "j" ?_;refine WL.c1 call24 rfl (vB Bz g2 BH aqR) rfl ?_;rintro _ _ ⟨T3,hT3,t3,rfl,rfl⟩;rw[XR] at t3 ⊢;dsimp only[aY.v] at t3 ⊢;refine aj "6w" fun b14=> ?_;refine aj "EfscV~~aL3," ?_;have hwf:W.f=0∨W.f=1:=hWs.1;have Zn:∀j,j<i→e≠0∨(1+5*W.f≤(j:Int)∧(j:Int)<1+5*W.f+5)→m2 j=some (acV ss j):=fun j hj RI=>by
    have h0:aeE ss i j=some (acV ss j):=if_pos hj;rw[hm2];by_cases hE:e=0
    ·rw[if_pos hE];rcases RI with h | h
     ·exact (h hE).elim
     ·rw[afL hWk (aeY (he.symm.trans hE)).1 h.1 h.2];exact h0
    ·rw[if_neg hE];exact h0
   refine aj "po~L$uagt" ?_;refine WC.loop (σ:=Nat×bZ) (fun s=>[(1,.slice D i cd),(9,ptr bs 0),(11,ptr b11 0),(13,.i e),(14,ptr b14 0),(16,.i (1+5*W.f)),(17,.i (s.1:Int))]) (fun s=>C2.A bc::dA bd bc g::s.2.A bs bd g::ah b14 58 [.i Z.f,.i Z.t0,.bool Z.g0,.i Z.t1,.bool Z.g1]::ah b11 58 [.i W.f,.i W.t0,.bool W.g0,.i W.t1,.bool W.g1]::F) (fun s=>s.2.Ok g∧s.2.aC=T3.aC) (fun s=>i-s.1) (0,T3) ⟨hT3,rfl⟩ bC (fun w h=>h.bg 7 [1,2,3,0,4] rfl) ?_;rintro⟨j,T4⟩ ⟨hT4,e4⟩;dsimp only at hT4 e4 ⊢;refine aj "rck4i" (aW (fun RD=> ?_) fun RD=> ?_)
   ·simp only[cZ] at RD;have Wx:j<i:=ay;have htj:(j:Int).toNat=j:=ay;obtain⟨G,hG⟩:∃G,G=dZ C2.aC T4.aC (j:Int):=⟨_,rfl⟩;obtain⟨r1,r2,r3⟩:=hF2.V8 (j:=j) ay;have hGe:G=dZ C2.aC T2.aC (j:Int):=by rw[hG,e4,t3]
    have hrj:Rd K F (D.map (·.add ((j:Int).toNat*1))) (.string (ss.getD j ByteArray.empty)):=by rw[htj];exact Seq.agK hs Wx
    have hgo:e≠0∨(1+5*W.f≤(j:Int)∧(j:Int)<1+5*W.f+5)→G.1.err=0∧G.1.d=acV ss j:=fun h=>by
     have h1:=Zn j Wx h;rw[←hGe] at r1 r2;rw[h1] at r1;exact⟨r1,r2 _ h1⟩
    refine aj "1c" ?_;refine WL.c2 call26 rfl rfl (AA Bz g2 hT4 (j:Int)) rfl ?_;rintro _ _ ⟨A9,c9,T5,hT5,t5,rfl,rfl⟩;rw[←hG] at t5 ⊢;have t5':T5.aC=T3.aC:=by rw[t5,hGe,r3,t3]
    have hsG:∀ {H:List aH},Seq K (aV (.slice A9 G.1.d.length c9) 5 1 G.1.d.length (av .u8 G.1.d)::H) A9 G.1.d.length 1 (ints .u8 (bH G.1.d)):=fun {H}=>by rw[←jX];exact aV.seq (by rw[au,Nat.mul_one])
    refine aj "6~MllY~ic!!" ?_;refine WL.bI (oj:=_) rfl rfl rfl GC.t (V.CX (OV.g rfl id) (ak rfl) Jy) rfl (aj "~~qQu~k&&~~w" ?_);refine WQ.bI (oj:=_) rfl rfl rfl GC.f (V.neq (OV.g rfl id) (ak rfl)) rfl (aj "~~W&~~t" ?_);refine WQ.bI (oj:=_) rfl rfl rfl GC.t (V.neq (OV.g rfl id) (ak rfl)) rfl (WQ.bI (oj:=_) rfl rfl rfl GC.t (V.move (OV.g rfl id)) rfl (aj "~~~j" ?_));refine WQ.bI (oj:=_) rfl rfl rfl GC.cf (V.iM (xs:=bH G.1.d) underlying34 underlying5 underlying9 (OV.g rfl id) (fun _=>hsG)) rfl ?_;refine aj "~~~j~~~j" ?_;refine WQ.bI (oj:=_) rfl rfl rfl GC.cf (V.dw abj (OV.g rfl id) (OV.g rfl id) (fun hc=>by omega) (fun hc=>by repeat (first | exact hrj | apply Rd.up))) rfl ?_;refine WQ.bI (oj:=_) rfl rfl rfl GC.cf (V.load isAgg9 (OV.g rfl id) (fun hc=>by repeat (first | exact hrj | apply Rd.up))) rfl ?_;refine WQ.bI (oj:=_) rfl rfl rfl GC.cf (V.agA (OV.g rfl id) (OV.g rfl id)) rfl (WQ.bI (oj:=_) rfl rfl rfl GC.t (V.DY (OV.g rfl id) (OV.g rfl id)) rfl (aj "~~E~f" ?_));refine WC.ni rfl ((by
     rw[Bool.eq_false_iff];intro hh;rw[Bool.and_eq_true] at hh;obtain⟨h1,h2⟩:=hh;obtain⟨k1,k2⟩:=hgo (by simp only[Bool.or_eq_true,Bool.and_eq_true,cZ,Bool.not_eq_true'] at h1;omega);rw[k1,k2,ah2] at h2;simp at h2)) ?_
    refine aj "qh$X" ?_;exact⟨(j+1,T5),⟨hT5,t5'⟩,(by show i-(j+1)<i-j;omega),.cons rfl bC,fun w h=>h.tail⟩
   ·simp only[cZ] at RD;refine aj "Krsi" (aW (fun hc8=> ?_) fun hc8=> ?_)
    ·simp only[oK] at hc8;have hZ:Z=W:=by rw[hV,hm2,if_neg hc8,hW]
     refine WC.sr (WL.call (vs:=[]) call54 trivial (acZ _ _) rfl ?_);rintro _ H0 ⟨rfl,h0⟩;subst H0;refine aj "c~~6~~6" ?_;refine WL.bI (oj:=_) rfl rfl rfl GC.t (V.agF (by kernel_rfl) (OV.g rfl id) (OV.g rfl id) (UD Z W)) rfl ?_;refine aj "Qd;" ?_;rw[hZ];simp
    ·simp only[oK] at hc8;have hZ:Z=if W.f=0 then ⟨1,W.t0,W.g0,7,false⟩ else ⟨0,7,false,W.t1,W.g1⟩:=by rw[hV,hm2,if_pos hc8,←agj hWk];subst hW;exact ajR hWk
     clear Zn hV;obtain⟨f0,t0',g0',t1',g1'⟩:=W;dsimp only at hwf hZ ⊢;clear hWk hWs hW dL;rcases hwf with rfl | rfl
     all_goals
      first | rw[if_pos rfl] at hZ | rw[if_neg aN] at hZ
      subst hZ;dsimp only;refine aj ",~k" ?_;refine WQ.call (vs:=[]) call54 trivial (acZ _ _) rfl (aj "&~`~~L~`~~L" ?_);refine WQ.bI (oj:=_) rfl rfl rfl GC.t (V.Eo (ak rfl) (OV.g rfl id) Jy) rfl (WQ.bI (oj:=_) rfl rfl rfl GC.t (V.eql (OV.g rfl id) (OV.g rfl id)) rfl (aj "~~E&~`~~L~`~~~k~~~l~`~~L~`~~~k~~~l" ?_));refine WQ.bI (oj:=_) rfl rfl rfl GC.t (V.agF (by kernel_rfl) (OV.g rfl id) (OV.g rfl id) (ak7 _ _ _ _)) rfl ?_;refine aj "~~E&~`~~L~`~~~k~~~l" ?_;refine WQ.bI (oj:=_) rfl rfl rfl GC.t (V.build (vs:=[(0,_)]) ⟨ak rfl,trivial⟩ rfl (ahf _)) rfl ?_;refine WQ.bI (oj:=_) rfl rfl rfl GC.t (V.agF (by kernel_rfl) (OV.g rfl id) (OV.g rfl id) (ak7 _ _ _ _)) rfl ?_;refine aj "~~E~n~f~C" ?_;exact qR F rfl rfl (fun w h=>h.drop 5) ⟨by simp,rfl⟩
end Go.Proofs.YtcedojacbhnbiaaGreat
namespace Go.Proofs.YtcedojacbhnbiaaGreat
open Go.Sl Go.ChangeShapes Go.WideShapes Go.ChangeAt Go.RowKit Tryz List Nat
theorem an0:prog.cellsOf 5=1:=by kernel_rfl
theorem akW:prog.cellsOf 34=1:=by kernel_rfl
theorem alW:prog.cellsOf 47=1:=by kernel_rfl
theorem afB{H:Type}{enc:TypeId×Value→H}{P:Program}{W:World}{t e s fuel:TypeId}{v:Value}{x:DataW H×List MemPlace}(ht:P.underlying t=some (.slice e))(hc:P.cellsOf e=s)(hf:DataW.trod enc P W 0 (fun _=>true) true fuel t [v]=some x) :
 ∃ A m cap,∃css:List (List Value),v= .slice A m cap∧css.length=m∧(∀cs∈css,∃n y,DataW.trod enc P W 0 (fun _=>true) true n e cs=some y)∧Seq W [Old W] A m s css.flatten:=by
 rcases DataW.trod_slice ht hf with ⟨qX,_⟩ | ⟨a,len,cap,elems,rest,n,_,qX,_,_,hl,hm,hlen,UW,_,_⟩
 ·cases qX;exact⟨none,0,0,[],rfl,rfl,fun x hx=>(by cases hx),⟨by simp,fun i v hi=>by simp at hi⟩⟩
 ·cases qX;obtain⟨css,h1,h2⟩:=aa9 len (fun i (cs:List Value)=>(cs.length=s∧∃n y,DataW.trod enc P W 0 (fun _=>true) true n e cs=some y)∧∀j v,cs[j]? =some v→W.cell? (a.add (i*s+j))=some v) fun i hi=>by
   have h3:=UW i hi;have h4:elems[i]? =some elems[i]:=getElem?_eq_getElem ay;rw[h4,Option.bind_eq_some_iff] at h3;obtain⟨cs,h5,h6⟩:=h3;rw[hc] at h5;obtain⟨k1,k2,k3⟩:=World.cells?_some h5;refine⟨cs,⟨?_,n,_,h6⟩,fun j v hj=> ?_⟩
   ·omega
   ·have hjs:j<s:=by
     rcases Nat.lt_or_ge j cs.length with h | h
     ·omega
     ·rw[getElem?_eq_none h] at hj;cases hj
    rw[←add_add,k3 j ay,hj]
  refine⟨some a,len,cap,css,rfl,h1,fun cs qX=> ?_,PW (fun x hx=> ?_) |>.trans (by rw[h1]),fun i v hi w hw=> ?_⟩
  ·obtain⟨i,hi⟩:=getElem?_of_mem qX;exact (h2 i cs hi).1.2
  ·obtain⟨i,hi⟩:=getElem?_of_mem hx;exact (h2 i x hi).1.1
  ·obtain⟨x,k1,k2⟩:=OL (s:=s) (fun x hx=>by
    obtain⟨i,hi⟩:=getElem?_of_mem hx;exact (h2 i x hi).1.1) hi
   have h3:=(h2 _ x k1).2 _ v k2;rw[Nat.mul_comm,div_add_mod] at h3;exact⟨_,rfl,(hw.below.cell (World.block_lt_of_cell? _ _ h3)).trans h3⟩
theorem aeP{W:World}:∀ {css:List (List Value)},(∀cs∈css,∃p:Bs,cs=[p.v]∧Seq W [Old W] p.A p.m 1 (av .u8 p.l)∧aA 256 p.l∧p.m≤p.cap)→∃ds:List Bs,css.flatten=ds.map Bs.v∧∀p∈ds,Seq W [Old W] p.A p.m 1 (av .u8 p.l)∧aA 256 p.l∧p.m≤p.cap
 | [],_=>⟨[],rfl,fun _ h=>by cases h⟩
 | cs::css,h=>by
  obtain⟨o,rfl,ho⟩:=h cs (.head _);obtain⟨ws,e,hw⟩:=aeP fun x hx=>h x (.tail _ hx);exact⟨o::ws,by rw[flatten_cons,e];rfl,fun k hk=>(mem_cons.1 hk).elim (fun e=>e ▸ ho) (hw k)⟩
theorem afJ{H:Type}{enc:TypeId×Value→H}{W:World}{r:Reach}{base:Nat}{v:Value}{d:DataW H}{p:List MemPlace}(JE:Value.okWide prog W r base 105 v)
 (h:DataW.Trod enc prog W 0 (fun _=>true) true 105 v d p):∃(S:Option Addr) (q cs:Nat) (sd:List Nat) (P:Option Addr) (kp cp:Nat) (ds:List Bs),v= .agg #[.slice S q cs,.slice P kp cp]∧Im W [Old W] S q cs sd P kp ds:=by
 obtain⟨cs,rfl,JQ,hc⟩:=aa7 (ts:=[34,47]) ⟨_,underlying105,.inl ⟨_,rfl⟩⟩ (by kernel_rfl) (by kernel_rfl) JE;obtain⟨l⟩:=cs
 match l,JQ with
 | [c0,c1],_ =>
  obtain⟨fuel,hf⟩:=h;obtain⟨xs,k,_,_,_,uI,hf⟩:=DataW.trod_struct underlying105 hf
  match xs,uI with
  | [x0,x1],_ =>
   have h0:DataW.trod enc prog W 0 (fun _=>true) true k 34 (List.take (prog.cellsOf 34) (List.drop 0 [c0,c1]))=some x0:=hf 0 _ rfl;have h1:DataW.trod enc prog W 0 (fun _=>true) true k 47 (List.take (prog.cellsOf 47) (List.drop 1 [c0,c1]))=some x1:=hf 1 _ rfl;rw[akW] at h0;rw[alW] at h1;obtain⟨S,q,cs,y,e0,s0,b0,l0,k0,_⟩:=acF underlying34 underlying5 an0 h0;simp at e0;subst e0 l0;have hb:=adx b0;obtain⟨P,kp,cp,css,rfl,hl,qX,hs⟩:=afB (s:=1) underlying47 akW h1;obtain⟨ds,e2,hd⟩:=aeP (W:=W) (css:=css) fun cs Dw=>by
    obtain⟨n,z,hz⟩:=qX cs Dw;obtain⟨A5,m5,q5,y5,e5,s5,b5,l5,k5,_⟩:=acF underlying34 underlying5 an0 hz;subst l5;have hb5:=adx b5;exact⟨⟨A5,_,q5,iB y5⟩,e5,by rw[←mJ hb5];exact s5,iP hb5,k5⟩
   rw[e2] at hs;exact⟨S,y.length,cs,iB y,_,_,_,ds,rfl,by rw[←mJ hb];exact s0,iP hb,k0,hs,hd⟩
end Go.Proofs.YtcedojacbhnbiaaGreat
