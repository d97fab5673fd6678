import Derived.Test.YtcedojacbhnbiaaGreatP13
import Derived.OpenShut
import Derived.ChangeArms
set_option autoImplicit true
set_option linter.all false
set_option maxHeartbeats 2000000
set_option maxRecDepth 100000
set_option relaxedAutoImplicit true
namespace Go.Proofs.YtcedojacbhnbiaaGreat
open Go.Sl Go.RowKit Tryz List Nat
section
variable{K:World}{F:List aH}{A:Option Addr}{m cap:Nat}{M:sI}
theorem ain(hs:JR K F A m M.gH):aK prog 72 #[.agg #[.i M.ver,.i M.sec,.i M.key,.i M.yS,.slice A m cap]] K F (.bool M.ok):=by
 have d:=hs.len;obtain⟨R,J⟩:∃R,R=Q9 0 M.gH:=⟨_,Z⟩;have jh:M.ok=(Cy M.ver&&Cy M.sec&&Cy M.key&&Cy M.yS&&decide (m≤8)&&R):=by rw[sI.ok,d,←J];simp[Bool.and_assoc]
 rw[jh];refine aB.en func72 ntmps72 ?_;refine aj "a&" λL=> ?_;refine aj "tak" ?_;refine WL.t1 call132 Z (acU _ _ _) Z<|aj "9b_@" ?_;refine WL.nL (oj:=_) (vs:=[_]) Z Z Z GC.f call132 ⟨OV.g Z id,trivial⟩ (λO=>acU _ _ _) Z<|aj "~(Ib_@" ?_;refine WL.nL (oj:=_) (vs:=[_]) Z Z Z GC.f call132 ⟨OV.g Z id,trivial⟩ (λO=>acU _ _ _) Z<|aj "~(Ib_@" ?_;refine WL.nL (oj:=_) (vs:=[_]) Z Z Z GC.f call132 ⟨OV.g Z id,trivial⟩ (λO=>acU _ _ _) Z<|aj "~(Ib_@~p~jIh" (aW (λa=> ?_) λa=> ?_)
 ·skip
  refine aj "D:" ?_;congr 1
  symm
  rw[Bool.eq_false_iff];intro n;simp only[Bool.and_eq_true,decide_eq_true_eq] at n;obtain⟨⟨⟨⟨⟨y,x⟩,G⟩,r⟩,W⟩,_⟩:=n;rw[y,x,G,r] at a;simp at a;omega
 ·skip
  have U:m≤8:=by simp at a;omega
  refine aj "7taos" ?_;refine WC.loop (σ:=Nat×Int) (λs=>[(1,ptr L 0),(3,.i s.2),(4,.i (s.1:Int))]) (λ_=>ah L 42 [.i M.ver,.i M.sec,.i M.key,.i M.yS,.slice A m cap]::F) (λs=>s.1≤m∧Q9 s.2 (M.gH.drop s.1)=R) (λs=>m-s.1) (0,0) ⟨zero_le _,J.symm⟩ bC cO ?_;rintro⟨i,e⟩ ⟨hi,hq⟩;dsimp only at hi hq ⊢;refine aj "rkjPh" (aW (λI=> ?_) λI=> ?_)
  ·simp only[cZ] at I;obtain⟨s,ZJ⟩:∃s,M.gH[i]? =some s:=⟨_,getElem?_eq_getElem ay⟩;have UU:=hs.ok s (mem_of_getElem? ZJ);have mR:=yP.dB UU;rw[show M.gH.drop i=s::M.gH.drop (i+1) from (List.getElem?_eq_some_iff.1 ZJ).2 ▸ drop_eq_getElem_cons _,Q9] at hq;have UW:∀j v,s.cells[j]? =some v→Rd K F (A.map (·.add (i*34+j))) v:=hs.rd ZJ;have Bv:(i:Int).toNat=i:=ay;refine aj "Eakb" ?_;refine WL.val (V.aG (v':=sp A (i*34)) (V.dw akq (ak Z) (ak Z) (λH=>by omega) (λH=>by rw[Bv];exact (UW 0 _ Z).up)) (λ_=>by rw[Bv])) Z<|WL.val (V.tX (vs:=s.cells) ⟨isAgg140,sizeOf140⟩ (ak Z) mR aN (λ_ j v P=>(UW j v P).up)) Z<|aj "v" λX=> ?_;refine WL.store (cs:=s.cells) sizeOf140 (ak Z) (ak Z) Z mR (yP.one s) (bT.whole (by rw[mR];rfl))<|aj "Gak" ?_;refine WL.t1 call132 Z (acU _ _ _) Z<|aj "9b_@~,Ib_@~jIb_@_@" ?_;refine WL.bI (oj:=_) Z Z Z GC.f (V.CX (OV.g Z id) (OV.g Z id) (λH=>by simp[Cy] at H;omega)) Z<|aj "~jIb_@~z" ?_;refine WL.bI (oj:=_) Z Z Z GC.f (V.lss (OV.g Z id) (OV.g Z id)) Z<|aj "Ih" (aW (λl=> ?_) λl=> ?_)
   ·skip
    refine aj "D:" ?_;have u:R=false:=by
     rw[←hq,Bool.eq_false_iff];intro n;simp[Cy] at n l;omega
    rw[u,Bool.and_false]
   ·skip
    have Q:(0≤s.load∧s.load≤2147483647)∧0≤s.bytes∧s.bytes≤1048576:=by simp[Cy] at l;omega
    refine aj "qpkkZOZN" ?_;refine⟨(i+1,s.load+s.bytes),⟨by show i+1≤m;omega, ?_⟩,(by show m-(i+1)<m-i;omega),.cons Z bC,λw h=>h.tail⟩;rw[←hq,show ([s.load,s.bytes].all Cy&&(decide (s.bytes≤1048576)&&decide (e≤s.load)&&decide (s.load+s.bytes≤2147483647)))=true by simp[Cy] at l ⊢;omega];rfl
  ·simp only[cZ] at I;refine aj "KD:" ?_;rw[drop_of_length_le ay] at hq;simp only[Bool.or_eq_false_iff,Bool.not_eq_false',decide_eq_false_iff_not] at a;obtain⟨⟨⟨⟨y,x⟩,G⟩,r⟩,W⟩:=a;rw[←hq,y,x,G,r,decide_eq_true ay];rfl
theorem af7:∀ {l:List yP} {e:Int},Q9 e l=true→∀s∈l,s.load≤2147483647
 | [],_,_,_,h=>by cases h
 | x::l,e,h,s,hs=>by
  rw[Q9] at h;simp only[Bool.and_eq_true,all_cons,all_nil,Bool.and_true,Cy,decide_eq_true_eq] at h;rcases mem_cons.1 hs with rfl | hs
  ·omega
  ·exact af7 h.2 s hs
theorem aaI{z:Int}(h0:0≤z)(h1:z≤9223372036854775807):aB prog 133 #[.i z] K F (λv H'=>∃A' c',v= .slice A' 4 c'∧H'=aV (.slice A' 4 c') 5 1 4 (av .u8 (MN z))::F):=by
 have :=ah1 (n:=z.toNat) ay K F
 rwa [Int.toNat_of_nonneg h0] at this
theorem afR(hs:JR K F A m M.gH)(jh:M.ok=true):aB prog 73 #[.agg #[.i M.ver,.i M.sec,.i M.key,.i M.yS,.slice A m cap]] K F (λv H'=>∃A' c',v= .slice A' (24+40*m) c'∧H'=aV (.slice A' (24+40*m) c') 5 1 (24+40*m) (av .u8 (Al M))::F):=by
 have H:=hs.len;obtain⟨x5,h8,Zd⟩:=sI.al2 jh;rw[H] at h8;have hb:(0≤M.ver∧M.ver≤2147483647)∧(0≤M.sec∧M.sec≤2147483647)∧(0≤M.key∧M.key≤2147483647)∧0≤M.yS∧M.yS≤2147483647:=by
  have :=jh;unfold sI.ok at this;simp only[Bool.and_eq_true,all_cons,all_nil,Bool.and_true,Cy,decide_eq_true_eq] at this;omega
 have P:∀s∈M.gH,s.load≤2147483647:=by
  have :=jh;unfold sI.ok at this;rw[Bool.and_eq_true] at this;exact af7 this.2
 refine aB.en func73 ntmps73 ?_;refine aj "a&" λI=> ?_;refine aj "w" ?_;refine WL.buildSlice (E:=5) (cs:=[_,_,_,_]) (vs:=[(0,_),(1,_),(2,_),(3,_)]) ⟨ak Z,ak Z,ak Z,ak Z,trivial⟩ Z (fJ _ _ _ _) Z (λb8=>aj "~~kwkkkkkj" ?_);refine WL.buildSlice (E:=3) (cs:=[_,_,_,_,_]) (vs:=[(0,_),(1,_),(2,_),(3,_),(4,_)]) ⟨ak Z,ak Z,ak Z,ak Z,ak Z,trivial⟩ Z (aco _ _ _ _ _) Z (λx3=>aj "taos" ?_);refine WC.rounds 6 (aj "rbjPc3Egx~u<" ?_);refine WL.c1 call133 Z (aaI ay ay) Z ?_;rintro _ _ ⟨e,n,rfl,rfl⟩;first
  | refine WL.D7 (m:=4) (q:=4) (cs:=av .u8 [109,97,110,105]) (news:=av .u8 (MN M.ver)) underlying34 yL (ak Z) (ak Z) (Seq.agX Z).up.up (aV.seq Z) aN aN aN aN Z Z (λd a afw afJ=> ?_)
  | (refine WL.sub (Sub.refl _) (λw h=>h.p1) ?_;refine WL.append (q:=4) (news:=av .u8 (MN _)) underlying34 yL (ak Z) (ak Z) (aV.seq Z) (jB _ _) aN Z Z (λd a afw afJ=> ?_))
 refine aj "O~TfbjPc3Egx~u<" ?_;refine WL.c1 call133 Z (aaI ay ay) Z ?_;rintro _ _ ⟨e,n,rfl,rfl⟩;first
  | refine WL.D7 (m:=4) (q:=4) (cs:=av .u8 [109,97,110,105]) (news:=av .u8 (MN M.ver)) underlying34 yL (ak Z) (ak Z) (Seq.agX Z).up.up (aV.seq Z) aN aN aN aN Z Z (λd a afw afJ=> ?_)
  | (refine WL.sub (Sub.refl _) (λw h=>h.p1) ?_;refine WL.append (q:=4) (news:=av .u8 (MN _)) underlying34 yL (ak Z) (ak Z) (aV.seq Z) (jB _ _) aN Z Z (λd a afw afJ=> ?_))
 refine aj "O~wfbjPc3Egx~u<" ?_;refine WL.c1 call133 Z (aaI ay ay) Z ?_;rintro _ _ ⟨e,n,rfl,rfl⟩;first
  | refine WL.D7 (m:=4) (q:=4) (cs:=av .u8 [109,97,110,105]) (news:=av .u8 (MN M.ver)) underlying34 yL (ak Z) (ak Z) (Seq.agX Z).up.up (aV.seq Z) aN aN aN aN Z Z (λd a afw afJ=> ?_)
  | (refine WL.sub (Sub.refl _) (λw h=>h.p1) ?_;refine WL.append (q:=4) (news:=av .u8 (MN _)) underlying34 yL (ak Z) (ak Z) (aV.seq Z) (jB _ _) aN Z Z (λd a afw afJ=> ?_))
 refine aj "O~~|fbjPc3Egx~u<" ?_;refine WL.c1 call133 Z (aaI ay ay) Z ?_;rintro _ _ ⟨e,n,rfl,rfl⟩;first
  | refine WL.D7 (m:=4) (q:=4) (cs:=av .u8 [109,97,110,105]) (news:=av .u8 (MN M.ver)) underlying34 yL (ak Z) (ak Z) (Seq.agX Z).up.up (aV.seq Z) aN aN aN aN Z Z (λd a afw afJ=> ?_)
  | (refine WL.sub (Sub.refl _) (λw h=>h.p1) ?_;refine WL.append (q:=4) (news:=av .u8 (MN _)) underlying34 yL (ak Z) (ak Z) (aV.seq Z) (jB _ _) aN Z Z (λd a afw afJ=> ?_))
 refine aj "O" ?_;refine WL.val (V.aG (v':= .i (4)) (V.add (ak Z) (ak Z)) (λ_=>Z)) Z<|aj "fbjPc3Egx~u<" ?_;refine WL.c1 call133 Z (aaI ay ay) Z ?_;rintro _ _ ⟨e,n,rfl,rfl⟩;first
  | refine WL.D7 (m:=4) (q:=4) (cs:=av .u8 [109,97,110,105]) (news:=av .u8 (MN M.ver)) underlying34 yL (ak Z) (ak Z) (Seq.agX Z).up.up (aV.seq Z) aN aN aN aN Z Z (λd a afw afJ=> ?_)
  | (refine WL.sub (Sub.refl _) (λw h=>h.p1) ?_;refine WL.append (q:=4) (news:=av .u8 (MN _)) underlying34 yL (ak Z) (ak Z) (aV.seq Z) (jB _ _) aN Z Z (λd a afw afJ=> ?_))
 refine aj "O" ?_;refine WL.val (V.aG (v':= .i (5)) (V.add (ak Z) (ak Z)) (λ_=>Z)) Z<|aj "fbjP2Waos" ?_;obtain⟨L,G⟩:∃L,L=[109,97,110,105]++[M.ver,M.sec,M.key,M.yS,(m:Int)].flatMap MN:=⟨_,Z⟩;refine WC.loop (σ:=Nat×Option Addr×Nat) (λs=>[(1,ptr I 0),(3,.slice s.2.1 (24+40*s.1) s.2.2),(6,.i (s.1:Int))]) (λs=>aV (.slice s.2.1 (24+40*s.1) s.2.2) 5 1 (24+40*s.1) (av .u8 (L++(M.gH.take s.1).flatMap adw))::ah I 42 [.i M.ver,.i M.sec,.i M.key,.i M.yS,.slice A m cap]::F) (λs=>s.1≤m) (λs=>m-s.1)
  (0,d,a) (zero_le _) bC (λw h=> ?_) ?_
 ·have J:Sat K w (aV (.slice d 24 a) 5 1 24 (av .u8 [109,97,110,105]++av .u8 (MN M.ver)++av .u8 (MN M.sec)++av .u8 (MN M.key)++av .u8 (MN M.yS)++av .u8 (MN (m:Int)))::ah I 42 [.i M.ver,.i M.sec,.i M.key,.i M.yS,.slice A m cap]::F):=h.bg 9 [0,8] Z;rw[G,take_zero,flatMap_nil,append_nil]
  simpa only[dx,flatMap_cons,flatMap_nil,append_nil,append_assoc] using J
 rintro⟨i,A1,c1⟩ O;dsimp only at O ⊢;refine aj "rkjPh" (aW (λU=> ?_) λU=> ?_)
 ·simp only[cZ] at U;have Q:i<m:=ay;obtain⟨s,ZJ⟩:∃s,M.gH[i]? =some s:=⟨_,getElem?_eq_getElem ay⟩;have nS:=mem_of_getElem? ZJ;have UU:=hs.ok s nS;have mR:=yP.dB UU;obtain⟨x8,uM,pI⟩:=Zd s nS;have x9:=P s nS;have UW:=hs.rd ZJ;have Bv:(i:Int).toNat=i:=ay;refine aj "Eakb" ?_;refine WL.val (V.aG (v':=sp A (i*34)) (V.dw akq (ak Z) (ak Z) (λhc=>by omega) (λhc=>by rw[Bv];exact (UW 0 _ Z).up.up)) (λ_=>by rw[Bv])) Z ?_;refine WL.val (V.tX (vs:=s.cells) ⟨isAgg140,sizeOf140⟩ (ak Z) mR aN (λ_ j v hj=>(UW j v hj).up.up)) Z ?_;refine aj "v" λr=> ?_;refine WL.store (cs:=s.cells) sizeOf140 (ak Z) (ak Z) Z mR (yP.one s) (bT.whole (by rw[mR];rfl)) ?_;have R:∀H':List aH,Seq K (ah r 140 s.cells::H') (some ⟨r,2,none⟩) 32 1 (av .u8 s.bG):=λH'=>⟨by rw[au,UU.len],λi v O=>by
   have h7:Rd K (ah r 140 s.cells::H') (some ⟨r,2+i,none⟩) v:=Rd.here (by
    show (Value.int .i64 s.load:: .i s.bytes::av .u8 s.bG)[2+i]? =some v;rw[show 2+i=i+1+1 by omega,getElem?_cons_succ,getElem?_cons_succ];exact O)
   simpa [jM] using h7⟩
  refine aj "?ceX" ?_;refine WL.val (V.load (v:= .i s.load) isAgg3 (ak Z) (λ_=>(Rd.here Z).up)) Z<|WL.c1 call133 Z (aaI ay ay) Z ?_;rintro _ _ ⟨W,x4,rfl,rfl⟩;refine aj "?" ?_;refine WL.append (q:=4) (news:=av .u8 (MN s.load)) underlying34 yL (ak Z) (ak Z) (aV.seq Z) (jB _ _) ay Z Z (λY X awH axe=>aj "iX" ?_);refine WL.val (V.load (v:= .i s.bytes) isAgg3 (ak Z) (λ_=>(Rd.here Z).up.up)) Z<|WL.c1 call133 Z (aaI ay ay) Z ?_;rintro _ _ ⟨x7,x2,rfl,rfl⟩;refine aj "?" ?_;refine WL.append (q:=4) (news:=av .u8 (MN s.bytes)) underlying34 yL (ak Z) (ak Z) (aV.seq Z) (jB _ _) ay Z Z (λx0 x6 av4 awt=>aj "OX" ?_);refine WL.val (V.aG (v':= .slice (some ⟨r,2,none⟩) 32 32) (V.qM (l:=0) (h:=32) (u:=32) (m:=32) zJ (ak Z) OO.none OO.none OO.none (by simp) aN aN aN) (λ_=>by simp)) Z<|WL.append (q:=32) (news:=av .u8 s.bG) underlying34 yL (ak Z) (ak Z) (R _).up.up (jB _ _) ay Z Z (λx y awg axn=>aj "OZN" ?_);refine⟨(i+1,x,y),Q,(by show m-(i+1)<m-i;omega),.cons Z (.cons (look_eq Z (by dsimp only;rw[show 24+40*(i+1)=24+40*i+4+4+32 by omega])) bC),λw h=> ?_⟩;have J:Sat K w (aV (.slice x (24+40*i+4+4+32) y) 5 1 (24+40*i+4+4+32) (av .u8 (L++(M.gH.take i).flatMap adw)++av .u8 (MN s.load)++av .u8 (MN s.bytes)++av .u8 s.bG)::ah I 42 [.i M.ver,.i M.sec,.i M.key,.i M.yS,.slice A m cap]::F):=h.bg 5 [0,4] Z;dsimp only;rw[←dx,←dx,←dx] at J;rw[show 24+40*(i+1)=24+40*i+4+4+32 by omega,take_add_one,ZJ,flatMap_append]
  simpa [adw,append_assoc] using J
 ·simp only[cZ] at U;refine aj "Ked" ?_;obtain rfl:i=m:=by omega
  refine qR (aV (.slice A1 (24+40*i) c1) 5 1 (24+40*i) (av .u8 (Al M))::F) Z Z (λw h=> ?_) ⟨A1,c1,Z,Z⟩;rw[take_of_length_le ay,G] at h;unfold Al;rw[H];exact h.bg 2 [0] Z
end
def acJ(b:List Nat)(i:Nat):yP:=⟨sP (b.drop (24+40*i)),sP (b.drop (24+40*i+4)),(b.drop (24+40*i+8)).take 32⟩
def Ph(b:List Nat):sI:=⟨sP (b.drop 4),sP (b.drop 8),sP (b.drop 12),sP (b.drop 16),(range' 0 (sP (b.drop 20))).map (acJ b)⟩
theorem afj:∀ {n:Nat} {r:List Nat} {l:List yP} {t:List Nat},EN n r=some (l,t)→r.length=40*n+t.length
 | 0,r,l,t,h=>by cases h;omega
 | n+1,r,l,t,h=>by
  rw[EN] at h;split at h
  ·cases h
  rename_i h1;obtain⟨⟨l',t'⟩,h2,h3⟩:=Option.map_eq_some_iff.1 h;cases h3;have :=afj h2;rw[length_drop] at this;dsimp only;omega
theorem ag5{b:List Nat}:∀(n k:Nat),b.length=24+40*(k+n)→EN n (b.drop (24+40*k))=some ((range' k n).map (acJ b),[])
 | 0,k,h=>by rw[EN,drop_of_length_le ay];rfl
 | n+1,k,h=>by
  rw[EN,if_neg (by rw[length_drop];omega),show (b.drop (24+40*k)).drop 40=b.drop (24+40*(k+1)) by rw[drop_drop];congr 1,ag5 n (k+1) ay];simp[range'_succ,acJ,drop_drop]
theorem aft{l:List Nat}(h:aA 256 l)(h4:4≤l.length):MN ((sP l:Nat):Int)=l.take 4:=by
 rw[ah6];exact ng (λx a=>h x (mem_of_mem_take a)) (by rw[length_take];omega)
theorem td(b:List Nat)(i k:Nat):(b.drop i).take k++b.drop (i+k)=b.drop i:=by rw[←drop_drop];exact take_append_drop _ _
theorem alB{b:List Nat}(h8:aA 256 b){i:Nat}(h:24+40*i+40≤b.length)(r:List Nat)(hr:r=b.drop (24+40*i+40)):adw (acJ b i)++r=b.drop (24+40*i):=by
 have hs:∀k,aA 256 (b.drop k):=λk x a=>h8 x (mem_of_mem_drop a);unfold adw acJ;rw[hr,aft (hs _) (by rw[length_drop];omega),aft (hs _) (by rw[length_drop];omega),append_assoc,append_assoc,show 24+40*i+40=24+40*i+8+32 by omega,td,show 24+40*i+8=24+40*i+4+4 by omega,td,td]
theorem ag7{b:List Nat}(h8:aA 256 b):∀(n k:Nat),b.length=24+40*(k+n)→((range' k n).map (acJ b)).flatMap adw=b.drop (24+40*k)
 | 0,k,h=>by rw[drop_of_length_le ay];rfl
 | n+1,k,h=>by
  rw[range'_succ,map_cons,flatMap_cons,ag7 h8 n (k+1) ay];exact alB h8 ay _ (by congr 1)
theorem agj{b:List Nat}(h8:aA 256 b)(h:b.length=24+40*sP (b.drop 20)):Al (Ph b)=[109,97,110,105]++b.drop 4:=by
 have hs:∀k,aA 256 (b.drop k):=λk x d=>h8 x (mem_of_mem_drop d);have a:∀k,k≤20→MN ((sP (b.drop k):Nat):Int)=(b.drop k).take 4:=λk e=>aft (hs k) (by rw[length_drop];omega);unfold Al Ph;dsimp only;rw[ag7 h8 _ 0 ay,length_map,length_range'];simp only[flatMap_cons,flatMap_nil,append_nil,append_assoc];rw[a 4 aN,a 8 aN,a 12 aN,a 16 aN,a 20 aN,td b 20 4,td b 16 4,td b 12 4,td b 8 4,td b 4 4]
theorem ai4{b:List Nat}(h8:aA 256 b)(h24:24≤b.length)(hn:sP (b.drop 20)≤8)(h:b.length=24+40*sP (b.drop 20)):iL b=if (Ph b).ok=true∧Al (Ph b)=b then some (Ph b) else none:=by
 have a:Al (Ph b)=b↔b.take 4=[109,97,110,105]:=by
  rw[agj h8 h];constructor
  ·intro e;rw[←e];rfl
  ·intro e;rw[←e];exact take_append_drop _ _
 unfold iL;rw[show b.drop 24=b.drop (24+40*0) from Z,ag5 _ 0 ay];by_cases j:b.take 4=[109,97,110,105]
 ·rw[if_neg (λh=>by rcases h with h | h | h;omega;exact h j;omega)];show (if (Ph b).ok=true then some (Ph b) else none)=_;by_cases d:(Ph b).ok=true
  ·rw[if_pos d,if_pos ⟨d,a.2 j⟩]
  ·rw[if_neg d,if_neg (λh=>d h.1)]
 ·rw[if_pos (.inr (.inl j)),if_neg (λh=>j (a.1 h.2))]
theorem ajC{b:List Nat}(h:8<sP (b.drop 20)∨b.length≠24+40*sP (b.drop 20)):iL b=none:=by
 unfold iL;by_cases a:b.length<24∨b.take 4≠[109,97,110,105]∨8<sP (b.drop 20)
 ·rw[if_pos a]
 rw[if_neg a];cases hs:EN (sP (b.drop 20)) (b.drop 24) with
 | none=>rfl
 | some p =>
  obtain⟨l,t⟩:=p;cases t with
  | cons x t=>rfl
  | nil =>
   have d:=afj hs;rw[length_drop,length_nil] at d;omega
theorem WL.anh{P:Program}{K:World}{n:Nat}{Q:iX}{e:Env}{H:List aH}{Mo:Sl.Mode}{ops:Array Oper}{rest:List Oper}{ty:TypeId}{pos:String}{af:Array Edge}{d j dj:Nat}{want:Bool}{oj:Oper}{f:FuncId}{xs:List Operand}{vs:List Value}{ats:Array TypeId}{gv:Value}{c:Bool}{R:Value→List aH→Prop}
 (hj:ops[j]? =some oj) (EG:oj.dst=some dj) (hl:Sl.look e dj=some gv) (hG:GC gv want c) (hf:bP P f) (gL:Ga c e xs vs) (hF:c=true→aB P f vs.toArray K H R) (h0:c=false→∃u,R u H) (hd:blt d n=true)
 (h:∀u H',R u H'→WL Mo P K n ops rest Q ((d,cv c u)::e) H'):WL Mo P K n ops (⟨some d,.call ⟨.value (.func f),xs.toArray,ats⟩,ty,pos,af,some (j,want)⟩::rest) Q e H:=λa w l r=>by
 have GK:=Region.jv (o:=⟨some d,.call ⟨.value (.func f),xs.toArray,ats⟩,ty,pos,af,some (j,want)⟩) Z hj EG hl l hG;cases c with
 | false =>
  obtain⟨u,I⟩:=h0 Z;exact qg GK (h u _ I _ w (l.put d hd _) r)
 | true =>
  refine uP GK λS G=>DX (xS hf (gL.ev l Z)) ((hF Z w r).mono ?_);rintro _ J ⟨u,H',rfl,x,y⟩;exact⟨_,Z,G _ _ (h u H' y _ J (l.put d hd _) x)⟩
section
variable{K:World}{F:List aH}{A:Option Addr}{m c:Nat}{b:List Nat}
theorem af5{b:List Nat}(h8:aA 256 b){i:Nat}(h:24+40*i+40≤b.length):(acJ b i).Ok:=⟨by show ((b.drop _).take 32).length=32;rw[length_take,length_drop];omega,λx a=>h8 x (mem_of_mem_drop (mem_of_mem_take a))⟩
theorem acs(hs:Seq K F A m 1 (av .u8 b))(h8:aA 256 b)(hc:m≤c)(l:Nat)(hl:l+4≤m):aK prog 71 #[.slice (if c=l then A else A.map (·.add (l*1))) (l+4-l) (c-l)] K F (.i ((sP (b.drop l):Nat):Int)):=by
 have j:=Seq.rD hs (l:=l) (h:=l+4) (u:=c) ay hl hc;have d:=afy (cap:=c-l) j (λx a=>h8 x (mem_of_mem_drop (mem_of_mem_take a))) ay;have e:sP ((b.drop l).take (l+4-l))=sP (b.drop l):=by unfold sP;rw[List.take_take,show min 4 (l+4-l)=4 by omega]
 rwa [e] at d
theorem afM(hs:Seq K F A m 1 (av .u8 b))(h8:aA 256 b)(hc:m≤c)(hm:m≤1000000) :
 aB prog 19 #[.slice A m c] K F (λv H'=>∃A' c' E,v= .tuple #[.agg (((iL b).getD .zero).cells A' c').toArray,.bool (iL b).isSome]∧(∀H,JR K (E::H) A' ((iL b).getD .zero).gH.length ((iL b).getD .zero).gH)∧H'=E::F):=by
 have x8:b.length=m:=by have :=hs.len;rwa [au,Nat.mul_one] at this
 have uN:iL b=none→∀H:List aH,JR K (bK []::H) none ((iL b).getD .zero).gH.length ((iL b).getD .zero).gH:=λh H=>by rw[h];exact⟨⟨Z,λi v hi=>by simp[sI.zero] at hi⟩,Z,λs hs=>by cases hs⟩
 refine aB.en func19 ntmps19 ?_;refine aj "av" λP=> ?_;refine aj "wv" λQ=> ?_;refine aj "crjPh" (aW (λh0=> ?_) λh0=> ?_)
 ·simp only[cZ] at h0;have d:iL b=none:=by unfold iL;rw[if_pos (.inl ay)]
  refine aj "ayCd" ?_;exact aF.ret (H':=bK []::F) (rA Z Z ⟨isAgg42,sizeOf42⟩ Z) (λw h=>Sat.all (l:=[]) (h.drop 2)) ⟨none,0,bK [],by rw[d];rfl,uN d,Z⟩
 ·simp only[cZ] at h0;refine aj "T" ?_;refine WL.val (V.slice (m:=m) (cap:=c) (u:=c) (l:=4) (h:=8) dO (ak Z) (OO.some (ak Z) (λ_=>Z)) (OO.some (ak Z) (λ_=>Z)) OO.none (by simp) ay ay ay) Z<|WL.t1 call71 Z (acs hs.up.up h8 hc 4 ay) Z<|aj "X~Zce" ?_;refine WL.val (V.slice (m:=m) (cap:=c) (u:=c) (l:=8) (h:=12) dO (ak Z) (OO.some (ak Z) (λ_=>Z)) (OO.some (ak Z) (λ_=>Z)) OO.none (by simp) ay ay ay) Z<|WL.t1 call71 Z (acs hs.up.up h8 hc 8 ay) Z<|aj "X~Zce" ?_;refine WL.val (V.slice (m:=m) (cap:=c) (u:=c) (l:=12) (h:=16) dO (ak Z) (OO.some (ak Z) (λ_=>Z)) (OO.some (ak Z) (λ_=>Z)) OO.none (by simp) ay ay ay) Z<|WL.t1 call71 Z (acs hs.up.up h8 hc 12 ay) Z<|aj "X~Zce" ?_;refine WL.val (V.slice (m:=m) (cap:=c) (u:=c) (l:=16) (h:=20) dO (ak Z) (OO.some (ak Z) (λ_=>Z)) (OO.some (ak Z) (λ_=>Z)) OO.none (by simp) ay ay ay) Z<|WL.t1 call71 Z (acs hs.up.up h8 hc 16 ay) Z<|aj "X~Zce" ?_;refine WL.val (V.slice (m:=m) (cap:=c) (u:=c) (l:=20) (h:=24) dO (ak Z) (OO.some (ak Z) (λ_=>Z)) (OO.some (ak Z) (λ_=>Z)) OO.none (by simp) ay ay ay) Z<|WL.t1 call71 Z (acs hs.up.up h8 hc 20 ay) Z<|aj "tL" ?_;obtain⟨n,hn⟩:∃n,n=sP (b.drop 20):=⟨_,Z⟩;rw[←hn];refine aj "g~H%~p~z~~?~~~B~QIh" (aW (λh1=> ?_) λh1=> ?_)
  ·simp only[Bool.or_eq_true,Bool.or_eq_false_iff,oK] at h1;have d:iL b=none:=ajC ay;refine aj "a^Cd" ?_;exact aF.ret (H':=bK []::F) (rA Z Z ⟨isAgg42,sizeOf42⟩ Z) (λw h=>Sat.all (l:=[]) (h.drop 2)) ⟨none,0,bK [],by rw[d];rfl,uN d,Z⟩
  ·simp only[Bool.or_eq_true,Bool.or_eq_false_iff,oK] at h1;have x9:n≤8:=ay;have BI:b.length=24+40*n:=ay;refine aj "|aos" ?_;obtain⟨sg,I⟩:∃sg:Nat→List yP,sg=λi=>(range' 0 i).map (acJ b):=⟨_,Z⟩;have mR:∀i,(sg i).length=i:=λi=>by rw[I];simp
   have UU:∀i,i≤n→∀s∈sg i,s.Ok:=λi hi s hs=>by
    rw[I] at hs;obtain⟨j,hj,rfl⟩:=mem_map.1 hs;have :=mem_range'_1.1 hj;exact af5 h8 ay
   refine WC.loop (σ:=Nat×Option Addr×Nat) (λs=>[(0,.slice A m c),(2,ptr P 0),(4,ptr Q 0),(5,.i (n:Int)),(6,.i (s.1:Int))]) (λs=>ah Q 42 [.i ((sP (b.drop 4):Nat):Int),.i ((sP (b.drop 8):Nat):Int),.i ((sP (b.drop 12):Nat):Int),.i ((sP (b.drop 16):Nat):Int),.slice s.2.1 s.1 s.2.2]::aV (.slice s.2.1 s.1 s.2.2) 140 34 s.1 ((sg s.1).flatMap yP.cells)::ah P 42 [.i 0,.i 0,.i 0,.i 0,.slice none 0 0]::F) (λs=>s.1≤n) (λs=>n-s.1)
    (0,none,0) (zero_le _) bC (λw h=>by rw[I];exact (h.gI 140 34).bg 3 [1,0,2] Z) ?_
   rintro⟨i,As,ca⟩ hi;dsimp only at hi ⊢;refine aj "rbPh" (aW (λh2=> ?_) λh2=> ?_)
   ·simp only[cZ] at h2;have BG:i<n:=ay;obtain⟨x,hx⟩:∃x,x=(b.drop (24+40*i)).take 40:=⟨_,Z⟩;have J:aA 256 x:=by rw[hx];exact λy hy=>h8 y (mem_of_mem_drop (mem_of_mem_take hy))
    have uI:x.length=40:=by rw[hx,length_take,length_drop];omega
    have a:=Seq.rD hs (l:=24+40*i) (h:=24+40*i+40) (u:=c) ay ay hc;rw[show 24+40*i+40-(24+40*i)=40 by omega,←hx] at a;obtain⟨Ax,x2⟩:∃Ax,Ax=(if c=24+40*i then A else A.map (·.add ((24+40*i)*1))):=⟨_,Z⟩;rw[←x2] at a;obtain⟨L,x6⟩:∃L,L=c-(24+40*i):=⟨_,Z⟩;have agB:40≤L:=ay;have Wy:Value.int .i64 ((sP x:Nat):Int):: .i ((sP (x.drop 4):Nat):Int)::av .u8 ((x.drop 8).take 32)=(acJ b i).cells:=by
     unfold acJ yP.cells sP;rw[hx];simp[List.take_take,List.drop_take,drop_drop]
    refine aj "Yb~EZb~EZ" ?_;refine WL.val (V.aG (v':= .slice Ax 40 L) (V.slice (m:=m) (cap:=c) (u:=c) (l:=24+40*i) (h:=24+40*i+40) dO (ak Z) (OO.some (ak Z) (λ_=>by omega)) (OO.some (ak Z) (λ_=>by omega)) OO.none (by simp) ay ay ay) (λ_=>by rw[x2,x6];congr 1;omega)) Z<|aj "o" ?_;refine WC.join (σ:=Nat) (λr=>[(0,.slice A m c),(2,ptr P 0),(4,ptr Q 0),(5,.i (n:Int)),(6,.i (i:Int)),(7,.slice Ax 40 L),(8,ptr r 0)]) (λr=>ah r 140 (.i ((sP x:Nat):Int):: .i ((sP (x.drop 4):Nat):Int)::replicate 32 (.int .u8 0))::ah Q 42 [.i ((sP (b.drop 4):Nat):Int),.i ((sP (b.drop 8):Nat):Int),.i ((sP (b.drop 12):Nat):Int),.i ((sP (b.drop 16):Nat):Int),.slice As i ca]::aV (.slice As i ca) 140 34 i ((sg i).flatMap yP.cells)::ah P 42 [.i 0,.i 0,.i 0,.i 0,.slice none 0 0]::F) (λ_=>True) ?_ ?_
    ·skip
     refine aj "~Xn0" ?_;refine WA.t 1 Z (V.slice (m:=40) (cap:=L) (u:=L) (l:=0) (h:=4) dO (ak Z) (OO.some (ak Z) (λ_=>Z)) (OO.some (ak Z) (λ_=>Z)) OO.none (by simp) ay ay ay) ?_;refine aj "n3" ?_;refine WA.t 4 Z (V.slice (m:=40) (cap:=L) (u:=L) (l:=4) (h:=8) dO (ak Z) (OO.some (ak Z) (λ_=>Z)) (OO.some (ak Z) (λ_=>Z)) OO.none (by simp) ay ay ay) ?_;refine WA.two (i:=2) (j:=7) cO (by kernel_rfl) Z Z ?_ ?_
     ·refine WL.t1 call71 Z (acs (by repeat (first | exact a | apply Seq.up)) J agB 0 ay) Z<|WL.nil<|WA.two (i:=5) (j:=7) eO (by kernel_rfl) Z Z ?_ ?_
      ·refine WL.t1 call71 Z (acs (by repeat (first | exact a | apply Seq.up)) J agB 4 ay) Z<|WL.nil (WA.t 6 Z (V.build (vs:=[(0,_),(1,_)]) ⟨ak Z,ak Z,trivial⟩ Z (ac2 _ _)) ?_);refine aj "m7v" λr=> ?_;refine aP "cm8~~~n*~s" ?_;exact⟨r,trivial,.cons Z bC,λw h=>Sat.aT h Z⟩
      ·refine aj "v" λr=> ?_;refine aj "cm5" ?_;refine WL.t1 call71 Z (acs (by repeat (first | exact a | apply Seq.up)) J agB 4 ay) Z<|WL.nil (WA.t 6 Z (V.build (vs:=[(0,_),(1,_)]) ⟨ak Z,ak Z,trivial⟩ Z (ac2 _ _)) ?_);refine aP "m8~~~n*~s" ?_;exact⟨r,trivial,.cons Z bC,λw h=>Sat.aT h Z⟩
     ·refine aj "v" λr=> ?_;refine aj "cm2" ?_;refine WL.t1 call71 Z (acs (by repeat (first | exact a | apply Seq.up)) J agB 0 ay) Z<|aj "cm5" ?_;refine WL.t1 call71 Z (acs (by repeat (first | exact a | apply Seq.up)) J agB 4 ay) Z<|WL.nil (WA.t 6 Z (V.build (vs:=[(0,_),(1,_)]) ⟨ak Z,ak Z,trivial⟩ Z (ac2 _ _)) ?_);refine aP "m8~~~n*~s" ?_;exact⟨r,trivial,.cons Z bC,λw h=>Sat.aT h Z⟩
    ·skip
     rintro r -
     refine aj "Laos" ?_;refine WC.loop (σ:=Nat) (λk=>[(0,.slice A m c),(2,ptr P 0),(4,ptr Q 0),(5,.i (n:Int)),(6,.i (i:Int)),(7,.slice Ax 40 L),(8,ptr r 0),(9,.i (k:Int))]) (λk=>ah r 140 (.i ((sP x:Nat):Int):: .i ((sP (x.drop 4):Nat):Int)::av .u8 ((x.drop 8).take k++replicate (32-k) 0))::ah Q 42 [.i ((sP (b.drop 4):Nat):Int),.i ((sP (b.drop 8):Nat):Int),.i ((sP (b.drop 12):Nat):Int),.i ((sP (b.drop 16):Nat):Int),.slice As i ca]::aV (.slice As i ca) 140 34 i ((sg i).flatMap yP.cells)::ah P 42 [.i 0,.i 0,.i 0,.i 0,.slice none 0 0]::F) (λk=>k≤32) (λk=>32-k)
      0 (zero_le _) bC (λw h=>Sat.aT h (by rw[take_zero,nil_append,eD];rfl)) ?_
     rintro k hk;refine aj "rPh" (aW (λh3=> ?_) λh3=> ?_)
     ·simp only[cZ] at h3;have axc:k<32:=ay;obtain⟨y,hy⟩:∃y,x[8+k]? =some y:=⟨_,getElem?_eq_getElem ay⟩;have e8:(8+(k:Int)).toNat=8+k:=ay;have hr:Rd K F (Ax.map (·.add ((8+(k:Int)).toNat*1))) (.int .u8 (y:Int)):=by rw[e8,Nat.mul_one];exact a.rd _ _ (by unfold av;rw[getElem?_map,hy];rfl)
      refine aj "EgxZ" ?_;refine WL.val (V.dw (m:=40) dO (ak Z) (ak Z) (λ_=>by omega) (λ_=>by repeat (first | exact hr | apply Rd.up))) Z<|WL.val (V.load isAgg5 (ak Z) (λ_=>by repeat (first | exact hr | apply Rd.up))) Z<|aj "X" ?_;refine WL.val (V.aG (v':=ptr r (k+1+1)) (V.YM zJ (ak Z) (ak Z) (λ_=>by omega)) (λ_=>congrArg (ptr r) ay)) Z<|WL.store (cs:=[_]) sizeOf5 (ak Z) (ak Z) Z Z Z (bT.at_ (by show k+1+1<(av .u8 _).length+1+1;rw[au,length_append,length_take,length_drop,length_replicate,uI];omega))<|aj "cgZN" ?_;refine⟨k+1,(by show k+1≤32;omega),(by show 32-(k+1)<32-k;omega),.cons Z bC,λw h=> ?_⟩;have e9:(x.drop 8).take (k+1)++replicate (32-(k+1)) 0=((x.drop 8).take k++replicate (32-k) 0).set k y:=by
       rw[take_add_one,getElem?_drop,hy,set_append_right _ _ (by simp[uI];omega)];rw[show 32-k=32-(k+1)+1 by omega,replicate_succ,length_take,length_drop,uI,show k-min k (40-8)=0 by omega];simp
      dsimp only;rw[e9,←lu];exact h
     ·simp only[cZ] at h3;refine WC.exit ?_;obtain rfl:k=32:=by omega
      rw[Nat.sub_self,replicate_zero,append_nil,Wy];have x0:(acJ b i).Ok:=af5 h8 ay;have JM:=yP.dB x0;obtain⟨s,x3⟩:∃s,s=acJ b i:=⟨_,Z⟩;rw[←x3] at x0 JM ⊢;refine aj "pX" ?_;refine WL.val (V.load (v:= .slice As i ca) isAgg40 (ak Z) (λ_=>lD)) Z<|WL.val (V.fE (vs:=s.cells) ⟨isAgg140,sizeOf140⟩ (ak Z) JM (λ_=>fH.all)) Z<|WL.buildSlice (E:=140) (cs:=s.cells) (vs:=[(0,.agg s.cells.toArray)]) ⟨ak Z,trivial⟩ Z (adK s.cells JM) Z (λy0=>aj "~~P" ?_);refine WL.append (m:=i) (q:=1) (news:=s.cells) underlying40 aj1 (ak Z) (ak Z) (Seq.all (by rw[JM])) (by simpa using yP.one s) ay Z Z (λY U amZ anG=>aj "X~ocgZN" ?_);refine⟨(i+1,Y,U),BG,(by show n-(i+1)<n-i;omega),.cons Z bC,λw h=> ?_⟩;have O:Sat K w (ah Q 42 [.i ((sP (b.drop 4):Nat):Int),.i ((sP (b.drop 8):Nat):Int),.i ((sP (b.drop 12):Nat):Int),.i ((sP (b.drop 16):Nat):Int),.slice Y (i+1) U]::aV (.slice Y (i+1) U) 140 34 (i+1) ((sg i).flatMap yP.cells++s.cells)::ah P 42 [.i 0,.i 0,.i 0,.i 0,.slice none 0 0]::F):=h.bg 5 [3,0,4] Z;have x7:sg (i+1)=sg i++[s]:=by rw[I,x3];simp[List.range'_1_concat]
      dsimp only;rw[x7,flatMap_append]
      simpa using O
   ·simp only[cZ] at h2;have BG:i=n:=ay;subst BG;have e:(Ph b).gH=sg i:=by rw[I,hn];rfl
    have ap9:=ai4 h8 ay ay ay;have amK:=UU i (Nat.le_refl _);have W:∀H,JR K (aV (.slice As i ca) 140 34 i ((sg i).flatMap yP.cells)::H) As i (Ph b).gH:=λH=>⟨by rw[e];exact aV.seq (by rw[rV _ (λx hx=>yP.dB (amK x hx)),mR]),by rw[e,mR],by rw[e];exact amK⟩;have Zp:Seq K F A m 1 (ints .u8 (bH b)):=by rw[←jX];exact hs
    have x5:aA 256 (Al (Ph b)):=by
     rw[agj h8 ay];intro y hy;rcases mem_append.1 hy with h | h
     ·simp only[mem_cons,not_mem_nil,or_false] at h;omega
     ·exact h8 y (mem_of_mem_drop h)
    have aqM:((strOfNums (bH (Al (Ph b)))).toList==(strOfNums (bH b)).toList)=decide (Al (Ph b)=b):=by
     rw[sZ (kR x5) (kR h8)];exact decide_eq_decide.2 ⟨λh=>by have :=congrArg iB h;rwa [sG,sG] at this,λh=>by rw[h]⟩
    refine aj "WL~X~)0m1" ?_;refine WL.t1 call72 Z (ain (M:=Ph b) (W _).up) Z<|WL.nil (WA.t 2 Z (V.not (ak Z)) ?_);refine aj "n3" ?_;refine WA.tG 4 Z Z Z Z GC.f (V.fE (vs:=[_,_,_,_,_]) ⟨isAgg42,sizeOf42⟩ (ak Z) Z (λ_=>tN)) ?_;refine WA.tG 7 Z Z Z Z GC.f (V.move (ak Z)) ?_;refine WA.tG 8 Z Z Z Z GC.f (V.iM (xs:=bH b) underlying34 underlying5 underlying9 (OV.g Z id) (λhc=>Zp.up.up.up)) ?_;refine WA.o 5 Z ?_;refine WL.anh (oj:=_) (vs:=[_]) (R:=λu H'=>∃A' c' X,u= .slice A' (24+40*i) c'∧((Ph b).ok=true→∀G,Seq K (X::G) A' (24+40*i) 1 (av .u8 (Al (Ph b))))∧∀w,Sat K w H'→Sat K w (X::ah Q 42 [.i ((sP (b.drop 4):Nat):Int),.i ((sP (b.drop 8):Nat):Int),.i ((sP (b.drop 12):Nat):Int),.i ((sP (b.drop 16):Nat):Int),.slice As i ca]::aV (.slice As i ca) 140 34 i ((sg i).flatMap yP.cells)::ah P 42 [.i 0,.i 0,.i 0,.i 0,.slice none 0 0]::F)) Z Z Z GC.f call73 ⟨OV.g Z id,trivial⟩ (λhc=>(afR (M:=Ph b) (W _).up (by simpa using hc)).mono λv H' ⟨A',c',e1,e2⟩=>⟨A',c',_,e1,λ_ G=>aV.seq (by rw[au,acY (by rw[e];exact amK),e,mR,Nat.mul_one]),λw h=>by rw[e2] at h;exact h⟩) (λhc=>⟨_,none,0,bK [],Z,λh=>(by rw[h] at hc;cases hc),λw h=>Sat.all (l:=[]) h⟩) rfl ?_;rintro _ H5 ⟨A5,c5,X,rfl,hX,hH⟩;refine WL.sub (Sub.refl _) hH (aj "cm6" ?_);refine WL.bI (oj:=_) Z Z Z GC.f (V.iM (xs:=bH (Al (Ph b))) underlying34 underlying5 underlying9 (OV.g Z id) (λhc=>by rw[←jX];exact hX (by simpa using hc) _)) Z<|WL.nil (WA.tG 9 Z Z Z Z GC.f (V.agA (OV.g Z id) (OV.g Z id)) ?_);refine WA.t 10 Z (V.DY (ak Z) (OV.g Z id)) ?_;refine aj "~rJ" (aW (λO=> ?_) λO=> ?_)
    ·rw[aqM] at O;have d:iL b=none:=by
      rw[ap9,if_neg];rintro⟨k1,k2⟩;rw[k1,decide_eq_true k2] at O;cases O
     refine aj "a^~Ld" ?_;exact aF.ret (H':=bK []::F) (rA Z Z ⟨isAgg42,sizeOf42⟩ Z) (λw h=>Sat.all (l:=[]) (h.drop 4)) ⟨none,0,bK [],by rw[d];rfl,uN d,Z⟩
    ·rw[aqM] at O;have x4:iL b=some (Ph b):=by
      rw[ap9,if_pos]
      simpa using O
     refine aj "7y~Ld" ?_;exact aF.ret (H':=aV (.slice As i ca) 140 34 i ((sg i).flatMap yP.cells)::F) (rA Z Z ⟨isAgg42,sizeOf42⟩ Z) (λw h=>h.bg 4 [2] Z) ⟨As,ca,_,by rw[x4];show _=Value.tuple #[.agg (sI.cells (Ph b) As ca).toArray,.bool true];unfold sI.cells;rw[e,mR];rfl,λH=>by
      rw[x4];show JR K _ As (Ph b).gH.length (Ph b).gH;rw[show (Ph b).gH.length=i by rw[e,mR]];exact W H,Z⟩
end
section
variable{K:World}{F:List aH}{S D:Option Addr}{q cs k kd:Nat}{sd:List Nat}{ds:List Bs}
theorem afN(cap:Int)(hs:Seq K F S q 1 (av .u8 sd))(h8:aA 256 sd)(hq:q≤1000000)(hqc:q≤cs)(hd:Seq K F D k 1 (ds.map Bs.v))(Oa:∀p∈ds,p.l.length=p.m) :
 aK prog 49 #[.slice S q cs,.slice D k kd,.i cap] K F (.i (acF cap sd (ds.map Bs.l))):=by
 have mR:sd.length=q:=by have :=hs.len;rwa [au,Nat.mul_one] at this
 have wF:ds.length=k:=by have :=hd.len;rwa [length_map,Nat.mul_one] at this
 obtain⟨R,a⟩:∃R,R=acF cap sd (ds.map Bs.l):=⟨_,Z⟩;rw[←a];unfold acF I7 at a;rw[mR,length_map,wF] at a;refine aB.en func49 ntmps49 ?_;refine aj "afjPh" (aW (λJ=> ?_) λJ=> ?_)
 ·simp only[cZ] at J;rw[if_pos ay] at a;refine aj "D" ?_;exact qR F Z Z cO ⟨by rw[a],Z⟩
 ·simp only[cZ] at J;have Wt:64≤q:=ay;rw[if_neg ay] at a;have uM:=hs.take (show q-64≤q by omega);rw[dU] at uM;obtain⟨bd,e⟩:∃bd,bd=sd.take (q-64):=⟨_,Z⟩;have I:aA 256 bd:=by rw[e];exact λy r=>h8 y (mem_of_mem_take r)
  rw[←e] at a uM;obtain⟨M,O⟩:∃M,M=(iL bd).getD .zero:=⟨_,Z⟩;rw[←O] at a;refine aj "Tbj)" ?_;refine WL.val (V.aG (v':= .slice S (q-64) cs) (V.slice (m:=q) (cap:=cs) (l:=0) (h:=q-64) (u:=cs) dO (ak Z) OO.none (OO.some (ak Z) (λ_=>by omega)) OO.none (by simp) ay ay ay) (λ_=>by rw[zK,Nat.sub_zero,Nat.sub_zero])) Z<|WL.c1 call19 Z (afM (b:=bd) uM I ay ay) Z ?_;rintro _ _ ⟨W,ca,E,rfl,U,rfl⟩;rw[←O] at U ⊢;dsimp only[sI.cells];refine aj "5v" λY=> ?_;refine aj "Cf9h" (aW (λj=> ?_) λj=> ?_)
  ·simp only[Bool.not_eq_true',Bool.not_eq_false'] at j;rw[if_pos (by rw[j];decide)] at a;refine aj "D" ?_;exact qR F Z Z (λw h=>h.drop 2) ⟨by rw[a],Z⟩
  ·simp only[Bool.not_eq_true',Bool.not_eq_false'] at j;rw[if_neg (by rw[j];decide)] at a;refine aj "|akj~Hb_@~p~z~p~QIh" (aW (λH=> ?_) λH=> ?_)
   ·simp only[Bool.or_eq_true,Bool.or_eq_false_iff,oK] at H;rw[if_pos ay] at a;refine aj "D" ?_;exact qR F Z Z (λw h=>h.drop 2) ⟨by rw[a],Z⟩
   ·simp only[Bool.or_eq_true,Bool.or_eq_false_iff,oK] at H;rw[if_neg ay] at a;have Q:k≤4:=ay;refine aj "Tjb~Htaos" ?_;refine WC.loop (σ:=Nat) (λi=>[(1,.slice D k kd),(2,.i cap),(9,.bool (decide (cap<(q:Int))||(ds.take i).any λp=>decide (cap<(p.m:Int)))),(10,.i (i:Int))]) (λ_=>F) (λi=>i≤k) (λi=>k-i) 0 (zero_le _) bC (λw h=>h.drop 2) ?_;rintro i X;obtain⟨G,d⟩:∃G,G=(decide (cap<(q:Int))||(ds.take i).any λp=>decide (cap<(p.m:Int))):=⟨_,Z⟩;rw[←d];refine aj "rbjPh" (aW (λn=> ?_) λn=> ?_)
    ·simp only[cZ] at n;obtain⟨p,P⟩:∃p,ds[i]? =some p:=⟨_,getElem?_eq_getElem ay⟩;have L:Rd K F (D.map (·.add ((i:Int).toNat*1))) p.v:=by rw[Int.toNat_natCast,Nat.mul_one];exact hd.rd i _ (by rw[getElem?_map,P];rfl)
     refine aj "Eg%~z" ?_;refine WL.bI (oj:=_) Z Z Z GC.f (V.dw adb (OV.g Z id) (OV.g Z id) (λ_=>by omega) (λ_=>L)) Z<|WL.bI (oj:=_) Z Z Z GC.f (V.load isAgg34 (OV.g Z id) (λ_=>L)) Z<|aj "~p~z" ?_;refine WL.bI (oj:=_) Z Z Z GC.f (V.gtr (OV.g Z id) (OV.g Z id)) Z (aj "IOZN" ?_);refine⟨i+1,(by show i+1≤k;omega),(by show k-(i+1)<k-i;omega),.cons Z (.cons Z (.cons (look_eq Z ?_) bC)),λw h=>h⟩;rw[take_add_one,P,List.any_append,←Bool.or_assoc,←d];simp
    ·simp only[cZ] at n;obtain rfl:i=k:=by omega
     have o7:G=acr cap (sd::ds.map Bs.l):=by
      rw[d,take_of_length_le ay];unfold acr;rw[any_cons,mR,List.any_map];congr 1;clear d a hd wF
      induction ds with
      | nil=>rfl
      | cons p l ih =>
       rw[any_cons,any_cons,ih (λy r=>Oa y (.tail _ r))];show (decide (cap<(p.m:Int))||_)=(decide (cap<(p.l.length:Int))||_);rw[Oa p (.head _)]
     rw[←o7] at a;refine aj "Krh" (aW (λx=> ?_) λx=> ?_)
     ·skip
      refine aj "D" ?_;exact qR F Z Z cO ⟨by rw[a,x];rfl,Z⟩
     ·skip
      refine aj "qD" ?_;exact qR F Z Z cO ⟨by rw[a,x];rfl,Z⟩
end
section
variable{K:World}{F:List aH}{M:Mw}{S D:Option Addr}{q cs k kd:Nat}{sd:List Nat}{ds:List Bs}
theorem Mw.ajP{i0:Nat}{b:ByteArray}(h1:i0<M.has.length)(h2:i0<M.iw.length):Mw.aC { M with has:=M.has.set i0 true,iw:=M.iw.set i0 b }=M.aC.put i0 (some (iB (bytesOf b))):=by
 funext i;unfold Mw.aC Lm.put;by_cases h:i=i0
 ·subst h;dsimp only;rw[if_pos (by simp[getD,h1]),if_pos Z];simp[getD,h2]
 ·have d:∀ {α:Type} (l:List α) (a z:α),(l.set i0 a).getD i z=l.getD i z:=λl a z=>by simp[getD,getElem?_set,Ne.symm h]
  dsimp only;rw[d,d,if_neg h]
theorem Mw.aqm(M:Mw)(i:Nat)(b:ByteArray):Mw.v { M with has:=M.has.set i true,iw:=M.iw.set i b }=M.v:=by
 unfold Mw.v;dsimp only;rw[length_set,length_set]
def Mw.Nil(M:Mw):Prop:=∀i,M.has.getD i false=false→M.iw.getD i ByteArray.empty=ByteArray.empty
theorem Mw.Nil.put{i0:Nat}{b:ByteArray}(h:M.Nil)(h1:i0<M.has.length):Mw.Nil { M with has:=M.has.set i0 true,iw:=M.iw.set i0 b }:=λi d=>by
 have j:i≠i0→∀ {α:Type} (l:List α) (a z:α),(l.set i0 a).getD i z=l.getD i z:=λh {α} l a z=>by simp[getD,getElem?_set,Ne.symm h]
 by_cases e:i=i0
 ·subst e;simp[getD,h1] at d
 ·dsimp only at d ⊢;rw[j e] at d ⊢;exact h i d
theorem ahQ{d:List Nat}(h8:aA 256 d):iB (bytesOf (strOfNums (bH d)))=d:=by
 rw[XC (eY _) (kR h8) (JU _),sG]
theorem aeO{v:Value}{aS:Int}{i:Nat}(hv:M.v=v)(hi:aS=(i:Int))(hi2:i<M.has.length)(hl:M.iw.length=M.has.length){d:List Nat}(h8:aA 256 d):aB prog 36 #[v,.i aS,.string (strOfNums (bH d))] K (M.A::F)
 (λ_ H'=>∃M':Mw,M'.v=v∧M'.has.length=M.has.length∧M'.iw.length=M.has.length∧M'.aC=M.aC.put aS.toNat (some d)∧(M.Nil→M'.Nil)∧H'=M'.A::F):=by
 subst hv hi;exact (LM (M:=M) (aS:=(i:Int)) ay hl (strOfNums (bH d))).mono λ_ H' h=>⟨_,Mw.aqm M _ _,length_set ..,(length_set ..).trans hl,by rw[Int.toNat_natCast,Mw.ajP hi2 ay,ahQ h8],λa=>a.put hi2,h⟩
theorem ae2(hh:M.has.length=11)(hl:M.iw.length=M.has.length)(hs:Seq K F S q 1 (av .u8 sd))(h8:aA 256 sd)(hd:ajm K F D k ds)(hk:k≤4):aB prog 52 #[M.v,.slice S q cs,.slice D k kd] K (M.A::F)
 (λv H'=>∃M':Mw,M'.v=M.v∧M'.has.length=M.has.length∧M'.iw.length=M.has.length∧M'.aC=acn M.aC (acv (stM M.aC) sd (ds.map Bs.l))∧(M.Nil→M'.Nil)∧H'=M'.A::F):=by
 have wF:ds.length=k:=by have :=hd.seq.len;rwa [length_map,Nat.mul_one] at this
 obtain⟨x,Q⟩:∃x,x=stM M.aC:=⟨_,Z⟩;have Dv:x.ok=true:=by rw[Q];exact qw _
 have gL:=aY.lJ Dv;rw[←Q];obtain⟨d,y⟩:∃d,d=1-x.f:=⟨_,Z⟩;have asW:d=0∨d=1:=ay;have RF:Seq K F S q 1 (ints .u8 (bH sd)):=by rw[←jX];exact hs
 have O:M.v= .agg #[.slice M.Ah M.has.length M.ch,.slice M.Ad M.iw.length M.cd]:=rfl;rw[O];refine aB.en func52 ntmps52 ?_;refine aj "a~3" λJ=> ?_;refine aj "Q~P" ?_;refine WL.sub (H':=M.A::ah J 81 M.cells::F) (Sub.refl _) (λw h=>h.bg 2 [1,0] Z)<|WL.c1 call43 Z (xP (M:=M) ay ay) Z ?_;rintro _ _ ⟨rfl,rfl⟩;rw[←Q];dsimp only[aY.v];refine aj "v" λL=> ?_;refine aj "CQk)tL" ?_;rw[←y];refine aj "pos" ?_;obtain⟨I,H⟩:∃I,I=adx (2+5*d) (ds.map Bs.l):=⟨_,Z⟩;have X:I.length=k:=by rw[H,acp,length_map];exact wF
 refine WC.loop (σ:=Nat×Mw) (λs=>[(1,.slice S q cs),(2,.slice D k kd),(3,ptr J 0),(6,ptr L 0),(7,.i d),(8,.i (s.1:Int))])
  (λs=>s.2.A::ah L 58 [.i x.f,.i x.t0,.bool x.g0,.i x.t1,.bool x.g1]::ah J 81 M.cells::F) (λs=>s.1≤k∧s.2.v=M.v∧s.2.has.length=M.has.length∧s.2.iw.length=M.has.length∧s.2.aC=acn M.aC (I.take s.1)∧(M.Nil→s.2.Nil)) (λs=>k-s.1)
  (0,M) ⟨zero_le _,Z,Z,hl,Z,id⟩ bC (λw h=>h.bg 3 [1,0,2] Z) ?_
 rintro⟨i,M1⟩ ⟨hi,Gf,hh1,Y8,hm1,hn1⟩;dsimp only at hi Gf hh1 Y8 hm1 hn1 ⊢;refine aj "rbjPh" (aW (λP=> ?_) λP=> ?_)
 ·simp only[cZ] at P;obtain⟨p,R⟩:∃p,ds[i]? =some p:=⟨_,getElem?_eq_getElem ay⟩;have U:Rd K F (D.map (·.add ((i:Int).toNat*1))) p.v:=by rw[Int.toNat_natCast,Nat.mul_one];exact hd.seq.rd i _ (by rw[getElem?_map,R];rfl)
  obtain⟨p1,p2,_⟩:=hd.ok p (mem_of_getElem? R);have qY:Seq K F p.A p.m 1 (ints .u8 (bH p.l)):=by rw[←jX];exact p1
  refine aj "E" ?_;refine WC.dM (ah L 58 [.i x.f,.i x.t0,.bool x.g0,.i x.t1,.bool x.g1]::ah J 81 M.cells::F) (by kernel_rfl)<|aj "~~~C0n1" ?_;refine WA.t 2 Z (V.MK (ak Z) (ak Z) Jy) ?_;refine aj "~~H3n4~~H5n6n7" ?_;refine WA.t 8 Z (V.dw adb (ak Z) (ak Z) (λ_=>by omega) (λ_=>by repeat (first | exact U | apply Rd.up))) ?_;refine WA.t 9 Z (V.load isAgg34 (ak Z) (λ_=>by repeat (first | exact U | apply Rd.up))) ?_;refine WA.t 10 Z (V.iM (xs:=bH p.l) underlying34 underlying5 underlying9 (ak Z) (λ_=>by repeat (first | exact qY | apply Seq.up))) ?_;refine WA.o 11 Z ?_;refine WL.c3 call36 Z Z Z (aeO (M:=M1) (i:=(2+5*d+(i:Int)).toNat) Gf ay ay ay p2) Z ?_;rintro _ _ ⟨G,UO,l,j,n,r,rfl⟩;refine aj "*gZN" ?_;refine⟨(i+1,G),⟨by show i+1≤k;omega,UO,l.trans hh1,j.trans hh1, ?_,λh=>r (hn1 h)⟩,(by show k-(i+1)<k-i;omega),.cons Z bC,λw h=>h⟩;have W:I[i]? =some (2+5*d+(i:Int),p.l):=by rw[H];exact afx (by rw[getElem?_map,R];rfl)
  rw[take_add_one,W,n,hm1];show _=acn M.aC (I.take i++[_]);rw[adh,acn,acn]
 ·simp only[cZ] at P;refine aj "W" ?_;obtain rfl:i=k:=by omega
  rw[take_of_length_le ay] at hm1;refine aj "p~Pb~EZb" ?_;refine WL.val (V.iM (xs:=bH sd) underlying34 underlying5 underlying9 (ak Z) (λ_=>by repeat (first | exact RF | apply Seq.up))) Z<|WL.c3 call36 Z Z Z (aeO (M:=M1) (i:=(1+5*d).toNat) Gf ay ay ay h8) Z ?_;rintro _ _ ⟨G,UO,l,j,n,r,rfl⟩;obtain⟨a,u⟩:∃a,a=(x.install d).1:=⟨_,Z⟩;have e:=acI Dv;rw[←y,←u] at e;refine aj "Qyb" ?_;refine WL.t2 call113 Z Z ((ae3 x d _ _).eq (v':= .tuple #[.agg #[.i a.f,.i a.t0,.bool a.g0,.i a.t1,.bool a.g1],.i 0]) (by rw[←e.2,u])) Z<|aj "5v" λY=> ?_;refine aj "Cop~Py~9" ?_;refine WL.c2 call44 Z Z (by have :=Em (M:=G) (K:=K) (F:=ah Y 58 [.i a.f,.i a.t0,.bool a.g0,.i a.t1,.bool a.g1]::ah L 58 [.i x.f,.i x.t0,.bool x.g0,.i x.t1,.bool x.g1]::ah J 81 M.cells::F) ay ay e.1;rw[UO] at this;exact this) Z ?_;rintro _ _ rfl;refine WL.nil<|aF.normal (H':=Mw.A { G with has:=G.has.set 0 true,iw:=G.iw.set 0 (strOfNums a.bytes) }::F) (bJ.none Z) (λw h=>h.bg 4 [0] Z) ⟨_,(Mw.aqm G _ _).trans UO,(length_set ..).trans (l.trans hh1),(length_set ..).trans (j.trans hh1), ?_,λh=>(r (hn1 h)).put ay,Z⟩;rw[Mw.ajP ay ay,Ny e.1,n,hm1];unfold acv;rw[←y,←u,←H,adh,acn,acn,acn];rfl
end
structure Im(K:World)(F:List aH)(S:Option Addr)(q cs:Nat)(sd:List Nat)(P:Option Addr)(kp:Nat)(ds:List Bs):Prop where
 seq:Seq K F S q 1 (av .u8 sd)
 small:aA 256 sd
 room:q≤cs
 rows:Seq K F P kp 1 (ds.map Bs.v)
 ok:∀p∈ds,Seq K F p.A p.m 1 (av .u8 p.l)∧aA 256 p.l∧p.m≤p.cap
section
variable{bs bd bc:Nat}{g:bQ}{T:bZ}{C:Cw}{K:World}{F:List aH}{B:Nat}{N:Int}{M:Mw}
theorem aiu(hC:C.Ok)(hg:C.g=g)(hT:T.Ok g)(hF:jg 11 11 B N C.aC T.aC M.aC)(hh:M.has.length=11)(hl:M.iw.length=M.has.length)(hn:M.Nil) :
 aB prog 53 #[ptr bs 0,M.v] K (C.A bc::dA bd bc g::T.A bs bd g::M.A::F) (λv H'=>∃T':bZ,T'.Ok g∧T'.aC=T.aC∧v= .bool true∧H'=C.A bc::dA bd bc g::T'.A bs bd g::M.A::F):=by
 have u:M.v= .agg #[.slice M.Ah M.has.length M.ch,.slice M.Ad M.iw.length M.cd]:=rfl;rw[u];refine aB.en func53 ntmps53 ?_;refine aj "a~3" λl=> ?_;refine aj "taos" ?_;refine WC.loop (σ:=Nat×bZ) (λs=>[(0,ptr bs 0),(3,ptr l 0),(5,.i (s.1:Int))]) (λs=>C.A bc::dA bd bc g::s.2.A bs bd g::M.A::ah l 81 M.cells::F) (λs=>s.1≤11∧s.2.Ok g∧s.2.aC=T.aC) (λs=>11-s.1) (0,T) ⟨zero_le _,hT,Z⟩ bC (λw h=>h.bg 5 [1,2,3,4,0] Z) ?_;rintro⟨i,T4⟩ ⟨hi,hT4,e4⟩;dsimp only at hi hT4 e4 ⊢;refine aj "rX" ?_;refine WL.val (V.load (v:= .slice M.Ah M.has.length M.ch) isAgg79 (ak Z) (λ_=>lD)) Z<|aj "jPh" (aW (λy=> ?_) λy=> ?_)
 ·simp only[cZ] at y;have apW:i<11:=ay;have Bv:(i:Int).toNat=i:=ay;obtain⟨G,P⟩:∃G,G=dZ C.aC T4.aC (i:Int):=⟨_,Z⟩;obtain⟨d,L,Q⟩:=hF.V8 apW;have j:G=dZ C.aC T.aC (i:Int):=by rw[P,e4]
  rw[←j] at d L Q;have e:Rd K (M.A::ah l 81 M.cells::F) (M.Ah.map (·.add ((i:Int).toNat*1))) (.bool (M.has.getD i false)):=by rw[Bv];exact Mw.rdH ay
  have kr:Rd K (M.A::ah l 81 M.cells::F) (M.Ad.map (·.add ((i:Int).toNat*1))) (.string (M.iw.getD i ByteArray.empty)):=by rw[Bv];exact Mw.rdD ay
  have YX:(G.1.err=0↔M.has.getD i false=true)∧strOfNums (bH G.1.d)=M.iw.getD i ByteArray.empty:=by
   cases hb:M.has.getD i false with
   | true =>
    have a:M.aC i=some (iB (bytesOf (M.iw.getD i ByteArray.empty))):=if_pos hb;rw[a] at d;refine⟨⟨λ_=>Z,λ_=>d⟩, ?_⟩;rw[L _ a];unfold bH iB;rw[map_map]
    conv=>rhs;rw[←JU (M.iw.getD i ByteArray.empty),←map_id (bytesOf _)]
    congr 1;apply map_congr_left;intro x W;have :=eY _ x W;show ((x.toNat:Nat):Int)=x;omega
   | false =>
    have a:M.aC i=none:=if_neg (by rw[hb];decide);rw[a] at d;refine⟨⟨λh=>(by rw[d] at h;cases h),λh=>(by cases h)⟩, ?_⟩;obtain⟨Y,X⟩:=hF.si;rw[j,(X.yZ apW a).1,hn i hb];rfl
  refine aj "Yb" ?_;refine WL.c2 call26 Z Z (AA hC hg hT4 (i:Int)) Z ?_;rintro _ _ ⟨O,U,R,I,J,rfl,rfl⟩;rw[←P] at J ⊢;have n:R.aC=T.aC:=by rw[J,Q]
  have r:∀ {H:List aH},Seq K (aV (.slice O G.1.d.length U) 5 1 G.1.d.length (av .u8 G.1.d)::H) O G.1.d.length 1 (ints .u8 (bH G.1.d)):=λ{H}=>by rw[←jX];exact aV.seq (by rw[au,Nat.mul_one])
  refine aj "5~Mllt~i~t" ?_;refine WQ.val (V.load (v:= .slice M.Ah M.has.length M.ch) isAgg79 (ak Z) (λ_=>lD)) Z ?_;refine aj "$" ?_;refine WQ.val (V.dw aeh (ak Z) (ak Z) (λ_=>by omega) (λ_=>by repeat (first | exact e | apply Rd.up))) Z ?_;refine WQ.val (V.load isAgg4 (ak Z) (λ_=>by repeat (first | exact e | apply Rd.up))) Z ?_;refine aj "$" ?_;refine WQ.val (V.eql (ak Z) (ak Z)) Z (WQ.val (V.as9 underlying4 (ak Z) (ak Z)) Z (aj "$~~a" ?_));refine WQ.bI (oj:=_) Z Z Z GC.f (V.iM (xs:=bH G.1.d) underlying34 underlying5 underlying9 (OV.g Z id) (λ_=>r)) Z ?_;refine aj "~~5" ?_;refine WQ.bI (oj:=_) Z Z Z GC.f (V.load (v:= .slice M.Ad M.iw.length M.cd) isAgg25 (OV.g Z id) (λ_=>lD)) Z ?_;refine aj "~~a" ?_;refine WQ.bI (oj:=_) Z Z Z GC.f (V.dw abj (OV.g Z id) (OV.g Z id) (λ_=>by omega) (λ_=>by repeat (first | exact kr | apply Rd.up))) Z ?_;refine WQ.bI (oj:=_) Z Z Z GC.f (V.load isAgg9 (OV.g Z id) (λ_=>by repeat (first | exact kr | apply Rd.up))) Z ?_;refine WQ.bI (oj:=_) Z Z Z GC.f (V.agA (OV.g Z id) (OV.g Z id)) Z (aj "~~M~d" ?_);refine WC.ni Z ((by
   rw[YX.2];cases hb:M.has.getD i false with
   | true=>rw[YX.1.2 hb];simp
   | false=>rw[decide_eq_false (λh=>by rw[YX.1.1 h] at hb;cases hb)];simp)) ?_
  refine aj "qgZN" ?_;exact⟨(i+1,R),⟨by show i+1≤11;omega,I,n⟩,(by show 11-(i+1)<11-i;omega),.cons Z bC,λw h=>h.tail⟩
 ·simp only[cZ] at y;refine aj "KD" ?_;exact qR (C.A bc::dA bd bc g::T4.A bs bd g::M.A::F) Z Z (λw h=>h.bg 5 [0,1,2,3] Z) ⟨T4,hT4,e4,Z,Z⟩
end
structure Img where
 S:Option Addr
 q:Nat
 cs:Nat
 sd:List Nat
 P:Option Addr
 kp:Nat
 cp:Nat
 ds:List Bs
abbrev Img.cells(x:Img):List Value:=[.slice x.S x.q x.cs,.slice x.P x.kp x.cp]
structure apU(K:World)(F:List aH)(D:Option Addr)(k:Nat)(l:List Img):Prop where
 seq:Seq K F D k 2 (l.flatMap Img.cells)
 len:l.length=k
 ok:∀x∈l,Im K F x.S x.q x.cs x.sd x.P x.kp x.ds
theorem abd{α:Type}(n i:Nat)(a:α):(replicate n a).getD i a=a:=by
 simp only[getD,getElem?_replicate];split<;>rfl
theorem aeR{K:World}{F:List aH}{M:Mw}{V:Value}{S D:Option Addr}{q cs k kd:Nat}{sd:List Nat}{ds:List Bs}(hv:M.v=V)(hh:M.has.length=11)(hl:M.iw.length=M.has.length)(hs:Seq K F S q 1 (av .u8 sd))(h8:aA 256 sd)(hd:ajm K F D k ds)(hk:k≤4):aB prog 52 #[V,.slice S q cs,.slice D k kd] K (M.A::F)
 (λv H'=>∃M':Mw,M'.v=V∧M'.has.length=M.has.length∧M'.iw.length=M.has.length∧M'.aC=acn M.aC (acv (stM M.aC) sd (ds.map Bs.l))∧(M.Nil→M'.Nil)∧H'=M'.A::F):=by subst hv;exact ae2 hh hl hs h8 hd hk
theorem ah0{bs bd bc:Nat}{g:bQ}{T:bZ}{C:Cw}{K:World}{F:List aH}{B:Nat}{N:Int}{M:Mw}{V:Value}(hv:M.v=V)(hC:C.Ok)(hg:C.g=g)(hT:T.Ok g)(hF:jg 11 11 B N C.aC T.aC M.aC)(hh:M.has.length=11)(hl:M.iw.length=M.has.length)(hn:M.Nil) :
 aB prog 53 #[ptr bs 0,V] K (C.A bc::dA bd bc g::T.A bs bd g::M.A::F) (λv H'=>∃T':bZ,T'.Ok g∧T'.aC=T.aC∧v= .bool true∧H'=C.A bc::dA bd bc g::T'.A bs bd g::M.A::F):=by subst hv;exact aiu hC hg hT hF hh hl hn
theorem afE{K:World}{F:List aH}{M:Mw}{V:Value}(hv:M.v=V)(hh:M.has.length=11)(hd:M.iw.length=M.has.length):aK prog 43 #[V] K (M.A::F) (stM M.aC).v:=by subst hv;exact xP ay ay
theorem acS(g:bQ){D:Option Addr}{k cd:Nat}{l:List Img}{K:World}{F:List aH}(hl:apU K F D k l) :
 aK prog 9 #[g.v,.slice D k cd] K F (.bool true):=by
 have y0:=hl.len;refine aB.en func9 ntmps9 ?_;refine aj "a&" λb2=> ?_;refine aj "tay" ?_;refine WL.t1 call45 Z (afO g _ _) Z<|aj "9%~p~jIh" (aW (λaL=> ?_) λaL=> ?_)
 ·simp only[Bool.or_eq_true,Bool.or_eq_false_iff,Bool.and_eq_true,oK] at aL;exact aj "D+" trivial
 ·simp only[Bool.or_eq_true,Bool.or_eq_false_iff,Bool.and_eq_true,oK] at aL;obtain⟨⟨⟨⟨⟨EC,y2⟩,asB⟩,asu⟩,x9⟩,aty⟩:=aL;have U:=bQ.rF EC;have FR:=bQ.vL U;refine aj "7y" ?_;refine WL.c1 call46 Z (aeY (g:=g) EC ay _ _) Z ?_;rintro _ _ ⟨bc,bd,bs,C0,T0,x7,g0,s0,x2,t0,rfl,rfl⟩;refine aj "5~Mllf~b27" ?_;refine WL.c1 call35 Z (WV (n:=11) aN) Z ?_;rintro _ _ ⟨M0,P,d,rfl,rfl⟩;have y:M0.v= .agg #[.slice M0.Ah M0.has.length M0.ch,.slice M0.Ad M0.iw.length M0.cd]:=rfl;rw[y];refine aj "v" λW=> ?_;refine aj "~.Gaos" ?_;have x8:jg 11 11 256 1 C0.aC T0.aC M0.aC:=by
   rw[t0,s0];have :M0.aC=λ_=>none:=by
    funext i;unfold Mw.aC;rw[P,abd];rfl
   rw[this];exact jg.new U 11
  have x3:M0.Nil:=λi _=>by
   rw[d];exact abd _ _ _
  refine WC.loop (σ:=Nat×Cw×bZ×Mw) (λs=>[(1,.slice D k cd),(7,ptr bs 0),(8,ptr W 0),(9,.i (s.1:Int))]) (λs=>s.2.1.A bc::dA bd bc g::s.2.2.1.A bs bd g::s.2.2.2.A::ah W 81 M0.cells::ah b2 23 [.i g.bl,.i g.pg,.i g.se,.i g.sb,.i g.fl]::F)
   (λs=>s.1≤k∧s.2.1.Ok∧s.2.1.g=g∧s.2.2.1.Ok g∧s.2.2.2.v=M0.v∧s.2.2.2.has.length=11∧s.2.2.2.iw.length=s.2.2.2.has.length∧s.2.2.2.Nil∧∃(B:Nat) (N:Int),jg 11 11 B N s.2.1.aC s.2.2.1.aC s.2.2.2.aC∧B≤256+6*s.1∧N≤1+126*(s.1:Int)) (λs=>k-s.1)
   (0,C0,T0,M0) ⟨zero_le _,x7,g0,x2,Z,by rw[P];rfl,by rw[P,d];rfl,x3,256,1,x8,by omega,by omega⟩ bC (λw h=>h.bg 6 [2,3,4,1,0,5] Z) ?_
  rintro⟨i,C,T,M⟩ ⟨hik,hC,N9,hT,hMv,hMh,hMd,hMn,B,N,hFi,hB,hN⟩;dsimp only at hik hC N9 hT hMv hMh hMd hMn hFi hB hN ⊢;have Od:C.aC.g=g:=N9;refine aj "rbjPh" (aW (λbA=> ?_) λbA=> ?_)
  ·simp only[cZ] at bA;have X:i<k:=ay;have Bv:(i:Int).toNat=i:=ay;obtain⟨x,hx⟩:∃x,l[i]? =some x:=⟨_,getElem?_eq_getElem ay⟩;have a:=hl.ok x (mem_of_getElem? hx);have UW:∀j v,x.cells[j]? =some v→Rd K F (D.map (·.add (i*2+j))) v:=λj v hj=>hl.seq.rd _ _ (JK (f:=Img.cells) (s:=2) (λ_=>Z) l i j x v hx hj);have Ki:x.sd.length=x.q:=by have :=a.seq.len;rwa [au,Nat.mul_one] at this
   have vX:x.ds.length=x.kp:=by have :=a.rows.len;rwa [length_map,Nat.mul_one] at this
   refine aj "Yb" ?_;refine WL.val (V.aG (v':=sp D (i*2)) (V.dw apu (ak Z) (ak Z) (λ_=>by omega) (λ_=>by rw[Bv];repeat (first | exact UW 0 _ Z | apply Rd.up))) (λ_=>by rw[Bv])) Z<|WL.val (V.tX (vs:=x.cells) ⟨isAgg105,sizeOf105⟩ (ak Z) Z aN (λ_ j v hj=>by repeat (first | exact UW j v hj | apply Rd.up))) Z<|aj "v" λy1=> ?_;refine aj "~.Gakk" ?_;refine WL.t2 call47 Z Z (ais (ds:=x.ds) (sd:=x.sd) Ki (by repeat (first | exact a.rows | apply Seq.up))) Z<|aj "9h" (aW (λagb=> ?_) λagb=> ?_)
   ·simp only[Bool.not_eq_true',Bool.not_eq_false'] at agb;exact aj "D+" trivial
   ·simp only[Bool.not_eq_true',Bool.not_eq_false'] at agb;have x5:x.q≤1000∧x.kp≤10∧∀p∈x.ds,p.m≤1000:=by
     unfold aje at agb;simp only[Bool.and_eq_true,Bool.not_eq_true',Bool.or_eq_false_iff,decide_eq_false_iff_not,all_eq_true,Int.not_lt] at agb;exact⟨by omega,by omega,λp L=>by have :=agb.2 p L;omega⟩
    have amh:ajm K F x.P x.kp x.ds:=⟨a.rows,λp L=>⟨(a.ok p L).1,(a.ok p L).2.1,Nat.le_trans (x5.2.2 p L) aN⟩⟩;have Oa:∀p∈x.ds,p.l.length=p.m:=λp L=>by have :=(a.ok p L).1.len;rwa [au,Nat.mul_one] at this
    have RF:Seq K F x.S x.q 1 (ints .u8 (bH x.sd)):=by rw[←jX];exact a.seq
    have dL:=hFi.lK aN;have Dv:=qw M.aC;have gL:=aY.lJ Dv;have Y:11≤(T.stands.length:Int):=by
     obtain⟨y5,ZH⟩:=hFi.si;have h1:T.stands.length=11:=ZH.len;rw[h1];decide
    refine aj "T~Y" ?_;refine WL.c1 call48 Z (ac3 hC N9 hT Y dL Dv) Z ?_;rintro _ _ ⟨T1,oZ,t1,rfl,rfl⟩;refine aj "Hfu%" ?_;refine WL.bI (oj:=_) Z Z Z GC.f (V.fE (vs:=[_,_]) ⟨isAgg81,sizeOf81⟩ (ak Z) Z (λ_=>af4)) Z<|WL.nL (oj:=_) (vs:=[_]) Z Z Z GC.f call43 ⟨OV.g Z id,trivial⟩ (λU=>aK.mem (λF=>afE (M:=M) (K:=K) (F:=F) (hMv.trans y) hMh hMd) (by repeat (first | exact .head _ | apply Mem.tail))) Z<|WL.bI (oj:=_) Z Z Z GC.f (V.field (OV.g Z id) (alz _ _ _ _ _)) Z (WL.bI (oj:=_) Z Z Z GC.f (V.Eo (ak Z) (OV.g Z id) Jy) Z (aj "~QI2|" ?_));obtain⟨e,he⟩:∃e,e=acF g.cap x.sd (x.ds.map Bs.l):=⟨_,Z⟩;refine aj "~i~t~F~t~F$" ?_;refine WQ.call (vs:=[_]) call50 ⟨ak Z,trivial⟩ (aK.mem (λF=>X4 (bs:=bs) (bd:=bd) (T:=T1) (F:=F) U) (by repeat (first | exact .head _ | apply Mem.tail))) Z<|WQ.call (vs:=[_,_,_]) call49 ⟨ak Z,ak Z,ak Z,trivial⟩ ((afN g.cap (by repeat (first | exact a.seq | apply Seq.up)) a.small ay a.room (by repeat (first | exact a.rows | apply Seq.up)) Oa).eq (v':= .i e) (by rw[he])) Z<|aj "~n~da" ?_;refine WL.buildSlice (E:=5) (cs:=[]) (vs:=[]) trivial Z (adt ) Z (λx0=>aj "k" ?_);refine WL.sub (H':=aV (.slice (some ⟨x0,0,none⟩) 0 0) 5 1 0 (av .u8 [])::_) (Sub.refl _) (λw h=>Sat.BX (m:=0) (s:=1) (cap:=0) (cs:=[]) h Z (Nat.le_refl _) (zero_le _))<|WL.append (m:=0) (q:=x.q) (cs:=av .u8 []) (news:=av .u8 x.sd) underlying34 yL (ak Z) (ak Z) (by repeat (first | exact a.seq | apply Seq.up)) (jB _ _) ay Z Z (λJ R awC ap0=> ?_);rw[Nat.zero_add] at ap0 ⊢;rw[show av .u8 []++av .u8 x.sd=av .u8 x.sd from Z];have Bu:∀ {H:List aH},Seq K (aV (.slice J x.q R) 5 1 x.q (av .u8 x.sd)::H) J x.q 1 (av .u8 x.sd):=λ{H}=>aV.seq (by rw[au,Ki,Nat.mul_one]);have aqt:∀ {H:List aH},Seq K (aV (.slice J x.q R) 5 1 x.q (av .u8 x.sd)::H) J x.q 1 (ints .u8 (bH x.sd)):=λ{H}=>by rw[←jX];exact Bu
    refine aj "fbk~Y" ?_;refine WL.c3 call51 Z Z Z (acR (sd:=x.sd) (ds:=x.ds) hC N9 oZ (by rw[t1];exact hFi) ay ay ay ay Bu a.small ay ap0 (by repeat (first | exact amh | apply ajm.up)) (λp L=>(a.ok p L).2.2) ay) Z ?_;rw[←he];rintro _ _ ⟨C2,T2,Bz,g2,BH,f2,rfl,⟨B2,N2,O,y4,y3⟩,rfl⟩;obtain⟨m2,d⟩:∃m2,m2=if e=0 then acn M.aC (acv (stM M.aC) x.sd (x.ds.map Bs.l)) else M.aC:=⟨_,Z⟩
    rw[←d] at O;refine aj "bu%" ?_;refine WL.bI (oj:=_) Z Z Z GC.f (V.iM (xs:=bH x.sd) underlying34 underlying5 underlying9 (OV.g Z id) (λ_=>aqt.up.up.up)) Z<|aj "_@" ?_;refine WL.bI (oj:=_) Z Z Z GC.f (V.iM (xs:=bH x.sd) underlying34 underlying5 underlying9 (OV.g Z id) (λ_=>by repeat (first | exact RF | apply Seq.up))) Z<|WL.bI (oj:=_) Z Z Z GC.f (V.agA (OV.g Z id) (OV.g Z id)) Z (aj "I2q" ?_);refine WC.join (σ:=Mw) (λ_=>[(1,.slice D k cd),(7,ptr bs 0),(8,ptr W 0),(9,.i (i:Int))]) (λr=>C2.A bc::dA bd bc g::T2.A bs bd g::r.A::ah W 81 M0.cells::ah b2 23 [.i g.bl,.i g.pg,.i g.se,.i g.sb,.i g.fl]::F) (λr=>r.v=M0.v∧r.has.length=11∧r.iw.length=r.has.length∧r.Nil∧r.aC=m2) ?_ ?_
    ·skip
     refine aj "e;h" (aW (λQ=> ?_) λQ=> ?_)
     ·simp only[cZ] at Q;have x6:x.kp≤4:=by have :=(afC (he.symm.trans Q)).1;rw[length_map] at this;omega
      rw[if_pos Q] at d;refine aj "p~Pkk~~J" ?_;refine WL.c3 call52 Z Z Z (aeR (sd:=x.sd) (ds:=x.ds) (hMv.trans y) hMh hMd (by repeat (first | exact a.seq | apply Seq.up)) a.small (by repeat (first | exact amh | apply ajm.up)) x6) Z ?_;rintro _ _ ⟨r,UO,u,G,GL,I,rfl⟩;refine aj "c~s" ?_;exact⟨r,⟨UO.trans y.symm,u.trans hMh,G.trans u.symm,I hMn,GL.trans d.symm⟩,.cons Z bC,λw h=>h.bg 8 [1,2,3,0,6,7] Z⟩
     ·simp only[cZ] at Q;rw[if_neg Q] at d;refine aj "q~s" ?_;exact⟨M,⟨hMv,hMh,hMd,hMn,d.symm⟩,.cons Z bC,λw h=>h.bg 8 [0,1,2,5,6,7] Z⟩
    ·skip
     rintro r ⟨UO,u,G,I,GL⟩;refine aj "e~P" ?_;refine WL.c2 call53 Z Z (ah0 (M:=r) (UO.trans y) Bz g2 BH (by rw[GL];exact O) u G I) Z ?_;rintro _ _ ⟨T3,x4,t3,rfl,rfl⟩;refine aj "92qgZN" ?_;exact⟨(i+1,C2,T3,r),⟨X,Bz,g2,x4,UO,u,G,I,B2,N2,by rw[t3,GL];exact O,by omega,by omega⟩,(by show k-(i+1)<k-i;omega),.cons Z bC,λw h=>h⟩
  ·simp only[cZ] at bA;refine aj "Ka" ?_;refine WL.call (vs:=[]) call54 trivial (ahc _ _) Z ?_;rintro _ H0 ⟨rfl,h0⟩;subst H0;exact aj "d+" trivial
end Go.Proofs.YtcedojacbhnbiaaGreat
namespace Go.Proofs.YtcedojacbhnbiaaGreat
open Go.Sl Go.ChangeShapes Go.WideShapes Go.ChangeAt Go.RowKit Tryz List Nat
theorem an0:prog.cellsOf 5=1:=by kernel_rfl
theorem al3:prog.cellsOf 34=1:=by kernel_rfl
theorem amA:prog.cellsOf 47=1:=by kernel_rfl
theorem ag6{H:Type}{enc:TypeId×Value→H}{P:Program}{W:World}{t e s fuel:TypeId}{v:Value}{x:DataW H×List MemPlace}(ht:P.underlying t=some (.slice e))(hc:P.cellsOf e=s)(hf:DataW.trod enc P W 0 (λ_=>true) true fuel t [v]=some x) :
 ∃ A m cap,∃css:List (List Value),v= .slice A m cap∧css.length=m∧(∀cs∈css,∃n y,DataW.trod enc P W 0 (λ_=>true) true n e cs=some y)∧Seq W [Old W] A m s css.flatten:=by
 rcases DataW.trod_slice ht hf with ⟨qX,_⟩ | ⟨a,len,cap,d,Q,n,_,qX,_,_,hl,hm,O,UW,_,_⟩
 ·cases qX;exact⟨none,0,0,[],Z,Z,λx u=>(by cases u),⟨by simp,λi v l=>by simp at l⟩⟩
 ·cases qX;obtain⟨css,U,G⟩:=aa9 len (λi (cs:List Value)=>(cs.length=s∧∃n y,DataW.trod enc P W 0 (λ_=>true) true n e cs=some y)∧∀j v,cs[j]? =some v→W.cell? (a.add (i*s+j))=some v) λi l=>by
   have r:=UW i l;have h4:d[i]? =some d[i]:=getElem?_eq_getElem ay;rw[h4,Option.bind_eq_some_iff] at r;obtain⟨cs,R,Y⟩:=r;rw[hc] at R;obtain⟨L,J,k3⟩:=World.cells?_some R;refine⟨cs,⟨?_,n,_,Y⟩,λj v I=> ?_⟩
   ·omega
   ·have x0:j<s:=by
     rcases Nat.lt_or_ge j cs.length with h | h
     ·omega
     ·rw[getElem?_eq_none h] at I;cases I
    rw[←add_add,k3 j ay,I]
  refine⟨some a,len,cap,css,Z,U,λcs qX=> ?_,PW (λx u=> ?_) |>.trans (by rw[U]),λi v l w X=> ?_⟩
  ·obtain⟨i,l⟩:=getElem?_of_mem qX;exact (G i cs l).1.2
  ·obtain⟨i,l⟩:=getElem?_of_mem u;exact (G i x l).1.1
  ·obtain⟨x,L,J⟩:=OL (s:=s) (λx u=>by
    obtain⟨i,l⟩:=getElem?_of_mem u;exact (G i x l).1.1) l
   have r:=(G _ x L).2 _ v J;rw[Nat.mul_comm,div_add_mod] at r;exact⟨_,Z,(X.below.cell (World.block_lt_of_cell? _ _ r)).trans r⟩
theorem afa{W:World}:∀ {css:List (List Value)},(∀cs∈css,∃p:Bs,cs=[p.v]∧Seq W [Old W] p.A p.m 1 (av .u8 p.l)∧aA 256 p.l∧p.m≤p.cap)→∃ds:List Bs,css.flatten=ds.map Bs.v∧∀p∈ds,Seq W [Old W] p.A p.m 1 (av .u8 p.l)∧aA 256 p.l∧p.m≤p.cap
 | [],_=>⟨[],Z,λ_ h=>by cases h⟩
 | cs::css,h=>by
  obtain⟨o,rfl,ho⟩:=h cs (.head _);obtain⟨d,e,l⟩:=afa λx a=>h x (.tail _ a);exact⟨o::d,by rw[flatten_cons,e];rfl,λk j=>(mem_cons.1 j).elim (λe=>e ▸ ho) (l k)⟩
theorem aja{H:Type}{enc:TypeId×Value→H}{W:World}{n:Nat}{cs:List Value}{y:DataW H×List MemPlace}(hl:cs.length=2)(h:DataW.trod enc prog W 0 (λ_=>true) true n 105 cs=some y):∃x:Img,cs=x.cells∧Im W [Old W] x.S x.q x.cs x.sd x.P x.kp x.ds:=by
 obtain⟨I,k,_,_,_,uI,e⟩:=DataW.trod_struct underlying105 h
 match cs,hl,I,uI with
 | [c0,c1],_,[x0,x1],_ =>
  have l:DataW.trod enc prog W 0 (λ_=>true) true k 34 (List.take (prog.cellsOf 34) (List.drop 0 [c0,c1]))=some x0:=e 0 _ Z;have r:DataW.trod enc prog W 0 (λ_=>true) true k 47 (List.take (prog.cellsOf 47) (List.drop 1 [c0,c1]))=some x1:=e 1 _ Z;rw[al3] at l;rw[amA] at r;obtain⟨S,q,cs,y,d,G,J,R,Y,_⟩:=ac0 underlying34 underlying5 an0 l;simp at d;subst d R;have j:=aeP J;obtain⟨P,kp,u,css,rfl,hl,qX,hs⟩:=ag6 (s:=1) underlying47 al3 r;obtain⟨ds,e2,hd⟩:=afa (W:=W) (css:=css) λcs Dw=>by
   obtain⟨n,z,hz⟩:=qX cs Dw;obtain⟨O,m5,Q,y5,e5,L,U,X,k5,_⟩:=ac0 underlying34 underlying5 an0 hz;subst X;have a:=aeP U;exact⟨⟨O,_,Q,iB y5⟩,e5,by rw[←mJ a];exact L,iP a,k5⟩
  rw[e2] at hs;exact⟨⟨S,y.length,cs,iB y,P,kp,u,ds⟩,Z,by rw[←mJ j];exact G,iP j,Y,hs,hd⟩
theorem afk{W:World}:∀ {css:List (List Value)},(∀cs∈css,∃x:Img,cs=x.cells∧Im W [Old W] x.S x.q x.cs x.sd x.P x.kp x.ds)→∃l:List Img,css=l.map Img.cells∧∀x∈l,Im W [Old W] x.S x.q x.cs x.sd x.P x.kp x.ds
 | [],_=>⟨[],Z,λ_ h=>by cases h⟩
 | cs::css,h=>by
  obtain⟨o,rfl,ho⟩:=h cs (.head _);obtain⟨d,rfl,n⟩:=afk λx a=>h x (.tail _ a);exact⟨o::d,Z,λk j=>(mem_cons.1 j).elim (λe=>e ▸ ho) (n k)⟩
theorem ahh{H:Type}{enc:TypeId×Value→H}{W:World}{r:Reach}{base:Nat}{v:Value}{d:DataW H}{p:List MemPlace}(JE:Value.okWide prog W r base 101 v)
 (h:DataW.Trod enc prog W 0 (λ_=>true) true 101 v d p):∃(A:Option Addr) (m cap:Nat) (l:List Img),v= .slice A m cap∧apU W [Old W] A m l:=by
 obtain⟨A,m,cap,u,rfl,x,_,qX,hs⟩:=Hw (s:=2) underlying101 (by kernel_rfl) JE h;obtain⟨l,rfl,e⟩:=afk λcs j=>by
  obtain⟨G,n,y,a⟩:=qX cs j;exact aja G a
 exact⟨A,m,cap,l,Z,by rw[flatMap_def];exact hs,by simpa using x,e⟩
end Go.Proofs.YtcedojacbhnbiaaGreat
