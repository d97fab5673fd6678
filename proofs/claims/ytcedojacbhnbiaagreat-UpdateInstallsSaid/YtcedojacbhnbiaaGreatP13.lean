import Derived.Test.YtcedojacbhnbiaaGreatP12
import Derived.Test.YtcedojacbhnbiaaGreatP8
set_option autoImplicit true
set_option linter.all false
set_option maxHeartbeats 2000000
set_option maxRecDepth 20000
set_option relaxedAutoImplicit true
namespace Go.Proofs.YtcedojacbhnbiaaGreat
open Go.Sl Go.RowKit Tryz List Nat
theorem UD(s t:aY):iW prog 10000 58 (.agg #[.i s.f,.i s.t0,.bool s.g0,.i s.t1,.bool s.g1]) (.agg #[.i t.f,.i t.t0,.bool t.g0,.i t.t1,.bool t.g1]) (decide (s=t)):=λw=>by
 rw[afg _ _ _ _ _ _ _ _ _ _ w];congr 1;rw[Bool.eq_iff_iff];obtain⟨a,b,c,d,e⟩:=s;obtain⟨r,j,x,h,u⟩:=t;simp[aY.mk.injEq,and_assoc]
abbrev Ran:=(La×Int)×aD×St
def goB(ring:List Ky)(aO slot:Int)(next:aY→aD→St→Ran)(x:aY)(S:aD)(T:St):Ran :=
 if (jE S T ring aO slot).2.1=0 then (((jE S T ring aO slot).1,0),S,(jE S T ring aO slot).2.2) else
 if (jE S T ring aO slot).2.1=70 then ((.zero,70),S,(jE S T ring aO slot).2.2) else next x S (jE S T ring aO slot).2.2
def BN(ring:List Ky)(aO:Int):List Int→aY→aD→St→Ran
 | [],x,S,T=>((.zero,240),S,T)
 | slot::l,x,S,T=>if (x.gM slot).1≠x then
  if (bq S T 0 (bU (x.gM slot).1)).2.2≠0 then ((.zero,(bq S T 0 (bU (x.gM slot).1)).2.2),(bq S T 0 (bU (x.gM slot).1)).1,(bq S T 0 (bU (x.gM slot).1)).2.1) else
  goB ring aO slot (BN ring aO l) (x.gM slot).1 (bq S T 0 (bU (x.gM slot).1)).1 (bq S T 0 (bU (x.gM slot).1)).2.1
  else goB ring aO slot (BN ring aO l) x S T
def tH(S:aD)(T:St)(ring:List Ky)(aO:Int):Ran :=
 if (lK S T).2.1≠0 then ((.zero,(lK S T).2.1),S,(lK S T).2.2) else BN ring aO (lK S T).1.order (lK S T).1 S (lK S T).2.2
def ajo(T:St):Prop:=∀l∈T.cu,l.length≤1000000
def wY(ring:List Ky)(aO:Int):List Int→aY→aD→St→Prop
 | [],_,_,_=>True
 | slot::l,x,S,T=>((x.gM slot).1≠x→ajo T∧((bq S T 0 (bU (x.gM slot).1)).2.2=0→wY ring aO l (x.gM slot).1 (bq S T 0 (bU (x.gM slot).1)).1 (jE (bq S T 0 (bU (x.gM slot).1)).1 (bq S T 0 (bU (x.gM slot).1)).2.1 ring aO slot).2.2)) ∧
  ((x.gM slot).1=x→wY ring aO l x S (jE S T ring aO slot).2.2)
theorem Nt{x:aY}(h:x.ok=true)(slot:Int):(x.gM slot).1.ok=true:=by
 have d:=aY.lJ h;unfold aY.gM;split
 ·rfl
 ·rename_i a;obtain⟨_,hs⟩:=aY.Uf (Decidable.not_not.1 a);split
  ·rename_i b;rcases hs with rfl | rfl
   all_goals
    simp only[aY.may,aY.g,aY.t,aY.put,if_pos,if_neg,Bool.or_eq_true,decide_eq_true_eq,Int.one_ne_zero,if_false] at b ⊢;simp only[aY.ok,Bool.and_eq_true,Bool.or_eq_true,decide_eq_true_eq];split<;>simp_all<;>omega
  ·rfl
theorem YJ{T:bZ}{C:Cw}(hC:C.Ok)(hg:C.g=g)(hT:T.Ok g)(hl:11≤(T.stands.length:Int))(hr:Ring K F A m ring)(qZ:(lK C.aC T.aC).2.1=0→wY ring aO (lK C.aC T.aC).1.order (lK C.aC T.aC).1 C.aC (lK C.aC T.aC).2.2) :
 aB prog 17 #[ptr bs 0,.slice A m c,.i aO] K (C.A bc::dA bd bc g::T.A bs bd g::F)
 (λv H'=>∃(C':Cw) (T':bZ) (A':Option Addr) (c':Nat) (ps:List (Int×Bs)) (E:aH),C'.Ok∧C'.g=g∧T'.Ok g∧C'.aC=(tH C.aC T.aC ring aO).2.1∧T'.aC=(tH C.aC T.aC ring aO).2.2∧v= .agg ((tH C.aC T.aC ring aO).1.1.cells A' c' (tH C.aC T.aC ring aO).1.2).toArray ∧
  (tH C.aC T.aC ring aO).1.1.jS=ps.map (λp=>(p.1,p.2.l))∧(∀H,kD K (E::H) A' ps)∧H'=C'.A bc::dA bd bc g::T'.A bs bd g::E::F):=by
 obtain⟨X,j⟩:∃X,X=tH C.aC T.aC ring aO:=⟨_,Z⟩;obtain⟨G,hG⟩:∃G,G=lK C.aC T.aC:=⟨_,Z⟩;have hz:∀(e:Int) (C':Cw) (T':bZ),C'.Ok→C'.g=g→T'.Ok g→X=((.zero,e),C'.aC,T'.aC)→∃(d:Cw) (T2:bZ) (A':Option Addr) (c':Nat) (ps:List (Int×Bs)) (E:aH),d.Ok∧d.g=g∧T2.Ok g∧d.aC=X.2.1∧T2.aC=X.2.2∧Value.agg (La.zero.cells none 0 e).toArray= .agg (X.1.1.cells A' c' X.1.2).toArray∧X.1.1.jS=ps.map (λp:Int×Bs=>(p.1,p.2.l))∧(∀H,kD K (E::H) A' ps)∧C'.A bc::dA bd bc g::T'.A bs bd g::bK []::F=d.A bc::dA bd bc g::T2.A bs bd g::E::F :=
  λe C' T' Zx N9 Oo he=>⟨C',T',none,0,[],bK [],Zx,N9,Oo,by rw[he],by rw[he],by rw[he],by rw[he];rfl,λH=>⟨⟨Z,λi v hi=>by simp at hi⟩,λp hp=>by cases hp⟩,rfl⟩
 have Dv:G.1.ok=true:=by rw[hG];exact aaP _ _
 rw[←j];unfold tH at j;rw[←hG] at j qZ;refine aB.en func17 ntmps17 ?_;refine aj "av" λb6=> ?_;refine WL.nil<|WC.scope (λ_ _ _ _ h=>h)<|aj "e~Y" ?_;refine WL.c1 call24 Z (vB hC hg hT hl) Z ?_;rintro _ _ ⟨T1,oZ,t1,rfl,rfl⟩;rw[←hG] at t1 ⊢;refine aj "5v" λb7=> ?_;refine aj "Cfuh" (aW (λO=> ?_) λO=> ?_)
 ·simp only[iC] at O;rw[if_pos O] at j;refine aj "e" ?_;refine WL.val (V.build (vs:=[(4,_)]) ⟨ak Z,trivial⟩ Z (rZ _)) Z (aj "C6" ?_);exact aF.ret (H':=C.A bc::dA bd bc g::T1.A bs bd g::bK []::F) (bJ.one Z (R1.jQ (vs:=[_,_,_,_,_]) Z ⟨isAgg37,sizeOf37⟩ Z tN)) (λw h=>(Sat.all (l:=[]) (h.bg 5 [1,2,3] Z)).bg 4 [1,2,3,0] Z) (hz _ C T1 hC hg oZ (by rw[j,t1]))
 ·simp only[iC] at O;rw[if_neg (λh=>h O)] at j;refine aj "7y" ?_;refine WL.c1 call67 Z (EW G.1 _ _) Z ?_;rintro _ _ ⟨J,R,rfl,rfl⟩;obtain⟨a,P⟩:∃a,a=G.1.order:=⟨_,Z⟩;rw[←P] at j qZ ⊢;have Gh:a.length≤2:=by
   rw[P];unfold aY.order;rw[if_pos Dv];exact length_filter_le _ _
  refine aj "Ht" ?_;refine WC.label (aj "rjR" ?_);refine WC.loop (σ:=Nat×aY×Cw×bZ) (λs=>[(0,ptr bs 0),(1,.slice A m c),(2,.i aO),(6,ptr b6 0),(7,ptr b7 0),(32,.slice J a.length R),(33,.i (a.length:Int)),(34,.i (s.1:Int))])
   (λs=>s.2.2.1.A bc::dA bd bc g::s.2.2.2.A bs bd g::ah b7 58 [.i s.2.1.f,.i s.2.1.t0,.bool s.2.1.g0,.i s.2.1.t1,.bool s.2.1.g1]::aV (.slice J a.length R) 3 1 a.length (ints .i64 a)::ah b6 37 [.i 0,.i 0,.i 0,.slice none 0 0,.i 0]::F)
   (λs=>s.1≤a.length∧s.2.1.ok=true∧s.2.2.1.Ok∧s.2.2.1.g=g∧s.2.2.2.Ok g∧X=BN ring aO (a.drop s.1) s.2.1 s.2.2.1.aC s.2.2.2.aC∧wY ring aO (a.drop s.1) s.2.1 s.2.2.1.aC s.2.2.2.aC) (λs=>a.length-s.1)
   (0,G.1,C,T1) ⟨zero_le _,Dv,hC,hg,oZ,by dsimp only;rw[t1];exact j,by dsimp only;rw[t1];exact qZ O⟩ bC (λw h=>h.bg 6 [2,3,4,1,0,5] Z) ?_
  rintro⟨i,x,C1,T2⟩ ⟨hi,hx,RP,EH,BH,wu,Zw⟩;dsimp only at hi hx RP EH BH wu Zw ⊢;refine aj "VJ" (aW (λh1=> ?_) λh1=> ?_)
  ·simp only[cZ] at h1;obtain⟨sl,mR⟩:∃sl,a[i]? =some sl:=⟨_,getElem?_eq_getElem ay⟩;have adC:a.drop i=sl::a.drop (i+1):=(List.getElem?_eq_some_iff.1 mR).2 ▸ drop_eq_getElem_cons _;rw[adC,BN] at wu;rw[adC,wY] at Zw;have zN:=Nt hx sl;obtain⟨t,ht⟩:∃t,t=(x.gM sl).1:=⟨_,Z⟩;rw[←ht] at wu Zw zN;have kr:∀ {H:List aH},Rd K (aV (.slice J a.length R) 3 1 a.length (ints .i64 a)::H) (J.map (·.add ((i:Int).toNat*1))) (.i sl):=λ{H}=>by
    rw[Int.toNat_natCast,Nat.mul_one];exact (aV.seq (by rw[bR,Nat.mul_one])).rd i _ (by unfold ints;rw[getElem?_map,mR];rfl)
   refine aj "Ea" ?_;refine WL.val (V.dw eB (ak Z) (ak Z) (λ_=>by omega) (λ_=>kr.up.up.up.up)) Z<|WL.val (V.load isAgg3 (ak Z) (λ_=>kr.up.up.up.up)) Z<|aj "wyb" ?_;refine WL.t2 call68 Z Z ((Yr x sl _ _).eq (v':= .tuple #[t.v,.i (x.gM sl).2]) (by rw[ht])) Z<|aj "5v" λx3=> ?_;refine aj "Co" ?_;refine WC.join (σ:=aY×Cw×bZ) (λs=>[(0,ptr bs 0),(1,.slice A m c),(2,.i aO),(6,ptr b6 0),(7,ptr b7 0),(12,.i sl),(32,.slice J a.length R),(33,.i (a.length:Int)),(34,.i (i:Int))])
    (λs=>s.2.1.A bc::dA bd bc g::s.2.2.A bs bd g::ah b7 58 [.i s.1.f,.i s.1.t0,.bool s.1.g0,.i s.1.t1,.bool s.1.g1]::aV (.slice J a.length R) 3 1 a.length (ints .i64 a)::ah b6 37 [.i 0,.i 0,.i 0,.slice none 0 0,.i 0]::F)
    (λs=>s.1.ok=true∧s.2.1.Ok∧s.2.1.g=g∧s.2.2.Ok g∧X=goB ring aO sl (BN ring aO (a.drop (i+1))) s.1 s.2.1.aC s.2.2.aC∧wY ring aO (a.drop (i+1)) s.1 s.2.1.aC (jE s.2.1.aC s.2.2.aC ring aO sl).2.2) ?_ ?_
   ·skip
    refine aj "ayy" ?_;refine WL.val (V.Qc (by kernel_rfl) (ak Z) (ak Z) (UD t x)) Z<|aj "h" (aW (λh2=> ?_) λh2=> ?_)
    ·have EJ:t≠x:=by simpa using h2
     rw[if_pos EJ] at wu;obtain⟨x0,b⟩:=Zw.1 EJ;refine aj "ry~Y" ?_;refine WL.c2 call69 Z Z (Ld RP EH BH zN x0) Z ?_;rintro _ _ ⟨d,T3,Bz,U1,U,c2,t3,rfl,rfl⟩;obtain⟨k,hk⟩:∃k,k=bq C1.aC T2.aC 0 (bU t):=⟨_,Z⟩;rw[←hk] at c2 t3 wu b ⊢;refine aj "iuh" (aW (λI=> ?_) λI=> ?_)
     ·simp only[iC] at I;rw[if_pos I] at wu;refine aj "e" ?_;refine WL.val (V.build (vs:=[(4,_)]) ⟨ak Z,trivial⟩ Z (rZ _)) Z (aj "~L6" ?_);exact aF.ret (H':=d.A bc::dA bd bc g::T3.A bs bd g::bK []::F) (bJ.one Z (R1.jQ (vs:=[_,_,_,_,_]) Z ⟨isAgg37,sizeOf37⟩ Z tN)) (λw h=>(Sat.all (l:=[]) (h.bg 7 [0,1,2] Z)).bg 4 [1,2,3,0] Z) (hz _ d T3 Bz U1 U (by rw[wu,c2,t3]))
     ·simp only[iC] at I;rw[if_neg (λh=>h I)] at wu;refine aj "qpy~Lc~s" ?_;exact⟨(t,d,T3),⟨zN,Bz,U1,U,by dsimp only;rw[wu,c2,t3],by dsimp only;rw[c2,t3];exact b I⟩,.cons Z bC,λw h=>h.bg 7 [0,1,2,4,5,6] Z⟩
    ·have EJ:t=x:=by simpa using h2
     rw[if_neg (λh=>h EJ)] at wu;have b:=Zw.2 EJ;refine aj "q~s" ?_;exact⟨(x,C1,T2),⟨hx,RP,EH,BH,wu,b⟩,.cons Z bC,λw h=>h.tail⟩
   ·skip
    rintro⟨y,C3,T4⟩ ⟨hy,TS,hg3,hT4,Xu,hl3⟩;dsimp only at hy TS hg3 hT4 Xu hl3 ⊢;obtain⟨L,hL⟩:∃L,L=jE C3.aC T4.aC ring aO sl:=⟨_,Z⟩;unfold goB at Xu;rw[←hL] at Xu hl3;refine aj "exb" ?_;refine WL.c4 call70 Z Z Z Z (XW (slot:=sl) (aO:=aO) (ring:=ring) TS hg3 hT4 hr.up.up.up) Z ?_;rw[←hL];rintro _ _ ⟨W,A5,c5,ps,E,r,Y,rfl,l7,hE,rfl⟩;refine aj "5v" λx2=> ?_;refine aj "Cicsa;oJ" (aW (λQ=> ?_) λQ=> ?_)
    ·simp only[iC] at Q;rw[if_pos Q] at Xu;refine aj "ay~L6" ?_;exact aF.ret (H':=C3.A bc::dA bd bc g::W.A bs bd g::E::F) (bJ.one Z (R1.jQ (vs:=[_,_,_,_,_]) Z ⟨isAgg37,sizeOf37⟩ Z tN)) (λw h=>h.bg 8 [1,2,3,4] Z) ⟨C3,W,A5,c5,ps,E,TS,hg3,r,by rw[Xu],by rw[Xu];exact Y,by rw[Xu],by rw[Xu];exact l7,hE,Z⟩
    ·simp only[iC] at Q;rw[if_neg Q] at Xu;refine aj "a;oJ" (aW (λu=> ?_) λu=> ?_)
     ·simp only[iC] at u;rw[if_pos u] at Xu;refine aj "e" ?_;refine WL.val (V.build (vs:=[(4,_)]) ⟨ak Z,trivial⟩ Z (rZ _)) Z (aj "~L6" ?_);exact aF.ret (H':=C3.A bc::dA bd bc g::W.A bs bd g::bK []::F) (bJ.one Z (R1.jQ (vs:=[_,_,_,_,_]) Z ⟨isAgg37,sizeOf37⟩ Z tN)) (λw h=>(Sat.all (l:=[]) (h.bg 8 [1,2,3] Z)).bg 4 [1,2,3,0] Z) (hz _ C3 W TS hg3 r (by rw[Xu,Y,u]))
     ·simp only[iC] at u;rw[if_neg u] at Xu;refine aj "K8" ?_;exact⟨(i+1,y,C3,W),⟨by show i+1≤a.length;omega,hy,TS,hg3,r,by dsimp only;rw[Xu,Y],by dsimp only;rw[Y];exact hl3⟩,(by show a.length-(i+1)<a.length-i;omega),.cons Z bC,λw h=>h.bg 8 [1,2,3,5,6,7] Z⟩
  ·simp only[cZ] at h1;refine aj "W" ?_;rw[drop_of_length_le ay,BN] at wu;refine WC.region (WL.val (V.build (vs:=[(4,_)]) ⟨ak Z,trivial⟩ Z (rZ _)) Z (aj "~L6" ?_));exact aF.ret (H':=C1.A bc::dA bd bc g::T2.A bs bd g::bK []::F) (bJ.one Z (R1.jQ (vs:=[_,_,_,_,_]) Z ⟨isAgg37,sizeOf37⟩ Z tN)) (λw h=>(Sat.all (l:=[]) (h.bg 6 [0,1,2] Z)).bg 4 [1,2,3,0] Z) (hz _ C1 T2 RP EH BH wu)
namespace aD
theorem abD(S:aD)(f:aD→aD)(hf:∀T,(f T).aO=T.aO):(S.all f).1.aO=S.aO:=by
 unfold all;dsimp only;split
 ·rw[hf];rfl
 ·rfl
theorem Yf(S:aD)(b:Int):(S.mark b).1.aO=S.aO:=by grind [mark,abD]
theorem Nn(S:aD)(b p:Int)(xs:List Int):(S.program b p xs).1.aO=S.aO:=by unfold program;repeat (first | rfl | split)
theorem Tj(S:aD)(b:Int):(S.erase b).1.aO=S.aO:=by unfold erase;repeat (first | rfl | split)
theorem KG(b:Int)(x:aD×Int):(done b x).1.aO=x.1.aO:=by
 unfold done;split
 ·rfl
 ·split<;>exact Yf _ _
theorem PN(S:aD)(b p:Int)(d:List Nat):(S.dK b p d).1.aO=S.aO:=by grind [dK,KG,Nn]
theorem wS(S:aD)(b:Int):(S.bB b).1.aO=S.aO:=by grind [bB,KG,Tj]
end aD
theorem Qg(S:aD)(num b aS:Int)(d:List Nat):(dI S num b aS d).1.aO=S.aO:=by
 have h:=aD.wS S b;have a:∀(S:aD) (e:Nat→List Nat) k,(gu S b e k).1.aO=S.aO:=λS e k=>by
  induction k with
  | zero=>rfl
  | succ k ih =>
   rw[gu];split
   ·exact ih
   ·rw[aD.PN,ih]
 unfold dI;split
 ·exact h
 ·rw[a,h]
theorem KD(aS:Int)(d:List Nat)(S:aD)(T:St)(b:Int):(Eb aS d S T b).1.aO=S.aO:=by grind [Eb,Qg]
theorem KF(aS:Int)(d:List Nat):∀(l:List Int) (S:aD) (T:St),(jy aS d l S T).1.aO=S.aO
 | [],_,_=>rfl
 | b::l,S,T=>by
  rw[jy];split
  ·rw[KF aS d l,KD]
  ·exact KD _ _ _ _ _
theorem pK(S:aD)(T:St)(aS:Int)(d:List Nat):(bq S T aS d).1.aO=S.aO:=by
 unfold bq;repeat (split;rfl)
 have h:=KF aS d (j4 S.dW T.stands T.at_ S.g.bl S.g.bl.toNat 0) S T;split
 ·rename_i a;rw[a] at h;exact h
 ·rename_i a;rw[a] at h;exact h
theorem OY(h:s.ok=true):aY.parse (bH (bU s))=(s,0):=by
 have e:bH (bU s)=s.bytes:=by
  unfold bU bH iB;rw[map_map]
  conv=>rhs;rw[←map_id s.bytes]
  apply map_congr_left;intro x d;have :=aY.gJ h x d;show ((x.toNat:Nat):Int)=x;omega
 rw[e];have a:aY.of s.bytes=s:=by
  obtain⟨f,r,j,t1,b⟩:=s;unfold aY.bytes;rw[if_pos h];cases j<;>cases b<;>rfl
 unfold aY.parse aY.dW;rw[a,if_pos (by simp[aY.fC h,h])]
def stM(m:Lm):aY:=match m 0 with | some d=>if (aY.parse (bH d)).2=0 then (aY.parse (bH d)).1 else .zero | none=> .zero
theorem GI{m:Lm}(h:x.ok=true):stM (m.put 0 (some (bU x)))=x:=by simp_all [stM,Lm.put,if_pos,OY]
theorem qw(m:Lm):(stM m).ok=true:=by
 unfold stM;split
 ·split
  ·rename_i d _ b;unfold aY.parse at b ⊢;split at b
   ·rename_i a;rw[if_pos a];unfold aY.dW at a;simp only[Bool.and_eq_true] at a;exact a.1.2
   ·cases b
  ·rfl
 ·rfl
theorem jg.KL(h:jg aJ L B N S T m)(hi:i<aJ):(dZ S T (i:Int)).2=T:=by
 obtain⟨d,a⟩:=h.si;cases hm:m i with
 | none=>rw[(a.yZ hi hm).1]
 | some v=>obtain⟨⟨N,_,b⟩,_⟩:=a.Ep h.up hi hm;rw[b]
theorem jg.lK{aJ L B:Nat}{N:Int}{S:aD}{T:St}{m:Lm}(h:jg aJ L B N S T m)(hl:0<aJ):lK S T=(stM m,0,T):=by
 obtain⟨j,b⟩:=h.si;unfold Go.Proofs.YtcedojacbhnbiaaGreat.lK stM;cases hm:m 0 with
 | none =>
  have e:=(b.yZ hl hm).1;rw[show ((0:Nat):Int)=0 from Z] at e;rw[e,if_neg (show ¬(5:Int)=70 by decide),if_neg (λh=>absurd h.1 (show ¬(5:Int)=0 by decide))]
 | some v =>
  obtain⟨⟨N,_,d⟩,_⟩:=b.Ep h.up hl hm;rw[show ((0:Nat):Int)=0 from Z] at d;rw[d,if_neg (show ¬(0:Int)=70 by decide)];dsimp only;by_cases a:(aY.parse (bH v)).2=0
  ·rw[if_pos ⟨Z,a⟩,if_pos a]
  ·rw[if_neg (λh=>a h.2),if_neg a]
theorem Gm(h:(kZ slot seg).2=0):∃i:Nat,i<11∧(kZ slot seg).1=(i:Int):=by
 unfold kZ at h ⊢;split at h
 ·rename_i a;rw[if_pos a];unfold Vh at a;simp only[Bool.or_eq_true,Bool.and_eq_true,decide_eq_true_eq] at a;exact⟨(2+5*slot+seg).toNat,by omega,by show (2+5*slot+seg)=_;omega⟩
 ·cases h
theorem jg.reads(h:jg 11 L B N S T m)(slot:Int):∀n i,(jV S slot n i T).2.2=T
 | 0,_=>rfl
 | n+1,i=>by
  rw[jV];split
  ·rfl
  ·rename_i h1;obtain⟨j,hj,hje⟩:=Gm (Decidable.not_not.1 h1);have a:=h.KL hj;rw[hje];split
   ·exact a
   ·show (jV S slot n (i+1) _).2.2=T;rw[a];exact h.reads slot n (i+1)
theorem jg.load(h:jg 11 L B N S T m)(hs:slot=0∨slot=1):(jE S T ring aO slot).2.2=T:=by
 have e:(kZ slot (-1)).2=0:=by rcases hs with rfl | rfl<;>rfl
 obtain⟨j,d,a⟩:=Gm e;have b:=h.KL d;unfold jE PX;rw[a];split
 ·exact b
 split
 ·exact b
 rw[b];split
 ·exact h.reads _ _ _
 ·exact h.reads _ _ _
theorem abB(h:(jE S T ring aO slot).2.1=0):(jE S T ring aO slot).1.slot=slot∧aO≤(jE S T ring aO slot).1.sec:=by
 unfold jE at h ⊢;obtain⟨G,j⟩:∃G,G=dZ S T (kZ slot (-1)).1:=⟨_,Z⟩;rw[←j] at h ⊢;unfold PX at h ⊢;split at h
 ·rename_i d;exact absurd h d
 rename_i d;rw[if_neg d];split at h
 ·rename_i a;exact absurd h a
 rename_i a;rw[if_neg a];split at h
 ·rename_i b;exact absurd h b
 rename_i b;rw[if_neg b];refine⟨Z, ?_⟩;have hs:=Xx (Decidable.not_not.1 a);show aO≤(kW ring aO G.1.d _).1.sec;dsimp only at h;unfold kW at h ⊢;rw[if_neg a] at h ⊢;split at h
 ·cases h
 rename_i e;rw[if_neg e];split at h
 ·rename_i r;rw[if_pos r];exact hs
 ·cases h
structure Zq(l:List Int)(x y:aY):Prop where
 f:y.f=x.f
 g:∀k,k=0∨k=1→y.g k=x.g k
 out:∀k,k=0∨k=1→k∉l→y.t k=x.t k
 dW:∀k,k=0∨k=1→x.g k=true→y.t k=x.t k
 t:∀k,k=0∨k=1→x.t k-1≤y.t k∧y.t k≤x.t k
theorem Zq.refl(l:List Int)(x:aY):Zq l x x:=⟨Z,λ_ _=>Z,λ_ _ _=>Z,λ_ _ _=>Z,λ_ _=>by omega⟩
theorem Zq.trans{t:aY}(h1:Zq [s] x t)(h2:Zq l t y)(hs:s∉l):Zq (s::l) x y:=by
 refine⟨h2.f.trans h1.f,λk d=>(h2.g k d).trans (h1.g k d),λk d j=> ?_,λk d r=> ?_,λk d=> ?_⟩
 ·rw[h2.out k d (λh=>j (.tail _ h)),h1.out k d (λh=>j (by rw[mem_singleton.1 h];exact .head _))]
 ·rw[h2.dW k d (by rw[h1.g k d];exact r),h1.dW k d r]
 ·have a:=h1.t k d;have b:=h2.t k d;by_cases e:k=s
  ·rw[h2.out k d (by rw[e];exact hs)];exact a
  ·have :=h1.out k d (by simpa using e);omega
theorem aej(h:x.ok=true)(hs:s=0∨s=1)(hm:x.may s=true):Zq [s] x (x.gM s).1:=by
 have b:x.Ol s=0:=by unfold aY.Ol;rw[h];rcases hs with rfl | rfl<;>rfl
 unfold aY.gM;rw[if_neg (λh=>h b),if_pos hm];obtain⟨f,j,u,t1,r⟩:=x;rcases hs with rfl | rfl
 ·refine⟨Z,λk a=> ?_,λk a d=> ?_,λk a e=> ?_,λk a=> ?_⟩<;>rcases a with rfl | rfl<;>simp_all [aY.put,aY.g,aY.t]<;>first | done | (split<;>simp<;>omega) | omega
 ·refine⟨Z,λk a=> ?_,λk a d=> ?_,λk a e=> ?_,λk a=> ?_⟩<;>rcases a with rfl | rfl<;>simp_all [aY.put,aY.g,aY.t]<;>first | done | (split<;>simp<;>omega) | omega
structure adW(aO:Int)(l:List Int)(x:aY)(S:aD)(m:Lm)(B:Nat)(N:Int)(R:Ran)(m':Lm):Prop where
 Kt:∃B' N',jg 11 11 B' N' R.2.1 R.2.2 m'∧B'≤B+l.length∧N'≤N+21*(l.length:Int)
 g:R.2.1.g=S.g
 fu:R.2.1.aO=S.aO
 rest:∀i,i≠0→m' i=m i
 st:Zq l x (stM m')
 ok:R.1.2=0→R.1.1.slot∈l∧aO≤R.1.1.sec∧∀s l',l=s::l'→R.1.1.slot=s→∀k,k=0∨k=1→k≠s→(stM m').t k=x.t k
theorem LK(ring:List Ky)(aO:Int):∀(l:List Int) (x:aY) (S:aD) (T:St) (m:Lm) (B:Nat) (N:Int),jg 11 11 B N S T m→stM m=x→11<S.g.bl→S.g.bl≤20→16≤S.g.cap→N+21*(l.length:Int)≤1000000→B+l.length≤1000000 →
 (∀s∈l,(s=0∨s=1)∧x.may s=true)→l.Nodup→wY ring aO l x S T∧∃m',adW aO l x S m B N (BN ring aO l x S T) m'
 | [],x,S,T,m,B,N,hF,hx,_,_,_,_,_,_,_=>⟨trivial,m,⟨B,N,hF,Nat.le_refl _,by simp⟩,Z,Z,λ_ _=>Z,by rw[hx];exact Zq.refl _ _,λh=>by cases h⟩
 | s::l,x,S,T,m,B,N,hF,hx,EA,oH,kS,hN,hB,hl,vZ=>by
  have Dv:x.ok=true:=by rw[←hx];exact qw m
  obtain⟨hs,x0⟩:=hl s (.head _);have Ws:s∉l:=(nodup_cons.1 vZ).1;have zN:=Nt Dv s;have x2:=aej Dv hs x0;have a:(((s::l).length:Nat):Int)=(l.length:Int)+1:=by simp
  have qC:(s::l).length=l.length+1:=rfl;rw[a] at hN;rw[qC] at hB;have go:∀(y:aY) (j:aD) (G:St) (d:Lm) (J:Nat) (P:Int),jg 11 11 J P j G d→stM d=y→J≤B+1→P≤N+21→j.g=S.g→j.aO=S.aO→(∀i,i≠0→d i=m i)→Zq [s] x y →
   wY ring aO l y j (jE j G ring aO s).2.2∧∃m',adW aO (s::l) x S m B N (goB ring aO s (BN ring aO l) y j G) m':=by
   intro y j G d J P r hy x5 x3 EH O U dL;have RX:=r.load (ring:=ring) (aO:=aO) hs;obtain⟨i1,m',H⟩:=LK ring aO l y j G d J P r hy (by rw[EH];exact EA) (by rw[EH];exact oH) (by rw[EH];exact kS) ay ay (λk hk=>by
    obtain⟨b,I⟩:=hl k (.tail _ hk);refine⟨b, ?_⟩;have uL:k≠s:=λe=>Ws (e ▸ hk);have e1:=dL.out k b (by simpa using uL);have e2:=dL.g k b;unfold aY.may at I ⊢;rw[e1,e2];exact I) (nodup_cons.1 vZ).2
   rw[RX];refine⟨i1, ?_⟩;unfold goB;rw[RX];have sW:∀e Q,adW aO (s::l) x S m B N ((Q,e),j,G) d↔(e=0→Q.slot∈s::l∧aO≤Q.sec∧∀W R,s::l=W::R→Q.slot=W→∀k,k=0∨k=1→k≠W→(stM d).t k=x.t k):=λe Q =>
    ⟨λh=>h.ok,λh=>⟨⟨J,P,r,by rw[qC];omega,by rw[a];omega⟩,EH,O,U,by rw[hy];exact dL.trans (Zq.refl l y) Ws,h⟩⟩
   split
   ·rename_i h0;obtain⟨b,I⟩:=abB h0;refine⟨d,(sW _ _).2 λ_=>⟨by rw[b];exact .head _,I,λW R u mR k hk pq=> ?_⟩⟩;injection u with u _
    rw[hy];exact dL.out k hk (by rw[u];simpa using pq)
   ·split
    ·exact⟨d,(sW _ _).2 λh=>by cases h⟩
    ·obtain⟨B',N',j1,j2,j3⟩:=H.Kt;refine⟨m',⟨B',N',j1,by rw[qC];omega,by rw[a];omega⟩,H.g.trans EH,H.fu.trans O,λi X=>(H.rest i X).trans (U i X),dL.trans H.st Ws,λh0=> ?_⟩;obtain⟨b,I,_⟩:=H.ok h0;refine⟨.tail _ b,I,λW R u mR=> ?_⟩;injection u with u _
     rw[mR,←u] at b;exact absurd b Ws
  rw[BN,wY];by_cases Y:(x.gM s).1=x
  ·obtain⟨g1,g2⟩:=go x S T m B N hF hx ay ay Z Z (λ_ _=>Z) (Zq.refl _ _);rw[if_neg (λh=>h Y)];exact⟨⟨λh=>absurd Y h,λ_=>g1⟩,g2⟩
  ·have uI:(bU (x.gM s).1).length=9:=by unfold bU;rw[gZ,aY.fC zN]
   have h8:aA 256 (bU (x.gM s).1):=iP (aY.gJ zN);obtain⟨c1,c2,c3⟩:=hF.change (by show ((11:Nat):Int)<_;omega) oH ay (i0:=0) aN aN aN h8 (by rw[uI];omega);have c4:=pK S T 0 (bU (x.gM s).1);rw[show ((0:Nat):Int)=0 from Z] at c1 c2 c3;obtain⟨g1,g2⟩:=go (x.gM s).1 _ _ _ (B+1) (N+21) c3 (GI zN) (Nat.le_refl _) (Int.le_refl _) c2 c4 (λi X=>by unfold Lm.put;rw[if_neg X]) x2;rw[if_pos Y,if_neg (λh=>h c1)];obtain⟨x4,ZH⟩:=hF.si;exact⟨⟨λ_=>⟨λR Dp=>Nat.le_trans (ZH.Y9 R Dp) ay,λ_=>g1⟩,λh=>absurd h Y⟩,g2⟩
theorem Ti(ring:List Ky)(aO:Int)(hF:jg 11 11 B N S T m)(EA:11<S.g.bl)(oH:S.g.bl≤20)(kS:16≤S.g.cap)(hN:N≤900000)(hB:B≤900000) :
 ((lK S T).2.1=0→wY ring aO (lK S T).1.order (lK S T).1 S (lK S T).2.2)∧∃m',adW aO (stM m).order (stM m) S m B N (tH S T ring aO) m':=by
 have dL:=hF.lK aN;have Dv:=qw m;have Gh:(stM m).order.length≤2:=by
  unfold aY.order;rw[if_pos Dv];exact length_filter_le _ _
 obtain⟨e,a⟩:=LK ring aO (stM m).order (stM m) S T m B N hF Z EA oH kS ay ay (λs hs=>by
  unfold aY.order at hs;rw[if_pos Dv] at hs;obtain⟨b,j⟩:=mem_filter.1 hs;refine⟨?_,j⟩;have d:=(aY.lJ Dv).1;simp only[mem_cons,not_mem_nil,or_false] at b;omega) (by
  unfold aY.order;rw[if_pos Dv];refine Nodup.sublist filter_sublist ?_;have d:=(aY.lJ Dv).1;simp;omega)
 unfold tH;rw[dL];exact⟨λ_=>e,by rw[if_neg (λh=>h Z)];exact a⟩
theorem ql{x:aY}(h:x.ok=true)(hs:s∈x.order):s=0∨s=1:=by
 unfold aY.order at hs;rw[if_pos h] at hs;have a:=(mem_filter.1 hs).1;have b:=(aY.lJ h).1;simp only[mem_cons,not_mem_nil,or_false] at a;omega
theorem Sw(s:ByteArray):bH (iB (bytesOf s))=bytesOf s:=by
 unfold bH iB;rw[map_map]
 conv=>rhs;rw[←map_id (bytesOf s)]
 apply map_congr_left;intro x a;have :=eY _ x a;show ((x.toNat:Nat):Int)=x;omega
theorem Ho(xs:List Int):((aY.parse xs).2=0)↔aY.dW xs=true:=by
 unfold aY.parse;cases aY.dW xs<;>simp
theorem Mw.akN{M:Mw}(h:M.has.getD 0 false=false):stM M.aC= .zero:=by
 unfold stM Mw.aC;rw[if_neg (by rw[h];decide)]
theorem Mw.aa2{M:Mw}(h:M.has.getD 0 false=true):stM M.aC=if aY.dW (bytesOf (M.iw.getD 0 ByteArray.empty))=true then (aY.parse (bytesOf (M.iw.getD 0 ByteArray.empty))).1 else .zero:=by
 unfold stM Mw.aC;rw[if_pos h];dsimp only;rw[Sw];by_cases a:aY.dW (bytesOf (M.iw.getD 0 ByteArray.empty))=true
 ·rw[if_pos ((Ho _).2 a),if_pos a]
 ·rw[if_neg (λh=>a ((Ho _).1 h)),if_neg a]
theorem xP{M:Mw}(hh:0<M.has.length)(hd:0<M.iw.length):aK prog 43 #[M.v] K (M.A::F) (stM M.aC).v:=by
 unfold Mw.v;obtain⟨s,hs⟩:∃s,s=M.iw.getD 0 ByteArray.empty:=⟨_,Z⟩;have KC:Rd K (M.A::F) (M.Ah.map (·.add ((0:Int).toNat*1))) (.bool (M.has.getD 0 false)):=Mw.rdH hh;have Dq:Rd K (M.A::F) (M.Ad.map (·.add ((0:Int).toNat*1))) (.string s):=by rw[hs];exact Mw.rdD hd
 refine aB.en func43 ntmps43 ?_;refine aj "a~3" λe=> ?_;refine aj "v" λj=> ?_;refine aj "Gak" ?_;refine WL.val (V.dw aeh (ak Z) (ak Z) (λ_=>by omega) (λ_=>by repeat (first | exact KC | apply Rd.up))) Z<|WL.val (V.load isAgg4 (ak Z) (λ_=>by repeat (first | exact KC | apply Rd.up))) Z<|aj "9h" (aW (λa=> ?_) λa=> ?_)
 ·simp only[Bool.not_eq_true',Bool.not_eq_false'] at a;refine aj "a^C6" ?_;rw[Mw.akN a];exact aF.ret (H':=M.A::F) (bJ.one Z (R1.jQ (vs:=[_,_,_,_,_]) Z ⟨isAgg58,sizeOf58⟩ Z tN)) (λw h=>h.drop 2) ⟨Z,Z⟩
 ·simp only[Bool.not_eq_true',Bool.not_eq_false'] at a;refine aj "7k" ?_;refine WL.val (V.dw abj (ak Z) (ak Z) (λ_=>by omega) (λ_=>by repeat (first | exact Dq | apply Rd.up))) Z<|WL.val (V.load isAgg9 (ak Z) (λ_=>by repeat (first | exact Dq | apply Rd.up))) Z<|aj "~~R" λd am4 ajV ZG Oi=> ?_;refine WL.t1 call108 Z (QW (xs:=bytesOf s) (eY s) _ _ (Oi _)) Z<|aj "5v" λr=> ?_;refine aj "Cf9h" (aW (λb=> ?_) λb=> ?_)
  ·simp only[Bool.not_eq_true',Bool.not_eq_false'] at b;refine aj "a^C6" ?_;rw[Mw.aa2 a,←hs,if_neg (by rw[b];decide)];exact aF.ret (H':=M.A::F) (bJ.one Z (R1.jQ (vs:=[_,_,_,_,_]) Z ⟨isAgg58,sizeOf58⟩ Z tN)) (λw h=>h.drop 4) ⟨Z,Z⟩
  ·simp only[Bool.not_eq_true',Bool.not_eq_false'] at b;refine aj "7yC6" ?_;rw[Mw.aa2 a,←hs,if_pos b];exact aF.ret (H':=M.A::F) (bJ.one Z (R1.jQ (vs:=[_,_,_,_,_]) Z ⟨isAgg58,sizeOf58⟩ Z tN)) (λw h=>h.drop 4) ⟨Z,Z⟩
theorem Em{M:Mw}(hh:0<M.has.length)(hl:M.iw.length=M.has.length){x:aY}(hx:x.ok=true):aB prog 44 #[M.v,x.v] K (M.A::F)
 (λv H'=>H'=Mw.A { M with has:=M.has.set 0 true,iw:=M.iw.set 0 (strOfNums x.bytes) }::F):=by
 unfold Mw.v;dsimp only[aY.v];refine aB.en func44 ntmps44 ?_;refine aj "a~3" λa=> ?_;refine aj "&" λb=> ?_;refine WL.nil<|WC.sub (H':=M.A::ah b 58 [.i x.f,.i x.t0,.bool x.g0,.i x.t1,.bool x.g1]::ah a 81 M.cells::F) (Sub.refl _) (λw h=>h.bg 3 [2,0,1] Z)<|WC.dM (ah b 58 [.i x.f,.i x.t0,.bool x.g0,.i x.t1,.bool x.g1]::ah a 81 M.cells::F) (by kernel_rfl)<|aj "~~~C0~)1m2" ?_;refine WL.c1 call109 Z (xW x hx _ _) Z ?_;rintro _ _ ⟨d,j,rfl,rfl⟩;refine aj "cm3" ?_;refine WL.val (V.iM (xs:=x.bytes) underlying34 underlying5 underlying9 (ak Z) (λe=>aV.seq (cs:=ints .u8 x.bytes) (by simp[ints,aY.fC hx]))) Z<|aj "cm4?" ?_;refine WL.c3 call36 Z Z Z (LM (M:=M) (aS:=0) ay hl (strOfNums x.bytes)) Z ?_;rintro _ _ rfl;refine aj "*" ?_;exact aF.normal (H':=Mw.A { M with has:=M.has.set 0 true,iw:=M.iw.set 0 (strOfNums x.bytes) }::F) (bJ.none Z) (λw h=>h.bg 4 [0] Z) Z
def nR(gd:Int→Bool):List Int→aY→aY×Int
 | [],x=>(x,-1)
 | s::l,x=>if gd s then ((x.gM s).1,s) else nR gd l (x.gM s).1
theorem Ny(hx:x.ok=true):iB (bytesOf (strOfNums x.bytes))=bU x:=by
 unfold bU;rw[show bytesOf (strOfNums x.bytes)=x.bytes from XC (eY _) (aY.gJ hx) (JU _)]
def gF(m:Lm)(slot:Int):Nat→Nat→List (List Nat)×Int
 | 0,_=>([],0)
 | n+1,i=>if (kZ slot (i:Int)).2≠0 then ([],(kZ slot (i:Int)).2) else
  match m (kZ slot (i:Int)).1.toNat with
  | none=>([],5)
  | some d=>(d::(gF m slot n (i+1)).1,(gF m slot n (i+1)).2)
def fT(m:Lm)(ring:List Ky)(aO slot:Int):La×Int :=
 match m (kZ slot (-1)).1.toNat with
 | none=>(.zero,5)
 | some sd=>if (eT ring aO sd).2≠0 then (.zero,(eT ring aO sd).2) else
  if (gF m slot (eT ring aO sd).1.gH.length 0).2≠0 then (.zero,(gF m slot (eT ring aO sd).1.gH.length 0).2) else
  ({ (kW ring aO sd (gF m slot (eT ring aO sd).1.gH.length 0).1).1 with slot:=slot },(kW ring aO sd (gF m slot (eT ring aO sd).1.gH.length 0).1).2)
theorem jg.V8{L B:Nat}{N:Int}{S:aD}{T:St}{m:Lm}(h:jg 11 L B N S T m){j:Nat}(hj:j<11):((dZ S T (j:Int)).1.err=match m j with | none=>5 | some _=>0)∧(∀d,m j=some d→(dZ S T (j:Int)).1.d=d)∧(dZ S T (j:Int)).2=T:=by
 obtain⟨e,a⟩:=h.si;cases hm:m j with
 | none=>rw[(a.yZ hj hm).1];exact⟨Z,λd hd=>(by cases hd),rfl⟩
 | some v =>
  obtain⟨⟨N,_,b⟩,_⟩:=a.Ep h.up hj hm;rw[b];exact⟨Z,λd hd=>(by injection hd),Z⟩
theorem jg.OX(h:jg 11 L B N S T m)(slot:Int):∀n i,jV S slot n i T=((gF m slot n i).1,(gF m slot n i).2,T)
 | 0,_=>rfl
 | n+1,i=>by
  rw[jV,gF];split
  ·rfl
  ·rename_i h1;obtain⟨j,hj,hje⟩:=Gm (Decidable.not_not.1 h1);obtain⟨a,r,b⟩:=h.V8 hj;rw[hje,Int.toNat_natCast];cases hm:m j with
   | none =>
    rw[hm] at a;rw[if_pos (by rw[a];decide),a,b]
   | some d =>
    rw[hm] at a;rw[if_neg (λe=>e a),b,r d hm,h.OX slot n (i+1)]
theorem jg.adk(h:jg 11 L B N S T m)(hs:slot=0∨slot=1):jE S T ring aO slot=((fT m ring aO slot).1,(fT m ring aO slot).2,T):=by
 have y:(kZ slot (-1)).2=0:=by rcases hs with rfl | rfl<;>rfl
 obtain⟨j,x,b⟩:=Gm y;obtain⟨a,u,e⟩:=h.V8 x;unfold jE PX fT;rw[b,Int.toNat_natCast];cases hm:m j with
 | none =>
  rw[hm] at a;rw[if_pos (by rw[a];decide),a,e]
 | some d =>
  rw[hm] at a;rw[if_neg (λr=>r a),e,u d hm,h.OX];dsimp only;split
  ·rfl
  split
  ·rfl
  ·rfl
theorem E8(hm:∀i,i≠0→m' i=m i)(hs:slot=0∨slot=1):∀n i,gF m' slot n i=gF m slot n i
 | 0,_=>rfl
 | n+1,i=>by
  rw[gF,gF];split
  ·rfl
  ·rename_i h1;have hk:(kZ slot (i:Int)).1.toNat≠0:=by
    unfold kZ at h1 ⊢;split
    ·rcases hs with rfl | rfl<;>dsimp only<;>omega
    ·rename_i a;rw[if_neg a] at h1;exact absurd (show ((0:Int),(1:Int)).2≠0 by decide) h1
   rw[hm _ hk,E8 hm hs n (i+1)]
theorem Ic(hm:∀i,i≠0→m' i=m i)(hs:slot=0∨slot=1)(ring:List Ky)(aO:Int):fT m' ring aO slot=fT m ring aO slot:=by
 have a:(kZ slot (-1)).1.toNat≠0:=by rcases hs with rfl | rfl<;>decide
 unfold fT;rw[hm _ a];simp only[E8 hm hs]
def Hq(ld:Int→La×Int)(s:Int):La×Int:=if s<0 then (.zero,240) else ((ld s).1,0)
structure ai9(ld:Int→La×Int)(l:List Int)(x:aY)(S:aD)(m:Lm)(B:Nat)(N:Int)(R:Ran)(m':Lm):Prop where
 Kt:∃B' N',jg 11 11 B' N' R.2.1 R.2.2 m'∧B'≤B+l.length∧N'≤N+21*(l.length:Int)
 g:R.2.1.g=S.g
 fu:R.2.1.aO=S.aO
 rest:∀i,i≠0→m' i=m i
 st:stM m'=(nR (λs=>decide ((ld s).2=0)) l x).1
 res:R.1=Hq ld (nR (λs=>decide ((ld s).2=0)) l x).2
theorem OT(ring:List Ky)(aO:Int)(ld:Int→La×Int)(h70:∀s,(ld s).2≠70):∀(l:List Int) (x:aY) (S:aD) (T:St) (m:Lm) (B:Nat) (N:Int),jg 11 11 B N S T m→(∀s,s=0∨s=1→fT m ring aO s=ld s)→stM m=x→11<S.g.bl→S.g.bl≤20→16≤S.g.cap→N+21*(l.length:Int)≤1000000→B+l.length≤1000000 →
 (∀s∈l,s=0∨s=1)→∃m',ai9 ld l x S m B N (BN ring aO l x S T) m'
 | [],x,S,T,m,B,N,hF,RX,hx,_,_,_,_,_,_=>⟨m,⟨B,N,hF,Nat.le_refl _,by simp⟩,Z,Z,λ_ _=>Z,hx,Z⟩
 | s::l,x,S,T,m,B,N,hF,RX,hx,EA,oH,kS,hN,hB,hl=>by
  have Dv:x.ok=true:=by rw[←hx];exact qw m
  have hs:=hl s (.head _);have zN:=Nt Dv s;have a:(((s::l).length:Nat):Int)=(l.length:Int)+1:=by simp
  have qC:(s::l).length=l.length+1:=rfl;rw[a] at hN;rw[qC] at hB;have R:∀(u:aD) (J:St) (d:Lm) (y:Nat) (H:Int),jg 11 11 y H u J d→stM d=(x.gM s).1→y≤B+1→H≤N+21→u.g=S.g→u.aO=S.aO→(∀i,i≠0→d i=m i) →
   ∃ m',ai9 ld (s::l) x S m B N (goB ring aO s (BN ring aO l) (x.gM s).1 u J) m':=by
   intro u J d y H b U x2 x0 EH G j;have aju:∀k,k=0∨k=1→fT d ring aO k=ld k:=λk Q=>by rw[Ic j Q];exact RX k Q
   have e:=b.adk (ring:=ring) (aO:=aO) hs;rw[aju s hs] at e;unfold goB;rw[e];dsimp only;by_cases I:(ld s).2=0
   ·rw[if_pos I];refine⟨d,⟨y,H,b,by rw[qC];omega,by rw[a];omega⟩,EH,G,j, ?_, ?_⟩
    ·rw[nR,if_pos (decide_eq_true I)];exact U
    ·rw[nR,if_pos (decide_eq_true I)];show ((ld s).1,(0:Int))=Hq ld s;unfold Hq;rw[if_neg ay]
   ·rw[if_neg I,if_neg (h70 s)];obtain⟨m',r⟩:=OT ring aO ld h70 l _ u J d y H b aju U (by rw[EH];exact EA) (by rw[EH];exact oH) (by rw[EH];exact kS) ay ay (λk Q=>hl k (.tail _ Q));obtain⟨Y,N',X,j2,j3⟩:=r.Kt;have W:nR (λs=>decide ((ld s).2=0)) (s::l) x=nR (λs=>decide ((ld s).2=0)) l (x.gM s).1:=by rw[nR,if_neg (by simp[I])]
    exact⟨m',⟨Y,N',X,by rw[qC];omega,by rw[a];omega⟩,r.g.trans EH,r.fu.trans G,λi O=>(r.rest i O).trans (j i O),by rw[W];exact r.st,by rw[W];exact r.res⟩
  rw[BN];by_cases P:(x.gM s).1=x
  ·rw[if_neg (λh=>h P)];have :=R S T m B N hF (by rw[P];exact hx) ay ay Z Z (λ_ _=>Z);rw[P] at this;exact this
  ·have uI:(bU (x.gM s).1).length=9:=by unfold bU;rw[gZ,aY.fC zN]
   have h8:aA 256 (bU (x.gM s).1):=iP (aY.gJ zN);obtain⟨c1,c2,c3⟩:=hF.change (by show ((11:Nat):Int)<_;omega) oH ay (i0:=0) aN aN aN h8 (by rw[uI];omega);have c4:=pK S T 0 (bU (x.gM s).1);rw[show ((0:Nat):Int)=0 from Z] at c1 c2 c3;rw[if_pos P,if_neg (λh=>h c1)];exact R _ _ _ (B+1) (N+21) c3 (GI zN) (Nat.le_refl _) (Int.le_refl _) c2 c4 (λi O=>by unfold Lm.put;rw[if_neg O])
def acn:Lm→List (Int×List Nat)→Lm
 | m,[]=>m
 | m,p::l=>acn (m.put p.1.toNat (some p.2)) l
theorem adh:∀(m:Lm) (l l':List (Int×List Nat)),acn m (l++l')=acn (acn m l) l'
 | m,[],l'=>rfl
 | m,p::l,l'=>by rw[cons_append,acn,acn,adh]
theorem agp(x:aY)(sd:List Nat)(ds:List (List Nat)):(acv x sd ds).length=ds.length+2:=by unfold acv;rw[length_append,acp];rfl
theorem afC{cap:Int}{sd:List Nat}{ds:List (List Nat)}(h:acF cap sd ds=0):ds.length≤4∧acr cap (sd::ds)=false:=by
 unfold acF at h;split at h
 ·cases h
 split at h
 ·cases h
 split at h
 ·cases h
 split at h
 ·cases h
 ·rename_i b a;exact⟨by omega,by simpa using a⟩
theorem aif{a:Int}:∀ {l:List (List Nat)} {p:Int×List Nat},p∈adx a l→a≤p.1∧p.1<a+(l.length:Int)
 | [],_,h=>by cases h
 | d::l,p,h=>by
  rw[adx] at h;rcases mem_cons.1 h with rfl | h
  ·simp only[length_cons];omega
  ·have :=aif h;simp only[length_cons];omega
theorem alN{x:aY}(hx:x.ok=true){sd:List Nat}{ds:List (List Nat)}(hd:ds.length≤4){p:Int×List Nat}(hp:p∈acv x sd ds):∃i:Nat,i<11∧p.1=(i:Int):=by
 have a:=(aY.lJ hx).1;have b:0≤p.1∧p.1<11:=by
  unfold acv at hp;rcases mem_append.1 hp with h | h
  ·have :=aif h;omega
  ·simp only[mem_cons,not_mem_nil,or_false] at h;rcases h with rfl | rfl<;>dsimp only<;>omega
 exact⟨p.1.toNat,by omega,by omega⟩
section
variable{bs bd bc:Nat}{g:bQ}{T:bZ}{C:Cw}{K:World}{F:List aH}{S D:Option Addr}{q cs k kd B:Nat}{N:Int}{mp:Lm}{sd:List Nat}{ds:List Bs}
theorem acR(hC:C.Ok)(hg:C.g=g)(hT:T.Ok g)(hF:jg 11 11 B N C.aC T.aC mp)(EA:11<g.bl)(oH:g.bl≤20)(hN:N≤100000)(hB:B≤90000)(hs:Seq K F S q 1 (av .u8 sd))(h8:aA 256 sd)(hq:q≤1000000)(hqc:q≤cs)(hd:ajm K F D k ds)(hdc:∀p∈ds,p.m≤p.cap)(hk:k≤1000) :
 aB prog 51 #[ptr bs 0,.slice S q cs,.slice D k kd] K (C.A bc::dA bd bc g::T.A bs bd g::F) (λv H'=>∃(C':Cw) (T':bZ),C'.Ok∧C'.g=g∧T'.Ok g∧C'.aC.aO=C.aC.aO∧v= .i (acF g.cap sd (ds.map Bs.l)) ∧
  (∃(B':Nat) (N':Int),jg 11 11 B' N' C'.aC T'.aC (if acF g.cap sd (ds.map Bs.l)=0 then acn mp (acv (stM mp) sd (ds.map Bs.l)) else mp)∧B'≤B+6∧N'≤N+126)∧H'=C'.A bc::dA bd bc g::T'.A bs bd g::F):=by
 have dL:=hF.lK aN;have Dv:=qw mp;obtain⟨x,hx⟩:∃x,x=stM mp:=⟨_,Z⟩;rw[←hx] at dL Dv ⊢;have x6:11≤(T.stands.length:Int):=by
  obtain⟨u3,ZH⟩:=hF.si;have u:T.stands.length=11:=ZH.len;rw[u];decide
 obtain⟨R,hR⟩:∃R,R=acF g.cap sd (ds.map Bs.l):=⟨_,Z⟩;rw[←hR];refine aB.aaG func51 Z ntmps51 Z ?_;simp only[kV,reduceAdd];refine aj "a~k" λb3=> ?_;refine aj "v" λb6=> ?_;refine aj "Q<" ?_;refine WL.sub (H':=C.A bc::dA bd bc g::T.A bs bd g::ah b6 32 [.i 0]::ah b3 28 [ptr bs 0]::F) (Sub.refl _) (λw h=>h.bg 5 [2,3,4,0,1] Z) ?_;refine WL.c1 call48 Z (ac3 hC hg hT x6 dL Dv) Z ?_;rintro _ _ ⟨T1,oZ,t1,rfl,rfl⟩;refine aj "Hfu27<xb" ?_;refine WL.c4 call111 Z Z Z Z (ajp (x:=x) (ds:=ds) (sd:=sd) hC hg oZ (by
  have h2:T1.stands=T.stands:=congrArg St.stands t1;rw[h2];exact x6) (by rw[t1];exact dL) Dv hs.up.up h8 hq hqc hd.up.up hdc hk) Z ?_
 rintro z5 y4 ⟨T2,BH,t2,alJ⟩;rw[←hR] at alJ;obtain⟨a,e,W,X,rfl,Q,z6,acH⟩:∃(a:Option Addr) (e:Nat) (W:List (Int×Bs)) (X:aH),z5= .tuple #[.slice a W.length e,.i R]∧W.map (λp=>(p.1,p.2.l))=(if R=0 then acv x sd (ds.map Bs.l) else []).reverse∧(∀p∈W,Seq K (X::ah b6 32 [.i 0]::ah b3 28 [ptr bs 0]::F) p.2.A p.2.m 1 (av .u8 p.2.l)∧aA 256 p.2.l∧p.2.m≤p.2.cap)∧∀w,Sat K w y4→Sat K w (C.A bc::dA bd bc g::T2.A bs bd g::aV (.slice a W.length e) 190 2 W.length (W.flatMap wrC)::X::ah b6 32 [.i 0]::ah b3 28 [ptr bs 0]::F):=by
  rcases alJ with ⟨O,J,k3⟩ | ⟨O,a,e,W,b,J,k3,k4,Y⟩
  ·exact⟨none,0,[],bK [],J,by rw[if_neg O];rfl,λp hp=>(by cases hp),λw h=>by
    rw[k3] at h;exact (Sat.all (l:=[]) (h.gI 190 2)).bg 5 [2,3,4,1,0] Z⟩
  ·exact⟨a,e,W,_,by rw[k3,O],by rw[if_pos O];exact J,k4,λw h=>by rw[Y] at h;exact h⟩
 refine WL.sub (Sub.refl _) acH ?_;obtain⟨L,hL⟩:∃L,L=if R=0 then acv x sd (ds.map Bs.l) else []:=⟨_,Z⟩
 rw[←hL] at Q;have y5:W.length=L.length:=by have :=congrArg List.length Q;simpa using this
 have u1:L.length≤6:=by
  rw[hL];split
  ·rename_i h;have :=(afC (hR.symm.trans h)).1;rw[agp];omega
  ·exact zero_le _
 refine aj "Hf" ?_;refine WL.c1 call112 Z (ahO) Z ?_;rintro _ _ ⟨KR,rfl,rfl⟩;refine aj "cs" ?_;obtain⟨G,hG⟩:∃G:Cw×bZ→List aH,G=λs=>ah KR 183 [.slice a W.length e]::s.1.A bc::dA bd bc g::s.2.A bs bd g::aV (.slice a W.length e) 190 2 W.length (W.flatMap wrC)::X::ah b6 32 [.i 0]::ah b3 28 [ptr bs 0]::F:=⟨_,Z⟩;obtain⟨I,hI⟩:∃I:Nat→Cw×bZ→Prop,I=λi s=>s.1.Ok∧s.1.g=g∧s.2.Ok g∧s.1.aC.aO=C.aC.aO∧jg 11 11 (B+(L.length-i)) (N+21*((L.length-i:Nat):Int)) s.1.aC s.2.aC (acn mp (L.take (L.length-i))):=⟨_,Z⟩;refine WC.range (gf:=178) (lb:=[ptr KR 0]) (Done:=λP=>∃s,I 0 s∧P=G s) (X:=λc P=>False) Z call178 (λr l e1 e2 e3 hA=> ?_) (λD' P ZB=> ?_) (λD' c P Wz=>Wz.elim);have UW:∀ {i:Nat} {p:Int×Bs},W[i]? =some p→∀q v,(wrC p)[q]? =some v→∀H,Rd K (aV (.slice a W.length e) 190 2 W.length (W.flatMap wrC)::H) (a.map (·.add (i*2+q))) v:=λ{i p} hp q v hv H=>(aV.seq (rW (f:=wrC) (s:=2) (λ_=>Z) W)).rd _ _ (JK (f:=wrC) (s:=2) (λ_=>Z) W i q p v hp hv);have L9:∀j,j<W.length→W[j]? =some (W.getD j (0,⟨none,0,0,[]⟩)):=λj hj=>by rw[getD,getElem?_eq_getElem ay];rfl
 suffices Ba:∀j s,j<W.length→I (j+1) s→jY prog K none l #[.i (j:Int),.agg (wrC (W.getD j (0,⟨none,0,0,[]⟩))).toArray] (r.A l .ready none::jT r.D::G s) (λb H'=>(b=true∧∃s',I j s'∧H'=r.A l .ready none::jT r.D::G s')∨(b=false∧False)) from by
  have u:=ah3 (K:=K) (A:=a) (n:=W.length) (cap:=e) (l:=l) (b1:=KR) (Y1:=r.A l .ready none) (Y2:=jT r.D) (cs:=λj=>wrC (W.getD j (0,⟨none,0,0,[]⟩))) G I (λ_=>False) ay (λs=>by rw[hG];exact (Rd.here Z).up.up) (λj=>Z) (λj s hj q v hq=>by rw[hG];repeat (first | exact UW (L9 j hj) q v hq _ | apply Rd.up)) Ba (s0:=(C,T2)) (by
   rw[hI];refine⟨hC,hg,BH,Z, ?_⟩;dsimp only;rw[←y5,Nat.sub_self,take_zero,t2,t1]
   simpa [acn] using hF)
  rw[hG] at u;exact u.mono λv H' h=>by
   rcases h with ⟨s,u,h2⟩ | h
   ·exact⟨none,_,h2,s,u,by rw[hG]⟩
   ·exact h.elim
 rintro j ⟨C1,T3⟩ hj x8;obtain⟨p,hp⟩:∃p,p=W.getD j (0,⟨none,0,0,[]⟩):=⟨_,Z⟩;have x5:W[j]? =some p:=by rw[hp];exact L9 j hj
 rw[←hp];obtain⟨O,J,k3,k4,Y⟩:C1.Ok∧C1.g=g∧T3.Ok g∧C1.aC.aO=C.aC.aO∧jg 11 11 (B+(L.length-(j+1))) (N+21*((L.length-(j+1):Nat):Int)) C1.aC T3.aC (acn mp (L.take (L.length-(j+1)))):=by rw[hI] at x8;exact x8
 refine jY.mono (CS (n:=43) (args:=[.i (j:Int),.agg (wrC p).toArray]) (post:=λjj P=>jj=none∧∃s',I j s'∧P=jT r.D::G s') (by rw[e1];rfl) (by rw[e1];simp) hA ?_) (λb2 H' ⟨jj,P,oH,⟨x9,s',z0,y3⟩,eH⟩=> .inl ⟨by rw[oH,x9];rfl,s',z0,by rw[eH,x9,y3];rfl⟩);rw[e1,e2];refine WC.sub (E:=(32,_)::(31,_)::_) (H':=r.A l .ready none::jT r.D::(λs:Cw×bZ=>ah KR 183 [.slice a W.length e]::s.1.A bc::dA bd bc g::s.2.A bs bd g::aV (.slice a W.length e) 190 2 W.length (W.flatMap wrC)::X::ah b6 32 [.i 0]::ah b3 28 [ptr bs 0]::F) (C1,T3)) (Sub.refl _) (λw h=>by rw[hG] at h;exact h) ?_;dsimp only
 ·skip
  refine aj "pv" λu2=> ?_;refine aj "~.c" ?_;refine⟨_,λw h=>h.bg 2 [1,0] Z, ?_⟩;rw[e3];obtain⟨q1,q2,q3⟩:=z6 p (mem_of_getElem? x5);have l7:p.2.l.length=p.2.m:=by have :=q1.len;rwa [au,Nat.mul_one] at this
  have U:L[L.length-(j+1)]? =some (p.1,p.2.l):=by
   have u:(W.map (λp=>(p.1,p.2.l)))[j]? =some (p.1,p.2.l):=by rw[getElem?_map,x5];rfl
   rw[Q,getElem?_reverse ay] at u;rw[←u];congr 1;omega
  have x3:R=0:=by
   by_cases h:R=0
   ·exact h
   ·have h2:L.length=0:=by rw[hL,if_neg h];rfl
    omega
  have x4:L=acv x sd (ds.map Bs.l):=by rw[hL,if_pos x3]
  obtain⟨y1,y2⟩:=afC (hR.symm.trans x3);obtain⟨i0,wR,x0⟩:=alN Dv y1 (x4 ▸ mem_of_getElem? U);dsimp only at x0;have yO:g.aU:=by rw[←hg];exact hC.aU
  have FR:=bQ.vL yO;have kS:(p.2.l.length:Int)≤g.cap:=by
   have u:=agG (x:=x) (acI Dv).1 (show 9≤g.cap by omega) sd (ds.map Bs.l);rw[y2] at u;have h2:=List.any_eq_false.1 u (p.1,p.2.l) (x4 ▸ mem_of_getElem? U)
   simpa using h2
  obtain⟨z9,y0⟩:=Y.si;have x2:C1.aC.g=g:=J;obtain⟨z1,z2,z3⟩:=Y.change (by rw[x2];omega) (by rw[x2];omega) ay wR wR ay q2 (by rw[x2];exact kS);have z4:=pK C1.aC T3.aC (i0:Int) p.2.l;rw[←x0] at z1 z2 z3 z4;refine aj "sa<kk" ?_;refine WL.sub (Sub.refl _) (λw h=>h.bg 7 [4,5,6,0,1,2,3] Z)<|WL.c3 call16 Z Z Z (Da (d:=p.2.l) O J k3 (by repeat (first | exact q1 | apply Seq.up)) q2 q3 ay (λl' Dp=>Nat.le_trans (y0.Y9 l' Dp) ay)) Z ?_;rintro u0 _ ⟨y,T5,z7,g5,y6,s5,t5,x7,rfl⟩;rw[z1] at x7;subst x7;rw[←s5,←t5] at z3;rw[←s5] at z4;refine aj "iu2q" ?_;refine⟨_,λw h=>h.bg 7 [3,5,6,0,1,2] Z,Z,(y,T5), ?_,by rw[hG];rfl⟩;rw[hI];refine⟨z7,g5,y6,z4.trans k4, ?_⟩;dsimp only;have e1:L.length-j=L.length-(j+1)+1:=ay;have e2:L.take (L.length-j)=L.take (L.length-(j+1))++[(p.1,p.2.l)]:=by rw[e1,take_add_one,U];rfl
  rw[e2,adh,acn,acn,e1,x0,Int.toNat_natCast];rw[show N+21*((L.length-(j+1)+1:Nat):Int)=N+21*((L.length-(j+1):Nat):Int)+21 by omega,←Nat.add_assoc];exact z3
 ·skip
  obtain⟨⟨y,T5⟩,ZH,rfl⟩:=ZB;obtain⟨O,J,k3,k4,Y⟩:y.Ok∧y.g=g∧T5.Ok g∧y.aC.aO=C.aC.aO∧jg 11 11 (B+(L.length-0)) (N+21*((L.length-0:Nat):Int)) y.aC T5.aC (acn mp (L.take (L.length-0))):=by rw[hI] at ZH;exact ZH
  rw[Nat.sub_zero,take_length] at Y;refine WC.sub (H':=jT D'::(λs:Cw×bZ=>ah KR 183 [.slice a W.length e]::s.1.A bc::dA bd bc g::s.2.A bs bd g::aV (.slice a W.length e) 190 2 W.length (W.flatMap wrC)::X::ah b6 32 [.i 0]::ah b3 28 [ptr bs 0]::F) (y,T5)) (Sub.refl _) (λw h=>by rw[hG] at h;exact h) ?_;dsimp only;refine aj "e~+6" ?_;exact mZ.agu (H':=y.A bc::dA bd bc g::T5.A bs bd g::F) _ cO (bJ.one Z (R1.JH Z isAgg32 lD)) (λw h=>h.bg 8 [1,2,3] Z) ⟨y,T5,O,J,k3,k4,Z,⟨_,_,by
   have h6:acn mp L=if R=0 then acn mp (acv x sd (ds.map Bs.l)) else mp:=by rw[hL];split<;>rfl
   rw[←h6];exact Y,by omega,by omega⟩,Z⟩
end
section
variable{K:World}{F:List aH}{A L:Option Addr}{m cap k kc:Nat}
def aiM(b:Bool)(A:Option Addr)(m c:Nat)(cs:List Value):List aH:=if b then [aV (.slice A m c) 5 1 m cs] else []
theorem alF{Mo:Sl.Mode}{n d:Nat}{Q:iX}{e:Env}{ops:Array Oper}{rest:List Oper}{ty:TypeId}{pos:String}{af:Array Edge}{b:Bool}{x y:Operand}{X:aH}{A Y:Option Addr}{m cap c':Nat}{cs news:List Value}(hx:OV true e x (.slice A m cap))(hy:OV true e y (.slice Y 4 c'))(hs:b=false→Seq K F A m 1 cs∧cap=m∧0<m)(hn:∀H,Seq K (X::H) Y 4 1 news)(h1:∀u∈news,u.oneCell'=true)(hm:m≤1000000)
 (h:∀A cap,WL Mo prog K n ops rest Q ((d,.slice A (m+4) cap)::e) (aiM true A (m+4) cap (cs++news)++F)) (hd:blt d n=true:=by rfl) :
 WL Mo prog K n ops (⟨some d,.call ⟨.builtin .append,#[x,y],#[34,34]⟩,ty,pos,af,none⟩::rest) Q e (X::(aiM b A m cap cs++F)):=by
 cases b with
 | false =>
  obtain⟨r,I,G⟩:=hs Z;exact WL.D7 (m:=m) (q:=4) (cs:=cs) (news:=news) underlying34 yL hx hy r.up (hn _) ay G aN ay Z hd (λj c1 _ _=>WL.sub (Sub.refl _) (λw a=>a.bg 2 [0] Z) (h j c1))
 | true=>exact WL.sub (H':=aV (.slice A m cap) 5 1 m cs::X::F) (Sub.refl _) (λw a=>a.bg 2 [1,0] Z) (WL.append (m:=m) (q:=4) (news:=news) underlying34 yL hx hy (hn _) h1 ay Z hd (λj c1 _ _=>WL.sub (Sub.refl _) (λw a=>a.bg 2 [0] Z) (h j c1)))
theorem ah7{b:Bool}{cs:List Value}{l:List Int}(hq:Seq K F L k 1 (ints .i64 l))(hm:m+4*k≤1000000)(hk:0<k)(hb:b=false→Seq K F A m 1 cs∧cap=m∧0<m) :
 aB prog 236 #[.slice A m cap,.slice L k kc] K (aiM b A m cap cs++F) (λv H'=>∃A' c',v= .slice A' (m+4*k) c'∧H'=aV (.slice A' (m+4*k) c') 5 1 (m+4*k) (cs++l.flatMap J8)::F):=by
 have O:l.length=k:=by have :=hq.len;rwa [bR,Nat.mul_one] at this
 have d:∀ {b':Bool} {A':Option Addr} {m' c':Nat} {cs':List Value} {a:Option Addr} {v:Value},Rd K F a v→Rd K (aiM b' A' m' c' cs'++F) a v:=λ{b'} {A' m' c' cs' a v} h=>by
  cases b'
  ·exact h
  ·exact h.up
 refine aB.en func236 ntmps236 ?_;refine aj "afjR" ?_;refine WC.loop (σ:=Nat×Option Addr×Nat) (λs=>[(0,.slice s.2.1 (m+4*s.1) s.2.2),(7,.slice L k kc),(8,.i (k:Int)),(9,.i (s.1:Int))]) (λs=>aiM (b||decide (0<s.1)) s.2.1 (m+4*s.1) s.2.2 (cs++(l.take s.1).flatMap J8)++F) (λs=>s.1≤k∧(s.1=0→s.2.1=A∧s.2.2=cap)) (λs=>k-s.1)
  (0,A,cap) ⟨zero_le _,λ_=>⟨Z,Z⟩⟩ bC (λw h=>by simpa using h) ?_
 rintro⟨i,A1,c1⟩ ⟨hi,wR⟩;dsimp only at hi wR ⊢;refine aj "VJ" (aW (λj=> ?_) λj=> ?_)
 ·simp only[cZ] at j;have e:i<k:=ay;obtain⟨n,u⟩:∃n,l[i]? =some n:=⟨_,getElem?_eq_getElem ay⟩;have r:Rd K F (L.map (·.add ((i:Int).toNat*1))) (.i n):=by rw[Int.toNat_natCast,Nat.mul_one];exact hq.rd i _ (by unfold ints;rw[getElem?_map,u];rfl)
  refine aj "Ea" ?_;refine WL.val (V.dw eB (ak Z) (ak Z) (λ_=>by omega) (λ_=>d r)) Z ?_;refine WL.val (V.load isAgg3 (ak Z) (λ_=>d r)) Z ?_;refine aj "Ob~mb~6~mb~6~mb~6~m" ?_;refine WL.buildSlice (E:=5) (cs:=[_,_,_,_]) (vs:=[(0,_),(1,_),(2,_),(3,_)]) ⟨ak Z,ak Z,ak Z,ak Z,trivial⟩ Z (fJ _ _ _ _) Z (λy=> ?_);refine alF (b:=b||decide (0<i)) (A:=A1) (cap:=c1) (m:=m+4*i) (news:=J8 n) (ak Z) (ak Z) (λh=>by
   simp only[Bool.or_eq_false_iff,decide_eq_false_iff_not,Nat.not_lt] at h;obtain⟨J,I,x⟩:=hb h.1;obtain rfl:i=0:=by omega
   obtain⟨rfl,rfl⟩:=wR Z
   simpa using ⟨J,I,x⟩) (λH=>Seq.all Z) (Ry _) ay (λG c2=> ?_)
  refine aj "o8" ?_;refine⟨(i+1,G,c2),⟨e,λh=>by cases h⟩,(by show k-(i+1)<k-i;omega),.cons Z bC,λw h=> ?_⟩;dsimp only;rw[show (b||decide (0<i+1))=true by simp,take_add_one,u,flatMap_append];rw[append_assoc,show m+4*i+4=m+4*(i+1) by omega] at h
  simpa using h
 ·simp only[cZ] at j;refine aj "Ked" ?_;obtain rfl:i=k:=by omega
  exact qR (aV (.slice A1 (m+4*i) c1) 5 1 (m+4*i) (cs++l.flatMap J8)::F) Z Z (λw h=>by rw[take_of_length_le ay,show (b||decide (0<i))=true by simp[hk]] at h;exact h) ⟨A1,c1,Z,Z⟩
theorem alC{M:sI}{b n:Nat}{C:aH}(hs:JR K F A n M.gH)(hn:n≤1000000):pF prog 235 #[ptr b 0] K (C::ah b 42 [.i M.ver,.i M.sec,.i M.key,.i M.yS,.slice A n cap]::F) Gc
 (λv H'=>∃H2,H'=C::H2∧M.ok=true∧H2=ah b 42 [.i M.ver,.i M.sec,.i M.key,.i M.yS,.slice A n cap]::F) (λH'=>∃H2,H'=C::H2∧M.ok=false∧H2=ah b 42 [.i M.ver,.i M.sec,.i M.key,.i M.yS,.slice A n cap]::F):=by
 refine aB.Er func235 Z ntmps235 Z ?_;simp only[kV,reduceAdd];refine aj "py" ?_;refine WL.jG (vs:=[_]) call141 ⟨ak Z,trivial⟩ (Xz (M:=M) (A:=A) (m:=n) hs.up.up hn) Z ?_ ?_
 ·rintro _ ⟨a,rfl⟩;exact⟨Z,Z,_,λw h=>h,_,Z,a,Z⟩
 rintro _ _ ⟨a,rfl,rfl⟩;refine WL.nil ?_;exact⟨Z,_,_,bJ.none Z,λw h=>h,_,Z,a,Z⟩
end
def adw(s:yP):List Nat:=MN s.load++MN s.bytes++s.bG
def Al(M:sI):List Nat:=[109,97,110,105]++[M.ver,M.sec,M.key,M.yS,(M.gH.length:Int)].flatMap MN++M.gH.flatMap adw
theorem acT:∀ {l:List Int},(∀n∈l,0≤n)→l.flatMap J8=av .u8 (l.flatMap MN)
 | [],_=>rfl
 | n::l,h=>by rw[flatMap_cons,flatMap_cons,dx,D5 (h n (.head _)),acT (λx hx=>h x (.tail _ hx))]
theorem ag2:∀ {l:List yP} {e:Int},Q9 e l=true→∀s∈l,0≤s.load∧0≤s.bytes∧s.bytes≤1048576
 | [],_,_,_,h=>by cases h
 | x::l,e,h,s,hs=>by
  rw[Q9] at h;simp only[Bool.and_eq_true,all_cons,all_nil,Bool.and_true,Cy,decide_eq_true_eq] at h;rcases mem_cons.1 hs with rfl | hs
  ·exact⟨h.1.1.1.1,h.1.1.2.1,h.1.2.1.1⟩
  ·exact ag2 h.2 s hs
theorem sI.al2{M:sI}(h:M.ok=true):(∀n∈[M.ver,M.sec,M.key,M.yS,(M.gH.length:Int)],0≤n)∧M.gH.length≤8∧∀s∈M.gH,0≤s.load∧0≤s.bytes∧s.bytes≤1048576:=by
 unfold sI.ok at h;simp only[Bool.and_eq_true,all_cons,all_nil,Bool.and_true,Cy,decide_eq_true_eq] at h;refine⟨λn a=> ?_,h.1.2,ag2 h.2⟩;simp only[mem_cons,not_mem_nil,or_false] at a;rcases a with rfl | rfl | rfl | rfl | rfl<;>omega
theorem ai8{l:List yP}(h:∀s∈l,s.Ok):(l.flatMap adw).length=40*l.length:=by
 induction l with
 | nil=>rfl
 | cons s l ih =>
  rw[flatMap_cons,length_append,ih (λx a=>h x (.tail _ a)),length_cons];have :(adw s).length=40:=by unfold adw;rw[length_append,length_append,(h s (.head _)).len];rfl
  omega
theorem acY{M:sI}(h:∀s∈M.gH,s.Ok):(Al M).length=24+40*M.gH.length:=by
 unfold Al;rw[length_append,length_append,ai8 h];rfl
section
variable{K:World}{F:List aH}{A:Option Addr}{cap n:Nat}{M:sI}
theorem aio(hs:JR K F A n M.gH)(hn:n≤1000000):aB prog 180 #[.agg #[.i M.ver,.i M.sec,.i M.key,.i M.yS,.slice A n cap]] K F
 (λv H'=>(M.ok=true∧∃A' c',v= .tuple #[.slice A' (24+40*n) c',.i 0]∧H'=aV (.slice A' (24+40*n) c') 5 1 (24+40*n) (av .u8 (Al M))::F)∨(M.ok=false∧v= .tuple #[.slice none 0 0,.i 1]∧H'=F)):=by
 have I:=hs.len;refine aB.en func180 ntmps180 ?_;refine aj "a&" λb1=> ?_;refine aj "lta~2" ?_;refine WL.c1 call136 Z (LA (cap:=[ptr b1 0]) call235 (λC=>alC (C:=C) (M:=M) (n:=n) hs hn)) Z ?_;rintro ok _ jh;obtain⟨rfl,rfl⟩:ok= .bool M.ok∧_=_:=by
  rcases jh with ⟨a,d,W⟩ | ⟨a,d,W⟩
  ·exact⟨by rw[a,d],W⟩
  ·exact⟨by rw[a,d],W⟩
 refine aj "9h" (aW (λr=> ?_) λr=> ?_)
 ·simp only[Bool.not_eq_true',Bool.not_eq_false'] at r;refine aj "aF" ?_;exact aF.ret (H':=F) (bJ.eU Z Z Z) (λw h=>h.drop 1) (.inr ⟨r,Z,Z⟩)
 ·simp only[Bool.not_eq_true',Bool.not_eq_false'] at r;obtain⟨U,h8,Zd⟩:=sI.al2 r;refine aj "7" ?_;refine WL.buildSlice (E:=5) (cs:=[_,_,_,_]) (vs:=[(0,_),(1,_),(2,_),(3,_)]) ⟨ak Z,ak Z,ak Z,ak Z,trivial⟩ Z (fJ _ _ _ _) Z (λx7=>aj "~~kkkkkkj" ?_);refine WL.buildSlice (E:=3) (cs:=[_,_,_,_,_]) (vs:=[(0,_),(1,_),(2,_),(3,_),(4,_)]) ⟨ak Z,ak Z,ak Z,ak Z,ak Z,trivial⟩ Z (aco _ _ _ _ _) Z (λx2=>WL.c2 call236 Z Z (ah7 (b:=false) (cs:=[.int .u8 109,.int .u8 97,.int .u8 110,.int .u8 105]) (l:=[M.ver,M.sec,M.key,M.yS,(n:Int)]) (m:=4) (k:=5) (Seq.all Z) aN aN (λ_=>⟨(Seq.agX Z).up,Z,by decide⟩)) Z ?_);rintro _ _ ⟨x0,R,rfl,rfl⟩;rw[acT (λx y=>U x (by rw[I];exact y))];refine aj "takjR" ?_;obtain⟨O,H⟩:∃O,O=[109,97,110,105]++[M.ver,M.sec,M.key,M.yS,(n:Int)].flatMap MN:=⟨_,Z⟩;refine WC.loop (σ:=Nat×Option Addr×Nat) (λs=>[(1,ptr b1 0),(4,.slice s.2.1 (24+40*s.1) s.2.2),(26,.slice A n cap),(27,.i (n:Int)),(28,.i (s.1:Int))]) (λs=>aV (.slice s.2.1 (24+40*s.1) s.2.2) 5 1 (24+40*s.1) (av .u8 (O++(M.gH.take s.1).flatMap adw))::F) (λs=>s.1≤n) (λs=>n-s.1)
   (0,x0,R) (zero_le _) bC (λw h=>by rw[H,take_zero,flatMap_nil,append_nil,dx];exact h.bg 4 [0] Z) ?_
  rintro⟨i,A1,c1⟩ P;dsimp only at P ⊢;refine aj "VJ" (aW (λa=> ?_) λa=> ?_)
  ·simp only[cZ] at a;have Q:i<n:=ay;obtain⟨s,ZJ⟩:∃s,M.gH[i]? =some s:=⟨_,getElem?_eq_getElem ay⟩;have nS:=mem_of_getElem? ZJ;have UU:=hs.ok s nS;have mR:=yP.dB UU;obtain⟨x6,uM,pI⟩:=Zd s nS;have UW:∀j v,s.cells[j]? =some v→Rd K F (A.map (·.add (i*34+j))) v:=λj v X=>hs.seq.rd _ _ (rY M.gH (λx y=>yP.dB (hs.ok x y)) i j s v ZJ X);have Bv:(i:Int).toNat=i:=ay;refine aj "Ea" ?_;refine WL.val (V.aG (v':=sp A (i*34)) (V.dw akq (ak Z) (ak Z) (λhc=>by omega) (λhc=>by rw[Bv];exact (UW 0 _ Z).up)) (λ_=>by rw[Bv])) Z ?_;refine WL.val (V.tX (vs:=s.cells) ⟨isAgg140,sizeOf140⟩ (ak Z) mR aN (λ_ j v X=>(UW j v X).up)) Z ?_;refine aj "v" λe=> ?_;refine WL.store (cs:=s.cells) sizeOf140 (ak Z) (ak Z) Z mR (yP.one s) (bT.whole (by rw[mR];rfl)) ?_;have Y:∀H':List aH,Seq K (ah e 140 s.cells::H') (some ⟨e,2,none⟩) 32 1 (av .u8 s.bG):=λH'=>⟨by rw[au,UU.len],λi v P=>by
    have h7:Rd K (ah e 140 s.cells::H') (some ⟨e,2+i,none⟩) v:=Rd.here (by
     show (Value.int .i64 s.load:: .i s.bytes::av .u8 s.bG)[2+i]? =some v;rw[show 2+i=i+1+1 by omega,getElem?_cons_succ,getElem?_cons_succ];exact P)
    simpa [jM] using h7⟩
   refine WL.nil<|WC.sub (Sub.refl _) (λw h=>h.bg 2 [1,0] Z)<|WC.dM (ah e 140 s.cells::F) (by kernel_rfl)<|aj "n041" ?_;refine WA.t 2 Z (V.load (v:= .i s.load) isAgg3 (ak Z) (λ_=>Rd.here Z)) ?_;refine aj "43" ?_;refine WA.t 4 Z (V.load (v:= .i s.bytes) isAgg3 (ak Z) (λ_=>Rd.here Z)) ?_;refine aj "47" ?_;refine WA.t 8 Z (V.aG (v':= .slice (some ⟨e,2,none⟩) 32 32) (V.qM (l:=0) (h:=32) (u:=32) (m:=32) zJ (ak Z) OO.none OO.none OO.none (by simp) aN aN aN) (λ_=>by simp)) ?_;refine WA.o 5 Z ?_;refine WL.buildSlice (E:=3) (cs:=[_,_]) (vs:=[(0,_),(1,_)]) ⟨ak Z,ak Z,trivial⟩ Z (p9 _ _) Z (λx3=>aj "cm6~9" ?_);refine WL.c2 call236 Z Z (ah7 (b:=true) (l:=[s.load,s.bytes]) (m:=24+40*i) (k:=2) (Seq.all Z) ay aN (λh=>by cases h)) rfl ?_;rintro _ _ ⟨x4,x5,rfl,rfl⟩;refine aj "cm9" ?_;refine WL.append (m:=24+40*i+4*2) (q:=32) (news:=av .u8 s.bG) underlying34 yL (ak Z) (ak Z) (Y _).up (jB _ _) ay Z Z (λJ G avU awQ=>aj "c~A:~r8" ?_);refine⟨(i+1,J,G),Q,(by show n-(i+1)<n-i;omega),.cons Z (.cons (look_eq Z (by dsimp only;rw[show 24+40*(i+1)=24+40*i+4*2+32 by omega])) bC),λw h=> ?_⟩;have d:Sat K w (aV (.slice J (24+40*i+4*2+32) G) 5 1 (24+40*i+4*2+32) (av .u8 (O++(M.gH.take i).flatMap adw)++[s.load,s.bytes].flatMap J8++av .u8 s.bG)::F):=h.bg 3 [0] Z;dsimp only;rw[acT (λx y=>by simp only[mem_cons,not_mem_nil,or_false] at y;rcases y with rfl | rfl<;>assumption),←dx,←dx] at d;rw[show 24+40*(i+1)=24+40*i+4*2+32 by omega,take_add_one,ZJ,flatMap_append]
   simpa [adw,append_assoc] using d
  ·simp only[cZ] at a;refine aj "KeF" ?_;obtain rfl:i=n:=by omega
   refine aF.ret (H':=aV (.slice A1 (24+40*i) c1) 5 1 (24+40*i) (av .u8 (Al M))::F) (bJ.eU Z Z Z) (λw h=> ?_) (.inl ⟨r,A1,c1,Z,Z⟩);rw[take_of_length_le ay,H] at h;unfold Al;rw[I];exact h
end
def aeD(s:yP)(d:List Nat):yP:=⟨s.load,d.length,sum256 d⟩
def aeU(M:sI)(ds:List (List Nat)):sI:=⟨M.ver,M.sec,M.key,M.yS,List.zipWith aeD M.gH ds⟩
def Xc(seed:Nat)(b:List Nat):List Nat:=b++(bG 256 32 (Vg seed b).1++bG 256 32 (Vg seed b).2)
theorem aeH{M:sI}(h:∀s∈M.gH,s.Ok):aA 256 (Al M):=λx b=>by
 unfold Al at b;rcases mem_append.1 b with b | b
 ·rcases mem_append.1 b with b | b
  ·exact (show aA 256 [109,97,110,105] by unfold aA;decide) x b
  ·obtain⟨n,_,a⟩:=mem_flatMap.1 b;exact DF n x a
 ·obtain⟨s,d,a⟩:=mem_flatMap.1 b;unfold adw at a;rcases mem_append.1 a with a | a
  ·rcases mem_append.1 a with a | a<;>exact DF _ x a
  ·exact (h s d).small x a
theorem agm(s:yP)(d:List Nat):(aeD s d).Ok:=⟨JB d,afz d⟩
section
variable{K:World}{F:List aH}{A L:Option Addr}{n cap k kc:Nat}
theorem ahL{l:List yP}(hs:JR K F A n l)(hn:n≤1000)(h0:0<n):aB prog 179 #[.slice A n cap] K F (λv H'=>∃A' c',v= .slice A' n c'∧H'=aV (.slice A' n c') 140 34 n (l.flatMap yP.cells)::F):=by
 have a:=hs.seq.len;have att:∀u∈l.flatMap yP.cells,u.oneCell'=true:=λu e=>by
  obtain⟨x,_,r⟩:=mem_flatMap.1 e;exact all_eq_true.1 (yP.one x) u r
 refine aB.lG (p:=A=none→l.flatMap yP.cells=[]) (λw d b=>by subst b;exact hs.seq.Rb d) (λRB=>aB.en func179 ntmps179 ?_);refine aj "af~~@h" (aW (λaL=> ?_) λaL=> ?_)
 ·skip
  have b:A=none:=by cases A<;>simp at aL ⊢
  rw[RB b,length_nil] at a;refine aj "D" ?_;exact absurd a ay
 ·skip
  refine aj "7" ?_;refine WL.buildSlice (E:=140) (cs:=[]) (vs:=[]) trivial Z (alE ) Z (λG=>WL.mv Z Z<|WL.sub (Sub.refl _) (λw h=>Sat.BX (m:=0) (cap:=0) (s:=34) h Z (Nat.le_refl _) (zero_le _))<|WL.append (m:=0) (cs:=[]) underlying40 aj1 (ak Z) (ak Z) (by repeat (first | exact hs.seq | apply Seq.up)) att ay Z Z (λA' c' y j=>aj "d" ?_));refine aF.ret (H':=aV (.slice A' n c') _ 34 n (l.flatMap yP.cells)::F) (bJ.tmp Z (look_eq Z (by simp))) (λw h=> ?_) ⟨A',c',Z,Z⟩
  simpa using h
theorem ahH{seed:Nat}{M:sI}{ds:List Bs}{D:Option Addr}(hs:JR K F A n M.gH)(hn:n≤1000)(h0:0<n)(hd:ajm K F D n ds):aB prog 114 #[o8 seed,.agg #[.i M.ver,.i M.sec,.i M.key,.i M.yS,.slice A n cap],.slice D n kc] K F
 (λv H'=>((aeU M (ds.map Bs.l)).ok=true∧∃A' c',v= .tuple #[.slice A' (24+40*n+64) c',.i 0]∧H'=aV (.slice A' (24+40*n+64) c') 5 1 (24+40*n+64) (av .u8 (Xc seed (Al (aeU M (ds.map Bs.l)))))::F)∨((aeU M (ds.map Bs.l)).ok=false∧v= .tuple #[.slice none 0 0,.i 1]∧H'=F)):=by
 have wF:ds.length=n:=by have :=hd.seq.len;rwa [length_map,Nat.mul_one] at this
 have Oa:=hs.len;refine aB.en func114 ntmps114 ?_;refine aj "a." λb3=> ?_;refine aj "&" λW=> ?_;refine aP "lfjX~4j~~~c27X~4" ?_;refine WL.c1 call179 Z (ahL hs.up.up hn h0) Z ?_;rintro _ _ ⟨A2,c2,rfl,rfl⟩;refine aj "X~ZcrjR" ?_;obtain⟨Zz,hZ⟩:∃Zz,Zz=List.zipWith aeD M.gH (ds.map Bs.l):=⟨_,Z⟩;have x3:Zz.length=n:=by rw[hZ,List.length_zipWith,length_map];omega
 refine WC.lG (p:=∃H,A2=some ⟨H,0,none⟩) (λw hw=>by
  have y:Sat K w (aV (.slice A2 n c2) 140 34 n (M.gH.flatMap yP.cells)::_):=hw;cases hA':A2 with
  | none=>rw[hA'] at y;have :=(aV.yM y).1;omega
  | some a=>rw[hA'] at y;obtain⟨gk,rfl⟩:=aV.addr y;exact⟨gk,Z⟩) (λx2=> ?_)
 obtain⟨H,rfl⟩:=x2;refine WC.loop (σ:=Nat×List yP) (λs=>[(2,.slice D n kc),(3,ptr b3 0),(4,ptr W 0),(24,.slice D n kc),(25,.i (n:Int)),(26,.i (s.1:Int))])
  (λs=>aV (.slice (some ⟨H,0,none⟩) n c2) 140 34 n (s.2.flatMap yP.cells)::ah W 42 [.i M.ver,.i M.sec,.i M.key,.i M.yS,.slice (some ⟨H,0,none⟩) n c2]::ah b3 97 (av .u8 (bG 256 32 seed))::F)
  (λs=>s.1≤n∧s.2.length=n∧(∀x∈s.2,x.Ok)∧(∀j,j<s.1→s.2[j]? =Zz[j]?)∧∀j,s.1≤j→s.2[j]? =M.gH[j]?) (λs=>n-s.1)
  (0,M.gH) ⟨zero_le _,Oa,hs.ok,λj R=>absurd R (not_lt_zero j),λ_ _=>Z⟩ bC cO ?_
 rintro⟨i,ss⟩ ⟨hi,mR,UU,L8,nD⟩;dsimp only at hi mR UU L8 nD ⊢;refine aP "a~lGJ" (aW (λh1=> ?_) λh1=> ?_)
 ·simp only[cZ] at h1;have x0:i<n:=ay;obtain⟨p,hp⟩:∃p,ds[i]? =some p:=⟨_,getElem?_eq_getElem ay⟩;obtain⟨qY,V4,Bw⟩:=hd.ok p (mem_of_getElem? hp);obtain⟨s,ZJ⟩:∃s,ss[i]? =some s:=⟨_,getElem?_eq_getElem ay⟩;have I:=UU s (mem_of_getElem? ZJ);have l7:p.l.length=p.m:=by have :=qY.len;rwa [au,Nat.mul_one] at this
  have U:Rd K F (D.map (·.add ((i:Int).toNat*1))) p.v:=by rw[Int.toNat_natCast,Nat.mul_one];exact hd.seq.rd i _ (by rw[getElem?_map,hp];rfl)
  have Bv:(i:Int).toNat=i:=ay;refine aj "Y" ?_;refine WL.val (V.dw adb (ak Z) (ak Z) (λ_=>by omega) (λ_=>by repeat (first | exact U | apply Rd.up))) Z<|WL.val (V.load isAgg34 (ak Z) (λ_=>by repeat (first | exact U | apply Rd.up))) Z<|aP "lwX~4b~uOxjb" ?_;refine WL.t1 call174 Z (T9 (data:=p.l) (by repeat (first | exact qY | apply Seq.up)) V4 ay) Z<|aj "U" ?_;refine WL.store (cs:=[_]) sizeOf3 (ak Z) (ak Z) Z Z Z (bT.slS (o:=0+i*34+1) ay) ?_;rw[show 0+i*34+1=i*34+1 by omega,E5 (f:=yP.cells) ss (λx G=>yP.dB (UU x G)) i 1 s ⟨s.load,(p.m:Int),s.bG⟩ _ ZJ aN Z];obtain⟨J,uM⟩:∃J:yP,J=⟨s.load,(p.m:Int),s.bG⟩:=⟨_,Z⟩;rw[←uM];have atc:J.Ok:=by rw[uM];exact⟨I.len,I.small⟩
  have aso:∀x∈ss.set i J,x.Ok:=λx G=>(mem_or_eq_of_mem_set G).elim (UU x) (λe=>e ▸ atc);have hy:aeD s p.l=⟨s.load,(p.m:Int),sum256 p.l⟩:=by unfold aeD;rw[l7]
  refine aj "U" ?_;refine WL.store (cs:=av .u8 (sum256 p.l)) sizeOf97 (ak Z) (ak Z) Z (by rw[au,JB]) (gP _ _) (bT.slL (o:=0+i*34+2) (by rw[au,JB];omega)) ?_;rw[show 0+i*34+2=i*34+2 by omega,aeE (f:=yP.cells) (s:=34) (ss.set i J) (λx G=>yP.dB (aso x G)) i 2 J (aeD s p.l) _ (by rw[getElem?_set_self ay]) (by rw[au,JB];decide) (by
   rw[hy,uM];unfold yP.cells;simp[au,JB,I.len]),set_set]
  refine aP "cp=>" ?_;refine⟨(i+1,ss.set i (aeD s p.l)),⟨x0,by rw[length_set];exact mR,λx G=>(mem_or_eq_of_mem_set G).elim (UU x) (λe=>e ▸ agm s p.l),λj R=> ?_,λj R=> ?_⟩,(by show n-(i+1)<n-i;omega),.cons Z bC,λw h=>h⟩
  ·dsimp only at R ⊢;rcases Nat.lt_or_ge j i with h | h
   ·rw[List.getElem?_set_ne ay];exact L8 j h
   ·obtain rfl:j=i:=by omega
    rw[getElem?_set_self ay,hZ,List.getElem?_zipWith,←nD j (Nat.le_refl _),ZJ,getElem?_map,hp];rfl
  ·dsimp only at R ⊢;rw[List.getElem?_set_ne ay];exact nD j ay
 ·simp only[cZ] at h1;refine aj "Kay" ?_;obtain rfl:i=n:=by omega
  obtain rfl:ss=Zz:=ext_getElem? λj=>by
   rcases Nat.lt_or_ge j i with h | h
   ·exact L8 j h
   ·rw[getElem?_eq_none ay,getElem?_eq_none ay]
  obtain⟨b,r⟩:∃b,b=aeU M (ds.map Bs.l):=⟨_,Z⟩;have d:b.gH=ss:=by rw[r,hZ];rfl
  rw[←r];refine WL.c1 call180 Z (by
   have h9:=aio (K:=K) (F:=aV (.slice (some ⟨H,0,none⟩) i c2) 140 34 i (ss.flatMap yP.cells)::ah W 42 [.i M.ver,.i M.sec,.i M.key,.i M.yS,.slice (some ⟨H,0,none⟩) i c2]::ah b3 97 (av .u8 (bG 256 32 seed))::F) (A:=some ⟨H,0,none⟩) (cap:=c2) (M:=b) (n:=i) ⟨by rw[d];exact aV.seq (by rw[rV ss (λx G=>yP.dB (UU x G)),mR]),by rw[d];exact mR,by rw[d];exact UU⟩ ay;rw[show b.ver=M.ver by rw[r];rfl,show b.sec=M.sec by rw[r];rfl,show b.key=M.key by rw[r];rfl,show b.yS=M.yS by rw[r];rfl] at h9;exact h9) Z ?_
  rintro Y P ata;obtain⟨x7,x5,x6,rfl,hX⟩:∃(A':Option Addr) (m' c':Nat),Y= .tuple #[.slice A' m' c',.i (if b.ok then 0 else 1)]∧((b.ok=true∧m'=24+40*i∧P=aV (.slice A' (24+40*i) c') 5 1 (24+40*i) (av .u8 (Al b))::_)∨(b.ok=false∧A'=none∧m'=0∧c'=0∧P=_)):=by
   rcases ata with ⟨u,A',c',k2,k3⟩ | ⟨u,k2,k3⟩
   ·exact⟨A',_,c',by rw[k2,u];rfl,.inl ⟨u,Z,k3⟩⟩
   ·exact⟨none,0,0,by rw[k2,u];rfl,.inr ⟨u,Z,Z,Z,k3⟩⟩
  refine aj "Hfuh" (aW (λy=> ?_) λy=> ?_)
  ·skip
   have uN:b.ok=false:=by
    cases hk:b.ok with
    | false=>rfl
    | true=>rw[hk] at y;simp at y
   rcases hX with ⟨u,_⟩ | ⟨_,rfl,rfl,rfl,rfl⟩
   ·rw[uN] at u;cases u
   refine aj "eF" ?_;exact aF.ret (H':=F) (bJ.eU Z Z (look_eq Z (by rw[uN];rfl))) (λw h=>h.drop 3) (.inr ⟨uN,Z,Z⟩)
  ·skip
   have aoP:b.ok=true:=by
    cases hk:b.ok with
    | true=>rfl
    | false=>rw[hk] at y;simp at y
   rcases hX with ⟨_,rfl,rfl⟩ | ⟨u,_⟩
   rotate_left
   ·rw[aoP] at u;cases u
   have X:aA 256 (Al b):=aeH (by rw[d];exact UU);refine aP "7Bb" ?_;refine WL.t2 call181 Z Z (alI (seed:=seed) (msg:=Al b) (aV.seq (by rw[au,acY (by rw[d];exact UU),d,mR,Nat.mul_one])) X ay) Z<|aP "z" λx4=> ?_;refine aP "Ace" ?_;refine WL.val (V.kM afb (ak Z)) Z (aj "~9" ?_);refine WL.append (m:=24+40*i) (q:=64) (news:=av .u8 (bG 256 32 (Vg seed (Al b)).1++bG 256 32 (Vg seed (Al b)).2)) underlying34 yL (ak Z) (ak Z) (Seq.all (by rw[au,length_append,aI,aI])) (jB _ _) ay Z Z (λQ O awM awp=>aj "F" ?_);refine aF.ret (H':=aV (.slice Q (24+40*i+64) O) 5 1 (24+40*i+64) (av .u8 (Xc seed (Al b)))::F) (bJ.eU Z Z Z) (λw h=> ?_) (.inl ⟨aoP,Q,O,Z,Z⟩);unfold Xc;rw[dx];exact h.bg 5 [0] Z
end
theorem aex(hs:slot=0∨slot=1){i:Nat}(hi:i<4):kZ slot (i:Int)=(2+5*slot+(i:Int),0):=by
 unfold kZ Vh;rw[if_pos (by rcases hs with rfl | rfl<;>simp<;>omega)]
theorem XH(hs:slot=0∨slot=1):kZ slot (-1)=(1+5*slot,0):=by rcases hs with rfl | rfl<;>rfl
structure Jj(m M:Lm):Prop where
 rest:∀i,i≠0→m i=M i
 st:stM m=stM M
theorem Jj.load(h:Jj m M)(hs:slot=0∨slot=1)(ring:List Ky)(aO:Int):fT m ring aO slot=fT M ring aO slot:=Ic h.rest hs ring aO
theorem Lg(m:Lm)(slot:Int):∀n i,(gF m slot n i).2≠70
 | 0,_=>by rw[gF];decide
 | n+1,i=>by
  rw[gF];split
  ·unfold kZ;split<;>(dsimp only;decide)
  ·split
   ·decide
   ·exact Lg m slot n (i+1)
theorem QC(r:List Ky)(aO:Int)(b:List Nat):(eT r aO b).2≠70:=by
 unfold eT;split
 ·decide
 split
 ·decide
 cases iL (b.take (b.length-64)) with
 | none=>rw[IX];decide
 | some M =>
  rw[IX];have a:(q9 r M.key).2≠70:=by unfold q9;repeat (first | decide | (dsimp only;decide) | split)
  split
  ·exact a
  repeat (first | decide | (dsimp only;decide) | split)
theorem ZX(m:Lm)(ring:List Ky)(aO slot:Int):(fT m ring aO slot).2≠70:=by
 unfold fT;split
 ·decide
 split
 ·exact QC _ _ _
 split
 ·exact Lg _ _ _ _
 ·dsimp only;unfold kW;split
  ·exact QC _ _ _
  repeat (first | decide | (dsimp only;decide) | split)
theorem Xh{C:aD}{T:St}{mp M:Lm}{B:Nat}{N:Int}(hF:jg 11 11 B N C T mp)(hR:Jj mp M)(EA:11<C.g.bl)(oH:C.g.bl≤20)(kS:16≤C.g.cap)(hN:N≤900000)(hB:B≤900000)(ring:List Ky)(fu:Int){X:aY×Int}(hX:X=nR (λs=>decide ((fT M ring fu s).2=0)) (stM M).order (stM M)){R:Ran}(hRd:R=tH C T ring fu) :
 ((
  lK C T).2.1=0→wY ring fu (lK C T).1.order (lK C T).1 C (lK C T).2.2)∧R.1=Hq (fT M ring fu) X.2∧(R.1.2=0→(R.1.1.slot=0∨R.1.1.slot=1)∧fu≤R.1.1.sec)∧R.2.1.g=C.g∧R.2.1.aO=C.aO ∧
  ∃ (m':Lm) (B':Nat) (N':Int),jg 11 11 B' N' R.2.1 R.2.2 m'∧B'≤B+2∧N'≤N+42∧(∀i,i≠0→m' i=M i)∧stM m'=X.1:=by
 have dL:=hF.lK aN;have Dv:=qw M;have Gh:(stM M).order.length≤2:=by
  unfold aY.order;rw[if_pos Dv];exact length_filter_le _ _
 obtain⟨b,I,y⟩:=Ti ring fu hF EA oH kS hN hB;have jh:=y.ok;rw[←hRd,hR.st] at jh;have RX:∀s,s=0∨s=1→fT mp ring fu s=fT M ring fu s:=λs hs=>hR.load hs ring fu;obtain⟨m',a⟩:=OT ring fu (fT M ring fu) (λs=>ZX M ring fu s) (stM M).order (stM M) C T mp B N hF RX hR.st EA oH kS ay ay (λs hs=>ql Dv hs);have e:tH C T ring fu=BN ring fu (stM M).order (stM M) C T:=by
  unfold tH;rw[dL,if_neg (λh=>h Z),hR.st]
 rw[←e,←hRd] at a;obtain⟨B',N',u,H,G⟩:=a.Kt;refine⟨b,by rw[hX];exact a.res,λx=> ?_,a.g,a.fu,m',B',N',u,by omega,by omega,λi d=>(a.rest i d).trans (hR.rest i d),by rw[hX];exact a.st⟩;obtain⟨r,j,_⟩:=jh x;exact⟨ql Dv r,j⟩
theorem Jj.refl(m:Lm):Jj m m:=⟨λ_ _=>Z,Z⟩
theorem ait{pk r s:Nat}{b:List Nat}{M:sI}{aO:Int}(hp:pk<256^32)(hr:r<256^32)(hs:s<256^32)(hM:iL b=some M)(hk:M.key=1)(hf:aO≤M.sec)(hv:kE pk b r s=true) :
 eT [⟨1,bG 256 32 pk,false⟩] aO (b++(bG 256 32 r++bG 256 32 s))=(M,0):=by
 have a:(b++(bG 256 32 r++bG 256 32 s)).length=b.length+64:=by rw[length_append,length_append,aI,aI]
 have aof:∀ {n:Nat},n<256^32→vl 256 (bG 256 32 n)=n:=λh=>by rw[xV,mod_eq_of_lt h]
 have ao2:q9 [⟨1,bG 256 32 pk,false⟩] M.key=(bG 256 32 pk,0):=by
  unfold q9;rw[if_pos (show j6 [⟨1,bG 256 32 pk,false⟩]=true from Z),hk];rfl
 unfold eT;rw[if_neg (show ¬j6 [⟨1,bG 256 32 pk,false⟩]=false from λh=>by cases h),a,if_neg ay,Nat.add_sub_cancel,take_left,List.drop_left,hM,IX,ao2,if_neg (λh=>h rfl),take_left' (aI _ _ _),drop_left' (aI _ _ _),aof hp,aof hr,aof hs,hv];rw[if_neg aN,if_neg ay]
theorem ahK{ring:List Ky}{aO:Int}{sd d:List Nat}{M:sI}{s:yP}(hh:eT ring aO sd=(M,0))(hs:M.gH=[s])(h1:s.bytes=(d.length:Int))(h2:sum256 d=s.bG):kW ring aO sd [d]=(⟨0,M.yS,M.sec,[(s.load,d)]⟩,0):=by
 unfold kW;rw[hh,if_neg (λh=>h Z)];dsimp only;rw[hs,if_neg (λh=>h Z),if_pos (by unfold EO;rw[Xi,h1,h2];simp)];rfl
theorem ail{m:Lm}{ring:List Ky}{aO slot:Int}{sd d:List Nat}{M:sI}{s:yP}(mR:slot=0∨slot=1)(h0:m (1+5*slot).toNat=some sd)(h1:m (2+5*slot).toNat=some d)(hh:eT ring aO sd=(M,0))(hs:M.gH=[s])(hb:s.bytes=(d.length:Int))(hd:sum256 d=s.bG) :
 fT m ring aO slot=(⟨slot,M.yS,M.sec,[(s.load,d)]⟩,0):=by
 have a:gF m slot 1 0=([d],0):=by
  rw[gF,aex mR (show 0<4 by decide),if_neg (λh=>h Z)];dsimp only;rw[show (2+5*slot+((0:Nat):Int)).toNat=(2+5*slot).toNat by simp,h1];rfl
 unfold fT;rw[XH mR,h0];dsimp only;rw[hh,if_neg (λh=>h Z)];dsimp only;rw[hs,show [s].length=1 from Z,a,if_neg (λh=>h Z)];dsimp only;rw[ahK hh hs hb hd]
def M0:sI:=⟨0,0,1,0,[⟨0,0,replicate 32 0⟩]⟩
def abc:List Nat:=[97,98,99]
def M1:sI:=aeU M0 [abc]
theorem apB:M1.ok=true:=by kernel_rfl
theorem afr:iL (Al M1)=some M1:=by kernel_rfl
theorem alQ:kE (Ms 0) (Al M1) (Vg 0 (Al M1)).1 (Vg 0 (Al M1)).2=true:=by kernel_rfl
theorem ahF:∀s∈M1.gH,s.Ok:=λs hs=>by
 unfold M1 aeU M0 at hs;simp only[List.zipWith_cons_cons,List.zipWith_nil_left,mem_cons,not_mem_nil,or_false] at hs;rw[hs];exact agm _ _
theorem aeF(seed:Nat)(b:List Nat):(Xc seed b).length=b.length+64∧(Xc seed b).take ((Xc seed b).length-64)=b:=by
 have h:(Xc seed b).length=b.length+64:=by unfold Xc;rw[length_append,length_append,aI,aI]
 exact⟨h,by rw[h,Nat.add_sub_cancel];unfold Xc;exact take_left⟩
theorem afs(seed:Nat){b:List Nat}(h:aA 256 b):aA 256 (Xc seed b):=λx a=>by
 unfold Xc at a;rcases mem_append.1 a with a | a
 ·exact h x a
 ·rcases mem_append.1 a with a | a<;>exact bL aN _ _ x a
theorem amG{cap:Int}(hc:128≤cap):acF cap (Xc 0 (Al M1)) [abc]=0:=by
 obtain⟨b,d⟩:=aeF 0 (Al M1);have a:(Al M1).length=64:=acY ahF;unfold acF;rw[d,b,a,afr];unfold I7;rw[afr,if_neg aN,if_neg aN,if_neg aN,if_neg];simp only[acr,any_cons,any_nil,b,a];simp;exact⟨by omega,by show ((abc.length:Nat):Int)≤cap;exact Int.le_trans (show ((abc.length:Nat):Int)≤128 by decide) hc⟩
def x1:aY:=(aY.zero.install 1).1
def mAw(sd:List Nat):Lm:=acn (λ_=>none) (acv aY.zero sd [abc])
theorem ajE(sd:List Nat):mAw sd 0=some (bU x1)∧mAw sd 6=some sd∧mAw sd 7=some abc:=⟨Z,Z,Z⟩
theorem amx(sd:List Nat):stM (mAw sd)=x1:=by
 have h:mAw sd=(acn (λ_=>none) (adx 7 [abc]++[(6,sd)])).put 0 (some (bU x1)):=rfl;rw[h];exact GI Z
theorem ahN(seed:Nat):Ms seed<256^32:=aeQ _
theorem afT(seed:Nat)(msg:List Nat):(Vg seed msg).1<256^32∧(Vg seed msg).2<256^32:=⟨aeQ _,Nat.lt_of_lt_of_le (mod_lt _ aN) aN⟩
theorem aiU{pk r s:Nat}{b:List Nat}(hp:pk<256^32)(hr:r<256^32)(hs:s<256^32)(hb:iL b=some M1)(hv:kE pk b r s=true):fT (mAw (b++(bG 256 32 r++bG 256 32 s))) [⟨1,bG 256 32 pk,false⟩] 0 1=(⟨1,M1.yS,M1.sec,[(0,abc)]⟩,0) :=
 ail (s:=aeD ⟨0,0,replicate 32 0⟩ abc) (.inr Z) (ajE _).2.1 (ajE _).2.2 (ait hp hr hs hb Z (Int.le_refl _) hv) Z Z Z
theorem aic:fT (mAw (Xc 0 (Al M1))) [⟨1,bG 256 32 (Ms 0),false⟩] 0 1=(⟨1,M1.yS,M1.sec,[(0,abc)]⟩,0) :=
 aiU (ahN 0) (afT 0 _).1 (afT 0 _).2 afr alQ
theorem alA:nR (λs=>decide ((fT (mAw (Xc 0 (Al M1))) [⟨1,bG 256 32 (Ms 0),false⟩] 0 s).2=0)) (stM (mAw (Xc 0 (Al M1)))).order (stM (mAw (Xc 0 (Al M1))))=((x1.gM 1).1,1):=by
 rw[amx,show x1.order=[1] from Z,nR,if_pos (by rw[aic];rfl)]
theorem afO(g:bQ)(K:World)(F:List aH):aK prog 45 #[g.v] K F (.bool (g.may&&decide (g.room≤128)&&decide (12≤g.bl)&&decide (g.bl≤16)&&decide (g.pg≤6))):=by
 refine aB.en func45 ntmps45 ?_;refine aj "a&" λb=> ?_;refine aj "wy" ?_;refine WL.t1 call59 Z (XJ g _ _) Z<|aj "b~~!" ?_;exact WL.nL (oj:=_) (vs:=[_]) Z Z Z GC.t call60 ⟨OV.g Z id,trivial⟩ (λa=>GV g (bQ.rF (by simpa using a)) _ _) Z<|aj "~RSb,`~USb,`~RSb,`~RSd+" trivial
theorem aeY{g:bQ}(hm:g.may=true)(h19:g.bl≤19)(K:World)(F:List aH):aB prog 46 #[g.v] K F
 (λv H'=>∃(bc bd bs:Nat) (C:Cw) (T:bZ),C.Ok∧C.g=g∧C.aC=aD.new g []∧T.Ok g∧T.aC=oh C.aC 11∧v= .tuple #[ptr bc 0,ptr bd 0,ptr bs 0]∧H'=C.A bc::dA bd bc g::T.A bs bd g::F):=by
 refine aB.en func46 ntmps46 ?_;refine aj "a&" λG=> ?_;refine aj "llwy" ?_;refine WL.c2 call29 Z Z (ZU g (l:=[]) Seq.nil aN) Z ?_;rintro _ _ (⟨_,BG,bc,b,a,d,rfl,rfl⟩ | ⟨uN,rfl,rfl⟩)
 rotate_left
 ·exact (uN ⟨hm,λx u=>by simp at u⟩).elim
 have e:b.g=g:=by rw[show b.g=b.aC.g from Z,d];rfl
 have y:b.aC.up=true:=by rw[d];rfl
 refine aj "Hi" ?_;refine WL.c1 call30 Z (UF a e) Z ?_;rintro _ _ ⟨bd,rfl,rfl⟩;refine aj "Hi" ?_;refine WL.c2 call31 Z Z (Te a e (aJ:=11) aN h19 (P6 a.aU y)) Z ?_;rintro _ _ ⟨bs,T,r,j,rfl,rfl⟩;refine aj "Hfu%~~fI%~~fI2TxlF" ?_;exact aF.ret (H':=b.A bc::dA bd bc g::T.A bs bd g::F) (bJ.Bl Z Z Z Z) (λw h=>h.bg 4 [0,1,2] Z) ⟨bc,bd,bs,b,T,a,e,d,r,j,Z,Z⟩
def aje(sd:List Nat)(ds:List Bs):Bool:= !(decide (1000<(sd.length:Int))||decide (10<(ds.length:Int)))&&ds.all λp=> !decide (1000<(p.m:Int))
theorem ais{S D:Option Addr}{q cs k kd:Nat}{sd:List Nat}{ds:List Bs}{K:World}{F:List aH}(hq:sd.length=q)(hd:Seq K F D k 1 (ds.map Bs.v)):aK prog 47 #[.slice S q cs,.slice D k kd] K F (.bool (aje sd ds)):=by
 have wF:ds.length=k:=by have :=hd.len;rwa [length_map,Nat.mul_one] at this
 unfold aje;rw[hq,wF];refine aB.en func47 ntmps47 ?_;refine aj "afj~H%~p~jIh" (aW (λa=> ?_) λa=> ?_)
 ·skip
  refine aj "D" ?_;exact qR F Z Z eO ⟨by rw[a];rfl,Z⟩
 ·skip
  refine aj "|aos" ?_;refine WC.loop (σ:=Nat) (λi=>[(1,.slice D k kd),(5,.i (i:Int))]) (λi=>F) (λi=>i≤k∧(ds.take i).all (λp=> !decide (1000<(p.m:Int)))=true) (λi=>k-i) 0 ⟨zero_le _,Z⟩ bC cO ?_;rintro i ⟨u,nT⟩;have aty:k≤10:=by simp at a;omega
  rw[a];refine aj "rbjPh" (aW (λe=> ?_) λe=> ?_)
  ·simp only[cZ] at e;obtain⟨p,d⟩:∃p,ds[i]? =some p:=⟨_,getElem?_eq_getElem ay⟩;have j:Rd K F (D.map (·.add ((i:Int).toNat*1))) p.v:=by rw[Int.toNat_natCast,Nat.mul_one];exact hd.rd i _ (by rw[getElem?_map,d];rfl)
   refine aj "Yb" ?_;refine WL.val (V.dw adb (ak Z) (ak Z) (λ_=>by omega) (λ_=>j)) Z<|WL.val (V.load isAgg34 (ak Z) (λ_=>j)) Z<|aj "j~Hh" (aW (λb=> ?_) λb=> ?_)
   ·skip
    refine aj "D:" ?_;have r:ds.all (λp=> !decide (1000<(p.m:Int)))=false:=by
     rw[←Bool.not_eq_true];intro h;have :=all_eq_true.1 h p (mem_of_getElem? d);rw[b] at this;cases this
    rw[r,Bool.and_false]
   ·skip
    refine aj "qgZN" ?_;refine⟨i+1,⟨by show i+1≤k;omega, ?_⟩,(by show k-(i+1)<k-i;omega),.cons Z bC,λw h=>h⟩;rw[take_add_one,d,all_append,nT];show ((!decide (1000<(p.m:Int)))&&true)=true;rw[b];rfl
  ·simp only[cZ] at e;refine aj "KD:" ?_;obtain rfl:i=k:=by omega
   rw[take_of_length_le ay] at nT;rw[nT];rfl
theorem alx:∀(cs:List Value) (h:cs.length=34) (w:World),(Instr.buildSlice 24 1 [(0,.agg cs.toArray)].toArray).run prog w= .ok (.slice (some ⟨w.heap.size,0,none⟩) 1 1) (w.alloc (.cells cs.toArray 99))
 | v00::v01::v02::v03::v04::v05::v06::v07::v08::v09::v10::v11::v12::v13::v14::v15::v16::v17::v18::v19::v20::v21::v22::v23::v24::v25::v26::v27::v28::v29::v30::v31::v32::v33::[],_,w=>aiw v00 v01 v02 v03 v04 v05 v06 v07 v08 v09 v10 v11 v12 v13 v14 v15 v16 v17 v18 v19 v20 v21 v22 v23 v24 v25 v26 v27 v28 v29 v30 v31 v32 v33 w
theorem ahc(K:World)(F:List aH):aK prog 54 #[] K F (.bool true):=by
 have qm:(bQ.mk 13 4 1 64 1).may=true:=by kernel_rfl
 obtain⟨g,hg⟩:∃g,g=bQ.mk 13 4 1 64 1:=⟨_,Z⟩;have z2:g.bl=13:=by rw[hg]
 have ar5:g.cap=192:=by rw[hg];kernel_rfl
 rw[←hg] at qm;refine aB.en func54 ntmps54 ?_;refine aj "aw" ?_;refine WL.val (V.aG (v':=g.v) (V.build (vs:=[(0,_),(1,_),(2,_),(3,_),(4,_)]) ⟨ak Z,ak Z,ak Z,ak Z,ak Z,trivial⟩ Z (FU _ _ _ _ _)) (λ_=>by rw[hg])) Z<|WL.c1 call46 Z (aeY qm ay _ _) Z ?_;rintro _ _ ⟨bc,bd,bs,C0,Q,W,g0,s0,x7,t0,rfl,rfl⟩;have I:jg 11 11 256 1 C0.aC Q.aC (λ_=>none):=by rw[t0,s0];exact jg.new (bQ.rF qm) 11
 have e0:lK C0.aC Q.aC=(aY.zero,0,Q.aC):=I.lK aN;have x5:11≤(Q.stands.length:Int):=by
  obtain⟨y3,ZH⟩:=I.si;have h1:Q.stands.length=11:=ZH.len;rw[h1];decide
 refine aP "5~Mllf~b27z" λb4=> ?_;refine aj "ce~Y" ?_;refine WL.c1 call48 Z (ac3 W g0 x7 x5 e0 Z) Z ?_;rintro _ _ ⟨T1,oZ,t1,rfl,rfl⟩;refine aj "Hi" ?_;refine WL.Vf (m:=63) underlying34 yL (ak Z) (ak Z) (λz9=> ?_) (hb:=by decide);refine aj "~Y" ?_;have Y:acF g.cap (replicate 63 0) (([]:List Bs).map Bs.l)=4:=by unfold acF;rw[if_pos aN]
 refine WL.c3 call51 Z Z Z (acR (sd:=replicate 63 0) (ds:=[]) (mp:=λ_=>none) W g0 oZ (by rw[t1];exact I) ay ay aN aN (Seq.all Z) (aA.wJ aN) aN (Nat.le_refl _) ⟨Seq.nil,λp e=>by cases e⟩ (λp e=>by cases e) (zero_le _)) rfl ?_;rintro _ _ ⟨C1,T2,RP,g1,BH,f1,rfl,⟨B1,N1,J,z7,z4⟩,rfl⟩;rw[Y,if_neg aN] at J;rw[Y];refine aP "wB^" ?_;refine WL.buildSlice (E:=140) (cs:=[_,_,_,_,_,_,_,_,_,_,_,_,_,_,_,_,_,_,_,_,_,_,_,_,_,_,_,_,_,_,_,_,_,_]) (vs:=[(0,_)]) ⟨ak Z,trivial⟩ Z (X5 _ _ _ _ _ _ _ _ _ _ _ _ _ _ _ _ _ _ _ _ _ _ _ _ _ _ _ _ _ _ _ _ _ _) Z (λy6=>WL.val (V.build (vs:=[(2,_),(4,_)]) ⟨ak Z,ak Z,trivial⟩ Z (air _ _ _ _)) Z<|WL.buildSlice (E:=5) (cs:=av .u8 [_,_,_]) (vs:=[(0,_),(1,_),(2,_)]) ⟨ak Z,ak Z,ak Z,trivial⟩ Z (acZ _ _ _) Z (λx2=>aj "~~k" ?_));refine WL.buildSlice (E:=34) (cs:=[_]) (vs:=[(0,_)]) ⟨ak Z,trivial⟩ Z (Lv _ _ _) Z (λy5=> ?_);have y2:aeU M0 ([(⟨some ⟨x2,0,none⟩,3,3,abc⟩:Bs)].map Bs.l)=M1:=rfl;have h8:aA 256 abc:=by unfold aA abc;decide
 refine WL.c3 call114 Z Z Z (ahH (seed:=0) (M:=M0) (ds:=[⟨some ⟨x2,0,none⟩,3,3,abc⟩]) (n:=1) ⟨(Seq.all Z).up.up,Z,λs hs=>by rw[mem_singleton.1 hs];exact⟨Z,aA.wJ aN⟩⟩ aN aN ⟨Seq.all Z,λp e=>by rw[mem_singleton.1 e];exact⟨(Seq.agX Z).up,h8,(show 3≤1000000 by decide)⟩⟩) Z ?_;rw[y2];obtain⟨x,b⟩:∃x,x=Xc 0 (Al M1):=⟨_,Z⟩;rw[←b];rintro _ _ (⟨_,z1,x4,rfl,rfl⟩ | ⟨k1,_⟩)
 rotate_left
 ·rw[apB] at k1;cases k1
 have y1:x.length=128:=by rw[b,(aeF 0 _).1,acY ahF];rfl
 refine aj "H0" ?_;refine WL.buildSlice (E:=5) (cs:=av .u8 [_,_,_]) (vs:=[(0,_),(1,_),(2,_)]) ⟨ak Z,ak Z,ak Z,trivial⟩ Z (acZ _ _ _) Z (λX=>aj "~~k" ?_);refine WL.buildSlice (E:=34) (cs:=[_]) (vs:=[(0,_)]) ⟨ak Z,trivial⟩ Z (Lv _ _ _) Z (λz5=>WL.lG (p:=24+40*1+64≤x4) (λw h=>aV.room (h.bg 3 [2] Z)) (λane=>WL.sub (Sub.refl _) (λw h=>h.bg 9 [6,7,8,0,1,2] Z) ?_));have ao6:acF g.cap x ([(⟨some ⟨X,0,none⟩,3,3,abc⟩:Bs)].map Bs.l)=0:=by rw[b];exact amG ay
 have x9:aA 256 x:=by rw[b];exact afs 0 (aeH ahF)
 refine WL.c3 call51 Z Z Z (acR (sd:=x) (ds:=[⟨some ⟨X,0,none⟩,3,3,abc⟩]) (mp:=λ_=>none) RP g1 BH J ay ay ay ay (aV.seq (by rw[au,y1])).up.up x9 aN ane ⟨Seq.all Z,λp e=>by rw[mem_singleton.1 e];exact⟨(Seq.agX Z).up,h8,(show 3≤1000000 by decide)⟩⟩ (λp e=>by rw[mem_singleton.1 e];exact Nat.le_refl _) aN) Z ?_;rintro _ _ ⟨C3,T3,TS,g3,y0,f3,rfl,⟨B3,N3,x0,z3,z6⟩,rfl⟩;rw[ao6,if_pos Z] at x0;rw[ao6];obtain⟨r,G⟩:∃r,r=mAw x:=⟨_,Z⟩;have aqe:jg 11 11 B3 N3 C3.aC T3.aC r:=by rw[G];exact x0
 have amJ:11≤(T3.stands.length:Int):=by
  obtain⟨y3,ZH⟩:=aqe.si;have h1:T3.stands.length=11:=ZH.len;rw[h1];decide
 refine aP "iB" ?_;refine WL.t1 call56 Z (aip (seed:=0)) Z ?_;obtain⟨pk,y⟩:∃pk,pk=Ms 0:=⟨_,Z⟩;rw[←y];obtain⟨a,d⟩:∃a:Ky,a=⟨1,bG 256 32 pk,false⟩:=⟨_,Z⟩;have amB:a.Ok:=by rw[d];exact⟨aI _ _ _,bL aN _ _⟩
 refine WL.val (V.aG (v':= .agg a.cells.toArray) (V.build (vs:=[(0,_),(1,o8 pk)]) ⟨ak Z,ak Z,trivial⟩ Z (aiv _ _ _ _ _ _ _ _ _ _ _ _ _ _ _ _ _ _ _ _ _ _ _ _ _ _ _ _ _ _ _ _ _)) (λ_=>by rw[d];rfl)) Z<|WL.buildSlice (E:=99) (cs:=a.cells) (vs:=[(0,.agg a.cells.toArray)]) ⟨ak Z,trivial⟩ Z (alx a.cells (Ky.dB amB)) Z (λO=>aj "~Y" ?_);have Ww:∀H:List aH,Ring K (ah O 99 a.cells::H) (some ⟨O,0,none⟩) 1 [a]:=λH=>⟨by rw[flatMap_cons,flatMap_nil,append_nil];exact Seq.all (by rw[Ky.dB amB]),Z,λk hk=>by rw[mem_singleton.1 hk];exact amB,by decide⟩;obtain⟨R,P⟩:∃R,R=tH C3.aC T3.aC [a] 0:=⟨_,Z⟩;have u:C3.aC.g=g:=g3;have hX:((x1.gM 1).1,(1:Int))=nR (λs=>decide ((fT r [a] 0 s).2=0)) (stM r).order (stM r):=by rw[G,b,d,y];exact alA.symm
 have RX:fT r [a] 0 1=(⟨1,M1.yS,M1.sec,[(0,abc)]⟩,0):=by rw[G,b,d,y];exact aic
 obtain⟨x3,U,_⟩:=Xh aqe (Jj.refl r) (by rw[u];omega) (by rw[u];omega) (by rw[u];omega) ay ay [a] 0 hX P;refine WL.c3 call17 Z Z Z (YJ TS g3 y0 amJ (aO:=0) (Ww _) x3) Z ?_;rw[←P];rintro _ _ ⟨C4,T4,A4,c4,ps,E4,u0,g4,z0,s4,t4,rfl,l7,y4,rfl⟩;have x8:R.1.2=0:=by rw[U];rfl
 have x6:R.1.1=⟨1,M1.yS,M1.sec,[(0,abc)]⟩:=by rw[U];unfold Hq;rw[if_neg aN,RX]
 rw[x8,x6];refine aj "v" λu1=> ?_;refine aP "Cce~~Kb!~~ASb!" ?_;refine WL.bI (oj:=_) Z Z Z GC.t (V.G5 (j:=4) (OV.g Z id) (ak Z)) Z (aP "Sb!~~ASb!~~ASb," ?_);refine WL.bI (oj:=_) Z Z Z GC.t (V.d9 isAgg32 (OV.g Z id)) Z (aP "~~ASb," ?_);refine WL.bI (oj:=_) Z Z Z GC.t (V.d9 isAgg3 (OV.g Z id)) Z (WL.bI (oj:=_) Z Z Z GC.t (V.G5 (j:=1) (OV.g Z id) (ak Z)) Z ?_);exact aj "Sd+" trivial
section
variable{K:World}{F:List aH}{A:Option Addr}{m cap:Nat}{l:List Nat}
theorem acU(n:Int)(K:World)(F:List aH):aK prog 132 #[.i n] K F (.bool (Cy n)):=by
 refine aB.en func132 ntmps132 ?_;exact aj "ai~gb!~RSd+" trivial
theorem afy(hs:Seq K F A m 1 (av .u8 l))(h8:aA 256 l)(hm:4≤m):aK prog 71 #[.slice A m cap] K F (.i ((sP l:Nat):Int)):=by
 have u:l.length=m:=by have :=hs.len;rwa [au,Nat.mul_one] at this
 refine aB.en func71 ntmps71 ?_;refine aj "awtaos" ?_;refine WC.loop (σ:=Nat) (λj=>[(0,.slice A m cap),(3,.i ((vl 256 ((l.take 4).drop j):Nat):Int)),(4,.i ((j:Int)-1))]) (λ_=>F) (λj=>j≤4) (λj=>j) 4 (Nat.le_refl _) (.cons Z (.cons (look_eq Z (by rw[drop_of_length_le (by rw[length_take];omega)];rfl)) bC)) cO ?_;rintro j P;obtain⟨N,b⟩:∃N,N=vl 256 ((l.take 4).drop j):=⟨_,Z⟩;rw[←b];refine aj "r~gh" (aW (λe=> ?_) λe=> ?_)
 ·simp only[cZ] at e;obtain⟨k,rfl⟩:∃k,j=k+1:=⟨j-1,by omega⟩;have G:((k+1:Nat):Int)-1=(k:Int):=ay;rw[G];have J:N<16777216:=by
   rw[b];refine Nat.lt_of_lt_of_le (nH (λx a=>h8 x (mem_of_mem_take (mem_of_mem_drop a)))) ?_;rw[length_drop,length_take];exact Nat.le_trans (Nat.pow_le_pow_right aN (show min 4 l.length-(k+1)≤3 by omega)) aN
  obtain⟨x,a⟩:∃x,l[k]? =some x:=⟨_,getElem?_eq_getElem ay⟩;have y:x<256:=h8 x (mem_of_getElem? a);have r:Rd K F (A.map (·.add ((k:Int).toNat*1))) (.int .u8 (x:Int)):=by rw[Int.toNat_natCast,Nat.mul_one];exact hs.rd k _ (by unfold av;rw[getElem?_map,a];rfl)
  have d:vl 256 ((l.take 4).drop k)=x+256*N:=by
   have O:(l.take 4)[k]? =some x:=by rw[getElem?_take,if_pos ay];exact a
   obtain⟨I,H⟩:=List.getElem?_eq_some_iff.1 O;rw[drop_eq_getElem_cons I,H,b];rfl
  refine aj "Eg~Ex" ?_;refine WL.val (V.dw dO (ak Z) (ak Z) (λ_=>by omega) (λ_=>r)) Z<|WL.val (V.load isAgg5 (ak Z) (λ_=>r)) Z<|aP "~~~xZO)N" ?_;exact⟨k,by show k≤4;omega,(by show k<k+1;omega),.cons Z (.cons (look_eq Z (by rw[d];congr 1;omega)) (.cons (look_eq Z Z) (.nil _))),λw h=>h⟩
 ·simp only[cZ] at e;refine aj "Ked" ?_;obtain rfl:j=0:=by omega
  exact qR F Z Z cO ⟨by rw[b];rfl,Z⟩
theorem ah6(n:Nat):MN (n:Int)=bG 256 4 n:=by
 unfold MN;rw[Int.toNat_natCast];simp only[bG,Nat.div_div_eq_div_mul]
theorem ah1{n:Nat}(hn:n≤9223372036854775807)(K:World)(F:List aH):aB prog 133 #[.i (n:Int)] K F (λv H'=>∃A' c',v= .slice A' 4 c'∧H'=aV (.slice A' 4 c') 5 1 4 (av .u8 (MN (n:Int)))::F):=by
 rw[ah6];refine aB.en func133 ntmps133 ?_;refine aj "awtaos" ?_;refine WC.loop (σ:=Nat×Option Addr×Nat) (λs=>[(0,.i ((n/256^s.1:Nat):Int)),(3,.slice s.2.1 s.1 s.2.2),(4,.i (s.1:Int))]) (λs=>aV (.slice s.2.1 s.1 s.2.2) 5 1 s.1 (av .u8 (bG 256 s.1 n))::F) (λs=>s.1≤4) (λs=>4-s.1) (0,none,0) (zero_le _) (.cons (look_eq Z (by rw[Nat.pow_zero,Nat.div_one])) bC) (λw h=>h.gI _ _) ?_;rintro⟨i,A1,c1⟩ hi;dsimp only at hi ⊢;obtain⟨N,d⟩:∃N,N=n/256^i:=⟨_,Z⟩;have r:N≤n:=by rw[d];exact div_le_self _ _
 rw[←d];refine aP "r~~Eh" (aW (λe=> ?_) λe=> ?_)
 ·simp only[cZ] at e;refine aj "Yb" ?_;refine WL.val (V.WJ (j:=256) (ak Z) (ak Z)) Z (aP "~1" ?_);refine WL.buildSlice (E:=5) (cs:=av .u8 [_]) (vs:=[(0,_)]) ⟨ak Z,trivial⟩ Z (jc _) Z (λx=>aP "?~7" λa b awN awm=> ?_);refine aj "O" ?_;refine WL.val (V.XI (j:=256) (ak Z) (ak Z)) Z (aP "O=N" ?_);refine⟨(i+1,a,b),(by show i+1≤4;omega),(by show 4-(i+1)<4-i;omega),.cons (look_eq Z (by rw[d,Nat.div_div_eq_div_mul,Nat.pow_succ])) bC,λw h=> ?_⟩;dsimp only;rw[xK,←d];have u:Sat K w (aV (.slice a (i+1) b) 5 1 (i+1) (av .u8 (bG 256 i n++[N%256%256]))::F):=h.bg 2 [0] Z
  simpa using u
 ·simp only[cZ] at e;refine aj "Ked" ?_;obtain rfl:i=4:=by omega
  exact qR (aV (.slice A1 4 c1) 5 1 4 (av .u8 (bG 256 4 n))::F) Z Z cO ⟨A1,c1,Z,Z⟩
end
end Go.Proofs.YtcedojacbhnbiaaGreat
