import Derived.Test.YtcedojacbhnbiaaGreatP13
import Derived.Test.YtcedojacbhnbiaaGreatP9
import Derived.OpenShut
import Derived.ChangeArms
set_option autoImplicit true
set_option linter.all false
set_option maxHeartbeats 2000000
set_option maxRecDepth 100000
set_option relaxedAutoImplicit true
namespace Go.Proofs.YtcedojacbhnbiaaGreat
open Go.Sl Go.RowKit Tryz List Nat
structure Zq(l:List Int)(x y:aY):Prop where
 f:y.f=x.f
 g:∀k,k=0∨k=1→y.g k=x.g k
 out:∀k,k=0∨k=1→k∉l→y.t k=x.t k
 dW:∀k,k=0∨k=1→x.g k=true→y.t k=x.t k
 t:∀k,k=0∨k=1→x.t k-1≤y.t k∧y.t k≤x.t k
theorem Zq.refl(l:List Int)(x:aY):Zq l x x:=⟨rfl,fun _ _=>rfl,fun _ _ _=>rfl,fun _ _ _=>rfl,fun _ _=>by omega⟩
theorem Zq.trans{t:aY}(h1:Zq [s] x t)(h2:Zq l t y)(hs:s∉l):Zq (s::l) x y:=by
 refine⟨h2.f.trans h1.f,fun k hk=>(h2.g k hk).trans (h1.g k hk),fun k hk hn=> ?_,fun k hk hg=> ?_,fun k hk=> ?_⟩
 ·rw[h2.out k hk (fun h=>hn (.tail _ h)),h1.out k hk (fun h=>hn (by rw[mem_singleton.1 h];exact .head _))]
 ·rw[h2.dW k hk (by rw[h1.g k hk];exact hg),h1.dW k hk hg]
 ·have a:=h1.t k hk;have b:=h2.t k hk;by_cases e:k=s
  ·rw[h2.out k hk (by rw[e];exact hs)];exact a
  ·have :=h1.out k hk (by simpa using e);omega
theorem aej(h:x.ok=true)(hs:s=0∨s=1)(hm:x.may s=true):Zq [s] x (x.gM s).1:=by
 have ha:x.Ol s=0:=by unfold aY.Ol;rw[h];rcases hs with rfl | rfl<;>rfl
 unfold aY.gM;rw[if_neg (fun h=>h ha),if_pos hm];obtain⟨f,t0,g0,t1,g1⟩:=x;rcases hs with rfl | rfl
 ·refine⟨rfl,fun k hk=> ?_,fun k hk hn=> ?_,fun k hk hg=> ?_,fun k hk=> ?_⟩<;>rcases hk with rfl | rfl<;>simp_all [aY.put,aY.g,aY.t]<;>first | done | (split<;>simp<;>omega) | omega
 ·refine⟨rfl,fun k hk=> ?_,fun k hk hn=> ?_,fun k hk hg=> ?_,fun k hk=> ?_⟩<;>rcases hk with rfl | rfl<;>simp_all [aY.put,aY.g,aY.t]<;>first | done | (split<;>simp<;>omega) | omega
structure adW(aO:Int)(l:List Int)(x:aY)(S:aD)(m:Lm)(B:Nat)(N:Int)(R:Ran)(m':Lm):Prop where
 Kt:∃B' N',jg 11 11 B' N' R.2.1 R.2.2 m'∧B'≤B+l.length∧N'≤N+21*(l.length:Int)
 g:R.2.1.g=S.g
 fu:R.2.1.aO=S.aO
 rest:∀i,i≠0→m' i=m i
 st:Zq l x (stM m')
 ok:R.1.2=0→R.1.1.slot∈l∧aO≤R.1.1.sec∧∀s l',l=s::l'→R.1.1.slot=s→∀k,k=0∨k=1→k≠s→(stM m').t k=x.t k
theorem LK(ring:List Ky)(aO:Int):∀(l:List Int) (x:aY) (S:aD) (T:St) (m:Lm) (B:Nat) (N:Int),jg 11 11 B N S T m→stM m=x→11<S.g.bl→S.g.bl≤20→16≤S.g.cap→N+21*(l.length:Int)≤1000000→B+l.length≤1000000 →
 (∀s∈l,(s=0∨s=1)∧x.may s=true)→l.Nodup→wY ring aO l x S T∧∃m',adW aO l x S m B N (BN ring aO l x S T) m'
 | [],x,S,T,m,B,N,hF,hx,_,_,_,_,_,_,_=>⟨trivial,m,⟨B,N,hF,Nat.le_refl _,by simp⟩,rfl,rfl,fun _ _=>rfl,by rw[hx];exact Zq.refl _ _,fun h=>by cases h⟩
 | s::l,x,S,T,m,B,N,hF,hx,EA,oH,kS,hN,hB,hl,vZ=>by
  have Dv:x.ok=true:=by rw[←hx];exact qw m
  obtain⟨hs,hms⟩:=hl s (.head _);have Ws:s∉l:=(nodup_cons.1 vZ).1;have zN:=Nt Dv s;have htr:=aej Dv hs hms;have hlen:(((s::l).length:Nat):Int)=(l.length:Int)+1:=by simp
  have qC:(s::l).length=l.length+1:=rfl;rw[hlen] at hN;rw[qC] at hB;have go:∀(y:aY) (S1:aD) (T1:St) (m1:Lm) (B1:Nat) (N1:Int),jg 11 11 B1 N1 S1 T1 m1→stM m1=y→B1≤B+1→N1≤N+21→S1.g=S.g→S1.aO=S.aO→(∀i,i≠0→m1 i=m i)→Zq [s] x y →
   wY ring aO l y S1 (jE S1 T1 ring aO s).2.2∧∃m',adW aO (s::l) x S m B N (goB ring aO s (BN ring aO l) y S1 T1) m':=by
   intro y S1 T1 m1 B1 N1 hF1 hy hB1 hN1 EH hf1 hm1 dL;have RX:=hF1.load (ring:=ring) (aO:=aO) hs;obtain⟨i1,m',i2⟩:=LK ring aO l y S1 T1 m1 B1 N1 hF1 hy (by rw[EH];exact EA) (by rw[EH];exact oH) (by rw[EH];exact kS) ay ay (fun k hk=>by
    obtain⟨k1,k2⟩:=hl k (.tail _ hk);refine⟨k1, ?_⟩;have uL:k≠s:=fun e=>Ws (e ▸ hk);have e1:=dL.out k k1 (by simpa using uL);have e2:=dL.g k k1;unfold aY.may at k2 ⊢;rw[e1,e2];exact k2) (nodup_cons.1 vZ).2
   rw[RX];refine⟨i1, ?_⟩;unfold goB;rw[RX];have sW:∀e la,adW aO (s::l) x S m B N ((la,e),S1,T1) m1↔(e=0→la.slot∈s::l∧aO≤la.sec∧∀s' l',s::l=s'::l'→la.slot=s'→∀k,k=0∨k=1→k≠s'→(stM m1).t k=x.t k):=fun e la =>
    ⟨fun h=>h.ok,fun h=>⟨⟨B1,N1,hF1,by rw[qC];omega,by rw[hlen];omega⟩,EH,hf1,hm1,by rw[hy];exact dL.trans (Zq.refl l y) Ws,h⟩⟩
   split
   ·rename_i h0;obtain⟨k1,k2⟩:=abB h0;refine⟨m1,(sW _ _).2 fun _=>⟨by rw[k1];exact .head _,k2,fun s' l' he mR k hk pq=> ?_⟩⟩;injection he with he _
    rw[hy];exact dL.out k hk (by rw[he];simpa using pq)
   ·split
    ·exact⟨m1,(sW _ _).2 fun h=>by cases h⟩
    ·obtain⟨B',N',j1,j2,j3⟩:=i2.Kt;refine⟨m',⟨B',N',j1,by rw[qC];omega,by rw[hlen];omega⟩,i2.g.trans EH,i2.fu.trans hf1,fun i hi=>(i2.rest i hi).trans (hm1 i hi),dL.trans i2.st Ws,fun h0=> ?_⟩;obtain⟨k1,k2,_⟩:=i2.ok h0;refine⟨.tail _ k1,k2,fun s' l' he mR=> ?_⟩;injection he with he _
     rw[mR,←he] at k1;exact absurd k1 Ws
  rw[BN,wY];by_cases ht:(x.gM s).1=x
  ·obtain⟨g1,g2⟩:=go x S T m B N hF hx ay ay rfl rfl (fun _ _=>rfl) (Zq.refl _ _);rw[if_neg (fun h=>h ht)];exact⟨⟨fun h=>absurd ht h,fun _=>g1⟩,g2⟩
  ·have uI:(bU (x.gM s).1).length=9:=by unfold bU;rw[gZ,aY.fC zN]
   have h8:aA 256 (bU (x.gM s).1):=iP (aY.gJ zN);obtain⟨c1,c2,c3⟩:=hF.change (by show ((11:Nat):Int)<_;omega) oH ay (i0:=0) aN aN aN h8 (by rw[uI];omega);have c4:=pK S T 0 (bU (x.gM s).1);rw[show ((0:Nat):Int)=0 from rfl] at c1 c2 c3;obtain⟨g1,g2⟩:=go (x.gM s).1 _ _ _ (B+1) (N+21) c3 (GI zN) (Nat.le_refl _) (Int.le_refl _) c2 c4 (fun i hi=>by unfold Lm.put;rw[if_neg hi]) htr;rw[if_pos ht,if_neg (fun h=>h c1)];obtain⟨st0,ZH⟩:=hF.si;exact⟨⟨fun _=>⟨fun l' Dp=>Nat.le_trans (ZH.Y9 l' Dp) ay,fun _=>g1⟩,fun h=>absurd h ht⟩,g2⟩
theorem Ti(ring:List Ky)(aO:Int)(hF:jg 11 11 B N S T m)(EA:11<S.g.bl)(oH:S.g.bl≤20)(kS:16≤S.g.cap)(hN:N≤900000)(hB:B≤900000) :
 ((lK S T).2.1=0→wY ring aO (lK S T).1.order (lK S T).1 S (lK S T).2.2)∧∃m',adW aO (stM m).order (stM m) S m B N (tH S T ring aO) m':=by
 have dL:=hF.lK aN;have Dv:=qw m;have Gh:(stM m).order.length≤2:=by
  unfold aY.order;rw[if_pos Dv];exact length_filter_le _ _
 obtain⟨h1,h2⟩:=LK ring aO (stM m).order (stM m) S T m B N hF rfl EA oH kS ay ay (fun s hs=>by
  unfold aY.order at hs;rw[if_pos Dv] at hs;obtain⟨k1,k2⟩:=mem_filter.1 hs;refine⟨?_,k2⟩;have hf:=(aY.lJ Dv).1;simp only[mem_cons,not_mem_nil,or_false] at k1;omega) (by
  unfold aY.order;rw[if_pos Dv];refine Nodup.sublist filter_sublist ?_;have hf:=(aY.lJ Dv).1;simp;omega)
 unfold tH;rw[dL];exact⟨fun _=>h1,by rw[if_neg (fun h=>h rfl)];exact h2⟩
theorem ql{x:aY}(h:x.ok=true)(hs:s∈x.order):s=0∨s=1:=by
 unfold aY.order at hs;rw[if_pos h] at hs;have k1:=(mem_filter.1 hs).1;have hf:=(aY.lJ h).1;simp only[mem_cons,not_mem_nil,or_false] at k1;omega
theorem Sw(s:ByteArray):bH (iB (bytesOf s))=bytesOf s:=by
 unfold bH iB;rw[map_map]
 conv=>rhs;rw[←map_id (bytesOf s)]
 apply map_congr_left;intro x hx;have :=eY _ x hx;show ((x.toNat:Nat):Int)=x;omega
theorem Ho(xs:List Int):((aY.parse xs).2=0)↔aY.dW xs=true:=by
 unfold aY.parse;cases aY.dW xs<;>simp
theorem Mw.akN{M:Mw}(h:M.has.getD 0 false=false):stM M.aC= .zero:=by
 unfold stM Mw.aC;rw[if_neg (by rw[h];decide)]
theorem Mw.aa2{M:Mw}(h:M.has.getD 0 false=true):stM M.aC=if aY.dW (bytesOf (M.iw.getD 0 ByteArray.empty))=true then (aY.parse (bytesOf (M.iw.getD 0 ByteArray.empty))).1 else .zero:=by
 unfold stM Mw.aC;rw[if_pos h];dsimp only;rw[Sw];by_cases hg:aY.dW (bytesOf (M.iw.getD 0 ByteArray.empty))=true
 ·rw[if_pos ((Ho _).2 hg),if_pos hg]
 ·rw[if_neg (fun h=>hg ((Ho _).1 h)),if_neg hg]
theorem xP{M:Mw}(hh:0<M.has.length)(hd:0<M.iw.length):aK prog 43 #[M.v] K (M.A::F) (stM M.aC).v:=by
 unfold Mw.v;obtain⟨s,hs⟩:∃s,s=M.iw.getD 0 ByteArray.empty:=⟨_,rfl⟩;have KC:Rd K (M.A::F) (M.Ah.map (·.add ((0:Int).toNat*1))) (.bool (M.has.getD 0 false)):=Mw.rdH hh;have Dq:Rd K (M.A::F) (M.Ad.map (·.add ((0:Int).toNat*1))) (.string s):=by rw[hs];exact Mw.rdD hd
 refine aB.en func43 ntmps43 ?_;refine aj "a~9" fun b1=> ?_;refine aj "v" fun b2=> ?_;refine aj "Dap" ?_;refine WL.val (V.dw aeh (ak rfl) (ak rfl) (fun _=>by omega) (fun _=>by repeat (first | exact KC | apply Rd.up))) rfl<|WL.val (V.load isAgg4 (ak rfl) (fun _=>by repeat (first | exact KC | apply Rd.up))) rfl<|aj "%j" (aW (fun h0=> ?_) fun h0=> ?_)
 ·simp only[Bool.not_eq_true',Bool.not_eq_false'] at h0;refine aj "a?C0" ?_;rw[Mw.akN h0];exact aF.ret (H':=M.A::F) (bJ.one rfl (R1.jQ (vs:=[_,_,_,_,_]) rfl ⟨isAgg58,sizeOf58⟩ rfl tN)) (fun w h=>h.drop 2) ⟨rfl,rfl⟩
 ·simp only[Bool.not_eq_true',Bool.not_eq_false'] at h0;refine aj "iap" ?_;refine WL.val (V.dw abj (ak rfl) (ak rfl) (fun _=>by omega) (fun _=>by repeat (first | exact Dq | apply Rd.up))) rfl<|WL.val (V.load isAgg9 (ak rfl) (fun _=>by repeat (first | exact Dq | apply Rd.up))) rfl<|aj "~~W" fun b72 am4 ajV ZG Oi=> ?_;refine WL.t1 call108 rfl (QW (xs:=bytesOf s) (eY s) _ _ (Oi _)) rfl<|aj "8v" fun b3=> ?_;refine aj "Cf%j" (aW (fun h1=> ?_) fun h1=> ?_)
  ·simp only[Bool.not_eq_true',Bool.not_eq_false'] at h1;refine aj "a?C0" ?_;rw[Mw.aa2 h0,←hs,if_neg (by rw[h1];decide)];exact aF.ret (H':=M.A::F) (bJ.one rfl (R1.jQ (vs:=[_,_,_,_,_]) rfl ⟨isAgg58,sizeOf58⟩ rfl tN)) (fun w h=>h.drop 4) ⟨rfl,rfl⟩
  ·simp only[Bool.not_eq_true',Bool.not_eq_false'] at h1;refine aj "iaBC0" ?_;rw[Mw.aa2 h0,←hs,if_pos h1];exact aF.ret (H':=M.A::F) (bJ.one rfl (R1.jQ (vs:=[_,_,_,_,_]) rfl ⟨isAgg58,sizeOf58⟩ rfl tN)) (fun w h=>h.drop 4) ⟨rfl,rfl⟩
theorem Em{M:Mw}(hh:0<M.has.length)(hl:M.iw.length=M.has.length){x:aY}(hx:x.ok=true):aB prog 44 #[M.v,x.v] K (M.A::F)
 (fun v H'=>H'=Mw.A { M with has:=M.has.set 0 true,iw:=M.iw.set 0 (strOfNums x.bytes) }::F):=by
 unfold Mw.v;dsimp only[aY.v];refine aB.en func44 ntmps44 ?_;refine aj "a~9" fun b2=> ?_;refine aj "*" fun b3=> ?_;refine WL.nil<|WC.sub (H':=M.A::ah b3 58 [.i x.f,.i x.t0,.bool x.g0,.i x.t1,.bool x.g1]::ah b2 81 M.cells::F) (Sub.refl _) (fun w h=>h.bg 3 [2,0,1] rfl)<|WC.dM (ah b3 58 [.i x.f,.i x.t0,.bool x.g0,.i x.t1,.bool x.g1]::ah b2 81 M.cells::F) (by kernel_rfl)<|aj "~~~o0~~e1l2" ?_;refine WL.c1 call109 rfl (xW x hx _ _) rfl ?_;rintro _ _ ⟨A5,c5,rfl,rfl⟩;refine aj "bl3" ?_;refine WL.val (V.iM (xs:=x.bytes) underlying34 underlying5 underlying9 (ak rfl) (fun hc=>aV.seq (cs:=ints .u8 x.bytes) (by simp[ints,aY.fC hx]))) rfl<|aj "bl4=" ?_;refine WL.c3 call36 rfl rfl rfl (LM (M:=M) (aS:=0) ay hl (strOfNums x.bytes)) rfl ?_;rintro _ _ rfl;refine aj "bK" ?_;exact aF.normal (H':=Mw.A { M with has:=M.has.set 0 true,iw:=M.iw.set 0 (strOfNums x.bytes) }::F) (bJ.none rfl) (fun w h=>h.bg 4 [0] rfl) rfl
def nR(gd:Int→Bool):List Int→aY→aY×Int
 | [],x=>(x,-1)
 | s::l,x=>if gd s then ((x.gM s).1,s) else nR gd l (x.gM s).1
theorem Mw.CF{M:Mw}(hh:0<M.has.length)(hd:0<M.iw.length):Mw.aC { M with has:=M.has.set 0 true,iw:=M.iw.set 0 b }=M.aC.put 0 (some (iB (bytesOf b))):=by
 funext i;unfold Mw.aC Lm.put;by_cases h:i=0
 ·subst h;dsimp only;rw[if_pos (by simp[getD,hh]),if_pos rfl];simp[getD,hd]
 ·have h1:∀ {α:Type} (l:List α) (a z:α),(l.set 0 a).getD i z=l.getD i z:=fun l a z=>by simp[getD,getElem?_set,Ne.symm h]
  dsimp only;rw[h1,h1,if_neg h]
theorem Ny(hx:x.ok=true):iB (bytesOf (strOfNums x.bytes))=bU x:=by
 unfold bU;rw[show bytesOf (strOfNums x.bytes)=x.bytes from XC (eY _) (aY.gJ hx) (JU _)]
theorem SK{M:Mw}(hh:0<M.has.length)(hl:M.iw.length=M.has.length)(g0 g1:Bool):aB prog 40 #[M.v,.agg #[.bool g0,.bool g1]] K (M.A::F)
 (fun v H'=>∃M':Mw,M'.v=M.v∧M'.has.length=M.has.length∧M'.iw.length=M.has.length∧(∀i,i≠0→M'.aC i=M.aC i)∧stM M'.aC=(nR (fun s=>if s=0 then g0 else g1) (stM M.aC).order (stM M.aC)).1 ∧
  v= .i (nR (fun s=>if s=0 then g0 else g1) (stM M.aC).order (stM M.aC)).2∧H'=M'.A::F):=by
 obtain⟨gd,L9⟩:∃gd:Int→Bool,gd=fun s=>if s=0 then g0 else g1:=⟨_,rfl⟩
 rw[←L9];obtain⟨x0,hx0⟩:∃x0,x0=stM M.aC:=⟨_,rfl⟩;have aeV:x0.ok=true:=by rw[hx0];exact qw _
 rw[←hx0];obtain⟨od,hod⟩:∃od,od=x0.order:=⟨_,rfl⟩;have an5:∀s∈od,s=0∨s=1:=fun s hs=>ql aeV (hod ▸ hs);rw[←hod];obtain⟨X,hX⟩:∃X,X=nR gd od x0:=⟨_,rfl⟩;rw[←hX];have Gh:od.length≤2:=by
  rw[hod];unfold aY.order;rw[if_pos aeV];exact length_filter_le _ _
 have hMv:M.v= .agg #[.slice M.Ah M.has.length M.ch,.slice M.Ad M.iw.length M.cd]:=rfl;rw[hMv];refine aB.en func40 ntmps40 ?_;refine aj "a~9" fun b2=> ?_;refine aj "~9" fun b3=> ?_;refine aj "w~B" ?_;refine WL.sub (H':=M.A::ah b3 89 [.bool g0,.bool g1]::ah b2 81 M.cells::F) (Sub.refl _) (fun w h=>h.bg 3 [2,0,1] rfl)<|WL.c1 call43 rfl (xP (M:=M) hh ay) rfl ?_;rintro _ _ ⟨rfl,rfl⟩;rw[←hx0];dsimp only[aY.v];refine aj "v" fun b5=> ?_;refine aj "CLB" ?_;refine WL.c1 call106 rfl (Ri x0 aeV _ _) rfl ?_;rintro _ _ ⟨A9,c9,rfl,rfl⟩;rw[←hod];refine aj "tagu" ?_;refine WC.loop (σ:=Nat×aY×Mw) (fun s=>[(2,ptr b2 0),(3,ptr b3 0),(5,ptr b5 0),(6,.slice A9 od.length c9),(7,.i (s.1:Int))])
  (fun s=>s.2.2.A::ah b5 58 [.i s.2.1.f,.i s.2.1.t0,.bool s.2.1.g0,.i s.2.1.t1,.bool s.2.1.g1]::aV (.slice A9 od.length c9) 3 1 od.length (ints .i64 od)::ah b3 89 [.bool g0,.bool g1]::ah b2 81 M.cells::F)
  (fun s=>s.1≤od.length∧s.2.1.ok=true∧s.2.2.v=M.v∧s.2.2.has.length=M.has.length∧s.2.2.iw.length=M.has.length∧(∀i,i≠0→s.2.2.aC i=M.aC i)∧stM s.2.2.aC=s.2.1∧X=nR gd (od.drop s.1) s.2.1) (fun s=>od.length-s.1)
  (0,x0,M) ⟨zero_le _,aeV,rfl,rfl,hl,fun _ _=>rfl,hx0.symm,hX⟩ bC (fun w h=>h.bg 5 [2,1,0,3,4] rfl) ?_
 rintro⟨i,x,M1⟩ ⟨hi,hx,Gf,hh1,Y8,uM,Zg,wu⟩;dsimp only at hi hx Gf hh1 Y8 uM Zg wu ⊢;refine aj "rcn1j" (aW (fun h1=> ?_) fun h1=> ?_)
 ·simp only[cZ] at h1;obtain⟨sl,mR⟩:∃sl,od[i]? =some sl:=⟨_,getElem?_eq_getElem ay⟩;have adC:od.drop i=sl::od.drop (i+1):=(List.getElem?_eq_some_iff.1 mR).2 ▸ drop_eq_getElem_cons _;rw[adC,nR] at wu;have pI:=an5 sl (mem_of_getElem? mR);have zN:=Nt hx sl;obtain⟨t,ht⟩:∃t,t=(x.gM sl).1:=⟨_,rfl⟩;rw[←ht] at wu zN;have kr:∀ {H:List aH},Rd K (aV (.slice A9 od.length c9) 3 1 od.length (ints .i64 od)::H) (A9.map (·.add ((i:Int).toNat*1))) (.i sl):=fun {H}=>by
   rw[Int.toNat_natCast,Nat.mul_one];exact (aV.seq (by rw[bR,Nat.mul_one])).rd i _ (by unfold ints;rw[getElem?_map,mR];rfl)
  refine aj "HP" ?_;refine WC.dM (ah b5 58 [.i x.f,.i x.t0,.bool x.g0,.i x.t1,.bool x.g1]::aV (.slice A9 od.length c9) 3 1 od.length (ints .i64 od)::ah b3 89 [.bool g0,.bool g1]::ah b2 81 M.cells::F) (by kernel_rfl)<|aj "~~e0m1m2" ?_;refine WA.t 3 rfl (V.dw eB (ak rfl) (ak rfl) (fun _=>by omega) (fun _=>by repeat (first | exact kr | apply Rd.up))) ?_;refine WA.t 4 rfl (V.load isAgg3 (ak rfl) (fun _=>by repeat (first | exact kr | apply Rd.up))) ?_;refine WA.two (i:=5) (j:=9) eO (by kernel_rfl) rfl rfl ?_ ?_
  ·refine WL.t2 call107 rfl rfl ((K9 x sl _ _).eq (v':= .tuple #[t.v,.i (x.gM sl).2]) (by rw[ht])) rfl<|aj "bm6~a7~a8l9v" fun b8=> ?_;refine aj "bl:Cb~p;K" ?_;refine WC.join (σ:=Mw) (fun _=>[(2,ptr b2 0),(3,ptr b3 0),(5,ptr b5 0),(6,.slice A9 od.length c9),(7,.i (i:Int))])
    (fun s=>s.A::ah b5 58 [.i t.f,.i t.t0,.bool t.g0,.i t.t1,.bool t.g1]::aV (.slice A9 od.length c9) 3 1 od.length (ints .i64 od)::ah b3 89 [.bool g0,.bool g1]::ah b2 81 M.cells::F)
    (fun s=>s.v=M.v∧s.has.length=M.has.length∧s.iw.length=M.has.length∧(∀i,i≠0→s.aC i=M.aC i)∧stM s.aC=t) ?_ ?_
   ·skip
    refine aj "aBB" ?_;refine WL.val (V.Qc (by kernel_rfl) (ak rfl) (ak rfl) (UD t x)) rfl<|aj "j" (aW (fun h2=> ?_) fun h2=> ?_)
    ·skip
     refine aj "aB~Fbq~BB" ?_;refine WL.sub (H':=M1.A::ah b5 58 [.i t.f,.i t.t0,.bool t.g0,.i t.t1,.bool t.g1]::aV (.slice A9 od.length c9) 3 1 od.length (ints .i64 od)::ah b3 89 [.bool g0,.bool g1]::ah b2 81 M.cells::F) (Sub.refl _) (fun w h=>h.bg 6 [1,2,3,4,5] rfl)<|WL.c2 call44 rfl rfl (by have :=Em (M:=M1) (K:=K) (F:=ah b5 58 [.i t.f,.i t.t0,.bool t.g0,.i t.t1,.bool t.g1]::aV (.slice A9 od.length c9) 3 1 od.length (ints .i64 od)::ah b3 89 [.bool g0,.bool g1]::ah b2 81 M.cells::F) ay ay zN;rw[Gf] at this;exact this) rfl ?_;rintro _ _ rfl;refine aj "b)" ?_;exact⟨{ M1 with has:=M1.has.set 0 true,iw:=M1.iw.set 0 (strOfNums t.bytes) },⟨by rw[←Gf];unfold Mw.v;simp,by simp[hh1],by simp[Y8],fun i hi=>by rw[Mw.CF ay ay];unfold Lm.put;rw[if_neg hi];exact uM i hi,by rw[Mw.CF ay ay,Ny zN];exact GI zN⟩,.cons rfl bC,fun w h=>h⟩
    ·have EJ:t=x:=by simpa using h2
     refine aj "i)" ?_;have h2x:=EJ;exact⟨M1,⟨Gf,hh1,Y8,uM,by rw[Zg,EJ]⟩,.cons rfl bC,fun w h=>by rw[EJ];exact h.bg 6 [1,2,3,4,5] rfl⟩
   ·skip
    rintro M2 ⟨UO,hh2,hd2,abm,UY⟩;have hgr:∀ {H:List aH},Rd K (ah b3 89 [.bool g0,.bool g1]::H) (some ⟨b3,0+sl.toNat*1,none⟩) (.bool (gd sl)):=fun {H}=>by
     rw[L9];rcases pI with rfl | rfl<;>exact Rd.here rfl
    refine aj "ec" ?_;refine WL.val (V.dw eB (ak rfl) (ak rfl) (fun _=>by omega) (fun _=>by repeat (first | exact kr | apply Rd.up))) rfl<|WL.val (V.load isAgg3 (ak rfl) (fun _=>by repeat (first | exact kr | apply Rd.up))) rfl<|aj "~~~c" ?_;refine WL.val (V.load isAgg4 (ak rfl) (fun _=>by repeat (first | exact hgr | apply Rd.up))) rfl<|aj "j" (aW (fun h3=> ?_) fun h3=> ?_)
    ·rw[if_pos h3] at wu;refine aj "ec" ?_;refine WL.val (V.dw eB (ak rfl) (ak rfl) (fun _=>by omega) (fun _=>by repeat (first | exact kr | apply Rd.up))) rfl<|WL.val (V.load isAgg3 (ak rfl) (fun _=>by repeat (first | exact kr | apply Rd.up))) rfl<|aj "d" ?_;exact qR (M2.A::F) rfl rfl (fun w h=>h.bg 5 [0] rfl) ⟨M2,UO,hh2,hd2,abm,by rw[wu];exact UY,by rw[wu],rfl⟩
    ·rw[if_neg (by rw[h3];decide)] at wu;refine aj "ih$Y" ?_;exact⟨(i+1,t,M2),⟨by show i+1≤od.length;omega,zN,UO,hh2,hd2,abm,UY,wu⟩,(by show od.length-(i+1)<od.length-i;omega),.cons rfl bC,fun w h=>h⟩
  ·refine aj "v" fun b8=> ?_;refine aj "bl5" ?_;refine WL.t2 call107 rfl rfl ((K9 x sl _ _).eq (v':= .tuple #[t.v,.i (x.gM sl).2]) (by rw[ht])) rfl<|aj "bm6~a7~a8l:Cb~p;K" ?_;refine WC.join (σ:=Mw) (fun _=>[(2,ptr b2 0),(3,ptr b3 0),(5,ptr b5 0),(6,.slice A9 od.length c9),(7,.i (i:Int))])
    (fun s=>s.A::ah b5 58 [.i t.f,.i t.t0,.bool t.g0,.i t.t1,.bool t.g1]::aV (.slice A9 od.length c9) 3 1 od.length (ints .i64 od)::ah b3 89 [.bool g0,.bool g1]::ah b2 81 M.cells::F)
    (fun s=>s.v=M.v∧s.has.length=M.has.length∧s.iw.length=M.has.length∧(∀i,i≠0→s.aC i=M.aC i)∧stM s.aC=t) ?_ ?_
   ·skip
    refine aj "aBB" ?_;refine WL.val (V.Qc (by kernel_rfl) (ak rfl) (ak rfl) (UD t x)) rfl<|aj "j" (aW (fun h2=> ?_) fun h2=> ?_)
    ·skip
     refine aj "aB~Fbq~BB" ?_;refine WL.sub (H':=M1.A::ah b5 58 [.i t.f,.i t.t0,.bool t.g0,.i t.t1,.bool t.g1]::aV (.slice A9 od.length c9) 3 1 od.length (ints .i64 od)::ah b3 89 [.bool g0,.bool g1]::ah b2 81 M.cells::F) (Sub.refl _) (fun w h=>h.bg 6 [1,2,3,4,5] rfl)<|WL.c2 call44 rfl rfl (by have :=Em (M:=M1) (K:=K) (F:=ah b5 58 [.i t.f,.i t.t0,.bool t.g0,.i t.t1,.bool t.g1]::aV (.slice A9 od.length c9) 3 1 od.length (ints .i64 od)::ah b3 89 [.bool g0,.bool g1]::ah b2 81 M.cells::F) ay ay zN;rw[Gf] at this;exact this) rfl ?_;rintro _ _ rfl;refine aj "b)" ?_;exact⟨{ M1 with has:=M1.has.set 0 true,iw:=M1.iw.set 0 (strOfNums t.bytes) },⟨by rw[←Gf];unfold Mw.v;simp,by simp[hh1],by simp[Y8],fun i hi=>by rw[Mw.CF ay ay];unfold Lm.put;rw[if_neg hi];exact uM i hi,by rw[Mw.CF ay ay,Ny zN];exact GI zN⟩,.cons rfl bC,fun w h=>h⟩
    ·have EJ:t=x:=by simpa using h2
     refine aj "i)" ?_;have h2x:=EJ;exact⟨M1,⟨Gf,hh1,Y8,uM,by rw[Zg,EJ]⟩,.cons rfl bC,fun w h=>by rw[EJ];exact h.bg 6 [1,2,3,4,5] rfl⟩
   ·skip
    rintro M2 ⟨UO,hh2,hd2,abm,UY⟩;have hgr:∀ {H:List aH},Rd K (ah b3 89 [.bool g0,.bool g1]::H) (some ⟨b3,0+sl.toNat*1,none⟩) (.bool (gd sl)):=fun {H}=>by
     rw[L9];rcases pI with rfl | rfl<;>exact Rd.here rfl
    refine aj "ec" ?_;refine WL.val (V.dw eB (ak rfl) (ak rfl) (fun _=>by omega) (fun _=>by repeat (first | exact kr | apply Rd.up))) rfl<|WL.val (V.load isAgg3 (ak rfl) (fun _=>by repeat (first | exact kr | apply Rd.up))) rfl<|aj "~~~c" ?_;refine WL.val (V.load isAgg4 (ak rfl) (fun _=>by repeat (first | exact hgr | apply Rd.up))) rfl<|aj "j" (aW (fun h3=> ?_) fun h3=> ?_)
    ·rw[if_pos h3] at wu;refine aj "ec" ?_;refine WL.val (V.dw eB (ak rfl) (ak rfl) (fun _=>by omega) (fun _=>by repeat (first | exact kr | apply Rd.up))) rfl<|WL.val (V.load isAgg3 (ak rfl) (fun _=>by repeat (first | exact kr | apply Rd.up))) rfl<|aj "d" ?_;exact qR (M2.A::F) rfl rfl (fun w h=>h.bg 5 [0] rfl) ⟨M2,UO,hh2,hd2,abm,by rw[wu];exact UY,by rw[wu],rfl⟩
    ·rw[if_neg (by rw[h3];decide)] at wu;refine aj "ih$Y" ?_;exact⟨(i+1,t,M2),⟨by show i+1≤od.length;omega,zN,UO,hh2,hd2,abm,UY,wu⟩,(by show od.length-(i+1)<od.length-i;omega),.cons rfl bC,fun w h=>h⟩
 ·simp only[cZ] at h1;refine aj "T" ?_;rw[drop_of_length_le ay,nR] at wu;refine aj "qd" ?_;exact qR (M1.A::F) rfl rfl (fun w h=>h.bg 5 [0] rfl) ⟨M1,Gf,hh1,Y8,uM,by rw[wu];exact Zg,by rw[wu],rfl⟩
def gF(m:Lm)(slot:Int):Nat→Nat→List (List Nat)×Int
 | 0,_=>([],0)
 | n+1,i=>if (kZ slot (i:Int)).2≠0 then ([],(kZ slot (i:Int)).2) else
  match m (kZ slot (i:Int)).1.toNat with
  | none=>([],5)
  | some d=>(d::(gF m slot n (i+1)).1,(gF m slot n (i+1)).2)
def fT(m:Lm)(ring:List Ky)(aO slot:Int):La×Int :=
 match m (kZ slot (-1)).1.toNat with
 | none=>(.zero,5)
 | some sd=>if (eT ring aO sd).2≠0 then (.zero,(eT ring aO sd).2) else
  if (gF m slot (eT ring aO sd).1.gH.length 0).2≠0 then (.zero,(gF m slot (eT ring aO sd).1.gH.length 0).2) else
  ({ (kW ring aO sd (gF m slot (eT ring aO sd).1.gH.length 0).1).1 with slot:=slot },(kW ring aO sd (gF m slot (eT ring aO sd).1.gH.length 0).1).2)
theorem jg.V8{L B:Nat}{N:Int}{S:aD}{T:St}{m:Lm}(h:jg 11 L B N S T m){j:Nat}(hj:j<11):((dZ S T (j:Int)).1.err=match m j with | none=>5 | some _=>0)∧(∀d,m j=some d→(dZ S T (j:Int)).1.d=d)∧(dZ S T (j:Int)).2=T:=by
 obtain⟨st,hI⟩:=h.si;cases hm:m j with
 | none=>rw[(hI.yZ hj hm).1];exact⟨rfl,fun d hd=>(by cases hd),rfl⟩
 | some v =>
  obtain⟨⟨N,_,h2⟩,_⟩:=hI.Ep h.up hj hm;rw[h2];exact⟨rfl,fun d hd=>(by injection hd),rfl⟩
theorem jg.OX(h:jg 11 L B N S T m)(slot:Int):∀n i,jV S slot n i T=((gF m slot n i).1,(gF m slot n i).2,T)
 | 0,_=>rfl
 | n+1,i=>by
  rw[jV,gF];split
  ·rfl
  ·rename_i h1;obtain⟨j,hj,hje⟩:=Gm (Decidable.not_not.1 h1);obtain⟨k1,k2,k3⟩:=h.V8 hj;rw[hje,Int.toNat_natCast];cases hm:m j with
   | none =>
    rw[hm] at k1;rw[if_pos (by rw[k1];decide),k1,k3]
   | some d =>
    rw[hm] at k1;rw[if_neg (fun hh=>hh k1),k3,k2 d hm,h.OX slot n (i+1)]
theorem jg.adk(h:jg 11 L B N S T m)(hs:slot=0∨slot=1):jE S T ring aO slot=((fT m ring aO slot).1,(fT m ring aO slot).2,T):=by
 have h0:(kZ slot (-1)).2=0:=by rcases hs with rfl | rfl<;>rfl
 obtain⟨j,hj,hje⟩:=Gm h0;obtain⟨k1,k2,k3⟩:=h.V8 hj;unfold jE PX fT;rw[hje,Int.toNat_natCast];cases hm:m j with
 | none =>
  rw[hm] at k1;rw[if_pos (by rw[k1];decide),k1,k3]
 | some d =>
  rw[hm] at k1;rw[if_neg (fun hh=>hh k1),k3,k2 d hm,h.OX];dsimp only;split
  ·rfl
  split
  ·rfl
  ·rfl
theorem E8(hm:∀i,i≠0→m' i=m i)(hs:slot=0∨slot=1):∀n i,gF m' slot n i=gF m slot n i
 | 0,_=>rfl
 | n+1,i=>by
  rw[gF,gF];split
  ·rfl
  ·rename_i h1;have hk:(kZ slot (i:Int)).1.toNat≠0:=by
    unfold kZ at h1 ⊢;split
    ·rcases hs with rfl | rfl<;>dsimp only<;>omega
    ·rename_i h2;rw[if_neg h2] at h1;exact absurd (show ((0:Int),(1:Int)).2≠0 by decide) h1
   rw[hm _ hk,E8 hm hs n (i+1)]
theorem Ic(hm:∀i,i≠0→m' i=m i)(hs:slot=0∨slot=1)(ring:List Ky)(aO:Int):fT m' ring aO slot=fT m ring aO slot:=by
 have hk:(kZ slot (-1)).1.toNat≠0:=by rcases hs with rfl | rfl<;>decide
 unfold fT;rw[hm _ hk];simp only[E8 hm hs]
def Hq(ld:Int→La×Int)(s:Int):La×Int:=if s<0 then (.zero,240) else ((ld s).1,0)
structure ai9(ld:Int→La×Int)(l:List Int)(x:aY)(S:aD)(m:Lm)(B:Nat)(N:Int)(R:Ran)(m':Lm):Prop where
 Kt:∃B' N',jg 11 11 B' N' R.2.1 R.2.2 m'∧B'≤B+l.length∧N'≤N+21*(l.length:Int)
 g:R.2.1.g=S.g
 fu:R.2.1.aO=S.aO
 rest:∀i,i≠0→m' i=m i
 st:stM m'=(nR (fun s=>decide ((ld s).2=0)) l x).1
 res:R.1=Hq ld (nR (fun s=>decide ((ld s).2=0)) l x).2
theorem OT(ring:List Ky)(aO:Int)(ld:Int→La×Int)(h70:∀s,(ld s).2≠70):∀(l:List Int) (x:aY) (S:aD) (T:St) (m:Lm) (B:Nat) (N:Int),jg 11 11 B N S T m→(∀s,s=0∨s=1→fT m ring aO s=ld s)→stM m=x→11<S.g.bl→S.g.bl≤20→16≤S.g.cap→N+21*(l.length:Int)≤1000000→B+l.length≤1000000 →
 (∀s∈l,s=0∨s=1)→∃m',ai9 ld l x S m B N (BN ring aO l x S T) m'
 | [],x,S,T,m,B,N,hF,RX,hx,_,_,_,_,_,_=>⟨m,⟨B,N,hF,Nat.le_refl _,by simp⟩,rfl,rfl,fun _ _=>rfl,hx,rfl⟩
 | s::l,x,S,T,m,B,N,hF,RX,hx,EA,oH,kS,hN,hB,hl=>by
  have Dv:x.ok=true:=by rw[←hx];exact qw m
  have hs:=hl s (.head _);have zN:=Nt Dv s;have hlen:(((s::l).length:Nat):Int)=(l.length:Int)+1:=by simp
  have qC:(s::l).length=l.length+1:=rfl;rw[hlen] at hN;rw[qC] at hB;have go:∀(S1:aD) (T1:St) (m1:Lm) (B1:Nat) (N1:Int),jg 11 11 B1 N1 S1 T1 m1→stM m1=(x.gM s).1→B1≤B+1→N1≤N+21→S1.g=S.g→S1.aO=S.aO→(∀i,i≠0→m1 i=m i) →
   ∃ m',ai9 ld (s::l) x S m B N (goB ring aO s (BN ring aO l) (x.gM s).1 S1 T1) m':=by
   intro S1 T1 m1 B1 N1 hF1 hy hB1 hN1 EH hf1 hm1;have aju:∀k,k=0∨k=1→fT m1 ring aO k=ld k:=fun k hk=>by rw[Ic hm1 hk];exact RX k hk
   have e:=hF1.adk (ring:=ring) (aO:=aO) hs;rw[aju s hs] at e;unfold goB;rw[e];dsimp only;by_cases h0:(ld s).2=0
   ·rw[if_pos h0];refine⟨m1,⟨B1,N1,hF1,by rw[qC];omega,by rw[hlen];omega⟩,EH,hf1,hm1, ?_, ?_⟩
    ·rw[nR,if_pos (decide_eq_true h0)];exact hy
    ·rw[nR,if_pos (decide_eq_true h0)];show ((ld s).1,(0:Int))=Hq ld s;unfold Hq;rw[if_neg ay]
   ·rw[if_neg h0,if_neg (h70 s)];obtain⟨m',i2⟩:=OT ring aO ld h70 l _ S1 T1 m1 B1 N1 hF1 aju hy (by rw[EH];exact EA) (by rw[EH];exact oH) (by rw[EH];exact kS) ay ay (fun k hk=>hl k (.tail _ hk));obtain⟨B',N',j1,j2,j3⟩:=i2.Kt;have er:nR (fun s=>decide ((ld s).2=0)) (s::l) x=nR (fun s=>decide ((ld s).2=0)) l (x.gM s).1:=by rw[nR,if_neg (by simp[h0])]
    exact⟨m',⟨B',N',j1,by rw[qC];omega,by rw[hlen];omega⟩,i2.g.trans EH,i2.fu.trans hf1,fun i hi=>(i2.rest i hi).trans (hm1 i hi),by rw[er];exact i2.st,by rw[er];exact i2.res⟩
  rw[BN];by_cases ht:(x.gM s).1=x
  ·rw[if_neg (fun h=>h ht)];have :=go S T m B N hF (by rw[ht];exact hx) ay ay rfl rfl (fun _ _=>rfl);rw[ht] at this;exact this
  ·have uI:(bU (x.gM s).1).length=9:=by unfold bU;rw[gZ,aY.fC zN]
   have h8:aA 256 (bU (x.gM s).1):=iP (aY.gJ zN);obtain⟨c1,c2,c3⟩:=hF.change (by show ((11:Nat):Int)<_;omega) oH ay (i0:=0) aN aN aN h8 (by rw[uI];omega);have c4:=pK S T 0 (bU (x.gM s).1);rw[show ((0:Nat):Int)=0 from rfl] at c1 c2 c3;rw[if_pos ht,if_neg (fun h=>h c1)];exact go _ _ _ (B+1) (N+21) c3 (GI zN) (Nat.le_refl _) (Int.le_refl _) c2 c4 (fun i hi=>by unfold Lm.put;rw[if_neg hi])
theorem Fw(hs:slot=0∨slot=1):∀n i,i≤4→4<n+i→(gF m slot n i).2≠0
 | 0,i,h1,h2=>by omega
 | n+1,i,h1,h2=>by
  rw[gF];split
  ·assumption
  ·rename_i h3;have hi:i≠4:=fun e=>h3 (by subst e;rcases hs with rfl | rfl<;>decide);split
   ·decide
   ·exact Fw hs n (i+1) ay ay
theorem aex(hs:slot=0∨slot=1){i:Nat}(hi:i<4):kZ slot (i:Int)=(2+5*slot+(i:Int),0):=by
 unfold kZ Vh;rw[if_pos (by rcases hs with rfl | rfl<;>simp<;>omega)]
theorem XH(hs:slot=0∨slot=1):kZ slot (-1)=(1+5*slot,0):=by rcases hs with rfl | rfl<;>rfl
theorem Mw.Gl{M:Mw}(h:M.has.getD i false=true):M.aC i=some (iB (bytesOf (M.iw.getD i ByteArray.empty))):=by unfold Mw.aC;rw[if_pos h]
theorem Mw.Ux{M:Mw}(h:M.has.getD i false=false):M.aC i=none:=by unfold Mw.aC;rw[if_neg (by rw[h];decide)]
theorem TN{M:Mw}(hh:M.has.length=11)(hd:M.iw.length=11)(hz:∀i d,i≠0→M.aC i=some d→d.length≤1000000)(hs:slot=0∨slot=1)(hr:Ring K F A m ring):aB prog 39 #[M.v,.i slot,.slice A m c,.i aO] K (M.A::F)
 (fun v H'=>∃(la:La) (A':Option Addr) (c':Nat) (ps:List (Int×Bs)) (E:aH),v= .tuple #[.agg (la.cells A' c' 0).toArray,.bool (decide ((fT M.aC ring aO slot).2=0))]∧((fT M.aC ring aO slot).2=0→la=(fT M.aC ring aO slot).1) ∧
  la.jS=ps.map (fun p=>(p.1,p.2.l))∧(∀H,kD K (E::H) A' ps)∧H'=M.A::E::F):=by
 obtain⟨X,hX⟩:∃X,X=fT M.aC ring aO slot:=⟨_,rfl⟩;rw[←hX];have uN:X.2≠0→∃(la:La) (A':Option Addr) (c':Nat) (ps:List (Int×Bs)) (E:aH),Value.tuple #[.agg (La.zero.cells none 0 0).toArray,.bool false]= .tuple #[.agg (la.cells A' c' 0).toArray,.bool (decide (X.2=0))]∧(X.2=0→la=X.1) ∧
  la.jS=ps.map (fun p:Int×Bs=>(p.1,p.2.l))∧(∀H,kD K (E::H) A' ps)∧M.A::bK []::F=M.A::E::F :=
  fun h=>⟨.zero,none,0,[],bK [],by rw[decide_eq_false h],fun h'=>absurd h' h,rfl,fun H=>⟨⟨rfl,fun i v hi=>by simp at hi⟩,fun p hp=>by cases hp⟩,rfl⟩
 obtain⟨a,ha⟩:∃a:Nat,(a:Int)=1+5*slot:=⟨(1+5*slot).toNat,by omega⟩;have ha6:a≤6:=ay;have hrH:∀i:Nat,i<11→Rd K (M.A::F) (M.Ah.map (·.add ((i:Int).toNat*1))) (.bool (M.has.getD i false)):=fun i hi=>by rw[Int.toNat_natCast];exact Mw.rdH ay
 have hrD:∀i:Nat,i<11→Rd K (M.A::F) (M.Ad.map (·.add ((i:Int).toNat*1))) (.string (M.iw.getD i ByteArray.empty)):=fun i hi=>by rw[Int.toNat_natCast];exact Mw.rdD ay
 unfold fT at hX;rw[XH hs,←ha,Int.toNat_natCast] at hX;obtain⟨s,UN⟩:∃s,s=M.iw.getD a ByteArray.empty:=⟨_,rfl⟩;have tu:=hrD a ay;rw[←UN] at tu;obtain⟨sd,Zc⟩:∃sd,sd=iB (bytesOf s):=⟨_,rfl⟩;have nS:aA 256 sd:=by rw[Zc];exact iP (eY _)
 have mR:sd.length=s.size:=by rw[Zc,gZ,bytesOf_length]
 unfold Mw.v;refine aB.en func39 ntmps39 ?_;refine aj "a~9" fun b4=> ?_;refine aj "v" fun b8=> ?_;refine aj "k~L$" ?_;refine WL.val (V.aG (v':= .i (a:Int)) (V.assign (ak rfl)) (fun _=>by rw[ha])) rfl<|aj "Dapc" ?_;refine WL.val (V.dw aeh (ak rfl) (ak rfl) (fun _=>by omega) (fun _=>by repeat (first | exact hrH a ay | apply Rd.up))) rfl<|WL.val (V.load isAgg4 (ak rfl) (fun _=>by repeat (first | exact hrH a ay | apply Rd.up))) rfl<|aj "%j" (aW (fun h0=> ?_) fun h0=> ?_)
 ·simp only[Bool.not_eq_true',Bool.not_eq_false'] at h0;rw[Mw.Ux h0] at hX;dsimp only at hX;refine aj "a?Cd" ?_;exact aF.ret (H':=M.A::bK []::F) (rA rfl rfl ⟨isAgg37,sizeOf37⟩ rfl) (fun w h=>(Sat.all (l:=[]) (h.bg 3 [2] rfl)).p1) (uN (by rw[hX];decide))
 ·simp only[Bool.not_eq_true',Bool.not_eq_false'] at h0;have hgl:sd.length≤1000000:=hz a sd ay (by rw[Mw.Gl h0,←UN,←Zc]);rw[Mw.Gl h0,←UN,←Zc] at hX;dsimp only at hX;refine aj "Wcpc" ?_;refine WL.val (V.dw abj (ak rfl) (ak rfl) (fun _=>by omega) (fun _=>by repeat (first | exact tu | apply Rd.up))) rfl<|WL.val (V.load isAgg9 (ak rfl) (fun _=>by repeat (first | exact tu | apply Rd.up))) rfl<|aj "~~W" fun b72 am4 ajV ZG Oi=> ?_;have Zd:∀H':List aH,Seq K (lZ b72 5 ajV::H') (some ⟨b72,0,none⟩) s.size 1 (av .u8 sd):=fun H'=>by
   have :=Oi H';rw[mJ (eY s)] at this;rw[Zc];exact this
  refine WL.c3 call20 rfl rfl rfl (AO (aO:=aO) (ring:=ring) (sd:=sd) hr.up.up.up.up (Zd _) nS ay ZG) rfl ?_;rintro _ _ ⟨As,ca,E1,rfl,hE,rfl⟩;obtain⟨Y8,hh1⟩:∃Y8,Y8=eT ring aO sd:=⟨_,rfl⟩;rw[←hh1] at hE hX ⊢;refine aj "8v" fun b11=> ?_;refine aj "Cfsc~g~f~J~lOj" (aW (fun h1=> ?_) fun h1=> ?_)
  ·simp only[iC] at h1;refine aj "a?Cd" ?_;exact aF.ret (H':=M.A::bK []::F) (rA rfl rfl ⟨isAgg37,sizeOf37⟩ rfl) (fun w h=>(Sat.all (l:=[]) (h.bg 6 [5] rfl)).p1) (uN (by
    rw[hX];by_cases he:Y8.2=0
    ·rw[if_neg (fun h=>h he)];have :=Fw (m:=M.aC) hs Y8.1.gH.length 0 ay ay;rw[if_pos this];exact this
    ·rw[if_pos he];exact he))
  ·simp only[iC] at h1;refine aj "iatagu" ?_;obtain⟨he0,hn4⟩:=h1;rw[if_neg (fun h=>h he0)] at hX;obtain⟨n,hn⟩:∃n,n=Y8.1.gH.length:=⟨_,rfl⟩;rw[←hn] at hX hn4;obtain⟨Q0,hQ0⟩:∃Q0,Q0=gF M.aC slot n 0:=⟨_,rfl⟩;rw[←hQ0] at hX;refine WC.loop (σ:=Nat×Option Addr×Nat×List Bs×List aH) (fun s=>[(1,.i slot),(2,.slice A m c),(3,.i aO),(4,ptr b4 0),(8,ptr b8 0),(10,.i (a:Int)),(11,ptr b11 0),(13,.slice s.2.1 s.1 s.2.2.1),(14,.i (s.1:Int))])
    (fun s=>aV (.slice s.2.1 s.1 s.2.2.1) 34 1 s.1 (s.2.2.2.1.map Bs.v)::bK s.2.2.2.2::ah b11 42 (Y8.1.cells As ca)::E1::ah b8 37 [.i 0,.i 0,.i 0,.slice none 0 0,.i 0]::ah b4 81 M.cells::M.A::F)
    (fun s=>s.1≤n∧s.2.2.2.1.length=s.1∧(∀p∈s.2.2.2.1,(∃C∈s.2.2.2.2,Seq K [C] p.A p.m 1 (av .u8 p.l))∧aA 256 p.l∧p.m≤1000000)∧Q0=(s.2.2.2.1.map Bs.l++(gF M.aC slot (n-s.1) s.1).1,(gF M.aC slot (n-s.1) s.1).2)) (fun s=>n-s.1)
    (0,none,0,[],[]) ⟨zero_le _,rfl,fun p hp=>by (cases hp),by dsimp only;rw[hQ0,Nat.sub_zero];rfl⟩ bC (fun w h=>(Sat.all (l:=[]) (h.bg 6 [0,1,3,4,5] rfl)).gI 34 1) ?_
   rintro⟨i,A13,c13,ds,la⟩ ⟨hi,wF,hdo,Dn⟩;dsimp only at hi wF hdo Dn ⊢;refine aj "rpn1j" (aW (fun h2=> ?_) fun h2=> ?_)
   ·simp only[cZ] at h2;have BG:i<n:=ay;rw[show n-i=n-(i+1)+1 by omega,gF,aex hs (show i<4 by omega),if_neg (fun h=>h rfl)] at Dn;dsimp only at Dn;rw[show (2+5*slot+(i:Int)).toNat=a+1+i by omega] at Dn;have hri:Rd K (M.A::F) (M.Ah.map (·.add (((a:Int)+1+(i:Int)).toNat*1))) (.bool (M.has.getD (a+1+i) false)):=by
     have :=hrH (a+1+i) ay
     rwa [show ((a+1+i:Nat):Int)=(a:Int)+1+(i:Int) by omega] at this
    obtain⟨s2,pI⟩:∃s2,s2=M.iw.getD (a+1+i) ByteArray.empty:=⟨_,rfl⟩;have akB:Rd K (M.A::F) (M.Ad.map (·.add (((a:Int)+1+(i:Int)).toNat*1))) (.string s2):=by
     have :=hrD (a+1+i) ay
     rwa [show ((a+1+i:Nat):Int)=(a:Int)+1+(i:Int) by omega,←pI] at this
    refine aj "HPapc$c$" ?_;refine WL.val (V.dw aeh (ak rfl) (ak rfl) (fun _=>by omega) (fun _=>by repeat (first | exact hri | apply Rd.up))) rfl<|WL.val (V.load isAgg4 (ak rfl) (fun _=>by repeat (first | exact hri | apply Rd.up))) rfl<|aj "%j" (aW (fun h3=> ?_) fun h3=> ?_)
    ·simp only[Bool.not_eq_true',Bool.not_eq_false'] at h3;rw[Mw.Ux h3] at Dn;dsimp only at Dn;refine aj "a?~Fd" ?_;exact aF.ret (H':=M.A::bK []::F) (rA rfl rfl ⟨isAgg37,sizeOf37⟩ rfl) (fun w h=>(Sat.all (l:=[]) (h.bg 7 [6] rfl)).p1) (uN (by rw[hX,Dn,if_pos (show (5:Int)≠0 by decide)];show (5:Int)≠0;decide))
    ·simp only[Bool.not_eq_true',Bool.not_eq_false'] at h3;have ao7:s2.size≤1000000:=by have :=hz (a+1+i) _ ay (Mw.Gl h3);rwa [gZ,bytesOf_length,←pI] at this
     rw[Mw.Gl h3,←pI] at Dn;dsimp only at Dn;refine aj "ihpc$c$" ?_;refine WL.val (V.dw abj (ak rfl) (ak rfl) (fun _=>by omega) (fun _=>by repeat (first | exact akB | apply Rd.up))) rfl<|WL.val (V.load isAgg9 (ak rfl) (fun _=>by repeat (first | exact akB | apply Rd.up))) rfl<|WL.He (s:=s2) rfl underlying9 underlying34 underlying5 (ak rfl) rfl (fun b73 aiW akf aq9 anr=> ?_);have amL:∀H':List aH,Seq K (lZ b73 5 akf::H') (some ⟨b73,0,none⟩) s2.size 1 (av .u8 (iB (bytesOf s2))):=fun H'=>by
      have :=anr H';rw[mJ (eY s2)] at this;exact this
     refine WL.buildSlice (E:=34) (cs:=[_]) (vs:=[(0,_)]) ⟨ak rfl,trivial⟩ rfl (Lv _ _ _) rfl (fun b75=>aj "~~f" ?_);refine WL.append (m:=i) (q:=1) (news:=[Bs.v ⟨some ⟨b73,0,none⟩,s2.size,aiW,iB (bytesOf s2)⟩]) underlying47 aiF (ak rfl) (ak rfl) (Seq.all rfl) (by intro u hu;rw[mem_singleton.1 hu];rfl) ay rfl rfl (fun A80 c80 amZ anG=>aj "gh$Y" ?_);refine⟨(i+1,A80,c80,ds++[⟨some ⟨b73,0,none⟩,s2.size,aiW,iB (bytesOf s2)⟩],lZ b73 5 akf::la),⟨by show i+1≤n;omega,by simp[wF],fun p' BA=> ?_, ?_⟩,(by show n-(i+1)<n-i;omega),.cons rfl bC,fun w h=> ?_⟩
     ·rcases mem_append.1 BA with h' | h'
      ·obtain⟨⟨C,hC,Bz⟩,h2⟩:=hdo p' h';exact⟨⟨C,.tail _ hC,Bz⟩,h2⟩
      ·rw[mem_singleton.1 h'];exact⟨⟨_,.head _,amL []⟩,iP (eY _),ao7⟩
     ·dsimp only;rw[Dn];simp
     ·have h2:=((h.bg 9 [2,3,0,4,5,6,7,8] rfl).Bc).p1;simp only[map_append,map_cons,map_nil];exact h2
   ·simp only[cZ] at h2;refine aj "T" ?_;obtain rfl:i=n:=by omega
    rw[Nat.sub_self,gF,append_nil] at Dn;rw[Dn,if_neg (fun h=>h rfl)] at hX;obtain⟨Y,hY⟩:∃Y,Y=kW ring aO sd (ds.map Bs.l):=⟨_,rfl⟩;dsimp only at hX;rw[←hY] at hX;refine aj "Mpc" ?_;refine WL.val (V.dw abj (ak rfl) (ak rfl) (fun _=>by omega) (fun _=>by repeat (first | exact tu | apply Rd.up))) rfl<|WL.val (V.load isAgg9 (ak rfl) (fun _=>by repeat (first | exact tu | apply Rd.up))) rfl<|aj "~~W" fun b74 asQ anw am6 an8=> ?_;have amW:∀H':List aH,Seq K (lZ b74 5 anw::H') (some ⟨b74,0,none⟩) s.size 1 (av .u8 sd):=fun H'=>by
     have :=an8 H';rw[mJ (eY s)] at this;rw[Zc];exact this
    refine WL.mv rfl rfl ?_;refine WL.c4 call105 rfl rfl rfl rfl (FB (aO:=aO) (ring:=ring) (sd:=sd) (ds:=ds) hr.up.up.up.up.up.up.up.up (amW _) nS ay am6 ⟨(aV.seq (by rw[length_map,wF,Nat.mul_one])).up,fun p hp=>by
     obtain⟨⟨C,hC,Bz⟩,h2,h3⟩:=hdo p hp;exact⟨(uz hC Bz).up.up,h2,h3⟩⟩ ay) rfl ?_
    rintro _ _ ⟨A',c',ps,E2,rfl,l7,hE2,rfl⟩;rw[←hY] at l7 ⊢;refine aj "8v" fun b15=> ?_;refine aj "Ck7~>LBc9~Fd" ?_;exact aF.ret (H':=M.A::E2::F) (rA rfl rfl ⟨isAgg37,sizeOf37⟩ rfl) (fun w h=>h.bg 10 [9,1] rfl) ⟨{ Y.1 with slot:=slot },A',c',ps,E2,by rw[hX],fun _=>by rw[hX],l7,hE2,rfl⟩
structure Hz where
 (kind aS:Int)
 s:ByteArray
abbrev Hz.cells(o:Hz):List Value:=[.i o.kind,.i o.aS,.string o.s]
structure nZ(K:World)(F:List aH)(A:Option Addr)(m:Nat)(l:List Hz):Prop where
 seq:Seq K F A m 3 (l.map Hz.cells).flatten
 len:l.length=m
theorem nZ.up{K:World}{F:List aH}{A:Option Addr}{m:Nat}{l:List Hz}{X:aH}(h:nZ K F A m l):nZ K (X::F) A m l:=⟨h.seq.up,h.len⟩
theorem uQ:∀ {l:List (List Value)},(∀x∈l,x.length=s)→∀ {i j:Nat} {x:List Value} {v:Value},l[i]? =some x→x[j]? =some v→l.flatten[i*s+j]? =some v
 | [],_,_,_,_,_,h,_=>by simp at h
 | y::l,hs,0,j,x,v,h,hj=>by
  simp at h;subst h;rw[flatten_cons,Nat.zero_mul,Nat.zero_add,getElem?_append_left]
  ·exact hj
  ·rcases Nat.lt_or_ge j y.length with h | h
   ·exact h
   ·rw[getElem?_eq_none h] at hj;cases hj
 | y::l,hs,i+1,j,x,v,h,hj=>by
  have hy:=hs y (.head _);rw[flatten_cons,getElem?_append_right (by rw[hy,Nat.add_mul];omega),hy,show (i+1)*s+j-s=i*s+j by rw[Nat.add_mul];omega];exact uQ (fun z hz=>hs z (.tail _ hz)) (by simpa using h) hj
theorem nZ.elem(h:nZ K F A m l)(hi:l[i]? =some o)(hj:o.cells[j]? =some v):Rd K F (A.map (·.add (i*3+j))) v :=
 h.seq.rd _ _ (uQ (fun x hx=>by obtain⟨o,_,rfl⟩:=mem_map.1 hx;rfl) (by rw[getElem?_map,hi];rfl) hj)
def Rj(l:List Hz)(cap:Int):Bool:=decide ((l.length:Int)≤60)&&l.all fun o=> !decide (cap<(o.s.size:Int))
theorem XA(hs:nZ K F A m l):aK prog 34 #[.slice A m c,.i cap] K F (.bool (Rj l cap)):=by
 have hll:=hs.len;refine aB.en func34 ntmps34 ?_;refine aj "afn~Nj" (aW (fun aL=> ?_) fun aL=> ?_)
 ·simp only[cZ,Int.not_lt] at aL;refine aj "I:" ?_;unfold Rj;rw[decide_eq_false ay];rfl
 ·simp only[cZ,Int.not_lt] at aL;refine aj "~bagu" ?_;refine WC.loop (σ:=Nat) (fun i=>[(0,.slice A m c),(1,.i cap),(5,.i (i:Int))]) (fun i=>F) (fun i=>i≤m∧(l.take i).all (fun o=> !decide (cap<(o.s.size:Int)))=true) (fun i=>m-i) 0 ⟨zero_le _,rfl⟩ bC cO ?_;rintro i ⟨hi,nT⟩;refine aj "rcn1j" (aW (fun aQ=> ?_) fun aQ=> ?_)
  ·try simp only[iC] at aQ
   refine aj "HP" ?_;obtain⟨o,ho⟩:∃o,l[i]? =some o:=⟨_,getElem?_eq_getElem ay⟩;have hr4:Rd K F (A.map (·.add (i*3+2))) (.string o.s):=hs.elem ho rfl;have KC:Rd K F (A.map (·.add (i*3))) (.i o.kind):=hs.elem (j:=0) ho rfl;have Bv:(i:Int).toNat=i:=ay;refine aj "M" ?_;refine WL.val (V.aG (v':=sp A (i*3)) (V.dw ajT (ak rfl) (ak rfl) (fun hc=>by omega) (fun hc=>by rw[Bv];exact KC)) (fun _=>by rw[Bv])) rfl<|WL.val (V.uY (k':=i*3+2) abz (ak rfl) (fun _=>hr4)) rfl<|WL.val (V.load isAgg9 (ak rfl) (fun _=>hr4)) rfl<|WL.val (V.ahA runUnderlying9 (ak rfl)) rfl<|aj "c~Nj" (aW (fun h2=> ?_) fun h2=> ?_)
   ·skip
    refine aj "I:" ?_;have h3:l.all (fun o=> !decide (cap<(o.s.size:Int)))=false:=by
     rw[←Bool.not_eq_true];intro h;have :=all_eq_true.1 h o (mem_of_getElem? ho);rw[h2] at this;cases this
    unfold Rj;rw[h3,Bool.and_false]
   ·skip
    refine aj "ih$Y" ?_;refine⟨i+1,⟨by show i+1≤m;omega, ?_⟩,(by show m-(i+1)<m-i;omega),.cons rfl bC,fun w h=>h⟩;rw[take_add_one,ho,all_append,nT];show ((!decide (cap<(o.s.size:Int)))&&true)=true;rw[h2];rfl
  ·try simp only[iC] at aQ
   refine aj "NI:" ?_;obtain rfl:i=m:=by omega
   rw[take_of_length_le ay] at nT;unfold Rj;rw[nT,decide_eq_true ay];rfl
theorem vo{α:Type}{f:α→List Value}(hf:∀x,(f x).length=s):∀ {l:List α} {i j:Nat} {x:α} {v:Value},l[i]? =some x→(f x)[j]? =some v→(l.flatMap f)[i*s+j]? =some v:=fun {l i j x v} h1 h2=>by
 rw[flatMap_def];exact uQ (fun y hy=>by obtain⟨z,_,rfl⟩:=mem_map.1 hy;exact hf z) (by rw[getElem?_map,h1];rfl) h2
theorem TB{la:La}(h1:la.jS=ps1.map fun p=>(p.1,p.2.l))(h2:la.jS=ps2.map fun p=>(p.1,p.2.l))(hL1:kD K F A1 ps1)(hL2:kD K F A2 ps2)(hnb:la.jS.length≤1000000) :
 aK prog 41 #[.agg (la.cells A1 c1 e).toArray,.agg (la.cells A2 c2 e).toArray] K F (.bool true):=by
 obtain⟨n,hn⟩:∃n,n=la.jS.length:=⟨_,rfl⟩;rw[←hn] at hnb;have hn1:ps1.length=n:=by rw[hn,h1,length_map]
 have hn2:ps2.length=n:=by rw[hn,h2,length_map]
 unfold La.cells;rw[←hn];refine aB.en func41 ntmps41 ?_;refine aj "a*" fun b2=> ?_;refine aj "*" fun b3=> ?_;refine aj "tappsc~g~f~g~f~WOc~g~f~g~f~WOc~g~f~g~f~WOc~g~f~J~g~f~J~WO5~bagu" ?_;refine WC.loop (σ:=Nat) (fun i=>[(2,ptr b2 0),(3,ptr b3 0),(5,.i (i:Int))]) (fun i=>ah b3 37 [.i la.slot,.i la.yS,.i la.sec,.slice A2 n c2,.i e]::ah b2 37 [.i la.slot,.i la.yS,.i la.sec,.slice A1 n c1,.i e]::F) (fun i=>i≤n) (fun i=>n-i) 0 (zero_le _) bC cO ?_;rintro i hi;refine aj "rpn1j" (aW (fun aQ=> ?_) fun aQ=> ?_)
 ·simp only[cZ] at aQ;have BG:i<n:=ay;obtain⟨p,hp⟩:∃p,ps1[i]? =some p:=⟨_,getElem?_eq_getElem ay⟩;obtain⟨q,hq⟩:∃q,ps2[i]? =some q:=⟨_,getElem?_eq_getElem ay⟩;have hpq:p.1=q.1∧p.2.l=q.2.l:=by
   have e1:la.jS[i]? =some (p.1,p.2.l):=by rw[h1,getElem?_map,hp];rfl
   have e2:la.jS[i]? =some (q.1,q.2.l):=by rw[h2,getElem?_map,hq];rfl
   rw[e1] at e2;injection e2 with e3
   injection e3 with e4 e5
   exact⟨e4,e5⟩
  have Bv:(i:Int).toNat=i:=ay;have ra0:Rd K F (A1.map (·.add (i*2))) (.i p.1):=hL1.seq.rd (i*2) _ (vo (f:=VA) (s:=2) (j:=0) (fun _=>rfl) hp rfl);have ra1:Rd K F (A1.map (·.add (i*2+1))) p.2.v:=hL1.seq.rd (i*2+1) _ (vo (f:=VA) (s:=2) (fun _=>rfl) hp rfl);have rb0:Rd K F (A2.map (·.add (i*2))) (.i q.1):=hL2.seq.rd (i*2) _ (vo (f:=VA) (s:=2) (j:=0) (fun _=>rfl) hq rfl);have rb1:Rd K F (A2.map (·.add (i*2+1))) q.2.v:=hL2.seq.rd (i*2+1) _ (vo (f:=VA) (s:=2) (fun _=>rfl) hq rfl);have sa:Seq K F p.2.A p.2.m 1 (ints .u8 (bH p.2.l)):=by rw[←jX];exact hL1.ok p (mem_of_getElem? hp)
  have sb:Seq K F q.2.A q.2.m 1 (ints .u8 (bH p.2.l)):=by rw[←jX,hpq.2];exact hL2.ok q (mem_of_getElem? hq)
  refine aj "HP~m~y~H." ?_;refine WQ.val (V.aG (v':=sp A1 (i*2)) (V.dw adX (ak rfl) (ak rfl) (fun hc=>by omega) (fun hc=>by rw[Bv];exact ra0.up.up)) (fun _=>by rw[Bv])) rfl<|WQ.val (V.uY (k':=i*2+0) Wi (ak rfl) (fun _=>ra0.up.up)) rfl<|WQ.val (V.load isAgg3 (ak rfl) (fun _=>ra0.up.up)) rfl<|aj "~y~H." ?_;refine WQ.val (V.aG (v':=sp A2 (i*2)) (V.dw adX (ak rfl) (ak rfl) (fun hc=>by omega) (fun hc=>by rw[Bv];exact rb0.up.up)) (fun _=>by rw[Bv])) rfl<|WQ.val (V.uY (k':=i*2+0) Wi (ak rfl) (fun _=>rb0.up.up)) rfl<|WQ.val (V.load isAgg3 (ak rfl) (fun _=>rb0.up.up)) rfl<|aj "~~,.~~`~~~p~]" ?_;refine WQ.bI (oj:=_) rfl rfl rfl GC.f (V.aG (v':=sp A1 (i*2)) (V.dw adX (OV.g rfl id) (OV.g rfl id) (fun hc=>by omega) (fun hc=>by rw[Bv];exact ra0.up.up)) (fun _=>by rw[Bv])) rfl<|WQ.bI (oj:=_) rfl rfl rfl GC.f (V.uY (k':=i*2+1) Vj (OV.g rfl id) (fun _=>ra1.up.up)) rfl<|WQ.bI (oj:=_) rfl rfl rfl GC.f (V.load isAgg34 (OV.g rfl id) (fun _=>ra1.up.up)) rfl<|WQ.bI (oj:=_) rfl rfl rfl GC.f (V.iM (xs:=bH p.2.l) underlying34 underlying5 underlying9 (OV.g rfl id) (fun _=>sa.up.up)) rfl<|aj "~~`~~~p~]" ?_;refine WQ.bI (oj:=_) rfl rfl rfl GC.f (V.aG (v':=sp A2 (i*2)) (V.dw adX (OV.g rfl id) (OV.g rfl id) (fun hc=>by omega) (fun hc=>by rw[Bv];exact rb0.up.up)) (fun _=>by rw[Bv])) rfl<|WQ.bI (oj:=_) rfl rfl rfl GC.f (V.uY (k':=i*2+1) Vj (OV.g rfl id) (fun _=>rb1.up.up)) rfl<|WQ.bI (oj:=_) rfl rfl rfl GC.f (V.load isAgg34 (OV.g rfl id) (fun _=>rb1.up.up)) rfl<|WQ.bI (oj:=_) rfl rfl rfl GC.f (V.iM (xs:=bH p.2.l) underlying34 underlying5 underlying9 (OV.g rfl id) (fun _=>sb.up.up)) rfl<|WQ.bI (oj:=_) rfl rfl rfl GC.f (V.agA (OV.g rfl id) (OV.g rfl id)) rfl (aj "~~x~i" ?_);refine WC.ni rfl ((by rw[hpq.1];simp))<|aj "ih$Y" ?_;exact⟨i+1,(by show i+1≤n;omega),(by show n-(i+1)<n-i;omega),.cons rfl bC,fun w h=>h⟩
 ·simp only[cZ] at aQ;exact aj "NI+" trivial
theorem jg.alc(h:jg aJ L B N S T m)(wR:i0<aJ) :
 (dX S T (i0:Int)).2.2=0∧(dX S T (i0:Int)).1.g=S.g∧jg aJ L B N (dX S T (i0:Int)).1 (dX S T (i0:Int)).2.1 (m.put i0 none):=by
 obtain⟨st,hI⟩:=h.si;obtain⟨r1,r2,r3,r4,r5,r6,r7⟩:=aD.SS hI h.up wR;have hl:=r4 h.left;have Zk:=h.next;rcases r7 with ⟨q1,q2,q3⟩ | ⟨q1,_⟩
 ·refine⟨q1,r1,q3,q2,hl.1,fun b=>by rw[r2];exact h.dQ b,fun b=> ?_,r3.none h.bM,by omega⟩;cases hm:(dX S T (i0:Int)).1.marked b with
  | false=>rfl
  | true =>
   rcases r6 (by rw[q1];exact tV) b hm with h1 | h1
   ·rw[h.un] at h1;cases h1
   ·rw[h.dQ] at h1;cases h1
 ·exact absurd q1 hl.2
theorem E9:∀(xs:List Int) (S:aD),(dP xs S).1.aO=S.aO
 | [],S=>rfl
 | x::xs,S=>by
  rw[dP];split
  ·exact aD.wS S x
  ·rw[E9 xs,aD.wS]
theorem Q7(S:aD)(T:St)(aS:Int):(dX S T aS).1.aO=S.aO:=by
 unfold dX;repeat (first | rfl | exact E9 _ _ | split)
theorem jg.akA(h:jg 11 11 B N S T m)(EA:11<S.g.bl)(oH:S.g.bl≤20)(kS:16≤S.g.cap)(hN:N≤900000)(hk:F9 slot sec 0=true) :
 (sF S T slot sec 0).2.2=0∧(sF S T slot sec 0).1.g=S.g∧(sF S T slot sec 0).1.aO=max S.aO sec∧jg 11 11 (B+1) (N+21) (sF S T slot sec 0).1 (sF S T slot sec 0).2.1 (m.put 0 (some (bU ((stM m).dR slot).1))):=by
 have dL:=h.lK aN;have mR:(slot=0∨slot=1)∧0≤sec∧sec≤64:=by unfold F9 at hk;simp at hk;omega
 have hx:=Ay (qw m) mR.1;obtain⟨x,hxe⟩:∃x,x=((stM m).dR slot).1:=⟨_,rfl⟩;rw[←hxe] at hx ⊢;have uI:(bU x).length=9:=by unfold bU;rw[gZ,aY.fC hx]
 have h8:aA 256 (bU x):=iP (aY.gJ hx);obtain⟨c1,c2,c3⟩:=h.change (by show ((11:Nat):Int)<_;omega) oH ay (i0:=0) aN aN aN h8 (by rw[uI];omega);have cf:=pK S T 0 (bU x);rw[show ((0:Nat):Int)=0 from rfl] at c1 c2 c3;obtain⟨X,hX⟩:∃X,X=bq S T 0 (bU x):=⟨_,rfl⟩;rw[←hX] at c1 c2 c3 cf;have hu:X.1.up=true:=c3.up;have hl:X.1.left=0:=c3.left;unfold sF;rw[if_neg (by rw[hk];decide),dL,if_neg (fun h=>h rfl)];dsimp only;rw[←hxe,←hX,if_neg (fun h=>h c1)];have hfu:X.1.Ma=X.1.aO:=by unfold aD.Ma;rw[if_pos hu]
 rw[hfu];split
 ·rename_i hf;have e:X.1.oP sec=({ X.1.bE with aO:=sec },0):=by
   unfold aD.oP aD.all aD.after aD.cut;rw[if_neg (by rw[hu];decide),if_neg ay,if_neg ay,hl];rfl
  rw[e];obtain⟨st,hI⟩:=c3.si;refine⟨rfl,c2,by show sec=_;omega,⟨st,hI.eqv (aD.Eqv.of rfl rfl rfl rfl rfl)⟩, ?_, ?_,c3.dQ,c3.un,c3.bM,c3.next⟩
  ·show (X.1.up&& !X.1.cut)=true;unfold aD.cut;rw[hu,hl];rfl
  ·show (if X.1.left=0 then (0:Int) else X.1.left-1)=0;rw[if_pos hl]
 ·exact⟨rfl,c2,by dsimp only;omega,c3⟩
structure Jj(m M:Lm):Prop where
 rest:∀i,i≠0→m i=M i
 st:stM m=stM M
theorem ZQ(h:m 0=m' 0):stM m=stM m':=by unfold stM;rw[h]
theorem Jj.put(h:Jj m M)(i:Nat)(v:Option (List Nat)):Jj (m.put i v) (M.put i v):=by
 refine⟨fun k hk=> ?_, ?_⟩
 ·unfold Lm.put;split
  ·rfl
  ·exact h.rest k hk
 ·by_cases hi:i=0
  ·exact ZQ (by unfold Lm.put;rw[if_pos hi.symm,if_pos hi.symm])
  ·have e:∀m:Lm,stM (m.put i v)=stM m:=fun m=>ZQ (by unfold Lm.put;rw[if_neg (fun h=>hi h.symm)]);rw[e,e];exact h.st
theorem Jj.load(h:Jj m M)(hs:slot=0∨slot=1)(ring:List Ky)(aO:Int):fT m ring aO slot=fT M ring aO slot:=Ic h.rest hs ring aO
theorem Lg(m:Lm)(slot:Int):∀n i,(gF m slot n i).2≠70
 | 0,_=>by rw[gF];decide
 | n+1,i=>by
  rw[gF];split
  ·unfold kZ;split<;>(dsimp only;decide)
  ·split
   ·decide
   ·exact Lg m slot n (i+1)
theorem QC(r:List Ky)(aO:Int)(b:List Nat):(eT r aO b).2≠70:=by
 unfold eT;split
 ·decide
 split
 ·decide
 cases iL (b.take (b.length-64)) with
 | none=>rw[IX];decide
 | some M =>
  rw[IX];have hk:(q9 r M.key).2≠70:=by unfold q9;repeat (first | decide | (dsimp only;decide) | split)
  split
  ·exact hk
  repeat (first | decide | (dsimp only;decide) | split)
theorem ZX(m:Lm)(ring:List Ky)(aO slot:Int):(fT m ring aO slot).2≠70:=by
 unfold fT;split
 ·decide
 split
 ·exact QC _ _ _
 split
 ·exact Lg _ _ _ _
 ·dsimp only;unfold kW;split
  ·exact QC _ _ _
  repeat (first | decide | (dsimp only;decide) | split)
theorem _root_.Go.Sl.aK.perm{P:Program}{K:World}{F F':List aH}{f:FuncId}{args:Array Value}{u:Value}(h:aK P f args K F' u)(h1:∀w,Sat K w F→Sat K w F')(h2:∀w,Sat K w F'→Sat K w F):aK P f args K F u :=
 aB.afS (aB.sat h h1) fun v H' ⟨e1,e2⟩=>⟨F,by rw[e2];exact h2,e1,rfl⟩
theorem _root_.Go.Sl.aK.mem{P:Program}{K:World}{A:aH}{H:List aH}{f:FuncId}{args:Array Value}{u:Value}(h:∀F,aK P f args K (A::F) u)(hm:A∈H):aK P f args K H u:=by
 obtain⟨s,t,rfl⟩:=List.append_of_mem hm;exact aK.perm (h (s++t)) (fun w hw=>Sat.afD perm_middle hw) (fun w hw=>Sat.afD perm_middle.symm hw)
theorem E5{α:Type}{f:α→List Value}{s:Nat}:∀(l:List α) (hf:∀x∈l,(f x).length=s) (k i:Nat) (x y:α) (v:Value),l[k]? =some x→i<s→f y=(f x).set i v→(l.flatMap f).set (k*s+i) v=(l.set k y).flatMap f
 | [],_,k,i,x,y,v,h,_,_=>by simp at h
 | z::l,hf,0,i,x,y,v,h,hi,hy=>by
  simp only[getElem?_cons_zero,Option.some.injEq] at h;subst h;rw[set_cons_zero,flatMap_cons,flatMap_cons,Nat.zero_mul,Nat.zero_add,set_append,if_pos (by rw[hf z (.head _)];exact hi),hy]
 | z::l,hf,k+1,i,x,y,v,h,hi,hy=>by
  have ih:=E5 l (fun z hz=>hf z (.tail _ hz)) k i x y v (by simpa using h) hi hy;have hz:=hf z (.head _);rw[set_cons_succ,flatMap_cons,flatMap_cons,set_append,if_neg (by rw[hz,succ_mul];omega),hz,←ih];congr 2;rw[succ_mul];omega
theorem bT.slS{K:World}{H:List aH}{gb o m s cap E:Nat}{cs:List Value}{v:Value}(ho:o<m*s):bT K (aV (.slice (some ⟨gb,0,none⟩) m cap) E s m cs::H) gb o [v] (aV (.slice (some ⟨gb,0,none⟩) m cap) E s m (cs.set o v)::H):=by
 have nS:∀w:World,RA w w:=fun w=>⟨rfl,rfl,rfl,Nat.le_refl _⟩;refine⟨fun B' Y7 k hk=> ?_,⟨_,.head _,rfl⟩,fun w hw=> ?_,fun w hw=> ?_⟩
 ·rcases mem_cons.1 Y7 with rfl | h
  ·exact⟨_,.head _,hk⟩
  ·exact⟨_,.tail _ h,hk⟩
 ·obtain⟨r,⟨h1,h2,h3,h4⟩,h5⟩:=Sat.nU (K:=w) ⟨nS w,hw⟩;exact (bT.at_ (K:=w) (T:=E) (cs:=cs++r) (v:=v) (by rw[length_append];omega)).may w h5.2
 ·obtain⟨r,⟨h1,h2,h3,h4⟩,h5⟩:=Sat.nU (K:=w) ⟨nS w,hw⟩;have h6:=(bT.at_ (K:=w) (H:=H) (b:=gb) (T:=E) (o:=o) (cs:=cs++r) (v:=v) (by rw[length_append];omega)).sat w h5.2;have h7:=Sat.BX (K:=w.setCells gb o [v]) (s:=s) (m:=m) (cap:=cap) ⟨nS _,h6⟩ (by rw[length_set];exact h1) h3 h4;rw[set_append_left _ _ ay,take_left' (by rw[length_set];omega)] at h7;exact h7.2
theorem aek(r:List Ky)(hk:∀k∈r,k.Ok):∀u∈r.flatMap Ky.cells,u.oneCell'=true:=fun u hu=>by
 obtain⟨k,_,h2⟩:=mem_flatMap.1 hu;unfold Ky.cells at h2;simp only[mem_append,mem_cons,not_mem_nil,or_false,cons_append,nil_append] at h2;rcases h2 with rfl | h2 | rfl
 ·rfl
 ·exact jB _ _ u h2
 ·rfl
theorem abd(n i:Nat):(replicate n false).getD i false=false:=by
 rw[getD];cases h:(replicate n false)[i]? with
 | none=>rfl
 | some b=>rw[eq_of_mem_replicate (mem_of_getElem? h)];rfl
theorem Mw.VU{M:Mw}{n:Nat}(h:M.has=replicate n false):M.aC=fun _=>none:=by
 funext i;exact Mw.Ux (by rw[h];exact abd n i)
structure B24 where
 i:Nat
 C:Cw
 T:bZ
 M:Mw
 r:List Ky
 la:La
 A:Option Addr
 c:Nat
 er:Int
 fu:Int
structure Kj(g:bQ)(M0:Mw)(m:Nat)(b n:Int)(s:B24):Prop where
 ok:s.C.Ok
 geo:s.C.g=g
 tok:s.T.Ok g
 mv:s.M.v=M0.v
 hl:s.M.has.length=11
 dl:s.M.iw.length=11
 sz:∀i d,i≠0→s.M.aC i=some d→d.length≤1000000
 Kt:∃(B:Nat) (N:Int) (mp:Lm),jg 11 11 B N s.C.aC s.T.aC mp∧(B:Int)≤256+b∧N≤1+n∧Jj mp s.M.aC
 fu:s.C.aC.aO=s.fu
 fu0:0≤s.fu
 rl:s.r.length=m
 YL:∀k∈s.r,k.Ok
 la:s.er=0→(s.la.slot=0∨s.la.slot=1)∧0≤s.la.sec
theorem Kj.nxt{g:bQ}{M0:Mw}{m:Nat}{b b' n n':Int}{s:B24}(h:Kj g M0 m b n s){T4:bZ}(hT:T4.Ok g)(ht:T4.aC=s.T.aC)(k:Nat)(hb:b≤b')(hn:n≤n'):Kj g M0 m b' n' { s with i:=k,T:=T4 }:=by
 obtain⟨B,N,mp,h1,h2,h3,h4⟩:=h.Kt;exact⟨h.ok,h.geo,hT,h.mv,h.hl,h.dl,h.sz,⟨B,N,mp,by show jg 11 11 B N s.C.aC T4.aC mp;rw[ht];exact h1,by omega,by omega,h4⟩,h.fu,h.fu0,h.rl,h.YL,h.la⟩
theorem OU{α:Type}(l:List α)(j i:Nat)(a z:α):(l.set j a).getD i z=if j=i∧i<l.length then a else l.getD i z:=by
 simp only[getD,getElem?_set];by_cases h:j=i
 ·subst h;by_cases h2:j<l.length
  ·simp[h2]
  ·simp[h2]
 ·simp[h]
theorem Tw{α:Type}{l:List α}{j:Nat}(hj:j<l.length)(i:Nat)(a z:α):(l.set j a).getD i z=if i=j then a else l.getD i z:=by
 rw[OU];by_cases h:i=j
 ·rw[if_pos ⟨h.symm,by omega⟩,if_pos h]
 ·rw[if_neg (fun k=>h k.1.symm),if_neg h]
theorem Mw.Gr{M:Mw}{j:Nat}{s:ByteArray}(hh:j<M.has.length)(hd:j<M.iw.length):Mw.aC { M with has:=M.has.set j true,iw:=M.iw.set j s }=M.aC.put j (some (iB (bytesOf s))):=by
 funext i;unfold Mw.aC Lm.put;dsimp only;rw[Tw hh,Tw hd];by_cases h:i=j
 ·simp[h]
 ·simp[h]
theorem Mw.tT{M:Mw}{j:Nat}{s:ByteArray}(hh:j<M.has.length):Mw.aC { M with has:=M.has.set j false,iw:=M.iw.set j s }=M.aC.put j none:=by
 funext i;unfold Mw.aC Lm.put;dsimp only;rw[Tw hh];by_cases h:i=j
 ·simp[h]
 ·have e:(M.iw.set j s).getD i ByteArray.empty=M.iw.getD i ByteArray.empty:=by rw[OU,if_neg (fun k=>h k.1.symm)]
  rw[e,if_neg h,if_neg h]
theorem Kj.FT{g:bQ}{M0:Mw}{m:Nat}{b b' n n':Int}{s:B24}(h:Kj g M0 m b n s){C2:Cw}{T2:bZ}{M2:Mw}(hC:C2.Ok)(hg:C2.g=g)(hT:T2.Ok g)(hf:C2.aC.aO=s.C.aC.aO)(hv:M2.v=s.M.v)(hl:M2.has.length=s.M.has.length)(hd:M2.iw.length=s.M.iw.length)
 {j:Nat} {v:Option (List Nat)} (hs:M2.aC=s.M.aC.put j v) (hz:∀d,v=some d→d.length≤1000000) {B:Nat} {N:Int} {mp:Lm} (hR:Jj mp s.M.aC) (hF:jg 11 11 B N C2.aC T2.aC (mp.put j v)) (hB:(B:Int)≤256+b') (hN:N≤1+n'):Kj g M0 m b' n' { s with C:=C2,T:=T2,M:=M2 }:=by
 refine⟨hC,hg,hT,hv.trans h.mv,hl.trans h.hl,hd.trans h.dl,fun i d hi he=> ?_,⟨B,N,_,hF,hB,hN, ?_⟩,hf.trans h.fu,h.fu0,h.rl,h.YL,h.la⟩
 ·have Za:M2.aC i=some d:=he;rw[hs] at Za;unfold Lm.put at Za;split at Za
  ·exact hz d Za
  ·exact h.sz i d hi Za
 ·show Jj (mp.put j v) M2.aC;rw[hs];exact hR.put j v
theorem Ky.XQ{k:Ky}(h:k.Ok):Ky.cells { k with rev:=true }=k.cells.set 33 (.bool true):=by
 unfold Ky.cells;rw[set_cons_succ,set_append,if_neg (by rw[au,h.len];decide),au,h.len];rfl
theorem VG(r:List Ky)(hk:∀k∈r,k.Ok):(r.flatMap Ky.cells).length=r.length*34:=by
 induction r with
 | nil=>rfl
 | cons k r ih=>rw[flatMap_cons,length_append,Ky.dB (hk k (.head _)),ih (fun x hx=>hk x (.tail _ hx)),length_cons];omega
theorem Kj.am7{g:bQ}{M0:Mw}{m:Nat}{b b' n n':Int}{s:B24}(h:Kj g M0 m b n s){C3:Cw}{T4:bZ}(hC:C3.Ok)(hg:C3.g=g)(hT:T4.Ok g)(hc:C3.aC=s.C.aC)(ht:T4.aC=s.T.aC)(hb:b≤b')(hn:n≤n'):Kj g M0 m b' n' { s with C:=C3,T:=T4 }:=by
 obtain⟨B,N,mp,h1,h2,h3,h4⟩:=h.Kt;exact⟨hC,hg,hT,h.mv,h.hl,h.dl,h.sz,⟨B,N,mp,by show jg 11 11 B N C3.aC T4.aC mp;rw[ht,hc];exact h1,by omega,by omega,h4⟩,by show C3.aC.aO=_;rw[hc];exact h.fu,h.fu0,h.rl,h.YL,h.la⟩
theorem Kj.key{g:bQ}{M0:Mw}{m:Nat}{b b' n n':Int}{s:B24}(h:Kj g M0 m b n s){q:Nat}{k:Ky}(hk:s.r[q]? =some k)(hb:b≤b')(hn:n≤n'):Kj g M0 m b' n' { s with r:=s.r.set q { k with rev:=true } }:=by
 obtain⟨B,N,mp,h1,h2,h3,h4⟩:=h.Kt;refine⟨h.ok,h.geo,h.tok,h.mv,h.hl,h.dl,h.sz,⟨B,N,mp,h1,by omega,by omega,h4⟩,h.fu,h.fu0,by rw[length_set];exact h.rl,fun x hx=> ?_,h.la⟩;rcases mem_or_eq_of_mem_set hx with hx | rfl
 ·exact h.YL x hx
 ·have :=h.YL k (mem_of_getElem? hk);exact⟨this.len,this.small⟩
theorem Kj.aoH{g:bQ}{M0:Mw}{m:Nat}{b b' n n' sec:Int}{s:B24}(h:Kj g M0 m b n s){C3:Cw}{T3:bZ}(hC:C3.Ok)(hg:C3.g=g)(hT:T3.Ok g){tc:aY}{slot:Int}(hf:C3.aC.aO=max s.C.aC.aO sec)(hk:tc.ok=true){B:Nat}{N:Int}{mp:Lm}
 (hF:jg 11 11 B N C3.aC T3.aC (mp.put 0 (some (bU ((stM mp).dR slot).1)))) (hR:Jj mp s.M.aC) (htc:tc=((stM s.M.aC).dR slot).1) (hB:(B:Int)≤256+b') (hN:N≤1+n') :
 Kj g M0 m b' n' { s with C:=C3,T:=T3,M:= { s.M with has:=s.M.has.set 0 true,iw:=s.M.iw.set 0 (strOfNums tc.bytes) },fu:=max s.fu sec }:=by
 have nS:=Mw.CF (M:=s.M) (b:=strOfNums tc.bytes) (by rw[h.hl];decide) (by rw[h.dl];decide);rw[Ny hk] at nS;rw[hR.st,←htc] at hF;refine⟨hC,hg,hT,(by unfold Mw.v;simp:Mw.v _=s.M.v).trans h.mv,by simpa using h.hl,by simpa using h.dl,fun i d hi he=> ?_,⟨B,N,_,hF,hB,hN, ?_⟩,by show C3.aC.aO=max s.fu sec;rw[hf,h.fu],by have :=h.fu0;dsimp only;omega,h.rl,h.YL,h.la⟩
 ·have Za:Mw.aC { s.M with has:=s.M.has.set 0 true,iw:=s.M.iw.set 0 (strOfNums tc.bytes) } i=some d:=he;rw[nS] at Za;unfold Lm.put at Za;rw[if_neg hi] at Za;exact h.sz i d hi Za
 ·show Jj _ (Mw.aC _);rw[nS];exact hR.put _ _
theorem kD.up{K:World}{F:List aH}{A:Option Addr}{ps:List (Int×Bs)}{E:aH}(h:kD K F A ps):kD K (E::F) A ps:=⟨h.seq.up,fun p hp=>(h.ok p hp).up⟩
theorem kD.nil{K:World}{F:List aH}:kD K F none []:=⟨⟨rfl,fun i v hi=>by simp at hi⟩,fun p hp=>by cases hp⟩
theorem Jb{m:Lm}{slot:Int}(hs:slot=0∨slot=1):∀n i,i≤4→(gF m slot n i).1.length+i≤4
 | 0,i,h=>by rw[gF];simpa using h
 | n+1,i,h=>by
  rw[gF];split
  ·simpa using h
  ·rename_i h3;have hi:i≠4:=fun e=>h3 (by subst e;rcases hs with rfl | rfl<;>decide);split
   ·simpa using h
   ·have :=Jb (m:=m) hs n (i+1) ay;simp only[length_cons];omega
theorem XO{m:Lm}{slot:Int}(hs:slot=0∨slot=1)(ring:List Ky)(fu:Int):(fT m ring fu slot).1.jS.length≤4:=by
 unfold fT;split
 ·exact zero_le _
 split
 ·exact zero_le _
 split
 ·exact zero_le _
 ·have :=Jb (m:=m) hs (eT ring fu ‹_›).1.gH.length 0 aN;dsimp only;unfold kW;repeat (split;exact zero_le _)
  split
  ·unfold yC;rw[length_map,length_zip];omega
  ·exact zero_le _
theorem H6(ld:Int→La×Int){s:Int}(h:0≤s):Hq ld s=((ld s).1,0):=by unfold Hq;rw[if_neg ay]
theorem Iy(ld:Int→La×Int){s:Int}(h:s<0):Hq ld s=(.zero,240):=by unfold Hq;rw[if_pos h]
theorem abG{K:World}{b T:Nat}{ld:Int→La×Int}{l0 l1:La}{A0 A1:Option Addr}{c0 c1:Nat}{p0 p1:List (Int×Bs)}{E0 E1:aH}(x1:(ld 0).2=0→l0=(ld 0).1)(x2:l0.jS=p0.map (fun p=>(p.1,p.2.l)))(x3:∀H,kD K (E0::H) A0 p0)(y1:(ld 1).2=0→l1=(ld 1).1)(y2:l1.jS=p1.map (fun p=>(p.1,p.2.l)))(y3:∀H,kD K (E1::H) A1 p1){s:Int}(hs:s=0∨s=1)(h0:(ld s).2=0) :
 ∃ (A:Option Addr) (c:Nat) (ps:List (Int×Bs)),(∀H,fH K (ah b T [.i l0.slot,.i l0.yS,.i l0.sec,.slice A0 l0.jS.length c0,.i 0,.i l1.slot,.i l1.yS,.i l1.sec,.slice A1 l1.jS.length c1,.i 0]::H) b (0+s.toNat*5) ((ld s).1.cells A c 0))∧(ld s).1.jS=ps.map (fun p=>(p.1,p.2.l))∧∀H,kD K (E0::E1::H) A ps:=by
 rcases hs with rfl | rfl
 ·have e:=x1 h0;exact⟨A0,c0,p0,fun H=>by rw[←e];exact fH.ED ⟨rfl,rfl,rfl,rfl,rfl,trivial⟩,by rw[←e];exact x2,fun H=>x3 _⟩
 ·have e:=y1 h0;exact⟨A1,c1,p1,fun H=>by rw[←e];exact fH.ED ⟨rfl,rfl,rfl,rfl,rfl,trivial⟩,by rw[←e];exact y2,fun H=>(y3 _).up⟩
theorem Kj.ana{g:bQ}{M0:Mw}{m:Nat}{b b' n n':Int}{s:B24}(h:Kj g M0 m b n s){C2:Cw}{T2:bZ}{M2:Mw}(hC:C2.Ok)(hg:C2.g=g)(hT:T2.Ok g)(hv:M2.v=M0.v)(hl:M2.has.length=11)(hd:M2.iw.length=11)(hm:∀i,i≠0→M2.aC i=s.M.aC i){x:aY}(hx:stM M2.aC=x){m':Lm}{B:Nat}{N:Int}(hF:jg 11 11 B N C2.aC T2.aC m')(hB:(B:Int)≤256+b')(hN:N≤1+n')(hr:∀i,i≠0→m' i=s.M.aC i)(Wz:stM m'=x)(hf:C2.aC.aO=s.C.aC.aO){la:La}{A:Option Addr}{c:Nat}{er:Int}(jh:er=0→(la.slot=0∨la.slot=1)∧s.fu≤la.sec) :
 Kj g M0 m b' n' { s with C:=C2,T:=T2,M:=M2,la:=la,A:=A,c:=c,er:=er }:=by
 refine⟨hC,hg,hT,hv,hl,hd,fun i d hi he=>h.sz i d hi ((hm i hi).symm.trans he),⟨B,N,m',hF,hB,hN,fun i hi=>(hr i hi).trans (hm i hi).symm,Wz.trans hx.symm⟩,hf.trans h.fu,h.fu0,h.rl,h.YL,fun h0=> ?_⟩;obtain⟨k1,k2⟩:=jh h0;have :=h.fu0;exact⟨k1,by dsimp only;omega⟩
theorem Fe{K:World}{F:List aH}{M:Mw}{V:Value}{A:Option Addr}{m c:Nat}{ring:List Ky}{aO slot:Int}(hv:M.v=V)(hh:M.has.length=11)(hd:M.iw.length=11)(hz:∀i d,i≠0→M.aC i=some d→d.length≤1000000)(hs:slot=0∨slot=1)(hr:Ring K F A m ring):aB prog 39 #[V,.i slot,.slice A m c,.i aO] K (M.A::F)
 (fun v H'=>∃(la:La) (A':Option Addr) (c':Nat) (ps:List (Int×Bs)) (E:aH),v= .tuple #[.agg (la.cells A' c' 0).toArray,.bool (decide ((fT M.aC ring aO slot).2=0))]∧((fT M.aC ring aO slot).2=0→la=(fT M.aC ring aO slot).1) ∧
  la.jS=ps.map (fun p=>(p.1,p.2.l))∧(∀H,kD K (E::H) A' ps)∧H'=M.A::E::F):=by subst hv;exact TN hh hd hz hs hr
theorem CW{K:World}{F:List aH}{M:Mw}{V:Value}(hv:M.v=V)(hh:0<M.has.length)(hd:0<M.iw.length):aK prog 43 #[V] K (M.A::F) (stM M.aC).v:=by subst hv;exact xP hh hd
theorem Qn{K:World}{F:List aH}{M:Mw}{V:Value}(hv:M.v=V)(hh:0<M.has.length)(hl:M.iw.length=M.has.length)(g0 g1:Bool):aB prog 40 #[V,.agg #[.bool g0,.bool g1]] K (M.A::F)
 (fun v H'=>∃M':Mw,M'.v=V∧M'.has.length=M.has.length∧M'.iw.length=M.has.length∧(∀i,i≠0→M'.aC i=M.aC i)∧stM M'.aC=(nR (fun s=>if s=0 then g0 else g1) (stM M.aC).order (stM M.aC)).1 ∧
  v= .i (nR (fun s=>if s=0 then g0 else g1) (stM M.aC).order (stM M.aC)).2∧H'=M'.A::F):=by subst hv;exact SK hh hl g0 g1
theorem Tm{K:World}{F:List aH}{M:Mw}{V:Value}(hv:M.v=V)(hh:0<M.has.length)(hl:M.iw.length=M.has.length){x:aY}(hx:x.ok=true):aB prog 44 #[V,x.v] K (M.A::F)
 (fun v H'=>H'=Mw.A { M with has:=M.has.set 0 true,iw:=M.iw.set 0 (strOfNums x.bytes) }::F):=by subst hv;exact Em hh hl hx
theorem DU(gd:Int→Bool):∀(l:List Int) (x:aY),(nR gd l x).2= -1∨((nR gd l x).2∈l∧gd (nR gd l x).2=true)
 | [],x=> .inl rfl
 | s::l,x=>by
  rw[nR];split
  ·rename_i h;exact .inr ⟨.head _,h⟩
  ·rcases DU gd l (x.gM s).1 with h | ⟨h1,h2⟩
   ·exact .inl h
   ·exact .inr ⟨.tail _ h1,h2⟩
theorem Iq{g1 g2:Int→Bool}:∀(l:List Int) (x:aY),(∀s∈l,g1 s=g2 s)→nR g1 l x=nR g2 l x
 | [],x,_=>rfl
 | s::l,x,h=>by
  rw[nR,nR,h s (.head _),Iq l _ (fun k hk=>h k (.tail _ hk))]
theorem Xh{C:aD}{T:St}{mp M:Lm}{B:Nat}{N:Int}(hF:jg 11 11 B N C T mp)(hR:Jj mp M)(EA:11<C.g.bl)(oH:C.g.bl≤20)(kS:16≤C.g.cap)(hN:N≤900000)(hB:B≤900000)(ring:List Ky)(fu:Int){X:aY×Int}(hX:X=nR (fun s=>decide ((fT M ring fu s).2=0)) (stM M).order (stM M)){R:Ran}(hRd:R=tH C T ring fu) :
 ((
  lK C T).2.1=0→wY ring fu (lK C T).1.order (lK C T).1 C (lK C T).2.2)∧R.1=Hq (fT M ring fu) X.2∧(R.1.2=0→(R.1.1.slot=0∨R.1.1.slot=1)∧fu≤R.1.1.sec)∧R.2.1.g=C.g∧R.2.1.aO=C.aO ∧
  ∃ (m':Lm) (B':Nat) (N':Int),jg 11 11 B' N' R.2.1 R.2.2 m'∧B'≤B+2∧N'≤N+42∧(∀i,i≠0→m' i=M i)∧stM m'=X.1:=by
 have dL:=hF.lK aN;have Dv:=qw M;have Gh:(stM M).order.length≤2:=by
  unfold aY.order;rw[if_pos Dv];exact length_filter_le _ _
 obtain⟨hlg,m1,hT⟩:=Ti ring fu hF EA oH kS hN hB;have jh:=hT.ok;rw[←hRd,hR.st] at jh;have RX:∀s,s=0∨s=1→fT mp ring fu s=fT M ring fu s:=fun s hs=>hR.load hs ring fu;obtain⟨m',h2⟩:=OT ring fu (fT M ring fu) (fun s=>ZX M ring fu s) (stM M).order (stM M) C T mp B N hF RX hR.st EA oH kS ay ay (fun s hs=>ql Dv hs);have e:tH C T ring fu=BN ring fu (stM M).order (stM M) C T:=by
  unfold tH;rw[dL,if_neg (fun h=>h rfl),hR.st]
 rw[←e,←hRd] at h2;obtain⟨B',N',f1,f2,f3⟩:=h2.Kt;refine⟨hlg,by rw[hX];exact h2.res,fun h0=> ?_,h2.g,h2.fu,m',B',N',f1,by omega,by omega,fun i hi=>(h2.rest i hi).trans (hR.rest i hi),by rw[hX];exact h2.st⟩;obtain⟨q1,q2,_⟩:=jh h0;exact⟨ql Dv q1,q2⟩
theorem Jp(g:bQ){A D:Option Addr}{m cap k cd:Nat}{ring:List Ky}{ops:List Hz}{K:World}{F:List aH}(hr:m≤20→Ring K F A m ring)(hs:nZ K F D k ops) :
 aK prog 8 #[g.v,.slice A m cap,.slice D k cd] K F (.bool true):=by
 have Gh:=hs.len;refine aB.en func8 ntmps8 ?_;refine aj "a*" fun b3=> ?_;refine aj "taB" ?_;refine WL.t1 call13 rfl (Qb g _ _) rfl<|aj "%cV~J~lOcV" ?_;refine WL.bI (oj:=_) rfl rfl rfl GC.f (V.fE (vs:=[_,_,_,_,_]) ⟨isAgg23,sizeOf23⟩ (ak rfl) rfl (fun _=>tN)) rfl<|WL.nL (oj:=_) (vs:=[_]) rfl rfl rfl GC.f call15 ⟨OV.g rfl id,trivial⟩ (fun hc=>Yo (bQ.rF (by simp at hc;exact hc.1.1.1.1.1))) rfl<|WL.nL (oj:=_) (vs:=[_,_]) rfl rfl rfl GC.f call34 ⟨OV.g rfl id,OV.g rfl id,trivial⟩ (fun hc=>XA hs.up) rfl<|aj "~~vOj" (aW (fun aL=> ?_) fun aL=> ?_)
 ·simp only[Bool.or_eq_true,Bool.or_eq_false_iff,Bool.and_eq_true,oK] at aL;exact aj "I+" trivial
 ·simp only[Bool.or_eq_true,Bool.or_eq_false_iff,Bool.and_eq_true,oK] at aL;obtain⟨⟨⟨⟨⟨⟨EC,hrm⟩,asB⟩,asu⟩,hp6⟩,ase⟩,agb⟩:=aL;have hg:=bQ.rF EC;have FR:=bQ.vL hg;have Ww:=hr ay;have amS:k≤60∧∀o∈ops,(o.s.size:Int)≤g.cap:=by
   unfold Rj at agb;simp only[Bool.and_eq_true,cZ,all_eq_true,Bool.not_eq_true',Int.not_lt] at agb;exact⟨by omega,agb.2⟩
  have an3:g.cap≤1000:=by
   unfold bQ.cap;have h1:(g.pg-1)*g.room≤5*g.room:=Int.mul_le_mul_of_nonneg_right ay (by have :=bQ.kP hg;omega);omega
  refine aj "iaB" ?_;refine WL.c1 call14 rfl (IV (g:=g) EC ay _ _) rfl ?_;rintro _ _ ⟨bc,bd,bs,C0,T0,hC0,g0,s0,hT0,t0,rfl,rfl⟩;refine aj "Ef]5ia" ?_;refine WL.c1 call35 rfl (WV (n:=11) aN) rfl ?_;rintro _ _ ⟨M0,hM1,hM2,rfl,rfl⟩;refine aj "v" fun b9=> ?_;refine aj "~~jLX" ?_;refine WL.sub (Sub.refl _) (fun w h=>h.gI 99 34)<|WL.append (m:=0) (q:=m) (cs:=[]) (news:=ring.flatMap Ky.cells) underlying24 anZ (ak rfl) (ak rfl) (by repeat (first | exact Ww.seq | apply Seq.up)) (aek ring Ww.ok) ay rfl rfl (fun Ak ck hAk hck=> ?_);rw[Nat.zero_add,nil_append];refine aj "w" ?_;refine WL.val (V.build (vs:=[(4,_)]) ⟨ak rfl,trivial⟩ rfl (rZ _)) rfl<|aj "v" fun b11=> ?_;refine aj "CLtagu" ?_;have hm0:M0.has.length=11∧M0.iw.length=11:=by rw[hM1,hM2];simp
  have hJ0:Kj g M0 m 0 0 ⟨0,C0,T0,M0,ring,La.zero,none,0,240,0⟩:=by
   refine⟨hC0,g0,hT0,rfl,hm0.1,hm0.2,fun i d hi hd=> ?_,⟨256,1,fun _=>none, ?_,by decide,by decide, ?_⟩,by rw[s0];rfl,Int.le_refl _,Ww.len,Ww.ok,fun h=>by cases h⟩
   ·rw[Mw.VU hM1] at hd;cases hd
   ·dsimp only;rw[t0,s0];exact jg.new hg 11
   ·dsimp only;rw[Mw.VU hM1];exact⟨fun _ _=>rfl,rfl⟩
  refine WC.loop (σ:=B24) (fun s=>[(2,.slice D k cd),(3,ptr b3 0),(7,ptr bc 0),(8,ptr bs 0),(9,ptr b9 0),(10,.slice Ak m ck),(11,ptr b11 0),(12,.i s.fu),(13,.i (s.i:Int))])
   (fun s=>s.C.A bc::dA bd bc g::s.T.A bs bd g::s.M.A::ah b9 81 M0.cells::aV (.slice Ak m ck) 99 34 m (s.r.flatMap Ky.cells)::ah b11 37 (s.la.cells s.A s.c s.er)::ah b3 23 [.i g.bl,.i g.pg,.i g.se,.i g.sb,.i g.fl]::F)
   (fun s=>s.i≤k∧Kj g M0 m (4*(s.i:Int)) (70*(s.i:Int)) s) (fun s=>k-s.i) ⟨0,C0,T0,M0,ring,La.zero,none,0,240,0⟩ ⟨zero_le _,hJ0⟩ bC (fun w h=>h.bg 8 [4,5,6,3,2,1,0,7] rfl) ?_
  rintro⟨i,C,T,M,r,la,Al,cl,er,fu⟩ ⟨hi,hJ⟩;dsimp only at hi hJ ⊢;have hC:=hJ.ok;have N9:=hJ.geo;have hT:=hJ.tok;refine aj "rcn1j" (aW (fun bA=> ?_) fun bA=> ?_)
  ·simp only[cZ] at bA;have hik:i<k:=ay;obtain⟨o,ho⟩:∃o,ops[i]? =some o:=⟨_,getElem?_eq_getElem ay⟩;have Bv:(i:Int).toNat=i:=ay;have UW:∀(j:Nat) v,o.cells[j]? =some v→Rd K F (D.map (·.add (i*3+j))) v:=fun j v hj=>hs.elem ho hj;refine aj "4c" ?_;refine WL.val (V.aG (v':=sp D (i*3)) (V.dw ajT (ak rfl) (ak rfl) (fun hc=>by omega) (fun hc=>by rw[Bv];repeat (first | exact UW 0 _ rfl | apply Rd.up))) (fun _=>by rw[Bv])) rfl<|WL.val (V.tX (vs:=o.cells) ⟨isAgg84,sizeOf84⟩ (ak rfl) rfl aN (fun _ j v hj=>by repeat (first | exact UW j v hj | apply Rd.up))) rfl<|aj "v" fun b14=> ?_;refine aj "~7Lp" ?_;refine WL.val (V.rem (ak rfl) (ak rfl) aN) rfl<|aj "f1j" (aW (fun eu=> ?_) fun eu=> ?_)
   ·simp only[cZ] at eu;have h3:=eu;refine aj "Nh$Y" ?_;exact⟨⟨i+1,C,T,M,r,la,Al,cl,er,fu⟩,⟨by show i+1≤k;omega,hJ.nxt hT rfl (i+1) (by show 4*(i:Int)≤4*((i+1:Nat):Int);omega) (by show 70*(i:Int)≤70*((i+1:Nat):Int);omega)⟩,(by show k-(i+1)<k-i;omega),.cons rfl bC,fun w h=>h.tail⟩
   ·simp only[cZ] at eu;have h3:=eu;refine WC.skip<|WC.join (σ:=B24) (fun s=>[(2,.slice D k cd),(3,ptr b3 0),(7,ptr bc 0),(8,ptr bs 0),(9,ptr b9 0),(10,.slice Ak m ck),(11,ptr b11 0),(12,.i s.fu),(13,.i (i:Int))])
     (fun s=>s.C.A bc::dA bd bc g::s.T.A bs bd g::s.M.A::ah b9 81 M0.cells::aV (.slice Ak m ck) 99 34 m (s.r.flatMap Ky.cells)::ah b11 37 (s.la.cells s.A s.c s.er)::ah b3 23 [.i g.bl,.i g.pg,.i g.se,.i g.sb,.i g.fl]::F)
     (fun s=>Kj g M0 m (4*(i:Int)+4) (70*(i:Int)+70) s) ?_ ?_
    ·skip
     refine WC.seq ?_;obtain⟨j,hj,anb⟩:∃j:Nat,Int.tmod o.aS 11=(j:Int)∧j<11:=by
      have h1:=Int.tmod_lt_of_pos o.aS (show (0:Int)<11 by decide);exact⟨(Int.tmod o.aS 11).toNat,by omega,by omega⟩
     rw[hj];have amQ:=amS.2 o (mem_of_getElem? ho);obtain⟨B,N,mp,hFi,hB,hN,aec⟩:=hJ.Kt;have Od:C.aC.g=g:=N9;obtain⟨st0,ZH⟩:=hFi.si;have qZ:∀l∈T.aC.cu,l.length≤100000:=fun l Dp=>Nat.le_trans (ZH.Y9 l Dp) ay;obtain⟨d,hd⟩:∃d,d=iB (bytesOf o.s):=⟨_,rfl⟩;have Nf:aA 256 d:=by rw[hd];exact iP (eY _)
     have wF:d.length=o.s.size:=by rw[hd,gZ,bytesOf_length]
     refine aj "qpbua9gF" (aW (fun mQ=> ?_) fun mQ=> ?_)
     ·try simp only[iC] at mQ
      refine aj "rcp" ?_;refine WL.He (s:=o.s) rfl underlying9 underlying34 underlying5 (ak rfl) rfl (fun b76 arE aon ZG Oi=>WL.sub (Sub.refl _) (fun w h=>h.bg 5 [2,3,4,0,1] rfl) ?_);have Zd:∀H':List aH,Seq K (lZ b76 5 aon::H') (some ⟨b76,0,none⟩) o.s.size 1 (av .u8 d):=fun H'=>by
       have :=Oi H';rw[mJ (eY o.s)] at this;rw[hd];exact this
      obtain⟨aQ,bA,eu⟩:=hFi.change (by rw[Od];omega) (by rw[Od];omega) ay (i0:=j) ay ay ay Nf (by rw[Od,wF];exact amQ);have hcf:=pK C.aC T.aC (j:Int) d;refine WL.c3 call16 rfl rfl rfl (Da (d:=d) hC N9 hT (Zd _) Nf ZG ay (fun l Dp=>Nat.le_trans (qZ l Dp) aN)) rfl ?_;rintro v77 _ ⟨C2,T2,Bz,g2,BH,s2,t2,UO,rfl⟩;rw[aQ] at UO;subst UO;rw[←s2,←t2] at eu;rw[←s2] at hcf;refine aj "s5iq~Bcp" ?_;refine WL.sub (H':=M.A::C2.A bc::dA bd bc g::T2.A bs bd g::ah b14 84 o.cells::ah b9 81 M0.cells::aV (.slice Ak m ck) 99 34 m (r.flatMap Ky.cells)::ah b11 37 (la.cells Al cl er)::ah b3 23 [.i g.bl,.i g.pg,.i g.se,.i g.sb,.i g.fl]::F) (Sub.refl _) (fun w h=>h.bg 6 [5,0,1,2,4] rfl) ?_;refine WL.c3 call36 rfl rfl rfl (by
       have :=LM (M:=M) (K:=K) (F:=C2.A bc::dA bd bc g::T2.A bs bd g::ah b14 84 o.cells::ah b9 81 M0.cells::aV (.slice Ak m ck) 99 34 m (r.flatMap Ky.cells)::ah b11 37 (la.cells Al cl er)::ah b3 23 [.i g.bl,.i g.pg,.i g.se,.i g.sb,.i g.fl]::F) (aS:=(j:Int)) (by have :=hJ.hl;dsimp only at this;omega) (by rw[show M.iw.length=11 from hJ.dl,show M.has.length=11 from hJ.hl]) o.s;rw[show M.v=M0.v from hJ.mv] at this;exact this) rfl ?_
      rintro _ _ rfl;refine aj "b)" ?_;exact⟨⟨i,C2,T2,{ M with has:=M.has.set (j:Int).toNat true,iw:=M.iw.set (j:Int).toNat o.s },r,la,Al,cl,er,fu⟩,hJ.FT Bz g2 BH hcf (by unfold Mw.v;simp) (by simp) (by simp) (j:=j) (v:=some d) (by rw[Int.toNat_natCast,hd];exact Mw.Gr (by have :=hJ.hl;dsimp only at this;omega) (by have :=hJ.dl;dsimp only at this;omega)) (fun d' he=>by injection he with he;subst he;omega) aec eu ay ay,.cons rfl bC,fun w h=>h.bg 6 [1,2,3,0,5] rfl⟩
     ·try simp only[iC] at mQ
      refine aj "a9gF" (aW (fun RD=> ?_) fun RD=> ?_)
      ·try simp only[iC] at RD
       refine aj "rc~=" ?_;obtain⟨hu1,hu2,hu3⟩:=hFi.alc (i0:=j) anb;have hcf:=Q7 C.aC T.aC (j:Int);refine WL.c2 call37 rfl rfl (Pz hC N9 hT (j:Int) qZ) rfl ?_;rintro v77 _ ⟨C2,T2,Bz,g2,BH,s2,t2,UO,rfl⟩;rw[hu1] at UO;subst UO;have akj:=hu3;rw[←s2,←t2] at akj;rw[←s2] at hcf;refine aj "s5iq~Bc" ?_;refine WL.sub (H':=M.A::C2.A bc::dA bd bc g::T2.A bs bd g::ah b14 84 o.cells::ah b9 81 M0.cells::aV (.slice Ak m ck) 99 34 m (r.flatMap Ky.cells)::ah b11 37 (la.cells Al cl er)::ah b3 23 [.i g.bl,.i g.pg,.i g.se,.i g.sb,.i g.fl]::F) (Sub.refl _) (fun w h=>h.bg 5 [4,0,1,2,3] rfl) ?_;refine WL.c2 call38 rfl rfl (by
        have :=R8 (M:=M) (K:=K) (F:=C2.A bc::dA bd bc g::T2.A bs bd g::ah b14 84 o.cells::ah b9 81 M0.cells::aV (.slice Ak m ck) 99 34 m (r.flatMap Ky.cells)::ah b11 37 (la.cells Al cl er)::ah b3 23 [.i g.bl,.i g.pg,.i g.se,.i g.sb,.i g.fl]::F) (aS:=(j:Int)) (by have :=hJ.hl;dsimp only at this;omega) (by rw[show M.iw.length=11 from hJ.dl,show M.has.length=11 from hJ.hl]);rw[show M.v=M0.v from hJ.mv] at this;exact this) rfl ?_
       rintro _ _ ⟨s9,rfl⟩;refine aj "b)" ?_;exact⟨⟨i,C2,T2,{ M with has:=M.has.set (j:Int).toNat false,iw:=M.iw.set (j:Int).toNat s9 },r,la,Al,cl,er,fu⟩,hJ.FT Bz g2 BH hcf (by unfold Mw.v;simp) (by simp) (by simp) (j:=j) (v:=none) (by rw[Int.toNat_natCast];exact Mw.tT (by have :=hJ.hl;dsimp only at this;omega)) (fun d' he=>by cases he) aec akj ay ay,.cons rfl bC,fun w h=>h.bg 6 [1,2,3,0,5] rfl⟩
      ·try simp only[iC] at RD
       refine aj "a9gF" (aW (fun hc8=> ?_) fun hc8=> ?_)
       ·try simp only[iC] at hc8
        refine WC.seq ?_;have Ua:∀H':List aH,Ring K (aV (.slice Ak m ck) 99 34 m (r.flatMap Ky.cells)::H') Ak m r:=fun H'=>⟨aV.seq (by rw[VG r hJ.YL,hJ.rl]),hJ.rl,hJ.YL,by omega⟩;obtain⟨U7,arD⟩:∃p:Prop,p:=⟨True,trivial⟩;refine aj "qv" fun b16=> ?_;refine aj "Lv" fun b17=> ?_;refine aj "DP" ?_;refine WC.sub (H':=M.A::ah b17 89 [.bool false,.bool false]::ah b16 88 [.i 0,.i 0,.i 0,.slice none 0 0,.i 0,.i 0,.i 0,.i 0,.slice none 0 0,.i 0]::C.A bc::dA bd bc g::T.A bs bd g::ah b14 84 o.cells::ah b9 81 M0.cells::aV (.slice Ak m ck) 99 34 m (r.flatMap Ky.cells)::ah b11 37 (la.cells Al cl er)::ah b3 23 [.i g.bl,.i g.pg,.i g.se,.i g.sb,.i g.fl]::F) (Sub.refl _) (fun w h=>h.bg 7 [6,0,1,3,4,5,2] rfl)<|aj "qgu~6r1b2HM~Bzc" ?_;refine WL.c4 call39 rfl rfl rfl rfl (Fe (M:=M) (ring:=r) (aO:=fu) hJ.mv hJ.hl hJ.dl hJ.sz aN (by repeat (first | exact Ua _ | apply Ring.up))) rfl ?_;rintro _ _ ⟨lx,Ax,cx,px,Ex,rfl,Zg,UY,hx3,rfl⟩;refine aj "8~o~~~q~o~~~dbh~Mf1b2HM~Bzc" ?_;refine WL.c4 call39 rfl rfl rfl rfl (Fe (M:=M) (ring:=r) (aO:=fu) hJ.mv hJ.hl hJ.dl hJ.sz aN (by repeat (first | exact Ua _ | apply Ring.up))) rfl ?_;rintro _ _ ⟨lx,Ax,cx,px,Ex,rfl,Zg,UY,hx3,rfl⟩;refine aj "8~o~~~q~o~~~dbh~rf15T" ?_;rename_i l0 A0 c0 p0 E0 y1 y2 y3;obtain⟨X,hX⟩:∃X,X=nR (fun s=>decide ((fT M.aC r fu s).2=0)) (stM M.aC).order (stM M.aC):=⟨_,rfl⟩;have hXg:nR (fun s=>if s=0 then decide ((fT M.aC r fu 0).2=0) else decide ((fT M.aC r fu 1).2=0)) (stM M.aC).order (stM M.aC)=X:=by
         rw[hX];refine Iq _ _ (fun s hs=> ?_);rcases ql (qw _) hs with rfl | rfl
         ·rfl
         ·rfl
        refine WC.region (WL.val (V.build (vs:=[(4,_)]) ⟨ak rfl,trivial⟩ rfl (rZ _)) rfl ?_);refine aj "v" fun b19=> ?_;refine aj "CL~B~B~+" ?_;refine WL.c2 call40 rfl rfl (Qn (M:=M) hJ.mv (by rw[hJ.hl];decide) (by rw[hJ.hl,hJ.dl]) _ _) rfl ?_;rintro _ _ ⟨M2,m1,m2,m3,m4,m5,rfl,rfl⟩;rw[hXg] at m5 ⊢;have hMl:M.has.length=11:=hJ.hl;refine aj "g" ?_;refine WC.join (σ:=Option Addr×Nat×List (Int×Bs)) (fun _=>[(2,.slice D k cd),(3,ptr b3 0),(7,ptr bc 0),(8,ptr bs 0),(9,ptr b9 0),(10,.slice Ak m ck),(11,ptr b11 0),(12,.i fu),(13,.i (i:Int)),(19,ptr b19 0)])
         (fun s=>C.A bc::dA bd bc g::T.A bs bd g::ah b19 37 ((Hq (fT M.aC r fu) X.2).1.cells s.1 s.2.1 (Hq (fT M.aC r fu) X.2).2)::E0::Ex::M2.A::ah b9 81 M0.cells::aV (.slice Ak m ck) 99 34 m (r.flatMap Ky.cells)::ah b11 37 (la.cells Al cl er)::ah b3 23 [.i g.bl,.i g.pg,.i g.se,.i g.sb,.i g.fl]::F)
         (fun s=>(Hq (fT M.aC r fu) X.2).1.jS=s.2.2.map (fun p=>(p.1,p.2.l))∧∀H,kD K (E0::Ex::H) s.1 s.2.2) ?_ ?_
        ·skip
         refine aj "e~jj" (aW (fun RJ=> ?_) fun RJ=> ?_)
         ·simp only[ge_iff_le,cZ,Int.not_le] at RJ;have mR:(X.2=0∨X.2=1)∧(fT M.aC r fu X.2).2=0:=by
           rw[hX] at RJ ⊢;rcases DU (fun s=>decide ((fT M.aC r fu s).2=0)) (stM M.aC).order (stM M.aC) with h | ⟨h1,h2⟩
           ·omega
           ·exact⟨ql (qw _) h1,of_decide_eq_true h2⟩
          obtain⟨Aw,cw,pw,w1,w2,w3⟩:=abG (b:=b16) (T:=88) y1 y2 y3 Zg UY hx3 mR.1 mR.2;refine aj "h~~~c" ?_;refine WL.val (V.fE (vs:=(fT M.aC r fu X.2).1.cells Aw cw 0) ⟨isAgg37,sizeOf37⟩ (ak rfl) rfl (fun _=>by repeat (first | exact w1 _ | apply fH.up))) rfl<|aj "Cb)" ?_;exact⟨(Aw,cw,pw),⟨by rw[H6 _ RJ];exact w2,w3⟩,.cons rfl bC,fun w h=>by rw[H6 _ RJ];exact h.bg 14 [6,7,8,1,3,2,0,10,11,12,13] rfl⟩
         ·simp only[ge_iff_le,cZ,Int.not_le] at RJ;refine aj "i)" ?_;exact⟨(none,0,[]),⟨by rw[Iy _ RJ];rfl,fun H=>kD.nil⟩,.cons rfl bC,fun w h=>by rw[Iy _ RJ];exact h.bg 14 [6,7,8,1,3,2,0,10,11,12,13] rfl⟩
        ·skip
         rintro⟨Aw,cw,pw⟩ ⟨hw2,hw3⟩;dsimp only at hw2 hw3 ⊢;obtain⟨R,hRd⟩:∃R,R=tH C.aC T.aC r fu:=⟨_,rfl⟩;obtain⟨hlg,hR1,hR2,hR3,hR4,m',B',N',f1,f2,f3,f4,f5⟩:=Xh hFi aec (by rw[Od];omega) (by rw[Od];omega) (by rw[Od];omega) ay ay r fu hX hRd;have ajD:R.1.1.jS.length≤1000000:=by
          rw[hR1];rcases Int.lt_or_le X.2 0 with h | h
          ·rw[Iy _ h];decide
          ·rw[H6 _ h];have h2:X.2=0∨X.2=1:=by
            rw[hX] at h ⊢;rcases DU (fun s=>decide ((fT M.aC r fu s).2=0)) (stM M.aC).order (stM M.aC) with h' | ⟨h1,_⟩
            ·omega
            ·exact ql (qw _) h1
           exact Nat.le_trans (XO h2 r fu) aN
         rw[←hR1] at hw2 ⊢;refine aj "ez" ?_;refine WL.c3 call17 rfl rfl rfl (YJ hC N9 hT (by
          have h1:T.stands.length=11:=ZH.len;rw[h1];decide) (aO:=fu) (ring:=r) (by repeat (first | exact Ua _ | apply Ring.up)) hlg) rfl ?_
         rw[←hRd];rintro _ _ ⟨C2,T2,A2,c2,ps,E,Bz,g2,BH,s2,t2,rfl,l7,hE,rfl⟩;refine aj "~FLBB" ?_;refine WL.c2 call41 rfl rfl (TB (la:=R.1.1) (e:=R.1.2) l7 hw2 (by repeat (first | exact hE _ | apply kD.up)) (by repeat (first | exact hw3 _ | apply kD.up)) ajD) rfl ?_;rintro _ _ ⟨rfl,rfl⟩;refine aj "%5i)" ?_;exact⟨⟨i,C2,T2,M2,r,R.1.1,A2,c2,R.1.2,fu⟩,hJ.ana Bz g2 BH m1 (m2.trans hMl) (m3.trans hMl) m4 m5 (by rw[s2,t2];exact f1) ay ay f4 f5 (by rw[s2];exact hR4) hR2,.cons rfl bC,fun w h=>h.bg 8 [0,1,2,7] rfl⟩
       ·try simp only[iC] at hc8
        refine aj "a9gF" (aW (fun agV=> ?_) fun agV=> ?_)
        ·try simp only[iC] at agV
         refine WC.seq ?_;obtain⟨Xc,hXc⟩:∃Xc,Xc=sF C.aC T.aC la.slot la.sec er:=⟨_,rfl⟩;refine aj "MB~=" ?_;refine WL.c3 call28 rfl rfl rfl (M4 hC N9 hT (by
          have h1:T.stands.length=11:=ZH.len;rw[h1];decide) (fun l Dp=>Nat.le_trans (qZ l Dp) aN) la.slot la.yS la.sec er) rfl ?_
         rw[←hXc];rintro _ _ ⟨C3,T3,TS,g3,hT3,s3,t3,rfl,rfl⟩;refine aj "tapsc~g~f~lOj" (aW (fun h13=> ?_) fun h13=> ?_)
         ·simp only[iC] at h13;have uN:F9 la.slot la.sec er=false:=by unfold F9;simp;omega
          have hXn:Xc=(C.aC,T.aC,1):=by rw[hXc];unfold sF;rw[if_pos uN]
          refine aj "rsb" ?_;refine WC.ni rfl ((by rw[hXn];rfl))<|aj "iN)" ?_;exact⟨⟨i,C3,T3,M,r,la,Al,cl,er,fu⟩,hJ.am7 TS g3 hT3 (by rw[s3,hXn]) (by rw[t3,hXn]) ay ay,.cons rfl bC,fun w h=>h.bg 4 [0,1,2] rfl⟩
         ·simp only[iC] at h13;have mR:=hJ.la h13.1;dsimp only at mR;have aoP:F9 la.slot la.sec 0=true:=by unfold F9;simp;omega
          obtain⟨q1,q2,q3,q4⟩:=hFi.akA (by rw[Od];omega) (by rw[Od];omega) (by rw[Od];omega) ay aoP;rw[show sF C.aC T.aC la.slot la.sec 0=Xc by rw[hXc,h13.1]] at q1 q2 q3 q4;obtain⟨tc,htc⟩:∃tc,tc=((stM M.aC).dR la.slot).1:=⟨_,rfl⟩;have Du:tc.ok=true:=by rw[htc];exact Ay (qw _) mR.1
          have ht0:((stM M.aC).dR la.slot).2=0:=by unfold aY.dR;rw[if_neg (by rw[aY.GZ (qw _) mR.1];decide)]
          refine WC.skip ?_;rw[q1];refine WC.join (σ:=Nat) (fun b=>[(2,.slice D k cd),(3,ptr b3 0),(7,ptr bc 0),(8,ptr bs 0),(9,ptr b9 0),(10,.slice Ak m ck),(11,ptr b11 0),(12,.i fu),(13,.i (i:Int)),(21,.i 0),(22,ptr b 0),(23,.i 0)])
           (fun b=>M.A::ah b 58 [.i tc.f,.i tc.t0,.bool tc.g0,.i tc.t1,.bool tc.g1]::C3.A bc::dA bd bc g::T3.A bs bd g::ah b14 84 o.cells::ah b9 81 M0.cells::aV (.slice Ak m ck) 99 34 m (r.flatMap Ky.cells)::ah b11 37 (la.cells Al cl er)::ah b3 23 [.i g.bl,.i g.pg,.i g.se,.i g.sb,.i g.fl]::F)
           (fun _=>True) ?_ ?_
          ·skip
           refine aj "~S~~~o0Z2^3" ?_;refine WA.two (i:=1) (j:=8) cO (by kernel_rfl) rfl rfl ?_ ?_
           ·refine WL.t1 call43 rfl (aK.mem (fun F=>CW (M:=M) (K:=K) (F:=F) hJ.mv (by rw[hJ.hl];decide) (by rw[hJ.dl];decide)) (by repeat (first | exact .head _ | apply Mem.tail))) rfl<|WL.nil<|WA.two (i:=4) (j:=8) eO (by kernel_rfl) rfl rfl ?_ ?_
            ·refine WL.t2 call42 rfl rfl ((sM (stM M.aC) la.slot _ _).eq (v':= .tuple #[.agg #[.i tc.f,.i tc.t0,.bool tc.g0,.i tc.t1,.bool tc.g1],.i 0]) (by rw[htc,ht0])) rfl<|aj "bm5~a6~a7l8v" fun QB=> ?_;refine aj "bl9Cb~p:K)" ?_;exact⟨QB,trivial,.cons rfl bC,fun w h=>h.bg 6 [5,0,1,2,3,4] rfl⟩
            ·refine aj "v" fun QB=> ?_;refine aj "bl4" ?_;refine WL.t2 call42 rfl rfl ((sM (stM M.aC) la.slot _ _).eq (v':= .tuple #[.agg #[.i tc.f,.i tc.t0,.bool tc.g0,.i tc.t1,.bool tc.g1],.i 0]) (by rw[htc,ht0])) rfl<|aj "bm5~a6~a7l9Cb~p:K)" ?_;exact⟨QB,trivial,.cons rfl bC,fun w h=>h.bg 6 [5,0,1,2,3,4] rfl⟩
           ·refine aj "v" fun QB=> ?_;refine aj "bl1" ?_;refine WL.t1 call43 rfl (aK.mem (fun F=>CW (M:=M) (K:=K) (F:=F) hJ.mv (by rw[hJ.hl];decide) (by rw[hJ.dl];decide)) (by repeat (first | exact .head _ | apply Mem.tail))) rfl<|aj "bl4" ?_;refine WL.t2 call42 rfl rfl ((sM (stM M.aC) la.slot _ _).eq (v':= .tuple #[.agg #[.i tc.f,.i tc.t0,.bool tc.g0,.i tc.t1,.bool tc.g1],.i 0]) (by rw[htc,ht0])) rfl<|aj "bm5~a6~a7l9Cb~p:K)" ?_;exact⟨QB,trivial,.cons rfl bC,fun w h=>h.bg 6 [5,0,1,2,3,4] rfl⟩
          ·skip
           rintro QB -
           refine aj "a~BB" ?_;refine WL.c2 call44 rfl rfl (Tm (M:=M) (x:=tc) hJ.mv (by rw[hJ.hl];decide) (by rw[hJ.hl,hJ.dl]) Du) rfl ?_;rintro _ _ rfl;refine aj "bep~~dkscV~~uO5i)" ?_;exact⟨⟨i,C3,T3,{ M with has:=M.has.set 0 true,iw:=M.iw.set 0 (strOfNums tc.bytes) },r,la,Al,cl,er,max fu la.sec⟩,hJ.aoH TS g3 hT3 (by rw[s3];exact q3) Du (by rw[s3,t3];exact q4) aec htc ay ay,.cons rfl bC,fun w h=>h.bg 6 [2,3,4,0] rfl⟩
        ·try simp only[iC] at agV
         refine aj "a9gF" (aW (fun aeS=> ?_) fun aeS=> ?_)
         ·try simp only[iC] at aeS
          refine aj "en~Nj" (aW (fun h17=> ?_) fun h17=> ?_)
          ·simp only[cZ] at h17;refine WC.lG (p:=∃gk,Ak=some ⟨gk,0,none⟩) (fun w hw=>by
            have h2:Sat K w (aV (.slice Ak m ck) 99 34 m (r.flatMap Ky.cells)::_):=hw.bg 7 [6] rfl;cases ajO:Ak with
            | none=>rw[ajO] at h2;have :=(aV.yM h2).1;omega
            | some a=>rw[ajO] at h2;obtain⟨gk,rfl⟩:=aV.addr h2;exact⟨gk,rfl⟩) (fun hgk=> ?_)
           obtain⟨gk,rfl⟩:=hgk;obtain⟨q,hq,hqm⟩:∃q:Nat,(j:Int)%(m:Int)=(q:Int)∧q<m:=by
            have h1:=Int.emod_lt_of_pos (j:Int) (show (0:Int)<(m:Int) by omega);have h2:=Int.emod_nonneg (j:Int) (show (m:Int)≠0 by omega);exact⟨((j:Int)%(m:Int)).toNat,by omega,by omega⟩
           have pG:r.length=m:=hJ.rl;obtain⟨kq,hkq⟩:∃kq,r[q]? =some kq:=⟨_,getElem?_eq_getElem ay⟩;have agl:=hJ.YL kq (mem_of_getElem? hkq);have vX:=VG r hJ.YL;have htq:(q:Int).toNat=q:=ay;have UW:∀(i':Nat) v,kq.cells[i']? =some v→∀H',Rd K (aV (.slice (some ⟨gk,0,none⟩) m ck) 99 34 m (r.flatMap Ky.cells)::H') ((some ⟨gk,0,none⟩:Option Addr).map (·.add (q*34+i'))) v:=fun i' v hv H'=>(aV.seq (by rw[vX,pG])).rd _ _ (rY r (fun x hx=>Ky.dB (hJ.YL x hx)) q i' kq v hkq hv);refine aj "hzn" ?_;refine WL.val (V.aG (v':= .i (q:Int)) (V.Av (i:=(j:Int)) (j:=(m:Int)) (ak rfl) (ak rfl) (fun hc=>by omega)) (fun _=>by rw[hq])) rfl ?_;refine WL.val (V.aG (v':=sp (some ⟨gk,0,none⟩) (q*34)) (V.dw TH (ak rfl) (ak rfl) (fun hc=>by omega) (fun hc=>by rw[htq];repeat (first | exact UW 0 _ rfl _ | apply Rd.up))) (fun _=>by rw[htq])) rfl ?_;refine WL.val (V.uY (k':=q*34+33) Uq (ak rfl) (fun _=>by
            have h33:kq.cells[33]? =some (.bool kq.rev):=by unfold Ky.cells;rw[getElem?_cons_succ,getElem?_append_right (by rw[au,agl.len];decide),au,agl.len];rfl
            repeat (first | exact UW 33 _ h33 _ | apply Rd.up))) rfl ?_
           refine WL.store (cs:=[_]) sizeOf4 (ak rfl) (ak rfl) rfl rfl rfl (bT.up (bT.up (bT.up (bT.up (bT.up (bT.up (bT.slS (o:=0+(q*34+33)) ay))))))) ?_;rw[show 0+(q*34+33)=q*34+33 from Nat.zero_add _,E5 (f:=Ky.cells) r (fun x hx=>Ky.dB (hJ.YL x hx)) q 33 kq { kq with rev:=true } _ hkq aN (Ky.XQ agl)];have h52:=hkq;refine aj "b)" ?_;exact⟨⟨i,C,T,M,r.set q { kq with rev:=true },la,Al,cl,er,fu⟩,hJ.key hkq ay ay,.cons rfl bC,fun w h=>h.tail⟩
          ·simp only[cZ] at h17;refine aj "i)" ?_;exact⟨⟨i,C,T,M,r,la,Al,cl,er,fu⟩,hJ.nxt hT rfl i ay ay,.cons rfl bC,fun w h=>h.tail⟩
         ·try simp only[iC] at aeS
          refine aj "i)" ?_;exact⟨⟨i,C,T,M,r,la,Al,cl,er,fu⟩,hJ.nxt hT rfl i ay ay,.cons rfl bC,fun w h=>h.tail⟩
    ·skip
     rintro s3 hJ3;have TS:=hJ3.ok;have hg3:=hJ3.geo;have hT3:=hJ3.tok;obtain⟨B3,N3,mp3,hF3,hB3,hN3,akD⟩:=hJ3.Kt;have amJ:11≤(s3.T.stands.length:Int):=by
      obtain⟨st3,hI3⟩:=hF3.si;have h1:s3.T.stands.length=11:=hI3.len;rw[h1];decide
     have aot:=hF3.lK aN;refine aj "e" ?_;refine WL.c1 call24 rfl (vB TS hg3 hT3 amJ) rfl ?_;rintro _ _ ⟨T4,hT4,t4,rfl,rfl⟩;rw[aot] at t4 ⊢;dsimp only at t4 ⊢;rw[akD.st];refine aj "8v" fun b24=> ?_;refine aj "Ct" ?_;refine WC.sub (H':=s3.M.A::ah b24 58 [.i (stM s3.M.aC).f,.i (stM s3.M.aC).t0,.bool (stM s3.M.aC).g0,.i (stM s3.M.aC).t1,.bool (stM s3.M.aC).g1]::s3.C.A bc::dA bd bc g::T4.A bs bd g::ah b9 81 M0.cells::aV (.slice Ak m ck) 99 34 m (s3.r.flatMap Ky.cells)::ah b11 37 (s3.la.cells s3.A s3.c s3.er)::ah b3 23 [.i g.bl,.i g.pg,.i g.se,.i g.sb,.i g.fl]::F) (Sub.refl _) (fun w h=>h.bg 5 [4,0,1,2,3] rfl) ?_;have anS:s3.C.aC.Ma=s3.fu:=by unfold aD.Ma;rw[if_pos hF3.up];exact hJ3.fu
     refine aj "~m.~~,." ?_;refine WQ.bI (oj:=_) rfl rfl rfl GC.f (V.fE (vs:=[_,_,_,_,_]) ⟨isAgg58,sizeOf58⟩ (ak rfl) rfl (fun _=>tN)) rfl ?_;refine WQ.bI (oj:=_) rfl rfl rfl GC.f (V.fE (vs:=[_,_]) ⟨isAgg81,sizeOf81⟩ (ak rfl) rfl (fun _=>af4)) rfl ?_;refine WQ.nL (oj:=_) (vs:=[_]) rfl rfl rfl GC.f call43 ⟨OV.g rfl id,trivial⟩ (fun _=>by
      have :=xP (M:=s3.M) (K:=K) (F:=ah b24 58 [.i (stM s3.M.aC).f,.i (stM s3.M.aC).t0,.bool (stM s3.M.aC).g0,.i (stM s3.M.aC).t1,.bool (stM s3.M.aC).g1]::s3.C.A bc::dA bd bc g::T4.A bs bd g::ah b9 81 M0.cells::aV (.slice Ak m ck) 99 34 m (s3.r.flatMap Ky.cells)::ah b11 37 (s3.la.cells s3.A s3.c s3.er)::ah b3 23 [.i g.bl,.i g.pg,.i g.se,.i g.sb,.i g.fl]::F) (by rw[hJ3.hl];decide) (by rw[hJ3.dl];decide);rw[hJ3.mv] at this;exact this) rfl ?_
     refine WQ.bI (oj:=_) rfl rfl rfl GC.f (V.Qc (by kernel_rfl) (OV.g rfl id) (OV.g rfl id) (afg _ _ _ _ _ _ _ _ _ _)) rfl<|aj "~~x.~]" ?_;refine WQ.nL (oj:=_) (vs:=[_]) rfl rfl rfl GC.f call27 ⟨OV.g rfl id,trivial⟩ (fun _=>aK.perm (K4 (C:=s3.C) (F:=s3.M.A::ah b24 58 [.i (stM s3.M.aC).f,.i (stM s3.M.aC).t0,.bool (stM s3.M.aC).g0,.i (stM s3.M.aC).t1,.bool (stM s3.M.aC).g1]::dA bd bc g::T4.A bs bd g::ah b9 81 M0.cells::aV (.slice Ak m ck) 99 34 m (s3.r.flatMap Ky.cells)::ah b11 37 (s3.la.cells s3.A s3.c s3.er)::ah b3 23 [.i g.bl,.i g.pg,.i g.se,.i g.sb,.i g.fl]::F)) (fun w h=>h.bg 3 [2,0,1] rfl) (fun w h=>h.bg 3 [1,2,0] rfl)) rfl<|aj "~]" ?_;refine WQ.bI (oj:=_) rfl rfl rfl GC.f (V.neq (OV.g rfl id) (OV.g rfl id)) rfl (aj "~~x~i" ?_);refine WC.ni rfl ((by rw[anS];simp))<|aj "ih$Y" ?_;exact⟨{ s3 with i:=i+1,T:=T4 },⟨by show i+1≤k;omega,hJ3.nxt hT4 t4 (i+1) (by show 4*(i:Int)+4≤4*((i+1:Nat):Int);omega) (by show 70*(i:Int)+70≤70*((i+1:Nat):Int);omega)⟩,(by show k-(i+1)<k-i;omega),.cons rfl bC,fun w h=>h.bg 9 [2,3,4,0,5,6,7,8] rfl⟩
  ·simp only[cZ] at bA;refine aj "Na" ?_;refine WL.call (vs:=[]) call18 trivial (QI _ _) rfl ?_;rintro _ H0 ⟨rfl,h0⟩;subst H0;exact aj "d+" trivial
end Go.Proofs.YtcedojacbhnbiaaGreat
namespace Go.Proofs.YtcedojacbhnbiaaGreat
open Go.Sl Go.ChangeShapes Go.WideShapes Go.ChangeAt Go.RowKit Tryz List Nat
theorem afe:prog.cellsOf 3=1:=by kernel_rfl
theorem an0:prog.cellsOf 5=1:=by kernel_rfl
theorem agD:prog.cellsOf 4=1:=by kernel_rfl
theorem aoj:prog.cellsOf 97=32:=by kernel_rfl
theorem aak{H:Type}{enc:TypeId×Value→H}{W:World}{n:Nat}{cs:List Value}{y:DataW H×List MemPlace}(hl:cs.length=32)(h:DataW.trod enc prog W 0 (fun _=>true) true n 97 cs=some y):∃l:List Nat,cs=av .u8 l∧l.length=32∧aA 256 l:=by
 obtain⟨xs,k,_,_,_,uI,hf⟩:=DataW.trod_array underlying97 h;obtain⟨l,h1,h2⟩:=aa9 32 (fun i (x:Nat)=>x<256∧cs[i]? =some (.int .u8 (x:Int))) fun i hi=>by
  have h0:=hf i hi;rw[an0,Nat.mul_one,getElem?_eq_getElem (show i<xs.length by rw[uI];exact hi)] at h0;obtain⟨z,e0,b1,b2⟩:=pW underlying5 h0;have b1':0≤z:=b1;have b2':z≤255:=b2;refine⟨z.toNat,by omega, ?_⟩;have h3:(List.take 1 (List.drop i cs))[0]? =some (.int .u8 z):=by rw[e0];rfl
  rw[getElem?_take,if_pos aN,getElem?_drop,Nat.add_zero] at h3;rw[h3,Int.toNat_of_nonneg b1']
 refine⟨l, ?_,h1,fun x hx=> ?_⟩
 ·apply ext_getElem?;intro i;rcases Nat.lt_or_ge i 32 with hi | hi
  ·have Zw:l[i]? =some (l[i]'ay):=getElem?_eq_getElem ay;rw[(h2 i _ Zw).2];unfold av;rw[getElem?_map,Zw];rfl
  ·rw[getElem?_eq_none ay,getElem?_eq_none (by rw[au];omega)]
 ·obtain⟨i,hi⟩:=getElem?_of_mem hx;exact (h2 i x hi).1
theorem aat{H:Type}{enc:TypeId×Value→H}{W:World}{n:Nat}{cs:List Value}{y:DataW H×List MemPlace}(hl:cs.length=34)(h:DataW.trod enc prog W 0 (fun _=>true) true n 99 cs=some y):∃k:Ky,cs=k.cells∧k.Ok:=by
 obtain⟨xs,k,_,_,_,uI,hf⟩:=DataW.trod_struct underlying99 h
 match xs,uI with
 | [x0,x1,x2],_ =>
  have h0:DataW.trod enc prog W 0 (fun _=>true) true k 3 (List.take (prog.cellsOf 3) (List.drop 0 cs))=some x0:=hf 0 _ rfl;have h1:DataW.trod enc prog W 0 (fun _=>true) true k 97 (List.take (prog.cellsOf 97) (List.drop 1 cs))=some x1:=hf 1 _ rfl;have h2:DataW.trod enc prog W 0 (fun _=>true) true k 4 (List.take (prog.cellsOf 4) (List.drop 33 cs))=some x2:=hf 2 _ rfl;rw[afe] at h0;rw[aoj] at h1;rw[agD] at h2;obtain⟨i0,e0,_⟩:=pW underlying3 h0;obtain⟨l,e1,l1,l2⟩:=aak (by rw[length_take,length_drop,hl];rfl) h1;obtain⟨b,e2,_⟩:=DataW.trod_bool underlying4 h2;refine⟨⟨i0,l,b⟩, ?_,l1,l2⟩;have a1:cs=cs.take 1++((cs.drop 1).take 32++(cs.drop 33).take 1):=by
   conv=>lhs;rw[←take_append_drop 1 cs,←take_append_drop 32 (cs.drop 1),drop_drop]
   rw[take_of_length_le (l:=cs.drop 33) (by rw[length_drop,hl];decide)]
  rw[drop_zero] at e0;rw[a1,e0,e1,e2];rfl
theorem U8:∀ {css:List (List Value)},(∀cs∈css,∃k:Ky,cs=k.cells∧k.Ok)→∃ks:List Ky,css=ks.map Ky.cells∧∀k∈ks,k.Ok
 | [],_=>⟨[],rfl,fun _ h=>by cases h⟩
 | cs::css,h=>by
  obtain⟨o,rfl,ho⟩:=h cs (.head _);obtain⟨ws,rfl,hw⟩:=U8 fun x hx=>h x (.tail _ hx);exact⟨o::ws,rfl,fun k hk=>(mem_cons.1 hk).elim (fun e=>e ▸ ho) (hw k)⟩
theorem Yz{H:Type}{enc:TypeId×Value→H}{W:World}{r:Reach}{base:Nat}{v:Value}{d:DataW H}{p:List MemPlace}(JE:Value.okWide prog W r base 24 v)
 (h:DataW.Trod enc prog W 0 (fun _=>true) true 24 v d p):∃(A:Option Addr) (m cap:Nat) (ks:List Ky),v= .slice A m cap∧(m≤20→Ring W [Old W] A m ks):=by
 obtain⟨A,m,cap,css,rfl,hl,_,qX,hs⟩:=Hw (s:=34) underlying24 (by kernel_rfl) JE h;obtain⟨ks,rfl,hk⟩:=U8 fun cs hc=>by
  obtain⟨h1,n,y,h2⟩:=qX cs hc;exact aat h1 h2
 exact⟨A,m,cap,ks,rfl,fun hm=>⟨by rw[flatMap_def];exact hs,by simpa using hl,hk,by omega⟩⟩
theorem ajA:prog.cellsOf 9=1:=by kernel_rfl
theorem Xq{H:Type}{enc:TypeId×Value→H}{W:World}{n:Nat}{cs:List Value}{y:DataW H×List MemPlace}(hl:cs.length=3)(h:DataW.trod enc prog W 0 (fun _=>true) true n 84 cs=some y):∃o:Hz,cs=o.cells:=by
 obtain⟨xs,k,_,_,_,uI,hf⟩:=DataW.trod_struct underlying84 h
 match cs,hl,xs,uI with
 | [v0,v1,v2],_,[x0,x1,x2],_ =>
  have h0:DataW.trod enc prog W 0 (fun _=>true) true k 3 (List.take (prog.cellsOf 3) (List.drop 0 [v0,v1,v2]))=some x0:=hf 0 _ rfl;have h1:DataW.trod enc prog W 0 (fun _=>true) true k 3 (List.take (prog.cellsOf 3) (List.drop 1 [v0,v1,v2]))=some x1:=hf 1 _ rfl;have h2:DataW.trod enc prog W 0 (fun _=>true) true k 9 (List.take (prog.cellsOf 9) (List.drop 2 [v0,v1,v2]))=some x2:=hf 2 _ rfl;rw[afe] at h0 h1;rw[ajA] at h2;obtain⟨i0,e0,_⟩:=pW underlying3 h0;obtain⟨i1,e1,_⟩:=pW underlying3 h1;obtain⟨s,e2,_⟩:=DataW.trod_string underlying9 h2;simp at e0 e1 e2;subst e0 e1 e2;exact⟨⟨i0,i1,s⟩,rfl⟩
theorem PL:∀ {css:List (List Value)},(∀cs∈css,∃o:Hz,cs=o.cells)→∃sc:List Hz,css=sc.map Hz.cells
 | [],_=>⟨[],rfl⟩
 | cs::css,h=>by
  obtain⟨o,rfl⟩:=h cs (.head _);obtain⟨sc,rfl⟩:=PL fun x hx=>h x (.tail _ hx);exact⟨o::sc,rfl⟩
theorem Kn{H:Type}{enc:TypeId×Value→H}{W:World}{r:Reach}{base:Nat}{v:Value}{d:DataW H}{p:List MemPlace}(JE:Value.okWide prog W r base 77 v)
 (h:DataW.Trod enc prog W 0 (fun _=>true) true 77 v d p):∃A m cap sc,v= .slice A m cap∧nZ W [Old W] A m sc:=by
 obtain⟨A,m,cap,css,rfl,hl,_,qX,hs⟩:=Hw (s:=3) underlying77 (by kernel_rfl) JE h;obtain⟨sc,rfl⟩:=PL fun cs hc=>by
  obtain⟨h1,n,y,h2⟩:=qX cs hc;exact Xq h1 h2
 exact⟨A,m,cap,sc,rfl,hs,by simpa using hl⟩
end Go.Proofs.YtcedojacbhnbiaaGreat
