import Derived.Test.YtcedojacbhnbiaaGreatP13
import Derived.Test.YtcedojacbhnbiaaGreatP9
set_option autoImplicit true
set_option linter.all false
set_option maxHeartbeats 2000000
set_option maxRecDepth 20000
set_option relaxedAutoImplicit true
namespace Go.Proofs.YtcedojacbhnbiaaGreat
open Go.Sl Go.RowKit Tryz List Nat
abbrev wrC(p:Int×Bs):List Value:=[.i p.1,p.2.v]
def acs(cap:Int)(l:List (List Nat)):Bool:=l.any fun d=>decide (cap<(d.length:Int))
def acB(cap:Int)(sd:List Nat)(ds:List (List Nat)):Int :=
 if sd.length<64 then 4 else if I7 (sd.take (sd.length-64))≠0 then 4 else
 if 4<((iL (sd.take (sd.length-64))).getD .zero).gH.length∨((iL (sd.take (sd.length-64))).getD .zero).gH.length≠ds.length then 1 else
 if acs cap (sd::ds) then 2 else 0
def acW:Int→List (List Nat)→List (Int×List Nat)
 | _,[]=>[]
 | a,d::l=>(a,d)::acW (a+1) l
theorem acp:∀(a:Int) (l:List (List Nat)),(acW a l).length=l.length
 | _,[]=>rfl
 | a,d::l=>by rw[acW,length_cons,acp,length_cons]
theorem ahc:∀ {a:Int} {l:List (List Nat)} {j:Nat} {d:List Nat},l[j]? =some d→(acW a l)[j]? =some (a+(j:Int),d)
 | a,[],j,d,h=>by simp at h
 | a,x::l,0,d,h=>by simp at h;subst h;simp[acW]
 | a,x::l,j+1,d,h=>by
  rw[acW,getElem?_cons_succ,ahc (by simpa using h)];congr 2;omega
theorem afz(c:Int):∀(a:Int) (l:List (List Nat)),(acW a l).any (fun p=>decide (c<(p.2.length:Int)))=acs c l
 | _,[]=>rfl
 | a,d::l=>by rw[acW,any_cons,afz c (a+1) l];rfl
def aaI(x:aY)(sd:List Nat)(ds:List (List Nat)):List (Int×List Nat):=acW (2+5*(1-x.f)) ds++[(1+5*(1-x.f),sd),(0,bU (x.install (1-x.f)).1)]
theorem abA{x:aY}(h:x.ok=true):(x.install (1-x.f)).1.ok=true∧(x.install (1-x.f)).2=0:=by
 have h1:=aY.lJ h;have hs:1-x.f=0∨1-x.f=1:=ay;unfold aY.install;rw[if_neg (by rw[aY.GZ h hs];omega)];refine⟨?_,rfl⟩;unfold aY.put;rcases h1.1 with hf | hf
 all_goals
  rw[hf];simp[aY.ok];omega
section
variable{bs bd bc:Nat}{g:bQ}{T:bZ}{C:Cw}{K:World}{F:List aH}{S D:Option Addr}{q cs k kd:Nat}{sd:List Nat}{ds:List Bs}{x:aY}
theorem afr{x:aY}(hx:(x.install (1-x.f)).1.ok=true){c:Int}(hc:9≤c)(sd:List Nat)(ds:List (List Nat)):(aaI x sd ds).any (fun p=>decide (c<(p.2.length:Int)))=acs c (sd::ds):=by
 have h9:(bU (x.install (1-x.f)).1).length=9:=by unfold bU;rw[gZ,aY.fC hx]
 unfold aaI;rw[List.any_append,afz,any_cons,any_cons,h9,decide_eq_false (show ¬c<((9:Nat):Int) by omega)];unfold acs;rw[any_cons];simp[Bool.or_comm]
theorem ac8(hC:C.Ok)(hg:C.g=g)(hT:T.Ok g)(hl:11≤(T.stands.length:Int))(dL:lK C.aC T.aC=(x,0,T.aC))(hx:x.ok=true):aB prog 48 #[ptr bs 0] K (C.A bc::dA bd bc g::T.A bs bd g::F)
 (fun v H'=>∃T':bZ,T'.Ok g∧T'.aC=T.aC∧v= .tuple #[.i (1-x.f),.i 0]∧H'=C.A bc::dA bd bc g::T'.A bs bd g::F):=by
 have h1:=aY.lJ hx;refine aB.en func48 ntmps48 ?_;refine aj "alj" ?_;refine WL.c1 call24 rfl (vB hC hg hT hl) rfl ?_;rintro _ _ ⟨T',Oo,t',rfl,rfl⟩;rw[dL] at t' ⊢;dsimp only[aY.v];refine aj "6w" fun b4=> ?_;refine aj "Efs39o[C" ?_;exact aF.ret (H':=C.A bc::dA bd bc g::T'.A bs bd g::F) (bJ.eU rfl rfl rfl) (fun w h=>h.drop 1) ⟨T',Oo,t',rfl,rfl⟩
theorem aia(hC:C.Ok)(hg:C.g=g)(hT:T.Ok g)(hl:11≤(T.stands.length:Int))(dL:lK C.aC T.aC=(x,0,T.aC))(hx:x.ok=true)(hs:Seq K F S q 1 (av .u8 sd))(h8:aA 256 sd)(hq:q≤1000000)(hqc:q≤cs)(hd:ajm K F D k ds)(hdc:∀p∈ds,p.m≤p.cap)(hk:k≤1000) :
 aB prog 111 #[ptr bs 0,.i (1-x.f),.slice S q cs,.slice D k kd] K (C.A bc::dA bd bc g::T.A bs bd g::F) (fun v H'=>∃T':bZ,T'.Ok g∧T'.aC=T.aC ∧
  ((acB g.cap sd (ds.map Bs.l)≠0∧v= .tuple #[.slice none 0 0,.i (acB g.cap sd (ds.map Bs.l))]∧H'=C.A bc::dA bd bc g::T'.A bs bd g::F) ∨
   (acB g.cap sd (ds.map Bs.l)=0∧∃(A':Option Addr) (c':Nat) (W:List (Int×Bs)) (b:Nat),W.map (fun p=>(p.1,p.2.l))=(aaI x sd (ds.map Bs.l)).reverse∧v= .tuple #[.slice A' W.length c',.i 0] ∧
    (∀p∈W,Seq K (ah b 5 (ints .u8 (x.install (1-x.f)).1.bytes)::F) p.2.A p.2.m 1 (av .u8 p.2.l)∧aA 256 p.2.l∧p.2.m≤p.2.cap) ∧
    H'=C.A bc::dA bd bc g::T'.A bs bd g::aV (.slice A' W.length c') 190 2 W.length (W.flatMap wrC)::ah b 5 (ints .u8 (x.install (1-x.f)).1.bytes)::F))):=by
 have mR:sd.length=q:=by have :=hs.len;rwa [au,Nat.mul_one] at this
 have wF:ds.length=k:=by have :=hd.seq.len;rwa [length_map,Nat.mul_one] at this
 obtain⟨R,hR⟩:∃R,R=acB g.cap sd (ds.map Bs.l):=⟨_,rfl⟩;rw[←hR];unfold acB at hR;rw[mR,length_map,wF] at hR;obtain⟨M,hM⟩:∃M,M=(iL (sd.take (q-64))).getD .zero:=⟨_,rfl⟩;rw[←hM] at hR;have yO:g.aU:=by rw[←hg];exact hC.aU
 have FR:=bQ.vL yO;have uN:∀ {e:Int} {T':bZ} {Y:bZ→Prop},T'.Ok g→T'.aC=T.aC→R=e→e≠0→∃T2:bZ,T2.Ok g∧T2.aC=T.aC∧((R≠0∧Value.tuple #[.slice none 0 0,.i e]= .tuple #[.slice none 0 0,.i R]∧C.A bc::dA bd bc g::T'.A bs bd g::F=C.A bc::dA bd bc g::T2.A bs bd g::F)∨Y T2):=fun {e T' Y} h1 h2 h3 h4=>⟨T',h1,h2,.inl ⟨by rw[h3];exact h4,by rw[h3],rfl⟩⟩;refine aB.aaG func111 rfl ntmps111 rfl ?_;simp only[kV,reduceAdd];refine aj "alj" ?_;refine WL.sub (Sub.refl _) cO (WL.c1 call78 rfl (WU hs.up.up.up hq hqc) rfl ?_);rintro v26 H26 aiQ;obtain⟨A1,m1,c1,A2,m2,c2,rfl,hX⟩:∃(A1:Option Addr) (m1 c1:Nat) (A2:Option Addr) (m2 c2:Nat),v26= .tuple #[.slice A1 m1 c1,.slice A2 m2 c2,.i (if q<64 then 4 else 0)]∧((q<64∧H26=C.A bc::dA bd bc g::T.A bs bd g::F)∨(64≤q∧m1=q-64∧q-64≤c1∧H26=aV (.slice A1 (q-64) c1) 5 1 (q-64) (av .u8 (sd.take (q-64)))::aV (.slice A2 64 c2) 5 1 64 (av .u8 (sd.drop (q-64)))::C.A bc::dA bd bc g::T.A bs bd g::F)):=by
  rcases aiQ with ⟨k1,k2,k3⟩ | ⟨k1,A1,c1,A2,c2,k4,k2,k3⟩
  ·exact⟨none,0,0,none,0,0,by rw[k2,if_pos k1],.inl ⟨k1,k3⟩⟩
  ·exact⟨A1,_,c1,A2,_,c2,by rw[k2,if_neg ay],.inr ⟨k1,rfl,k4.1,k3⟩⟩
 refine aj "6~Mllfsi" (aW (fun h0=> ?_) fun h0=> ?_)
 ·skip
  have alE:q<64:=by
   by_cases h:q<64
   ·exact h
   ·rw[if_neg h] at h0;simp at h0
  rcases hX with ⟨_,rfl⟩ | ⟨k1,_⟩
  rotate_left
  ·omega
  rw[if_pos alE] at hR;refine aj "eC" ?_;exact mZ.ret (H':=C.A bc::dA bd bc g::T.A bs bd g::F) (bJ.eU rfl rfl rfl) cO (by rw[if_pos alE];exact uN hT rfl hR aN)
 ·skip
  have alE:64≤q:=by
   by_cases h:q<64
   ·rw[if_pos h] at h0;simp at h0
   ·omega
  rcases hX with ⟨k1,_⟩ | ⟨_,rfl,aQ,rfl⟩
  ·omega
  rw[if_neg ay] at hR;obtain⟨bd',al0⟩:∃b,b=sd.take (q-64):=⟨_,rfl⟩;have BI:bd'.length=q-64:=by rw[al0,length_take];omega
  have hb8:aA 256 bd':=by rw[al0];exact fun y hy=>h8 y (mem_of_mem_take hy)
  rw[←al0] at hR hM ⊢;refine aj "U" ?_;refine WL.c1 call80 rfl (Xy (b:=bd') (aV.seq (by rw[au,BI,Nat.mul_one])) hb8 aQ) rfl ?_;rintro _ _ ⟨As,ca,E,rfl,hE,rfl⟩;rw[←hM] at hE ⊢;dsimp only[sI.cells];refine aj "6w" fun b13=> ?_;refine aj "Efsi" (aW (fun aQ=> ?_) fun aQ=> ?_)
  ·simp only[oK] at aQ;have h1:=aQ;rw[if_pos h1] at hR;refine aj "eC" ?_;exact mZ.ret (H':=C.A bc::dA bd bc g::T.A bs bd g::F) (bJ.eU rfl rfl rfl) (fun w h=>h.drop 4) (by rw[show I7 bd'=4 by unfold I7 at h1 ⊢;split at h1;exact absurd rfl h1;exact if_neg (by assumption)];exact uN hT rfl hR aN)
  ·simp only[oK] at aQ;have h1:=aQ;rw[if_neg (fun h=>h h1)] at hR;refine aj ",aok~Jc~g~b~DV~D~VLi" (aW (fun h2=> ?_) fun h2=> ?_)
   ·simp only[iC] at h2;rw[if_pos ay] at hR;refine aj "aC" ?_;exact mZ.ret (H':=C.A bc::dA bd bc g::T.A bs bd g::F) (bJ.eU rfl rfl rfl) (fun w h=>h.drop 4) (uN hT rfl hR aN)
   ·simp only[iC] at h2;rw[if_neg ay] at hR;refine aj "U" ?_;refine WL.sub (H':=C.A bc::dA bd bc g::T.A bs bd g::F) (Sub.refl _) (fun w h=>h.drop 4) ?_;refine WL.c1 call24 rfl (vB hC hg hT hl) rfl ?_;rintro _ _ ⟨T',Oo,t',rfl,rfl⟩;rw[dL] at t' ⊢;dsimp only[aY.v] at t' ⊢;refine aj "6w" fun b14=> ?_;refine aj "Efs3," ?_;obtain⟨xi,hxi⟩:∃xi,xi=(x.install (1-x.f)).1:=⟨_,rfl⟩;have hxk:xi.ok=true:=by rw[hxi];exact (abA hx).1
    rw[←hxi];have arq:=(aY.lJ hx).1;obtain⟨tg,htg⟩:∃tg,tg=1-x.f:=⟨_,rfl⟩;have avz:tg=0∨tg=1:=ay;refine aj "pBc" ?_;refine WL.t2 call176 rfl rfl ((aeI x (1-x.f) _ _).eq (v':= .tuple #[.agg #[.i xi.f,.i xi.t0,.bool xi.g0,.i xi.t1,.bool xi.g1],.i 0]) (by rw[hxi,(abA hx).2])) rfl ?_;refine aj "6ERB" ?_;refine WL.c1 call131 rfl (EP xi _ _) rfl ?_;rintro _ _ (⟨_,bS,rfl,rfl⟩ | ⟨k1,_⟩)
    rotate_left
    ·rw[hxk] at k1;cases k1
    have uI:(bU xi).length=9:=by unfold bU;rw[gZ,aY.fC hxk]
    have hx8:aA 256 (bU xi):=iP (aY.gJ hxk);have hxn:av .u8 (bU xi)=ints .u8 xi.bytes:=by unfold bU;rw[mJ (aY.gJ hxk)]
    refine aj "Dj" ?_;refine WL.t2 call23 rfl rfl ((xR (1-x.f) (-1) _ _).eq (v':= .tuple #[.i (1+5*(1-x.f)),.i 0]) (by rcases arq with h | h<;>rw[h]<;>rfl)) rfl ?_;refine aj "6w" fun b17=> ?_;refine aj "~%j" ?_;refine WL.val (V.build (vs:=[(0,_),(1,_)]) ⟨ak rfl,ak rfl,trivial⟩ rfl (acJ _ _ _ _)) rfl (aj "<c" ?_);refine WL.val (V.build (vs:=[(0,_),(1,_)]) ⟨ak rfl,ak rfl,trivial⟩ rfl (acJ _ _ _ _)) rfl ?_;refine WL.buildSlice (E:=190) (cs:=[_,_,_,_]) (vs:=[(0,_),(1,_)]) ⟨ak rfl,ak rfl,trivial⟩ rfl (aff _ _ _ _) rfl (fun b82=> ?_);refine aj "w" fun b19=> ?_;refine aj "~%FM" ?_;have hws:1+5*(1-x.f)=1+5*tg:=by rw[htg]
    rw[hws];obtain⟨W0,hW0⟩:∃W0:List (Int×Bs),W0=[((0:Int),Bs.mk (some ⟨bS,0,none⟩) 9 9 (bU xi)),(1+5*tg,Bs.mk S q cs sd)]:=⟨_,rfl⟩;obtain⟨Ok,hOk⟩:∃Ok:Int×Bs→Prop,Ok=fun p=>Seq K (ah bS 5 (ints .u8 xi.bytes)::F) p.2.A p.2.m 1 (av .u8 p.2.l)∧aA 256 p.2.l∧p.2.m≤p.2.cap:=⟨_,rfl⟩;refine WC.sub (H':=aV (.slice (some ⟨b82,0,none⟩) 2 2) 190 2 2 (W0.flatMap wrC)::ah b19 183 [.slice (some ⟨b82,0,none⟩) 2 2]::ah b17 3 [.i (1+5*tg)]::C.A bc::dA bd bc g::T'.A bs bd g::ah bS 5 (ints .u8 xi.bytes)::F) (Sub.refl _) (fun w h=>by
     have h2:=h.bg 8 [1,0,2,5,6,7,3] rfl;rw[hW0];exact Sat.BX (m:=2) (s:=2) (cap:=2) (cs:=[.i 0,.slice (some ⟨bS,0,none⟩) 9 9,.i (1+5*tg),.slice S q cs]) h2 rfl aN aN) ?_
    refine aj "h" ?_;refine WL.c1 call177 rfl (af7) rfl ?_;rintro _ _ ⟨b84,rfl,rfl⟩;refine aj "bt" ?_;obtain⟨DL,hDL⟩:∃DL,DL=acW (2+5*tg) (ds.map Bs.l):=⟨_,rfl⟩;have avU:DL.length=k:=by rw[hDL,acp,length_map];exact wF
    obtain⟨G,hG⟩:∃G:Option Addr×Nat×List (Int×Bs)→List aH,G=fun s=>ah b84 47 [.slice D k kd]::aV (.slice s.1 s.2.2.length s.2.1) 190 2 s.2.2.length (s.2.2.flatMap wrC)::ah b19 183 [.slice s.1 s.2.2.length s.2.1]::ah b17 3 [.i (1+5*tg)]::C.A bc::dA bd bc g::T'.A bs bd g::ah bS 5 (ints .u8 xi.bytes)::F:=⟨_,rfl⟩;obtain⟨I,hI⟩:∃I:Nat→Option Addr×Nat×List (Int×Bs)→Prop,I=fun i s=>(∀p∈s.2.2,Ok p)∧s.2.2.length=2+(k-i)∧s.2.2.map (fun p=>(p.1,p.2.l))=W0.map (fun p=>(p.1,p.2.l))++(DL.drop i).reverse:=⟨_,rfl⟩;refine WC.range (gf:=234) (lb:=[ptr b84 0]) (Done:=fun H1=>∃s,I 0 s∧H1=G s) (X:=fun c H1=>False) rfl call234 (fun r l e1 e2 e3 hA=> ?_) (fun D' H1 ZB=> ?_) (fun D' c H1 Wz=>Wz.elim);have L9:∀j,j<k→ds[j]? =some (ds.getD j ⟨none,0,0,[]⟩):=fun j hj=>by rw[getD,getElem?_eq_getElem ay];rfl
    have hrF:∀j,j<k→Rd K F (D.map (·.add (j*1))) (ds.getD j ⟨none,0,0,[]⟩).v:=fun j hj=>by
     rw[Nat.mul_one];refine hd.seq.rd j _ ?_;rw[getElem?_map,L9 j hj];rfl
    suffices Ba:∀j s,j<k→I (j+1) s→jY prog K none l #[.i (j:Int),(ds.getD j ⟨none,0,0,[]⟩).v] (r.A l .ready none::jT r.D::G s) (fun b H'=>(b=true∧∃s',I j s'∧H'=r.A l .ready none::jT r.D::G s')∨(b=false∧False)) from by
     have h1:=afO (K:=K) (A:=D) (n:=k) (cap:=kd) (l:=l) (b1:=b84) (Y1:=r.A l .ready none) (Y2:=jT r.D) (cs:=fun j=>(ds.getD j ⟨none,0,0,[]⟩).v) G I (fun _=>False) ay (fun s=>by rw[hG];exact (Rd.here rfl).up.up) (fun j s hj=>by rw[hG];repeat (first | exact hrF j hj | apply Rd.up)) Ba (s0:=(some ⟨b82,0,none⟩,2,W0)) (by
      rw[hI];refine⟨fun p hp=> ?_,by rw[hW0];simp,by rw[drop_of_length_le ay];simp⟩;rw[hW0] at hp;simp only[mem_cons,not_mem_nil,or_false] at hp;rw[hOk];rcases hp with rfl | rfl
      ·exact⟨by dsimp only;rw[hxn];exact Seq.all (by simp[ints,aY.fC hxk]),hx8,Nat.le_refl _⟩
      ·exact⟨hs.up,h8,hqc⟩)
     rw[hG] at h1;dsimp only at h1;rw[show W0.length=2 by rw[hW0];rfl] at h1;exact h1.mono fun v H' h=>by
      rcases h with ⟨s,h1,h2⟩ | h
      ·exact⟨none,_,h2,s,h1,by rw[hG]⟩
      ·exact h.elim
    rintro j s hj hIj;obtain⟨p,hp⟩:∃p,p=ds.getD j ⟨none,0,0,[]⟩:=⟨_,rfl⟩;have hpj:ds[j]? =some p:=by rw[hp];exact L9 j hj
    rw[←hp];refine jY.mono (CS (n:=110) (args:=[.i (j:Int),p.v]) (post:=fun jj H1=>jj=none∧∃s',I j s'∧H1=jT r.D::G s') (by rw[e1];rfl) (by rw[e1];simp) hA ?_) (fun b2 H' ⟨jj,H1,oH,⟨hj2,s',hI2,eH1⟩,eH⟩=> .inl ⟨by rw[oH,hj2];rfl,s',hI2,by rw[eH,hj2,eH1];rfl⟩);rw[e1,e2];obtain⟨k1,k2,k3⟩:(∀p∈s.2.2,Ok p)∧s.2.2.length=2+(k-(j+1))∧s.2.2.map (fun p=>(p.1,p.2.l))=W0.map (fun p=>(p.1,p.2.l))++(DL.drop (j+1)).reverse:=by rw[hI] at hIj;exact hIj
    obtain⟨A1,c1,W⟩:=s;dsimp only at k1 k2 k3;refine WC.sub (E:=(86,_)::(85,_)::_) (H':=r.A l .ready none::jT r.D::(fun s:Option Addr×Nat×List (Int×Bs)=>ah b84 47 [.slice D k kd]::aV (.slice s.1 s.2.2.length s.2.1) 190 2 s.2.2.length (s.2.2.flatMap wrC)::ah b19 183 [.slice s.1 s.2.2.length s.2.1]::ah b17 3 [.i (1+5*tg)]::C.A bc::dA bd bc g::T'.A bs bd g::ah bS 5 (ints .u8 xi.bytes)::F) (A1,c1,W)) (Sub.refl _) (fun w h=>by rw[hG] at h;exact h) ?_;dsimp only
    ·skip
     refine aj "agpg" ?_;refine⟨_,fun w h=>h, ?_⟩;rw[e3];refine aj "tp<<$c$c" ?_;refine WL.val (V.build (vs:=[(0,_),(1,_)]) ⟨ak rfl,ak rfl,trivial⟩ rfl (acJ _ _ _ _)) rfl ?_;refine WL.buildSlice (E:=190) (cs:=[_,_]) (vs:=[(0,_)]) ⟨ak rfl,trivial⟩ rfl (afN _ _) rfl (fun b94=> ?_);refine WL.sub (Sub.refl _) (fun w h=>h.bg 5 [4,0,1,2,3] rfl) ?_;refine WL.append (m:=W.length) (q:=1) (news:=wrC (1+5*tg+1+(j:Int),p)) underlying183 aoL (ak rfl) (ak rfl) (Seq.all rfl) (fun u hu=>by simp only[mem_cons,not_mem_nil,or_false] at hu;rcases hu with rfl | rfl<;>rfl) ay rfl rfl (fun A95 c95 au1 awv=> ?_);refine aj "~pb" ?_;refine⟨_,fun w h=>h.bg 6 [2,3,4,0,5] rfl,rfl,(A95,c95,W++[(1+5*tg+1+(j:Int),p)]), ?_, ?_⟩
     ·rw[hI];refine⟨fun y hy=> ?_,by dsimp only;rw[length_append,k2];simp;omega, ?_⟩
      ·rcases mem_append.1 hy with hy | hy
       ·exact k1 y hy
       ·rw[mem_singleton.1 hy,hOk];obtain⟨h1,h2,h3⟩:=hd.ok p (mem_of_getElem? hpj);exact⟨h1.up,h2,hdc p (mem_of_getElem? hpj)⟩
      ·dsimp only;have hjD:DL[j]? =some (2+5*tg+(j:Int),p.l):=by rw[hDL];exact ahc (by rw[getElem?_map,hpj];rfl)
       have JI:DL.drop j=(2+5*tg+(j:Int),p.l)::DL.drop (j+1):=(List.getElem?_eq_some_iff.1 hjD).2 ▸ drop_eq_getElem_cons _;rw[map_append,k3,JI,reverse_cons,append_assoc];congr 2;simp only[map_cons,map_nil];rw[show 1+5*tg+1+(j:Int)=2+5*tg+(j:Int) by omega]
     ·rw[hG];dsimp only;rw[length_append,flatMap_append];rfl
    ·skip
     obtain⟨⟨A3,c3,W⟩,ZH,rfl⟩:=ZB;obtain⟨k1,k2,k3⟩:(∀p∈W,Ok p)∧W.length=2+(k-0)∧W.map (fun p=>(p.1,p.2.l))=W0.map (fun p=>(p.1,p.2.l))++(DL.drop 0).reverse:=by rw[hI] at ZH;exact ZH
     have hWm:W.map (fun p=>(p.1,p.2.l))=(aaI x sd (ds.map Bs.l)).reverse:=by
      rw[k3,hW0,hDL];unfold aaI;rw[reverse_append,←hxi,←htg];rfl
     refine WC.sub (H':=jT D'::(fun s:Option Addr×Nat×List (Int×Bs)=>ah b84 47 [.slice D k kd]::aV (.slice s.1 s.2.2.length s.2.1) 190 2 s.2.2.length (s.2.2.flatMap wrC)::ah b19 183 [.slice s.1 s.2.2.length s.2.1]::ah b17 3 [.i (1+5*tg)]::C.A bc::dA bd bc g::T'.A bs bd g::ah bS 5 (ints .u8 xi.bytes)::F) (A3,c3,W)) (Sub.refl _) (fun w h=>by rw[hG] at h;exact h) ?_;dsimp only;rw[hOk] at k1;have ZG:=afr (x:=x) (by rw[←hxi];exact hxk) (show 9≤g.cap by omega) sd (ds.map Bs.l);rw[←ZG] at hR;have Bw:∀p∈W,p.2.l.length=p.2.m:=fun p hp=>by have :=(k1 p hp).1.len;rwa [au,Nat.mul_one] at this
     have UW:∀ {i:Nat} {p:Int×Bs},W[i]? =some p→∀q v,(wrC p)[q]? =some v→∀H,Rd K (aV (.slice A3 W.length c3) 190 2 W.length (W.flatMap wrC)::H) (A3.map (·.add (i*2+q))) v:=fun {i p} hp q v hv H=>(aV.seq (rW (f:=wrC) (s:=2) (fun _=>rfl) W)).rd _ _ (JK (f:=wrC) (s:=2) (fun _=>rfl) W i q p v hp hv);refine aj "Ma<kN" ?_;refine WC.loop (σ:=Nat) (fun i=>[(0,ptr bs 0),(19,ptr b19 0),(96,.slice A3 W.length c3),(97,.i (W.length:Int)),(98,.i (i:Int))]) (fun _=>jT D'::aV (.slice A3 W.length c3) 190 2 W.length (W.flatMap wrC)::ah b19 183 [.slice A3 W.length c3]::C.A bc::dA bd bc g::T'.A bs bd g::ah bS 5 (ints .u8 xi.bytes)::F) (fun i=>i≤W.length∧∀j p,j<i→W[j]? =some p→(p.2.m:Int)≤g.cap) (fun i=>W.length-i) 0 ⟨zero_le _,fun j p hj=>absurd hj (not_lt_zero j)⟩ bC (fun w h=>h.bg 5 [0,2,3] rfl) ?_;rintro i ⟨hi,nT⟩;refine aj "TH" (aW (fun h4=> ?_) fun h4=> ?_)
     ·simp only[cZ] at h4;have hiw:i<W.length:=ay;obtain⟨p,hp⟩:∃p,W[i]? =some p:=⟨_,getElem?_eq_getElem hiw⟩;have Bv:(i:Int).toNat=i:=ay;refine aj "Ia" ?_;refine WL.val (V.aG (v':=sp A3 (i*2)) (V.dw ak8 (ak rfl) (ak rfl) (fun _=>by omega) (fun _=>by rw[Bv];exact (UW hp 0 _ rfl _).up)) (fun _=>by rw[Bv])) rfl ?_;refine WL.val (V.tX (vs:=wrC p) ⟨isAgg190,sizeOf190⟩ (ak rfl) rfl aN (fun _ q v hq=>(UW hp q v hq _).up)) rfl ?_;refine aj "w" fun b23=> ?_;refine aj "~(F~k~y~G~~Q&" ?_;refine WQ.call (vs:=[_]) call50 ⟨ak rfl,trivial⟩ (aK.mem (fun F=>X4 (bs:=bs) (bd:=bd) (T:=T') (F:=F) yO) (by repeat (first | exact .head _ | apply Mem.tail))) rfl ?_;refine aj "~_~fH" (aW (fun h5=> ?_) fun h5=> ?_)
      ·simp only[cZ] at h5;have al4:(aaI x sd (ds.map Bs.l)).any (fun p=>decide (g.cap<(p.2.length:Int)))=true:=any_eq_true.2 ⟨(p.1,p.2.l),mem_reverse.1 (hWm ▸ mem_map.2 ⟨p,mem_of_getElem? hp,rfl⟩),by dsimp only;rw[Bw p (mem_of_getElem? hp)];simpa using h5⟩;rw[if_pos al4] at hR;refine aj "aC" ?_;exact mZ.agu (H':=C.A bc::dA bd bc g::T'.A bs bd g::F) _ (fun w h=>h.bg 2 [1,0] rfl) (bJ.eU rfl rfl rfl) (fun w h=>h.bg 7 [3,4,5] rfl) (uN Oo t' hR aN)
      ·simp only[cZ] at h5;refine aj "q7" ?_;exact⟨i+1,⟨hiw,fun j p' hj BA=>by
        rcases Nat.lt_or_ge j i with h | h
        ·exact nT j p' h BA
        ·obtain rfl:j=i:=by omega
         rw[hp] at BA;injection BA with BA
         subst BA;omega⟩,(by show W.length-(i+1)<W.length-i;omega),.cons rfl bC,fun w h=>h.tail⟩
     ·simp only[cZ] at h4;refine aj "Ka<C" ?_;obtain rfl:i=W.length:=by omega
      have al4:¬(aaI x sd (ds.map Bs.l)).any (fun p=>decide (g.cap<(p.2.length:Int)))=true:=fun h=>by
       obtain⟨y,h1,h2⟩:=any_eq_true.1 h;have h3:y∈W.map (fun p=>(p.1,p.2.l)):=by rw[hWm];exact mem_reverse.2 h1
       obtain⟨p,h4,rfl⟩:=mem_map.1 h3;obtain⟨j,hj⟩:=getElem?_of_mem h4;have h6:=nT j p (List.getElem?_eq_some_iff.1 hj).1 hj;dsimp only at h2;rw[Bw p h4] at h2;simp at h2;omega
      rw[if_neg al4] at hR;exact mZ.agu (H':=C.A bc::dA bd bc g::T'.A bs bd g::aV (.slice A3 W.length c3) 190 2 W.length (W.flatMap wrC)::ah bS 5 (ints .u8 xi.bytes)::F) _ cO (bJ.eU rfl rfl rfl) (fun w h=>h.bg 6 [1+1,3,4,0,5] rfl) ⟨T',Oo,t',.inr ⟨hR,A3,c3,W,bS,hWm,rfl,k1,rfl⟩⟩
end
theorem UD(s t:aY):iW prog 10000 58 (.agg #[.i s.f,.i s.t0,.bool s.g0,.i s.t1,.bool s.g1]) (.agg #[.i t.f,.i t.t0,.bool t.g0,.i t.t1,.bool t.g1]) (decide (s=t)):=fun w=>by
 rw[afg _ _ _ _ _ _ _ _ _ _ w];congr 1;rw[Bool.eq_iff_iff];obtain⟨a,b,c,d,e⟩:=s;obtain⟨a',b',c',d',e'⟩:=t;simp[aY.mk.injEq,and_assoc]
abbrev Ran:=(La×Int)×aD×St
def goB(ring:List Ky)(aO slot:Int)(next:aY→aD→St→Ran)(x:aY)(S:aD)(T:St):Ran :=
 if (jE S T ring aO slot).2.1=0 then (((jE S T ring aO slot).1,0),S,(jE S T ring aO slot).2.2) else
 if (jE S T ring aO slot).2.1=70 then ((.zero,70),S,(jE S T ring aO slot).2.2) else next x S (jE S T ring aO slot).2.2
def BN(ring:List Ky)(aO:Int):List Int→aY→aD→St→Ran
 | [],x,S,T=>((.zero,240),S,T)
 | slot::l,x,S,T=>if (x.gM slot).1≠x then
  if (bq S T 0 (bU (x.gM slot).1)).2.2≠0 then ((.zero,(bq S T 0 (bU (x.gM slot).1)).2.2),(bq S T 0 (bU (x.gM slot).1)).1,(bq S T 0 (bU (x.gM slot).1)).2.1) else
  goB ring aO slot (BN ring aO l) (x.gM slot).1 (bq S T 0 (bU (x.gM slot).1)).1 (bq S T 0 (bU (x.gM slot).1)).2.1
  else goB ring aO slot (BN ring aO l) x S T
def tH(S:aD)(T:St)(ring:List Ky)(aO:Int):Ran :=
 if (lK S T).2.1≠0 then ((.zero,(lK S T).2.1),S,(lK S T).2.2) else BN ring aO (lK S T).1.order (lK S T).1 S (lK S T).2.2
def ajo(T:St):Prop:=∀l∈T.cu,l.length≤1000000
def wY(ring:List Ky)(aO:Int):List Int→aY→aD→St→Prop
 | [],_,_,_=>True
 | slot::l,x,S,T=>((x.gM slot).1≠x→ajo T∧((bq S T 0 (bU (x.gM slot).1)).2.2=0→wY ring aO l (x.gM slot).1 (bq S T 0 (bU (x.gM slot).1)).1 (jE (bq S T 0 (bU (x.gM slot).1)).1 (bq S T 0 (bU (x.gM slot).1)).2.1 ring aO slot).2.2)) ∧
  ((x.gM slot).1=x→wY ring aO l x S (jE S T ring aO slot).2.2)
theorem Nt{x:aY}(h:x.ok=true)(slot:Int):(x.gM slot).1.ok=true:=by
 have h1:=aY.lJ h;unfold aY.gM;split
 ·rfl
 ·rename_i h2;obtain⟨_,hs⟩:=aY.Uf (Decidable.not_not.1 h2);split
  ·rename_i h3;rcases hs with rfl | rfl
   all_goals
    simp only[aY.may,aY.g,aY.t,aY.put,if_pos,if_neg,Bool.or_eq_true,decide_eq_true_eq,Int.one_ne_zero,if_false] at h3 ⊢;simp only[aY.ok,Bool.and_eq_true,Bool.or_eq_true,decide_eq_true_eq];split<;>simp_all<;>omega
  ·rfl
theorem YJ{T:bZ}{C:Cw}(hC:C.Ok)(hg:C.g=g)(hT:T.Ok g)(hl:11≤(T.stands.length:Int))(hr:Ring K F A m ring)(qZ:(lK C.aC T.aC).2.1=0→wY ring aO (lK C.aC T.aC).1.order (lK C.aC T.aC).1 C.aC (lK C.aC T.aC).2.2) :
 aB prog 17 #[ptr bs 0,.slice A m c,.i aO] K (C.A bc::dA bd bc g::T.A bs bd g::F)
 (fun v H'=>∃(C':Cw) (T':bZ) (A':Option Addr) (c':Nat) (ps:List (Int×Bs)) (E:aH),C'.Ok∧C'.g=g∧T'.Ok g∧C'.aC=(tH C.aC T.aC ring aO).2.1∧T'.aC=(tH C.aC T.aC ring aO).2.2∧v= .agg ((tH C.aC T.aC ring aO).1.1.cells A' c' (tH C.aC T.aC ring aO).1.2).toArray ∧
  (tH C.aC T.aC ring aO).1.1.jS=ps.map (fun p=>(p.1,p.2.l))∧(∀H,kD K (E::H) A' ps)∧H'=C'.A bc::dA bd bc g::T'.A bs bd g::E::F):=by
 obtain⟨X,hX⟩:∃X,X=tH C.aC T.aC ring aO:=⟨_,rfl⟩;obtain⟨G,hG⟩:∃G,G=lK C.aC T.aC:=⟨_,rfl⟩;have hz:∀(e:Int) (C':Cw) (T':bZ),C'.Ok→C'.g=g→T'.Ok g→X=((.zero,e),C'.aC,T'.aC)→∃(C2:Cw) (T2:bZ) (A':Option Addr) (c':Nat) (ps:List (Int×Bs)) (E:aH),C2.Ok∧C2.g=g∧T2.Ok g∧C2.aC=X.2.1∧T2.aC=X.2.2∧Value.agg (La.zero.cells none 0 e).toArray= .agg (X.1.1.cells A' c' X.1.2).toArray∧X.1.1.jS=ps.map (fun p:Int×Bs=>(p.1,p.2.l))∧(∀H,kD K (E::H) A' ps)∧C'.A bc::dA bd bc g::T'.A bs bd g::bK []::F=C2.A bc::dA bd bc g::T2.A bs bd g::E::F :=
  fun e C' T' Zx N9 Oo he=>⟨C',T',none,0,[],bK [],Zx,N9,Oo,by rw[he],by rw[he],by rw[he],by rw[he];rfl,fun H=>⟨⟨rfl,fun i v hi=>by simp at hi⟩,fun p hp=>by cases hp⟩,rfl⟩
 have Dv:G.1.ok=true:=by rw[hG];exact aaP _ _
 rw[←hX];unfold tH at hX;rw[←hG] at hX qZ;refine aB.en func17 ntmps17 ?_;refine aj "aw" fun b6=> ?_;refine WL.nil ?_;refine WC.scope (fun _ _ _ _ h=>h) ?_;refine aj "e~1" ?_;refine WL.c1 call24 rfl (vB hC hg hT hl) rfl ?_;rintro _ _ ⟨T1,oZ,t1,rfl,rfl⟩;rw[←hG] at t1 ⊢;refine aj "6w" fun b7=> ?_;refine aj "Efsi" (aW (fun h0=> ?_) fun h0=> ?_)
 ·simp only[iC] at h0;rw[if_pos h0] at hX;refine aj "e" ?_;refine WL.val (V.build (vs:=[(4,_)]) ⟨ak rfl,trivial⟩ rfl (rZ _)) rfl (aj "E2" ?_);exact aF.ret (H':=C.A bc::dA bd bc g::T1.A bs bd g::bK []::F) (bJ.one rfl (R1.jQ (vs:=[_,_,_,_,_]) rfl ⟨isAgg37,sizeOf37⟩ rfl tN)) (fun w h=>(Sat.all (l:=[]) (h.bg 5 [1,2,3] rfl)).bg 4 [1,2,3,0] rfl) (hz _ C T1 hC hg oZ (by rw[hX,t1]))
 ·simp only[iC] at h0;rw[if_neg (fun h=>h h0)] at hX;refine aj "9B" ?_;refine WL.c1 call67 rfl (EW G.1 _ _) rfl ?_;rintro _ _ ⟨A9,c9,rfl,rfl⟩;obtain⟨od,hod⟩:∃od,od=G.1.order:=⟨_,rfl⟩;rw[←hod] at hX qZ ⊢;have Gh:od.length≤2:=by
   rw[hod];unfold aY.order;rw[if_pos Dv];exact length_filter_le _ _
  refine aj "Du" ?_;refine WC.label (aj "rkN" ?_);refine WC.loop (σ:=Nat×aY×Cw×bZ) (fun s=>[(0,ptr bs 0),(1,.slice A m c),(2,.i aO),(6,ptr b6 0),(7,ptr b7 0),(32,.slice A9 od.length c9),(33,.i (od.length:Int)),(34,.i (s.1:Int))])
   (fun s=>s.2.2.1.A bc::dA bd bc g::s.2.2.2.A bs bd g::ah b7 58 [.i s.2.1.f,.i s.2.1.t0,.bool s.2.1.g0,.i s.2.1.t1,.bool s.2.1.g1]::aV (.slice A9 od.length c9) 3 1 od.length (ints .i64 od)::ah b6 37 [.i 0,.i 0,.i 0,.slice none 0 0,.i 0]::F)
   (fun s=>s.1≤od.length∧s.2.1.ok=true∧s.2.2.1.Ok∧s.2.2.1.g=g∧s.2.2.2.Ok g∧X=BN ring aO (od.drop s.1) s.2.1 s.2.2.1.aC s.2.2.2.aC∧wY ring aO (od.drop s.1) s.2.1 s.2.2.1.aC s.2.2.2.aC) (fun s=>od.length-s.1)
   (0,G.1,C,T1) ⟨zero_le _,Dv,hC,hg,oZ,by dsimp only;rw[t1];exact hX,by dsimp only;rw[t1];exact qZ h0⟩ bC (fun w h=>h.bg 6 [2,3,4,1,0,5] rfl) ?_
  rintro⟨i,x,C1,T2⟩ ⟨hi,hx,RP,EH,BH,wu,Zw⟩;dsimp only at hi hx RP EH BH wu Zw ⊢;refine aj "TH" (aW (fun h1=> ?_) fun h1=> ?_)
  ·simp only[cZ] at h1;obtain⟨sl,mR⟩:∃sl,od[i]? =some sl:=⟨_,getElem?_eq_getElem ay⟩;have adC:od.drop i=sl::od.drop (i+1):=(List.getElem?_eq_some_iff.1 mR).2 ▸ drop_eq_getElem_cons _;rw[adC,BN] at wu;rw[adC,wY] at Zw;have zN:=Nt hx sl;obtain⟨t,ht⟩:∃t,t=(x.gM sl).1:=⟨_,rfl⟩;rw[←ht] at wu Zw zN;have kr:∀ {H:List aH},Rd K (aV (.slice A9 od.length c9) 3 1 od.length (ints .i64 od)::H) (A9.map (·.add ((i:Int).toNat*1))) (.i sl):=fun {H}=>by
    rw[Int.toNat_natCast,Nat.mul_one];exact (aV.seq (by rw[bR,Nat.mul_one])).rd i _ (by unfold ints;rw[getElem?_map,mR];rfl)
   refine aj "Ia" ?_;refine WL.val (V.dw eB (ak rfl) (ak rfl) (fun _=>by omega) (fun _=>kr.up.up.up.up)) rfl ?_;refine WL.val (V.load isAgg3 (ak rfl) (fun _=>kr.up.up.up.up)) rfl ?_;refine aj "vBc" ?_;refine WL.t2 call68 rfl rfl ((Yr x sl _ _).eq (v':= .tuple #[t.v,.i (x.gM sl).2]) (by rw[ht])) rfl ?_;refine aj "6w" fun b13=> ?_;refine aj "Eg" ?_;refine WC.join (σ:=aY×Cw×bZ) (fun s=>[(0,ptr bs 0),(1,.slice A m c),(2,.i aO),(6,ptr b6 0),(7,ptr b7 0),(12,.i sl),(32,.slice A9 od.length c9),(33,.i (od.length:Int)),(34,.i (i:Int))])
    (fun s=>s.2.1.A bc::dA bd bc g::s.2.2.A bs bd g::ah b7 58 [.i s.1.f,.i s.1.t0,.bool s.1.g0,.i s.1.t1,.bool s.1.g1]::aV (.slice A9 od.length c9) 3 1 od.length (ints .i64 od)::ah b6 37 [.i 0,.i 0,.i 0,.slice none 0 0,.i 0]::F)
    (fun s=>s.1.ok=true∧s.2.1.Ok∧s.2.1.g=g∧s.2.2.Ok g∧X=goB ring aO sl (BN ring aO (od.drop (i+1))) s.1 s.2.1.aC s.2.2.aC∧wY ring aO (od.drop (i+1)) s.1 s.2.1.aC (jE s.2.1.aC s.2.2.aC ring aO sl).2.2) ?_ ?_
   ·skip
    refine aj "aBB" ?_;refine WL.val (V.Qc (by kernel_rfl) (ak rfl) (ak rfl) (UD t x)) rfl ?_;refine aj "i" (aW (fun h2=> ?_) fun h2=> ?_)
    ·have EJ:t≠x:=by simpa using h2
     rw[if_pos EJ] at wu;obtain⟨hlT,hlk⟩:=Zw.1 EJ;refine aj "rB~1" ?_;refine WL.c2 call69 rfl rfl (Ld RP EH BH zN hlT) rfl ?_;rintro _ _ ⟨C2,T3,Bz,U1,hT3,c2,t3,rfl,rfl⟩;obtain⟨k,hk⟩:∃k,k=bq C1.aC T2.aC 0 (bU t):=⟨_,rfl⟩;rw[←hk] at c2 t3 wu hlk ⊢;refine aj "jsi" (aW (fun h3=> ?_) fun h3=> ?_)
     ·simp only[iC] at h3;rw[if_pos h3] at wu;refine aj "e" ?_;refine WL.val (V.build (vs:=[(4,_)]) ⟨ak rfl,trivial⟩ rfl (rZ _)) rfl (aj "~K2" ?_);exact aF.ret (H':=C2.A bc::dA bd bc g::T3.A bs bd g::bK []::F) (bJ.one rfl (R1.jQ (vs:=[_,_,_,_,_]) rfl ⟨isAgg37,sizeOf37⟩ rfl tN)) (fun w h=>(Sat.all (l:=[]) (h.bg 7 [0,1,2] rfl)).bg 4 [1,2,3,0] rfl) (hz _ C2 T3 Bz U1 hT3 (by rw[wu,c2,t3]))
     ·simp only[iC] at h3;rw[if_neg (fun h=>h h3)] at wu;refine aj "qpB~Kb~A" ?_;exact⟨(t,C2,T3),⟨zN,Bz,U1,hT3,by dsimp only;rw[wu,c2,t3],by dsimp only;rw[c2,t3];exact hlk h3⟩,.cons rfl bC,fun w h=>h.bg 7 [0,1,2,4,5,6] rfl⟩
    ·have EJ:t=x:=by simpa using h2
     rw[if_neg (fun h=>h EJ)] at wu;have hlk:=Zw.2 EJ;refine aj "q~A" ?_;exact⟨(x,C1,T2),⟨hx,RP,EH,BH,wu,hlk⟩,.cons rfl bC,fun w h=>h.tail⟩
   ·skip
    rintro⟨y,C3,T4⟩ ⟨hy,TS,hg3,hT4,Xu,hl3⟩;dsimp only at hy TS hg3 hT4 Xu hl3 ⊢;obtain⟨L,hL⟩:∃L,L=jE C3.aC T4.aC ring aO sl:=⟨_,rfl⟩;unfold goB at Xu;rw[←hL] at Xu hl3;refine aj "ezc" ?_;refine WL.c4 call70 rfl rfl rfl rfl (XW (slot:=sl) (aO:=aO) (ring:=ring) TS hg3 hT4 hr.up.up.up) rfl ?_;rw[←hL];rintro _ _ ⟨T5,A5,c5,ps,E,hT5,t5,rfl,l7,hE,rfl⟩;refine aj "6w" fun b16=> ?_;refine aj "Ejbta:gH" (aW (fun h4=> ?_) fun h4=> ?_)
    ·simp only[iC] at h4;rw[if_pos h4] at Xu;refine aj "aB~K2" ?_;exact aF.ret (H':=C3.A bc::dA bd bc g::T5.A bs bd g::E::F) (bJ.one rfl (R1.jQ (vs:=[_,_,_,_,_]) rfl ⟨isAgg37,sizeOf37⟩ rfl tN)) (fun w h=>h.bg 8 [1,2,3,4] rfl) ⟨C3,T5,A5,c5,ps,E,TS,hg3,hT5,by rw[Xu],by rw[Xu];exact t5,by rw[Xu],by rw[Xu];exact l7,hE,rfl⟩
    ·simp only[iC] at h4;rw[if_neg h4] at Xu;refine aj "a:gH" (aW (fun h5=> ?_) fun h5=> ?_)
     ·simp only[iC] at h5;rw[if_pos h5] at Xu;refine aj "e" ?_;refine WL.val (V.build (vs:=[(4,_)]) ⟨ak rfl,trivial⟩ rfl (rZ _)) rfl (aj "~K2" ?_);exact aF.ret (H':=C3.A bc::dA bd bc g::T5.A bs bd g::bK []::F) (bJ.one rfl (R1.jQ (vs:=[_,_,_,_,_]) rfl ⟨isAgg37,sizeOf37⟩ rfl tN)) (fun w h=>(Sat.all (l:=[]) (h.bg 8 [1,2,3] rfl)).bg 4 [1,2,3,0] rfl) (hz _ C3 T5 TS hg3 hT5 (by rw[Xu,t5,h5]))
     ·simp only[iC] at h5;rw[if_neg h5] at Xu;refine aj "K7" ?_;exact⟨(i+1,y,C3,T5),⟨by show i+1≤od.length;omega,hy,TS,hg3,hT5,by dsimp only;rw[Xu,t5],by dsimp only;rw[t5];exact hl3⟩,(by show od.length-(i+1)<od.length-i;omega),.cons rfl bC,fun w h=>h.bg 8 [1,2,3,5,6,7] rfl⟩
  ·simp only[cZ] at h1;refine aj "W" ?_;rw[drop_of_length_le ay,BN] at wu;refine WC.region (WL.val (V.build (vs:=[(4,_)]) ⟨ak rfl,trivial⟩ rfl (rZ _)) rfl (aj "~K2" ?_));exact aF.ret (H':=C1.A bc::dA bd bc g::T2.A bs bd g::bK []::F) (bJ.one rfl (R1.jQ (vs:=[_,_,_,_,_]) rfl ⟨isAgg37,sizeOf37⟩ rfl tN)) (fun w h=>(Sat.all (l:=[]) (h.bg 6 [0,1,2] rfl)).bg 4 [1,2,3,0] rfl) (hz _ C1 T2 RP EH BH wu)
namespace aD
theorem abD(S:aD)(f:aD→aD)(hf:∀T,(f T).aO=T.aO):(S.all f).1.aO=S.aO:=by
 unfold all;dsimp only;split
 ·rw[hf];rfl
 ·rfl
theorem Yf(S:aD)(b:Int):(S.mark b).1.aO=S.aO:=by grind [mark,abD]
theorem Nn(S:aD)(b p:Int)(xs:List Int):(S.program b p xs).1.aO=S.aO:=by unfold program;repeat (first | rfl | split)
theorem Tj(S:aD)(b:Int):(S.erase b).1.aO=S.aO:=by unfold erase;repeat (first | rfl | split)
theorem KG(b:Int)(x:aD×Int):(done b x).1.aO=x.1.aO:=by
 unfold done;split
 ·rfl
 ·split<;>exact Yf _ _
theorem PN(S:aD)(b p:Int)(d:List Nat):(S.dK b p d).1.aO=S.aO:=by grind [dK,KG,Nn]
theorem wS(S:aD)(b:Int):(S.bB b).1.aO=S.aO:=by grind [bB,KG,Tj]
end aD
theorem Qg(S:aD)(num b aS:Int)(d:List Nat):(dI S num b aS d).1.aO=S.aO:=by
 have h0:=aD.wS S b;have key:∀(S:aD) (pg:Nat→List Nat) k,(gu S b pg k).1.aO=S.aO:=fun S pg k=>by
  induction k with
  | zero=>rfl
  | succ k ih =>
   rw[gu];split
   ·exact ih
   ·rw[aD.PN,ih]
 unfold dI;split
 ·exact h0
 ·rw[key,h0]
theorem KD(aS:Int)(d:List Nat)(S:aD)(T:St)(b:Int):(Eb aS d S T b).1.aO=S.aO:=by grind [Eb,Qg]
theorem KF(aS:Int)(d:List Nat):∀(l:List Int) (S:aD) (T:St),(jy aS d l S T).1.aO=S.aO
 | [],_,_=>rfl
 | b::l,S,T=>by
  rw[jy];split
  ·rw[KF aS d l,KD]
  ·exact KD _ _ _ _ _
theorem pK(S:aD)(T:St)(aS:Int)(d:List Nat):(bq S T aS d).1.aO=S.aO:=by
 unfold bq;repeat (split;rfl)
 have h:=KF aS d (j4 S.dW T.stands T.at_ S.g.bl S.g.bl.toNat 0) S T;split
 ·rename_i h1;rw[h1] at h;exact h
 ·rename_i h1;rw[h1] at h;exact h
theorem OY(h:s.ok=true):aY.parse (bH (bU s))=(s,0):=by
 have e:bH (bU s)=s.bytes:=by
  unfold bU bH iB;rw[map_map]
  conv=>rhs;rw[←map_id s.bytes]
  apply map_congr_left;intro x hx;have :=aY.gJ h x hx;show ((x.toNat:Nat):Int)=x;omega
 rw[e];have hof:aY.of s.bytes=s:=by
  obtain⟨f,t0,g0,t1,g1⟩:=s;unfold aY.bytes;rw[if_pos h];cases g0<;>cases g1<;>rfl
 unfold aY.parse aY.dW;rw[hof,if_pos (by simp[aY.fC h,h])]
def stM(m:Lm):aY:=match m 0 with | some d=>if (aY.parse (bH d)).2=0 then (aY.parse (bH d)).1 else .zero | none=> .zero
theorem GI{m:Lm}(h:x.ok=true):stM (m.put 0 (some (bU x)))=x:=by simp_all [stM,Lm.put,if_pos,OY]
theorem qw(m:Lm):(stM m).ok=true:=by
 unfold stM;split
 ·split
  ·rename_i d _ h2;unfold aY.parse at h2 ⊢;split at h2
   ·rename_i h3;rw[if_pos h3];unfold aY.dW at h3;simp only[Bool.and_eq_true] at h3;exact h3.1.2
   ·cases h2
  ·rfl
 ·rfl
theorem jg.KL(h:jg aJ L B N S T m)(hi:i<aJ):(dZ S T (i:Int)).2=T:=by
 obtain⟨st,hI⟩:=h.si;cases hm:m i with
 | none=>rw[(hI.yZ hi hm).1]
 | some v=>obtain⟨⟨N,_,h2⟩,_⟩:=hI.Ep h.up hi hm;rw[h2]
theorem jg.lK{aJ L B:Nat}{N:Int}{S:aD}{T:St}{m:Lm}(h:jg aJ L B N S T m)(hl:0<aJ):lK S T=(stM m,0,T):=by
 obtain⟨st,hI⟩:=h.si;unfold Go.Proofs.YtcedojacbhnbiaaGreat.lK stM;cases hm:m 0 with
 | none =>
  have h1:=(hI.yZ hl hm).1;rw[show ((0:Nat):Int)=0 from rfl] at h1;rw[h1,if_neg (show ¬(5:Int)=70 by decide),if_neg (fun h=>absurd h.1 (show ¬(5:Int)=0 by decide))]
 | some v =>
  obtain⟨⟨N,_,h2⟩,_⟩:=hI.Ep h.up hl hm;rw[show ((0:Nat):Int)=0 from rfl] at h2;rw[h2,if_neg (show ¬(0:Int)=70 by decide)];dsimp only;by_cases hp:(aY.parse (bH v)).2=0
  ·rw[if_pos ⟨rfl,hp⟩,if_pos hp]
  ·rw[if_neg (fun h=>hp h.2),if_neg hp]
theorem Gm(h:(kZ slot seg).2=0):∃i:Nat,i<11∧(kZ slot seg).1=(i:Int):=by
 unfold kZ at h ⊢;split at h
 ·rename_i hk;rw[if_pos hk];unfold Vh at hk;simp only[Bool.or_eq_true,Bool.and_eq_true,decide_eq_true_eq] at hk;exact⟨(2+5*slot+seg).toNat,by omega,by show (2+5*slot+seg)=_;omega⟩
 ·cases h
theorem jg.reads(h:jg 11 L B N S T m)(slot:Int):∀n i,(jV S slot n i T).2.2=T
 | 0,_=>rfl
 | n+1,i=>by
  rw[jV];split
  ·rfl
  ·rename_i h1;obtain⟨j,hj,hje⟩:=Gm (Decidable.not_not.1 h1);have h2:=h.KL hj;rw[hje];split
   ·exact h2
   ·show (jV S slot n (i+1) _).2.2=T;rw[h2];exact h.reads slot n (i+1)
theorem jg.load(h:jg 11 L B N S T m)(hs:slot=0∨slot=1):(jE S T ring aO slot).2.2=T:=by
 have h0:(kZ slot (-1)).2=0:=by rcases hs with rfl | rfl<;>rfl
 obtain⟨j,hj,hje⟩:=Gm h0;have h2:=h.KL hj;unfold jE PX;rw[hje];split
 ·exact h2
 split
 ·exact h2
 rw[h2];split
 ·exact h.reads _ _ _
 ·exact h.reads _ _ _
theorem abB(h:(jE S T ring aO slot).2.1=0):(jE S T ring aO slot).1.slot=slot∧aO≤(jE S T ring aO slot).1.sec:=by
 unfold jE at h ⊢;obtain⟨G,hG⟩:∃G,G=dZ S T (kZ slot (-1)).1:=⟨_,rfl⟩;rw[←hG] at h ⊢;unfold PX at h ⊢;split at h
 ·rename_i h1;exact absurd h h1
 rename_i h1;rw[if_neg h1];split at h
 ·rename_i h2;exact absurd h h2
 rename_i h2;rw[if_neg h2];split at h
 ·rename_i h3;exact absurd h h3
 rename_i h3;rw[if_neg h3];refine⟨rfl, ?_⟩;have hs:=Xx (Decidable.not_not.1 h2);show aO≤(kW ring aO G.1.d _).1.sec;dsimp only at h;unfold kW at h ⊢;rw[if_neg h2] at h ⊢;split at h
 ·cases h
 rename_i h4;rw[if_neg h4];split at h
 ·rename_i h5;rw[if_pos h5];exact hs
 ·cases h
structure Zq(l:List Int)(x y:aY):Prop where
 f:y.f=x.f
 g:∀k,k=0∨k=1→y.g k=x.g k
 out:∀k,k=0∨k=1→k∉l→y.t k=x.t k
 dW:∀k,k=0∨k=1→x.g k=true→y.t k=x.t k
 t:∀k,k=0∨k=1→x.t k-1≤y.t k∧y.t k≤x.t k
theorem Zq.refl(l:List Int)(x:aY):Zq l x x:=⟨rfl,fun _ _=>rfl,fun _ _ _=>rfl,fun _ _ _=>rfl,fun _ _=>by omega⟩
theorem Zq.trans{t:aY}(h1:Zq [s] x t)(h2:Zq l t y)(hs:s∉l):Zq (s::l) x y:=by
 refine⟨h2.f.trans h1.f,fun k hk=>(h2.g k hk).trans (h1.g k hk),fun k hk hn=> ?_,fun k hk hg=> ?_,fun k hk=> ?_⟩
 ·rw[h2.out k hk (fun h=>hn (.tail _ h)),h1.out k hk (fun h=>hn (by rw[mem_singleton.1 h];exact .head _))]
 ·rw[h2.dW k hk (by rw[h1.g k hk];exact hg),h1.dW k hk hg]
 ·have a:=h1.t k hk;have b:=h2.t k hk;by_cases e:k=s
  ·rw[h2.out k hk (by rw[e];exact hs)];exact a
  ·have :=h1.out k hk (by simpa using e);omega
theorem aej(h:x.ok=true)(hs:s=0∨s=1)(hm:x.may s=true):Zq [s] x (x.gM s).1:=by
 have ha:x.Ol s=0:=by unfold aY.Ol;rw[h];rcases hs with rfl | rfl<;>rfl
 unfold aY.gM;rw[if_neg (fun h=>h ha),if_pos hm];obtain⟨f,t0,g0,t1,g1⟩:=x;rcases hs with rfl | rfl
 ·refine⟨rfl,fun k hk=> ?_,fun k hk hn=> ?_,fun k hk hg=> ?_,fun k hk=> ?_⟩<;>rcases hk with rfl | rfl<;>simp_all [aY.put,aY.g,aY.t]<;>first | done | (split<;>simp<;>omega) | omega
 ·refine⟨rfl,fun k hk=> ?_,fun k hk hn=> ?_,fun k hk hg=> ?_,fun k hk=> ?_⟩<;>rcases hk with rfl | rfl<;>simp_all [aY.put,aY.g,aY.t]<;>first | done | (split<;>simp<;>omega) | omega
structure adW(aO:Int)(l:List Int)(x:aY)(S:aD)(m:Lm)(B:Nat)(N:Int)(R:Ran)(m':Lm):Prop where
 Kt:∃B' N',jg 11 11 B' N' R.2.1 R.2.2 m'∧B'≤B+l.length∧N'≤N+21*(l.length:Int)
 g:R.2.1.g=S.g
 fu:R.2.1.aO=S.aO
 rest:∀i,i≠0→m' i=m i
 st:Zq l x (stM m')
 ok:R.1.2=0→R.1.1.slot∈l∧aO≤R.1.1.sec∧∀s l',l=s::l'→R.1.1.slot=s→∀k,k=0∨k=1→k≠s→(stM m').t k=x.t k
theorem LK(ring:List Ky)(aO:Int):∀(l:List Int) (x:aY) (S:aD) (T:St) (m:Lm) (B:Nat) (N:Int),jg 11 11 B N S T m→stM m=x→11<S.g.bl→S.g.bl≤20→16≤S.g.cap→N+21*(l.length:Int)≤1000000→B+l.length≤1000000 →
 (∀s∈l,(s=0∨s=1)∧x.may s=true)→l.Nodup→wY ring aO l x S T∧∃m',adW aO l x S m B N (BN ring aO l x S T) m'
 | [],x,S,T,m,B,N,hF,hx,_,_,_,_,_,_,_=>⟨trivial,m,⟨B,N,hF,Nat.le_refl _,by simp⟩,rfl,rfl,fun _ _=>rfl,by rw[hx];exact Zq.refl _ _,fun h=>by cases h⟩
 | s::l,x,S,T,m,B,N,hF,hx,EA,oH,kS,hN,hB,hl,vZ=>by
  have Dv:x.ok=true:=by rw[←hx];exact qw m
  obtain⟨hs,hms⟩:=hl s (.head _);have Ws:s∉l:=(nodup_cons.1 vZ).1;have zN:=Nt Dv s;have htr:=aej Dv hs hms;have hlen:(((s::l).length:Nat):Int)=(l.length:Int)+1:=by simp
  have qC:(s::l).length=l.length+1:=rfl;rw[hlen] at hN;rw[qC] at hB;have go:∀(y:aY) (S1:aD) (T1:St) (m1:Lm) (B1:Nat) (N1:Int),jg 11 11 B1 N1 S1 T1 m1→stM m1=y→B1≤B+1→N1≤N+21→S1.g=S.g→S1.aO=S.aO→(∀i,i≠0→m1 i=m i)→Zq [s] x y →
   wY ring aO l y S1 (jE S1 T1 ring aO s).2.2∧∃m',adW aO (s::l) x S m B N (goB ring aO s (BN ring aO l) y S1 T1) m':=by
   intro y S1 T1 m1 B1 N1 hF1 hy hB1 hN1 EH hf1 hm1 dL;have RX:=hF1.load (ring:=ring) (aO:=aO) hs;obtain⟨i1,m',i2⟩:=LK ring aO l y S1 T1 m1 B1 N1 hF1 hy (by rw[EH];exact EA) (by rw[EH];exact oH) (by rw[EH];exact kS) ay ay (fun k hk=>by
    obtain⟨k1,k2⟩:=hl k (.tail _ hk);refine⟨k1, ?_⟩;have uL:k≠s:=fun e=>Ws (e ▸ hk);have e1:=dL.out k k1 (by simpa using uL);have e2:=dL.g k k1;unfold aY.may at k2 ⊢;rw[e1,e2];exact k2) (nodup_cons.1 vZ).2
   rw[RX];refine⟨i1, ?_⟩;unfold goB;rw[RX];have sW:∀e la,adW aO (s::l) x S m B N ((la,e),S1,T1) m1↔(e=0→la.slot∈s::l∧aO≤la.sec∧∀s' l',s::l=s'::l'→la.slot=s'→∀k,k=0∨k=1→k≠s'→(stM m1).t k=x.t k):=fun e la =>
    ⟨fun h=>h.ok,fun h=>⟨⟨B1,N1,hF1,by rw[qC];omega,by rw[hlen];omega⟩,EH,hf1,hm1,by rw[hy];exact dL.trans (Zq.refl l y) Ws,h⟩⟩
   split
   ·rename_i h0;obtain⟨k1,k2⟩:=abB h0;refine⟨m1,(sW _ _).2 fun _=>⟨by rw[k1];exact .head _,k2,fun s' l' he mR k hk pq=> ?_⟩⟩;injection he with he _
    rw[hy];exact dL.out k hk (by rw[he];simpa using pq)
   ·split
    ·exact⟨m1,(sW _ _).2 fun h=>by cases h⟩
    ·obtain⟨B',N',j1,j2,j3⟩:=i2.Kt;refine⟨m',⟨B',N',j1,by rw[qC];omega,by rw[hlen];omega⟩,i2.g.trans EH,i2.fu.trans hf1,fun i hi=>(i2.rest i hi).trans (hm1 i hi),dL.trans i2.st Ws,fun h0=> ?_⟩;obtain⟨k1,k2,_⟩:=i2.ok h0;refine⟨.tail _ k1,k2,fun s' l' he mR=> ?_⟩;injection he with he _
     rw[mR,←he] at k1;exact absurd k1 Ws
  rw[BN,wY];by_cases ht:(x.gM s).1=x
  ·obtain⟨g1,g2⟩:=go x S T m B N hF hx ay ay rfl rfl (fun _ _=>rfl) (Zq.refl _ _);rw[if_neg (fun h=>h ht)];exact⟨⟨fun h=>absurd ht h,fun _=>g1⟩,g2⟩
  ·have uI:(bU (x.gM s).1).length=9:=by unfold bU;rw[gZ,aY.fC zN]
   have h8:aA 256 (bU (x.gM s).1):=iP (aY.gJ zN);obtain⟨c1,c2,c3⟩:=hF.change (by show ((11:Nat):Int)<_;omega) oH ay (i0:=0) aN aN aN h8 (by rw[uI];omega);have c4:=pK S T 0 (bU (x.gM s).1);rw[show ((0:Nat):Int)=0 from rfl] at c1 c2 c3;obtain⟨g1,g2⟩:=go (x.gM s).1 _ _ _ (B+1) (N+21) c3 (GI zN) (Nat.le_refl _) (Int.le_refl _) c2 c4 (fun i hi=>by unfold Lm.put;rw[if_neg hi]) htr;rw[if_pos ht,if_neg (fun h=>h c1)];obtain⟨st0,ZH⟩:=hF.si;exact⟨⟨fun _=>⟨fun l' Dp=>Nat.le_trans (ZH.Y9 l' Dp) ay,fun _=>g1⟩,fun h=>absurd h ht⟩,g2⟩
theorem Ti(ring:List Ky)(aO:Int)(hF:jg 11 11 B N S T m)(EA:11<S.g.bl)(oH:S.g.bl≤20)(kS:16≤S.g.cap)(hN:N≤900000)(hB:B≤900000) :
 ((lK S T).2.1=0→wY ring aO (lK S T).1.order (lK S T).1 S (lK S T).2.2)∧∃m',adW aO (stM m).order (stM m) S m B N (tH S T ring aO) m':=by
 have dL:=hF.lK aN;have Dv:=qw m;have Gh:(stM m).order.length≤2:=by
  unfold aY.order;rw[if_pos Dv];exact length_filter_le _ _
 obtain⟨h1,h2⟩:=LK ring aO (stM m).order (stM m) S T m B N hF rfl EA oH kS ay ay (fun s hs=>by
  unfold aY.order at hs;rw[if_pos Dv] at hs;obtain⟨k1,k2⟩:=mem_filter.1 hs;refine⟨?_,k2⟩;have hf:=(aY.lJ Dv).1;simp only[mem_cons,not_mem_nil,or_false] at k1;omega) (by
  unfold aY.order;rw[if_pos Dv];refine Nodup.sublist filter_sublist ?_;have hf:=(aY.lJ Dv).1;simp;omega)
 unfold tH;rw[dL];exact⟨fun _=>h1,by rw[if_neg (fun h=>h rfl)];exact h2⟩
theorem ql{x:aY}(h:x.ok=true)(hs:s∈x.order):s=0∨s=1:=by
 unfold aY.order at hs;rw[if_pos h] at hs;have k1:=(mem_filter.1 hs).1;have hf:=(aY.lJ h).1;simp only[mem_cons,not_mem_nil,or_false] at k1;omega
def nR(gd:Int→Bool):List Int→aY→aY×Int
 | [],x=>(x,-1)
 | s::l,x=>if gd s then ((x.gM s).1,s) else nR gd l (x.gM s).1
def gF(m:Lm)(slot:Int):Nat→Nat→List (List Nat)×Int
 | 0,_=>([],0)
 | n+1,i=>if (kZ slot (i:Int)).2≠0 then ([],(kZ slot (i:Int)).2) else
  match m (kZ slot (i:Int)).1.toNat with
  | none=>([],5)
  | some d=>(d::(gF m slot n (i+1)).1,(gF m slot n (i+1)).2)
def fT(m:Lm)(ring:List Ky)(aO slot:Int):La×Int :=
 match m (kZ slot (-1)).1.toNat with
 | none=>(.zero,5)
 | some sd=>if (eT ring aO sd).2≠0 then (.zero,(eT ring aO sd).2) else
  if (gF m slot (eT ring aO sd).1.gH.length 0).2≠0 then (.zero,(gF m slot (eT ring aO sd).1.gH.length 0).2) else
  ({ (kW ring aO sd (gF m slot (eT ring aO sd).1.gH.length 0).1).1 with slot:=slot },(kW ring aO sd (gF m slot (eT ring aO sd).1.gH.length 0).1).2)
theorem jg.V8{L B:Nat}{N:Int}{S:aD}{T:St}{m:Lm}(h:jg 11 L B N S T m){j:Nat}(hj:j<11):((dZ S T (j:Int)).1.err=match m j with | none=>5 | some _=>0)∧(∀d,m j=some d→(dZ S T (j:Int)).1.d=d)∧(dZ S T (j:Int)).2=T:=by
 obtain⟨st,hI⟩:=h.si;cases hm:m j with
 | none=>rw[(hI.yZ hj hm).1];exact⟨rfl,fun d hd=>(by cases hd),rfl⟩
 | some v =>
  obtain⟨⟨N,_,h2⟩,_⟩:=hI.Ep h.up hj hm;rw[h2];exact⟨rfl,fun d hd=>(by injection hd),rfl⟩
theorem jg.OX(h:jg 11 L B N S T m)(slot:Int):∀n i,jV S slot n i T=((gF m slot n i).1,(gF m slot n i).2,T)
 | 0,_=>rfl
 | n+1,i=>by
  rw[jV,gF];split
  ·rfl
  ·rename_i h1;obtain⟨j,hj,hje⟩:=Gm (Decidable.not_not.1 h1);obtain⟨k1,k2,k3⟩:=h.V8 hj;rw[hje,Int.toNat_natCast];cases hm:m j with
   | none =>
    rw[hm] at k1;rw[if_pos (by rw[k1];decide),k1,k3]
   | some d =>
    rw[hm] at k1;rw[if_neg (fun hh=>hh k1),k3,k2 d hm,h.OX slot n (i+1)]
theorem jg.adk(h:jg 11 L B N S T m)(hs:slot=0∨slot=1):jE S T ring aO slot=((fT m ring aO slot).1,(fT m ring aO slot).2,T):=by
 have h0:(kZ slot (-1)).2=0:=by rcases hs with rfl | rfl<;>rfl
 obtain⟨j,hj,hje⟩:=Gm h0;obtain⟨k1,k2,k3⟩:=h.V8 hj;unfold jE PX fT;rw[hje,Int.toNat_natCast];cases hm:m j with
 | none =>
  rw[hm] at k1;rw[if_pos (by rw[k1];decide),k1,k3]
 | some d =>
  rw[hm] at k1;rw[if_neg (fun hh=>hh k1),k3,k2 d hm,h.OX];dsimp only;split
  ·rfl
  split
  ·rfl
  ·rfl
theorem E8(hm:∀i,i≠0→m' i=m i)(hs:slot=0∨slot=1):∀n i,gF m' slot n i=gF m slot n i
 | 0,_=>rfl
 | n+1,i=>by
  rw[gF,gF];split
  ·rfl
  ·rename_i h1;have hk:(kZ slot (i:Int)).1.toNat≠0:=by
    unfold kZ at h1 ⊢;split
    ·rcases hs with rfl | rfl<;>dsimp only<;>omega
    ·rename_i h2;rw[if_neg h2] at h1;exact absurd (show ((0:Int),(1:Int)).2≠0 by decide) h1
   rw[hm _ hk,E8 hm hs n (i+1)]
theorem Ic(hm:∀i,i≠0→m' i=m i)(hs:slot=0∨slot=1)(ring:List Ky)(aO:Int):fT m' ring aO slot=fT m ring aO slot:=by
 have hk:(kZ slot (-1)).1.toNat≠0:=by rcases hs with rfl | rfl<;>decide
 unfold fT;rw[hm _ hk];simp only[E8 hm hs]
def Hq(ld:Int→La×Int)(s:Int):La×Int:=if s<0 then (.zero,240) else ((ld s).1,0)
structure ai9(ld:Int→La×Int)(l:List Int)(x:aY)(S:aD)(m:Lm)(B:Nat)(N:Int)(R:Ran)(m':Lm):Prop where
 Kt:∃B' N',jg 11 11 B' N' R.2.1 R.2.2 m'∧B'≤B+l.length∧N'≤N+21*(l.length:Int)
 g:R.2.1.g=S.g
 fu:R.2.1.aO=S.aO
 rest:∀i,i≠0→m' i=m i
 st:stM m'=(nR (fun s=>decide ((ld s).2=0)) l x).1
 res:R.1=Hq ld (nR (fun s=>decide ((ld s).2=0)) l x).2
theorem OT(ring:List Ky)(aO:Int)(ld:Int→La×Int)(h70:∀s,(ld s).2≠70):∀(l:List Int) (x:aY) (S:aD) (T:St) (m:Lm) (B:Nat) (N:Int),jg 11 11 B N S T m→(∀s,s=0∨s=1→fT m ring aO s=ld s)→stM m=x→11<S.g.bl→S.g.bl≤20→16≤S.g.cap→N+21*(l.length:Int)≤1000000→B+l.length≤1000000 →
 (∀s∈l,s=0∨s=1)→∃m',ai9 ld l x S m B N (BN ring aO l x S T) m'
 | [],x,S,T,m,B,N,hF,RX,hx,_,_,_,_,_,_=>⟨m,⟨B,N,hF,Nat.le_refl _,by simp⟩,rfl,rfl,fun _ _=>rfl,hx,rfl⟩
 | s::l,x,S,T,m,B,N,hF,RX,hx,EA,oH,kS,hN,hB,hl=>by
  have Dv:x.ok=true:=by rw[←hx];exact qw m
  have hs:=hl s (.head _);have zN:=Nt Dv s;have hlen:(((s::l).length:Nat):Int)=(l.length:Int)+1:=by simp
  have qC:(s::l).length=l.length+1:=rfl;rw[hlen] at hN;rw[qC] at hB;have go:∀(S1:aD) (T1:St) (m1:Lm) (B1:Nat) (N1:Int),jg 11 11 B1 N1 S1 T1 m1→stM m1=(x.gM s).1→B1≤B+1→N1≤N+21→S1.g=S.g→S1.aO=S.aO→(∀i,i≠0→m1 i=m i) →
   ∃ m',ai9 ld (s::l) x S m B N (goB ring aO s (BN ring aO l) (x.gM s).1 S1 T1) m':=by
   intro S1 T1 m1 B1 N1 hF1 hy hB1 hN1 EH hf1 hm1;have aju:∀k,k=0∨k=1→fT m1 ring aO k=ld k:=fun k hk=>by rw[Ic hm1 hk];exact RX k hk
   have e:=hF1.adk (ring:=ring) (aO:=aO) hs;rw[aju s hs] at e;unfold goB;rw[e];dsimp only;by_cases h0:(ld s).2=0
   ·rw[if_pos h0];refine⟨m1,⟨B1,N1,hF1,by rw[qC];omega,by rw[hlen];omega⟩,EH,hf1,hm1, ?_, ?_⟩
    ·rw[nR,if_pos (decide_eq_true h0)];exact hy
    ·rw[nR,if_pos (decide_eq_true h0)];show ((ld s).1,(0:Int))=Hq ld s;unfold Hq;rw[if_neg ay]
   ·rw[if_neg h0,if_neg (h70 s)];obtain⟨m',i2⟩:=OT ring aO ld h70 l _ S1 T1 m1 B1 N1 hF1 aju hy (by rw[EH];exact EA) (by rw[EH];exact oH) (by rw[EH];exact kS) ay ay (fun k hk=>hl k (.tail _ hk));obtain⟨B',N',j1,j2,j3⟩:=i2.Kt;have er:nR (fun s=>decide ((ld s).2=0)) (s::l) x=nR (fun s=>decide ((ld s).2=0)) l (x.gM s).1:=by rw[nR,if_neg (by simp[h0])]
    exact⟨m',⟨B',N',j1,by rw[qC];omega,by rw[hlen];omega⟩,i2.g.trans EH,i2.fu.trans hf1,fun i hi=>(i2.rest i hi).trans (hm1 i hi),by rw[er];exact i2.st,by rw[er];exact i2.res⟩
  rw[BN];by_cases ht:(x.gM s).1=x
  ·rw[if_neg (fun h=>h ht)];have :=go S T m B N hF (by rw[ht];exact hx) ay ay rfl rfl (fun _ _=>rfl);rw[ht] at this;exact this
  ·have uI:(bU (x.gM s).1).length=9:=by unfold bU;rw[gZ,aY.fC zN]
   have h8:aA 256 (bU (x.gM s).1):=iP (aY.gJ zN);obtain⟨c1,c2,c3⟩:=hF.change (by show ((11:Nat):Int)<_;omega) oH ay (i0:=0) aN aN aN h8 (by rw[uI];omega);have c4:=pK S T 0 (bU (x.gM s).1);rw[show ((0:Nat):Int)=0 from rfl] at c1 c2 c3;rw[if_pos ht,if_neg (fun h=>h c1)];exact go _ _ _ (B+1) (N+21) c3 (GI zN) (Nat.le_refl _) (Int.le_refl _) c2 c4 (fun i hi=>by unfold Lm.put;rw[if_neg hi])
def Xc:Lm→List (Int×List Nat)→Lm
 | m,[]=>m
 | m,p::l=>Xc (m.put p.1.toNat (some p.2)) l
theorem ado:∀(m:Lm) (l l':List (Int×List Nat)),Xc m (l++l')=Xc (Xc m l) l'
 | m,[],l'=>rfl
 | m,p::l,l'=>by rw[cons_append,Xc,Xc,ado]
theorem afw(x:aY)(sd:List Nat)(ds:List (List Nat)):(aaI x sd ds).length=ds.length+2:=by unfold aaI;rw[length_append,acp];rfl
theorem aeY{cap:Int}{sd:List Nat}{ds:List (List Nat)}(h:acB cap sd ds=0):ds.length≤4∧acs cap (sd::ds)=false:=by
 unfold acB at h;split at h
 ·cases h
 split at h
 ·cases h
 split at h
 ·cases h
 split at h
 ·cases h
 ·rename_i h1 h2;exact⟨by omega,by simpa using h2⟩
theorem ae7{a:Int}:∀ {l:List (List Nat)} {p:Int×List Nat},p∈acW a l→a≤p.1∧p.1<a+(l.length:Int)
 | [],_,h=>by cases h
 | d::l,p,h=>by
  rw[acW] at h;rcases mem_cons.1 h with rfl | h
  ·simp only[length_cons];omega
  ·have :=ae7 h;simp only[length_cons];omega
theorem ajl{x:aY}(hx:x.ok=true){sd:List Nat}{ds:List (List Nat)}(hd:ds.length≤4){p:Int×List Nat}(hp:p∈aaI x sd ds):∃i:Nat,i<11∧p.1=(i:Int):=by
 have hf:=(aY.lJ hx).1;have h2:0≤p.1∧p.1<11:=by
  unfold aaI at hp;rcases mem_append.1 hp with h | h
  ·have :=ae7 h;omega
  ·simp only[mem_cons,not_mem_nil,or_false] at h;rcases h with rfl | rfl<;>dsimp only<;>omega
 exact⟨p.1.toNat,by omega,by omega⟩
section
variable{bs bd bc:Nat}{g:bQ}{T:bZ}{C:Cw}{K:World}{F:List aH}{S D:Option Addr}{q cs k kd B:Nat}{N:Int}{mp:Lm}{sd:List Nat}{ds:List Bs}
theorem acn(hC:C.Ok)(hg:C.g=g)(hT:T.Ok g)(hF:jg 11 11 B N C.aC T.aC mp)(EA:11<g.bl)(oH:g.bl≤20)(hN:N≤100000)(hB:B≤90000)(hs:Seq K F S q 1 (av .u8 sd))(h8:aA 256 sd)(hq:q≤1000000)(hqc:q≤cs)(hd:ajm K F D k ds)(hdc:∀p∈ds,p.m≤p.cap)(hk:k≤1000) :
 aB prog 51 #[ptr bs 0,.slice S q cs,.slice D k kd] K (C.A bc::dA bd bc g::T.A bs bd g::F) (fun v H'=>∃(C':Cw) (T':bZ),C'.Ok∧C'.g=g∧T'.Ok g∧C'.aC.aO=C.aC.aO∧v= .i (acB g.cap sd (ds.map Bs.l)) ∧
  (∃(B':Nat) (N':Int),jg 11 11 B' N' C'.aC T'.aC (if acB g.cap sd (ds.map Bs.l)=0 then Xc mp (aaI (stM mp) sd (ds.map Bs.l)) else mp)∧B'≤B+6∧N'≤N+126)∧H'=C'.A bc::dA bd bc g::T'.A bs bd g::F):=by
 have dL:=hF.lK aN;have Dv:=qw mp;obtain⟨x,hx⟩:∃x,x=stM mp:=⟨_,rfl⟩;rw[←hx] at dL Dv ⊢;have hlb:11≤(T.stands.length:Int):=by
  obtain⟨st0,ZH⟩:=hF.si;have h1:T.stands.length=11:=ZH.len;rw[h1];decide
 obtain⟨R,hR⟩:∃R,R=acB g.cap sd (ds.map Bs.l):=⟨_,rfl⟩;rw[←hR];refine aB.aaG func51 rfl ntmps51 rfl ?_;simp only[kV,reduceAdd];refine aj "a~h" fun b3=> ?_;refine aj "w" fun b6=> ?_;refine aj "R<" ?_;refine WL.sub (H':=C.A bc::dA bd bc g::T.A bs bd g::ah b6 32 [.i 0]::ah b3 28 [ptr bs 0]::F) (Sub.refl _) (fun w h=>h.bg 5 [2,3,4,0,1] rfl) ?_;refine WL.c1 call48 rfl (ac8 hC hg hT hlb dL Dv) rfl ?_;rintro _ _ ⟨T1,oZ,t1,rfl,rfl⟩;refine aj "Dfs39<zc" ?_;refine WL.c4 call111 rfl rfl rfl rfl (aia (x:=x) (ds:=ds) (sd:=sd) hC hg oZ (by
  have h2:T1.stands=T.stands:=congrArg St.stands t1;rw[h2];exact hlb) (by rw[t1];exact dL) Dv hs.up.up h8 hq hqc hd.up.up hdc hk) rfl ?_
 rintro v26 H26 ⟨T2,BH,t2,aiQ⟩;rw[←hR] at aiQ;obtain⟨A',c',W,X,rfl,hWm,hOk,acH⟩:∃(A':Option Addr) (c':Nat) (W:List (Int×Bs)) (X:aH),v26= .tuple #[.slice A' W.length c',.i R]∧W.map (fun p=>(p.1,p.2.l))=(if R=0 then aaI x sd (ds.map Bs.l) else []).reverse∧(∀p∈W,Seq K (X::ah b6 32 [.i 0]::ah b3 28 [ptr bs 0]::F) p.2.A p.2.m 1 (av .u8 p.2.l)∧aA 256 p.2.l∧p.2.m≤p.2.cap)∧∀w,Sat K w H26→Sat K w (C.A bc::dA bd bc g::T2.A bs bd g::aV (.slice A' W.length c') 190 2 W.length (W.flatMap wrC)::X::ah b6 32 [.i 0]::ah b3 28 [ptr bs 0]::F):=by
  rcases aiQ with ⟨k1,k2,k3⟩ | ⟨k1,A',c',W,b,k2,k3,k4,k5⟩
  ·exact⟨none,0,[],bK [],k2,by rw[if_neg k1];rfl,fun p hp=>(by cases hp),fun w h=>by
    rw[k3] at h;exact (Sat.all (l:=[]) (h.gI 190 2)).bg 5 [2,3,4,1,0] rfl⟩
  ·exact⟨A',c',W,_,by rw[k3,k1],by rw[if_pos k1];exact k2,k4,fun w h=>by rw[k5] at h;exact h⟩
 refine WL.sub (Sub.refl _) acH ?_;obtain⟨L,hL⟩:∃L,L=if R=0 then aaI x sd (ds.map Bs.l) else []:=⟨_,rfl⟩
 rw[←hL] at hWm;have hWl:W.length=L.length:=by have :=congrArg List.length hWm;simpa using this
 have hL6:L.length≤6:=by
  rw[hL];split
  ·rename_i h;have :=(aeY (hR.symm.trans h)).1;rw[afw];omega
  ·exact zero_le _
 refine aj "Df" ?_;refine WL.c1 call112 rfl (afR) rfl ?_;rintro _ _ ⟨KR,rfl,rfl⟩;refine aj "bt" ?_;obtain⟨G,hG⟩:∃G:Cw×bZ→List aH,G=fun s=>ah KR 183 [.slice A' W.length c']::s.1.A bc::dA bd bc g::s.2.A bs bd g::aV (.slice A' W.length c') 190 2 W.length (W.flatMap wrC)::X::ah b6 32 [.i 0]::ah b3 28 [ptr bs 0]::F:=⟨_,rfl⟩;obtain⟨I,hI⟩:∃I:Nat→Cw×bZ→Prop,I=fun i s=>s.1.Ok∧s.1.g=g∧s.2.Ok g∧s.1.aC.aO=C.aC.aO∧jg 11 11 (B+(L.length-i)) (N+21*((L.length-i:Nat):Int)) s.1.aC s.2.aC (Xc mp (L.take (L.length-i))):=⟨_,rfl⟩;refine WC.range (gf:=178) (lb:=[ptr KR 0]) (Done:=fun H1=>∃s,I 0 s∧H1=G s) (X:=fun c H1=>False) rfl call178 (fun r l e1 e2 e3 hA=> ?_) (fun D' H1 ZB=> ?_) (fun D' c H1 Wz=>Wz.elim);have UW:∀ {i:Nat} {p:Int×Bs},W[i]? =some p→∀q v,(wrC p)[q]? =some v→∀H,Rd K (aV (.slice A' W.length c') 190 2 W.length (W.flatMap wrC)::H) (A'.map (·.add (i*2+q))) v:=fun {i p} hp q v hv H=>(aV.seq (rW (f:=wrC) (s:=2) (fun _=>rfl) W)).rd _ _ (JK (f:=wrC) (s:=2) (fun _=>rfl) W i q p v hp hv);have L9:∀j,j<W.length→W[j]? =some (W.getD j (0,⟨none,0,0,[]⟩)):=fun j hj=>by rw[getD,getElem?_eq_getElem ay];rfl
 suffices Ba:∀j s,j<W.length→I (j+1) s→jY prog K none l #[.i (j:Int),.agg (wrC (W.getD j (0,⟨none,0,0,[]⟩))).toArray] (r.A l .ready none::jT r.D::G s) (fun b H'=>(b=true∧∃s',I j s'∧H'=r.A l .ready none::jT r.D::G s')∨(b=false∧False)) from by
  have h1:=ag2 (K:=K) (A:=A') (n:=W.length) (cap:=c') (l:=l) (b1:=KR) (Y1:=r.A l .ready none) (Y2:=jT r.D) (cs:=fun j=>wrC (W.getD j (0,⟨none,0,0,[]⟩))) G I (fun _=>False) ay (fun s=>by rw[hG];exact (Rd.here rfl).up.up) (fun j=>rfl) (fun j s hj q v hq=>by rw[hG];repeat (first | exact UW (L9 j hj) q v hq _ | apply Rd.up)) Ba (s0:=(C,T2)) (by
   rw[hI];refine⟨hC,hg,BH,rfl, ?_⟩;dsimp only;rw[←hWl,Nat.sub_self,take_zero,t2,t1]
   simpa [Xc] using hF)
  rw[hG] at h1;exact h1.mono fun v H' h=>by
   rcases h with ⟨s,h1,h2⟩ | h
   ·exact⟨none,_,h2,s,h1,by rw[hG]⟩
   ·exact h.elim
 rintro j ⟨C1,T3⟩ hj hIj;obtain⟨p,hp⟩:∃p,p=W.getD j (0,⟨none,0,0,[]⟩):=⟨_,rfl⟩;have hpj:W[j]? =some p:=by rw[hp];exact L9 j hj
 rw[←hp];obtain⟨k1,k2,k3,k4,k5⟩:C1.Ok∧C1.g=g∧T3.Ok g∧C1.aC.aO=C.aC.aO∧jg 11 11 (B+(L.length-(j+1))) (N+21*((L.length-(j+1):Nat):Int)) C1.aC T3.aC (Xc mp (L.take (L.length-(j+1)))):=by rw[hI] at hIj;exact hIj
 refine jY.mono (CS (n:=43) (args:=[.i (j:Int),.agg (wrC p).toArray]) (post:=fun jj H1=>jj=none∧∃s',I j s'∧H1=jT r.D::G s') (by rw[e1];rfl) (by rw[e1];simp) hA ?_) (fun b2 H' ⟨jj,H1,oH,⟨hj2,s',hI2,eH1⟩,eH⟩=> .inl ⟨by rw[oH,hj2];rfl,s',hI2,by rw[eH,hj2,eH1];rfl⟩);rw[e1,e2];refine WC.sub (E:=(32,_)::(31,_)::_) (H':=r.A l .ready none::jT r.D::(fun s:Cw×bZ=>ah KR 183 [.slice A' W.length c']::s.1.A bc::dA bd bc g::s.2.A bs bd g::aV (.slice A' W.length c') 190 2 W.length (W.flatMap wrC)::X::ah b6 32 [.i 0]::ah b3 28 [ptr bs 0]::F) (C1,T3)) (Sub.refl _) (fun w h=>by rw[hG] at h;exact h) ?_;dsimp only
 ·skip
  refine aj "pw" fun b11=> ?_;refine aj "~(b" ?_;refine⟨_,fun w h=>h.bg 2 [1,0] rfl, ?_⟩;rw[e3];obtain⟨q1,q2,q3⟩:=hOk p (mem_of_getElem? hpj);have l7:p.2.l.length=p.2.m:=by have :=q1.len;rwa [au,Nat.mul_one] at this
  have hLj:L[L.length-(j+1)]? =some (p.1,p.2.l):=by
   have h1:(W.map (fun p=>(p.1,p.2.l)))[j]? =some (p.1,p.2.l):=by rw[getElem?_map,hpj];rfl
   rw[hWm,getElem?_reverse ay] at h1;rw[←h1];congr 1;omega
  have hR0:R=0:=by
   by_cases h:R=0
   ·exact h
   ·have h2:L.length=0:=by rw[hL,if_neg h];rfl
    omega
  have hLi:L=aaI x sd (ds.map Bs.l):=by rw[hL,if_pos hR0]
  obtain⟨y1,y2⟩:=aeY (hR.symm.trans hR0);obtain⟨i0,wR,hpi⟩:=ajl Dv y1 (hLi ▸ mem_of_getElem? hLj);dsimp only at hpi;have yO:g.aU:=by rw[←hg];exact hC.aU
  have FR:=bQ.vL yO;have kS:(p.2.l.length:Int)≤g.cap:=by
   have h1:=afr (x:=x) (abA Dv).1 (show 9≤g.cap by omega) sd (ds.map Bs.l);rw[y2] at h1;have h2:=List.any_eq_false.1 h1 (p.1,p.2.l) (hLi ▸ mem_of_getElem? hLj)
   simpa using h2
  obtain⟨st3,hI3⟩:=k5.si;have k2':C1.aC.g=g:=k2;obtain⟨z1,z2,z3⟩:=k5.change (by rw[k2'];omega) (by rw[k2'];omega) ay wR wR ay q2 (by rw[k2'];exact kS);have z4:=pK C1.aC T3.aC (i0:Int) p.2.l;rw[←hpi] at z1 z2 z3 z4;refine aj "ta<oo" ?_;refine WL.sub (Sub.refl _) (fun w h=>h.bg 7 [4,5,6,0,1,2,3] rfl) ?_;refine WL.c3 call16 rfl rfl rfl (Da (d:=p.2.l) k1 k2 k3 (by repeat (first | exact q1 | apply Seq.up)) q2 q3 ay (fun l' Dp=>Nat.le_trans (hI3.Y9 l' Dp) ay)) rfl ?_;rintro v38 _ ⟨C5,T5,hC5,g5,hT5,s5,t5,hv5,rfl⟩;rw[z1] at hv5;subst hv5;rw[←s5,←t5] at z3;rw[←s5] at z4;refine aj "js3q" ?_;refine⟨_,fun w h=>h.bg 7 [3,5,6,0,1,2] rfl,rfl,(C5,T5), ?_,by rw[hG];rfl⟩;rw[hI];refine⟨hC5,g5,hT5,z4.trans k4, ?_⟩;dsimp only;have e1:L.length-j=L.length-(j+1)+1:=ay;have e2:L.take (L.length-j)=L.take (L.length-(j+1))++[(p.1,p.2.l)]:=by rw[e1,take_add_one,hLj];rfl
  rw[e2,ado,Xc,Xc,e1,hpi,Int.toNat_natCast];rw[show N+21*((L.length-(j+1)+1:Nat):Int)=N+21*((L.length-(j+1):Nat):Int)+21 by omega,←Nat.add_assoc];exact z3
 ·skip
  obtain⟨⟨C5,T5⟩,ZH,rfl⟩:=ZB;obtain⟨k1,k2,k3,k4,k5⟩:C5.Ok∧C5.g=g∧T5.Ok g∧C5.aC.aO=C.aC.aO∧jg 11 11 (B+(L.length-0)) (N+21*((L.length-0:Nat):Int)) C5.aC T5.aC (Xc mp (L.take (L.length-0))):=by rw[hI] at ZH;exact ZH
  rw[Nat.sub_zero,take_length] at k5;refine WC.sub (H':=jT D'::(fun s:Cw×bZ=>ah KR 183 [.slice A' W.length c']::s.1.A bc::dA bd bc g::s.2.A bs bd g::aV (.slice A' W.length c') 190 2 W.length (W.flatMap wrC)::X::ah b6 32 [.i 0]::ah b3 28 [ptr bs 0]::F) (C5,T5)) (Sub.refl _) (fun w h=>by rw[hG] at h;exact h) ?_;dsimp only;refine aj "e~%2" ?_;exact mZ.agu (H':=C5.A bc::dA bd bc g::T5.A bs bd g::F) _ cO (bJ.one rfl (R1.JH rfl isAgg32 lD)) (fun w h=>h.bg 8 [1,2,3] rfl) ⟨C5,T5,k1,k2,k3,k4,rfl,⟨_,_,by
   have h6:Xc mp L=if R=0 then Xc mp (aaI x sd (ds.map Bs.l)) else mp:=by rw[hL];split<;>rfl
   rw[←h6];exact k5,by omega,by omega⟩,rfl⟩
end
section
variable{K:World}{F:List aH}{A L:Option Addr}{m cap k kc:Nat}
def aie(b:Bool)(A:Option Addr)(m c:Nat)(cs:List Value):List aH:=if b then [aV (.slice A m c) 5 1 m cs] else []
theorem aja{Mo:Sl.Mode}{n d:Nat}{Q:iX}{e:Env}{ops:Array Oper}{rest:List Oper}{ty:TypeId}{pos:String}{af:Array Edge}{b:Bool}{x y:Operand}{X:aH}{A Y:Option Addr}{m cap c':Nat}{cs news:List Value}(hx:OV true e x (.slice A m cap))(hy:OV true e y (.slice Y 4 c'))(hs:b=false→Seq K F A m 1 cs∧cap=m∧0<m)(hn:∀H,Seq K (X::H) Y 4 1 news)(h1:∀u∈news,u.oneCell'=true)(hm:m≤1000000)
 (h:∀A cap,WL Mo prog K n ops rest Q ((d,.slice A (m+4) cap)::e) (aie true A (m+4) cap (cs++news)++F)) (hd:blt d n=true:=by rfl) :
 WL Mo prog K n ops (⟨some d,.call ⟨.builtin .append,#[x,y],#[34,34]⟩,ty,pos,af,none⟩::rest) Q e (X::(aie b A m cap cs++F)):=by
 cases b with
 | false =>
  obtain⟨h2,h3,h4⟩:=hs rfl;exact WL.D7 (m:=m) (q:=4) (cs:=cs) (news:=news) underlying34 yL hx hy h2.up (hn _) ay h4 aN ay rfl hd (fun A1 c1 _ _=>WL.sub (Sub.refl _) (fun w hw=>hw.bg 2 [0] rfl) (h A1 c1))
 | true=>exact WL.sub (H':=aV (.slice A m cap) 5 1 m cs::X::F) (Sub.refl _) (fun w hw=>hw.bg 2 [1,0] rfl) (WL.append (m:=m) (q:=4) (news:=news) underlying34 yL hx hy (hn _) h1 ay rfl hd (fun A1 c1 _ _=>WL.sub (Sub.refl _) (fun w hw=>hw.bg 2 [0] rfl) (h A1 c1)))
theorem ahh{b:Bool}{cs:List Value}{l:List Int}(hq:Seq K F L k 1 (ints .i64 l))(hm:m+4*k≤1000000)(hk:0<k)(hb:b=false→Seq K F A m 1 cs∧cap=m∧0<m) :
 aB prog 236 #[.slice A m cap,.slice L k kc] K (aie b A m cap cs++F) (fun v H'=>∃A' c',v= .slice A' (m+4*k) c'∧H'=aV (.slice A' (m+4*k) c') 5 1 (m+4*k) (cs++l.flatMap J8)::F):=by
 have hl:l.length=k:=by have :=hq.len;rwa [bR,Nat.mul_one] at this
 have hrL:∀ {b':Bool} {A':Option Addr} {m' c':Nat} {cs':List Value} {a:Option Addr} {v:Value},Rd K F a v→Rd K (aie b' A' m' c' cs'++F) a v:=fun {b'} {A' m' c' cs' a v} h=>by
  cases b'
  ·exact h
  ·exact h.up
 refine aB.en func236 ntmps236 ?_;refine aj "afkN" ?_;refine WC.loop (σ:=Nat×Option Addr×Nat) (fun s=>[(0,.slice s.2.1 (m+4*s.1) s.2.2),(7,.slice L k kc),(8,.i (k:Int)),(9,.i (s.1:Int))]) (fun s=>aie (b||decide (0<s.1)) s.2.1 (m+4*s.1) s.2.2 (cs++(l.take s.1).flatMap J8)++F) (fun s=>s.1≤k∧(s.1=0→s.2.1=A∧s.2.2=cap)) (fun s=>k-s.1)
  (0,A,cap) ⟨zero_le _,fun _=>⟨rfl,rfl⟩⟩ bC (fun w h=>by simpa using h) ?_
 rintro⟨i,A1,c1⟩ ⟨hi,wR⟩;dsimp only at hi wR ⊢;refine aj "TH" (aW (fun h0=> ?_) fun h0=> ?_)
 ·simp only[cZ] at h0;have hik:i<k:=ay;obtain⟨n,hn⟩:∃n,l[i]? =some n:=⟨_,getElem?_eq_getElem ay⟩;have hr:Rd K F (L.map (·.add ((i:Int).toNat*1))) (.i n):=by rw[Int.toNat_natCast,Nat.mul_one];exact hq.rd i _ (by unfold ints;rw[getElem?_map,hn];rfl)
  refine aj "Ia" ?_;refine WL.val (V.dw eB (ak rfl) (ak rfl) (fun _=>by omega) (fun _=>hrL hr)) rfl ?_;refine WL.val (V.load isAgg3 (ak rfl) (fun _=>hrL hr)) rfl ?_;refine aj "gP~lc~0~lc~0~lc~0~l" ?_;refine WL.buildSlice (E:=5) (cs:=[_,_,_,_]) (vs:=[(0,_),(1,_),(2,_),(3,_)]) ⟨ak rfl,ak rfl,ak rfl,ak rfl,trivial⟩ rfl (fJ _ _ _ _) rfl (fun b25=> ?_);refine aja (b:=b||decide (0<i)) (A:=A1) (cap:=c1) (m:=m+4*i) (news:=J8 n) (ak rfl) (ak rfl) (fun h=>by
   simp only[Bool.or_eq_false_iff,decide_eq_false_iff_not,Nat.not_lt] at h;obtain⟨h1,h2,h3⟩:=hb h.1;obtain rfl:i=0:=by omega
   obtain⟨rfl,rfl⟩:=wR rfl
   simpa using ⟨h1,h2,h3⟩) (fun H=>Seq.all rfl) (Ry _) ay (fun A2 c2=> ?_)
  refine aj "g7" ?_;refine⟨(i+1,A2,c2),⟨hik,fun h=>by cases h⟩,(by show k-(i+1)<k-i;omega),.cons rfl bC,fun w h=> ?_⟩;dsimp only;rw[show (b||decide (0<i+1))=true by simp,take_add_one,hn,flatMap_append];rw[append_assoc,show m+4*i+4=m+4*(i+1) by omega] at h
  simpa using h
 ·simp only[cZ] at h0;refine aj "Ked" ?_;obtain rfl:i=k:=by omega
  exact qR (aV (.slice A1 (m+4*i) c1) 5 1 (m+4*i) (cs++l.flatMap J8)::F) rfl rfl (fun w h=>by rw[take_of_length_le ay,show (b||decide (0<i))=true by simp[hk]] at h;exact h) ⟨A1,c1,rfl,rfl⟩
theorem ajj{M:sI}{b n:Nat}{C:aH}(hs:JR K F A n M.gH)(hn:n≤1000000):pF prog 235 #[ptr b 0] K (C::ah b 42 [.i M.ver,.i M.sec,.i M.key,.i M.yS,.slice A n cap]::F) Gc
 (fun v H'=>∃H2,H'=C::H2∧M.ok=true∧H2=ah b 42 [.i M.ver,.i M.sec,.i M.key,.i M.yS,.slice A n cap]::F) (fun H'=>∃H2,H'=C::H2∧M.ok=false∧H2=ah b 42 [.i M.ver,.i M.sec,.i M.key,.i M.yS,.slice A n cap]::F):=by
 refine aB.Er func235 rfl ntmps235 rfl ?_;simp only[kV,reduceAdd];refine aj "pB" ?_;refine WL.jG (vs:=[_]) call141 ⟨ak rfl,trivial⟩ (Xz (M:=M) (A:=A) (m:=n) hs.up.up hn) rfl ?_ ?_
 ·rintro _ ⟨hb,rfl⟩;exact⟨rfl,rfl,_,fun w h=>h,_,rfl,hb,rfl⟩
 rintro _ _ ⟨hb,rfl,rfl⟩;refine WL.nil ?_;exact⟨rfl,_,_,bJ.none rfl,fun w h=>h,_,rfl,hb,rfl⟩
end
def afy(s:yP):List Nat:=MN s.load++MN s.bytes++s.bG
def Al(M:sI):List Nat:=[109,97,110,105]++[M.ver,M.sec,M.key,M.yS,(M.gH.length:Int)].flatMap MN++M.gH.flatMap afy
theorem aco:∀ {l:List Int},(∀n∈l,0≤n)→l.flatMap J8=av .u8 (l.flatMap MN)
 | [],_=>rfl
 | n::l,h=>by rw[flatMap_cons,flatMap_cons,dx,D5 (h n (.head _)),aco (fun x hx=>h x (.tail _ hx))]
theorem aft:∀ {l:List yP} {e:Int},Q9 e l=true→∀s∈l,0≤s.load∧0≤s.bytes∧s.bytes≤1048576
 | [],_,_,_,h=>by cases h
 | x::l,e,h,s,hs=>by
  rw[Q9] at h;simp only[Bool.and_eq_true,all_cons,all_nil,Bool.and_true,Cy,decide_eq_true_eq] at h;rcases mem_cons.1 hs with rfl | hs
  ·exact⟨h.1.1.1.1,h.1.1.2.1,h.1.2.1.1⟩
  ·exact aft h.2 s hs
theorem sI.apx{M:sI}(h:M.ok=true):(∀n∈[M.ver,M.sec,M.key,M.yS,(M.gH.length:Int)],0≤n)∧M.gH.length≤8∧∀s∈M.gH,0≤s.load∧0≤s.bytes∧s.bytes≤1048576:=by
 unfold sI.ok at h;simp only[Bool.and_eq_true,all_cons,all_nil,Bool.and_true,Cy,decide_eq_true_eq] at h;refine⟨fun n hn=> ?_,h.1.2,aft h.2⟩;simp only[mem_cons,not_mem_nil,or_false] at hn;rcases hn with rfl | rfl | rfl | rfl | rfl<;>omega
theorem ah0{l:List yP}(h:∀s∈l,s.Ok):(l.flatMap afy).length=40*l.length:=by
 induction l with
 | nil=>rfl
 | cons s l ih =>
  rw[flatMap_cons,length_append,ih (fun x hx=>h x (.tail _ hx)),length_cons];have :(afy s).length=40:=by unfold afy;rw[length_append,length_append,(h s (.head _)).len];rfl
  omega
theorem acX{M:sI}(h:∀s∈M.gH,s.Ok):(Al M).length=24+40*M.gH.length:=by
 unfold Al;rw[length_append,length_append,ah0 h];rfl
section
variable{K:World}{F:List aH}{A:Option Addr}{cap n:Nat}{M:sI}
theorem ahG(hs:JR K F A n M.gH)(hn:n≤1000000):aB prog 180 #[.agg #[.i M.ver,.i M.sec,.i M.key,.i M.yS,.slice A n cap]] K F
 (fun v H'=>(M.ok=true∧∃A' c',v= .tuple #[.slice A' (24+40*n) c',.i 0]∧H'=aV (.slice A' (24+40*n) c') 5 1 (24+40*n) (av .u8 (Al M))::F)∨(M.ok=false∧v= .tuple #[.slice none 0 0,.i 1]∧H'=F)):=by
 have hln:=hs.len;refine aB.en func180 ntmps180 ?_;refine aj "a%" fun b1=> ?_;refine aj "lua~U" ?_;refine WL.c1 call136 rfl (LA (cap:=[ptr b1 0]) call235 (fun C=>ajj (C:=C) (M:=M) (n:=n) hs hn)) rfl ?_;rintro ok _ jh;obtain⟨rfl,rfl⟩:ok= .bool M.ok∧_=_:=by
  rcases jh with ⟨h1,h2,h3⟩ | ⟨h1,h2,h3⟩
  ·exact⟨by rw[h1,h2],h3⟩
  ·exact⟨by rw[h1,h2],h3⟩
 refine aj "*i" (aW (fun h0=> ?_) fun h0=> ?_)
 ·simp only[Bool.not_eq_true',Bool.not_eq_false'] at h0;refine aj "aC" ?_;exact aF.ret (H':=F) (bJ.eU rfl rfl rfl) (fun w h=>h.drop 1) (.inr ⟨h0,rfl,rfl⟩)
 ·simp only[Bool.not_eq_true',Bool.not_eq_false'] at h0;obtain⟨hnn,h8,Zd⟩:=sI.apx h0;refine aj "9" ?_;refine WL.buildSlice (E:=5) (cs:=[_,_,_,_]) (vs:=[(0,_),(1,_),(2,_),(3,_)]) ⟨ak rfl,ak rfl,ak rfl,ak rfl,trivial⟩ rfl (fJ _ _ _ _) rfl (fun b10=> ?_);refine aj "~~uoooook" ?_;refine WL.buildSlice (E:=3) (cs:=[_,_,_,_,_]) (vs:=[(0,_),(1,_),(2,_),(3,_),(4,_)]) ⟨ak rfl,ak rfl,ak rfl,ak rfl,ak rfl,trivial⟩ rfl (acO _ _ _ _ _) rfl (fun b23=> ?_);refine WL.c2 call236 rfl rfl (ahh (b:=false) (cs:=[.int .u8 109,.int .u8 97,.int .u8 110,.int .u8 105]) (l:=[M.ver,M.sec,M.key,M.yS,(n:Int)]) (m:=4) (k:=5) (Seq.all rfl) aN aN (fun _=>⟨(Seq.agX rfl).up,rfl,by decide⟩)) rfl ?_;rintro _ _ ⟨A24,c24,rfl,rfl⟩;rw[aco (fun x hx=>hnn x (by rw[hln];exact hx))];refine aj "uaokN" ?_;obtain⟨HB,hHB⟩:∃HB,HB=[109,97,110,105]++[M.ver,M.sec,M.key,M.yS,(n:Int)].flatMap MN:=⟨_,rfl⟩;refine WC.loop (σ:=Nat×Option Addr×Nat) (fun s=>[(1,ptr b1 0),(4,.slice s.2.1 (24+40*s.1) s.2.2),(26,.slice A n cap),(27,.i (n:Int)),(28,.i (s.1:Int))]) (fun s=>aV (.slice s.2.1 (24+40*s.1) s.2.2) 5 1 (24+40*s.1) (av .u8 (HB++(M.gH.take s.1).flatMap afy))::F) (fun s=>s.1≤n) (fun s=>n-s.1)
   (0,A24,c24) (zero_le _) bC (fun w h=>by rw[hHB,take_zero,flatMap_nil,append_nil,dx];exact h.bg 4 [0] rfl) ?_
  rintro⟨i,A1,c1⟩ hi;dsimp only at hi ⊢;refine aj "TH" (aW (fun h1=> ?_) fun h1=> ?_)
  ·simp only[cZ] at h1;have hik:i<n:=ay;obtain⟨s,ZJ⟩:∃s,M.gH[i]? =some s:=⟨_,getElem?_eq_getElem ay⟩;have nS:=mem_of_getElem? ZJ;have UU:=hs.ok s nS;have mR:=yP.dB UU;obtain⟨hs0,uM,pI⟩:=Zd s nS;have UW:∀j v,s.cells[j]? =some v→Rd K F (A.map (·.add (i*34+j))) v:=fun j v hj=>hs.seq.rd _ _ (rY M.gH (fun x hx=>yP.dB (hs.ok x hx)) i j s v ZJ hj);have Bv:(i:Int).toNat=i:=ay;refine aj "Ia" ?_;refine WL.val (V.aG (v':=sp A (i*34)) (V.dw akq (ak rfl) (ak rfl) (fun hc=>by omega) (fun hc=>by rw[Bv];exact (UW 0 _ rfl).up)) (fun _=>by rw[Bv])) rfl ?_;refine WL.val (V.tX (vs:=s.cells) ⟨isAgg140,sizeOf140⟩ (ak rfl) mR aN (fun _ j v hj=>(UW j v hj).up)) rfl ?_;refine aj "w" fun b6=> ?_;refine WL.store (cs:=s.cells) sizeOf140 (ak rfl) (ak rfl) rfl mR (yP.one s) (bT.whole (by rw[mR];rfl)) ?_;have hdg:∀H':List aH,Seq K (ah b6 140 s.cells::H') (some ⟨b6,2,none⟩) 32 1 (av .u8 s.bG):=fun H'=>⟨by rw[au,UU.len],fun i v hi=>by
    have h7:Rd K (ah b6 140 s.cells::H') (some ⟨b6,2+i,none⟩) v:=Rd.here (by
     show (Value.int .i64 s.load:: .i s.bytes::av .u8 s.bG)[2+i]? =some v;rw[show 2+i=i+1+1 by omega,getElem?_cons_succ,getElem?_cons_succ];exact hi)
    simpa [jM] using h7⟩
   refine WL.nil ?_;refine WC.sub (Sub.refl _) (fun w h=>h.bg 2 [1,0] rfl) ?_;refine WC.dM (ah b6 140 s.cells::F) (by kernel_rfl) ?_;refine aj "m001" ?_;refine WA.t 2 rfl (V.load (v:= .i s.load) isAgg3 (ak rfl) (fun _=>Rd.here rfl)) ?_;refine aj "03" ?_;refine WA.t 4 rfl (V.load (v:= .i s.bytes) isAgg3 (ak rfl) (fun _=>Rd.here rfl)) ?_;refine aj "07" ?_;refine WA.t 8 rfl (V.aG (v':= .slice (some ⟨b6,2,none⟩) 32 32) (V.qM (l:=0) (h:=32) (u:=32) (m:=32) zJ (ak rfl) OO.none OO.none OO.none (by simp) aN aN aN) (fun _=>by simp)) ?_;refine WA.o 5 rfl ?_;refine WL.buildSlice (E:=3) (cs:=[_,_]) (vs:=[(0,_),(1,_)]) ⟨ak rfl,ak rfl,trivial⟩ rfl (p9 _ _) rfl (fun b37=> ?_);refine aj "bn6~!" ?_;refine WL.c2 call236 rfl rfl (ahh (b:=true) (l:=[s.load,s.bytes]) (m:=24+40*i) (k:=2) (Seq.all rfl) ay aN (fun h=>by cases h)) rfl ?_;rintro _ _ ⟨A38,c38,rfl,rfl⟩;refine aj "bn9" ?_;refine WL.append (m:=24+40*i+4*2) (q:=32) (news:=av .u8 s.bG) underlying34 yL (ak rfl) (ak rfl) (hdg _).up (jB _ _) ay rfl rfl (fun A41 c41 avO avu=> ?_);refine aj "b~u:O7" ?_;refine⟨(i+1,A41,c41),hik,(by show n-(i+1)<n-i;omega),.cons rfl (.cons (look_eq rfl (by dsimp only;rw[show 24+40*(i+1)=24+40*i+4*2+32 by omega])) bC),fun w h=> ?_⟩;have h2:Sat K w (aV (.slice A41 (24+40*i+4*2+32) c41) 5 1 (24+40*i+4*2+32) (av .u8 (HB++(M.gH.take i).flatMap afy)++[s.load,s.bytes].flatMap J8++av .u8 s.bG)::F):=h.bg 3 [0] rfl;dsimp only;rw[aco (fun x hx=>by simp only[mem_cons,not_mem_nil,or_false] at hx;rcases hx with rfl | rfl<;>assumption),←dx,←dx] at h2;rw[show 24+40*(i+1)=24+40*i+4*2+32 by omega,take_add_one,ZJ,flatMap_append]
   simpa [afy,append_assoc] using h2
  ·simp only[cZ] at h1;refine aj "KeC" ?_;obtain rfl:i=n:=by omega
   refine aF.ret (H':=aV (.slice A1 (24+40*i) c1) 5 1 (24+40*i) (av .u8 (Al M))::F) (bJ.eU rfl rfl rfl) (fun w h=> ?_) (.inl ⟨h0,A1,c1,rfl,rfl⟩);rw[take_of_length_le ay,hHB] at h;unfold Al;rw[hln];exact h
end
def acY(s:yP)(d:List Nat):yP:=⟨s.load,d.length,sum256 d⟩
def aeF(M:sI)(ds:List (List Nat)):sI:=⟨M.ver,M.sec,M.key,M.yS,List.zipWith acY M.gH ds⟩
def Ak(seed:Nat)(b:List Nat):List Nat:=b++(bG 256 32 (Vg seed b).1++bG 256 32 (Vg seed b).2)
theorem ac2{M:sI}(h:∀s∈M.gH,s.Ok):aA 256 (Al M):=fun x hx=>by
 unfold Al at hx;rcases mem_append.1 hx with hx | hx
 ·rcases mem_append.1 hx with hx | hx
  ·exact (show aA 256 [109,97,110,105] by unfold aA;decide) x hx
  ·obtain⟨n,_,h2⟩:=mem_flatMap.1 hx;exact DF n x h2
 ·obtain⟨s,h1,h2⟩:=mem_flatMap.1 hx;unfold afy at h2;rcases mem_append.1 h2 with h2 | h2
  ·rcases mem_append.1 h2 with h2 | h2<;>exact DF _ x h2
  ·exact (h s h1).small x h2
theorem afs(s:yP)(d:List Nat):(acY s d).Ok:=⟨JB d,aeU d⟩
section
variable{K:World}{F:List aH}{A L:Option Addr}{n cap k kc:Nat}
theorem afM{l:List yP}(hs:JR K F A n l)(hn:n≤1000)(h0:0<n):aB prog 179 #[.slice A n cap] K F (fun v H'=>∃A' c',v= .slice A' n c'∧H'=aV (.slice A' n c') 140 34 n (l.flatMap yP.cells)::F):=by
 have hln:=hs.seq.len;have asy:∀u∈l.flatMap yP.cells,u.oneCell'=true:=fun u hu=>by
  obtain⟨x,_,h2⟩:=mem_flatMap.1 hu;exact all_eq_true.1 (yP.one x) u h2
 refine aB.lG (p:=A=none→l.flatMap yP.cells=[]) (fun w hw hA=>by subst hA;exact hs.seq.Rb hw) (fun RB=> ?_);refine aB.en func179 ntmps179 ?_;refine aj "af~~;i" (aW (fun aL=> ?_) fun aL=> ?_)
 ·skip
  have hA:A=none:=by cases A<;>simp at aL ⊢
  rw[RB hA,length_nil] at hln;refine aj "G" ?_;exact absurd hln ay
 ·skip
  refine aj "9" ?_;refine WL.buildSlice (E:=140) (cs:=[]) (vs:=[]) trivial rfl (aje ) rfl (fun b5=> ?_);refine WL.mv rfl rfl ?_;refine WL.sub (Sub.refl _) (fun w h=>Sat.BX (m:=0) (cap:=0) (s:=34) h rfl (Nat.le_refl _) (zero_le _)) ?_;refine WL.append (m:=0) (cs:=[]) underlying40 aj1 (ak rfl) (ak rfl) (by repeat (first | exact hs.seq | apply Seq.up)) asy ay rfl rfl (fun A' c' hn' hc'=> ?_);refine aj "d" ?_;refine aF.ret (H':=aV (.slice A' n c') _ 34 n (l.flatMap yP.cells)::F) (bJ.tmp rfl (look_eq rfl (by simp))) (fun w h=> ?_) ⟨A',c',rfl,rfl⟩
  simpa using h
theorem agp{seed:Nat}{M:sI}{ds:List Bs}{D:Option Addr}(hs:JR K F A n M.gH)(hn:n≤1000)(h0:0<n)(hd:ajm K F D n ds):aB prog 114 #[o8 seed,.agg #[.i M.ver,.i M.sec,.i M.key,.i M.yS,.slice A n cap],.slice D n kc] K F
 (fun v H'=>((aeF M (ds.map Bs.l)).ok=true∧∃A' c',v= .tuple #[.slice A' (24+40*n+64) c',.i 0]∧H'=aV (.slice A' (24+40*n+64) c') 5 1 (24+40*n+64) (av .u8 (Ak seed (Al (aeF M (ds.map Bs.l)))))::F)∨((aeF M (ds.map Bs.l)).ok=false∧v= .tuple #[.slice none 0 0,.i 1]∧H'=F)):=by
 have wF:ds.length=n:=by have :=hd.seq.len;rwa [length_map,Nat.mul_one] at this
 have Oa:=hs.len;refine aB.en func114 ntmps114 ?_;refine aj "a+" fun b3=> ?_;refine aj "%" fun b4=> ?_;refine aP "lfk8~Wk~~)398~W" ?_;refine WL.c1 call179 rfl (afM hs.up.up hn h0) rfl ?_;rintro _ _ ⟨A2,c2,rfl,rfl⟩;refine aj "8~&brkN" ?_;obtain⟨Z,hZ⟩:∃Z,Z=List.zipWith acY M.gH (ds.map Bs.l):=⟨_,rfl⟩;have hZl:Z.length=n:=by rw[hZ,List.length_zipWith,length_map];omega
 refine WC.lG (p:=∃g2,A2=some ⟨g2,0,none⟩) (fun w hw=>by
  have h2:Sat K w (aV (.slice A2 n c2) 140 34 n (M.gH.flatMap yP.cells)::_):=hw;cases hA':A2 with
  | none=>rw[hA'] at h2;have :=(aV.yM h2).1;omega
  | some a=>rw[hA'] at h2;obtain⟨gk,rfl⟩:=aV.addr h2;exact⟨gk,rfl⟩) (fun hgk=> ?_)
 obtain⟨g2,rfl⟩:=hgk;refine WC.loop (σ:=Nat×List yP) (fun s=>[(2,.slice D n kc),(3,ptr b3 0),(4,ptr b4 0),(24,.slice D n kc),(25,.i (n:Int)),(26,.i (s.1:Int))])
  (fun s=>aV (.slice (some ⟨g2,0,none⟩) n c2) 140 34 n (s.2.flatMap yP.cells)::ah b4 42 [.i M.ver,.i M.sec,.i M.key,.i M.yS,.slice (some ⟨g2,0,none⟩) n c2]::ah b3 97 (av .u8 (bG 256 32 seed))::F)
  (fun s=>s.1≤n∧s.2.length=n∧(∀x∈s.2,x.Ok)∧(∀j,j<s.1→s.2[j]? =Z[j]?)∧∀j,s.1≤j→s.2[j]? =M.gH[j]?) (fun s=>n-s.1)
  (0,M.gH) ⟨zero_le _,Oa,hs.ok,fun j hj=>absurd hj (not_lt_zero j),fun _ _=>rfl⟩ bC cO ?_
 rintro⟨i,ss⟩ ⟨hi,mR,UU,L8,nD⟩;dsimp only at hi mR UU L8 nD ⊢;refine aP "a~jFH" (aW (fun h1=> ?_) fun h1=> ?_)
 ·simp only[cZ] at h1;have hik:i<n:=ay;obtain⟨p,hp⟩:∃p,ds[i]? =some p:=⟨_,getElem?_eq_getElem ay⟩;obtain⟨qY,V4,Bw⟩:=hd.ok p (mem_of_getElem? hp);obtain⟨s,ZJ⟩:∃s,ss[i]? =some s:=⟨_,getElem?_eq_getElem ay⟩;have hsk:=UU s (mem_of_getElem? ZJ);have l7:p.l.length=p.m:=by have :=qY.len;rwa [au,Nat.mul_one] at this
  have hrp:Rd K F (D.map (·.add ((i:Int).toNat*1))) p.v:=by rw[Int.toNat_natCast,Nat.mul_one];exact hd.seq.rd i _ (by rw[getElem?_map,hp];rfl)
  have Bv:(i:Int).toNat=i:=ay;refine aj "1" ?_;refine WL.val (V.dw adb (ak rfl) (ak rfl) (fun _=>by omega) (fun _=>by repeat (first | exact hrp | apply Rd.up))) rfl ?_;refine WL.val (V.load isAgg34 (ak rfl) (fun _=>by repeat (first | exact hrp | apply Rd.up))) rfl ?_;refine aP "lv8~Wc~Eghzkc" ?_;refine WL.t1 call174 rfl (T9 (data:=p.l) (by repeat (first | exact qY | apply Seq.up)) V4 ay) rfl ?_;refine aj "S" ?_;refine WL.store (cs:=[_]) sizeOf3 (ak rfl) (ak rfl) rfl rfl rfl (bT.slS (o:=0+i*34+1) ay) ?_;rw[show 0+i*34+1=i*34+1 by omega,E5 (f:=yP.cells) ss (fun x hx=>yP.dB (UU x hx)) i 1 s ⟨s.load,(p.m:Int),s.bG⟩ _ ZJ aN rfl];obtain⟨s1,uM⟩:∃s1:yP,s1=⟨s.load,(p.m:Int),s.bG⟩:=⟨_,rfl⟩;rw[←uM];have aq5:s1.Ok:=by rw[uM];exact⟨hsk.len,hsk.small⟩
  have ara:∀x∈ss.set i s1,x.Ok:=fun x hx=>(mem_or_eq_of_mem_set hx).elim (UU x) (fun e=>e ▸ aq5);have hy:acY s p.l=⟨s.load,(p.m:Int),sum256 p.l⟩:=by unfold acY;rw[l7]
  refine aj "S" ?_;refine WL.store (cs:=av .u8 (sum256 p.l)) sizeOf97 (ak rfl) (ak rfl) rfl (by rw[au,JB]) (gP _ _) (bT.slL (o:=0+i*34+2) (by rw[au,JB];omega)) ?_;rw[show 0+i*34+2=i*34+2 by omega,ac0 (f:=yP.cells) (s:=34) (ss.set i s1) (fun x hx=>yP.dB (ara x hx)) i 2 s1 (acY s p.l) _ (by rw[getElem?_set_self ay]) (by rw[au,JB];decide) (by
   rw[hy,uM];unfold yP.cells;simp[au,JB,hsk.len]),set_set]
  refine aP "bp>=" ?_;refine⟨(i+1,ss.set i (acY s p.l)),⟨hik,by rw[length_set];exact mR,fun x hx=>(mem_or_eq_of_mem_set hx).elim (UU x) (fun e=>e ▸ afs s p.l),fun j hj=> ?_,fun j hj=> ?_⟩,(by show n-(i+1)<n-i;omega),.cons rfl bC,fun w h=>h⟩
  ·dsimp only at hj ⊢;rcases Nat.lt_or_ge j i with h | h
   ·rw[List.getElem?_set_ne ay];exact L8 j h
   ·obtain rfl:j=i:=by omega
    rw[getElem?_set_self ay,hZ,List.getElem?_zipWith,←nD j (Nat.le_refl _),ZJ,getElem?_map,hp];rfl
  ·dsimp only at hj ⊢;rw[List.getElem?_set_ne ay];exact nD j ay
 ·simp only[cZ] at h1;refine aj "KaB" ?_;obtain rfl:i=n:=by omega
  obtain rfl:ss=Z:=ext_getElem? fun j=>by
   rcases Nat.lt_or_ge j i with h | h
   ·exact L8 j h
   ·rw[getElem?_eq_none ay,getElem?_eq_none ay]
  obtain⟨MF,hMF⟩:∃MF,MF=aeF M (ds.map Bs.l):=⟨_,rfl⟩;have hMs:MF.gH=ss:=by rw[hMF,hZ];rfl
  rw[←hMF];refine WL.c1 call180 rfl (by
   have h9:=ahG (K:=K) (F:=aV (.slice (some ⟨g2,0,none⟩) i c2) 140 34 i (ss.flatMap yP.cells)::ah b4 42 [.i M.ver,.i M.sec,.i M.key,.i M.yS,.slice (some ⟨g2,0,none⟩) i c2]::ah b3 97 (av .u8 (bG 256 32 seed))::F) (A:=some ⟨g2,0,none⟩) (cap:=c2) (M:=MF) (n:=i) ⟨by rw[hMs];exact aV.seq (by rw[rV ss (fun x hx=>yP.dB (UU x hx)),mR]),by rw[hMs];exact mR,by rw[hMs];exact UU⟩ ay;rw[show MF.ver=M.ver by rw[hMF];rfl,show MF.sec=M.sec by rw[hMF];rfl,show MF.key=M.key by rw[hMF];rfl,show MF.yS=M.yS by rw[hMF];rfl] at h9;exact h9) rfl ?_
  rintro v48 H48 arw;obtain⟨A48,m48,c48,rfl,hX⟩:∃(A':Option Addr) (m' c':Nat),v48= .tuple #[.slice A' m' c',.i (if MF.ok then 0 else 1)]∧((MF.ok=true∧m'=24+40*i∧H48=aV (.slice A' (24+40*i) c') 5 1 (24+40*i) (av .u8 (Al MF))::_)∨(MF.ok=false∧A'=none∧m'=0∧c'=0∧H48=_)):=by
   rcases arw with ⟨k1,A',c',k2,k3⟩ | ⟨k1,k2,k3⟩
   ·exact⟨A',_,c',by rw[k2,k1];rfl,.inl ⟨k1,rfl,k3⟩⟩
   ·exact⟨none,0,0,by rw[k2,k1];rfl,.inr ⟨k1,rfl,rfl,rfl,k3⟩⟩
  refine aj "Dfsi" (aW (fun h2=> ?_) fun h2=> ?_)
  ·skip
   have uN:MF.ok=false:=by
    cases hk:MF.ok with
    | false=>rfl
    | true=>rw[hk] at h2;simp at h2
   rcases hX with ⟨k1,_⟩ | ⟨_,rfl,rfl,rfl,rfl⟩
   ·rw[uN] at k1;cases k1
   refine aj "eC" ?_;exact aF.ret (H':=F) (bJ.eU rfl rfl (look_eq rfl (by rw[uN];rfl))) (fun w h=>h.drop 3) (.inr ⟨uN,rfl,rfl⟩)
  ·skip
   have aoP:MF.ok=true:=by
    cases hk:MF.ok with
    | true=>rfl
    | false=>rw[hk] at h2;simp at h2
   rcases hX with ⟨_,rfl,rfl⟩ | ⟨k1,_⟩
   rotate_left
   ·rw[aoP] at k1;cases k1
   have hbs:aA 256 (Al MF):=ac2 (by rw[hMs];exact UU);refine aP "9Ac" ?_;refine WL.t2 call181 rfl rfl (ajM (seed:=seed) (msg:=Al MF) (aV.seq (by rw[au,acX (by rw[hMs];exact UU),hMs,mR,Nat.mul_one])) hbs ay) rfl ?_;refine aP "x" fun b13=> ?_;refine aP "ybe" ?_;refine WL.val (V.kM afb (ak rfl)) rfl (aj "~!" ?_);refine WL.append (m:=24+40*i) (q:=64) (news:=av .u8 (bG 256 32 (Vg seed (Al MF)).1++bG 256 32 (Vg seed (Al MF)).2)) underlying34 yL (ak rfl) (ak rfl) (Seq.all (by rw[au,length_append,aI,aI])) (jB _ _) ay rfl rfl (fun A59 c59 av6 av3=> ?_);refine aj "C" ?_;refine aF.ret (H':=aV (.slice A59 (24+40*i+64) c59) 5 1 (24+40*i+64) (av .u8 (Ak seed (Al MF)))::F) (bJ.eU rfl rfl rfl) (fun w h=> ?_) (.inl ⟨aoP,A59,c59,rfl,rfl⟩);unfold Ak;rw[dx];exact h.bg 5 [0] rfl
end
theorem aex(hs:slot=0∨slot=1){i:Nat}(hi:i<4):kZ slot (i:Int)=(2+5*slot+(i:Int),0):=by
 unfold kZ Vh;rw[if_pos (by rcases hs with rfl | rfl<;>simp<;>omega)]
theorem XH(hs:slot=0∨slot=1):kZ slot (-1)=(1+5*slot,0):=by rcases hs with rfl | rfl<;>rfl
structure Jj(m M:Lm):Prop where
 rest:∀i,i≠0→m i=M i
 st:stM m=stM M
theorem Jj.load(h:Jj m M)(hs:slot=0∨slot=1)(ring:List Ky)(aO:Int):fT m ring aO slot=fT M ring aO slot:=Ic h.rest hs ring aO
theorem Lg(m:Lm)(slot:Int):∀n i,(gF m slot n i).2≠70
 | 0,_=>by rw[gF];decide
 | n+1,i=>by
  rw[gF];split
  ·unfold kZ;split<;>(dsimp only;decide)
  ·split
   ·decide
   ·exact Lg m slot n (i+1)
theorem QC(r:List Ky)(aO:Int)(b:List Nat):(eT r aO b).2≠70:=by
 unfold eT;split
 ·decide
 split
 ·decide
 cases iL (b.take (b.length-64)) with
 | none=>rw[IX];decide
 | some M =>
  rw[IX];have hk:(q9 r M.key).2≠70:=by unfold q9;repeat (first | decide | (dsimp only;decide) | split)
  split
  ·exact hk
  repeat (first | decide | (dsimp only;decide) | split)
theorem ZX(m:Lm)(ring:List Ky)(aO slot:Int):(fT m ring aO slot).2≠70:=by
 unfold fT;split
 ·decide
 split
 ·exact QC _ _ _
 split
 ·exact Lg _ _ _ _
 ·dsimp only;unfold kW;split
  ·exact QC _ _ _
  repeat (first | decide | (dsimp only;decide) | split)
end Go.Proofs.YtcedojacbhnbiaaGreat
