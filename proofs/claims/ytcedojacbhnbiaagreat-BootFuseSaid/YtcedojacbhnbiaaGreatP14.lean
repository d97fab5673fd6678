import Derived.Test.YtcedojacbhnbiaaGreatP13
import Derived.OpenShut
set_option linter.unusedSimpArgs false
set_option linter.unusedVariables false
set_option maxRecDepth 100000
namespace Go.Proofs.YtcedojacbhnbiaaGreat
open Go.Sl Go.RowKit Tryz List Nat
structure ZI(l:List Int)(x y:bP):Prop where
 f:y.f=x.f
 g:∀k,k=0∨k=1→y.g k=x.g k
 out:∀k,k=0∨k=1→k∉l→y.t k=x.t k
 iF:∀k,k=0∨k=1→x.g k=true→y.t k=x.t k
 t:∀k,k=0∨k=1→x.t k-1≤y.t k∧y.t k≤x.t k
theorem ZI.refl(l:List Int)(x:bP):ZI l x x:=⟨rfl,fun _ _=>rfl,fun _ _ _=>rfl,fun _ _ _=>rfl,fun _ _=>by omega⟩
theorem ZI.trans{s:Int}{l:List Int}{x t y:bP}(h1:ZI [s] x t)(h2:ZI l t y)(hs:s∉l):ZI (s::l) x y:=by
 refine⟨h2.f.trans h1.f,fun k hk=>(h2.g k hk).trans (h1.g k hk),fun k hk hn=> ?_,fun k hk hg=> ?_,fun k hk=> ?_⟩
 ·rw[h2.out k hk (fun h=>hn (.tail _ h)),h1.out k hk (fun h=>hn (by rw[mem_singleton.1 h];exact .head _))]
 ·rw[h2.iF k hk (by rw[h1.g k hk];exact hg),h1.iF k hk hg]
 ·have a:=h1.t k hk;have b:=h2.t k hk;by_cases e:k=s
  ·rw[h2.out k hk (by rw[e];exact hs)];exact a
  ·have :=h1.out k hk (by simpa using e);omega
theorem aeV{x:bP}(h:x.ok=true){s:Int}(hs:s=0∨s=1)(hm:x.may s=true):ZI [s] x (x.lN s).1:=by
 have ha:x.Ws s=0:=by unfold bP.Ws;rw[h];rcases hs with rfl | rfl<;>rfl
 unfold bP.lN;rw[if_neg (fun h=>h ha),if_pos hm];obtain⟨f,t0,g0,t1,g1⟩:=x;rcases hs with rfl | rfl
 ·refine⟨rfl,fun k hk=> ?_,fun k hk hn=> ?_,fun k hk hg=> ?_,fun k hk=> ?_⟩<;>rcases hk with rfl | rfl<;>simp_all [bP.put,bP.g,bP.t]<;>first | done | (split<;>simp<;>omega) | omega
 ·refine⟨rfl,fun k hk=> ?_,fun k hk hn=> ?_,fun k hk hg=> ?_,fun k hk=> ?_⟩<;>rcases hk with rfl | rfl<;>simp_all [bP.put,bP.g,bP.t]<;>first | done | (split<;>simp<;>omega) | omega
structure YD(aQ:Int)(l:List Int)(x:bP)(S:aD)(m:Lm)(B:Nat)(N:Int)(R:Ran)(m':Lm):Prop where
 aik:∃B' N',pJ 11 11 B' N' R.2.1 R.2.2 m'∧B'≤B+l.length∧N'≤N+21*(l.length:Int)
 g:R.2.1.g=S.g
 fu:R.2.1.aQ=S.aQ
 rest:∀i,i≠0→m' i=m i
 st:ZI l x (stM m')
 ok:R.1.2=0→R.1.1.slot∈l∧aQ≤R.1.1.sec∧∀s l',l=s::l'→R.1.1.slot=s→∀k,k=0∨k=1→k≠s→(stM m').t k=x.t k
theorem MO(ring:List Ky)(aQ:Int):∀(l:List Int) (x:bP) (S:aD) (T:St) (m:Lm) (B:Nat) (N:Int),pJ 11 11 B N S T m→stM m=x→11<S.g.bl→S.g.bl≤20→16≤S.g.cap→N+21*(l.length:Int)≤1000000→B+l.length≤1000000 →
 (∀s∈l,(s=0∨s=1)∧x.may s=true)→l.Nodup→AO ring aQ l x S T∧∃m',YD aQ l x S m B N (KQ ring aQ l x S T) m'
 | [],x,S,T,m,B,N,hF,hx,_,_,_,_,_,_,_=>⟨trivial,m,⟨B,N,hF,Nat.le_refl _,by simp⟩,rfl,rfl,fun _ _=>rfl,by rw[hx];exact ZI.refl _ _,fun h=>by cases h⟩
 | s::l,x,S,T,m,B,N,hF,hx,Hr,tX,nO,hN,hB,hl,wC=>by
  have Hu:x.ok=true:=by rw[←hx];exact Bh m
  obtain⟨hs,hms⟩:=hl s (.head _);have Xb:s∉l:=(nodup_cons.1 wC).1;have MQ:=aaf Hu s;have htr:=aeV Hu hs hms;have hlen:(((s::l).length:Nat):Int)=(l.length:Int)+1:=by simp
  have pF:(s::l).length=l.length+1:=rfl;rw[hlen] at hN;rw[pF] at hB;have go:∀(y:bP) (S1:aD) (T1:St) (m1:Lm) (B1:Nat) (N1:Int),pJ 11 11 B1 N1 S1 T1 m1→stM m1=y→B1≤B+1→N1≤N+21→S1.g=S.g→S1.aQ=S.aQ→(∀i,i≠0→m1 i=m i)→ZI [s] x y →
   AO ring aQ l y S1 (kg S1 T1 ring aQ s).2.2∧∃m',YD aQ (s::l) x S m B N (goB ring aQ s (KQ ring aQ l) y S1 T1) m':=by
   intro y S1 T1 m1 B1 N1 hF1 hy hB1 hN1 Ki hf1 hm1 dJ;have hld:=hF1.load (ring:=ring) (aQ:=aQ) hs;obtain⟨i1,m',i2⟩:=MO ring aQ l y S1 T1 m1 B1 N1 hF1 hy (by rw[Ki];exact Hr) (by rw[Ki];exact tX) (by rw[Ki];exact nO) ay ay (fun k hk=>by
    obtain⟨k1,k2⟩:=hl k (.tail _ hk);refine⟨k1, ?_⟩;have rR:k≠s:=fun e=>Xb (e ▸ hk);have e1:=dJ.out k k1 (by simpa using rR);have e2:=dJ.g k k1;unfold bP.may at k2 ⊢;rw[e1,e2];exact k2) (nodup_cons.1 wC).2
   rw[hld];refine⟨i1, ?_⟩;unfold goB;rw[hld];have tT:∀e la,YD aQ (s::l) x S m B N ((la,e),S1,T1) m1↔(e=0→la.slot∈s::l∧aQ≤la.sec∧∀s' l',s::l=s'::l'→la.slot=s'→∀k,k=0∨k=1→k≠s'→(stM m1).t k=x.t k):=fun e la =>
    ⟨fun h=>h.ok,fun h=>⟨⟨B1,N1,hF1,by rw[pF];omega,by rw[hlen];omega⟩,Ki,hf1,hm1,by rw[hy];exact dJ.trans (ZI.refl l y) Xb,h⟩⟩
   split
   ·rename_i h0;obtain⟨k1,k2⟩:=acf h0;refine⟨m1,(tT _ _).2 fun _=>⟨by rw[k1];exact .head _,k2,fun s' l' he rQ k hk nk=> ?_⟩⟩;injection he with he _
    rw[hy];exact dJ.out k hk (by rw[he];simpa using nk)
   ·split
    ·exact⟨m1,(tT _ _).2 fun h=>by cases h⟩
    ·obtain⟨B',N',j1,j2,j3⟩:=i2.aik;refine⟨m',⟨B',N',j1,by rw[pF];omega,by rw[hlen];omega⟩,i2.g.trans Ki,i2.fu.trans hf1,fun i hi=>(i2.rest i hi).trans (hm1 i hi),dJ.trans i2.st Xb,fun h0=> ?_⟩;obtain⟨k1,k2,_⟩:=i2.ok h0;refine⟨.tail _ k1,k2,fun s' l' he rQ=> ?_⟩;injection he with he _
     rw[rQ,←he] at k1;exact absurd k1 Xb
  rw[KQ,AO];by_cases ht:(x.lN s).1=x
  ·obtain⟨g1,g2⟩:=go x S T m B N hF hx ay ay rfl rfl (fun _ _=>rfl) (ZI.refl _ _);rw[if_neg (fun h=>h ht)];exact⟨⟨fun h=>absurd ht h,fun _=>g1⟩,g2⟩
  ·have zO:(dF (x.lN s).1).length=9:=by unfold dF;rw[jO,bP.kQ MQ]
   have h8:aB 256 (dF (x.lN s).1):=nI (bP.qO MQ);obtain⟨c1,c2,c3⟩:=hF.change (by show ((11:Nat):Int)<_;omega) tX ay (i0:=0) aK aK aK h8 (by rw[zO];omega);have c4:=CQ S T 0 (dF (x.lN s).1);rw[show ((0:Nat):Int)=0 from rfl] at c1 c2 c3;obtain⟨g1,g2⟩:=go (x.lN s).1 _ _ _ (B+1) (N+21) c3 (adZ MQ) (Nat.le_refl _) (Int.le_refl _) c2 c4 (fun i hi=>by unfold Lm.put;rw[if_neg hi]) htr;rw[if_pos ht,if_neg (fun h=>h c1)];obtain⟨st0,MS⟩:=hF.si;exact⟨⟨fun _=>⟨fun l' GA=>Nat.le_trans (MS.Vv l' GA) ay,fun _=>g1⟩,fun h=>absurd h ht⟩,g2⟩
theorem Jq(ring:List Ky)(aQ:Int){S:aD}{T:St}{m:Lm}{B:Nat}{N:Int}(hF:pJ 11 11 B N S T m)(Hr:11<S.g.bl)(tX:S.g.bl≤20)(nO:16≤S.g.cap)(hN:N≤900000)(hB:B≤900000) :
 ((ni S T).2.1=0→AO ring aQ (ni S T).1.order (ni S T).1 S (ni S T).2.2)∧∃m',YD aQ (stM m).order (stM m) S m B N (xU S T ring aQ) m':=by
 have dJ:=hF.ni aK;have Hu:=Bh m;have J2:(stM m).order.length≤2:=by
  unfold bP.order;rw[if_pos Hu];exact length_filter_le _ _
 obtain⟨h1,h2⟩:=MO ring aQ (stM m).order (stM m) S T m B N hF rfl Hr tX nO ay ay (fun s hs=>by
  unfold bP.order at hs;rw[if_pos Hu] at hs;obtain⟨k1,k2⟩:=mem_filter.1 hs;refine⟨?_,k2⟩;have hf:=(bP.ou Hu).1;simp only[mem_cons,not_mem_nil,or_false] at k1;omega) (by
  unfold bP.order;rw[if_pos Hu];refine Nodup.sublist filter_sublist ?_;have hf:=(bP.ou Hu).1;simp;omega)
 unfold xU;rw[dJ];exact⟨fun _=>h1,by rw[if_neg (fun h=>h rfl)];exact h2⟩
end Go.Proofs.YtcedojacbhnbiaaGreat
namespace Go.Proofs.YtcedojacbhnbiaaGreat
open Go.Sl Go.ChangeShapes Go.WideShapes Go.ChangeAt Go.RowKit Tryz List Nat
theorem akB:prog.cellsOf 3=1:=by kernel_rfl
theorem amH:prog.cellsOf 5=1:=by kernel_rfl
theorem agZ:prog.cellsOf 4=1:=by kernel_rfl
theorem amC:prog.cellsOf 97=32:=by kernel_rfl
theorem abn{H:Type}{enc:TypeId×Value→H}{W:World}{n:Nat}{cs:List Value}{y:DataW H×List MemPlace}(hl:cs.length=32)(h:DataW.trod enc prog W 0 (fun _=>true) true n 97 cs=some y):∃l:List Nat,cs=av .u8 l∧l.length=32∧aB 256 l:=by
 obtain⟨xs,k,_,_,_,zO,hf⟩:=DataW.trod_array underlying97 h;obtain⟨l,h1,h2⟩:=aaU 32 (fun i (x:Nat)=>x<256∧cs[i]? =some (.int .u8 (x:Int))) fun i hi=>by
  have h0:=hf i hi;rw[amH,Nat.mul_one,getElem?_eq_getElem (show i<xs.length by rw[zO];exact hi)] at h0;obtain⟨z,e0,b1,b2⟩:=Dg underlying5 h0;have b1':0≤z:=b1;have b2':z≤255:=b2;refine⟨z.toNat,by omega, ?_⟩;have h3:(List.take 1 (List.drop i cs))[0]? =some (.int .u8 z):=by rw[e0];rfl
  rw[getElem?_take,if_pos aK,getElem?_drop,Nat.add_zero] at h3;rw[h3,Int.toNat_of_nonneg b1']
 refine⟨l, ?_,h1,fun x hx=> ?_⟩
 ·apply ext_getElem?;intro i;rcases Nat.lt_or_ge i 32 with hi | hi
  ·have ZJ:l[i]? =some (l[i]'ay):=getElem?_eq_getElem ay;rw[(h2 i _ ZJ).2];unfold av;rw[getElem?_map,ZJ];rfl
  ·rw[getElem?_eq_none ay,getElem?_eq_none (by rw[au];omega)]
 ·obtain⟨i,hi⟩:=getElem?_of_mem hx;exact (h2 i x hi).1
theorem aap{H:Type}{enc:TypeId×Value→H}{W:World}{n:Nat}{cs:List Value}{y:DataW H×List MemPlace}(hl:cs.length=34)(h:DataW.trod enc prog W 0 (fun _=>true) true n 99 cs=some y):∃k:Ky,cs=k.cells∧k.Ok:=by
 obtain⟨xs,k,_,_,_,zO,hf⟩:=DataW.trod_struct underlying99 h
 match xs,zO with
 | [x0,x1,x2],_ =>
  have h0:DataW.trod enc prog W 0 (fun _=>true) true k 3 (List.take (prog.cellsOf 3) (List.drop 0 cs))=some x0:=hf 0 _ rfl;have h1:DataW.trod enc prog W 0 (fun _=>true) true k 97 (List.take (prog.cellsOf 97) (List.drop 1 cs))=some x1:=hf 1 _ rfl;have h2:DataW.trod enc prog W 0 (fun _=>true) true k 4 (List.take (prog.cellsOf 4) (List.drop 33 cs))=some x2:=hf 2 _ rfl;rw[akB] at h0;rw[amC] at h1;rw[agZ] at h2;obtain⟨i0,e0,_⟩:=Dg underlying3 h0;obtain⟨l,e1,l1,l2⟩:=abn (by rw[length_take,length_drop,hl];rfl) h1;obtain⟨b,e2,_⟩:=DataW.trod_bool underlying4 h2;refine⟨⟨i0,l,b⟩, ?_,l1,l2⟩;have a1:cs=cs.take 1++((cs.drop 1).take 32++(cs.drop 33).take 1):=by
   conv=>lhs;rw[←take_append_drop 1 cs,←take_append_drop 32 (cs.drop 1),drop_drop]
   rw[take_of_length_le (l:=cs.drop 33) (by rw[length_drop,hl];decide)]
  rw[drop_zero] at e0;rw[a1,e0,e1,e2];rfl
theorem V7:∀ {css:List (List Value)},(∀cs∈css,∃k:Ky,cs=k.cells∧k.Ok)→∃ks:List Ky,css=ks.map Ky.cells∧∀k∈ks,k.Ok
 | [],_=>⟨[],rfl,fun _ h=>by cases h⟩
 | cs::css,h=>by
  obtain⟨o,rfl,ho⟩:=h cs (.head _);obtain⟨ws,rfl,hw⟩:=V7 fun x hx=>h x (.tail _ hx);exact⟨o::ws,rfl,fun k hk=>(mem_cons.1 hk).elim (fun e=>e ▸ ho) (hw k)⟩
theorem LY{H:Type}{enc:TypeId×Value→H}{W:World}{r:Reach}{base:Nat}{v:Value}{d:DataW H}{p:List MemPlace}(zZ:Value.okWide prog W r base 24 v)
 (h:DataW.Trod enc prog W 0 (fun _=>true) true 24 v d p):∃(A:Option Addr) (m cap:Nat) (ks:List Ky),v= .slice A m cap∧(m≤20→Ring W [Old W] A m ks):=by
 obtain⟨A,m,cap,css,rfl,hl,_,p8,hs⟩:=TA (s:=34) underlying24 (by kernel_rfl) zZ h;obtain⟨ks,rfl,hk⟩:=V7 fun cs hc=>by
  obtain⟨h1,n,y,h2⟩:=p8 cs hc;exact aap h1 h2
 exact⟨A,m,cap,ks,rfl,fun hm=>⟨by rw[flatMap_def];exact hs,by simpa using hl,hk,by omega⟩⟩
end Go.Proofs.YtcedojacbhnbiaaGreat
