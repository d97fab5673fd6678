import Derived.Test.YtcedojacbhnbiaaGreatP2
import Derived.Lib.ConvBytes
import Derived.Deep.Strs
set_option linter.unusedSimpArgs false
set_option linter.unusedVariables false
set_option maxRecDepth 20000
namespace Go.Sl
open Go.RowKit Go.Proofs.YtcedojacbhnbiaaGreat List Nat
abbrev PE:=Nat×Nat×Value×Bool
structure AE where
 i:Nat
 d:Nat
 A:Nat→aA
 s:Nat
 B:Nat→aA
structure ZE where
 s:Nat
 A:aA
 B:aA
def dep(af:Array Edge)(k:Nat):Bool:=af.toList.any fun g=>Region.binds .any g&&beq g.on k
def qI(af:Array Edge)(ps:List PE):Env:=(ps.filter fun p=>dep af p.1).map fun p=>(p.2.1,p.2.2.1)
theorem aaH{af:Array Edge}{k:Nat}(h:dep af k=true):∃g∈af,Region.binds .any g=true∧g.on=k:=by
 unfold dep at h;obtain⟨g,h1,h2⟩:=any_eq_true.1 h;simp only[Bool.and_eq_true] at h2;exact⟨g,by simpa using h1,h2.1,eq_of_beq_eq_true h2.2⟩
theorem uH{e e':Env}{t:Nat}:look (e++e') t=(look e t).or (look e' t):=by
 induction e with
 | nil=>rfl
 | cons p e ih =>
  obtain⟨k,v⟩:=p;simp only[cons_append,look];cases beq k t<;>simp[ih]
theorem Sub.app{e e':Env}(h:Sub e e'):Sub (e++e') e':=fun t v hv=>by
 rw[uH] at hv;cases hl:look e t with
 | none=>rw[hl] at hv;simpa using hv
 | some u=>rw[hl] at hv;simp at hv;subst hv;exact h t u hl
theorem iM{X e:Env}{d t:Nat}{v:Value}(h:Sub X e):look ((d,v)::(X++e)) t=if d=t then some v else look e t:=by
 simp only[look];by_cases e1:d=t
 ·subst e1;simp
 ·have :beq d t=false:=by cases h:beq d t with | false=>rfl | true=>exact absurd (eq_of_beq_eq_true h) e1
  rw[this,cond_false,if_neg e1,uH];cases hl:look X t with
  | none=>simp
  | some u=>simp[h t u hl]
theorem zH{X e:Env}{t:Nat}(h:Sub X e):look (X++e) t=look e t:=by
 rw[uH];cases hl:look X t with
 | none=>simp
 | some u=>simp[h t u hl]
theorem mX{α β:Type}{f:α→β}:∀ {l:List α},(l.map f).Nodup→∀ {x y:α},x∈l→y∈l→f x=f y→x=y
 | z::l,hn,x,y,hx,hy,h=>by
  simp only[map_cons,nodup_cons] at hn;rcases mem_cons.1 hx with h1 | h1<;>rcases mem_cons.1 hy with h2 | h2
  ·rw[h1,h2]
  ·exact absurd (by rw[←h1,h];exact mem_map_of_mem (f:=f) h2) hn.1
  ·exact absurd (by rw[←h2,←h];exact mem_map_of_mem (f:=f) h1) hn.1
  ·exact mX hn.2 h1 h2 h
theorem Sub.two{e1 e2 e:Env}(h1:Sub e1 e)(h2:Sub e2 e):Sub (e1++e2) e:=fun t v hv=>by
 rw[uH] at hv;cases hl:look e1 t with
 | none=>rw[hl] at hv;exact h2 t v (by simpa using hv)
 | some u=>rw[hl] at hv;simp at hv;subst hv;exact h1 t u hl
theorem Sub.map{α:Type}{f:α→Nat×Value}{l:List α}{e:Env}(h:∀x∈l,look e (f x).1=some (f x).2):Sub (l.map f) e:=by
 induction l with
 | nil=>exact Sub.nil e
 | cons x l ih=>exact Sub.cons (h x (.head _)) (ih fun y hy=>h y (.tail _ hy))
section
variable{ds:List Deferred}{P:Program}{K:World}{n:Nat}{Q:fG}{e0 eo:Env}{F A0:List aA}{ops:Array Oper}{ps:List PE}{xs:List AE}{zs:List ZE}
def aeF(b:Bool)(eo e0:Env):Env:=if b then eo++e0 else e0
def IB(ds:List Deferred)(P:Program)(K:World)(n:Nat)(ops:Array Oper)(e0 eo:Env)(F A0:List aA)(ps:List PE)(p:PE):Prop :=
 ∃ o,ops[p.1]? =some o∧∃qs,(∀q∈qs,q∈ps)∧∀r H' Q',(∀w,Sat K w H'→Sat K w (if p.2.2.2 then A0 else F))→WL ⟨none,ds⟩ P K n ops [] Q' ((p.2.1,p.2.2.1)::(qI o.after qs++(aeF p.2.2.2 eo e0++r))) H'→WL ⟨none,ds⟩ P K n ops [o] Q' (qI o.after qs++(aeF p.2.2.2 eo e0++r)) H'
def acj(ds:List Deferred)(P:Program)(K:World)(n:Nat)(ops:Array Oper)(e0:Env)(x:AE):Prop :=
 ∃ o,ops[x.i]? =some o∧∀r H' Q',(∀b,WL ⟨none,ds⟩ P K n ops [] Q' ((x.d,ptr b 0)::(e0++r)) (x.A b::H'))→WL ⟨none,ds⟩ P K n ops [o] Q' (e0++r) H'
def Mw(ds:List Deferred)(P:Program)(K:World)(n:Nat)(ops:Array Oper)(e0:Env)(ps:List PE)(x:AE):Prop :=
 ∃ o,ops[x.s]? =some o∧dep o.after x.i=true∧∃qs,(∀q∈qs,q∈ps)∧∀r b H' Q',WL ⟨none,ds⟩ P K n ops [] Q' ((x.d,ptr b 0)::(qI o.after qs++(e0++r))) (x.B b::H')→WL ⟨none,ds⟩ P K n ops [o] Q' ((x.d,ptr b 0)::(qI o.after qs++(e0++r))) (x.A b::H')
def IU(ds:List Deferred)(P:Program)(K:World)(n:Nat)(ops:Array Oper)(e0:Env)(ps:List PE)(z:ZE):Prop :=
 ∃ o,ops[z.s]? =some o∧∃qs,(∀q∈qs,q∈ps)∧∀r H' Q',WL ⟨none,ds⟩ P K n ops [] Q' (qI o.after qs++(e0++r)) (z.B::H')→WL ⟨none,ds⟩ P K n ops [o] Q' (qI o.after qs++(e0++r)) (z.A::H')
def uw{α:Type}(p:α→Prop):List α→Prop
 | []=>True
 | x::l=>p x∧uw p l
theorem uw.c{α:Type}{p:α→Prop}{x:α}{l:List α}(h:p x)(t:uw p l):uw p (x::l):=⟨h,t⟩
theorem uw.mem{α:Type}{p:α→Prop}:∀ {l:List α},uw p l→∀x∈l,p x
 | y::l,h,x,hx=>by
  rcases mem_cons.1 hx with rfl | hx
  ·exact h.1
  ·exact uw.mem h.2 x hx
def tL(x:AE)(listed:Array Bool)(bs:Nat→Nat):aA:=if listed.getD x.s false then x.B (bs x.i) else if listed.getD x.i false then x.A (bs x.i) else ZK
def uG(xs:List AE)(listed:Array Bool)(bs:Nat→Nat):List aA:=xs.map fun x=>tL x listed bs
def pQ(zs:List ZE)(listed:Array Bool):List aA:=zs.map fun z=>if listed.getD z.s false then z.B else z.A
theorem Pv{listed L':Array Bool}{z:ZE}:∀ {zs:List ZE},z∈zs→(zs.map (·.s)).Nodup→(∀y∈zs,y.s≠z.s→L'.getD y.s false=listed.getD y.s false)→∃l1 l2,pQ zs listed=l1++(if listed.getD z.s false then z.B else z.A)::l2∧pQ zs L'=l1++(if L'.getD z.s false then z.B else z.A)::l2
 | y::zs,hz,wC,ho=>by
  simp only[map_cons,nodup_cons] at wC;rcases mem_cons.1 hz with rfl | hz
  ·refine⟨[],pQ zs listed,rfl, ?_⟩;show _::pQ zs L'=_::pQ zs listed;congr 1;unfold pQ;apply map_congr_left;intro q hq;rw[ho q (.tail _ hq) (fun e=>wC.1 (e ▸ mem_map_of_mem (f:=fun x:ZE=>x.s) hq))]
  ·obtain⟨l1,l2,h1,h2⟩:=Pv hz wC.2 fun q hq=>ho q (.tail _ hq);refine⟨(if listed.getD y.s false then y.B else y.A)::l1,l2, ?_, ?_⟩
   ·show _::pQ zs listed=_;rw[h1];rfl
   ·show (if L'.getD y.s false then y.B else y.A)::pQ zs L'=_;rw[h2,ho y (.head _) (fun e=>wC.1 (e ▸ mem_map_of_mem (f:=fun x:ZE=>x.s) hz))];rfl
structure StU(ops:Array Oper)(zs:List ZE)(ps:List PE)(xs:List AE)(e0 eo:Env)(listed:Array Bool)(bs:Nat→Nat)(e:Env):Prop where
 base:Sub e0 e
 p:∀p∈ps,listed.getD p.1 false=true→look e p.2.1=some p.2.2.1
 a:∀x∈xs,listed.getD x.i false=true→look e x.d=some (ptr (bs x.i) 0)
 c:∀x∈xs,listed.getD x.s false=true→listed.getD x.i false=true
 f:(∀p∈ps,(look eo p.2.1).isSome=true→listed.getD p.1 false=false)→Sub eo e
 g:∀p∈ps,(look eo p.2.1).isSome=true→listed.getD p.1 false=true→∀o,ops[p.1]? =some o→∀k,dep o.after k=true→listed.getD k false=true
 z:∀z∈zs,listed.getD z.s false=true→∀o,ops[z.s]? =some o→∀k,dep o.after k=true→listed.getD k false=true
def ahj(ops:Array Oper)(e0 eo:Env)(ps:List PE)(xs:List AE)(zs:List ZE):Bool :=
 decide ((ps.map (·.2.1)++xs.map (·.d)).Nodup)&&(ps.map (·.2.1)++xs.map (·.d)).all (fun d=>(look e0 d).isNone)&&decide ((xs.map (·.i)++xs.map (·.s)).Nodup) &&
 (List.range ops.size).all (fun k=>(ps.any (fun p=>beq p.1 k)||xs.any (fun x=>beq x.i k)||xs.any (fun x=>beq x.s k)||zs.any (fun z=>beq z.s k))&&((ops[k]?).map fun o=>o.after.toList.all fun g=> !Region.binds .any g||blt g.on k).getD true)
 && ps.all (fun p=>xs.all fun x=> !beq p.1 x.i&& !beq p.1 x.s)&&decide ((ps.map (·.1)).Nodup)&&decide ((zs.map (·.s)).Nodup)&&ps.all (fun p=>zs.all fun z=> !beq p.1 z.s)&&xs.all (fun x=>zs.all fun z=> !beq x.i z.s&& !beq x.s z.s)&&ps.all (fun p=> !p.2.2.2||zs.all fun z=>((ops[z.s]?).map fun o=>dep o.after p.1).getD false)&&ps.all (fun p=> !p.2.2.2||ps.all fun q=>(look eo q.2.1).isNone||((ops[q.1]?).map fun o=>dep o.after p.1).getD false)&&xs.all (fun x=>(look eo x.d).isNone)
theorem filter_lt{α:Type}{p q:α→Bool}:∀ {l:List α},(∀x∈l,q x=true→p x=true)→(∃x∈l,p x=true∧q x=false)→(l.filter q).length<(l.filter p).length
 | [],_,⟨x,hx,_⟩=>by cases hx
 | y::l,h,⟨x,hx,h1,h2⟩=>by
  have hle:∀ {l:List α},(∀x∈l,q x=true→p x=true)→(l.filter q).length≤(l.filter p).length:=by
   intro l
   induction l with
   | nil=>intro _;exact Nat.le_refl _
   | cons z l ih =>
    intro h;have h3:=ih fun x hx=>h x (.tail _ hx);have h4:=h z (.head _);cases hq:q z with
    | true=>simp[hq,h4 hq,h3]
    | false=>cases hp:p z<;>simp[hq,hp]<;>omega
  have hl:=hle (l:=l) fun x hx=>h x (.tail _ hx);rcases mem_cons.1 hx with rfl | hx
  ·simp[h1,h2];omega
  ·have h3:=filter_lt (l:=l) (fun x hx=>h x (.tail _ hx)) ⟨x,hx,h1,h2⟩;have h4:=h y (.head _);cases hq:q y with
   | true=>simp[hq,h4 hq];exact h3
   | false=>cases hp:p y<;>simp[hq,hp]<;>omega
theorem Ol{listed L':Array Bool}{bs bs':Nat→Nat}{x:AE}:∀ {xs:List AE},x∈xs→(xs.map (·.i)).Nodup→(∀y∈xs,y.i≠x.i→tL y L' bs'=tL y listed bs)→∃l1 l2,uG xs listed bs=l1++tL x listed bs::l2∧uG xs L' bs'=l1++tL x L' bs'::l2
 | y::xs,hx,wC,ho=>by
  simp only[map_cons,nodup_cons] at wC;rcases mem_cons.1 hx with rfl | hx
  ·refine⟨[],uG xs listed bs,rfl, ?_⟩;show _::uG xs L' bs'=_::uG xs listed bs;congr 1;unfold uG;apply map_congr_left;intro z hz;exact ho z (.tail _ hz) (fun e=>wC.1 (e ▸ mem_map_of_mem (f:=fun x:AE=>x.i) hz))
  ·obtain⟨l1,l2,h1,h2⟩:=Ol hx wC.2 fun z hz=>ho z (.tail _ hz);refine⟨tL y listed bs::l1,l2, ?_, ?_⟩
   ·show _::uG xs listed bs=_;rw[h1];rfl
   ·show tL y L' bs'::uG xs L' bs'=_;rw[h2,ho y (.head _) (fun e=>wC.1 (e ▸ mem_map_of_mem (f:=fun x:AE=>x.i) hx))];rfl
theorem Sat.ad8{w:World}{l1 l2:List aA}{A:aA}(h:Sat K w (A::(l1++ZK::l2))):Sat K w (l1++A::l2):=by
 have h1:Sat K w (ZK::(l1++A::l2)):=⟨h.1,bS.perm (by
  refine Perm.trans (perm_middle (a:=A) (l₁:=[]) (l₂:=l1++ZK::l2)) ?_;simp only[nil_append];refine Perm.trans (Perm.cons A (perm_middle (a:=ZK) (l₁:=l1) (l₂:=l2))) (Perm.trans (Perm.swap ZK A (l1++l2)) ?_);exact Perm.cons ZK (perm_middle (a:=A) (l₁:=l1) (l₂:=l2)).symm) h.2⟩
 exact h1.tail
theorem Sat.mid{w:World}{l1 l2:List aA}{A:aA}(h:Sat K w (l1++A::l2)):Sat K w (A::(l1++l2)):=⟨h.1,bS.perm perm_middle h.2⟩
theorem Sat.afK{w:World}{l1 l2:List aA}{A:aA}(h:Sat K w (A::(l1++l2))):Sat K w (l1++A::l2):=⟨h.1,bS.perm perm_middle.symm h.2⟩
theorem WA.sub{F0:List aA}{fuel:Nat}{listed:Array Bool}{E e:Env}{H H':List aA}{Mo:Mode}(hE:Sub E e)(hH:∀w,Sat K w H→Sat K w H')(h:WA Mo P K n F0 ops Q fuel listed E H'):WA Mo P K n F0 ops Q fuel listed e H:=fun a w ha hw=>h a w (ha.sub hE) (hH w hw)
theorem iP{L:Array Bool}{j k:Nat}(h:(L.setIfInBounds j true).getD k false=true):k=j∨L.getD k false=true:=by
 by_cases e:j=k
 ·exact .inl e.symm
 ·rw[getD_set_ne false e] at h;exact .inr h
theorem MZ(hp:uw (IB ds P K n ops e0 eo F A0 ps) ps)(ha:uw (acj ds P K n ops e0) xs)(hs:uw (Mw ds P K n ops e0 ps) xs)(hz:uw (IU ds P K n ops e0 ps) zs)(hc:ahj ops e0 eo ps xs zs=true)(hA0:∀w,Sat K w (zs.map (·.A)++F)→Sat K w A0)
 (tT:∀bs:Nat→Nat,Q ⟨none,ds⟩ .normal (ps.map (fun p=>(p.2.1,p.2.2.1))++(xs.map (fun x=>(x.d,ptr (bs x.i) 0))++e0)) (zs.map (·.B)++(xs.map (fun x=>x.B (bs x.i))++F))) :
 ∀ (fuel:Nat) (listed:Array Bool) (bs:Nat→Nat) (e:Env),listed.size=ops.size→((List.range ops.size).filter fun k=> !listed.getD k true).length≤fuel→StU ops zs ps xs e0 eo listed bs e →
  WA ⟨none,ds⟩ P K n [] ops Q fuel listed e (pQ zs listed++(uG xs listed bs++F)):=by
 simp only[ahj,Bool.and_eq_true,decide_eq_true_eq,all_eq_true,mem_range,Bool.or_eq_true,Bool.not_eq_true'] at hc;obtain⟨⟨⟨⟨⟨⟨⟨⟨⟨⟨⟨wC,hfr⟩,acB⟩,akR⟩,hpa⟩,ana⟩,amU⟩,hpz⟩,hxz⟩,ane⟩,amE⟩,Hu⟩:=hc;have aqe:∀ {L:Array Bool} {k:Nat},L.getD k false=true→k<L.size:=fun {L k} h=>by
  rcases Nat.lt_or_ge k L.size with h' | h'
  ·exact h'
  ·simp[Array.getElem?_eq_none h'] at h
 intro fuel
 induction fuel with
 | zero =>
  intro listed bs e Kl afp dJ;have rO:∀k,k<ops.size→listed.getD k true=true:=fun k hk=>by
   rcases Bool.eq_false_or_eq_true (listed.getD k true) with h | h
   ·exact h
   ·have h1:k∈(List.range ops.size).filter fun k=> !listed.getD k true:=mem_filter.2 ⟨mem_range.2 hk,by rw[h];rfl⟩;rw[eq_nil_of_length_eq_zero (le_zero.1 afp)] at h1;cases h1
  have WH:∀k,k<ops.size→listed.getD k false=true:=fun k hk=>by
   have :=rO k hk;simp[Array.getD,Kl,hk] at this ⊢;exact this
  have Zy:Region.ready .any ops listed=[]:=by
   cases hr:Region.ready .any ops listed with
   | nil=>rfl
   | cons j l =>
    have h1:j∈Region.ready .any ops listed:=by rw[hr];exact .head _
    obtain⟨h2,o,h3,_⟩:=mem_ready.1 h1;rw[rO j (Array.getElem?_eq_some_iff.1 h3).1] at h2;cases h2
  refine WA.sub (E:=ps.map (fun p=>(p.2.1,p.2.2.1))++(xs.map (fun x=>(x.d,ptr (bs x.i) 0))++e0)) (H':=zs.map (·.B)++(xs.map (fun x=>x.B (bs x.i))++F)) ?_ ?_ (WA.done Zy (fun w h=>⟨h.1,trivial⟩) (tT bs))
  ·refine Sub.two (Sub.map fun p DU=>dJ.p p DU ?_) (Sub.two (Sub.map fun x hx=>dJ.a x hx ?_) dJ.base)
   ·obtain⟨o,h1,_⟩:=hp.mem p DU;exact WH _ (Array.getElem?_eq_some_iff.1 h1).1
   ·obtain⟨o,h1,_⟩:=ha.mem x hx;exact WH _ (Array.getElem?_eq_some_iff.1 h1).1
  ·intro w hw;have :uG xs listed bs=xs.map (fun x=>x.B (bs x.i)):=by
    unfold uG tL;apply map_congr_left;intro x hx;obtain⟨o,h1,_⟩:=hs.mem x hx;rw[WH _ (Array.getElem?_eq_some_iff.1 h1).1];rfl
   have h2:pQ zs listed=zs.map (·.B):=by
    unfold pQ;apply map_congr_left;intro z Ke;obtain⟨o,h1,_⟩:=hz.mem z Ke;rw[WH _ (Array.getElem?_eq_some_iff.1 h1).1];rfl
   rw[←this,←h2];exact hw
 | succ fuel ih =>
  intro listed bs e Kl afp dJ;cases hr:Region.ready .any ops listed with
  | nil =>
   have rO:∀k,k<ops.size→listed.getD k true=true:=by
    intro k
    induction k using Nat.strongRecOn with
    | ind k ihk =>
     intro hk;rcases Bool.eq_false_or_eq_true (listed.getD k true) with h | h
     ·exact h
     ·have h1:k∈Region.ready .any ops listed:=mem_ready.2 ⟨h,ops[k],by simp[hk],fun g hg hb=>by
       have h2:=(akR k hk).2;rw[Array.getElem?_eq_getElem hk,Option.map_some,Option.getD_some,all_eq_true] at h2;have h3:=h2 g (by simpa using hg);rw[hb] at h3;have h4:g.on<k:=by simpa using h3
       have h5:=ihk g.on h4 ay;have :g.on<listed.size:=ay;simp[Array.getD,this] at h5 ⊢;exact h5⟩
      rw[hr] at h1;cases h1
   have hz:((List.range ops.size).filter fun k=> !listed.getD k true).length≤fuel:=by
    rw[filter_eq_nil_iff.2 (fun k hk=>by rw[rO k (mem_range.1 hk)];simp)];exact zero_le _
   have h1:=ih listed bs e Kl hz dJ;intro a w ha' hw;have h2:=h1 a w ha' hw;cases fuel with
   | zero=>exact⟨h2.1,fun _=>h2.2.2,by rw[hr];simp⟩
   | succ fuel=>exact⟨h2.1,h2.2.1,by rw[hr];simp⟩
  | cons j0 l0 =>
   refine WA.step (fun w h=>⟨h.1,trivial⟩) hr rfl fun j hj=> ?_;have hj':j∈Region.ready .any ops listed:=by rw[hr];exact hj
   obtain⟨hjf,o,ho,haf⟩:=mem_ready.1 hj';have zU:j<ops.size:=(Array.getElem?_eq_some_iff.1 ho).1;have aff:(listed.setIfInBounds j true).size=ops.size:=by simpa using Kl
   have aev:∀k,dep o.after k=true→listed.getD k false=true:=fun k hk=>by
    obtain⟨g,h1,h2,rfl⟩:=aaH hk;exact haf g h1 h2
   have Om:listed.getD j false=false:=by
    have :j<listed.size:=ay;simp[Array.getD,this] at hjf ⊢;exact hjf
   have Xk:(listed.setIfInBounds j true).getD j false=true:=by
    have :j<listed.size:=ay;simp[this]
   have Ww:((List.range ops.size).filter fun k=> !(listed.setIfInBounds j true).getD k true).length≤fuel:=by
    have :=filter_lt (l:=List.range ops.size) (p:=fun k=> !listed.getD k true) (q:=fun k=> !(listed.setIfInBounds j true).getD k true) (fun k hk h=>by
     by_cases e:j=k
     ·subst e;have :j<listed.size:=ay;simp[this] at h
     ·rwa [getD_set_ne true e] at h) ⟨j,by simpa using zU,by rw[hjf];rfl,by
      have :j<listed.size:=ay;simp[this]⟩
    omega
   have hDD:∀ {qs:List PE},(∀q∈qs,q∈ps)→Sub (qI o.after qs) e:=fun {qs} hq=>Sub.map fun p DU=>by
    obtain⟨h1,h2⟩:=mem_filter.1 DU;exact dJ.p p (hq p h1) (aev _ h2)
   refine⟨o,ho, ?_⟩;have hzd:∀z∈zs,(listed.setIfInBounds j true).getD z.s false=true→∀o',ops[z.s]? =some o'→∀k,dep o'.after k=true→(listed.setIfInBounds j true).getD k false=true:=fun z Ke hl o' Ho k hk=>by
    refine getD_set_true ?_;by_cases e1:z.s=j
    ·rw[e1,ho] at Ho;injection Ho with Ho;subst Ho;exact aev k hk
    ·exact dJ.z z Ke ((iP hl).resolve_left e1) o' Ho k hk
   have SX:∀p∈ps,(look eo p.2.1).isSome=true→(listed.setIfInBounds j true).getD p.1 false=true→∀o',ops[p.1]? =some o'→∀k,dep o'.after k=true→(listed.setIfInBounds j true).getD k false=true:=fun p BR hio hl o' Ho k hk=>by
    refine getD_set_true ?_;by_cases e1:p.1=j
    ·rw[e1,ho] at Ho;injection Ho with Ho;subst Ho;exact aev k hk
    ·exact dJ.g p BR hio ((iP hl).resolve_left e1) o' Ho k hk
   have hfd:(∀p∈ps,(look eo p.2.1).isSome=true→(listed.setIfInBounds j true).getD p.1 false=false)→Sub eo e∧∀p∈ps,(look eo p.2.1).isSome=true→p.1≠j:=fun h=>⟨dJ.f (fun p BR hio=>by
    cases h1:listed.getD p.1 false with
    | false=>rfl
    | true=>have :=h p BR hio;rw[getD_set_true h1] at this;cases this),fun p BR hio he=>by
    have :=h p BR hio;rw[he,Xk] at this;cases this⟩
   have wL:=(akR j zU).1;rcases wL with ((wL | wL) | wL) | wL
   ·obtain⟨p,BR,hpj⟩:=any_eq_true.1 wL;obtain rfl:=eq_of_beq_eq_true hpj;obtain⟨o',Ho,qs,ZF,WW⟩:=hp.mem p BR;obtain rfl:o=o':=by rw[ho] at Ho;injection Ho
    have hD:Sub (qI o.after qs++aeF p.2.2.2 eo e0) e:=by
     refine Sub.two (hDD ZF) ?_;unfold aeF;cases lJ:p.2.2.2 with
     | false=>exact dJ.base
     | true =>
      refine Sub.two (dJ.f fun q hq hio=> ?_) dJ.base;cases h1:listed.getD q.1 false with
      | false=>rfl
      | true =>
       have h2:=((amE p BR).resolve_left (by rw[lJ];simp)) q hq;rcases h2 with h2 | h2
       ·rw[Option.isNone_iff_eq_none] at h2;rw[h2] at hio;cases hio
       ·obtain⟨oq,hoq,_⟩:=hp.mem q hq;rw[hoq,Option.map_some,Option.getD_some] at h2;rw[dJ.g q hq hio h1 oq hoq p.1 h2] at Om;cases Om
    refine WL.sub (Sub.app hD) cu ?_;rw[append_assoc];refine WW e _ _ (fun w hw=> ?_) (WL.nil ?_)
    ·cases lJ:p.2.2.2 with
     | false=>exact⟨hw.1,(bS.append.1 (bS.append.1 hw.2).2.1).2.1⟩
     | true =>
      have e1:pQ zs listed=zs.map (·.A):=by
       unfold pQ;apply map_congr_left;intro z Ke;have h1:=(ane p BR).resolve_left (by rw[lJ];simp) z Ke;obtain⟨oz,hoz,_⟩:=hz.mem z Ke;rw[hoz,Option.map_some,Option.getD_some] at h1;cases h2:listed.getD z.s false with
       | false=>rfl
       | true=>rw[dJ.z z Ke h2 oz hoz p.1 h1] at Om;cases Om
      rw[e1] at hw;refine hA0 w ⟨hw.1,(bS.append.1 (bS.perm (l':=uG xs listed bs++(zs.map (·.A)++F)) ?_ hw.2)).2.1⟩;rw[←append_assoc,←append_assoc];exact Perm.append_right F perm_append_comm
    show WA _ _ _ _ _ _ _ _ _ _ _;have wD:uG xs listed bs=uG xs (listed.setIfInBounds p.1 true) bs:=by
     unfold uG tL;apply map_congr_left;intro x hx;have h1:=hpa p BR x hx;have e1:p.1≠x.i:=fun h=>by rw[h] at h1;simp at h1
     have e2:p.1≠x.s:=fun h=>by rw[h] at h1;simp at h1
     rw[getD_set_ne false e1,getD_set_ne false e2]
    have hmz:pQ zs listed=pQ zs (listed.setIfInBounds p.1 true):=by
     unfold pQ;apply map_congr_left;intro z Ke;rw[getD_set_ne false (fun h=>by have h1:=hpz p BR z Ke;rw[h] at h1;simp at h1)]
    rw[wD,hmz];have hfp:∀t v,look e0 t=some v→t≠p.2.1:=fun t v ht h=>by
     have :=hfr p.2.1 (mem_append_left _ (mem_map_of_mem (f:=fun p:PE=>p.2.1) BR));rw[←h,ht] at this;cases this
    refine ih _ bs _ aff Ww ⟨fun t v ht=> ?_,fun q hq hl=> ?_,fun x hx hl=> ?_,fun x hx hl=> ?_,fun h t v ht=> ?_,SX,hzd⟩
    ·have nk:=hfr p.2.1 (mem_append_left _ (mem_map_of_mem (f:=fun p:PE=>p.2.1) BR));rw[←append_assoc,iM hD,if_neg (fun h=>by rw[h,ht] at nk;cases nk)];exact dJ.base t v ht
    ·rw[←append_assoc,iM hD];by_cases e1:q.1=p.1
     ·obtain rfl:=mX ana hq BR e1;simp
     ·rw[if_neg (fun h=>e1 (by rw[mX (nodup_append.1 wC).1 BR hq h]))];exact dJ.p q hq ((iP hl).resolve_left e1)
    ·rw[←append_assoc,iM hD,if_neg (fun h=>(nodup_append.1 wC).2.2 _ (mem_map_of_mem (f:=fun p:PE=>p.2.1) BR) _ (mem_map_of_mem (f:=fun x:AE=>x.d) hx) h)];have h1:=hpa p BR x hx;exact dJ.a x hx ((iP hl).resolve_left (fun h=>by rw[h] at h1;simp at h1))
    ·have h1:=hpa p BR x hx;exact getD_set_true (dJ.c x hx ((iP hl).resolve_left (fun h=>by rw[h] at h1;simp at h1)))
    ·obtain⟨h1,h2⟩:=hfd h;rw[←append_assoc,iM hD,if_neg (fun he=>h2 p BR (by rw[he,ht];rfl) rfl)];exact h1 t v ht
   ·obtain⟨x,DW,hxj⟩:=any_eq_true.1 wL;obtain rfl:=eq_of_beq_eq_true hxj;obtain⟨o',Ho,WW⟩:=ha.mem x DW;obtain rfl:o=o':=by rw[ho] at Ho;injection Ho
    refine WL.sub (Sub.app dJ.base) cu ?_;refine WW e _ _ fun b=>WL.nil ?_;show WA _ _ _ _ _ _ _ _ _ _ _;have hni:=(nodup_append.1 acB).1;have dP:listed.getD x.s false=false:=by
     cases h:listed.getD x.s false with
     | false=>rfl
     | true=>rw[dJ.c x DW h] at Om;cases Om
    have QK:∀y∈xs,x.i≠y.s:=fun y hy h=>(nodup_append.1 acB).2.2 _ (mem_map_of_mem (f:=fun x:AE=>x.i) DW) _ (mem_map_of_mem (f:=fun x:AE=>x.s) hy) h;obtain⟨bs',akh⟩:∃bs':Nat→Nat,bs'=fun k=>if k=x.i then b else bs k:=⟨_,rfl⟩
    have Hr:bs' x.i=b:=by rw[akh];simp
    have tX:∀ {k},k≠x.i→bs' k=bs k:=fun {k} h=>by rw[akh];simp[h]
    obtain⟨l1,l2,h1,h2⟩:=Ol (listed:=listed) (L':=listed.setIfInBounds x.i true) (bs:=bs) (bs':=bs') DW hni fun y hy nk=>by
     unfold tL;rw[getD_set_ne false (QK y hy),getD_set_ne false (fun h=>nk h.symm),tX nk]
    have e1:tL x listed bs=ZK:=by unfold tL;rw[dP,Om];rfl
    have e2:tL x (listed.setIfInBounds x.i true) bs'=x.A b:=by unfold tL;rw[getD_set_ne false (QK x DW),dP,Xk,Hr];rfl
    have hmz:pQ zs listed=pQ zs (listed.setIfInBounds x.i true):=by
     unfold pQ;apply map_congr_left;intro z Ke;rw[getD_set_ne false (fun h=>by have h1:=hxz x DW z Ke;rw[h] at h1;simp at h1)]
    refine WA.sub (Sub.refl _) (fun w h=> ?_) (ih _ bs' _ aff Ww ⟨fun t v ht=> ?_,fun q hq hl=> ?_,fun y hy hl=> ?_,fun y hy hl=> ?_,fun h t v ht=> ?_,SX,hzd⟩)
    ·rw[h2,e2,←hmz,append_assoc,cons_append,←append_assoc];rw[h1,e1,append_assoc,cons_append,←append_assoc] at h;exact h.ad8
    ·have nk:=hfr x.d (mem_append_right _ (mem_map_of_mem (f:=fun x:AE=>x.d) DW));rw[iM dJ.base,if_neg (fun h=>by rw[h,ht] at nk;cases nk)];exact dJ.base t v ht
    ·rw[iM dJ.base,if_neg (fun h=>(nodup_append.1 wC).2.2 _ (mem_map_of_mem (f:=fun p:PE=>p.2.1) hq) _ (mem_map_of_mem (f:=fun x:AE=>x.d) DW) h.symm)];have h3:=hpa q hq x DW;exact dJ.p q hq ((iP hl).resolve_left (fun h=>by rw[h] at h3;simp at h3))
    ·rw[iM dJ.base];by_cases e3:y.i=x.i
     ·obtain rfl:=mX hni hy DW e3;rw[if_pos rfl,Hr]
     ·rw[if_neg (fun h=>e3 (by rw[mX (nodup_append.1 wC).2.1 DW hy h])),tX e3];exact dJ.a y hy ((iP hl).resolve_left e3)
    ·exact getD_set_true (dJ.c y hy ((iP hl).resolve_left (fun h=>QK y hy h.symm)))
    ·rw[iM dJ.base,if_neg (fun he=>by have :=Hu x DW;rw[he,ht] at this;cases this)];exact (hfd h).1 t v ht
   ·obtain⟨x,DW,hxj⟩:=any_eq_true.1 wL;obtain rfl:=eq_of_beq_eq_true hxj;obtain⟨o',Ho,hdx,qs,ZF,WW⟩:=hs.mem x DW;obtain rfl:o=o':=by rw[ho] at Ho;injection Ho
    have hD:=hDD ZF;have hni:=(nodup_append.1 acB).1;have hns:=(nodup_append.1 acB).2.1;have hxi:=aev _ hdx;have QK:∀y∈xs,x.s≠y.i:=fun y hy h=>(nodup_append.1 acB).2.2 _ (mem_map_of_mem (f:=fun x:AE=>x.i) hy) _ (mem_map_of_mem (f:=fun x:AE=>x.s) DW) h.symm;obtain⟨l1,l2,h1,h2⟩:=Ol (listed:=listed) (L':=listed.setIfInBounds x.s true) (bs:=bs) (bs':=bs) DW hni fun y hy nk=>by
     unfold tL;rw[getD_set_ne false (QK y hy),getD_set_ne false (fun h=>nk (by rw[mX hns DW hy h]))]
    have e1:tL x listed bs=x.A (bs x.i):=by unfold tL;rw[Om,hxi];rfl
    have e2:tL x (listed.setIfInBounds x.s true) bs=x.B (bs x.i):=by unfold tL;rw[Xk];rfl
    have hmz:pQ zs listed=pQ zs (listed.setIfInBounds x.s true):=by
     unfold pQ;apply map_congr_left;intro z Ke;rw[getD_set_ne false (fun h=>by have h1:=hxz x DW z Ke;rw[h] at h1;simp at h1)]
    have hE:Sub ((x.d,ptr (bs x.i) 0)::(qI o.after qs++(e0++e))) e:=Sub.cons (dJ.a x DW hxi) (Sub.app (Sub.two hD dJ.base) |> fun h=>by rwa [append_assoc] at h);refine WL.sub hE (fun w h=> ?_) (WW e (bs x.i) (pQ zs listed++l1++(l2++F)) _ (WL.nil ?_))
    ·rw[h1,e1,append_assoc,cons_append,←append_assoc] at h;exact h.mid
    ·show WA _ _ _ _ _ _ _ _ _ _ _;refine WA.sub (Sub.refl _) (fun w h=> ?_) (ih _ bs _ aff Ww ⟨fun t v ht=> ?_,fun q hq hl=> ?_,fun y hy hl=> ?_,fun y hy hl=> ?_,fun h t v ht=> ?_,SX,hzd⟩)
     ·rw[h2,e2,←hmz,append_assoc,cons_append,←append_assoc];exact h.afK
     ·have nk:=hfr x.d (mem_append_right _ (mem_map_of_mem (f:=fun x:AE=>x.d) DW));rw[←append_assoc,iM (Sub.two hD dJ.base),if_neg (fun h=>by rw[h,ht] at nk;cases nk)];exact dJ.base t v ht
     ·rw[←append_assoc,iM (Sub.two hD dJ.base),if_neg (fun h=>(nodup_append.1 wC).2.2 _ (mem_map_of_mem (f:=fun p:PE=>p.2.1) hq) _ (mem_map_of_mem (f:=fun x:AE=>x.d) DW) h.symm)];have h3:=hpa q hq x DW;exact dJ.p q hq ((iP hl).resolve_left (fun h=>by rw[h] at h3;simp at h3))
     ·rw[←append_assoc,iM (Sub.two hD dJ.base)];have h3:=(iP hl).resolve_left (fun h=>QK y hy h.symm);by_cases e3:x.d=y.d
      ·obtain rfl:=mX (nodup_append.1 wC).2.1 DW hy e3;rw[if_pos rfl]
      ·rw[if_neg e3];exact dJ.a y hy h3
     ·refine getD_set_true ?_;by_cases e3:y.s=x.s
      ·obtain rfl:=mX hns hy DW e3;exact hxi
      ·exact dJ.c y hy ((iP hl).resolve_left e3)
     ·rw[←append_assoc,iM (Sub.two hD dJ.base),if_neg (fun he=>by have :=Hu x DW;rw[he,ht] at this;cases this)];exact (hfd h).1 t v ht
   ·obtain⟨z,Ke,hzj⟩:=any_eq_true.1 wL;obtain rfl:=eq_of_beq_eq_true hzj;obtain⟨o',Ho,qs,ZF,WW⟩:=hz.mem z Ke;obtain rfl:o=o':=by rw[ho] at Ho;injection Ho
    have hD:=hDD ZF;obtain⟨l1,l2,h1,h2⟩:=Pv (listed:=listed) (L':=listed.setIfInBounds z.s true) Ke amU fun y hy nk=>getD_set_ne false (fun h=>nk h.symm);rw[Om] at h1;rw[Xk] at h2;have wD:uG xs listed bs=uG xs (listed.setIfInBounds z.s true) bs:=by
     unfold uG tL;apply map_congr_left;intro x hx;have h1:=hxz x hx z Ke;have e1:z.s≠x.i:=fun h=>by rw[h] at h1;simp at h1
     have e2:z.s≠x.s:=fun h=>by rw[h] at h1;simp at h1
     rw[getD_set_ne false e1,getD_set_ne false e2]
    refine WL.sub (Sub.app (Sub.two hD dJ.base)) (fun w h=> ?_) (by
     rw[append_assoc];exact WW e (l1++(l2++(uG xs listed bs++F))) _ (WL.nil (by
      show WA _ _ _ _ _ _ _ _ _ _ _;refine WA.sub (Sub.refl _) (fun w h=> ?_) (ih _ bs _ aff Ww ⟨fun t v ht=> ?_,fun q hq hl=> ?_,fun y hy hl=> ?_,fun y hy hl=> ?_,fun h t v ht=> ?_,SX,hzd⟩)
      ·rw[h2,←wD,append_assoc];exact h.afK
      ·rw[←append_assoc,zH]
       ·exact dJ.base t v ht
       ·exact Sub.two hD dJ.base
      ·rw[←append_assoc,zH (Sub.two hD dJ.base)];have h3:=hpz q hq z Ke;exact dJ.p q hq ((iP hl).resolve_left (fun h=>by rw[h] at h3;simp at h3))
      ·rw[←append_assoc,zH (Sub.two hD dJ.base)];have h3:=hxz y hy z Ke;exact dJ.a y hy ((iP hl).resolve_left (fun h=>by rw[h] at h3;simp at h3))
      ·have h3:=hxz y hy z Ke;exact getD_set_true (dJ.c y hy ((iP hl).resolve_left (fun h=>by rw[h] at h3;simp at h3)))
      ·rw[←append_assoc,zH (Sub.two hD dJ.base)];exact (hfd h).1 t v ht)))
    rw[h1,append_assoc] at h;exact h.mid
theorem Sat.ajM{w:World}{α:Type}{f:α→aA}(hf:∀x,f x=ZK):∀ {xs:List α},Sat K w F→Sat K w (xs.map f++F)
 | [],h=>h
 | x::xs,h=>by rw[map_cons,hf,cons_append];exact (Sat.ajM hf h).emp
def mP(l:List Nat)(e:Env):Env:=e.filter fun p=> !l.any (p.1== ·)
theorem Sub.mP(l:List Nat):∀ {e:Env},Sub (Sl.mP l e) e
 | []=>Sub.nil _
 | (k,v)::e=>fun t u h=>by
  have ih:=Sub.mP l (e:=e) t u;unfold Sl.mP at h ih;rw[filter_cons] at h;simp only[look];by_cases hk:(!l.any (k== ·))=true
  ·rw[if_pos hk] at h;simp only[look] at h;cases hb:beq k t with
   | true=>rw[hb] at h;exact h
   | false=>rw[hb] at h;exact ih h
  ·rw[if_neg hk] at h;have h2:=ih h;cases hb:beq k t with
   | false=>exact h2
   | true =>
    obtain rfl:=eq_of_beq_eq_true hb;exfalso;have yS:l.any (k== ·)=true:=by simpa using hk
    have key:∀e:Env,look (e.filter fun p=> !l.any (p.1== ·)) k=none:=by
     intro e
     induction e with
     | nil=>rfl
     | cons p e ihe =>
      rw[filter_cons];by_cases hp:(!l.any (p.1== ·))=true
      ·rw[if_pos hp];simp only[look];cases tX:beq p.1 k with
       | true=>rw[eq_of_beq_eq_true tX,yS] at hp;cases hp
       | false=>exact ihe
      ·rw[if_neg hp];exact ihe
    rw[key] at h;cases h
def UA(ds:List Deferred)(P:Program)(K:World)(n:Nat)(ops:Array Oper)(e0 eo:Env)(F A0:List aA)(G:Prop)(ps:List PE)(ys:List (Nat×Nat×(Nat→aA)))(xs:List AE)(zs:List ZE):Prop :=
 uw (IB ds P K n ops e0 eo F A0 ps) ps→uw (fun y=>∀s B,acj ds P K n ops e0 ⟨y.1,y.2.1,y.2.2,s,B⟩) ys→uw (acj ds P K n ops e0) xs→uw (Mw ds P K n ops e0 ps) xs→uw (IU ds P K n ops e0 ps) zs→G
theorem uw.mono{α:Type}{p q:α→Prop}(h:∀x,p x→q x):∀ {l:List α},uw p l→uw q l
 | [],_=>trivial
 | _::_,h1=>⟨h _ h1.1,uw.mono h h1.2⟩
variable{G:Prop}{ys:List (Nat×Nat×(Nat→aA))}
theorem IB.up{p q:PE}(h:IB ds P K n ops e0 eo F A0 ps p):IB ds P K n ops e0 eo F A0 (q::ps) p:=by obtain⟨o,h1,qs,h2,h3⟩:=h;exact⟨o,h1,qs,fun x hx=> .tail _ (h2 x hx),h3⟩
theorem Mw.up{x:AE}{q:PE}(h:Mw ds P K n ops e0 ps x):Mw ds P K n ops e0 (q::ps) x:=by obtain⟨o,h1,h0,qs,h2,h3⟩:=h;exact⟨o,h1,h0,qs,fun x hx=> .tail _ (h2 x hx),h3⟩
theorem IU.up{x:ZE}{q:PE}(h:IU ds P K n ops e0 ps x):IU ds P K n ops e0 (q::ps) x:=by obtain⟨o,h1,qs,h2,h3⟩:=h;exact⟨o,h1,qs,fun x hx=> .tail _ (h2 x hx),h3⟩
theorem UA.p{p:PE}(hp:IB ds P K n ops e0 eo F A0 ps p)(h:UA ds P K n ops e0 eo F A0 G (p::ps) ys xs zs):UA ds P K n ops e0 eo F A0 G ps ys xs zs :=
 fun h1 h2 h3 h4 h5=>h ⟨hp.up,h1.mono fun _=>IB.up⟩ h2 h3 (h4.mono fun _=>Mw.up) (h5.mono fun _=>IU.up)
theorem UA.val{d:Nat}{op:Op}{ty:TypeId}{pos:String}{af:Array Edge}{v:Value}(i:Nat)(ho:ops[i]? =some ⟨some d,op,ty,pos,af,none⟩)(hv:∀r,eX ⟨none,ds⟩ P K n true (qI af ps++(e0++r)) F ⟨some d,op,ty,pos,af,none⟩ v)(h:UA ds P K n ops e0 eo F A0 G ((i,d,v,false)::ps) ys xs zs)(hd:blt d n=true:=by rfl):UA ds P K n ops e0 eo F A0 G ps ys xs zs :=
 UA.p (p:=(i,d,v,false)) ⟨_,ho,ps,fun _ h=>h,fun r H' Q' hF h=>WL.val (fun hc a w ha hw=>hv r hc a w ha (hF w hw)) hd h⟩ h
theorem UA.Pz{d:Nat}{op:Op}{ty:TypeId}{pos:String}{af:Array Edge}{v:Value}(i:Nat)(ho:ops[i]? =some ⟨some d,op,ty,pos,af,none⟩)(hv:∀r,eX ⟨none,ds⟩ P K n true (qI af ps++((eo++e0)++r)) A0 ⟨some d,op,ty,pos,af,none⟩ v)(h:UA ds P K n ops e0 eo F A0 G ((i,d,v,true)::ps) ys xs zs)(hd:blt d n=true:=by rfl):UA ds P K n ops e0 eo F A0 G ps ys xs zs :=
 UA.p (p:=(i,d,v,true)) ⟨_,ho,ps,fun _ h=>h,fun r H' Q' hF h=>WL.val (fun hc a w ha hw=>hv r hc a w ha (hF w hw)) hd h⟩ h
theorem UA.call{d:Nat}{ty:TypeId}{pos:String}{af:Array Edge}{f:FuncId}{ys':List Operand}{vs:List Value}{ats:Array TypeId}{v:Value}(i:Nat)(ho:ops[i]? =some ⟨some d,.call ⟨.value (.func f),ys'.toArray,ats⟩,ty,pos,af,none⟩)(hf:bT P f)
 (dP:∀r,Gh true (qI af ps++(e0++r)) ys' vs) (hT:∀H',(∀w,Sat K w H'→Sat K w F)→aL P f vs.toArray K H' v) (h:UA ds P K n ops e0 eo F A0 G ((i,d,v,false)::ps) ys xs zs) (hd:blt d n=true:=by rfl):UA ds P K n ops e0 eo F A0 G ps ys xs zs :=
 UA.p (p:=(i,d,v,false)) ⟨_,ho,ps,fun _ h=>h,fun r H' Q' hF h=>WL.call hf (dP r) (hT H' hF) hd (fun v' oV ⟨e1,e2⟩=>by subst e1 e2;exact h)⟩ h
theorem UA.alloc{d T:Nat}{ty:TypeId}{pos:String}{af:Array Edge}{z:Value}{cs:List Value}(i:Nat)(ho:ops[i]? =some ⟨some d,.alloc T,ty,pos,af,none⟩)(hz:∀w,(zeroValue T).run P w= .ok z w)(hc:z.cells.toList=cs)
 (h:UA ds P K n ops e0 eo F A0 G ps ((i,d,fun b=>ah b T cs)::ys) xs zs) (hd:blt d n=true:=by rfl):UA ds P K n ops e0 eo F A0 G ps ys xs zs :=
 fun h1 h2 h3 h4 h5=>h h1 ⟨fun s B=>⟨_,ho,fun r H' Q' h=>WL.alloc hz hc hd h⟩,h2⟩ h3 h4 h5
theorem UA.store{i d T m:Nat}{ty:TypeId}{pos:String}{af:Array Edge}{x y:Operand}{cs cs':List Value}{v:Value}(s q:Nat)(ho:ops[s]? =some ⟨none,.store T x y,ty,pos,af,none⟩)(hq:ys[q]? =some (i,d,fun b=>ah b T cs))(hT:∀w,(sizeOf T).run P w= .ok m w)
 (hx:∀r b,OV true ((d,ptr b 0)::(qI af ps++(e0++r))) x (ptr b 0)) (hy:∀r b,OV true ((d,ptr b 0)::(qI af ps++(e0++r))) y v) (hc:v.cells.toList=cs') (h1:cs'.all (·.oneCell')=true) (hm:cs'.length=m) (hl:cs'.length=cs.length)
 (h:UA ds P K n ops e0 eo F A0 G ps ys (⟨i,d,fun b=>ah b T cs,s,fun b=>ah b T cs'⟩::xs) zs) (hdp:dep af i=true:=by rfl):UA ds P K n ops e0 eo F A0 G ps ys xs zs :=
 fun k1 k2 k3 k4 k5=>h k1 k2 ⟨k2.mem _ (mem_of_getElem? hq) s _,k3⟩ ⟨⟨_,ho,hdp,ps,fun _ h=>h,fun r b H' Q' h=>WL.store hT (hx r b) (hy r b) hc hm h1 (dw.whole hl) h⟩,k4⟩ k5
theorem UA.fU{i d T m:Nat}{ty:TypeId}{pos:String}{af:Array Edge}{x y:Operand}{cs:List Value}{k:IntKind}{l:List Nat}(s q:Nat)(ho:ops[s]? =some ⟨none,.store T x y,ty,pos,af,none⟩)(hq:ys[q]? =some (i,d,fun b=>ah b T cs))(hT:∀w,(sizeOf T).run P w= .ok m w)
 (hx:∀r b,OV true ((d,ptr b 0)::(qI af ps++(e0++r))) x (ptr b 0)) (hy:∀r b,OV true ((d,ptr b 0)::(qI af ps++(e0++r))) y (.agg (av k l).toArray))
 (h:UA ds P K n ops e0 eo F A0 G ps ys (⟨i,d,fun b=>ah b T cs,s,fun b=>ah b T (av k l)⟩::xs) zs) (hdp:dep af i=true:=by rfl) (hm:l.length=m:=by first | rfl | (simp[aH, *];done)) (hl:l.length=cs.length:=by first | rfl | (simp[aH,au, *];done)):UA ds P K n ops e0 eo F A0 G ps ys xs zs :=
 UA.store (cs':=av k l) s q ho hq hT hx hy rfl (gW k l) (by rw[au];exact hm) (by rw[au];exact hl) h hdp
theorem UA.z{z:ZE}(hz:IU ds P K n ops e0 ps z)(h:UA ds P K n ops e0 eo F A0 G ps ys xs (z::zs)):UA ds P K n ops e0 eo F A0 G ps ys xs zs:=fun h1 h2 h3 h4 h5=>h h1 h2 h3 h4 ⟨hz,h5⟩
theorem UA.ahp{b T m:Nat}{ty:TypeId}{pos:String}{af:Array Edge}{x y:Operand}{cs' cs0:List Value}{v:Value}(s:Nat)(ho:ops[s]? =some ⟨none,.store T x y,ty,pos,af,none⟩)(hT:∀w,(sizeOf T).run P w= .ok m w)
 (hx:∀r,OV true (qI af ps++(e0++r)) x (ptr b 0)) (hy:∀r,OV true (qI af ps++(e0++r)) y v) (hc:v.cells.toList=cs') (h1:cs'.all (·.oneCell')=true) (hm:cs'.length=m) (h:UA ds P K n ops e0 eo F A0 G ps ys xs (⟨s,ah b T cs0,ah b T cs'⟩::zs)) (hq:ah b T cs0∈A0:=by repeat (first | exact Mem.head _ | apply Mem.tail)) (hl:cs'.length=cs0.length:=by first | rfl | (simp[aH,au, *];done)):UA ds P K n ops e0 eo F A0 G ps ys xs zs :=
 UA.z ⟨_,ho,ps,fun _ h=>h,fun r H' Q' h=>WL.store hT (hx r) (hy r) hc hm h1 (dw.whole hl) h⟩ h
theorem UA.lV{b T m:Nat}{ty:TypeId}{pos:String}{af:Array Edge}{x y:Operand}{k:IntKind}{l:List Nat}{cs0:List Value}(s:Nat)(ho:ops[s]? =some ⟨none,.store T x y,ty,pos,af,none⟩)(hT:∀w,(sizeOf T).run P w= .ok m w)
 (hx:∀r,OV true (qI af ps++(e0++r)) x (ptr b 0)) (hy:∀r,OV true (qI af ps++(e0++r)) y (.agg (av k l).toArray)) (h:UA ds P K n ops e0 eo F A0 G ps ys xs (⟨s,ah b T cs0,ah b T (av k l)⟩::zs)) (hm:l.length=m:=by first | rfl | (simp[aH, *];done)) (hq:ah b T cs0∈A0:=by repeat (first | exact Mem.head _ | apply Mem.tail)) (hl:l.length=cs0.length:=by first | rfl | (simp[aH,au, *];done)):UA ds P K n ops e0 eo F A0 G ps ys xs zs :=
 UA.ahp (cs':=av k l) s ho hT hx hy rfl (gW k l) (by rw[au];exact hm) h hq (by rw[au];exact hl)
theorem UA.at_{b o T T':Nat}{ty:TypeId}{pos:String}{af:Array Edge}{x y:Operand}{k:IntKind}{u:Nat}{l0:List Nat}(s:Nat)(ho:ops[s]? =some ⟨none,.store T x y,ty,pos,af,none⟩)(hT:∀w,(sizeOf T).run P w= .ok 1 w)
 (hx:∀r,OV true (qI af ps++(e0++r)) x (ptr b o)) (hy:∀r,OV true (qI af ps++(e0++r)) y (.int k ((u:Nat):Int))) (h:UA ds P K n ops e0 eo F A0 G ps ys xs (⟨s,ah b T' (av k l0),ah b T' (av k (l0.set o u))⟩::zs)) (hq:ah b T' (av k l0)∈A0:=by repeat (first | exact Mem.head _ | apply Mem.tail)) (hl:o<l0.length:=by first | omega | (simp[aH, *];done) | (simp[aH];omega)):UA ds P K n ops e0 eo F A0 G ps ys xs zs :=
 UA.z ⟨_,ho,ps,fun _ h=>h,fun r H' Q' h=>WL.fU hT (hx r) (hy r) h (dw.nat hl)⟩ h
def mW(l:List Nat)(e:Env):Env:=e.filter fun p=>l.any (p.1== ·)
theorem Sub.mW(l:List Nat):∀ {e:Env},Sub (Sl.mW l e) e
 | []=>Sub.nil _
 | (k,v)::e=>fun t u h=>by
  have ih:=Sub.mW l (e:=e) t u;unfold Sl.mW at h ih;rw[filter_cons] at h;simp only[look];by_cases hk:l.any (k== ·)=true
  ·rw[if_pos hk] at h;simp only[look] at h;cases hb:beq k t with
   | true=>rw[hb] at h;exact h
   | false=>rw[hb] at h;exact ih h
  ·rw[if_neg hk] at h;have h2:=ih h;cases hb:beq k t with
   | false=>exact h2
   | true =>
    obtain rfl:=eq_of_beq_eq_true hb;exfalso;have key:∀e:Env,look (e.filter fun p=>l.any (p.1== ·)) k=none:=by
     intro e
     induction e with
     | nil=>rfl
     | cons p e ihe =>
      rw[filter_cons];by_cases hp:l.any (p.1== ·)=true
      ·rw[if_pos hp];simp only[look];cases tX:beq p.1 k with
       | true=>rw[eq_of_beq_eq_true tX] at hp;exact absurd hp hk
       | false=>exact ihe
      ·rw[if_neg hp];exact ihe
    rw[key] at h;cases h
theorem WC.DC{id:Nat}{l:List Oper}(k:Nat)(hF:A0.drop k=F)(h:UA ds P K n l.toArray e0 [] F A0 (WC ⟨none,ds⟩ P K n (.region id l.toArray true) Q e0 A0) [] [] [] []):WC ⟨none,ds⟩ P K n (.region id l.toArray true) Q e0 A0:=h trivial trivial trivial trivial trivial
theorem WC.vG{id:Nat}{l:List Oper}{E:Env}(k:Nat)(ov:List Nat)(hF:A0.drop k=F)(h1:Sl.mP ov E=e0)(h2:Sl.mW ov E=eo)(h:UA ds P K n l.toArray e0 eo F A0 (WC ⟨none,ds⟩ P K n (.region id l.toArray true) Q (eo++e0) A0) [] [] [] []):WC ⟨none,ds⟩ P K n (.region id l.toArray true) Q E A0:=by
 subst h1 h2;exact WC.sub (Sub.two (Sub.mW ov) (Sub.mP ov)) cu (h trivial trivial trivial trivial trivial)
theorem UA.fin{id:Nat}{l:List Oper}(hc:ahj l.toArray e0 eo ps xs zs=true)
 (h:∀bs:Nat→Nat,Q ⟨none,ds⟩ .normal (ps.map (fun p=>(p.2.1,p.2.2.1))++(xs.map (fun x=>(x.d,ptr (bs x.i) 0))++e0)) (zs.map (·.B)++(xs.map (fun x=>x.B (bs x.i))++F)))
 (hm:P.follows .mixedOrders=true:=by kernel_rfl) (akK:eo.all (fun p=>(look e0 p.1).isNone)=true:=by rfl) (hA:∀w,Sat K w A0→Sat K w (zs.map (·.A)++F):=by exact fun w h=>h) (hA0:∀w,Sat K w (zs.map (·.A)++F)→Sat K w A0:=by exact fun w h=>h):UA ds P K n l.toArray e0 eo F A0 (WC ⟨none,ds⟩ P K n (.region id l.toArray true) Q (eo++e0) A0) ps ys xs zs:=fun hp _ ha hs hz=>by
 refine WC.sub (Sub.refl _) hA (WC.fE [] hm ?_);have QK:∀t v,look e0 t=some v→look eo t=none:=fun t v h=>by
  have key:∀e:Env,e.all (fun p=>(look e0 p.1).isNone)=true→look e t=none:=by
   intro e
   induction e with
   | nil=>intro _;rfl
   | cons p e ih =>
    intro h2;rw[all_cons,Bool.and_eq_true] at h2;simp only[look];cases hb:beq p.1 t with
    | false=>exact ih h2.2
    | true=>rw[eq_of_beq_eq_true hb,h] at h2;exact absurd h2.1 (by simp)
  exact key eo akK
 have hn:∀k,(Array.replicate l.length false).getD k false=false:=fun k=>by
  by_cases hk:k<l.length
  ·simp[hk]
  ·simp[Array.getElem?_eq_none (show (Array.replicate l.length false).size≤k by simpa using Nat.le_of_not_lt hk)]
 have Hr:Sub eo (eo++e0):=fun t v h=>by rw[uH,h];rfl
 have hb0:Sub e0 (eo++e0):=fun t v h=>by
  rw[uH];cases h2:look eo t with
  | none=>simpa using h
  | some u =>
   exfalso;have :=QK t v h;rw[h2] at this;cases this
 have h1:=MZ hp ha hs hz hc hA0 h l.length (Array.replicate l.length false) (fun _=>0) (eo++e0) (by simp) (Nat.le_trans (length_filter_le _ _) (by simp)) ⟨hb0,fun p _ h=>(by rw[hn] at h;cases h),fun x _ h=>(by rw[hn] at h;cases h),fun x _ h=>(by rw[hn] at h;cases h),fun _=>Hr,fun p _ _ h=>(by rw[hn] at h;cases h),fun z _ h=>(by rw[hn] at h;cases h)⟩;refine WA.sub (Sub.refl _) (fun w h=> ?_) h1;have e1:pQ zs (Array.replicate l.length false)=zs.map (·.A):=by
  unfold pQ;apply map_congr_left;intro z _;rw[hn];rfl
 rw[e1];have h2:Sat K w (uG xs (Array.replicate l.length false) (fun _=>0)++(F++zs.map (·.A))):=Sat.ajM (fun x=>by unfold tL;rw[hn,hn];rfl) ⟨h.1,bS.perm perm_append_comm h.2⟩;refine⟨h.1,bS.perm ?_ h2.2⟩;rw[←append_assoc];exact perm_append_comm
end
theorem UA.yc{ds:List Deferred}{P:Program}{K:World}{n:Nat}{e0 eo:Env}{F A0:List aA}{ops:Array Oper}{ps:List PE}{xs:List AE}{zs:List ZE}{G:Prop}{ys:List (Nat×Nat×(Nat→aA))}{d i:Nat}{op:Op}{ty:TypeId}{pos:String}{af:Array Edge}{v:Value}(ix:Ix i)(ho:ops[i]? =some ⟨some d,op,ty,pos,af,none⟩)(hv:∀r,eX ⟨none,ds⟩ P K n true (qI af ps++(e0++r)) F ⟨some d,op,ty,pos,af,none⟩ v)(h:UA ds P K n ops e0 eo F A0 G ((i,d,v,false)::ps) ys xs zs)(hd:blt d n=true:=by rfl):UA ds P K n ops e0 eo F A0 G ps ys xs zs :=
 UA.val i ho hv h hd
theorem UA.akj{ds:List Deferred}{P:Program}{K:World}{n:Nat}{e0 eo:Env}{F A0:List aA}{ops:Array Oper}{ps:List PE}{xs:List AE}{zs:List ZE}{G:Prop}{ys:List (Nat×Nat×(Nat→aA))}{d i:Nat}{op:Op}{ty:TypeId}{pos:String}{af:Array Edge}{v:Value}(ix:Ix i)(ho:ops[i]? =some ⟨some d,op,ty,pos,af,none⟩)(hv:∀r,eX ⟨none,ds⟩ P K n true (qI af ps++((eo++e0)++r)) A0 ⟨some d,op,ty,pos,af,none⟩ v)(h:UA ds P K n ops e0 eo F A0 G ((i,d,v,true)::ps) ys xs zs)(hd:blt d n=true:=by rfl):UA ds P K n ops e0 eo F A0 G ps ys xs zs :=
 UA.Pz i ho hv h hd
class ZnT(P:Program)(T:Nat)(k:outParam IntKind)(m:outParam Nat):Prop where
 h:∃z,(∀w,(zeroValue T).run P w= .ok z w)∧z.cells.toList=av k (replicate m 0)
theorem WL.ad3{Mo:Mode}{P:Program}{K:World}{n:Nat}{ops:Array Oper}{Q:fG}{e:Env}{H:List aA}{ty:TypeId}{pos:String}{af:Array Edge}{d T m:Nat}{k:IntKind}{rest:List Oper}[hz:ZnT P T k m](h:∀b,WL Mo P K n ops rest Q ((d,ptr b 0)::e) (ah b T (av k (replicate m 0))::H))(hd:blt d n=true:=by rfl):WL Mo P K n ops (⟨some d,.alloc T,ty,pos,af,none⟩::rest) Q e H :=
 Exists.elim hz.h fun _ q=>WL.jP k m q.1 q.2 hd h
theorem aP(s:String){X Y:Prop}(h:Y) (t:StS s X Y:=by
 apply StS.o;repeat (first
  | (apply aO.q;first
  | (apply gB.q;first
  | (apply iE.q;first
  | (apply EB.w 104;focus (intro ix h;exact UA.yc ix rfl (fun _=>V.fT (j:=0) LB.h (OV.p rfl) (OV.p rfl)) h))
  | (apply EB.s 106;focus (intro hz;exact WL.val (V.I7 (M:=4294967296) zx.h zx.h (OV.p rfl)) rfl hz))
  )
  | (apply iE.s 101;focus (intro h;exact WL.bG (oj:=_) rfl rfl rfl GC.t (V.len (t:=0) zx.h (OV.g rfl id)) rfl h))
  | (apply iE.s 102;focus (intro h;exact WL.val (V.zP (j:=8) (OV.p rfl) (OV.p rfl)) rfl h))
  | (apply iE.s 103;focus (intro hz;exact WL.val (V.abE LB.h Cb.h (OV.p rfl) (OV.p rfl)) rfl hz))
  | (apply iE.s 104;focus (intro hz;exact WQ.val (V.ji (y9.h (s:=4)) (OV.p rfl)) rfl hz))
  | (apply iE.w 121;focus (intro ix hz;exact UA.yc ix rfl (fun _=>V.ahI (y9.h (s:=32)) (OV.p rfl)) hz))
  | (apply iE.s 65;focus (intro hz;exact WL.val (V.wO (j:=1) (OV.p rfl) (OV.p rfl)) rfl hz))
  | (apply iE.s 72;focus (intro h;exact WL.val (V.zP (j:=4) (OV.p rfl) (OV.p rfl)) rfl h))
  | (apply iE.w 73;focus (intro ix hz;exact WA.tI ix rfl (V.dY Cb.h (OV.p rfl)) hz))
  | (apply iE.s 74;focus (intro hz;exact WL.val (V.I5 (j:=1) (OV.p rfl) (OV.p rfl)) rfl hz))
  | (apply iE.w 75;focus (intro ix hz;exact UA.yc ix rfl (fun _=>V.abo (y9.h (s:=32)) (OV.p rfl)) hz))
  | (apply iE.s 76;focus (intro hz;exact WQ.val (V.ji (y9.h (s:=32)) (OV.p rfl)) rfl hz))
  | (apply iE.w 77;focus (intro ix hz;exact UA.yc ix rfl (fun _=>V.Pb (i:=4) (OV.p rfl) (OV.p rfl)) hz))
  | (apply iE.s 78;focus (intro hz;exact WL.val (V.RQ (M:=4294967296) (OV.p rfl) (OV.p rfl)) rfl hz))
  | (apply iE.w 49;focus (intro ix h;exact UA.yc ix rfl (fun _=>V.nilCheck (OV.p rfl)) h))
  | (apply iE.s 50;focus (intro h;exact WL.val (V.fT (j:=0) LB.h (OV.p rfl) (OV.p rfl)) rfl h))
  | (apply iE.s 51;focus (intro hz;exact WL.val (V.I5 (j:=0) (OV.p rfl) (OV.p rfl)) rfl hz))
  | (apply iE.s 54;focus (intro hz;exact WL.val (V.XB (j:=64) (OV.p rfl) (OV.p rfl)) rfl hz))
  | (apply iE.s 55;focus (intro hz;exact WL.val (V.C9 (j:=1) 64 (OV.p rfl) (OV.p rfl)) rfl hz))
  | (apply iE.s 56;focus (intro hz;exact WL.val (V.wO (j:=8) (OV.p rfl) (OV.p rfl)) rfl hz))
  | (apply iE.s 57;focus (intro hz;exact WL.val (V.wO (j:=16) (OV.p rfl) (OV.p rfl)) rfl hz))
  | (apply iE.w 33;focus (intro ix hz;exact UA.yc ix rfl (fun _=>V.ach (y9.h (s:=32)) (OV.p rfl)) hz))
  | (apply iE.s 37;focus (intro hz;exact WL.val (V.rV (j:=1) (OV.p rfl) (OV.p rfl)) rfl hz))
  | (apply iE.s 42;focus (intro hz;exact WL.val (V.C9 64 (OV.p rfl) (OV.p rfl)) rfl hz))
  | (apply iE.s 43;focus (intro hz;exact UA.fU 7 0 rfl rfl (tH.h (s:=64)) (fun _ _=>OV.p rfl) (fun _ _=>OV.p rfl) hz))
  | (apply iE.s 59;focus (intro hz;exact WL.val (V.C9 32 (OV.p rfl) (OV.p rfl)) rfl hz))
  )
  | (apply gB.s 68;focus (intro h;exact WC.ret h))
  | (apply gB.s 77;focus (intro h;exact WL.xt rfl rfl rfl h))
  | apply gB.m2 113 99 98
  | (apply gB.s 79;focus (intro hz;exact⟨rfl,hz⟩))
  | apply gB.m4 90 126 77 126 77
  | (apply gB.w 99;focus (intro ix h;exact UA.yc ix rfl (fun _=>V.ji y9.h (OV.p rfl)) h))
  | (apply gB.s 102;focus (intro h;exact WL.val (V.zP (OV.p rfl) (OV.p rfl)) rfl h))
  | (apply gB.s 107;focus (intro hz;exact WC.VL (by clear hz;kernel_rfl) (by clear hz;kernel_rfl) hz))
  | (apply gB.w 111;focus (intro ix h;exact UA.yc ix rfl (fun _=>V.fieldAddr jf.h (OV.p rfl)) h))
  | (apply gB.s 115;focus (intro h;exact WL.fU tH.h (OV.p rfl) (OV.p rfl) h))
  | (apply gB.w 116;focus (intro ix h;exact UA.yc ix rfl (fun _=>V.dY Cb.h (OV.p rfl)) h))
  | (apply gB.w 119;focus (intro ix h;exact WA.tI ix rfl (V.assign (OV.p rfl)) h))
  | (apply gB.s 120;focus (intro h;exact WL.val (V.fT LB.h (OV.p rfl) (OV.p rfl)) rfl h))
  | (apply gB.s 65;focus (intro hz;exact WC.DC 0 rfl hz))
  | (apply gB.s 66;focus (intro h;exact WL.val (V.CV (OV.p rfl) (OV.p rfl) (fun _=>by clear h;omega)) rfl h))
  | (apply gB.w 74;focus (intro ix h;exact UA.yc ix rfl (fun _=>V.fT LB.h (OV.p rfl) (OV.p rfl)) h))
  | (apply gB.s 75;focus (intro h;exact WL.val (V.wU (OV.p rfl) (OV.p rfl)) rfl h))
  | (apply gB.s 78;focus (intro h;exact WL.val (V.RQ (M:=18446744073709551616) (OV.p rfl) (OV.p rfl)) rfl h))
  | (apply gB.s 82;focus (intro hz;exact WC.GN (by clear hz;kernel_rfl) hz))
  | (apply gB.s 83;focus (intro hz;exact WL.val (V.I7 (M:=256) zx.h zx.h (OV.p rfl)) rfl hz))
  | (apply gB.s 84;focus (intro hz;exact WC.NS (by clear hz;kernel_rfl) hz))
  | (apply gB.w 87;focus (intro ix h;exact UA.yc ix rfl (fun _=>V.extract (OV.p rfl) rfl) h))
  | (apply gB.s 88;focus (intro hz;exact WL.GV Ri.h ElT.h (OV.p rfl) (OV.p rfl) hz))
  | (apply gB.s 48;focus (intro hz;exact WL.val (V.wO (OV.p rfl) (OV.p rfl)) rfl hz))
  | (apply gB.s 50;focus (intro hz;exact WL.val (V.Lv WS.h (OV.p rfl) (OV.p rfl)) rfl hz))
  | (apply gB.s 51;focus (intro hz;exact WL.val (V.makeFunc (us:=[]) (vs:=[_]) trivial ⟨OV.p rfl,trivial⟩) rfl hz))
  | (apply gB.w 56;focus (intro ix h;exact UA.yc ix rfl (fun _=>V.abf y9.h (OV.p rfl)) h))
  | (apply gB.s 57;focus (intro h;exact WL.val (V.dY Cb.h (OV.p rfl)) rfl h))
  | (apply gB.s 33;focus (intro hz;exact WC.DC 1 rfl hz))
  | (apply gB.s 36;focus (intro hz;exact WL.val (V.ext (fun hc=>jL _ _ 0 (by clear hz;omega)) ⟨OV.p rfl,OV.p rfl,OV.p rfl,trivial⟩) rfl hz))
  | (apply gB.w 37;focus (intro ix hz;exact UA.yc ix rfl (fun _=>V.Lv WS.h (OV.p rfl) (OV.p rfl)) hz))
  | (apply gB.s 60;focus (intro hz;exact WL.val (V.abg (j:=0) (OV.p rfl) (OV.p rfl)) rfl hz))
  | (apply gB.w 61;focus (intro ix hz;exact UA.akj ix rfl (fun _=>V.dY Cb.h (OV.p rfl)) hz))
  | (apply gB.w 124;focus (intro ix h;exact UA.yc ix rfl (fun _=>V.RQ (M:=18446744073709551616) (OV.p rfl) (OV.p rfl)) h))
  | (apply gB.s 44;focus (intro hz;exact WL.val (V.Pb (i:=8) (OV.p rfl) (OV.p rfl)) rfl hz))
  | (apply gB.s 96;focus (intro hz;exact WL.val (V.XY (j:=0) (OV.p rfl) (OV.p rfl)) rfl hz))
  | (apply gB.s 40;focus (intro hz;exact WL.val (V.fT (j:=31) LB.h (OV.p rfl) (OV.p rfl)) rfl hz))
  | (apply gB.w 91;focus (intro ix hz;exact UA.yc ix rfl (fun _=>V.RQ (M:=4294967296) (OV.p rfl) (OV.p rfl)) hz))
  )
  | (apply aO.s 98;focus (intro h;exact WL.nil h))
  | (apply aO.s 99;focus (intro h;exact WL.mv rfl rfl h))
  | (apply aO.s 97;focus (intro h;exact WC.sr h))
  | (apply aO.s 109;focus (intro h;exact WL.sg rfl rfl h))
  | apply aO.m2 103 109 98
  | (apply aO.s 78;focus (intro h;exact WC.seq h))
  | apply aO.m2 101 97 99
  | (apply aO.s 113;focus (intro h;exact WC.region h))
  | (apply aO.s 105;focus (intro h;exact WC.skip h))
  | apply aO.m3 100 103 126 68
  | (apply aO.s 117;focus (intro h;exact WC.block h))
  | apply aO.m2 114 78 101
  | apply aO.m2 104 113 99
  | (apply aO.s 69;focus (intro h;exact WC.cond rfl (And.left h) (And.right h)))
  | apply aO.m2 106 103 101
  | apply aO.m2 102 103 114
  | apply aO.m2 41 105 78
  | apply aO.m2 107 98 69
  | apply aO.m2 66 98 78
  | (apply aO.w 108;focus (intro ix h;exact WA.tI ix rfl (V.move (OV.p rfl)) h))
  | apply aO.m2 72 41 117
  | (apply aO.w 110;focus (intro ix h;exact WA.oI ix rfl h))
  | (apply aO.s 82;focus (intro h;exact WC.exit h))
  | (apply aO.s 111;focus (intro h;exact WL.val (V.len (t:=0) zx.h (OV.p rfl)) rfl h))
  | apply aO.m3 33 99 126 90
  | apply aO.m2 116 103 78
  | apply aO.m4 59 126 113 126 79
  | (apply aO.s 118;focus (intro h;exact WL.iH tH.h (OV.p rfl) (OV.p rfl) h))
  | (apply aO.s 119;focus (intro hz;exact WL.ad3 hz))
  | apply aO.m2 120 103 97
  | (apply aO.s 121;focus (intro h;exact WL.val (V.ji y9.h (OV.p rfl)) rfl h))
  | apply aO.m2 122 99 99
  | apply aO.m2 67 33 109
  | apply aO.m2 68 109 100
  | (apply aO.w 70;focus (intro ix h;exact UA.yc ix rfl (fun _=>V.move (OV.p rfl)) h))
  | (apply aO.s 77;focus (intro h;exact WA.fin h))
  | apply aO.m3 80 126 113 117
  | apply aO.m2 81 104 99
  | (apply aO.w 83;focus (intro ix h;exact WA.tI ix rfl (V.fieldAddr jf.h (OV.p rfl)) h))
  | apply aO.m2 84 98 97
  | (apply aO.s 89;focus (intro h;exact WL.bG (oj:=_) rfl rfl rfl GC.f (V.move (OV.p rfl)) rfl h))
  | apply aO.m2 48 106 99
  | apply aO.m2 49 72 101
  | apply aO.m3 51 98 126 68
  | apply aO.m3 52 103 126 79
  | (apply aO.s 56;focus (intro h;exact WL.bG (oj:=_) rfl rfl rfl GC.t (V.move (OV.p rfl)) rfl h))
  | (apply aO.s 36;focus (intro h;exact aG.qe))
  | (apply aO.s 42;focus (intro h;exact WL.val (V.not (OV.p rfl)) rfl h))
  | (apply aO.s 60;focus (intro h;exact WL.val (V.wU (j:=1) (OV.p rfl) (OV.p rfl)) rfl h))
  | (apply aO.s 62;focus (intro h;exact aG.qv h))
  | (apply aO.w 64;focus (intro ix h;exact WA.tI ix rfl (V.nilCheck (OV.p rfl)) h))
  | (apply aO.s 95;focus (intro hz;exact UA.fin (by clear hz;kernel_rfl) hz))
  | (apply aO.s 124;focus (intro hz;exact WL.sub (Sub.refl _) (fun w h=>h.p1) hz))
  | (apply aO.w 96;focus (intro ix h;exact UA.yc ix rfl (fun _=>V.assign (OV.p rfl)) h))
  )
 exact aO.z):X:=t.f h
end Go.Sl
namespace Go.Proofs.YtcedojacbhnbiaaGreat
open Go.Sl Go.RowKit Tryz List Nat
instance:ZnT prog 219 .u8 64:=⟨⟨_,zeroValue219,rfl⟩⟩
instance:ZnT prog 256 .u8 64:=⟨⟨_,zeroValue256,rfl⟩⟩
instance:ZnT prog 283 .u8 128:=⟨⟨_,zeroValue283,rfl⟩⟩
instance:ZnT prog 307 .u64 80:=⟨⟨_,zeroValue307,rfl⟩⟩
instance:ZnT prog 309 .u64 8:=⟨⟨_,zeroValue309,rfl⟩⟩
instance:ZnT prog 318 .u64 4:=⟨⟨_,zeroValue318,rfl⟩⟩
instance:ZnT prog 348 .u32 64:=⟨⟨_,zeroValue348,rfl⟩⟩
instance:ZnT prog 349 .u32 8:=⟨⟨_,zeroValue349,rfl⟩⟩
instance:ZnT prog 97 .u8 32:=⟨⟨_,zeroValue97,rfl⟩⟩
end Go.Proofs.YtcedojacbhnbiaaGreat
namespace Go.Sl
open Go.RowKit Go.BigFrame List Nat
theorem Ej{α:Type}:∀(l:List α) (k:Nat) (hk:k<l.length),Perm (l[k]::l.eraseIdx k) l
 | [],k,hk=>absurd hk (not_lt_zero _)
 | a::l,0,_=>Perm.refl _
 | a::l,k+1,hk=>(Perm.swap _ _ _).trans ((Ej l k (lt_of_succ_lt_succ hk)).cons a)
theorem Sat.VI{K w:World}{A:aA}{l H:List aA}(h:Sat K w (A::(l++H))):Sat K w (A::bN l::H) :=
 ⟨h.1,h.2.1,h.2.2.1,fun b hb B hB=>by
  rcases mem_cons.1 hB with rfl | hB
  ·rintro⟨C,hC,hf⟩;exact h.2.2.2.1 b hb C (mem_append_left _ hC) hf
  ·exact h.2.2.2.1 b hb B (mem_append_right _ hB),bS.all.2 h.2.tail⟩
theorem Sat.X7{K w:World}{A:aA}{l H:List aA}(h:Sat K w (A::bN l::H)):Sat K w (A::(l++H)) :=
 ⟨h.1,h.2.1,h.2.2.1,fun b hb B hB=>by
  rcases mem_append.1 hB with hB | hB
  ·exact fun hf=>h.2.2.2.1 b hb (bN l) (.head _) ⟨B,hB,hf⟩
  ·exact h.2.2.2.1 b hb B (.tail _ hB),bS.all.1 h.2.tail⟩
theorem Sat.agh{K w:World}{l l':List aA}(hp:Perm l l')(h:Sat K w l):Sat K w l':=⟨h.1,bS.perm hp h.2⟩
theorem Sat.Gc{K w:World}{l H:List aA}{k:Nat}(hk:k<l.length)(h:Sat K w (bN l::H)):Sat K w (l[k]::bN (l.eraseIdx k)::H) :=
 Sat.VI (Sat.agh ((Ej l k hk).symm.append_right H) h.Ga)
theorem Sat.KR{K w:World}{l H:List aA}{k:Nat}{A:aA}(hk:k<l.length)(h:Sat K w (A::bN (l.eraseIdx k)::H)):Sat K w (bN (l.set k A)::H):=by
 have yS:k<(l.set k A).length:=by rw[length_set];exact hk
 have hp:=Ej (l.set k A) k yS;rw[getElem_set_self,eraseIdx_set_eq] at hp;exact Sat.all (Sat.agh (hp.append_right H) h.X7)
section
variable{α:Type}{f:α→List Value}{s:Nat}
theorem sM(hf:∀x,(f x).length=s):∀l:List α,(l.flatMap f).length=l.length*s
 | []=>by simp
 | x::l=>by rw[flatMap_cons,length_append,hf,sM hf l,length_cons,succ_mul,Nat.add_comm]
theorem J7(hf:∀x,(f x).length=s):∀(l:List α) (k i:Nat) (x:α) (v:Value),l[k]? =some x→(f x)[i]? =some v→(l.flatMap f)[k*s+i]? =some v
 | [],k,i,x,v,h,_=>by simp at h
 | y::l,0,i,x,v,h,hi=>by
  simp only[getElem?_cons_zero,Option.some.injEq] at h;subst h;rw[flatMap_cons,Nat.zero_mul,Nat.zero_add,getElem?_append_left (List.getElem?_eq_some_iff.1 hi).1];exact hi
 | y::l,k+1,i,x,v,h,hi=>by
  have ih:=J7 hf l k i x v (by simpa using h) hi;rw[flatMap_cons,getElem?_append_right (by rw[hf,succ_mul];omega),hf,←ih];congr 1;rw[succ_mul];omega
theorem abT(hf:∀x,(f x).length=s):∀(l:List α) (k:Nat) (x y:α),l[k]? =some x→pU (l.flatMap f) (k*s) (f y)=(l.set k y).flatMap f:=fun l k x y h=>by
 have hk:=(List.getElem?_eq_some_iff.1 h).1;have h1:(k+1)*s≤l.length*s:=mul_le_mul_right _ hk;rw[succ_mul] at h1;rw[mU _ _ _ (by rw[hf,sM hf];exact h1),hf];have h2:l.set k y=l.take k++y::l.drop (k+1):=set_eq_take_append_cons_drop .. |>.trans (by rw[if_pos hk])
 have h3:∀j,j≤l.length→(l.flatMap f).take (j*s)=(l.take j).flatMap f∧(l.flatMap f).drop (j*s)=(l.drop j).flatMap f:=fun j hj=>by
  have e:l.flatMap f=(l.take j).flatMap f++(l.drop j).flatMap f:=by rw[←flatMap_append,take_append_drop]
  have e2:((l.take j).flatMap f).length=j*s:=by rw[sM hf,length_take,Nat.min_eq_left hj]
  rw[e];exact⟨take_left' e2,drop_left' e2⟩
 rw[h2,flatMap_append,flatMap_cons,(h3 k (Nat.le_of_lt hk)).1,show k*s+s=(k+1)*s by rw[succ_mul],(h3 (k+1) hk).2,append_assoc]
end
end Go.Sl
namespace Go.Sl
open Go.ChangeShapes Go.WideShapes Go.ChangeAt Go.RowKit List Nat
section
variable{H:Type}{enc:TypeId×Value→H}{P:Program}{W:World}
theorem aaU{α:Type}(n:Nat)(p:Nat→α→Prop)(h:∀i,i<n→∃a,p i a):∃l:List α,l.length=n∧∀i a,l[i]? =some a→p i a:=by
 induction n with
 | zero=>exact⟨[],rfl,fun i a hi=>by simp at hi⟩
 | succ n ih =>
  obtain⟨l,h1,h2⟩:=ih fun i hi=>h i ay;obtain⟨a,ha⟩:=h n ay;refine⟨l++[a],by simp[h1],fun i b hi=> ?_⟩;rcases Nat.lt_or_ge i l.length with oJ | hge
  ·exact h2 i b (by rwa [getElem?_append_left oJ] at hi)
  ·rw[getElem?_append_right hge] at hi;by_cases h0:i-l.length=0
   ·have :i=n:=by omega
    subst this;rw[h0] at hi;simp at hi;subst hi;exact ha
   ·rw[getElem?_eq_none (by simp;omega)] at hi;cases hi
theorem RV{s:Nat}{l:List (List Value)}(hs:∀x∈l,x.length=s){k:Nat}{v:Value}(h:l.flatten[k]? =some v):∃x,l[k/s]? =some x∧x[k%s]? =some v:=by
 induction l generalizing k with
 | nil=>simp at h
 | cons x l ih =>
  have hx:=hs x (.head _);rw[flatten_cons] at h;rcases Nat.lt_or_ge k x.length with oJ | hge
  ·rw[getElem?_append_left oJ] at h;refine⟨x, ?_, ?_⟩
   ·rw[div_eq_of_lt ay];rfl
   ·rw[mod_eq_of_lt ay];exact h
  ·rw[getElem?_append_right hge] at h;obtain⟨y,h1,h2⟩:=ih (fun z hz=>hs z (.tail _ hz)) h;have h0:0<s:=by
    rcases eq_zero_or_pos s with h | h
    ·subst h;obtain hy:=hs y (.tail _ (mem_of_getElem? h1));rw[eq_nil_of_length_eq_zero hy] at h2;simp at h2
    ·exact h
   refine⟨y, ?_, ?_⟩
   ·rw[hx] at h1;rw[show k/s=(k-s)/s+1 by rw[←add_div_right _ h0];congr 1;omega];exact h1
   ·rw[hx] at h2;rw[show k%s=(k-s)%s by rw[←add_mod_right (k-s) s];congr 1;omega];exact h2
theorem Qf{s:Nat}{l:List (List Value)}(hs:∀x∈l,x.length=s):l.flatten.length=l.length*s:=by
 induction l with
 | nil=>simp
 | cons x l ih=>rw[flatten_cons,length_append,ih (fun z hz=>hs z (.tail _ hz)),hs x (.head _),length_cons,Nat.add_mul];omega
theorem TA{r:Reach}{base:Nat}{t e s:TypeId}{v:Value}{d:DataW H}{p:List MemPlace}(ht:P.underlying t=some (.slice e))(hc:P.cellsOf e=s)(zZ:Value.okWide P W r base t v)
 (h:DataW.Trod enc P W 0 (fun _=>true) true t v d p) :
 ∃ A m cap,∃css:List (List Value),v= .slice A m cap∧css.length=m∧m≤maxLen∧(∀cs∈css,cs.length=s∧∃n y,DataW.trod enc P W 0 (fun _=>true) true n e cs=some y)∧Seq W [Old W] A m s css.flatten:=by
 obtain⟨a0,len,cap,rfl⟩:=okWide_slice ht zZ;obtain⟨fuel,hf⟩:=h;rcases DataW.trod_slice ht hf with ⟨p8,_⟩ | ⟨a,len',cap',elems,rest,n,_,p8,_,_,hl,hm,hlen,hel,_,_⟩
 ·simp[Value.cells] at p8;obtain⟨rfl,rfl,rfl⟩:=p8;exact⟨none,0,0,[],rfl,rfl,zero_le _,fun x hx=>by (cases hx),⟨by simp,fun i v hi=>by simp at hi⟩⟩
 ·simp[Value.cells] at p8;obtain⟨rfl,rfl,rfl⟩:=p8;obtain⟨css,h1,h2⟩:=aaU len (fun i (cs:List Value)=>(cs.length=s∧∃n y,DataW.trod enc P W 0 (fun _=>true) true n e cs=some y)∧∀j v,cs[j]? =some v→W.cell? (a.add (i*s+j))=some v) fun i hi=>by
   have h3:=hel i hi;have h4:elems[i]? =some elems[i]:=getElem?_eq_getElem ay;rw[h4,Option.bind_eq_some_iff] at h3;obtain⟨cs,h5,h6⟩:=h3;rw[hc] at h5;obtain⟨k1,k2,k3⟩:=World.cells?_some h5;refine⟨cs,⟨?_,n,_,h6⟩,fun j v hj=> ?_⟩
   ·omega
   ·have hjs:j<s:=by
     rcases Nat.lt_or_ge j cs.length with h | h
     ·omega
     ·rw[getElem?_eq_none h] at hj;cases hj
    rw[←add_add,k3 j ay,hj]
  refine⟨some a,len,cap,css,rfl,h1,by omega,fun cs p8=> ?_,Qf (fun x hx=> ?_) |>.trans (by rw[h1]),fun i v hi w hw=> ?_⟩
  ·obtain⟨i,hi⟩:=getElem?_of_mem p8;exact (h2 i cs hi).1
  ·obtain⟨i,hi⟩:=getElem?_of_mem hx;exact (h2 i x hi).1.1
  ·obtain⟨x,k1,k2⟩:=RV (s:=s) (fun x hx=>by
    obtain⟨i,hi⟩:=getElem?_of_mem hx;exact (h2 i x hi).1.1) hi
   have h3:=(h2 _ x k1).2 _ v k2;rw[Nat.mul_comm,div_add_mod] at h3;exact⟨_,rfl,(hw.below.cell (World.block_lt_of_cell? _ _ h3)).trans h3⟩
theorem Dg{t:TypeId}{k:IntKind}{fuel:Nat}{cs:List Value}{x:DataW H×List MemPlace}(ht:P.underlying t=some (.int k))(hf:DataW.trod enc P W 0 (fun _=>true) true fuel t cs=some x):∃i,cs=[.int k i]∧k.min≤i∧i≤k.max:=by grind [DataW.trod_int,Lit.wf]
end
end Go.Sl
namespace Go.Sl
open Go.RowKit Go.BigFrame Go.ChangeShapes Go.WideShapes List Nat
def bytesOf(s:ByteArray):List Int:=s.data.toList.map fun b=>(b.toNat:Int)
theorem bytesOf_length(s:ByteArray):(bytesOf s).length=s.size:=by simp_all [bytesOf,length_map,Array.length_toList]
theorem oH(s:ByteArray):bQ (bytesOf s):=fun x hx=>by
 obtain⟨b,_,rfl⟩:=mem_map.1 hx;have :=b.toNat_lt;omega
theorem Ko(s:ByteArray):strOfNums (bytesOf s)=s:=by
 unfold strOfNums bytesOf;rw[map_map];obtain⟨⟨l⟩⟩:=s;congr 1;show (List.map _ l).toArray=l.toArray;congr 1
 conv=>rhs;rw[←map_id l]
 apply map_congr_left;intro b _;show UInt8.ofNat ((b.toNat:Int)).toNat=b;simp
section
variable{Mo:Mode}{P:Program}{K:World}{n:Nat}{Q:fG}{e:Env}{H:List aA}{ty:TypeId}{pos:String}{af:Array Edge}{ops:Array Oper}{rest:List Oper}
theorem WL.aaw{d:Nat}{x:Operand}{S T E:Nat}{s:ByteArray}{k:List Int}(hk:k=bytesOf s)(hS:P.underlying S=some .string)(hT:P.underlying T=some (.slice E))(hE:P.underlying E=some (.int .u8))(hx:OV true e x (.string s))(hd:blt d n=true)
 (h:∀b cap cs,s.size≤cap→(∀H':List aA,Seq K (pK b E cs::H') (some ⟨b,0,none⟩) s.size 1 (ints .u8 k))→WL Mo P K n ops rest Q ((d,.slice (some ⟨b,0,none⟩) s.size cap)::e) (pK b E cs::H)) :
 WL Mo P K n ops (⟨some d,.convert S T x,ty,pos,af,none⟩::rest) Q e H:=by
 refine WL.SS (R:=fun u H'=>∃b cap cs,u= .slice (some ⟨b,0,none⟩) s.size cap∧H'=pK b E cs::H∧s.size≤cap∧∀H':List aA,Seq K (pK b E cs::H') (some ⟨b,0,none⟩) s.size 1 (ints .u8 k)) (fun a w ha hw=> ?_) hd (fun u H' ⟨b,cap,cs,e1,e2,e3,e4⟩=>by subst e1 e2;exact h b cap cs e3 e4);have hr:=Lib.run_convert_string_bytes (P:=P) w S T E s hS hT hE;refine⟨_,Lib.bytesWorld w E s,pK w.heap.size E (Lib.bytesCells w E s).toList::H, ?_,⟨hw.1.grow ?_ ?_ ?_ ?_,hw.2.push ?_ (fun b hb=>Lib.bytesWorld_at_old w E s b hb) ⟨((Lib.bytesCells w E s).size,(Lib.bytesCells w E s).size+1), ?_⟩ (fun b hb=> ?_)⟩,w.heap.size,grownCap w s.size 0 E,_,rfl,rfl,grownCap_ge w s.size 0 E,fun H'=>⟨?_,fun i v hi=> ?_⟩⟩
 ·show ((do pure (Next.value (←convert S T (a.eval x)))):Sem Next).run P w=_;rw[hx.ev rfl ha];simp[hr]
 ·simp[Lib.bytesWorld,World.freeze]<;>rfl
 ·simp[Lib.bytesWorld,World.freeze]<;>rfl
 ·simp[Lib.bytesWorld,World.freeze]<;>rfl
 ·rw[Lib.bytesWorld_size];omega
 ·rw[Lib.bytesWorld_size];omega
 ·have :=Lib.bytesWorld_at_new w E s
  simpa using this
 ·have hb:b=w.heap.size:=hb;rw[Lib.bytesWorld_size];omega
 ·rw[hk,bY,bytesOf_length,Nat.mul_one]
 ·rw[hk] at hi;have Gb:i<s.size:=by
   rcases Nat.lt_or_ge i s.size with h | h
   ·exact h
   ·rw[getElem?_eq_none (by rw[bY,bytesOf_length];exact h)] at hi;cases hi
  have hg:(Lib.bytesCells w E s).toList[i]? =some v:=by
   rw[←hi];unfold Lib.bytesCells ints bytesOf;have Kl:s.data.size=s.size:=rfl;have aki:i<s.data.toList.length:=by rw[Array.length_toList];exact Gb
   simp[Array.getElem?_append,Kl,Gb];rw[getElem?_append_left (by rw[length_map];exact aki),getElem?_map,getElem?_eq_getElem aki];rfl
  have :=Rd.afO (K:=K) (H:=H') (b:=w.heap.size) (T:=E) (o:=i) hg
  simpa [jR] using this
end
def strs(ss:List ByteArray):List Value:=ss.map Value.string
theorem Seq.TM{K:World}{H:List aA}{A:Option Addr}{m i:Nat}{ss:List ByteArray}(h:Seq K H A m 1 (strs ss))(hi:i<m):Rd K H (A.map (·.add (i*1))) (.string (ss.getD i ByteArray.empty)):=by
 have hl:ss.length=m:=by have :=h.len;simpa [strs] using this
 have :=h.rd i (.string (ss.getD i ByteArray.empty)) (by simp[strs,getD,hl,hi])
 rwa [Nat.mul_one]
theorem vY{H:Type}{enc:TypeId×Value→H}{P:Program}{W:World}{r:Reach}{base:Nat}{t e:TypeId}{v:Value}{d:DataW H}{p:List MemPlace}(ht:P.underlying t=some (.slice e))(he:P.underlying e=some .string)
 (hc:P.cellsOf e=1) (zZ:Value.okWide P W r base t v) (h:DataW.Trod enc P W 0 (fun _=>true) true t v d p) :
 ∃ A m cap ss,v= .slice A m cap∧Seq W [Old W] A m 1 (strs ss)∧ss.length=m∧m≤maxLen∧(∀s∈ss,s.size≤maxLen):=by
 obtain⟨a0,len,cap,rfl⟩:=okWide_slice ht zZ;obtain⟨fuel,hf⟩:=h;rcases Deep.open_strs ht he hc hf with ⟨p8,hx⟩ | ⟨a,len',cap',m,Sx,p8,_,hl,hm,hmm,hx,J8⟩
 ·simp[Value.cells] at p8;obtain⟨rfl,rfl,rfl⟩:=p8;exact⟨none,0,0,[],rfl,Seq.nil,rfl,zero_le _,fun s hs=>(by cases hs)⟩
 ·simp[Value.cells] at p8;obtain⟨rfl,rfl,rfl⟩:=p8;simp only[if_true] at hmm;refine⟨some a,len,cap,(List.range len).map Sx,rfl,⟨by simp[strs],fun i v hi w hw=> ?_⟩,by simp,by omega,fun s hs=> ?_⟩
  ·have Gb:i<len:=by
    rcases Nat.lt_or_ge i len with h | h
    ·exact h
    ·rw[getElem?_eq_none (by simp[strs];exact h)] at hi;cases hi
   have h1:=(J8 i ay).1;have hb:=World.block_lt_of_cell? _ _ h1;refine⟨_,rfl,((hw.below.cell hb).trans h1).trans ?_⟩;rw[←hi];simp[strs,Gb]
  ·obtain⟨i,hi,rfl⟩:=mem_map.1 hs;exact (J8 i (by have :=mem_range.1 hi;omega)).2
end Go.Sl
