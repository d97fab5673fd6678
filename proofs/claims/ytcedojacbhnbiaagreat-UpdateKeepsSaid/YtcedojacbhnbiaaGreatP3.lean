import Derived.Test.YtcedojacbhnbiaaGreatP2
import Derived.Lib.ConvBytes
import Derived.Deep.Strs
set_option autoImplicit true
set_option linter.all false
set_option maxRecDepth 20000
set_option relaxedAutoImplicit true
namespace Go.Sl
open Go.RowKit Go.Proofs.YtcedojacbhnbiaaGreat List Nat
abbrev PE:=Nat×Nat×Value×Bool
structure AE where
 i:Nat
 d:Nat
 A:Nat→aH
 s:Nat
 B:Nat→aH
structure ZE where
 s:Nat
 A:aH
 B:aH
def dep(af:Array Edge)(k:Nat):Bool:=af.toList.any fun g=>Region.binds .any g&&beq g.on k
def pV(af:Array Edge)(ps:List PE):Env:=(ps.filter fun p=>dep af p.1).map fun p=>(p.2.1,p.2.2.1)
theorem ab2(h:dep af k=true):∃g∈af,Region.binds .any g=true∧g.on=k:=by
 unfold dep at h;obtain⟨g,h1,h2⟩:=any_eq_true.1 h;simp only[Bool.and_eq_true] at h2;exact⟨g,by simpa using h1,h2.1,eq_of_beq_eq_true h2.2⟩
theorem tQ:look (e++e') t=(look e t).or (look e' t):=by
 induction e with
 | nil=>rfl
 | cons p e ih =>
  obtain⟨k,v⟩:=p;simp only[cons_append,look];cases beq k t<;>simp[ih]
theorem Sub.app(h:Sub e e'):Sub (e++e') e':=fun t v hv=>by
 rw[tQ] at hv;cases hl:look e t with
 | none=>rw[hl] at hv;simpa using hv
 | some u=>rw[hl] at hv;simp at hv;subst hv;exact h t u hl
theorem iE(h:Sub X e):look ((d,v)::(X++e)) t=if d=t then some v else look e t:=by
 simp only[look];by_cases e1:d=t
 ·subst e1;simp
 ·have :beq d t=false:=by cases h:beq d t with | false=>rfl | true=>exact absurd (eq_of_beq_eq_true h) e1
  rw[this,cond_false,if_neg e1,tQ];cases hl:look X t with
  | none=>simp
  | some u=>simp[h t u hl]
theorem zD(h:Sub X e):look (X++e) t=look e t:=by
 rw[tQ];cases hl:look X t with
 | none=>simp
 | some u=>simp[h t u hl]
theorem mq{α β:Type}{f:α→β}:∀ {l:List α},(l.map f).Nodup→∀ {x y:α},x∈l→y∈l→f x=f y→x=y
 | z::l,hn,x,y,hx,hy,h=>by
  simp only[map_cons,nodup_cons] at hn;rcases mem_cons.1 hx with h1 | h1<;>rcases mem_cons.1 hy with h2 | h2
  ·rw[h1,h2]
  ·exact absurd (by rw[←h1,h];exact mem_map_of_mem (f:=f) h2) hn.1
  ·exact absurd (by rw[←h2,←h];exact mem_map_of_mem (f:=f) h1) hn.1
  ·exact mq hn.2 h1 h2 h
theorem Sub.two(h1:Sub e1 e)(h2:Sub e2 e):Sub (e1++e2) e:=fun t v hv=>by
 rw[tQ] at hv;cases hl:look e1 t with
 | none=>rw[hl] at hv;exact h2 t v (by simpa using hv)
 | some u=>rw[hl] at hv;simp at hv;subst hv;exact h1 t u hl
theorem Sub.map{α:Type}{f:α→Nat×Value}{l:List α}(h:∀x∈l,look e (f x).1=some (f x).2):Sub (l.map f) e:=by
 induction l with
 | nil=>exact Sub.nil e
 | cons x l ih=>exact Sub.cons (h x (.head _)) (ih fun y hy=>h y (.tail _ hy))
def adn(b:Bool)(eo e0:Env):Env:=if b then eo++e0 else e0
def Iw(ds:List Deferred)(P:Program)(K:World)(n:Nat)(ops:Array Oper)(e0 eo:Env)(F A0:List aH)(ps:List PE)(p:PE):Prop :=
 ∃ o,ops[p.1]? =some o∧∃qs,(∀q∈qs,q∈ps)∧∀r H' Q',(∀w,Sat K w H'→Sat K w (if p.2.2.2 then A0 else F))→WL ⟨none,ds⟩ P K n ops [] Q' ((p.2.1,p.2.2.1)::(pV o.after qs++(adn p.2.2.2 eo e0++r))) H'→WL ⟨none,ds⟩ P K n ops [o] Q' (pV o.after qs++(adn p.2.2.2 eo e0++r)) H'
def abM(ds:List Deferred)(P:Program)(K:World)(n:Nat)(ops:Array Oper)(e0:Env)(x:AE):Prop :=
 ∃ o,ops[x.i]? =some o∧∀r H' Q',(∀b,WL ⟨none,ds⟩ P K n ops [] Q' ((x.d,ptr b 0)::(e0++r)) (x.A b::H'))→WL ⟨none,ds⟩ P K n ops [o] Q' (e0++r) H'
def Lu(ds:List Deferred)(P:Program)(K:World)(n:Nat)(ops:Array Oper)(e0:Env)(ps:List PE)(x:AE):Prop :=
 ∃ o,ops[x.s]? =some o∧dep o.after x.i=true∧∃qs,(∀q∈qs,q∈ps)∧∀r b H' Q',WL ⟨none,ds⟩ P K n ops [] Q' ((x.d,ptr b 0)::(pV o.after qs++(e0++r))) (x.B b::H')→WL ⟨none,ds⟩ P K n ops [o] Q' ((x.d,ptr b 0)::(pV o.after qs++(e0++r))) (x.A b::H')
def Jd(ds:List Deferred)(P:Program)(K:World)(n:Nat)(ops:Array Oper)(e0:Env)(ps:List PE)(z:ZE):Prop :=
 ∃ o,ops[z.s]? =some o∧∃qs,(∀q∈qs,q∈ps)∧∀r H' Q',WL ⟨none,ds⟩ P K n ops [] Q' (pV o.after qs++(e0++r)) (z.B::H')→WL ⟨none,ds⟩ P K n ops [o] Q' (pV o.after qs++(e0++r)) (z.A::H')
def uo{α:Type}(p:α→Prop):List α→Prop
 | []=>True
 | x::l=>p x∧uo p l
theorem uo.c{α:Type}{p:α→Prop}{x:α}{l:List α}(h:p x)(t:uo p l):uo p (x::l):=⟨h,t⟩
theorem uo.mem{α:Type}{p:α→Prop}:∀ {l:List α},uo p l→∀x∈l,p x
 | y::l,h,x,hx=>by
  rcases mem_cons.1 hx with rfl | hx
  ·exact h.1
  ·exact uo.mem h.2 x hx
def sK(x:AE)(listed:Array Bool)(bs:Nat→Nat):aH:=if listed.getD x.s false then x.B (bs x.i) else if listed.getD x.i false then x.A (bs x.i) else Zt
def uh(xs:List AE)(listed:Array Bool)(bs:Nat→Nat):List aH:=xs.map fun x=>sK x listed bs
def oL(zs:List ZE)(listed:Array Bool):List aH:=zs.map fun z=>if listed.getD z.s false then z.B else z.A
theorem QO:∀ {zs:List ZE},z∈zs→(zs.map (·.s)).Nodup→(∀y∈zs,y.s≠z.s→L'.getD y.s false=listed.getD y.s false)→∃l1 l2,oL zs listed=l1++(if listed.getD z.s false then z.B else z.A)::l2∧oL zs L'=l1++(if L'.getD z.s false then z.B else z.A)::l2
 | y::zs,hz,vZ,ho=>by
  simp only[map_cons,nodup_cons] at vZ;rcases mem_cons.1 hz with rfl | hz
  ·refine⟨[],oL zs listed,rfl, ?_⟩;show _::oL zs L'=_::oL zs listed;congr 1;unfold oL;apply map_congr_left;intro q hq;rw[ho q (.tail _ hq) (fun e=>vZ.1 (e ▸ mem_map_of_mem (f:=fun x:ZE=>x.s) hq))]
  ·obtain⟨l1,l2,h1,h2⟩:=QO hz vZ.2 fun q hq=>ho q (.tail _ hq);refine⟨(if listed.getD y.s false then y.B else y.A)::l1,l2, ?_, ?_⟩
   ·show _::oL zs listed=_;rw[h1];rfl
   ·show (if L'.getD y.s false then y.B else y.A)::oL zs L'=_;rw[h2,ho y (.head _) (fun e=>vZ.1 (e ▸ mem_map_of_mem (f:=fun x:ZE=>x.s) hz))];rfl
structure StU(ops:Array Oper)(zs:List ZE)(ps:List PE)(xs:List AE)(e0 eo:Env)(listed:Array Bool)(bs:Nat→Nat)(e:Env):Prop where
 base:Sub e0 e
 p:∀p∈ps,listed.getD p.1 false=true→look e p.2.1=some p.2.2.1
 a:∀x∈xs,listed.getD x.i false=true→look e x.d=some (ptr (bs x.i) 0)
 c:∀x∈xs,listed.getD x.s false=true→listed.getD x.i false=true
 f:(∀p∈ps,(look eo p.2.1).isSome=true→listed.getD p.1 false=false)→Sub eo e
 g:∀p∈ps,(look eo p.2.1).isSome=true→listed.getD p.1 false=true→∀o,ops[p.1]? =some o→∀k,dep o.after k=true→listed.getD k false=true
 z:∀z∈zs,listed.getD z.s false=true→∀o,ops[z.s]? =some o→∀k,dep o.after k=true→listed.getD k false=true
def ahg(ops:Array Oper)(e0 eo:Env)(ps:List PE)(xs:List AE)(zs:List ZE):Bool :=
 decide ((ps.map (·.2.1)++xs.map (·.d)).Nodup)&&(ps.map (·.2.1)++xs.map (·.d)).all (fun d=>(look e0 d).isNone)&&decide ((xs.map (·.i)++xs.map (·.s)).Nodup) &&
 (List.range ops.size).all (fun k=>(ps.any (fun p=>beq p.1 k)||xs.any (fun x=>beq x.i k)||xs.any (fun x=>beq x.s k)||zs.any (fun z=>beq z.s k))&&((ops[k]?).map fun o=>o.after.toList.all fun g=> !Region.binds .any g||blt g.on k).getD true)
 && ps.all (fun p=>xs.all fun x=> !beq p.1 x.i&& !beq p.1 x.s)&&decide ((ps.map (·.1)).Nodup)&&decide ((zs.map (·.s)).Nodup)&&ps.all (fun p=>zs.all fun z=> !beq p.1 z.s)&&xs.all (fun x=>zs.all fun z=> !beq x.i z.s&& !beq x.s z.s)&&ps.all (fun p=> !p.2.2.2||zs.all fun z=>((ops[z.s]?).map fun o=>dep o.after p.1).getD false)&&ps.all (fun p=> !p.2.2.2||ps.all fun q=>(look eo q.2.1).isNone||((ops[q.1]?).map fun o=>dep o.after p.1).getD false)&&xs.all (fun x=>(look eo x.d).isNone)
theorem filter_lt{α:Type}{p q:α→Bool}:∀ {l:List α},(∀x∈l,q x=true→p x=true)→(∃x∈l,p x=true∧q x=false)→(l.filter q).length<(l.filter p).length
 | [],_,⟨x,hx,_⟩=>by cases hx
 | y::l,h,⟨x,hx,h1,h2⟩=>by
  have hle:∀ {l:List α},(∀x∈l,q x=true→p x=true)→(l.filter q).length≤(l.filter p).length:=by
   intro l
   induction l with
   | nil=>intro _;exact Nat.le_refl _
   | cons z l ih =>
    intro h;have h3:=ih fun x hx=>h x (.tail _ hx);have h4:=h z (.head _);cases hq:q z with
    | true=>simp[hq,h4 hq,h3]
    | false=>cases hp:p z<;>simp[hq,hp]<;>omega
  have hl:=hle (l:=l) fun x hx=>h x (.tail _ hx);rcases mem_cons.1 hx with rfl | hx
  ·simp[h1,h2];omega
  ·have h3:=filter_lt (l:=l) (fun x hx=>h x (.tail _ hx)) ⟨x,hx,h1,h2⟩;have h4:=h y (.head _);cases hq:q y with
   | true=>simp[hq,h4 hq];exact h3
   | false=>cases hp:p y<;>simp[hq,hp]<;>omega
theorem NJ:∀ {xs:List AE},x∈xs→(xs.map (·.i)).Nodup→(∀y∈xs,y.i≠x.i→sK y L' bs'=sK y listed bs)→∃l1 l2,uh xs listed bs=l1++sK x listed bs::l2∧uh xs L' bs'=l1++sK x L' bs'::l2
 | y::xs,hx,vZ,ho=>by
  simp only[map_cons,nodup_cons] at vZ;rcases mem_cons.1 hx with rfl | hx
  ·refine⟨[],uh xs listed bs,rfl, ?_⟩;show _::uh xs L' bs'=_::uh xs listed bs;congr 1;unfold uh;apply map_congr_left;intro z hz;exact ho z (.tail _ hz) (fun e=>vZ.1 (e ▸ mem_map_of_mem (f:=fun x:AE=>x.i) hz))
  ·obtain⟨l1,l2,h1,h2⟩:=NJ hx vZ.2 fun z hz=>ho z (.tail _ hz);refine⟨sK y listed bs::l1,l2, ?_, ?_⟩
   ·show _::uh xs listed bs=_;rw[h1];rfl
   ·show sK y L' bs'::uh xs L' bs'=_;rw[h2,ho y (.head _) (fun e=>vZ.1 (e ▸ mem_map_of_mem (f:=fun x:AE=>x.i) hx))];rfl
theorem Sat.adD(h:Sat K w (A::(l1++Zt::l2))):Sat K w (l1++A::l2):=by
 have h1:Sat K w (Zt::(l1++A::l2)):=⟨h.1,bO.perm (by
  refine Perm.trans (perm_middle (a:=A) (l₁:=[]) (l₂:=l1++Zt::l2)) ?_;simp only[nil_append];refine Perm.trans (Perm.cons A (perm_middle (a:=Zt) (l₁:=l1) (l₂:=l2))) (Perm.trans (Perm.swap Zt A (l1++l2)) ?_);exact Perm.cons Zt (perm_middle (a:=A) (l₁:=l1) (l₂:=l2)).symm) h.2⟩
 exact h1.tail
theorem Sat.mid(h:Sat K w (l1++A::l2)):Sat K w (A::(l1++l2)):=⟨h.1,bO.perm perm_middle h.2⟩
theorem Sat.ae6(h:Sat K w (A::(l1++l2))):Sat K w (l1++A::l2):=⟨h.1,bO.perm perm_middle.symm h.2⟩
theorem WA.sub(hE:Sub E e)(hH:∀w,Sat K w H→Sat K w H')(h:WA Mo P K n F0 ops Q fuel listed E H'):WA Mo P K n F0 ops Q fuel listed e H:=fun a w ha hw=>h a w (ha.sub hE) (hH w hw)
theorem iN{L:Array Bool}(h:(L.setIfInBounds j true).getD k false=true):k=j∨L.getD k false=true:=by
 by_cases e:j=k
 ·exact .inl e.symm
 ·rw[getD_set_ne false e] at h;exact .inr h
theorem NA(hp:uo (Iw ds P K n ops e0 eo F A0 ps) ps)(ha:uo (abM ds P K n ops e0) xs)(hs:uo (Lu ds P K n ops e0 ps) xs)(hz:uo (Jd ds P K n ops e0 ps) zs)(hc:ahg ops e0 eo ps xs zs=true)(hA0:∀w,Sat K w (zs.map (·.A)++F)→Sat K w A0)
 (sW:∀bs:Nat→Nat,Q ⟨none,ds⟩ .normal (ps.map (fun p=>(p.2.1,p.2.2.1))++(xs.map (fun x=>(x.d,ptr (bs x.i) 0))++e0)) (zs.map (·.B)++(xs.map (fun x=>x.B (bs x.i))++F))) :
 ∀ (fuel:Nat) (listed:Array Bool) (bs:Nat→Nat) (e:Env),listed.size=ops.size→((List.range ops.size).filter fun k=> !listed.getD k true).length≤fuel→StU ops zs ps xs e0 eo listed bs e →
  WA ⟨none,ds⟩ P K n [] ops Q fuel listed e (oL zs listed++(uh xs listed bs++F)):=by
 simp only[ahg,Bool.and_eq_true,decide_eq_true_eq,all_eq_true,mem_range,Bool.or_eq_true,Bool.not_eq_true'] at hc;obtain⟨⟨⟨⟨⟨⟨⟨⟨⟨⟨⟨vZ,hfr⟩,abT⟩,ajK⟩,hpa⟩,am5⟩,amN⟩,hpz⟩,hxz⟩,aoc⟩,amT⟩,Dv⟩:=hc;have aqB:∀ {L:Array Bool} {k:Nat},L.getD k false=true→k<L.size:=fun {L k} h=>by
  rcases Nat.lt_or_ge k L.size with h' | h'
  ·exact h'
  ·simp[Array.getElem?_eq_none h'] at h
 intro fuel
 induction fuel with
 | zero =>
  intro listed bs e JQ alo dL;have nT:∀k,k<ops.size→listed.getD k true=true:=fun k hk=>by
   rcases Bool.eq_false_or_eq_true (listed.getD k true) with h | h
   ·exact h
   ·have h1:k∈(List.range ops.size).filter fun k=> !listed.getD k true:=mem_filter.2 ⟨mem_range.2 hk,by rw[h];rfl⟩;rw[eq_nil_of_length_eq_zero (le_zero.1 alo)] at h1;cases h1
  have Vz:∀k,k<ops.size→listed.getD k false=true:=fun k hk=>by
   have :=nT k hk;simp[Array.getD,JQ,hk] at this ⊢;exact this
  have KC:Region.ready .any ops listed=[]:=by
   cases hr:Region.ready .any ops listed with
   | nil=>rfl
   | cons j l =>
    have h1:j∈Region.ready .any ops listed:=by rw[hr];exact .head _
    obtain⟨h2,o,h3,_⟩:=mem_ready.1 h1;rw[nT j (Array.getElem?_eq_some_iff.1 h3).1] at h2;cases h2
  refine WA.sub (E:=ps.map (fun p=>(p.2.1,p.2.2.1))++(xs.map (fun x=>(x.d,ptr (bs x.i) 0))++e0)) (H':=zs.map (·.B)++(xs.map (fun x=>x.B (bs x.i))++F)) ?_ ?_ (WA.done KC (fun w h=>⟨h.1,trivial⟩) (sW bs))
  ·refine Sub.two (Sub.map fun p BA=>dL.p p BA ?_) (Sub.two (Sub.map fun x hx=>dL.a x hx ?_) dL.base)
   ·obtain⟨o,h1,_⟩:=hp.mem p BA;exact Vz _ (Array.getElem?_eq_some_iff.1 h1).1
   ·obtain⟨o,h1,_⟩:=ha.mem x hx;exact Vz _ (Array.getElem?_eq_some_iff.1 h1).1
  ·intro w hw;have :uh xs listed bs=xs.map (fun x=>x.B (bs x.i)):=by
    unfold uh sK;apply map_congr_left;intro x hx;obtain⟨o,h1,_⟩:=hs.mem x hx;rw[Vz _ (Array.getElem?_eq_some_iff.1 h1).1];rfl
   have h2:oL zs listed=zs.map (·.B):=by
    unfold oL;apply map_congr_left;intro z JL;obtain⟨o,h1,_⟩:=hz.mem z JL;rw[Vz _ (Array.getElem?_eq_some_iff.1 h1).1];rfl
   rw[←this,←h2];exact hw
 | succ fuel ih =>
  intro listed bs e JQ alo dL;cases hr:Region.ready .any ops listed with
  | nil =>
   have nT:∀k,k<ops.size→listed.getD k true=true:=by
    intro k
    induction k using Nat.strongRecOn with
    | ind k ihk =>
     intro hk;rcases Bool.eq_false_or_eq_true (listed.getD k true) with h | h
     ·exact h
     ·have h1:k∈Region.ready .any ops listed:=mem_ready.2 ⟨h,ops[k],by simp[hk],fun g hg hb=>by
       have h2:=(ajK k hk).2;rw[Array.getElem?_eq_getElem hk,Option.map_some,Option.getD_some,all_eq_true] at h2;have h3:=h2 g (by simpa using hg);rw[hb] at h3;have h4:g.on<k:=by simpa using h3
       have h5:=ihk g.on h4 ay;have :g.on<listed.size:=ay;simp[Array.getD,this] at h5 ⊢;exact h5⟩
      rw[hr] at h1;cases h1
   have hz:((List.range ops.size).filter fun k=> !listed.getD k true).length≤fuel:=by
    rw[filter_eq_nil_iff.2 (fun k hk=>by rw[nT k (mem_range.1 hk)];simp)];exact zero_le _
   have h1:=ih listed bs e JQ hz dL;intro a w ha' hw;have h2:=h1 a w ha' hw;cases fuel with
   | zero=>exact⟨h2.1,fun _=>h2.2.2,by rw[hr];simp⟩
   | succ fuel=>exact⟨h2.1,h2.2.1,by rw[hr];simp⟩
  | cons j0 l0 =>
   refine WA.step (fun w h=>⟨h.1,trivial⟩) hr rfl fun j hj=> ?_;have hj':j∈Region.ready .any ops listed:=by rw[hr];exact hj
   obtain⟨hjf,o,ho,haf⟩:=mem_ready.1 hj';have BF:j<ops.size:=(Array.getElem?_eq_some_iff.1 ho).1;have aeN:(listed.setIfInBounds j true).size=ops.size:=by simpa using JQ
   have aeg:∀k,dep o.after k=true→listed.getD k false=true:=fun k hk=>by
    obtain⟨g,h1,h2,rfl⟩:=ab2 hk;exact haf g h1 h2
   have MB:listed.getD j false=false:=by
    have :j<listed.size:=ay;simp[Array.getD,this] at hjf ⊢;exact hjf
   have Wu:(listed.setIfInBounds j true).getD j false=true:=by
    have :j<listed.size:=ay;simp[this]
   have U2:((List.range ops.size).filter fun k=> !(listed.setIfInBounds j true).getD k true).length≤fuel:=by
    have :=filter_lt (l:=List.range ops.size) (p:=fun k=> !listed.getD k true) (q:=fun k=> !(listed.setIfInBounds j true).getD k true) (fun k hk h=>by
     by_cases e:j=k
     ·subst e;have :j<listed.size:=ay;simp[this] at h
     ·rwa [getD_set_ne true e] at h) ⟨j,by simpa using BF,by rw[hjf];rfl,by
      have :j<listed.size:=ay;simp[this]⟩
    omega
   have hDD:∀ {qs:List PE},(∀q∈qs,q∈ps)→Sub (pV o.after qs) e:=fun {qs} hq=>Sub.map fun p BA=>by
    obtain⟨h1,h2⟩:=mem_filter.1 BA;exact dL.p p (hq p h1) (aeg _ h2)
   refine⟨o,ho, ?_⟩;have hzd:∀z∈zs,(listed.setIfInBounds j true).getD z.s false=true→∀o',ops[z.s]? =some o'→∀k,dep o'.after k=true→(listed.setIfInBounds j true).getD k false=true:=fun z JL hl o' GN k hk=>by
    refine getD_set_true ?_;by_cases e1:z.s=j
    ·rw[e1,ho] at GN;injection GN with GN;subst GN;exact aeg k hk
    ·exact dL.z z JL ((iN hl).resolve_left e1) o' GN k hk
   have L9:∀p∈ps,(look eo p.2.1).isSome=true→(listed.setIfInBounds j true).getD p.1 false=true→∀o',ops[p.1]? =some o'→∀k,dep o'.after k=true→(listed.setIfInBounds j true).getD k false=true:=fun p Bw hio hl o' GN k hk=>by
    refine getD_set_true ?_;by_cases e1:p.1=j
    ·rw[e1,ho] at GN;injection GN with GN;subst GN;exact aeg k hk
    ·exact dL.g p Bw hio ((iN hl).resolve_left e1) o' GN k hk
   have hfd:(∀p∈ps,(look eo p.2.1).isSome=true→(listed.setIfInBounds j true).getD p.1 false=false)→Sub eo e∧∀p∈ps,(look eo p.2.1).isSome=true→p.1≠j:=fun h=>⟨dL.f (fun p Bw hio=>by
    cases h1:listed.getD p.1 false with
    | false=>rfl
    | true=>have :=h p Bw hio;rw[getD_set_true h1] at this;cases this),fun p Bw hio he=>by
    have :=h p Bw hio;rw[he,Wu] at this;cases this⟩
   have wI:=(ajK j BF).1;rcases wI with ((wI | wI) | wI) | wI
   ·obtain⟨p,Bw,hpj⟩:=any_eq_true.1 wI;obtain rfl:=eq_of_beq_eq_true hpj;obtain⟨o',GN,qs,U7,Wp⟩:=hp.mem p Bw;obtain rfl:o=o':=by rw[ho] at GN;injection GN
    have hD:Sub (pV o.after qs++adn p.2.2.2 eo e0) e:=by
     refine Sub.two (hDD U7) ?_;unfold adn;cases kr:p.2.2.2 with
     | false=>exact dL.base
     | true =>
      refine Sub.two (dL.f fun q hq hio=> ?_) dL.base;cases h1:listed.getD q.1 false with
      | false=>rfl
      | true =>
       have h2:=((amT p Bw).resolve_left (by rw[kr];simp)) q hq;rcases h2 with h2 | h2
       ·rw[Option.isNone_iff_eq_none] at h2;rw[h2] at hio;cases hio
       ·obtain⟨oq,hoq,_⟩:=hp.mem q hq;rw[hoq,Option.map_some,Option.getD_some] at h2;rw[dL.g q hq hio h1 oq hoq p.1 h2] at MB;cases MB
    refine WL.sub (Sub.app hD) cO ?_;rw[append_assoc];refine Wp e _ _ (fun w hw=> ?_) (WL.nil ?_)
    ·cases kr:p.2.2.2 with
     | false=>exact⟨hw.1,(bO.append.1 (bO.append.1 hw.2).2.1).2.1⟩
     | true =>
      have e1:oL zs listed=zs.map (·.A):=by
       unfold oL;apply map_congr_left;intro z JL;have h1:=(aoc p Bw).resolve_left (by rw[kr];simp) z JL;obtain⟨oz,hoz,_⟩:=hz.mem z JL;rw[hoz,Option.map_some,Option.getD_some] at h1;cases h2:listed.getD z.s false with
       | false=>rfl
       | true=>rw[dL.z z JL h2 oz hoz p.1 h1] at MB;cases MB
      rw[e1] at hw;refine hA0 w ⟨hw.1,(bO.append.1 (bO.perm (l':=uh xs listed bs++(zs.map (·.A)++F)) ?_ hw.2)).2.1⟩;rw[←append_assoc,←append_assoc];exact Perm.append_right F perm_append_comm
    show WA _ _ _ _ _ _ _ _ _ _ _;have uH:uh xs listed bs=uh xs (listed.setIfInBounds p.1 true) bs:=by
     unfold uh sK;apply map_congr_left;intro x hx;have h1:=hpa p Bw x hx;have e1:p.1≠x.i:=fun h=>by rw[h] at h1;simp at h1
     have e2:p.1≠x.s:=fun h=>by rw[h] at h1;simp at h1
     rw[getD_set_ne false e1,getD_set_ne false e2]
    have hmz:oL zs listed=oL zs (listed.setIfInBounds p.1 true):=by
     unfold oL;apply map_congr_left;intro z JL;rw[getD_set_ne false (fun h=>by have h1:=hpz p Bw z JL;rw[h] at h1;simp at h1)]
    rw[uH,hmz];have hfp:∀t v,look e0 t=some v→t≠p.2.1:=fun t v ht h=>by
     have :=hfr p.2.1 (mem_append_left _ (mem_map_of_mem (f:=fun p:PE=>p.2.1) Bw));rw[←h,ht] at this;cases this
    refine ih _ bs _ aeN U2 ⟨fun t v ht=> ?_,fun q hq hl=> ?_,fun x hx hl=> ?_,fun x hx hl=> ?_,fun h t v ht=> ?_,L9,hzd⟩
    ·have pq:=hfr p.2.1 (mem_append_left _ (mem_map_of_mem (f:=fun p:PE=>p.2.1) Bw));rw[←append_assoc,iE hD,if_neg (fun h=>by rw[h,ht] at pq;cases pq)];exact dL.base t v ht
    ·rw[←append_assoc,iE hD];by_cases e1:q.1=p.1
     ·obtain rfl:=mq am5 hq Bw e1;simp
     ·rw[if_neg (fun h=>e1 (by rw[mq (nodup_append.1 vZ).1 Bw hq h]))];exact dL.p q hq ((iN hl).resolve_left e1)
    ·rw[←append_assoc,iE hD,if_neg (fun h=>(nodup_append.1 vZ).2.2 _ (mem_map_of_mem (f:=fun p:PE=>p.2.1) Bw) _ (mem_map_of_mem (f:=fun x:AE=>x.d) hx) h)];have h1:=hpa p Bw x hx;exact dL.a x hx ((iN hl).resolve_left (fun h=>by rw[h] at h1;simp at h1))
    ·have h1:=hpa p Bw x hx;exact getD_set_true (dL.c x hx ((iN hl).resolve_left (fun h=>by rw[h] at h1;simp at h1)))
    ·obtain⟨h1,h2⟩:=hfd h;rw[←append_assoc,iE hD,if_neg (fun he=>h2 p Bw (by rw[he,ht];rfl) rfl)];exact h1 t v ht
   ·obtain⟨x,Dx,hxj⟩:=any_eq_true.1 wI;obtain rfl:=eq_of_beq_eq_true hxj;obtain⟨o',GN,Wp⟩:=ha.mem x Dx;obtain rfl:o=o':=by rw[ho] at GN;injection GN
    refine WL.sub (Sub.app dL.base) cO ?_;refine Wp e _ _ fun b=>WL.nil ?_;show WA _ _ _ _ _ _ _ _ _ _ _;have hni:=(nodup_append.1 abT).1;have gL:listed.getD x.s false=false:=by
     cases h:listed.getD x.s false with
     | false=>rfl
     | true=>rw[dL.c x Dx h] at MB;cases MB
    have O4:∀y∈xs,x.i≠y.s:=fun y hy h=>(nodup_append.1 abT).2.2 _ (mem_map_of_mem (f:=fun x:AE=>x.i) Dx) _ (mem_map_of_mem (f:=fun x:AE=>x.s) hy) h;obtain⟨bs',ajg⟩:∃bs':Nat→Nat,bs'=fun k=>if k=x.i then b else bs k:=⟨_,rfl⟩
    have EA:bs' x.i=b:=by rw[ajg];simp
    have oH:∀ {k},k≠x.i→bs' k=bs k:=fun {k} h=>by rw[ajg];simp[h]
    obtain⟨l1,l2,h1,h2⟩:=NJ (listed:=listed) (L':=listed.setIfInBounds x.i true) (bs:=bs) (bs':=bs') Dx hni fun y hy pq=>by
     unfold sK;rw[getD_set_ne false (O4 y hy),getD_set_ne false (fun h=>pq h.symm),oH pq]
    have e1:sK x listed bs=Zt:=by unfold sK;rw[gL,MB];rfl
    have e2:sK x (listed.setIfInBounds x.i true) bs'=x.A b:=by unfold sK;rw[getD_set_ne false (O4 x Dx),gL,Wu,EA];rfl
    have hmz:oL zs listed=oL zs (listed.setIfInBounds x.i true):=by
     unfold oL;apply map_congr_left;intro z JL;rw[getD_set_ne false (fun h=>by have h1:=hxz x Dx z JL;rw[h] at h1;simp at h1)]
    refine WA.sub (Sub.refl _) (fun w h=> ?_) (ih _ bs' _ aeN U2 ⟨fun t v ht=> ?_,fun q hq hl=> ?_,fun y hy hl=> ?_,fun y hy hl=> ?_,fun h t v ht=> ?_,L9,hzd⟩)
    ·rw[h2,e2,←hmz,append_assoc,cons_append,←append_assoc];rw[h1,e1,append_assoc,cons_append,←append_assoc] at h;exact h.adD
    ·have pq:=hfr x.d (mem_append_right _ (mem_map_of_mem (f:=fun x:AE=>x.d) Dx));rw[iE dL.base,if_neg (fun h=>by rw[h,ht] at pq;cases pq)];exact dL.base t v ht
    ·rw[iE dL.base,if_neg (fun h=>(nodup_append.1 vZ).2.2 _ (mem_map_of_mem (f:=fun p:PE=>p.2.1) hq) _ (mem_map_of_mem (f:=fun x:AE=>x.d) Dx) h.symm)];have h3:=hpa q hq x Dx;exact dL.p q hq ((iN hl).resolve_left (fun h=>by rw[h] at h3;simp at h3))
    ·rw[iE dL.base];by_cases e3:y.i=x.i
     ·obtain rfl:=mq hni hy Dx e3;rw[if_pos rfl,EA]
     ·rw[if_neg (fun h=>e3 (by rw[mq (nodup_append.1 vZ).2.1 Dx hy h])),oH e3];exact dL.a y hy ((iN hl).resolve_left e3)
    ·exact getD_set_true (dL.c y hy ((iN hl).resolve_left (fun h=>O4 y hy h.symm)))
    ·rw[iE dL.base,if_neg (fun he=>by have :=Dv x Dx;rw[he,ht] at this;cases this)];exact (hfd h).1 t v ht
   ·obtain⟨x,Dx,hxj⟩:=any_eq_true.1 wI;obtain rfl:=eq_of_beq_eq_true hxj;obtain⟨o',GN,hdx,qs,U7,Wp⟩:=hs.mem x Dx;obtain rfl:o=o':=by rw[ho] at GN;injection GN
    have hD:=hDD U7;have hni:=(nodup_append.1 abT).1;have hns:=(nodup_append.1 abT).2.1;have hxi:=aeg _ hdx;have O4:∀y∈xs,x.s≠y.i:=fun y hy h=>(nodup_append.1 abT).2.2 _ (mem_map_of_mem (f:=fun x:AE=>x.i) hy) _ (mem_map_of_mem (f:=fun x:AE=>x.s) Dx) h.symm;obtain⟨l1,l2,h1,h2⟩:=NJ (listed:=listed) (L':=listed.setIfInBounds x.s true) (bs:=bs) (bs':=bs) Dx hni fun y hy pq=>by
     unfold sK;rw[getD_set_ne false (O4 y hy),getD_set_ne false (fun h=>pq (by rw[mq hns Dx hy h]))]
    have e1:sK x listed bs=x.A (bs x.i):=by unfold sK;rw[MB,hxi];rfl
    have e2:sK x (listed.setIfInBounds x.s true) bs=x.B (bs x.i):=by unfold sK;rw[Wu];rfl
    have hmz:oL zs listed=oL zs (listed.setIfInBounds x.s true):=by
     unfold oL;apply map_congr_left;intro z JL;rw[getD_set_ne false (fun h=>by have h1:=hxz x Dx z JL;rw[h] at h1;simp at h1)]
    have hE:Sub ((x.d,ptr (bs x.i) 0)::(pV o.after qs++(e0++e))) e:=Sub.cons (dL.a x Dx hxi) (Sub.app (Sub.two hD dL.base) |> fun h=>by rwa [append_assoc] at h);refine WL.sub hE (fun w h=> ?_) (Wp e (bs x.i) (oL zs listed++l1++(l2++F)) _ (WL.nil ?_))
    ·rw[h1,e1,append_assoc,cons_append,←append_assoc] at h;exact h.mid
    ·show WA _ _ _ _ _ _ _ _ _ _ _;refine WA.sub (Sub.refl _) (fun w h=> ?_) (ih _ bs _ aeN U2 ⟨fun t v ht=> ?_,fun q hq hl=> ?_,fun y hy hl=> ?_,fun y hy hl=> ?_,fun h t v ht=> ?_,L9,hzd⟩)
     ·rw[h2,e2,←hmz,append_assoc,cons_append,←append_assoc];exact h.ae6
     ·have pq:=hfr x.d (mem_append_right _ (mem_map_of_mem (f:=fun x:AE=>x.d) Dx));rw[←append_assoc,iE (Sub.two hD dL.base),if_neg (fun h=>by rw[h,ht] at pq;cases pq)];exact dL.base t v ht
     ·rw[←append_assoc,iE (Sub.two hD dL.base),if_neg (fun h=>(nodup_append.1 vZ).2.2 _ (mem_map_of_mem (f:=fun p:PE=>p.2.1) hq) _ (mem_map_of_mem (f:=fun x:AE=>x.d) Dx) h.symm)];have h3:=hpa q hq x Dx;exact dL.p q hq ((iN hl).resolve_left (fun h=>by rw[h] at h3;simp at h3))
     ·rw[←append_assoc,iE (Sub.two hD dL.base)];have h3:=(iN hl).resolve_left (fun h=>O4 y hy h.symm);by_cases e3:x.d=y.d
      ·obtain rfl:=mq (nodup_append.1 vZ).2.1 Dx hy e3;rw[if_pos rfl]
      ·rw[if_neg e3];exact dL.a y hy h3
     ·refine getD_set_true ?_;by_cases e3:y.s=x.s
      ·obtain rfl:=mq hns hy Dx e3;exact hxi
      ·exact dL.c y hy ((iN hl).resolve_left e3)
     ·rw[←append_assoc,iE (Sub.two hD dL.base),if_neg (fun he=>by have :=Dv x Dx;rw[he,ht] at this;cases this)];exact (hfd h).1 t v ht
   ·obtain⟨z,JL,hzj⟩:=any_eq_true.1 wI;obtain rfl:=eq_of_beq_eq_true hzj;obtain⟨o',GN,qs,U7,Wp⟩:=hz.mem z JL;obtain rfl:o=o':=by rw[ho] at GN;injection GN
    have hD:=hDD U7;obtain⟨l1,l2,h1,h2⟩:=QO (listed:=listed) (L':=listed.setIfInBounds z.s true) JL amN fun y hy pq=>getD_set_ne false (fun h=>pq h.symm);rw[MB] at h1;rw[Wu] at h2;have uH:uh xs listed bs=uh xs (listed.setIfInBounds z.s true) bs:=by
     unfold uh sK;apply map_congr_left;intro x hx;have h1:=hxz x hx z JL;have e1:z.s≠x.i:=fun h=>by rw[h] at h1;simp at h1
     have e2:z.s≠x.s:=fun h=>by rw[h] at h1;simp at h1
     rw[getD_set_ne false e1,getD_set_ne false e2]
    refine WL.sub (Sub.app (Sub.two hD dL.base)) (fun w h=> ?_) (by
     rw[append_assoc];exact Wp e (l1++(l2++(uh xs listed bs++F))) _ (WL.nil (by
      show WA _ _ _ _ _ _ _ _ _ _ _;refine WA.sub (Sub.refl _) (fun w h=> ?_) (ih _ bs _ aeN U2 ⟨fun t v ht=> ?_,fun q hq hl=> ?_,fun y hy hl=> ?_,fun y hy hl=> ?_,fun h t v ht=> ?_,L9,hzd⟩)
      ·rw[h2,←uH,append_assoc];exact h.ae6
      ·rw[←append_assoc,zD]
       ·exact dL.base t v ht
       ·exact Sub.two hD dL.base
      ·rw[←append_assoc,zD (Sub.two hD dL.base)];have h3:=hpz q hq z JL;exact dL.p q hq ((iN hl).resolve_left (fun h=>by rw[h] at h3;simp at h3))
      ·rw[←append_assoc,zD (Sub.two hD dL.base)];have h3:=hxz y hy z JL;exact dL.a y hy ((iN hl).resolve_left (fun h=>by rw[h] at h3;simp at h3))
      ·have h3:=hxz y hy z JL;exact getD_set_true (dL.c y hy ((iN hl).resolve_left (fun h=>by rw[h] at h3;simp at h3)))
      ·rw[←append_assoc,zD (Sub.two hD dL.base)];exact (hfd h).1 t v ht)))
    rw[h1,append_assoc] at h;exact h.mid
theorem Sat.aiZ{α:Type}{f:α→aH}(hf:∀x,f x=Zt):∀ {xs:List α},Sat K w F→Sat K w (xs.map f++F)
 | [],h=>h
 | x::xs,h=>by rw[map_cons,hf,cons_append];exact (Sat.aiZ hf h).emp
def l8(l:List Nat)(e:Env):Env:=e.filter fun p=> !l.any (p.1== ·)
theorem Sub.l8(l:List Nat):∀ {e:Env},Sub (Sl.l8 l e) e
 | []=>Sub.nil _
 | (k,v)::e=>fun t u h=>by
  have ih:=Sub.l8 l (e:=e) t u;unfold Sl.l8 at h ih;rw[filter_cons] at h;simp only[look];by_cases hk:(!l.any (k== ·))=true
  ·rw[if_pos hk] at h;simp only[look] at h;cases hb:beq k t with
   | true=>rw[hb] at h;exact h
   | false=>rw[hb] at h;exact ih h
  ·rw[if_neg hk] at h;have h2:=ih h;cases hb:beq k t with
   | false=>exact h2
   | true =>
    obtain rfl:=eq_of_beq_eq_true hb;exfalso;have Gg:l.any (k== ·)=true:=by simpa using hk
    have key:∀e:Env,look (e.filter fun p=> !l.any (p.1== ·)) k=none:=by
     intro e
     induction e with
     | nil=>rfl
     | cons p e ihe =>
      rw[filter_cons];by_cases hp:(!l.any (p.1== ·))=true
      ·rw[if_pos hp];simp only[look];cases oH:beq p.1 k with
       | true=>rw[eq_of_beq_eq_true oH,Gg] at hp;cases hp
       | false=>exact ihe
      ·rw[if_neg hp];exact ihe
    rw[key] at h;cases h
def UA(ds:List Deferred)(P:Program)(K:World)(n:Nat)(ops:Array Oper)(e0 eo:Env)(F A0:List aH)(G:Prop)(ps:List PE)(ys:List (Nat×Nat×(Nat→aH)))(xs:List AE)(zs:List ZE):Prop :=
 uo (Iw ds P K n ops e0 eo F A0 ps) ps→uo (fun y=>∀s B,abM ds P K n ops e0 ⟨y.1,y.2.1,y.2.2,s,B⟩) ys→uo (abM ds P K n ops e0) xs→uo (Lu ds P K n ops e0 ps) xs→uo (Jd ds P K n ops e0 ps) zs→G
theorem uo.mono{α:Type}{p q:α→Prop}(h:∀x,p x→q x):∀ {l:List α},uo p l→uo q l
 | [],_=>trivial
 | _::_,h1=>⟨h _ h1.1,uo.mono h h1.2⟩
theorem Iw.up{ds:List Deferred}{P:Program}{K:World}{n:Nat}{e0 eo:Env}{F A0:List aH}{ops:Array Oper}{ps:List PE}{p q:PE}(h:Iw ds P K n ops e0 eo F A0 ps p):Iw ds P K n ops e0 eo F A0 (q::ps) p:=by obtain⟨o,h1,qs,h2,h3⟩:=h;exact⟨o,h1,qs,fun x hx=> .tail _ (h2 x hx),h3⟩
theorem Lu.up{ds:List Deferred}{P:Program}{K:World}{n:Nat}{e0:Env}{ops:Array Oper}{ps:List PE}{x:AE}{q:PE}(h:Lu ds P K n ops e0 ps x):Lu ds P K n ops e0 (q::ps) x:=by obtain⟨o,h1,h0,qs,h2,h3⟩:=h;exact⟨o,h1,h0,qs,fun x hx=> .tail _ (h2 x hx),h3⟩
theorem Jd.up{ds:List Deferred}{P:Program}{K:World}{n:Nat}{e0:Env}{ops:Array Oper}{ps:List PE}{x:ZE}{q:PE}(h:Jd ds P K n ops e0 ps x):Jd ds P K n ops e0 (q::ps) x:=by obtain⟨o,h1,qs,h2,h3⟩:=h;exact⟨o,h1,qs,fun x hx=> .tail _ (h2 x hx),h3⟩
theorem UA.p{p:PE}(hp:Iw ds P K n ops e0 eo F A0 ps p)(h:UA ds P K n ops e0 eo F A0 G (p::ps) ys xs zs):UA ds P K n ops e0 eo F A0 G ps ys xs zs :=
 fun h1 h2 h3 h4 h5=>h ⟨hp.up,h1.mono fun _=>Iw.up⟩ h2 h3 (h4.mono fun _=>Lu.up) (h5.mono fun _=>Jd.up)
theorem UA.val{ds:List Deferred}{P:Program}{K:World}{n:Nat}{e0 eo:Env}{F A0:List aH}{ops:Array Oper}{ps:List PE}{xs:List AE}{zs:List ZE}{G:Prop}{ys:List (Nat×Nat×(Nat→aH))}{d:Nat}{op:Op}{ty:TypeId}{pos:String}{af:Array Edge}{v:Value}(i:Nat)(ho:ops[i]? =some ⟨some d,op,ty,pos,af,none⟩)(hv:∀r,eX ⟨none,ds⟩ P K n true (pV af ps++(e0++r)) F ⟨some d,op,ty,pos,af,none⟩ v)(h:UA ds P K n ops e0 eo F A0 G ((i,d,v,false)::ps) ys xs zs)(hd:blt d n=true:=by rfl):UA ds P K n ops e0 eo F A0 G ps ys xs zs :=
 UA.p (p:=(i,d,v,false)) ⟨_,ho,ps,fun _ h=>h,fun r H' Q' hF h=>WL.val (fun hc a w ha hw=>hv r hc a w ha (hF w hw)) hd h⟩ h
theorem UA.Ru{ds:List Deferred}{P:Program}{K:World}{n:Nat}{e0 eo:Env}{F A0:List aH}{ops:Array Oper}{ps:List PE}{xs:List AE}{zs:List ZE}{G:Prop}{ys:List (Nat×Nat×(Nat→aH))}{d:Nat}{op:Op}{ty:TypeId}{pos:String}{af:Array Edge}{v:Value}(i:Nat)(ho:ops[i]? =some ⟨some d,op,ty,pos,af,none⟩)(hv:∀r,eX ⟨none,ds⟩ P K n true (pV af ps++((eo++e0)++r)) A0 ⟨some d,op,ty,pos,af,none⟩ v)(h:UA ds P K n ops e0 eo F A0 G ((i,d,v,true)::ps) ys xs zs)(hd:blt d n=true:=by rfl):UA ds P K n ops e0 eo F A0 G ps ys xs zs :=
 UA.p (p:=(i,d,v,true)) ⟨_,ho,ps,fun _ h=>h,fun r H' Q' hF h=>WL.val (fun hc a w ha hw=>hv r hc a w ha (hF w hw)) hd h⟩ h
theorem UA.call{ds:List Deferred}{P:Program}{K:World}{n:Nat}{e0 eo:Env}{F A0:List aH}{ops:Array Oper}{ps:List PE}{xs:List AE}{zs:List ZE}{G:Prop}{ys:List (Nat×Nat×(Nat→aH))}{d:Nat}{ty:TypeId}{pos:String}{af:Array Edge}{f:FuncId}{ys':List Operand}{vs:List Value}{ats:Array TypeId}{v:Value}(i:Nat)(ho:ops[i]? =some ⟨some d,.call ⟨.value (.func f),ys'.toArray,ats⟩,ty,pos,af,none⟩)(hf:bP P f)
 (gL:∀r,Ga true (pV af ps++(e0++r)) ys' vs) (hT:∀H',(∀w,Sat K w H'→Sat K w F)→aK P f vs.toArray K H' v) (h:UA ds P K n ops e0 eo F A0 G ((i,d,v,false)::ps) ys xs zs) (hd:blt d n=true:=by rfl):UA ds P K n ops e0 eo F A0 G ps ys xs zs :=
 UA.p (p:=(i,d,v,false)) ⟨_,ho,ps,fun _ h=>h,fun r H' Q' hF h=>WL.call hf (gL r) (hT H' hF) hd (fun v' ou ⟨e1,e2⟩=>by subst e1 e2;exact h)⟩ h
theorem UA.alloc{ds:List Deferred}{P:Program}{K:World}{n:Nat}{e0 eo:Env}{F A0:List aH}{ops:Array Oper}{ps:List PE}{xs:List AE}{zs:List ZE}{G:Prop}{ys:List (Nat×Nat×(Nat→aH))}{d T:Nat}{ty:TypeId}{pos:String}{af:Array Edge}{z:Value}{cs:List Value}(i:Nat)(ho:ops[i]? =some ⟨some d,.alloc T,ty,pos,af,none⟩)(hz:∀w,(zeroValue T).run P w= .ok z w)(hc:z.cells.toList=cs)
 (h:UA ds P K n ops e0 eo F A0 G ps ((i,d,fun b=>ah b T cs)::ys) xs zs) (hd:blt d n=true:=by rfl):UA ds P K n ops e0 eo F A0 G ps ys xs zs :=
 fun h1 h2 h3 h4 h5=>h h1 ⟨fun s B=>⟨_,ho,fun r H' Q' h=>WL.alloc hz hc hd h⟩,h2⟩ h3 h4 h5
theorem UA.store{ds:List Deferred}{P:Program}{K:World}{n:Nat}{e0 eo:Env}{F A0:List aH}{ops:Array Oper}{ps:List PE}{xs:List AE}{zs:List ZE}{G:Prop}{ys:List (Nat×Nat×(Nat→aH))}{i d T m:Nat}{ty:TypeId}{pos:String}{af:Array Edge}{x y:Operand}{cs cs':List Value}{v:Value}(s q:Nat)(ho:ops[s]? =some ⟨none,.store T x y,ty,pos,af,none⟩)(hq:ys[q]? =some (i,d,fun b=>ah b T cs))(hT:∀w,(sizeOf T).run P w= .ok m w)
 (hx:∀r b,OV true ((d,ptr b 0)::(pV af ps++(e0++r))) x (ptr b 0)) (hy:∀r b,OV true ((d,ptr b 0)::(pV af ps++(e0++r))) y v) (hc:v.cells.toList=cs') (h1:cs'.all (·.oneCell')=true) (hm:cs'.length=m) (hl:cs'.length=cs.length)
 (h:UA ds P K n ops e0 eo F A0 G ps ys (⟨i,d,fun b=>ah b T cs,s,fun b=>ah b T cs'⟩::xs) zs) (hdp:dep af i=true:=by rfl):UA ds P K n ops e0 eo F A0 G ps ys xs zs :=
 fun k1 k2 k3 k4 k5=>h k1 k2 ⟨k2.mem _ (mem_of_getElem? hq) s _,k3⟩ ⟨⟨_,ho,hdp,ps,fun _ h=>h,fun r b H' Q' h=>WL.store hT (hx r b) (hy r b) hc hm h1 (bT.whole hl) h⟩,k4⟩ k5
theorem UA.gq{ds:List Deferred}{P:Program}{K:World}{n:Nat}{e0 eo:Env}{F A0:List aH}{ops:Array Oper}{ps:List PE}{xs:List AE}{zs:List ZE}{G:Prop}{ys:List (Nat×Nat×(Nat→aH))}{i d T m:Nat}{ty:TypeId}{pos:String}{af:Array Edge}{x y:Operand}{cs:List Value}{k:IntKind}{l:List Nat}(s q:Nat)(ho:ops[s]? =some ⟨none,.store T x y,ty,pos,af,none⟩)(hq:ys[q]? =some (i,d,fun b=>ah b T cs))(hT:∀w,(sizeOf T).run P w= .ok m w)
 (hx:∀r b,OV true ((d,ptr b 0)::(pV af ps++(e0++r))) x (ptr b 0)) (hy:∀r b,OV true ((d,ptr b 0)::(pV af ps++(e0++r))) y (.agg (av k l).toArray))
 (h:UA ds P K n ops e0 eo F A0 G ps ys (⟨i,d,fun b=>ah b T cs,s,fun b=>ah b T (av k l)⟩::xs) zs) (hdp:dep af i=true:=by rfl) (hm:l.length=m:=by first | rfl | (simp[aI, *];done)) (hl:l.length=cs.length:=by first | rfl | (simp[aI,au, *];done)):UA ds P K n ops e0 eo F A0 G ps ys xs zs :=
 UA.store (cs':=av k l) s q ho hq hT hx hy rfl (gP k l) (by rw[au];exact hm) (by rw[au];exact hl) h hdp
theorem UA.z{z:ZE}(hz:Jd ds P K n ops e0 ps z)(h:UA ds P K n ops e0 eo F A0 G ps ys xs (z::zs)):UA ds P K n ops e0 eo F A0 G ps ys xs zs:=fun h1 h2 h3 h4 h5=>h h1 h2 h3 h4 ⟨hz,h5⟩
theorem UA.agC{ds:List Deferred}{P:Program}{K:World}{n:Nat}{e0 eo:Env}{F A0:List aH}{ops:Array Oper}{ps:List PE}{xs:List AE}{zs:List ZE}{G:Prop}{ys:List (Nat×Nat×(Nat→aH))}{b T m:Nat}{ty:TypeId}{pos:String}{af:Array Edge}{x y:Operand}{cs' cs0:List Value}{v:Value}(s:Nat)(ho:ops[s]? =some ⟨none,.store T x y,ty,pos,af,none⟩)(hT:∀w,(sizeOf T).run P w= .ok m w)
 (hx:∀r,OV true (pV af ps++(e0++r)) x (ptr b 0)) (hy:∀r,OV true (pV af ps++(e0++r)) y v) (hc:v.cells.toList=cs') (h1:cs'.all (·.oneCell')=true) (hm:cs'.length=m) (h:UA ds P K n ops e0 eo F A0 G ps ys xs (⟨s,ah b T cs0,ah b T cs'⟩::zs)) (hq:ah b T cs0∈A0:=by repeat (first | exact Mem.head _ | apply Mem.tail)) (hl:cs'.length=cs0.length:=by first | rfl | (simp[aI,au, *];done)):UA ds P K n ops e0 eo F A0 G ps ys xs zs :=
 UA.z ⟨_,ho,ps,fun _ h=>h,fun r H' Q' h=>WL.store hT (hx r) (hy r) hc hm h1 (bT.whole hl) h⟩ h
theorem UA.lI{ds:List Deferred}{P:Program}{K:World}{n:Nat}{e0 eo:Env}{F A0:List aH}{ops:Array Oper}{ps:List PE}{xs:List AE}{zs:List ZE}{G:Prop}{ys:List (Nat×Nat×(Nat→aH))}{b T m:Nat}{ty:TypeId}{pos:String}{af:Array Edge}{x y:Operand}{k:IntKind}{l:List Nat}{cs0:List Value}(s:Nat)(ho:ops[s]? =some ⟨none,.store T x y,ty,pos,af,none⟩)(hT:∀w,(sizeOf T).run P w= .ok m w)
 (hx:∀r,OV true (pV af ps++(e0++r)) x (ptr b 0)) (hy:∀r,OV true (pV af ps++(e0++r)) y (.agg (av k l).toArray)) (h:UA ds P K n ops e0 eo F A0 G ps ys xs (⟨s,ah b T cs0,ah b T (av k l)⟩::zs)) (hm:l.length=m:=by first | rfl | (simp[aI, *];done)) (hq:ah b T cs0∈A0:=by repeat (first | exact Mem.head _ | apply Mem.tail)) (hl:l.length=cs0.length:=by first | rfl | (simp[aI,au, *];done)):UA ds P K n ops e0 eo F A0 G ps ys xs zs :=
 UA.agC (cs':=av k l) s ho hT hx hy rfl (gP k l) (by rw[au];exact hm) h hq (by rw[au];exact hl)
theorem UA.at_{ds:List Deferred}{P:Program}{K:World}{n:Nat}{e0 eo:Env}{F A0:List aH}{ops:Array Oper}{ps:List PE}{xs:List AE}{zs:List ZE}{G:Prop}{ys:List (Nat×Nat×(Nat→aH))}{b o T T':Nat}{ty:TypeId}{pos:String}{af:Array Edge}{x y:Operand}{k:IntKind}{u:Nat}{l0:List Nat}(s:Nat)(ho:ops[s]? =some ⟨none,.store T x y,ty,pos,af,none⟩)(hT:∀w,(sizeOf T).run P w= .ok 1 w)
 (hx:∀r,OV true (pV af ps++(e0++r)) x (ptr b o)) (hy:∀r,OV true (pV af ps++(e0++r)) y (.int k ((u:Nat):Int))) (h:UA ds P K n ops e0 eo F A0 G ps ys xs (⟨s,ah b T' (av k l0),ah b T' (av k (l0.set o u))⟩::zs)) (hq:ah b T' (av k l0)∈A0:=by repeat (first | exact Mem.head _ | apply Mem.tail)) (hl:o<l0.length:=by first | omega | (simp[aI, *];done) | (simp[aI];omega)):UA ds P K n ops e0 eo F A0 G ps ys xs zs :=
 UA.z ⟨_,ho,ps,fun _ h=>h,fun r H' Q' h=>WL.gq hT (hx r) (hy r) h (bT.nat hl)⟩ h
def mh(l:List Nat)(e:Env):Env:=e.filter fun p=>l.any (p.1== ·)
theorem Sub.mh(l:List Nat):∀ {e:Env},Sub (Sl.mh l e) e
 | []=>Sub.nil _
 | (k,v)::e=>fun t u h=>by
  have ih:=Sub.mh l (e:=e) t u;unfold Sl.mh at h ih;rw[filter_cons] at h;simp only[look];by_cases hk:l.any (k== ·)=true
  ·rw[if_pos hk] at h;simp only[look] at h;cases hb:beq k t with
   | true=>rw[hb] at h;exact h
   | false=>rw[hb] at h;exact ih h
  ·rw[if_neg hk] at h;have h2:=ih h;cases hb:beq k t with
   | false=>exact h2
   | true =>
    obtain rfl:=eq_of_beq_eq_true hb;exfalso;have key:∀e:Env,look (e.filter fun p=>l.any (p.1== ·)) k=none:=by
     intro e
     induction e with
     | nil=>rfl
     | cons p e ihe =>
      rw[filter_cons];by_cases hp:l.any (p.1== ·)=true
      ·rw[if_pos hp];simp only[look];cases oH:beq p.1 k with
       | true=>rw[eq_of_beq_eq_true oH] at hp;exact absurd hp hk
       | false=>exact ihe
      ·rw[if_neg hp];exact ihe
    rw[key] at h;cases h
theorem WC.BZ{id:Nat}{l:List Oper}(k:Nat)(hF:A0.drop k=F)(h:UA ds P K n l.toArray e0 [] F A0 (WC ⟨none,ds⟩ P K n (.region id l.toArray true) Q e0 A0) [] [] [] []):WC ⟨none,ds⟩ P K n (.region id l.toArray true) Q e0 A0:=h trivial trivial trivial trivial trivial
theorem WC.vU{id:Nat}{l:List Oper}(k:Nat)(ov:List Nat)(hF:A0.drop k=F)(h1:Sl.l8 ov E=e0)(h2:Sl.mh ov E=eo)(h:UA ds P K n l.toArray e0 eo F A0 (WC ⟨none,ds⟩ P K n (.region id l.toArray true) Q (eo++e0) A0) [] [] [] []):WC ⟨none,ds⟩ P K n (.region id l.toArray true) Q E A0:=by
 subst h1 h2;exact WC.sub (Sub.two (Sub.mh ov) (Sub.l8 ov)) cO (h trivial trivial trivial trivial trivial)
theorem UA.fin{ds:List Deferred}{P:Program}{K:World}{n:Nat}{Q:iX}{e0 eo:Env}{F A0:List aH}{ps:List PE}{xs:List AE}{zs:List ZE}{ys:List (Nat×Nat×(Nat→aH))}{id:Nat}{l:List Oper}(hc:ahg l.toArray e0 eo ps xs zs=true)
 (h:∀bs:Nat→Nat,Q ⟨none,ds⟩ .normal (ps.map (fun p=>(p.2.1,p.2.2.1))++(xs.map (fun x=>(x.d,ptr (bs x.i) 0))++e0)) (zs.map (·.B)++(xs.map (fun x=>x.B (bs x.i))++F)))
 (hm:P.follows .mixedOrders=true:=by kernel_rfl) (ajd:eo.all (fun p=>(look e0 p.1).isNone)=true:=by rfl) (hA:∀w,Sat K w A0→Sat K w (zs.map (·.A)++F):=by exact fun w h=>h) (hA0:∀w,Sat K w (zs.map (·.A)++F)→Sat K w A0:=by exact fun w h=>h):UA ds P K n l.toArray e0 eo F A0 (WC ⟨none,ds⟩ P K n (.region id l.toArray true) Q (eo++e0) A0) ps ys xs zs:=fun hp _ ha hs hz=>by
 refine WC.sub (Sub.refl _) hA (WC.dM [] hm ?_);have O4:∀t v,look e0 t=some v→look eo t=none:=fun t v h=>by
  have key:∀e:Env,e.all (fun p=>(look e0 p.1).isNone)=true→look e t=none:=by
   intro e
   induction e with
   | nil=>intro _;rfl
   | cons p e ih =>
    intro h2;rw[all_cons,Bool.and_eq_true] at h2;simp only[look];cases hb:beq p.1 t with
    | false=>exact ih h2.2
    | true=>rw[eq_of_beq_eq_true hb,h] at h2;exact absurd h2.1 (by simp)
  exact key eo ajd
 have hn:∀k,(Array.replicate l.length false).getD k false=false:=fun k=>by
  by_cases hk:k<l.length
  ·simp[hk]
  ·simp[Array.getElem?_eq_none (show (Array.replicate l.length false).size≤k by simpa using Nat.le_of_not_lt hk)]
 have EA:Sub eo (eo++e0):=fun t v h=>by rw[tQ,h];rfl
 have hb0:Sub e0 (eo++e0):=fun t v h=>by
  rw[tQ];cases h2:look eo t with
  | none=>simpa using h
  | some u =>
   exfalso;have :=O4 t v h;rw[h2] at this;cases this
 have h1:=NA hp ha hs hz hc hA0 h l.length (Array.replicate l.length false) (fun _=>0) (eo++e0) (by simp) (Nat.le_trans (length_filter_le _ _) (by simp)) ⟨hb0,fun p _ h=>(by rw[hn] at h;cases h),fun x _ h=>(by rw[hn] at h;cases h),fun x _ h=>(by rw[hn] at h;cases h),fun _=>EA,fun p _ _ h=>(by rw[hn] at h;cases h),fun z _ h=>(by rw[hn] at h;cases h)⟩;refine WA.sub (Sub.refl _) (fun w h=> ?_) h1;have e1:oL zs (Array.replicate l.length false)=zs.map (·.A):=by
  unfold oL;apply map_congr_left;intro z _;rw[hn];rfl
 rw[e1];have h2:Sat K w (uh xs (Array.replicate l.length false) (fun _=>0)++(F++zs.map (·.A))):=Sat.aiZ (fun x=>by unfold sK;rw[hn,hn];rfl) ⟨h.1,bO.perm perm_append_comm h.2⟩;refine⟨h.1,bO.perm ?_ h2.2⟩;rw[←append_assoc];exact perm_append_comm
theorem UA.wW{ds:List Deferred}{P:Program}{K:World}{n:Nat}{e0 eo:Env}{F A0:List aH}{ops:Array Oper}{ps:List PE}{xs:List AE}{zs:List ZE}{G:Prop}{ys:List (Nat×Nat×(Nat→aH))}{d i:Nat}{op:Op}{ty:TypeId}{pos:String}{af:Array Edge}{v:Value}(ix:Ix i)(ho:ops[i]? =some ⟨some d,op,ty,pos,af,none⟩)(hv:∀r,eX ⟨none,ds⟩ P K n true (pV af ps++(e0++r)) F ⟨some d,op,ty,pos,af,none⟩ v)(h:UA ds P K n ops e0 eo F A0 G ((i,d,v,false)::ps) ys xs zs)(hd:blt d n=true:=by rfl):UA ds P K n ops e0 eo F A0 G ps ys xs zs :=
 UA.val i ho hv h hd
theorem UA.aj8{ds:List Deferred}{P:Program}{K:World}{n:Nat}{e0 eo:Env}{F A0:List aH}{ops:Array Oper}{ps:List PE}{xs:List AE}{zs:List ZE}{G:Prop}{ys:List (Nat×Nat×(Nat→aH))}{d i:Nat}{op:Op}{ty:TypeId}{pos:String}{af:Array Edge}{v:Value}(ix:Ix i)(ho:ops[i]? =some ⟨some d,op,ty,pos,af,none⟩)(hv:∀r,eX ⟨none,ds⟩ P K n true (pV af ps++((eo++e0)++r)) A0 ⟨some d,op,ty,pos,af,none⟩ v)(h:UA ds P K n ops e0 eo F A0 G ((i,d,v,true)::ps) ys xs zs)(hd:blt d n=true:=by rfl):UA ds P K n ops e0 eo F A0 G ps ys xs zs :=
 UA.Ru i ho hv h hd
class ZnT(P:Program)(T:Nat)(k:outParam IntKind)(m:outParam Nat):Prop where
 h:∃z,(∀w,(zeroValue T).run P w= .ok z w)∧z.cells.toList=av k (replicate m 0)
theorem WL.ad1{Mo:Mode}{P:Program}{K:World}{n:Nat}{ops:Array Oper}{Q:iX}{e:Env}{H:List aH}{ty:TypeId}{pos:String}{af:Array Edge}{d T m:Nat}{k:IntKind}{rest:List Oper}[hz:ZnT P T k m](h:∀b,WL Mo P K n ops rest Q ((d,ptr b 0)::e) (ah b T (av k (replicate m 0))::H))(hd:blt d n=true:=by rfl):WL Mo P K n ops (⟨some d,.alloc T,ty,pos,af,none⟩::rest) Q e H :=
 Exists.elim hz.h fun _ q=>WL.jN k m q.1 q.2 hd h
theorem aP(s:String){X Y:Prop}(h:Y) (t:StS s X Y:=by
 apply StS.o;repeat (first
  | (apply aM.q;first
  | (apply fK.q;first
  | (apply gB.q;first
  | (apply wh.s 97;focus (intro hz;exact WL.val (V.CY 32 (OV.p rfl) (OV.p rfl)) rfl hz))
  | (apply wh.w 112;focus (intro ix h;exact UA.wW ix rfl (fun _=>V.fV (j:=0) Jq.h (OV.p rfl) (OV.p rfl)) h))
  | (apply wh.s 116;focus (intro hz;exact WL.val (V.G6 (M:=4294967296) wP.h wP.h (OV.p rfl)) rfl hz))
  )
  | (apply gB.w 98;focus (intro ix h;exact UA.wW ix rfl (fun _=>V.Rz (M:=18446744073709551616) (OV.p rfl) (OV.p rfl)) h))
  | (apply gB.s 99;focus (intro hz;exact WL.val (V.Ob (i:=8) (OV.p rfl) (OV.p rfl)) rfl hz))
  | (apply gB.s 105;focus (intro hz;exact WL.val (V.XV (j:=0) (OV.p rfl) (OV.p rfl)) rfl hz))
  | (apply gB.s 106;focus (intro hz;exact WL.val (V.fV (j:=31) Jq.h (OV.p rfl) (OV.p rfl)) rfl hz))
  | (apply gB.w 107;focus (intro ix hz;exact UA.wW ix rfl (fun _=>V.Rz (M:=4294967296) (OV.p rfl) (OV.p rfl)) hz))
  | (apply gB.s 109;focus (intro h;exact WL.bI (oj:=_) rfl rfl rfl GC.t (V.len (t:=0) wP.h (OV.g rfl id)) rfl h))
  | (apply gB.s 110;focus (intro h;exact WL.val (V.zI (j:=8) (OV.p rfl) (OV.p rfl)) rfl h))
  | (apply gB.s 111;focus (intro hz;exact WL.val (V.abx Jq.h xH.h (OV.p rfl) (OV.p rfl)) rfl hz))
  | (apply gB.s 118;focus (intro hz;exact WQ.val (V.jd (wO.h (s:=4)) (OV.p rfl)) rfl hz))
  | (apply gB.s 120;focus (intro hz;exact WL.bI (oj:=_) rfl rfl rfl GC.t (V.G5 (j:=0) (OV.g rfl id) (OV.p rfl)) rfl hz))
  | (apply gB.s 70;focus (intro hz;exact WL.val (V.G5 (j:=1) (OV.p rfl) (OV.p rfl)) rfl hz))
  | (apply gB.w 71;focus (intro ix hz;exact UA.wW ix rfl (fun _=>V.af6 (wO.h (s:=32)) (OV.p rfl)) hz))
  | (apply gB.s 73;focus (intro hz;exact WL.val (V.wK (j:=1) (OV.p rfl) (OV.p rfl)) rfl hz))
  | (apply gB.s 77;focus (intro h;exact WL.val (V.zI (j:=4) (OV.p rfl) (OV.p rfl)) rfl h))
  | (apply gB.w 78;focus (intro ix hz;exact WA.tI ix rfl (V.d9 xH.h (OV.p rfl)) hz))
  | (apply gB.w 85;focus (intro ix hz;exact UA.wW ix rfl (fun _=>V.aa8 (wO.h (s:=32)) (OV.p rfl)) hz))
  | (apply gB.s 86;focus (intro hz;exact WQ.val (V.jd (wO.h (s:=32)) (OV.p rfl)) rfl hz))
  | (apply gB.w 90;focus (intro ix hz;exact UA.wW ix rfl (fun _=>V.Ob (i:=4) (OV.p rfl) (OV.p rfl)) hz))
  | (apply gB.s 48;focus (intro hz;exact WL.val (V.Rz (M:=4294967296) (OV.p rfl) (OV.p rfl)) rfl hz))
  | (apply gB.w 57;focus (intro ix h;exact UA.wW ix rfl (fun _=>V.nilCheck (OV.p rfl)) h))
  | (apply gB.s 33;focus (intro h;exact WL.val (V.fV (j:=0) Jq.h (OV.p rfl) (OV.p rfl)) rfl h))
  | (apply gB.s 36;focus (intro hz;exact WL.val (V.G5 (j:=0) (OV.p rfl) (OV.p rfl)) rfl hz))
  | (apply gB.s 94;focus (intro hz;exact WL.val (V.WJ (j:=64) (OV.p rfl) (OV.p rfl)) rfl hz))
  | (apply gB.s 95;focus (intro hz;exact WL.val (V.CY (j:=1) 64 (OV.p rfl) (OV.p rfl)) rfl hz))
  | (apply gB.s 124;focus (intro hz;exact WL.val (V.wK (j:=8) (OV.p rfl) (OV.p rfl)) rfl hz))
  | (apply gB.s 44;focus (intro hz;exact WL.val (V.wK (j:=16) (OV.p rfl) (OV.p rfl)) rfl hz))
  | (apply gB.w 96;focus (intro ix hz;exact UA.wW ix rfl (fun _=>V.abX (wO.h (s:=32)) (OV.p rfl)) hz))
  | (apply gB.s 40;focus (intro hz;exact WL.val (V.rD (j:=1) (OV.p rfl) (OV.p rfl)) rfl hz))
  | (apply gB.s 41;focus (intro hz;exact WL.val (V.XV (OV.p rfl) (OV.p rfl)) rfl hz))
  | (apply gB.s 91;focus (intro hz;exact WL.val (V.CY 64 (OV.p rfl) (OV.p rfl)) rfl hz))
  | (apply gB.s 93;focus (intro hz;exact UA.gq 7 0 rfl rfl (q8.h (s:=64)) (fun _ _=>OV.p rfl) (fun _ _=>OV.p rfl) hz))
  )
  | (apply fK.s 67;focus (intro h;exact WC.ret h))
  | (apply fK.s 77;focus (intro h;exact WL.xt rfl rfl rfl h))
  | apply fK.m2 115 99 98
  | (apply fK.s 65;focus (intro hz;exact⟨rfl,hz⟩))
  | apply fK.m4 54 126 77 126 77
  | (apply fK.s 66;focus (intro h;exact WC.ni rfl (by clear h;first | rfl | (simp;done) | (simp;omega)) h))
  | (apply fK.w 97;focus (intro ix h;exact WA.tI ix rfl (V.nilCheck (OV.p rfl)) h))
  | (apply fK.w 100;focus (intro ix h;exact UA.wW ix rfl (fun _=>V.jd wO.h (OV.p rfl)) h))
  | (apply fK.s 106;focus (intro h;exact WL.val (V.zI (OV.p rfl) (OV.p rfl)) rfl h))
  | (apply fK.s 107;focus (intro hz;exact WC.V9 (by clear hz;kernel_rfl) (by clear hz;kernel_rfl) hz))
  | (apply fK.w 113;focus (intro ix h;exact UA.wW ix rfl (fun _=>V.fieldAddr iH.h (OV.p rfl)) h))
  | (apply fK.w 117;focus (intro ix h;exact WA.tI ix rfl (V.assign (OV.p rfl)) h))
  | (apply fK.s 118;focus (intro h;exact WL.gq q8.h (OV.p rfl) (OV.p rfl) h))
  | (apply fK.w 119;focus (intro ix h;exact UA.wW ix rfl (fun _=>V.d9 xH.h (OV.p rfl)) h))
  | (apply fK.s 120;focus (intro h;exact WL.val (V.Eo (OV.p rfl) (OV.p rfl) (fun _=>by clear h;omega)) rfl h))
  | (apply fK.s 69;focus (intro h;exact WL.val (V.FW RO.h (OV.p rfl) (OV.p rfl) (fun hc=>by clear h;first | omega | (simp at hc;omega))) rfl h))
  | (apply fK.s 70;focus (intro h;exact WL.val (V.fV Jq.h (OV.p rfl) (OV.p rfl)) rfl h))
  | (apply fK.s 72;focus (intro hz;exact WC.BZ 0 rfl hz))
  | (apply fK.w 82;focus (intro ix h;exact UA.wW ix rfl (fun _=>V.fV Jq.h (OV.p rfl) (OV.p rfl)) h))
  | (apply fK.s 83;focus (intro h;exact WL.val (V.wN (OV.p rfl) (OV.p rfl)) rfl h))
  | (apply fK.s 84;focus (intro h;exact WL.val (V.Rz (M:=18446744073709551616) (OV.p rfl) (OV.p rfl)) rfl h))
  | (apply fK.s 85;focus (intro hz;exact WL.val (V.makeFunc (us:=[]) (vs:=[_]) trivial ⟨OV.p rfl,trivial⟩) rfl hz))
  | (apply fK.s 87;focus (intro h;exact WL.val (V.d9 xH.h (OV.p rfl)) rfl h))
  | (apply fK.s 88;focus (intro hz;exact WC.Gp (by clear hz;kernel_rfl) hz))
  | (apply fK.s 89;focus (intro hz;exact WL.val (V.G6 (M:=256) wP.h wP.h (OV.p rfl)) rfl hz))
  | (apply fK.s 90;focus (intro hz;exact WC.MO (by clear hz;kernel_rfl) hz))
  | (apply fK.w 51;focus (intro ix h;exact UA.wW ix rfl (fun _=>V.extract (OV.p rfl) rfl) h))
  | (apply fK.s 52;focus (intro hz;exact WL.Gn OE.h ElT.h (OV.p rfl) (OV.p rfl) hz))
  | (apply fK.s 56;focus (intro hz;exact WL.val (V.wK (OV.p rfl) (OV.p rfl)) rfl hz))
  | (apply fK.s 36;focus (intro hz;exact WL.val (V.Lc RO.h (OV.p rfl) (OV.p rfl)) rfl hz))
  | (apply fK.w 43;focus (intro ix h;exact UA.wW ix rfl (fun _=>V.abn wO.h (OV.p rfl)) h))
  | (apply fK.s 46;focus (intro hz;exact WC.BZ 1 rfl hz))
  | (apply fK.s 58;focus (intro hz;exact WL.val (V.ext (fun hc=>jJ _ _ 0 (by clear hz;omega)) ⟨OV.p rfl,OV.p rfl,OV.p rfl,trivial⟩) rfl hz))
  | (apply fK.w 63;focus (intro ix hz;exact UA.wW ix rfl (fun _=>V.Lc RO.h (OV.p rfl) (OV.p rfl)) hz))
  | (apply fK.s 94;focus (intro hz;exact WL.val (V.aar (j:=0) (OV.p rfl) (OV.p rfl)) rfl hz))
  | (apply fK.w 44;focus (intro ix hz;exact UA.aj8 ix rfl (fun _=>V.d9 xH.h (OV.p rfl)) hz))
  )
  | (apply aM.s 98;focus (intro h;exact WL.nil h))
  | (apply aM.s 99;focus (intro h;exact WL.mv rfl rfl h))
  | (apply aM.s 97;focus (intro h;exact WC.sr h))
  | (apply aM.s 108;focus (intro h;exact WL.sg rfl rfl h))
  | apply aM.m2 103 108 98
  | (apply aM.s 77;focus (intro h;exact WC.seq h))
  | apply aM.m2 101 97 99
  | (apply aM.s 112;focus (intro h;exact WC.region h))
  | (apply aM.s 113;focus (intro h;exact WC.skip h))
  | apply aM.m3 100 103 126 67
  | (apply aM.s 116;focus (intro h;exact WC.block h))
  | apply aM.m2 114 77 101
  | (apply aM.s 72;focus (intro h;exact WC.cond rfl (And.left h) (And.right h)))
  | (apply aM.s 56;focus (intro h;exact WL.val (V.fieldAddr iH.h (OV.p rfl)) rfl h))
  | apply aM.m2 104 112 99
  | apply aM.m2 106 103 101
  | apply aM.m2 102 103 114
  | apply aM.m2 105 98 72
  | apply aM.m2 44 113 77
  | apply aM.m2 70 98 77
  | (apply aM.s 107;focus (intro h;exact WL.val (V.len (t:=0) wP.h (OV.p rfl)) rfl h))
  | apply aM.m3 54 99 126 54
  | apply aM.m2 73 44 116
  | (apply aM.s 75;focus (intro h;exact WC.exit h))
  | (apply aM.w 109;focus (intro ix h;exact WA.tI ix rfl (V.move (OV.p rfl)) h))
  | (apply aM.w 110;focus (intro ix h;exact WA.oI ix rfl h))
  | apply aM.m2 117 103 77
  | apply aM.m2 118 103 97
  | apply aM.m4 61 126 115 126 65
  | (apply aM.s 120;focus (intro hz;exact WL.ad1 hz))
  | (apply aM.s 121;focus (intro h;exact WL.iD q8.h (OV.p rfl) (OV.p rfl) h))
  | apply aM.m2 122 99 99
  | (apply aM.s 65;focus (intro h;exact WL.val (V.jd wO.h (OV.p rfl)) rfl h))
  | apply aM.m2 67 108 100
  | apply aM.m2 68 54 108
  | (apply aM.s 69;focus (intro h;exact WL.store (cs:=[_,_,_,_,_]) (q8.h (s:=5)) (OV.p rfl) (OV.p rfl) rfl rfl rfl (by clear h;repeat (first | exact bT.here (cs':=[_,_,_,_,_]) rfl rfl | apply bT.up)) h))
  | (apply aM.w 74;focus (intro ix h;exact UA.wW ix rfl (fun _=>V.move (OV.p rfl)) h))
  | apply aM.m3 78 126 115 116
  | (apply aM.s 79;focus (intro h;exact WA.fin h))
  | apply aM.m2 80 104 99
  | (apply aM.s 81;focus (intro h;exact WL.val (V.Ci (OV.p rfl) (OV.g rfl id)) rfl h))
  | apply aM.m2 82 98 97
  | (apply aM.s 86;focus (intro h;exact WL.bI (oj:=_) rfl rfl rfl GC.f (V.move (OV.p rfl)) rfl h))
  | apply aM.m3 88 103 126 65
  | apply aM.m2 89 106 99
  | (apply aM.w 48;focus (intro ix h;exact WA.tI ix rfl (V.fieldAddr iH.h (OV.p rfl)) h))
  | apply aM.m2 49 73 101
  | apply aM.m3 50 98 126 67
  | apply aM.m3 51 98 126 66
  | apply aM.m2 57 113 97
  | (apply aM.s 33;focus (intro h;exact WL.bI (oj:=_) rfl rfl rfl GC.t (V.move (OV.p rfl)) rfl h))
  | (apply aM.s 42;focus (intro h;exact WL.val (V.not (OV.p rfl)) rfl h))
  | (apply aM.s 46;focus (intro h;exact aF.qe))
  | (apply aM.s 59;focus (intro h;exact aF.qv h))
  | (apply aM.s 62;focus (intro h;exact WL.val (V.wN (j:=1) (OV.p rfl) (OV.p rfl)) rfl h))
  | (apply aM.s 63;focus (intro hz;exact WL.sub (Sub.refl _) (fun w h=>h.p1) hz))
  | (apply aM.s 64;focus (intro hz;exact WL.val (V.build (vs:=[]) trivial rfl BdT.h) rfl hz))
  | (apply aM.s 94;focus (intro h;exact WL.bI (oj:=_) rfl rfl rfl GC.t (V.fieldAddr iH.h (OV.p rfl)) rfl h))
  | (apply aM.s 124;focus (intro hz;exact UA.fin (by clear hz;kernel_rfl) hz))
  | (apply aM.w 41;focus (intro ix h;exact UA.wW ix rfl (fun _=>V.assign (OV.p rfl)) h))
  | (apply aM.s 93;focus (intro hz;exact WL.val (V.akw OE.h (OV.p rfl) (OV.p rfl)) rfl hz))
  )
 exact aM.z):X:=t.f h
end Go.Sl
namespace Go.Proofs.YtcedojacbhnbiaaGreat
open Go.Sl Go.RowKit Tryz List Nat
instance:ZnT prog 219 .u8 64:=⟨⟨_,zeroValue219,rfl⟩⟩
instance:ZnT prog 256 .u8 64:=⟨⟨_,zeroValue256,rfl⟩⟩
instance:ZnT prog 283 .u8 128:=⟨⟨_,zeroValue283,rfl⟩⟩
instance:ZnT prog 307 .u64 80:=⟨⟨_,zeroValue307,rfl⟩⟩
instance:ZnT prog 309 .u64 8:=⟨⟨_,zeroValue309,rfl⟩⟩
instance:ZnT prog 318 .u64 4:=⟨⟨_,zeroValue318,rfl⟩⟩
instance:ZnT prog 348 .u32 64:=⟨⟨_,zeroValue348,rfl⟩⟩
instance:ZnT prog 349 .u32 8:=⟨⟨_,zeroValue349,rfl⟩⟩
instance:ZnT prog 97 .u8 32:=⟨⟨_,zeroValue97,rfl⟩⟩
end Go.Proofs.YtcedojacbhnbiaaGreat
namespace Go.Sl
open Go.RowKit Go.BigFrame List Nat
theorem Eu{α:Type}:∀(l:List α) (k:Nat) (hk:k<l.length),Perm (l[k]::l.eraseIdx k) l
 | [],k,hk=>absurd hk (not_lt_zero _)
 | a::l,0,_=>Perm.refl _
 | a::l,k+1,hk=>(Perm.swap _ _ _).trans ((Eu l k (lt_of_succ_lt_succ hk)).cons a)
theorem Sat.Vl(h:Sat K w (A::(l++H))):Sat K w (A::bK l::H) :=
 ⟨h.1,h.2.1,h.2.2.1,fun b hb B hB=>by
  rcases mem_cons.1 hB with rfl | hB
  ·rintro⟨C,hC,hf⟩;exact h.2.2.2.1 b hb C (mem_append_left _ hC) hf
  ·exact h.2.2.2.1 b hb B (mem_append_right _ hB),bO.all.2 h.2.tail⟩
theorem Sat.XK(h:Sat K w (A::bK l::H)):Sat K w (A::(l++H)) :=
 ⟨h.1,h.2.1,h.2.2.1,fun b hb B hB=>by
  rcases mem_append.1 hB with hB | hB
  ·exact fun hf=>h.2.2.2.1 b hb (bK l) (.head _) ⟨B,hB,hf⟩
  ·exact h.2.2.2.1 b hb B (.tail _ hB),bO.all.1 h.2.tail⟩
theorem Sat.afD(hp:Perm l l')(h:Sat K w l):Sat K w l':=⟨h.1,bO.perm hp h.2⟩
theorem Sat.FQ(hk:k<l.length)(h:Sat K w (bK l::H)):Sat K w (l[k]::bK (l.eraseIdx k)::H) :=
 Sat.Vl (Sat.afD ((Eu l k hk).symm.append_right H) h.yJ)
theorem Sat.Na{l:List aH}(hk:k<l.length)(h:Sat K w (A::bK (l.eraseIdx k)::H)):Sat K w (bK (l.set k A)::H):=by
 have Gg:k<(l.set k A).length:=by rw[length_set];exact hk
 have hp:=Eu (l.set k A) k Gg;rw[getElem_set_self,eraseIdx_set_eq] at hp;exact Sat.all (Sat.afD (hp.append_right H) h.XK)
theorem rW{α:Type}{f:α→List Value}(hf:∀x,(f x).length=s):∀l:List α,(l.flatMap f).length=l.length*s
 | []=>by simp
 | x::l=>by rw[flatMap_cons,length_append,hf,rW hf l,length_cons,succ_mul,Nat.add_comm]
theorem JK{α:Type}{f:α→List Value}(hf:∀x,(f x).length=s):∀(l:List α) (k i:Nat) (x:α) (v:Value),l[k]? =some x→(f x)[i]? =some v→(l.flatMap f)[k*s+i]? =some v
 | [],k,i,x,v,h,_=>by simp at h
 | y::l,0,i,x,v,h,hi=>by
  simp only[getElem?_cons_zero,Option.some.injEq] at h;subst h;rw[flatMap_cons,Nat.zero_mul,Nat.zero_add,getElem?_append_left (List.getElem?_eq_some_iff.1 hi).1];exact hi
 | y::l,k+1,i,x,v,h,hi=>by
  have ih:=JK hf l k i x v (by simpa using h) hi;rw[flatMap_cons,getElem?_append_right (by rw[hf,succ_mul];omega),hf,←ih];congr 1;rw[succ_mul];omega
theorem ab6{α:Type}{f:α→List Value}(hf:∀x,(f x).length=s):∀(l:List α) (k:Nat) (x y:α),l[k]? =some x→oU (l.flatMap f) (k*s) (f y)=(l.set k y).flatMap f:=fun l k x y h=>by
 have hk:=(List.getElem?_eq_some_iff.1 h).1;have h1:(k+1)*s≤l.length*s:=mul_le_mul_right _ hk;rw[succ_mul] at h1;rw[mD _ _ _ (by rw[hf,rW hf];exact h1),hf];have h2:l.set k y=l.take k++y::l.drop (k+1):=set_eq_take_append_cons_drop .. |>.trans (by rw[if_pos hk])
 have h3:∀j,j≤l.length→(l.flatMap f).take (j*s)=(l.take j).flatMap f∧(l.flatMap f).drop (j*s)=(l.drop j).flatMap f:=fun j hj=>by
  have e:l.flatMap f=(l.take j).flatMap f++(l.drop j).flatMap f:=by rw[←flatMap_append,take_append_drop]
  have e2:((l.take j).flatMap f).length=j*s:=by rw[rW hf,length_take,Nat.min_eq_left hj]
  rw[e];exact⟨take_left' e2,drop_left' e2⟩
 rw[h2,flatMap_append,flatMap_cons,(h3 k (Nat.le_of_lt hk)).1,show k*s+s=(k+1)*s by rw[succ_mul],(h3 (k+1) hk).2,append_assoc]
end Go.Sl
namespace Go.Sl
open Go.ChangeShapes Go.WideShapes Go.ChangeAt Go.RowKit List Nat
theorem aa9{α:Type}(n:Nat)(p:Nat→α→Prop)(h:∀i,i<n→∃a,p i a):∃l:List α,l.length=n∧∀i a,l[i]? =some a→p i a:=by
 induction n with
 | zero=>exact⟨[],rfl,fun i a hi=>by simp at hi⟩
 | succ n ih =>
  obtain⟨l,h1,h2⟩:=ih fun i hi=>h i ay;obtain⟨a,ha⟩:=h n ay;refine⟨l++[a],by simp[h1],fun i b hi=> ?_⟩;rcases Nat.lt_or_ge i l.length with o7 | hge
  ·exact h2 i b (by rwa [getElem?_append_left o7] at hi)
  ·rw[getElem?_append_right hge] at hi;by_cases h0:i-l.length=0
   ·have :i=n:=by omega
    subst this;rw[h0] at hi;simp at hi;subst hi;exact ha
   ·rw[getElem?_eq_none (by simp;omega)] at hi;cases hi
theorem OL{l:List (List Value)}(hs:∀x∈l,x.length=s)(h:l.flatten[k]? =some v):∃x,l[k/s]? =some x∧x[k%s]? =some v:=by
 induction l generalizing k with
 | nil=>simp at h
 | cons x l ih =>
  have hx:=hs x (.head _);rw[flatten_cons] at h;rcases Nat.lt_or_ge k x.length with o7 | hge
  ·rw[getElem?_append_left o7] at h;refine⟨x, ?_, ?_⟩
   ·rw[div_eq_of_lt ay];rfl
   ·rw[mod_eq_of_lt ay];exact h
  ·rw[getElem?_append_right hge] at h;obtain⟨y,h1,h2⟩:=ih (fun z hz=>hs z (.tail _ hz)) h;have h0:0<s:=by
    rcases eq_zero_or_pos s with h | h
    ·subst h;obtain hy:=hs y (.tail _ (mem_of_getElem? h1));rw[eq_nil_of_length_eq_zero hy] at h2;simp at h2
    ·exact h
   refine⟨y, ?_, ?_⟩
   ·rw[hx] at h1;rw[show k/s=(k-s)/s+1 by rw[←add_div_right _ h0];congr 1;omega];exact h1
   ·rw[hx] at h2;rw[show k%s=(k-s)%s by rw[←add_mod_right (k-s) s];congr 1;omega];exact h2
theorem PW{l:List (List Value)}(hs:∀x∈l,x.length=s):l.flatten.length=l.length*s:=by
 induction l with
 | nil=>simp
 | cons x l ih=>rw[flatten_cons,length_append,ih (fun z hz=>hs z (.tail _ hz)),hs x (.head _),length_cons,Nat.add_mul];omega
theorem acF{H:Type}{enc:TypeId×Value→H}{x:DataW H×List MemPlace}(ht:P.underlying t=some (.slice e))(he:P.underlying e=some (.int k))(hc:P.cellsOf e=1)
 (hf:DataW.trod enc P W 0 (fun _=>true) true fuel t cs=some x):∃A m cap xs,cs=[.slice A m cap]∧Seq W [Old W] A m 1 (ints k xs)∧(∀x∈xs,k.min≤x∧x≤k.max)∧xs.length=m∧m≤cap∧cap≤maxLen:=by
 rcases open_ints ht he hc hf with ⟨qX,hx⟩ | ⟨a,len,cap,zs,qX,_,hl,hm,hz,hx,Wy,hwz⟩
 ·exact⟨none,0,0,[],qX,Seq.agZ,fun x hx=>(by cases hx),rfl,Nat.le_refl _,zero_le _⟩
 ·simp only[if_true] at hz;have hlen:(zs.take len).length=len:=by rw[length_take];omega
  refine⟨some a,len,cap,zs.take len,qX,⟨by rw[bR,hlen,Nat.mul_one],fun i v hi w hw=> ?_⟩,fun x hx=> ?_,hlen,hl,hm⟩
  ·have hi':i<len:=by
    rcases Nat.lt_or_ge i len with h | h
    ·exact h
    ·rw[getElem?_eq_none (by rw[bR,hlen];exact h)] at hi;cases hi
   have h1:=Wy i ay;have hb:=World.block_lt_of_cell? _ _ h1;refine⟨_,rfl,((hw.below.cell hb).trans h1).trans ?_⟩;rw[←hi,tY _ _ ay];simp[getD,getElem?_take,hi']
  ·have :=hwz x (mem_of_mem_take hx)
   simpa [Lit.wf] using this
end Go.Sl
namespace Go.Sl
open Go.RowKit Go.BigFrame Go.ChangeShapes Go.WideShapes List Nat
def bytesOf(s:ByteArray):List Int:=s.data.toList.map fun b=>(b.toNat:Int)
theorem bytesOf_length(s:ByteArray):(bytesOf s).length=s.size:=by simp_all [bytesOf,length_map,Array.length_toList]
theorem eY(s:ByteArray):bF (bytesOf s):=fun x hx=>by
 obtain⟨b,_,rfl⟩:=mem_map.1 hx;have :=b.toNat_lt;omega
theorem JU(s:ByteArray):strOfNums (bytesOf s)=s:=by
 unfold strOfNums bytesOf;rw[map_map];obtain⟨⟨l⟩⟩:=s;congr 1;show (List.map _ l).toArray=l.toArray;congr 1
 conv=>rhs;rw[←map_id l]
 apply map_congr_left;intro b _;show UInt8.ofNat ((b.toNat:Int)).toNat=b;simp
theorem WL.He{S T E:Nat}(hk:k=bytesOf s)(hS:P.underlying S=some .string)(hT:P.underlying T=some (.slice E))(hE:P.underlying E=some (.int .u8))(hx:OV true e x (.string s))(hd:blt d n=true)
 (h:∀b cap cs,s.size≤cap→(∀H':List aH,Seq K (lZ b E cs::H') (some ⟨b,0,none⟩) s.size 1 (ints .u8 k))→WL Mo P K n ops rest Q ((d,.slice (some ⟨b,0,none⟩) s.size cap)::e) (lZ b E cs::H)) :
 WL Mo P K n ops (⟨some d,.convert S T x,ty,pos,af,none⟩::rest) Q e H:=by
 refine WL.RQ (R:=fun u H'=>∃b cap cs,u= .slice (some ⟨b,0,none⟩) s.size cap∧H'=lZ b E cs::H∧s.size≤cap∧∀H':List aH,Seq K (lZ b E cs::H') (some ⟨b,0,none⟩) s.size 1 (ints .u8 k)) (fun a w ha hw=> ?_) hd (fun u H' ⟨b,cap,cs,e1,e2,e3,e4⟩=>by subst e1 e2;exact h b cap cs e3 e4);have hr:=Lib.run_convert_string_bytes (P:=P) w S T E s hS hT hE;refine⟨_,Lib.bytesWorld w E s,lZ w.heap.size E (Lib.bytesCells w E s).toList::H, ?_,⟨hw.1.grow ?_ ?_ ?_ ?_,hw.2.push ?_ (fun b hb=>Lib.bytesWorld_at_old w E s b hb) ⟨((Lib.bytesCells w E s).size,(Lib.bytesCells w E s).size+1), ?_⟩ (fun b hb=> ?_)⟩,w.heap.size,grownCap w s.size 0 E,_,rfl,rfl,grownCap_ge w s.size 0 E,fun H'=>⟨?_,fun i v hi=> ?_⟩⟩
 ·show ((do pure (Next.value (←convert S T (a.eval x)))):Sem Next).run P w=_;rw[hx.ev rfl ha];simp[hr]
 ·simp[Lib.bytesWorld,World.freeze]<;>rfl
 ·simp[Lib.bytesWorld,World.freeze]<;>rfl
 ·simp[Lib.bytesWorld,World.freeze]<;>rfl
 ·rw[Lib.bytesWorld_size];omega
 ·rw[Lib.bytesWorld_size];omega
 ·have :=Lib.bytesWorld_at_new w E s
  simpa using this
 ·have hb:b=w.heap.size:=hb;rw[Lib.bytesWorld_size];omega
 ·rw[hk,bR,bytesOf_length,Nat.mul_one]
 ·rw[hk] at hi;have GQ:i<s.size:=by
   rcases Nat.lt_or_ge i s.size with h | h
   ·exact h
   ·rw[getElem?_eq_none (by rw[bR,bytesOf_length];exact h)] at hi;cases hi
  have hg:(Lib.bytesCells w E s).toList[i]? =some v:=by
   rw[←hi];unfold Lib.bytesCells ints bytesOf;have JQ:s.data.size=s.size:=rfl;have akM:i<s.data.toList.length:=by rw[Array.length_toList];exact GQ
   simp[Array.getElem?_append,JQ,GQ];rw[getElem?_append_left (by rw[length_map];exact akM),getElem?_map,getElem?_eq_getElem akM];rfl
  have :=Rd.aeZ (K:=K) (H:=H') (b:=w.heap.size) (T:=E) (o:=i) hg
  simpa [jM] using this
def strs(ss:List ByteArray):List Value:=ss.map Value.string
theorem Seq.agK(h:Seq K H A m 1 (strs ss))(hi:i<m):Rd K H (A.map (·.add (i*1))) (.string (ss.getD i ByteArray.empty)):=by
 have hl:ss.length=m:=by have :=h.len;simpa [strs] using this
 have :=h.rd i (.string (ss.getD i ByteArray.empty)) (by simp[strs,getD,hl,hi])
 rwa [Nat.mul_one]
theorem aeT{H:Type}{enc:TypeId×Value→H}{d:DataW H}(ht:P.underlying t=some (.slice e))(he:P.underlying e=some .string)
 (hc:P.cellsOf e=1) (JE:Value.okWide P W r base t v) (h:DataW.Trod enc P W 0 (fun _=>true) true t v d p) :
 ∃ A m cap ss,v= .slice A m cap∧Seq W [Old W] A m 1 (strs ss)∧ss.length=m∧m≤maxLen∧(∀s∈ss,s.size≤maxLen):=by
 obtain⟨a0,len,cap,rfl⟩:=okWide_slice ht JE;obtain⟨fuel,hf⟩:=h;rcases Deep.open_strs ht he hc hf with ⟨qX,hx⟩ | ⟨a,len',cap',m,Sx,qX,_,hl,hm,hmm,hx,Wy⟩
 ·simp[Value.cells] at qX;obtain⟨rfl,rfl,rfl⟩:=qX;exact⟨none,0,0,[],rfl,Seq.nil,rfl,zero_le _,fun s hs=>(by cases hs)⟩
 ·simp[Value.cells] at qX;obtain⟨rfl,rfl,rfl⟩:=qX;simp only[if_true] at hmm;refine⟨some a,len,cap,(List.range len).map Sx,rfl,⟨by simp[strs],fun i v hi w hw=> ?_⟩,by simp,by omega,fun s hs=> ?_⟩
  ·have GQ:i<len:=by
    rcases Nat.lt_or_ge i len with h | h
    ·exact h
    ·rw[getElem?_eq_none (by simp[strs];exact h)] at hi;cases hi
   have h1:=(Wy i ay).1;have hb:=World.block_lt_of_cell? _ _ h1;refine⟨_,rfl,((hw.below.cell hb).trans h1).trans ?_⟩;rw[←hi];simp[strs,GQ]
  ·obtain⟨i,hi,rfl⟩:=mem_map.1 hs;exact (Wy i (by have :=mem_range.1 hi;omega)).2
end Go.Sl
