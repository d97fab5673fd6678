import Derived.Test.YtcedojacbhnbiaaGreatP2
import Derived.Lib.ConvBytes
import Derived.Deep.Strs
set_option autoImplicit true
set_option linter.all false
set_option maxRecDepth 20000
set_option relaxedAutoImplicit true
namespace Go.Sl
open Go.RowKit Go.Proofs.YtcedojacbhnbiaaGreat List Nat
abbrev PE:=Nat×Nat×Value×Bool
structure AE where
 i:Nat
 d:Nat
 A:Nat→aH
 s:Nat
 B:Nat→aH
structure ZE where
 s:Nat
 A:aH
 B:aH
def dep(af:Array Edge)(k:Nat):Bool:=af.toList.any λg=>Region.binds .any g&&beq g.on k
def pV(af:Array Edge)(ps:List PE):Env:=(ps.filter λp=>dep af p.1).map λp=>(p.2.1,p.2.2.1)
theorem ab2(h:dep af k=true):∃g∈af,Region.binds .any g=true∧g.on=k:=by
 unfold dep at h;obtain⟨g,b,a⟩:=any_eq_true.1 h;simp only[Bool.and_eq_true] at a;exact⟨g,by simpa using b,a.1,eq_of_beq_eq_true a.2⟩
theorem tQ:look (e++e') t=(look e t).or (look e' t):=by
 induction e with
 | nil=>rfl
 | cons p e ih =>
  obtain⟨k,v⟩:=p;simp only[cons_append,look];cases beq k t<;>simp[ih]
theorem Sub.app(h:Sub e e'):Sub (e++e') e':=λt v a=>by
 rw[tQ] at a;cases hl:look e t with
 | none=>rw[hl] at a;simpa using a
 | some u=>rw[hl] at a;simp at a;subst a;exact h t u hl
theorem iE(h:Sub X e):look ((d,v)::(X++e)) t=if d=t then some v else look e t:=by
 simp only[look];by_cases a:d=t
 ·subst a;simp
 ·have :beq d t=false:=by cases h:beq d t with | false=>rfl | true=>exact absurd (eq_of_beq_eq_true h) a
  rw[this,cond_false,if_neg a,tQ];cases hl:look X t with
  | none=>simp
  | some u=>simp[h t u hl]
theorem zD(h:Sub X e):look (X++e) t=look e t:=by
 rw[tQ];cases hl:look X t with
 | none=>simp
 | some u=>simp[h t u hl]
theorem mq{α β:Type}{f:α→β}:∀ {l:List α},(l.map f).Nodup→∀ {x y:α},x∈l→y∈l→f x=f y→x=y
 | z::l,hn,x,y,hx,hy,h=>by
  simp only[map_cons,nodup_cons] at hn;rcases mem_cons.1 hx with h1 | h1<;>rcases mem_cons.1 hy with h2 | h2
  ·rw[h1,h2]
  ·exact absurd (by rw[←h1,h];exact mem_map_of_mem (f:=f) h2) hn.1
  ·exact absurd (by rw[←h2,←h];exact mem_map_of_mem (f:=f) h1) hn.1
  ·exact mq hn.2 h1 h2 h
theorem Sub.two(h1:Sub e1 e)(h2:Sub e2 e):Sub (e1++e2) e:=λt v a=>by
 rw[tQ] at a;cases hl:look e1 t with
 | none=>rw[hl] at a;exact h2 t v (by simpa using a)
 | some u=>rw[hl] at a;simp at a;subst a;exact h1 t u hl
theorem Sub.map{α:Type}{f:α→Nat×Value}{l:List α}(h:∀x∈l,look e (f x).1=some (f x).2):Sub (l.map f) e:=by
 induction l with
 | nil=>exact Sub.nil e
 | cons x l ih=>exact Sub.cons (h x (.head _)) (ih λy a=>h y (.tail _ a))
def adn(b:Bool)(eo e0:Env):Env:=if b then eo++e0 else e0
def Iw(ds:List Deferred)(P:Program)(K:World)(n:Nat)(ops:Array Oper)(e0 eo:Env)(F A0:List aH)(ps:List PE)(p:PE):Prop :=
 ∃ o,ops[p.1]? =some o∧∃qs,(∀q∈qs,q∈ps)∧∀r H' Q',(∀w,Sat K w H'→Sat K w (if p.2.2.2 then A0 else F))→WL ⟨none,ds⟩ P K n ops [] Q' ((p.2.1,p.2.2.1)::(pV o.after qs++(adn p.2.2.2 eo e0++r))) H'→WL ⟨none,ds⟩ P K n ops [o] Q' (pV o.after qs++(adn p.2.2.2 eo e0++r)) H'
def abM(ds:List Deferred)(P:Program)(K:World)(n:Nat)(ops:Array Oper)(e0:Env)(x:AE):Prop :=
 ∃ o,ops[x.i]? =some o∧∀r H' Q',(∀b,WL ⟨none,ds⟩ P K n ops [] Q' ((x.d,ptr b 0)::(e0++r)) (x.A b::H'))→WL ⟨none,ds⟩ P K n ops [o] Q' (e0++r) H'
def Lu(ds:List Deferred)(P:Program)(K:World)(n:Nat)(ops:Array Oper)(e0:Env)(ps:List PE)(x:AE):Prop :=
 ∃ o,ops[x.s]? =some o∧dep o.after x.i=true∧∃qs,(∀q∈qs,q∈ps)∧∀r b H' Q',WL ⟨none,ds⟩ P K n ops [] Q' ((x.d,ptr b 0)::(pV o.after qs++(e0++r))) (x.B b::H')→WL ⟨none,ds⟩ P K n ops [o] Q' ((x.d,ptr b 0)::(pV o.after qs++(e0++r))) (x.A b::H')
def Jd(ds:List Deferred)(P:Program)(K:World)(n:Nat)(ops:Array Oper)(e0:Env)(ps:List PE)(z:ZE):Prop :=
 ∃ o,ops[z.s]? =some o∧∃qs,(∀q∈qs,q∈ps)∧∀r H' Q',WL ⟨none,ds⟩ P K n ops [] Q' (pV o.after qs++(e0++r)) (z.B::H')→WL ⟨none,ds⟩ P K n ops [o] Q' (pV o.after qs++(e0++r)) (z.A::H')
def uo{α:Type}(p:α→Prop):List α→Prop
 | []=>True
 | x::l=>p x∧uo p l
theorem uo.c{α:Type}{p:α→Prop}{x:α}{l:List α}(h:p x)(t:uo p l):uo p (x::l):=⟨h,t⟩
theorem uo.mem{α:Type}{p:α→Prop}:∀ {l:List α},uo p l→∀x∈l,p x
 | y::l,h,x,hx=>by
  rcases mem_cons.1 hx with rfl | hx
  ·exact h.1
  ·exact uo.mem h.2 x hx
def sK(x:AE)(listed:Array Bool)(bs:Nat→Nat):aH:=if listed.getD x.s false then x.B (bs x.i) else if listed.getD x.i false then x.A (bs x.i) else Zt
def uh(xs:List AE)(listed:Array Bool)(bs:Nat→Nat):List aH:=xs.map λx=>sK x listed bs
def oL(zs:List ZE)(listed:Array Bool):List aH:=zs.map λz=>if listed.getD z.s false then z.B else z.A
theorem QO:∀ {zs:List ZE},z∈zs→(zs.map (·.s)).Nodup→(∀y∈zs,y.s≠z.s→L'.getD y.s false=listed.getD y.s false)→∃l1 l2,oL zs listed=l1++(if listed.getD z.s false then z.B else z.A)::l2∧oL zs L'=l1++(if L'.getD z.s false then z.B else z.A)::l2
 | y::zs,hz,vZ,ho=>by
  simp only[map_cons,nodup_cons] at vZ;rcases mem_cons.1 hz with rfl | hz
  ·refine⟨[],oL zs listed,Z, ?_⟩;show _::oL zs L'=_::oL zs listed;congr 1;unfold oL;apply map_congr_left;intro q hq;rw[ho q (.tail _ hq) (λe=>vZ.1 (e ▸ mem_map_of_mem (f:=λx:ZE=>x.s) hq))]
  ·obtain⟨l1,l2,h1,h2⟩:=QO hz vZ.2 λq hq=>ho q (.tail _ hq);refine⟨(if listed.getD y.s false then y.B else y.A)::l1,l2, ?_, ?_⟩
   ·show _::oL zs listed=_;rw[h1];rfl
   ·show (if L'.getD y.s false then y.B else y.A)::oL zs L'=_;rw[h2,ho y (.head _) (λe=>vZ.1 (e ▸ mem_map_of_mem (f:=λx:ZE=>x.s) hz))];rfl
structure StU(ops:Array Oper)(zs:List ZE)(ps:List PE)(xs:List AE)(e0 eo:Env)(listed:Array Bool)(bs:Nat→Nat)(e:Env):Prop where
 base:Sub e0 e
 p:∀p∈ps,listed.getD p.1 false=true→look e p.2.1=some p.2.2.1
 a:∀x∈xs,listed.getD x.i false=true→look e x.d=some (ptr (bs x.i) 0)
 c:∀x∈xs,listed.getD x.s false=true→listed.getD x.i false=true
 f:(∀p∈ps,(look eo p.2.1).isSome=true→listed.getD p.1 false=false)→Sub eo e
 g:∀p∈ps,(look eo p.2.1).isSome=true→listed.getD p.1 false=true→∀o,ops[p.1]? =some o→∀k,dep o.after k=true→listed.getD k false=true
 z:∀z∈zs,listed.getD z.s false=true→∀o,ops[z.s]? =some o→∀k,dep o.after k=true→listed.getD k false=true
def ahg(ops:Array Oper)(e0 eo:Env)(ps:List PE)(xs:List AE)(zs:List ZE):Bool :=
 decide ((ps.map (·.2.1)++xs.map (·.d)).Nodup)&&(ps.map (·.2.1)++xs.map (·.d)).all (λd=>(look e0 d).isNone)&&decide ((xs.map (·.i)++xs.map (·.s)).Nodup) &&
 (List.range ops.size).all (λk=>(ps.any (λp=>beq p.1 k)||xs.any (λx=>beq x.i k)||xs.any (λx=>beq x.s k)||zs.any (λz=>beq z.s k))&&((ops[k]?).map λo=>o.after.toList.all λg=> !Region.binds .any g||blt g.on k).getD true)
 && ps.all (λp=>xs.all λx=> !beq p.1 x.i&& !beq p.1 x.s)&&decide ((ps.map (·.1)).Nodup)&&decide ((zs.map (·.s)).Nodup)&&ps.all (λp=>zs.all λz=> !beq p.1 z.s)&&xs.all (λx=>zs.all λz=> !beq x.i z.s&& !beq x.s z.s)&&ps.all (λp=> !p.2.2.2||zs.all λz=>((ops[z.s]?).map λo=>dep o.after p.1).getD false)&&ps.all (λp=> !p.2.2.2||ps.all λq=>(look eo q.2.1).isNone||((ops[q.1]?).map λo=>dep o.after p.1).getD false)&&xs.all (λx=>(look eo x.d).isNone)
theorem filter_lt{α:Type}{p q:α→Bool}:∀ {l:List α},(∀x∈l,q x=true→p x=true)→(∃x∈l,p x=true∧q x=false)→(l.filter q).length<(l.filter p).length
 | [],_,⟨x,hx,_⟩=>by cases hx
 | y::l,h,⟨x,hx,h1,h2⟩=>by
  have hle:∀ {l:List α},(∀x∈l,q x=true→p x=true)→(l.filter q).length≤(l.filter p).length:=by
   intro l
   induction l with
   | nil=>intro _;exact Nat.le_refl _
   | cons z l ih =>
    intro h;have a:=ih λx hx=>h x (.tail _ hx);have b:=h z (.head _);cases hq:q z with
    | true=>simp[hq,b hq,a]
    | false=>cases hp:p z<;>simp[hq,hp]<;>omega
  have d:=hle (l:=l) λx hx=>h x (.tail _ hx);rcases mem_cons.1 hx with rfl | hx
  ·simp[h1,h2];omega
  ·have a:=filter_lt (l:=l) (λx hx=>h x (.tail _ hx)) ⟨x,hx,h1,h2⟩;have b:=h y (.head _);cases hq:q y with
   | true=>simp[hq,b hq];exact a
   | false=>cases hp:p y<;>simp[hq,hp]<;>omega
theorem NJ:∀ {xs:List AE},x∈xs→(xs.map (·.i)).Nodup→(∀y∈xs,y.i≠x.i→sK y L' bs'=sK y listed bs)→∃l1 l2,uh xs listed bs=l1++sK x listed bs::l2∧uh xs L' bs'=l1++sK x L' bs'::l2
 | y::xs,hx,vZ,ho=>by
  simp only[map_cons,nodup_cons] at vZ;rcases mem_cons.1 hx with rfl | hx
  ·refine⟨[],uh xs listed bs,Z, ?_⟩;show _::uh xs L' bs'=_::uh xs listed bs;congr 1;unfold uh;apply map_congr_left;intro z hz;exact ho z (.tail _ hz) (λe=>vZ.1 (e ▸ mem_map_of_mem (f:=λx:AE=>x.i) hz))
  ·obtain⟨l1,l2,h1,h2⟩:=NJ hx vZ.2 λz hz=>ho z (.tail _ hz);refine⟨sK y listed bs::l1,l2, ?_, ?_⟩
   ·show _::uh xs listed bs=_;rw[h1];rfl
   ·show sK y L' bs'::uh xs L' bs'=_;rw[h2,ho y (.head _) (λe=>vZ.1 (e ▸ mem_map_of_mem (f:=λx:AE=>x.i) hx))];rfl
theorem Sat.adD(h:Sat K w (A::(l1++Zt::l2))):Sat K w (l1++A::l2):=by
 have b:Sat K w (Zt::(l1++A::l2)):=⟨h.1,bO.perm (by
  refine Perm.trans (perm_middle (a:=A) (l₁:=[]) (l₂:=l1++Zt::l2)) ?_;simp only[nil_append];refine Perm.trans (Perm.cons A (perm_middle (a:=Zt) (l₁:=l1) (l₂:=l2))) (Perm.trans (Perm.swap Zt A (l1++l2)) ?_);exact Perm.cons Zt (perm_middle (a:=A) (l₁:=l1) (l₂:=l2)).symm) h.2⟩
 exact b.tail
theorem Sat.mid(h:Sat K w (l1++A::l2)):Sat K w (A::(l1++l2)):=⟨h.1,bO.perm perm_middle h.2⟩
theorem Sat.ae6(h:Sat K w (A::(l1++l2))):Sat K w (l1++A::l2):=⟨h.1,bO.perm perm_middle.symm h.2⟩
theorem WA.sub(hE:Sub E e)(hH:∀w,Sat K w H→Sat K w H')(h:WA Mo P K n F0 ops Q fuel listed E H'):WA Mo P K n F0 ops Q fuel listed e H:=λa w d b=>h a w (d.sub hE) (hH w b)
theorem iN{L:Array Bool}(h:(L.setIfInBounds j true).getD k false=true):k=j∨L.getD k false=true:=by
 by_cases e:j=k
 ·exact .inl e.symm
 ·rw[getD_set_ne false e] at h;exact .inr h
theorem NA(hp:uo (Iw ds P K n ops e0 eo F A0 ps) ps)(ha:uo (abM ds P K n ops e0) xs)(hs:uo (Lu ds P K n ops e0 ps) xs)(hz:uo (Jd ds P K n ops e0 ps) zs)(hc:ahg ops e0 eo ps xs zs=true)(hA0:∀w,Sat K w (zs.map (·.A)++F)→Sat K w A0)
 (sW:∀bs:Nat→Nat,Q ⟨none,ds⟩ .normal (ps.map (λp=>(p.2.1,p.2.2.1))++(xs.map (λx=>(x.d,ptr (bs x.i) 0))++e0)) (zs.map (·.B)++(xs.map (λx=>x.B (bs x.i))++F))) :
 ∀ (fuel:Nat) (listed:Array Bool) (bs:Nat→Nat) (e:Env),listed.size=ops.size→((List.range ops.size).filter λk=> !listed.getD k true).length≤fuel→StU ops zs ps xs e0 eo listed bs e →
  WA ⟨none,ds⟩ P K n [] ops Q fuel listed e (oL zs listed++(uh xs listed bs++F)):=by
 simp only[ahg,Bool.and_eq_true,decide_eq_true_eq,all_eq_true,mem_range,Bool.or_eq_true,Bool.not_eq_true'] at hc;obtain⟨⟨⟨⟨⟨⟨⟨⟨⟨⟨⟨vZ,Y⟩,abT⟩,ajK⟩,S⟩,am5⟩,amN⟩,x8⟩,O⟩,aoc⟩,amT⟩,Dv⟩:=hc;have aqB:∀ {L:Array Bool} {k:Nat},L.getD k false=true→k<L.size:=λ{L k} h=>by
  rcases Nat.lt_or_ge k L.size with h' | h'
  ·exact h'
  ·simp[Array.getElem?_eq_none h'] at h
 intro fuel
 induction fuel with
 | zero =>
  intro listed bs e JQ alo dL;have nT:∀k,k<ops.size→listed.getD k true=true:=λk I=>by
   rcases Bool.eq_false_or_eq_true (listed.getD k true) with h | h
   ·exact h
   ·have d:k∈(List.range ops.size).filter λk=> !listed.getD k true:=mem_filter.2 ⟨mem_range.2 I,by rw[h];rfl⟩;rw[eq_nil_of_length_eq_zero (le_zero.1 alo)] at d;cases d
  have Vz:∀k,k<ops.size→listed.getD k false=true:=λk I=>by
   have :=nT k I;simp[Array.getD,JQ,I] at this ⊢;exact this
  have KC:Region.ready .any ops listed=[]:=by
   cases hr:Region.ready .any ops listed with
   | nil=>rfl
   | cons j l =>
    have d:j∈Region.ready .any ops listed:=by rw[hr];exact .head _
    obtain⟨m,o,C,_⟩:=mem_ready.1 d;rw[nT j (Array.getElem?_eq_some_iff.1 C).1] at m;cases m
  refine WA.sub (E:=ps.map (λp=>(p.2.1,p.2.2.1))++(xs.map (λx=>(x.d,ptr (bs x.i) 0))++e0)) (H':=zs.map (·.B)++(xs.map (λx=>x.B (bs x.i))++F)) ?_ ?_ (WA.done KC (λw h=>⟨h.1,trivial⟩) (sW bs))
  ·refine Sub.two (Sub.map λp BA=>dL.p p BA ?_) (Sub.two (Sub.map λx N=>dL.a x N ?_) dL.base)
   ·obtain⟨o,d,_⟩:=hp.mem p BA;exact Vz _ (Array.getElem?_eq_some_iff.1 d).1
   ·obtain⟨o,d,_⟩:=ha.mem x N;exact Vz _ (Array.getElem?_eq_some_iff.1 d).1
  ·intro w W;have :uh xs listed bs=xs.map (λx=>x.B (bs x.i)):=by
    unfold uh sK;apply map_congr_left;intro x N;obtain⟨o,d,_⟩:=hs.mem x N;rw[Vz _ (Array.getElem?_eq_some_iff.1 d).1];rfl
   have m:oL zs listed=zs.map (·.B):=by
    unfold oL;apply map_congr_left;intro z JL;obtain⟨o,d,_⟩:=hz.mem z JL;rw[Vz _ (Array.getElem?_eq_some_iff.1 d).1];rfl
   rw[←this,←m];exact W
 | succ fuel ih =>
  intro listed bs e JQ alo dL;cases hr:Region.ready .any ops listed with
  | nil =>
   have nT:∀k,k<ops.size→listed.getD k true=true:=by
    intro k
    induction k using Nat.strongRecOn with
    | ind k ihk =>
     intro I;rcases Bool.eq_false_or_eq_true (listed.getD k true) with h | h
     ·exact h
     ·have d:k∈Region.ready .any ops listed:=mem_ready.2 ⟨h,ops[k],by simp[I],λg hg hb=>by
       have m:=(ajK k I).2;rw[Array.getElem?_eq_getElem I,Option.map_some,Option.getD_some,all_eq_true] at m;have C:=m g (by simpa using hg);rw[hb] at C;have h4:g.on<k:=by simpa using C
       have h5:=ihk g.on h4 ay;have :g.on<listed.size:=ay;simp[Array.getD,this] at h5 ⊢;exact h5⟩
      rw[hr] at d;cases d
   have hz:((List.range ops.size).filter λk=> !listed.getD k true).length≤fuel:=by
    rw[filter_eq_nil_iff.2 (λk I=>by rw[nT k (mem_range.1 I)];simp)];exact zero_le _
   have d:=ih listed bs e JQ hz dL;intro a w y3 W;have m:=d a w y3 W;cases fuel with
   | zero=>exact⟨m.1,λ_=>m.2.2,by rw[hr];simp⟩
   | succ fuel=>exact⟨m.1,m.2.1,by rw[hr];simp⟩
  | cons j0 l0 =>
   refine WA.step (λw h=>⟨h.1,trivial⟩) hr Z λj hj=> ?_;have x9:j∈Region.ready .any ops listed:=by rw[hr];exact hj
   obtain⟨x2,o,ho,y1⟩:=mem_ready.1 x9;have BF:j<ops.size:=(Array.getElem?_eq_some_iff.1 ho).1;have aeN:(listed.setIfInBounds j true).size=ops.size:=by simpa using JQ
   have aeg:∀k,dep o.after k=true→listed.getD k false=true:=λk I=>by
    obtain⟨g,d,m,rfl⟩:=ab2 I;exact y1 g d m
   have MB:listed.getD j false=false:=by
    have :j<listed.size:=ay;simp[Array.getD,this] at x2 ⊢;exact x2
   have Wu:(listed.setIfInBounds j true).getD j false=true:=by
    have :j<listed.size:=ay;simp[this]
   have U2:((List.range ops.size).filter λk=> !(listed.setIfInBounds j true).getD k true).length≤fuel:=by
    have :=filter_lt (l:=List.range ops.size) (p:=λk=> !listed.getD k true) (q:=λk=> !(listed.setIfInBounds j true).getD k true) (λk I h=>by
     by_cases e:j=k
     ·subst e;have :j<listed.size:=ay;simp[this] at h
     ·rwa [getD_set_ne true e] at h) ⟨j,by simpa using BF,by rw[x2];rfl,by
      have :j<listed.size:=ay;simp[this]⟩
    omega
   have x4:∀ {qs:List PE},(∀q∈qs,q∈ps)→Sub (pV o.after qs) e:=λ{qs} D=>Sub.map λp BA=>by
    obtain⟨d,m⟩:=mem_filter.1 BA;exact dL.p p (D p d) (aeg _ m)
   refine⟨o,ho, ?_⟩;have U:∀z∈zs,(listed.setIfInBounds j true).getD z.s false=true→∀M,ops[z.s]? =some M→∀k,dep M.after k=true→(listed.setIfInBounds j true).getD k false=true:=λz JL u M GN k I=>by
    refine getD_set_true ?_;by_cases H:z.s=j
    ·rw[H,ho] at GN;injection GN with GN;subst GN;exact aeg k I
    ·exact dL.z z JL ((iN u).resolve_left H) M GN k I
   have L9:∀p∈ps,(look eo p.2.1).isSome=true→(listed.setIfInBounds j true).getD p.1 false=true→∀M,ops[p.1]? =some M→∀k,dep M.after k=true→(listed.setIfInBounds j true).getD k false=true:=λp Bw G u M GN k I=>by
    refine getD_set_true ?_;by_cases H:p.1=j
    ·rw[H,ho] at GN;injection GN with GN;subst GN;exact aeg k I
    ·exact dL.g p Bw G ((iN u).resolve_left H) M GN k I
   have X:(∀p∈ps,(look eo p.2.1).isSome=true→(listed.setIfInBounds j true).getD p.1 false=false)→Sub eo e∧∀p∈ps,(look eo p.2.1).isSome=true→p.1≠j:=λh=>⟨dL.f (λp Bw G=>by
    cases d:listed.getD p.1 false with
    | false=>rfl
    | true=>have :=h p Bw G;rw[getD_set_true d] at this;cases this),λp Bw G he=>by
    have :=h p Bw G;rw[he,Wu] at this;cases this⟩
   have wI:=(ajK j BF).1;rcases wI with ((wI | wI) | wI) | wI
   ·obtain⟨p,Bw,y0⟩:=any_eq_true.1 wI;obtain rfl:=eq_of_beq_eq_true y0;obtain⟨M,GN,qs,U7,Wp⟩:=hp.mem p Bw;obtain rfl:o=M:=by rw[ho] at GN;injection GN
    have J:Sub (pV o.after qs++adn p.2.2.2 eo e0) e:=by
     refine Sub.two (x4 U7) ?_;unfold adn;cases kr:p.2.2.2 with
     | false=>exact dL.base
     | true =>
      refine Sub.two (dL.f λq D G=> ?_) dL.base;cases d:listed.getD q.1 false with
      | false=>rfl
      | true =>
       have m:=((amT p Bw).resolve_left (by rw[kr];simp)) q D;rcases m with m | m
       ·rw[Option.isNone_iff_eq_none] at m;rw[m] at G;cases G
       ·obtain⟨oq,x6,_⟩:=hp.mem q D;rw[x6,Option.map_some,Option.getD_some] at m;rw[dL.g q D G d oq x6 p.1 m] at MB;cases MB
    refine WL.sub (Sub.app J) cO ?_;rw[append_assoc];refine Wp e _ _ (λw W=> ?_) (WL.nil ?_)
    ·cases kr:p.2.2.2 with
     | false=>exact⟨W.1,(bO.append.1 (bO.append.1 W.2).2.1).2.1⟩
     | true =>
      have H:oL zs listed=zs.map (·.A):=by
       unfold oL;apply map_congr_left;intro z JL;have d:=(aoc p Bw).resolve_left (by rw[kr];simp) z JL;obtain⟨oz,x7,_⟩:=hz.mem z JL;rw[x7,Option.map_some,Option.getD_some] at d;cases m:listed.getD z.s false with
       | false=>rfl
       | true=>rw[dL.z z JL m oz x7 p.1 d] at MB;cases MB
      rw[H] at W;refine hA0 w ⟨W.1,(bO.append.1 (bO.perm (l':=uh xs listed bs++(zs.map (·.A)++F)) ?_ W.2)).2.1⟩;rw[←append_assoc,←append_assoc];exact Perm.append_right F perm_append_comm
    show WA _ _ _ _ _ _ _ _ _ _ _;have uH:uh xs listed bs=uh xs (listed.setIfInBounds p.1 true) bs:=by
     unfold uh sK;apply map_congr_left;intro x N;have d:=S p Bw x N;have H:p.1≠x.i:=λh=>by rw[h] at d;simp at d
     have e2:p.1≠x.s:=λh=>by rw[h] at d;simp at d
     rw[getD_set_ne false H,getD_set_ne false e2]
    have R:oL zs listed=oL zs (listed.setIfInBounds p.1 true):=by
     unfold oL;apply map_congr_left;intro z JL;rw[getD_set_ne false (λh=>by have d:=x8 p Bw z JL;rw[h] at d;simp at d)]
    rw[uH,R];have y5:∀t v,look e0 t=some v→t≠p.2.1:=λt v B h=>by
     have :=Y p.2.1 (mem_append_left _ (mem_map_of_mem (f:=λp:PE=>p.2.1) Bw));rw[←h,B] at this;cases this
    refine ih _ bs _ aeN U2 ⟨λt v B=> ?_,λq D u=> ?_,λx N u=> ?_,λx N u=> ?_,λh t v B=> ?_,L9,U⟩
    ·have pq:=Y p.2.1 (mem_append_left _ (mem_map_of_mem (f:=λp:PE=>p.2.1) Bw));rw[←append_assoc,iE J,if_neg (λh=>by rw[h,B] at pq;cases pq)];exact dL.base t v B
    ·rw[←append_assoc,iE J];by_cases H:q.1=p.1
     ·obtain rfl:=mq am5 D Bw H;simp
     ·rw[if_neg (λh=>H (by rw[mq (nodup_append.1 vZ).1 Bw D h]))];exact dL.p q D ((iN u).resolve_left H)
    ·rw[←append_assoc,iE J,if_neg (λh=>(nodup_append.1 vZ).2.2 _ (mem_map_of_mem (f:=λp:PE=>p.2.1) Bw) _ (mem_map_of_mem (f:=λx:AE=>x.d) N) h)];have d:=S p Bw x N;exact dL.a x N ((iN u).resolve_left (λh=>by rw[h] at d;simp at d))
    ·have d:=S p Bw x N;exact getD_set_true (dL.c x N ((iN u).resolve_left (λh=>by rw[h] at d;simp at d)))
    ·obtain⟨d,m⟩:=X h;rw[←append_assoc,iE J,if_neg (λhe=>m p Bw (by rw[he,B];rfl) Z)];exact d t v B
   ·obtain⟨x,Dx,x3⟩:=any_eq_true.1 wI;obtain rfl:=eq_of_beq_eq_true x3;obtain⟨M,GN,Wp⟩:=ha.mem x Dx;obtain rfl:o=M:=by rw[ho] at GN;injection GN
    refine WL.sub (Sub.app dL.base) cO<|Wp e _ _ λb=>WL.nil ?_;show WA _ _ _ _ _ _ _ _ _ _ _;have V:=(nodup_append.1 abT).1;have gL:listed.getD x.s false=false:=by
     cases h:listed.getD x.s false with
     | false=>rfl
     | true=>rw[dL.c x Dx h] at MB;cases MB
    have O4:∀y∈xs,x.i≠y.s:=λy r h=>(nodup_append.1 abT).2.2 _ (mem_map_of_mem (f:=λx:AE=>x.i) Dx) _ (mem_map_of_mem (f:=λx:AE=>x.s) r) h;obtain⟨bs',ajg⟩:∃bs':Nat→Nat,bs'=λk=>if k=x.i then b else bs k:=⟨_,Z⟩
    have EA:bs' x.i=b:=by rw[ajg];simp
    have oH:∀ {k},k≠x.i→bs' k=bs k:=λ{k} h=>by rw[ajg];simp[h]
    obtain⟨l1,l2,d,m⟩:=NJ (listed:=listed) (L':=listed.setIfInBounds x.i true) (bs:=bs) (bs':=bs') Dx V λy r pq=>by
     unfold sK;rw[getD_set_ne false (O4 y r),getD_set_ne false (λh=>pq h.symm),oH pq]
    have H:sK x listed bs=Zt:=by unfold sK;rw[gL,MB];rfl
    have e2:sK x (listed.setIfInBounds x.i true) bs'=x.A b:=by unfold sK;rw[getD_set_ne false (O4 x Dx),gL,Wu,EA];rfl
    have R:oL zs listed=oL zs (listed.setIfInBounds x.i true):=by
     unfold oL;apply map_congr_left;intro z JL;rw[getD_set_ne false (λh=>by have d:=O x Dx z JL;rw[h] at d;simp at d)]
    refine WA.sub (Sub.refl _) (λw h=> ?_) (ih _ bs' _ aeN U2 ⟨λt v B=> ?_,λq D u=> ?_,λy r u=> ?_,λy r u=> ?_,λh t v B=> ?_,L9,U⟩)
    ·rw[m,e2,←R,append_assoc,cons_append,←append_assoc];rw[d,H,append_assoc,cons_append,←append_assoc] at h;exact h.adD
    ·have pq:=Y x.d (mem_append_right _ (mem_map_of_mem (f:=λx:AE=>x.d) Dx));rw[iE dL.base,if_neg (λh=>by rw[h,B] at pq;cases pq)];exact dL.base t v B
    ·rw[iE dL.base,if_neg (λh=>(nodup_append.1 vZ).2.2 _ (mem_map_of_mem (f:=λp:PE=>p.2.1) D) _ (mem_map_of_mem (f:=λx:AE=>x.d) Dx) h.symm)];have C:=S q D x Dx;exact dL.p q D ((iN u).resolve_left (λh=>by rw[h] at C;simp at C))
    ·rw[iE dL.base];by_cases T:y.i=x.i
     ·obtain rfl:=mq V r Dx T;rw[if_pos Z,EA]
     ·rw[if_neg (λh=>T (by rw[mq (nodup_append.1 vZ).2.1 Dx r h])),oH T];exact dL.a y r ((iN u).resolve_left T)
    ·exact getD_set_true (dL.c y r ((iN u).resolve_left (λh=>O4 y r h.symm)))
    ·rw[iE dL.base,if_neg (λhe=>by have :=Dv x Dx;rw[he,B] at this;cases this)];exact (X h).1 t v B
   ·obtain⟨x,Dx,x3⟩:=any_eq_true.1 wI;obtain rfl:=eq_of_beq_eq_true x3;obtain⟨M,GN,y2,qs,U7,Wp⟩:=hs.mem x Dx;obtain rfl:o=M:=by rw[ho] at GN;injection GN
    have J:=x4 U7;have V:=(nodup_append.1 abT).1;have x5:=(nodup_append.1 abT).2.1;have x0:=aeg _ y2;have O4:∀y∈xs,x.s≠y.i:=λy r h=>(nodup_append.1 abT).2.2 _ (mem_map_of_mem (f:=λx:AE=>x.i) r) _ (mem_map_of_mem (f:=λx:AE=>x.s) Dx) h.symm;obtain⟨l1,l2,d,m⟩:=NJ (listed:=listed) (L':=listed.setIfInBounds x.s true) (bs:=bs) (bs':=bs) Dx V λy r pq=>by
     unfold sK;rw[getD_set_ne false (O4 y r),getD_set_ne false (λh=>pq (by rw[mq x5 Dx r h]))]
    have H:sK x listed bs=x.A (bs x.i):=by unfold sK;rw[MB,x0];rfl
    have e2:sK x (listed.setIfInBounds x.s true) bs=x.B (bs x.i):=by unfold sK;rw[Wu];rfl
    have R:oL zs listed=oL zs (listed.setIfInBounds x.s true):=by
     unfold oL;apply map_congr_left;intro z JL;rw[getD_set_ne false (λh=>by have d:=O x Dx z JL;rw[h] at d;simp at d)]
    have hE:Sub ((x.d,ptr (bs x.i) 0)::(pV o.after qs++(e0++e))) e:=Sub.cons (dL.a x Dx x0) (Sub.app (Sub.two J dL.base) |> λh=>by rwa [append_assoc] at h);refine WL.sub hE (λw h=> ?_) (Wp e (bs x.i) (oL zs listed++l1++(l2++F)) _ (WL.nil ?_))
    ·rw[d,H,append_assoc,cons_append,←append_assoc] at h;exact h.mid
    ·show WA _ _ _ _ _ _ _ _ _ _ _;refine WA.sub (Sub.refl _) (λw h=> ?_) (ih _ bs _ aeN U2 ⟨λt v B=> ?_,λq D u=> ?_,λy r u=> ?_,λy r u=> ?_,λh t v B=> ?_,L9,U⟩)
     ·rw[m,e2,←R,append_assoc,cons_append,←append_assoc];exact h.ae6
     ·have pq:=Y x.d (mem_append_right _ (mem_map_of_mem (f:=λx:AE=>x.d) Dx));rw[←append_assoc,iE (Sub.two J dL.base),if_neg (λh=>by rw[h,B] at pq;cases pq)];exact dL.base t v B
     ·rw[←append_assoc,iE (Sub.two J dL.base),if_neg (λh=>(nodup_append.1 vZ).2.2 _ (mem_map_of_mem (f:=λp:PE=>p.2.1) D) _ (mem_map_of_mem (f:=λx:AE=>x.d) Dx) h.symm)];have C:=S q D x Dx;exact dL.p q D ((iN u).resolve_left (λh=>by rw[h] at C;simp at C))
     ·rw[←append_assoc,iE (Sub.two J dL.base)];have C:=(iN u).resolve_left (λh=>O4 y r h.symm);by_cases T:x.d=y.d
      ·obtain rfl:=mq (nodup_append.1 vZ).2.1 Dx r T;rw[if_pos Z]
      ·rw[if_neg T];exact dL.a y r C
     ·refine getD_set_true ?_;by_cases T:y.s=x.s
      ·obtain rfl:=mq x5 r Dx T;exact x0
      ·exact dL.c y r ((iN u).resolve_left T)
     ·rw[←append_assoc,iE (Sub.two J dL.base),if_neg (λhe=>by have :=Dv x Dx;rw[he,B] at this;cases this)];exact (X h).1 t v B
   ·obtain⟨z,JL,y4⟩:=any_eq_true.1 wI;obtain rfl:=eq_of_beq_eq_true y4;obtain⟨M,GN,qs,U7,Wp⟩:=hz.mem z JL;obtain rfl:o=M:=by rw[ho] at GN;injection GN
    have J:=x4 U7;obtain⟨l1,l2,d,m⟩:=QO (listed:=listed) (L':=listed.setIfInBounds z.s true) JL amN λy r pq=>getD_set_ne false (λh=>pq h.symm);rw[MB] at d;rw[Wu] at m;have uH:uh xs listed bs=uh xs (listed.setIfInBounds z.s true) bs:=by
     unfold uh sK;apply map_congr_left;intro x N;have d:=O x N z JL;have H:z.s≠x.i:=λh=>by rw[h] at d;simp at d
     have e2:z.s≠x.s:=λh=>by rw[h] at d;simp at d
     rw[getD_set_ne false H,getD_set_ne false e2]
    refine WL.sub (Sub.app (Sub.two J dL.base)) (λw h=> ?_) (by
     rw[append_assoc];exact Wp e (l1++(l2++(uh xs listed bs++F))) _ (WL.nil (by
      show WA _ _ _ _ _ _ _ _ _ _ _;refine WA.sub (Sub.refl _) (λw h=> ?_) (ih _ bs _ aeN U2 ⟨λt v B=> ?_,λq D u=> ?_,λy r u=> ?_,λy r u=> ?_,λh t v B=> ?_,L9,U⟩)
      ·rw[m,←uH,append_assoc];exact h.ae6
      ·rw[←append_assoc,zD]
       ·exact dL.base t v B
       ·exact Sub.two J dL.base
      ·rw[←append_assoc,zD (Sub.two J dL.base)];have C:=x8 q D z JL;exact dL.p q D ((iN u).resolve_left (λh=>by rw[h] at C;simp at C))
      ·rw[←append_assoc,zD (Sub.two J dL.base)];have C:=O y r z JL;exact dL.a y r ((iN u).resolve_left (λh=>by rw[h] at C;simp at C))
      ·have C:=O y r z JL;exact getD_set_true (dL.c y r ((iN u).resolve_left (λh=>by rw[h] at C;simp at C)))
      ·rw[←append_assoc,zD (Sub.two J dL.base)];exact (X h).1 t v B)))
    rw[d,append_assoc] at h;exact h.mid
theorem Sat.aiZ{α:Type}{f:α→aH}(hf:∀x,f x=Zt):∀ {xs:List α},Sat K w F→Sat K w (xs.map f++F)
 | [],h=>h
 | x::xs,h=>by rw[map_cons,hf,cons_append];exact (Sat.aiZ hf h).emp
def l8(l:List Nat)(e:Env):Env:=e.filter λp=> !l.any (p.1== ·)
theorem Sub.l8(l:List Nat):∀ {e:Env},Sub (Sl.l8 l e) e
 | []=>Sub.nil _
 | (k,v)::e=>λt u h=>by
  have ih:=Sub.l8 l (e:=e) t u;unfold Sl.l8 at h ih;rw[filter_cons] at h;simp only[look];by_cases d:(!l.any (k== ·))=true
  ·rw[if_pos d] at h;simp only[look] at h;cases hb:beq k t with
   | true=>rw[hb] at h;exact h
   | false=>rw[hb] at h;exact ih h
  ·rw[if_neg d] at h;have j:=ih h;cases hb:beq k t with
   | false=>exact j
   | true =>
    obtain rfl:=eq_of_beq_eq_true hb;exfalso;have Gg:l.any (k== ·)=true:=by simpa using d
    have b:∀e:Env,look (e.filter λp=> !l.any (p.1== ·)) k=none:=by
     intro e
     induction e with
     | nil=>rfl
     | cons p e ihe =>
      rw[filter_cons];by_cases a:(!l.any (p.1== ·))=true
      ·rw[if_pos a];simp only[look];cases oH:beq p.1 k with
       | true=>rw[eq_of_beq_eq_true oH,Gg] at a;cases a
       | false=>exact ihe
      ·rw[if_neg a];exact ihe
    rw[b] at h;cases h
def UA(ds:List Deferred)(P:Program)(K:World)(n:Nat)(ops:Array Oper)(e0 eo:Env)(F A0:List aH)(G:Prop)(ps:List PE)(ys:List (Nat×Nat×(Nat→aH)))(xs:List AE)(zs:List ZE):Prop :=
 uo (Iw ds P K n ops e0 eo F A0 ps) ps→uo (λy=>∀s B,abM ds P K n ops e0 ⟨y.1,y.2.1,y.2.2,s,B⟩) ys→uo (abM ds P K n ops e0) xs→uo (Lu ds P K n ops e0 ps) xs→uo (Jd ds P K n ops e0 ps) zs→G
theorem uo.mono{α:Type}{p q:α→Prop}(h:∀x,p x→q x):∀ {l:List α},uo p l→uo q l
 | [],_=>trivial
 | _::_,h1=>⟨h _ h1.1,uo.mono h h1.2⟩
theorem Iw.up{ds:List Deferred}{P:Program}{K:World}{n:Nat}{e0 eo:Env}{F A0:List aH}{ops:Array Oper}{ps:List PE}{p q:PE}(h:Iw ds P K n ops e0 eo F A0 ps p):Iw ds P K n ops e0 eo F A0 (q::ps) p:=by obtain⟨o,b,a,e,j⟩:=h;exact⟨o,b,a,λx d=> .tail _ (e x d),j⟩
theorem Lu.up{ds:List Deferred}{P:Program}{K:World}{n:Nat}{e0:Env}{ops:Array Oper}{ps:List PE}{x:AE}{q:PE}(h:Lu ds P K n ops e0 ps x):Lu ds P K n ops e0 (q::ps) x:=by obtain⟨o,b,k,a,e,j⟩:=h;exact⟨o,b,k,a,λx d=> .tail _ (e x d),j⟩
theorem Jd.up{ds:List Deferred}{P:Program}{K:World}{n:Nat}{e0:Env}{ops:Array Oper}{ps:List PE}{x:ZE}{q:PE}(h:Jd ds P K n ops e0 ps x):Jd ds P K n ops e0 (q::ps) x:=by obtain⟨o,b,a,e,j⟩:=h;exact⟨o,b,a,λx d=> .tail _ (e x d),j⟩
theorem UA.p{p:PE}(hp:Iw ds P K n ops e0 eo F A0 ps p)(h:UA ds P K n ops e0 eo F A0 G (p::ps) ys xs zs):UA ds P K n ops e0 eo F A0 G ps ys xs zs :=
 λb e j a d=>h ⟨hp.up,b.mono λ_=>Iw.up⟩ e j (a.mono λ_=>Lu.up) (d.mono λ_=>Jd.up)
theorem UA.val{ds:List Deferred}{P:Program}{K:World}{n:Nat}{e0 eo:Env}{F A0:List aH}{ops:Array Oper}{ps:List PE}{xs:List AE}{zs:List ZE}{G:Prop}{ys:List (Nat×Nat×(Nat→aH))}{d:Nat}{op:Op}{ty:TypeId}{pos:String}{af:Array Edge}{v:Value}(i:Nat)(ho:ops[i]? =some ⟨some d,op,ty,pos,af,none⟩)(hv:∀r,eX ⟨none,ds⟩ P K n true (pV af ps++(e0++r)) F ⟨some d,op,ty,pos,af,none⟩ v)(h:UA ds P K n ops e0 eo F A0 G ((i,d,v,false)::ps) ys xs zs)(hd:blt d n=true:=by rfl):UA ds P K n ops e0 eo F A0 G ps ys xs zs :=
 UA.p (p:=(i,d,v,false)) ⟨_,ho,ps,λ_ h=>h,λr m l k h=>WL.val (λe a w b j=>hv r e a w b (k w j)) hd h⟩ h
theorem UA.Ru{ds:List Deferred}{P:Program}{K:World}{n:Nat}{e0 eo:Env}{F A0:List aH}{ops:Array Oper}{ps:List PE}{xs:List AE}{zs:List ZE}{G:Prop}{ys:List (Nat×Nat×(Nat→aH))}{d:Nat}{op:Op}{ty:TypeId}{pos:String}{af:Array Edge}{v:Value}(i:Nat)(ho:ops[i]? =some ⟨some d,op,ty,pos,af,none⟩)(hv:∀r,eX ⟨none,ds⟩ P K n true (pV af ps++((eo++e0)++r)) A0 ⟨some d,op,ty,pos,af,none⟩ v)(h:UA ds P K n ops e0 eo F A0 G ((i,d,v,true)::ps) ys xs zs)(hd:blt d n=true:=by rfl):UA ds P K n ops e0 eo F A0 G ps ys xs zs :=
 UA.p (p:=(i,d,v,true)) ⟨_,ho,ps,λ_ h=>h,λr m l k h=>WL.val (λe a w b j=>hv r e a w b (k w j)) hd h⟩ h
theorem UA.call{ds:List Deferred}{P:Program}{K:World}{n:Nat}{e0 eo:Env}{F A0:List aH}{ops:Array Oper}{ps:List PE}{xs:List AE}{zs:List ZE}{G:Prop}{ys:List (Nat×Nat×(Nat→aH))}{d:Nat}{ty:TypeId}{pos:String}{af:Array Edge}{f:FuncId}{ys':List Operand}{vs:List Value}{ats:Array TypeId}{v:Value}(i:Nat)(ho:ops[i]? =some ⟨some d,.call ⟨.value (.func f),ys'.toArray,ats⟩,ty,pos,af,none⟩)(hf:bP P f)
 (gL:∀r,Ga true (pV af ps++(e0++r)) ys' vs) (hT:∀H',(∀w,Sat K w H'→Sat K w F)→aK P f vs.toArray K H' v) (h:UA ds P K n ops e0 eo F A0 G ((i,d,v,false)::ps) ys xs zs) (hd:blt d n=true:=by rfl):UA ds P K n ops e0 eo F A0 G ps ys xs zs :=
 UA.p (p:=(i,d,v,false)) ⟨_,ho,ps,λ_ h=>h,λr H' j e h=>WL.call hf (gL r) (hT H' e) hd (λk ou ⟨b,a⟩=>by subst b a;exact h)⟩ h
theorem UA.alloc{ds:List Deferred}{P:Program}{K:World}{n:Nat}{e0 eo:Env}{F A0:List aH}{ops:Array Oper}{ps:List PE}{xs:List AE}{zs:List ZE}{G:Prop}{ys:List (Nat×Nat×(Nat→aH))}{d T:Nat}{ty:TypeId}{pos:String}{af:Array Edge}{z:Value}{cs:List Value}(i:Nat)(ho:ops[i]? =some ⟨some d,.alloc T,ty,pos,af,none⟩)(hz:∀w,(zeroValue T).run P w= .ok z w)(hc:z.cells.toList=cs)
 (h:UA ds P K n ops e0 eo F A0 G ps ((i,d,λb=>ah b T cs)::ys) xs zs) (hd:blt d n=true:=by rfl):UA ds P K n ops e0 eo F A0 G ps ys xs zs :=
 λa e j k l=>h a ⟨λs B=>⟨_,ho,λr u m h=>WL.alloc hz hc hd h⟩,e⟩ j k l
theorem UA.store{ds:List Deferred}{P:Program}{K:World}{n:Nat}{e0 eo:Env}{F A0:List aH}{ops:Array Oper}{ps:List PE}{xs:List AE}{zs:List ZE}{G:Prop}{ys:List (Nat×Nat×(Nat→aH))}{i d T m:Nat}{ty:TypeId}{pos:String}{af:Array Edge}{x y:Operand}{cs cs':List Value}{v:Value}(s q:Nat)(ho:ops[s]? =some ⟨none,.store T x y,ty,pos,af,none⟩)(hq:ys[q]? =some (i,d,λb=>ah b T cs))(hT:∀w,(sizeOf T).run P w= .ok m w)
 (hx:∀r b,OV true ((d,ptr b 0)::(pV af ps++(e0++r))) x (ptr b 0)) (hy:∀r b,OV true ((d,ptr b 0)::(pV af ps++(e0++r))) y v) (hc:v.cells.toList=cs') (h1:cs'.all (·.oneCell')=true) (hm:cs'.length=m) (hl:cs'.length=cs.length)
 (h:UA ds P K n ops e0 eo F A0 G ps ys (⟨i,d,λb=>ah b T cs,s,λb=>ah b T cs'⟩::xs) zs) (hdp:dep af i=true:=by rfl):UA ds P K n ops e0 eo F A0 G ps ys xs zs :=
 λk a l j e=>h k a ⟨a.mem _ (mem_of_getElem? hq) s _,l⟩ ⟨⟨_,ho,hdp,ps,λ_ h=>h,λr b B u h=>WL.store hT (hx r b) (hy r b) hc hm h1 (bT.whole hl) h⟩,j⟩ e
theorem UA.gq{ds:List Deferred}{P:Program}{K:World}{n:Nat}{e0 eo:Env}{F A0:List aH}{ops:Array Oper}{ps:List PE}{xs:List AE}{zs:List ZE}{G:Prop}{ys:List (Nat×Nat×(Nat→aH))}{i d T m:Nat}{ty:TypeId}{pos:String}{af:Array Edge}{x y:Operand}{cs:List Value}{k:IntKind}{l:List Nat}(s q:Nat)(ho:ops[s]? =some ⟨none,.store T x y,ty,pos,af,none⟩)(hq:ys[q]? =some (i,d,λb=>ah b T cs))(hT:∀w,(sizeOf T).run P w= .ok m w)
 (hx:∀r b,OV true ((d,ptr b 0)::(pV af ps++(e0++r))) x (ptr b 0)) (hy:∀r b,OV true ((d,ptr b 0)::(pV af ps++(e0++r))) y (.agg (av k l).toArray))
 (h:UA ds P K n ops e0 eo F A0 G ps ys (⟨i,d,λb=>ah b T cs,s,λb=>ah b T (av k l)⟩::xs) zs) (hdp:dep af i=true:=by rfl) (hm:l.length=m:=by first | rfl | (simp[aI, *];done)) (hl:l.length=cs.length:=by first | rfl | (simp[aI,au, *];done)):UA ds P K n ops e0 eo F A0 G ps ys xs zs :=
 UA.store (cs':=av k l) s q ho hq hT hx hy Z (gP k l) (by rw[au];exact hm) (by rw[au];exact hl) h hdp
theorem UA.z{z:ZE}(hz:Jd ds P K n ops e0 ps z)(h:UA ds P K n ops e0 eo F A0 G ps ys xs (z::zs)):UA ds P K n ops e0 eo F A0 G ps ys xs zs:=λb e j a d=>h b e j a ⟨hz,d⟩
theorem UA.agC{ds:List Deferred}{P:Program}{K:World}{n:Nat}{e0 eo:Env}{F A0:List aH}{ops:Array Oper}{ps:List PE}{xs:List AE}{zs:List ZE}{G:Prop}{ys:List (Nat×Nat×(Nat→aH))}{b T m:Nat}{ty:TypeId}{pos:String}{af:Array Edge}{x y:Operand}{cs' cs0:List Value}{v:Value}(s:Nat)(ho:ops[s]? =some ⟨none,.store T x y,ty,pos,af,none⟩)(hT:∀w,(sizeOf T).run P w= .ok m w)
 (hx:∀r,OV true (pV af ps++(e0++r)) x (ptr b 0)) (hy:∀r,OV true (pV af ps++(e0++r)) y v) (hc:v.cells.toList=cs') (h1:cs'.all (·.oneCell')=true) (hm:cs'.length=m) (h:UA ds P K n ops e0 eo F A0 G ps ys xs (⟨s,ah b T cs0,ah b T cs'⟩::zs)) (hq:ah b T cs0∈A0:=by repeat (first | exact Mem.head _ | apply Mem.tail)) (hl:cs'.length=cs0.length:=by first | rfl | (simp[aI,au, *];done)):UA ds P K n ops e0 eo F A0 G ps ys xs zs :=
 UA.z ⟨_,ho,ps,λ_ h=>h,λr a d h=>WL.store hT (hx r) (hy r) hc hm h1 (bT.whole hl) h⟩ h
theorem UA.lI{ds:List Deferred}{P:Program}{K:World}{n:Nat}{e0 eo:Env}{F A0:List aH}{ops:Array Oper}{ps:List PE}{xs:List AE}{zs:List ZE}{G:Prop}{ys:List (Nat×Nat×(Nat→aH))}{b T m:Nat}{ty:TypeId}{pos:String}{af:Array Edge}{x y:Operand}{k:IntKind}{l:List Nat}{cs0:List Value}(s:Nat)(ho:ops[s]? =some ⟨none,.store T x y,ty,pos,af,none⟩)(hT:∀w,(sizeOf T).run P w= .ok m w)
 (hx:∀r,OV true (pV af ps++(e0++r)) x (ptr b 0)) (hy:∀r,OV true (pV af ps++(e0++r)) y (.agg (av k l).toArray)) (h:UA ds P K n ops e0 eo F A0 G ps ys xs (⟨s,ah b T cs0,ah b T (av k l)⟩::zs)) (hm:l.length=m:=by first | rfl | (simp[aI, *];done)) (hq:ah b T cs0∈A0:=by repeat (first | exact Mem.head _ | apply Mem.tail)) (hl:l.length=cs0.length:=by first | rfl | (simp[aI,au, *];done)):UA ds P K n ops e0 eo F A0 G ps ys xs zs :=
 UA.agC (cs':=av k l) s ho hT hx hy Z (gP k l) (by rw[au];exact hm) h hq (by rw[au];exact hl)
theorem UA.at_{ds:List Deferred}{P:Program}{K:World}{n:Nat}{e0 eo:Env}{F A0:List aH}{ops:Array Oper}{ps:List PE}{xs:List AE}{zs:List ZE}{G:Prop}{ys:List (Nat×Nat×(Nat→aH))}{b o T T':Nat}{ty:TypeId}{pos:String}{af:Array Edge}{x y:Operand}{k:IntKind}{u:Nat}{l0:List Nat}(s:Nat)(ho:ops[s]? =some ⟨none,.store T x y,ty,pos,af,none⟩)(hT:∀w,(sizeOf T).run P w= .ok 1 w)
 (hx:∀r,OV true (pV af ps++(e0++r)) x (ptr b o)) (hy:∀r,OV true (pV af ps++(e0++r)) y (.int k ((u:Nat):Int))) (h:UA ds P K n ops e0 eo F A0 G ps ys xs (⟨s,ah b T' (av k l0),ah b T' (av k (l0.set o u))⟩::zs)) (hq:ah b T' (av k l0)∈A0:=by repeat (first | exact Mem.head _ | apply Mem.tail)) (hl:o<l0.length:=by first | omega | (simp[aI, *];done) | (simp[aI];omega)):UA ds P K n ops e0 eo F A0 G ps ys xs zs :=
 UA.z ⟨_,ho,ps,λ_ h=>h,λr a d h=>WL.gq hT (hx r) (hy r) h (bT.nat hl)⟩ h
def mh(l:List Nat)(e:Env):Env:=e.filter λp=>l.any (p.1== ·)
theorem Sub.mh(l:List Nat):∀ {e:Env},Sub (Sl.mh l e) e
 | []=>Sub.nil _
 | (k,v)::e=>λt u h=>by
  have ih:=Sub.mh l (e:=e) t u;unfold Sl.mh at h ih;rw[filter_cons] at h;simp only[look];by_cases d:l.any (k== ·)=true
  ·rw[if_pos d] at h;simp only[look] at h;cases hb:beq k t with
   | true=>rw[hb] at h;exact h
   | false=>rw[hb] at h;exact ih h
  ·rw[if_neg d] at h;have j:=ih h;cases hb:beq k t with
   | false=>exact j
   | true =>
    obtain rfl:=eq_of_beq_eq_true hb;exfalso;have b:∀e:Env,look (e.filter λp=>l.any (p.1== ·)) k=none:=by
     intro e
     induction e with
     | nil=>rfl
     | cons p e ihe =>
      rw[filter_cons];by_cases a:l.any (p.1== ·)=true
      ·rw[if_pos a];simp only[look];cases oH:beq p.1 k with
       | true=>rw[eq_of_beq_eq_true oH] at a;exact absurd a d
       | false=>exact ihe
      ·rw[if_neg a];exact ihe
    rw[b] at h;cases h
theorem WC.BZ{id:Nat}{l:List Oper}(k:Nat)(hF:A0.drop k=F)(h:UA ds P K n l.toArray e0 [] F A0 (WC ⟨none,ds⟩ P K n (.region id l.toArray true) Q e0 A0) [] [] [] []):WC ⟨none,ds⟩ P K n (.region id l.toArray true) Q e0 A0:=h trivial trivial trivial trivial trivial
theorem WC.vU{id:Nat}{l:List Oper}(k:Nat)(ov:List Nat)(hF:A0.drop k=F)(h1:Sl.l8 ov E=e0)(h2:Sl.mh ov E=eo)(h:UA ds P K n l.toArray e0 eo F A0 (WC ⟨none,ds⟩ P K n (.region id l.toArray true) Q (eo++e0) A0) [] [] [] []):WC ⟨none,ds⟩ P K n (.region id l.toArray true) Q E A0:=by
 subst h1 h2;exact WC.sub (Sub.two (Sub.mh ov) (Sub.l8 ov)) cO (h trivial trivial trivial trivial trivial)
theorem UA.fin{ds:List Deferred}{P:Program}{K:World}{n:Nat}{Q:iX}{e0 eo:Env}{F A0:List aH}{ps:List PE}{xs:List AE}{zs:List ZE}{ys:List (Nat×Nat×(Nat→aH))}{id:Nat}{l:List Oper}(hc:ahg l.toArray e0 eo ps xs zs=true)
 (h:∀bs:Nat→Nat,Q ⟨none,ds⟩ .normal (ps.map (λp=>(p.2.1,p.2.2.1))++(xs.map (λx=>(x.d,ptr (bs x.i) 0))++e0)) (zs.map (·.B)++(xs.map (λx=>x.B (bs x.i))++F)))
 (hm:P.follows .mixedOrders=true:=by kernel_rfl) (ajd:eo.all (λp=>(look e0 p.1).isNone)=true:=by rfl) (hA:∀w,Sat K w A0→Sat K w (zs.map (·.A)++F):=by exact λw h=>h) (hA0:∀w,Sat K w (zs.map (·.A)++F)→Sat K w A0:=by exact λw h=>h):UA ds P K n l.toArray e0 eo F A0 (WC ⟨none,ds⟩ P K n (.region id l.toArray true) Q (eo++e0) A0) ps ys xs zs:=λy _ C hs D=>by
 refine WC.sub (Sub.refl _) hA (WC.dM [] hm ?_);have O4:∀t v,look e0 t=some v→look eo t=none:=λt v h=>by
  have d:∀e:Env,e.all (λp=>(look e0 p.1).isNone)=true→look e t=none:=by
   intro e
   induction e with
   | nil=>intro _;rfl
   | cons p e ih =>
    intro a;rw[all_cons,Bool.and_eq_true] at a;simp only[look];cases hb:beq p.1 t with
    | false=>exact ih a.2
    | true=>rw[eq_of_beq_eq_true hb,h] at a;exact absurd a.1 (by simp)
  exact d eo ajd
 have b:∀k,(Array.replicate l.length false).getD k false=false:=λk=>by
  by_cases m:k<l.length
  ·simp[m]
  ·simp[Array.getElem?_eq_none (show (Array.replicate l.length false).size≤k by simpa using Nat.le_of_not_lt m)]
 have EA:Sub eo (eo++e0):=λt v h=>by rw[tQ,h];rfl
 have j:Sub e0 (eo++e0):=λt v h=>by
  rw[tQ];cases a:look eo t with
  | none=>simpa using h
  | some u =>
   exfalso;have :=O4 t v h;rw[a] at this;cases this
 have r:=NA y C hs D hc hA0 h l.length (Array.replicate l.length false) (λ_=>0) (eo++e0) (by simp) (Nat.le_trans (length_filter_le _ _) (by simp)) ⟨j,λp _ h=>(by rw[b] at h;cases h),λx _ h=>(by rw[b] at h;cases h),λx _ h=>(by rw[b] at h;cases h),λ_=>EA,λp _ _ h=>(by rw[b] at h;cases h),λz _ h=>(by rw[b] at h;cases h)⟩;refine WA.sub (Sub.refl _) (λw h=> ?_) r;have B:oL zs (Array.replicate l.length false)=zs.map (·.A):=by
  unfold oL;apply map_congr_left;intro z _;rw[b];rfl
 rw[B];have a:Sat K w (uh xs (Array.replicate l.length false) (λ_=>0)++(F++zs.map (·.A))):=Sat.aiZ (λx=>by unfold sK;rw[b,b];rfl) ⟨h.1,bO.perm perm_append_comm h.2⟩;refine⟨h.1,bO.perm ?_ a.2⟩;rw[←append_assoc];exact perm_append_comm
theorem UA.wW{ds:List Deferred}{P:Program}{K:World}{n:Nat}{e0 eo:Env}{F A0:List aH}{ops:Array Oper}{ps:List PE}{xs:List AE}{zs:List ZE}{G:Prop}{ys:List (Nat×Nat×(Nat→aH))}{d i:Nat}{op:Op}{ty:TypeId}{pos:String}{af:Array Edge}{v:Value}(ix:Ix i)(ho:ops[i]? =some ⟨some d,op,ty,pos,af,none⟩)(hv:∀r,eX ⟨none,ds⟩ P K n true (pV af ps++(e0++r)) F ⟨some d,op,ty,pos,af,none⟩ v)(h:UA ds P K n ops e0 eo F A0 G ((i,d,v,false)::ps) ys xs zs)(hd:blt d n=true:=by rfl):UA ds P K n ops e0 eo F A0 G ps ys xs zs :=
 UA.val i ho hv h hd
theorem UA.aj8{ds:List Deferred}{P:Program}{K:World}{n:Nat}{e0 eo:Env}{F A0:List aH}{ops:Array Oper}{ps:List PE}{xs:List AE}{zs:List ZE}{G:Prop}{ys:List (Nat×Nat×(Nat→aH))}{d i:Nat}{op:Op}{ty:TypeId}{pos:String}{af:Array Edge}{v:Value}(ix:Ix i)(ho:ops[i]? =some ⟨some d,op,ty,pos,af,none⟩)(hv:∀r,eX ⟨none,ds⟩ P K n true (pV af ps++((eo++e0)++r)) A0 ⟨some d,op,ty,pos,af,none⟩ v)(h:UA ds P K n ops e0 eo F A0 G ((i,d,v,true)::ps) ys xs zs)(hd:blt d n=true:=by rfl):UA ds P K n ops e0 eo F A0 G ps ys xs zs :=
 UA.Ru i ho hv h hd
class ZnT(P:Program)(T:Nat)(k:outParam IntKind)(m:outParam Nat):Prop where
 h:∃z,(∀w,(zeroValue T).run P w= .ok z w)∧z.cells.toList=av k (replicate m 0)
theorem WL.ad1{Mo:Mode}{P:Program}{K:World}{n:Nat}{ops:Array Oper}{Q:iX}{e:Env}{H:List aH}{ty:TypeId}{pos:String}{af:Array Edge}{d T m:Nat}{k:IntKind}{rest:List Oper}[hz:ZnT P T k m](h:∀b,WL Mo P K n ops rest Q ((d,ptr b 0)::e) (ah b T (av k (replicate m 0))::H))(hd:blt d n=true:=by rfl):WL Mo P K n ops (⟨some d,.alloc T,ty,pos,af,none⟩::rest) Q e H :=
 Exists.elim hz.h λ_ q=>WL.jN k m q.1 q.2 hd h
theorem aP(s:String){X Y:Prop}(h:Y) (t:StS s X Y:=by
 apply StS.o;repeat (first
  | (apply aM.q;first
  | (apply fK.q;first
  | (apply gB.q;first
  | (apply wh.w 97;focus (intro ix hz;exact UA.wW ix rfl (λ_=>V.abX (wO.h (s:=32)) (OV.p Z)) hz))
  | (apply wh.s 98;focus (intro hz;exact WL.val (V.rD (j:=1) (OV.p Z) (OV.p Z)) Z hz))
  | (apply wh.s 99;focus (intro hz;exact WL.val (V.XV (OV.p Z) (OV.p Z)) Z hz))
  | (apply wh.s 100;focus (intro hz;exact WL.val (V.CY 64 (OV.p Z) (OV.p Z)) Z hz))
  | (apply wh.s 101;focus (intro hz;exact UA.gq 7 0 Z Z (q8.h (s:=64)) (λ_ _=>OV.p Z) (λ_ _=>OV.p Z) hz))
  | (apply wh.s 102;focus (intro hz;exact WL.val (V.CY 32 (OV.p Z) (OV.p Z)) Z hz))
  | (apply wh.s 110;focus (intro hz;exact WL.store (cs:=[_,_,_,_,_,_,_,_,_,_,_,_,_,_,_,_,_,_,_,_,_,_,_,_,_,_,_,_,_,_,_,_,_,_]) (q8.h (s:=34)) (OV.p Z) (OV.p Z) Z Z Z (bT.whole Z) hz))
  | (apply wh.w 117;focus (intro ix h;exact UA.wW ix rfl (λ_=>V.fV (j:=0) Jq.h (OV.p Z) (OV.p Z)) h))
  | (apply wh.s 120;focus (intro hz;exact WL.val (V.qQ wP.h wP.h (OV.p Z)) Z hz))
  | (apply wh.s 121;focus (intro hz;exact WL.val (V.G6 (M:=4294967296) wP.h wP.h (OV.p Z)) Z hz))
  )
  | (apply gB.w 98;focus (intro ix hz;exact UA.aj8 ix rfl (λ_=>V.d9 xH.h (OV.p Z)) hz))
  | (apply gB.w 103;focus (intro ix h;exact UA.wW ix rfl (λ_=>V.Rz (M:=18446744073709551616) (OV.p Z) (OV.p Z)) h))
  | (apply gB.s 104;focus (intro hz;exact WL.val (V.Ob (i:=8) (OV.p Z) (OV.p Z)) Z hz))
  | (apply gB.s 110;focus (intro hz;exact WL.val (V.XV (j:=0) (OV.p Z) (OV.p Z)) Z hz))
  | (apply gB.s 111;focus (intro hz;exact WL.val (V.fV (j:=31) Jq.h (OV.p Z) (OV.p Z)) Z hz))
  | (apply gB.w 112;focus (intro ix hz;exact UA.wW ix rfl (λ_=>V.Rz (M:=4294967296) (OV.p Z) (OV.p Z)) hz))
  | (apply gB.s 114;focus (intro h;exact WL.bI (oj:=_) Z Z Z GC.t (V.len (t:=0) wP.h (OV.g Z id)) Z h))
  | (apply gB.s 115;focus (intro h;exact WL.val (V.zI (j:=8) (OV.p Z) (OV.p Z)) Z h))
  | (apply gB.s 116;focus (intro hz;exact WL.val (V.abx Jq.h xH.h (OV.p Z) (OV.p Z)) Z hz))
  | (apply gB.s 122;focus (intro hz;exact WQ.val (V.jd (wO.h (s:=4)) (OV.p Z)) Z hz))
  | (apply gB.s 65;focus (intro hz;exact WL.bI (oj:=_) Z Z Z GC.t (V.G5 (j:=0) (OV.g Z id) (OV.p Z)) Z hz))
  | (apply gB.s 69;focus (intro h;exact WL.val (V.zI (j:=4) (OV.p Z) (OV.p Z)) Z h))
  | (apply gB.s 75;focus (intro hz;exact WL.val (V.G5 (j:=1) (OV.p Z) (OV.p Z)) Z hz))
  | (apply gB.w 76;focus (intro ix hz;exact UA.wW ix rfl (λ_=>V.af6 (wO.h (s:=32)) (OV.p Z)) hz))
  | (apply gB.s 79;focus (intro hz;exact WL.val (V.wK (j:=1) (OV.p Z) (OV.p Z)) Z hz))
  | (apply gB.w 84;focus (intro ix hz;exact WA.tI ix Z (V.d9 xH.h (OV.p Z)) hz))
  | (apply gB.w 90;focus (intro ix hz;exact UA.wW ix rfl (λ_=>V.aa8 (wO.h (s:=32)) (OV.p Z)) hz))
  | (apply gB.s 48;focus (intro hz;exact WQ.val (V.jd (wO.h (s:=32)) (OV.p Z)) Z hz))
  | (apply gB.w 51;focus (intro ix hz;exact UA.wW ix rfl (λ_=>V.Ob (i:=4) (OV.p Z) (OV.p Z)) hz))
  | (apply gB.s 52;focus (intro hz;exact WL.val (V.Rz (M:=4294967296) (OV.p Z) (OV.p Z)) Z hz))
  | (apply gB.w 38;focus (intro ix h;exact UA.wW ix rfl (λ_=>V.nilCheck (OV.p Z)) h))
  | (apply gB.s 42;focus (intro h;exact WL.val (V.fV (j:=0) Jq.h (OV.p Z) (OV.p Z)) Z h))
  | (apply gB.s 43;focus (intro hz;exact WL.val (V.G5 (j:=0) (OV.p Z) (OV.p Z)) Z hz))
  | (apply gB.s 40;focus (intro hz;exact WL.val (V.WJ (j:=64) (OV.p Z) (OV.p Z)) Z hz))
  | (apply gB.s 41;focus (intro hz;exact WL.val (V.CY (j:=1) 64 (OV.p Z) (OV.p Z)) Z hz))
  | (apply gB.s 91;focus (intro hz;exact WL.val (V.wK (j:=8) (OV.p Z) (OV.p Z)) Z hz))
  | (apply gB.s 93;focus (intro hz;exact WL.val (V.wK (j:=16) (OV.p Z) (OV.p Z)) Z hz))
  )
  | (apply fK.s 74;focus (intro h;exact WC.ret h))
  | (apply fK.s 77;focus (intro h;exact WL.xt Z Z Z h))
  | (apply fK.s 115;focus (intro hz;exact⟨Z,hz⟩))
  | apply fK.m2 121 98 99
  | apply fK.m4 36 126 77 126 77
  | (apply fK.s 73;focus (intro h;exact WC.ni Z (by clear h;first | rfl | (simp;done) | (simp;omega)) h))
  | (apply fK.s 114;focus (intro h;exact WA.fin h))
  | (apply fK.s 122;focus (intro h;exact WL.bI (oj:=_) Z Z Z GC.f (V.move (OV.p Z)) Z h))
  | (apply fK.w 97;focus (intro ix h;exact UA.wW ix rfl (λ_=>V.assign (OV.p Z)) h))
  | (apply fK.s 98;focus (intro hz;exact WL.val (V.akw OE.h (OV.p Z) (OV.p Z)) Z hz))
  | (apply fK.w 99;focus (intro ix h;exact WA.tI ix Z (V.nilCheck (OV.p Z)) h))
  | (apply fK.w 102;focus (intro ix h;exact UA.wW ix rfl (λ_=>V.jd wO.h (OV.p Z)) h))
  | (apply fK.s 105;focus (intro hz;exact WC.V9 (by clear hz;kernel_rfl) (by clear hz;kernel_rfl) hz))
  | (apply fK.s 108;focus (intro h;exact WL.val (V.zI (OV.p Z) (OV.p Z)) Z h))
  | (apply fK.s 117;focus (intro h;exact WL.val (V.FW RO.h (OV.p rfl) (OV.p rfl) (λhc=>by clear h;first | omega | (simp at hc;omega))) Z h))
  | (apply fK.w 118;focus (intro ix h;exact UA.wW ix rfl (λ_=>V.fieldAddr iH.h (OV.p Z)) h))
  | (apply fK.w 65;focus (intro ix h;exact WA.tI ix Z (V.assign (OV.p Z)) h))
  | (apply fK.s 66;focus (intro h;exact WL.gq q8.h (OV.p Z) (OV.p Z) h))
  | (apply fK.w 67;focus (intro ix h;exact UA.wW ix rfl (λ_=>V.d9 xH.h (OV.p Z)) h))
  | (apply fK.s 68;focus (intro h;exact WL.val (V.Eo (OV.p rfl) (OV.p rfl) (λ_=>by clear h;omega)) Z h))
  | (apply fK.s 75;focus (intro h;exact WL.val (V.fV Jq.h (OV.p Z) (OV.p Z)) Z h))
  | (apply fK.s 78;focus (intro hz;exact WC.BZ 0 Z hz))
  | (apply fK.w 86;focus (intro ix h;exact UA.wW ix rfl (λ_=>V.fV Jq.h (OV.p Z) (OV.p Z)) h))
  | (apply fK.s 87;focus (intro h;exact WL.val (V.wN (OV.p Z) (OV.p Z)) Z h))
  | (apply fK.s 88;focus (intro hz;exact WC.MO (by clear hz;kernel_rfl) hz))
  | (apply fK.s 48;focus (intro h;exact WL.val (V.Rz (M:=18446744073709551616) (OV.p Z) (OV.p Z)) Z h))
  | (apply fK.s 49;focus (intro hz;exact WL.val (V.G6 (M:=256) wP.h wP.h (OV.p Z)) Z hz))
  | (apply fK.s 50;focus (intro hz;exact WL.val (V.makeFunc (us:=[]) (vs:=[_]) trivial ⟨OV.p Z,trivial⟩) Z hz))
  | (apply fK.s 52;focus (intro h;exact WL.val (V.d9 xH.h (OV.p Z)) Z h))
  | (apply fK.s 53;focus (intro hz;exact WC.Gp (by clear hz;kernel_rfl) hz))
  | (apply fK.s 55;focus (intro hz;exact WL.Gn OE.h ElT.h (OV.p Z) (OV.p Z) hz))
  | (apply fK.w 56;focus (intro ix h;exact UA.wW ix rfl (λ_=>V.extract (OV.p Z) Z) h))
  | (apply fK.s 37;focus (intro hz;exact WL.val (V.wK (OV.p Z) (OV.p Z)) Z hz))
  | (apply fK.s 42;focus (intro hz;exact WL.val (V.Lc RO.h (OV.p Z) (OV.p Z)) Z hz))
  | (apply fK.w 59;focus (intro ix h;exact UA.wW ix rfl (λ_=>V.abn wO.h (OV.p Z)) h))
  | (apply fK.s 60;focus (intro hz;exact WC.BZ 1 Z hz))
  | (apply fK.s 61;focus (intro hz;exact WL.val (V.ext (λhc=>jJ _ _ 0 (by clear hz;omega)) ⟨OV.p Z,OV.p Z,OV.p Z,trivial⟩) Z hz))
  | (apply fK.w 95;focus (intro ix hz;exact UA.wW ix rfl (λ_=>V.Lc RO.h (OV.p Z) (OV.p Z)) hz))
  | (apply fK.s 96;focus (intro hz;exact WL.val (V.aar (j:=0) (OV.p Z) (OV.p Z)) Z hz))
  )
  | (apply aM.s 99;focus (intro h;exact WL.nil h))
  | (apply aM.s 98;focus (intro h;exact WL.mv Z Z h))
  | (apply aM.s 97;focus (intro h;exact WC.sr h))
  | (apply aM.s 108;focus (intro h;exact WL.sg Z Z h))
  | apply aM.m2 111 108 99
  | (apply aM.s 76;focus (intro h;exact WC.seq h))
  | apply aM.m2 101 97 98
  | (apply aM.s 112;focus (intro h;exact WC.region h))
  | (apply aM.s 113;focus (intro h;exact WC.skip h))
  | apply aM.m3 100 111 126 74
  | (apply aM.s 115;focus (intro h;exact WC.block h))
  | apply aM.m2 114 76 101
  | (apply aM.s 88;focus (intro h;exact WL.val (V.fieldAddr iH.h (OV.p Z)) Z h))
  | (apply aM.s 74;focus (intro h;exact WC.cond Z (And.left h) (And.right h)))
  | apply aM.m2 103 112 98
  | apply aM.m2 105 111 101
  | apply aM.m2 102 111 114
  | apply aM.m2 104 99 74
  | apply aM.m2 124 113 76
  | (apply aM.s 106;focus (intro h;exact WL.val (V.len (t:=0) wP.h (OV.p Z)) Z h))
  | apply aM.m2 71 99 76
  | apply aM.m2 69 124 115
  | apply aM.m3 53 98 126 36
  | (apply aM.s 75;focus (intro h;exact WC.exit h))
  | (apply aM.w 109;focus (intro ix h;exact WA.oI ix Z h))
  | (apply aM.w 110;focus (intro ix h;exact WA.tI ix Z (V.move (OV.p Z)) h))
  | (apply aM.s 90;focus (intro h;exact WL.ad Z Z Z h))
  | apply aM.m2 116 111 76
  | apply aM.m2 119 111 97
  | apply aM.m2 120 98 98
  | apply aM.m4 62 126 121 126 115
  | (apply aM.s 122;focus (intro hz;exact WL.ad1 hz))
  | (apply aM.s 65;focus (intro h;exact WL.iD q8.h (OV.p Z) (OV.p Z) h))
  | (apply aM.s 66;focus (intro h;exact WL.val (V.jd wO.h (OV.p Z)) Z h))
  | (apply aM.s 67;focus (intro h;exact WL.store (cs:=[_,_,_,_,_]) (q8.h (s:=5)) (OV.p Z) (OV.p Z) Z Z Z (by clear h;repeat (first | exact bT.here (cs':=[_,_,_,_,_]) Z Z | apply bT.up)) h))
  | apply aM.m2 70 108 100
  | apply aM.m2 72 53 108
  | (apply aM.w 77;focus (intro ix h;exact UA.wW ix rfl (λ_=>V.move (OV.p Z)) h))
  | apply aM.m3 78 111 126 115
  | apply aM.m2 79 111 103
  | apply aM.m2 81 99 97
  | apply aM.m3 82 126 121 115
  | (apply aM.s 83;focus (intro h;exact WL.val (V.Ci (OV.p Z) (OV.g Z id)) Z h))
  | apply aM.m2 89 69 101
  | apply aM.m2 48 105 98
  | apply aM.m3 50 99 126 73
  | (apply aM.w 52;focus (intro ix h;exact WA.tI ix Z (V.fieldAddr iH.h (OV.p Z)) h))
  | apply aM.m3 54 99 126 74
  | apply aM.m2 55 113 97
  | (apply aM.s 57;focus (intro h;exact WL.val (V.not (OV.p Z)) Z h))
  | (apply aM.s 33;focus (intro h;exact WL.bI (oj:=_) Z Z Z GC.t (V.move (OV.p Z)) Z h))
  | apply aM.m3 37 98 126 122
  | apply aM.m3 42 99 126 114
  | (apply aM.s 43;focus (intro h;exact aF.qe))
  | (apply aM.s 58;focus (intro h;exact aF.qv h))
  | (apply aM.s 61;focus (intro h;exact WL.val (V.wN (j:=1) (OV.p Z) (OV.p Z)) Z h))
  | (apply aM.s 63;focus (intro hz;exact WL.sub (Sub.refl _) (λw h=>h.p1) hz))
  | (apply aM.s 94;focus (intro hz;exact WL.val (V.build (vs:=[]) trivial Z BdT.h) Z hz))
  | (apply aM.s 44;focus (intro h;exact WL.bI (oj:=_) Z Z Z GC.t (V.fieldAddr iH.h (OV.p Z)) Z h))
  | (apply aM.s 40;focus (intro hz;exact UA.fin (by clear hz;kernel_rfl) hz))
  | (apply aM.s 41;focus (intro h;exact WL.sb Z Z Z h))
  )
 exact aM.z):X:=t.f h
end Go.Sl
namespace Go.Proofs.YtcedojacbhnbiaaGreat
open Go.Sl Go.RowKit Tryz List Nat
instance:ZnT prog 219 .u8 64:=⟨⟨_,zeroValue219,Z⟩⟩
instance:ZnT prog 256 .u8 64:=⟨⟨_,zeroValue256,Z⟩⟩
instance:ZnT prog 283 .u8 128:=⟨⟨_,zeroValue283,Z⟩⟩
instance:ZnT prog 307 .u64 80:=⟨⟨_,zeroValue307,Z⟩⟩
instance:ZnT prog 309 .u64 8:=⟨⟨_,zeroValue309,Z⟩⟩
instance:ZnT prog 318 .u64 4:=⟨⟨_,zeroValue318,Z⟩⟩
instance:ZnT prog 348 .u32 64:=⟨⟨_,zeroValue348,Z⟩⟩
instance:ZnT prog 349 .u32 8:=⟨⟨_,zeroValue349,Z⟩⟩
instance:ZnT prog 97 .u8 32:=⟨⟨_,zeroValue97,Z⟩⟩
end Go.Proofs.YtcedojacbhnbiaaGreat
namespace Go.Sl
open Go.RowKit Go.BigFrame List Nat
theorem Eu{α:Type}:∀(l:List α) (k:Nat) (hk:k<l.length),Perm (l[k]::l.eraseIdx k) l
 | [],k,hk=>absurd hk (not_lt_zero _)
 | a::l,0,_=>Perm.refl _
 | a::l,k+1,hk=>(Perm.swap _ _ _).trans ((Eu l k (lt_of_succ_lt_succ hk)).cons a)
theorem Sat.Vl(h:Sat K w (A::(l++H))):Sat K w (A::bK l::H) :=
 ⟨h.1,h.2.1,h.2.2.1,λb d B a=>by
  rcases mem_cons.1 a with rfl | a
  ·rintro⟨C,hC,hf⟩;exact h.2.2.2.1 b d C (mem_append_left _ hC) hf
  ·exact h.2.2.2.1 b d B (mem_append_right _ a),bO.all.2 h.2.tail⟩
theorem Sat.XK(h:Sat K w (A::bK l::H)):Sat K w (A::(l++H)) :=
 ⟨h.1,h.2.1,h.2.2.1,λb d B a=>by
  rcases mem_append.1 a with a | a
  ·exact λe=>h.2.2.2.1 b d (bK l) (.head _) ⟨B,a,e⟩
  ·exact h.2.2.2.1 b d B (.tail _ a),bO.all.1 h.2.tail⟩
theorem Sat.afD(hp:Perm l l')(h:Sat K w l):Sat K w l':=⟨h.1,bO.perm hp h.2⟩
theorem Sat.FQ(hk:k<l.length)(h:Sat K w (bK l::H)):Sat K w (l[k]::bK (l.eraseIdx k)::H) :=
 Sat.Vl (Sat.afD ((Eu l k hk).symm.append_right H) h.yJ)
theorem Sat.Na{l:List aH}(hk:k<l.length)(h:Sat K w (A::bK (l.eraseIdx k)::H)):Sat K w (bK (l.set k A)::H):=by
 have Gg:k<(l.set k A).length:=by rw[length_set];exact hk
 have a:=Eu (l.set k A) k Gg;rw[getElem_set_self,eraseIdx_set_eq] at a;exact Sat.all (Sat.afD (a.append_right H) h.XK)
theorem rW{α:Type}{f:α→List Value}(hf:∀x,(f x).length=s):∀l:List α,(l.flatMap f).length=l.length*s
 | []=>by simp
 | x::l=>by rw[flatMap_cons,length_append,hf,rW hf l,length_cons,succ_mul,Nat.add_comm]
theorem JK{α:Type}{f:α→List Value}(hf:∀x,(f x).length=s):∀(l:List α) (k i:Nat) (x:α) (v:Value),l[k]? =some x→(f x)[i]? =some v→(l.flatMap f)[k*s+i]? =some v
 | [],k,i,x,v,h,_=>by simp at h
 | y::l,0,i,x,v,h,hi=>by
  simp only[getElem?_cons_zero,Option.some.injEq] at h;subst h;rw[flatMap_cons,Nat.zero_mul,Nat.zero_add,getElem?_append_left (List.getElem?_eq_some_iff.1 hi).1];exact hi
 | y::l,k+1,i,x,v,h,hi=>by
  have ih:=JK hf l k i x v (by simpa using h) hi;rw[flatMap_cons,getElem?_append_right (by rw[hf,succ_mul];omega),hf,←ih];congr 1;rw[succ_mul];omega
theorem ab6{α:Type}{f:α→List Value}(hf:∀x,(f x).length=s):∀(l:List α) (k:Nat) (x y:α),l[k]? =some x→oU (l.flatMap f) (k*s) (f y)=(l.set k y).flatMap f:=λl k x y h=>by
 have a:=(List.getElem?_eq_some_iff.1 h).1;have b:(k+1)*s≤l.length*s:=mul_le_mul_right _ a;rw[succ_mul] at b;rw[mD _ _ _ (by rw[hf,rW hf];exact b),hf];have n:l.set k y=l.take k++y::l.drop (k+1):=set_eq_take_append_cons_drop .. |>.trans (by rw[if_pos a])
 have m:∀j,j≤l.length→(l.flatMap f).take (j*s)=(l.take j).flatMap f∧(l.flatMap f).drop (j*s)=(l.drop j).flatMap f:=λj r=>by
  have e:l.flatMap f=(l.take j).flatMap f++(l.drop j).flatMap f:=by rw[←flatMap_append,take_append_drop]
  have d:((l.take j).flatMap f).length=j*s:=by rw[rW hf,length_take,Nat.min_eq_left r]
  rw[e];exact⟨take_left' d,drop_left' d⟩
 rw[n,flatMap_append,flatMap_cons,(m k (Nat.le_of_lt a)).1,show k*s+s=(k+1)*s by rw[succ_mul],(m (k+1) a).2,append_assoc]
end Go.Sl
namespace Go.Sl
open Go.ChangeShapes Go.WideShapes Go.ChangeAt Go.RowKit List Nat
theorem aa9{α:Type}(n:Nat)(p:Nat→α→Prop)(h:∀i,i<n→∃a,p i a):∃l:List α,l.length=n∧∀i a,l[i]? =some a→p i a:=by
 induction n with
 | zero=>exact⟨[],Z,λi a d=>by simp at d⟩
 | succ n ih =>
  obtain⟨l,k,m⟩:=ih λi d=>h i ay;obtain⟨a,j⟩:=h n ay;refine⟨l++[a],by simp[k],λi b d=> ?_⟩;rcases Nat.lt_or_ge i l.length with o7 | e
  ·exact m i b (by rwa [getElem?_append_left o7] at d)
  ·rw[getElem?_append_right e] at d;by_cases r:i-l.length=0
   ·have :i=n:=by omega
    subst this;rw[r] at d;simp at d;subst d;exact j
   ·rw[getElem?_eq_none (by simp;omega)] at d;cases d
theorem OL{l:List (List Value)}(hs:∀x∈l,x.length=s)(h:l.flatten[k]? =some v):∃x,l[k/s]? =some x∧x[k%s]? =some v:=by
 induction l generalizing k with
 | nil=>simp at h
 | cons x l ih =>
  have e:=hs x (.head _);rw[flatten_cons] at h;rcases Nat.lt_or_ge k x.length with o7 | d
  ·rw[getElem?_append_left o7] at h;refine⟨x, ?_, ?_⟩
   ·rw[div_eq_of_lt ay];rfl
   ·rw[mod_eq_of_lt ay];exact h
  ·rw[getElem?_append_right d] at h;obtain⟨y,b,a⟩:=ih (λz m=>hs z (.tail _ m)) h;have j:0<s:=by
    rcases eq_zero_or_pos s with h | h
    ·subst h;obtain hy:=hs y (.tail _ (mem_of_getElem? b));rw[eq_nil_of_length_eq_zero hy] at a;simp at a
    ·exact h
   refine⟨y, ?_, ?_⟩
   ·rw[e] at b;rw[show k/s=(k-s)/s+1 by rw[←add_div_right _ j];congr 1;omega];exact b
   ·rw[e] at a;rw[show k%s=(k-s)%s by rw[←add_mod_right (k-s) s];congr 1;omega];exact a
theorem PW{l:List (List Value)}(hs:∀x∈l,x.length=s):l.flatten.length=l.length*s:=by
 induction l with
 | nil=>simp
 | cons x l ih=>rw[flatten_cons,length_append,ih (λz a=>hs z (.tail _ a)),hs x (.head _),length_cons,Nat.add_mul];omega
theorem Hw{H:Type}{enc:TypeId×Value→H}{P:Program}{s:TypeId}{d:DataW H}(ht:P.underlying t=some (.slice e))(hc:P.cellsOf e=s)(JE:Value.okWide P W r base t v)
 (h:DataW.Trod enc P W 0 (λ_=>true) true t v d p) :
 ∃ A m cap,∃css:List (List Value),v= .slice A m cap∧css.length=m∧m≤maxLen∧(∀cs∈css,cs.length=s∧∃n y,DataW.trod enc P W 0 (λ_=>true) true n e cs=some y)∧Seq W [Old W] A m s css.flatten:=by
 obtain⟨V,len,cap,rfl⟩:=okWide_slice ht JE;obtain⟨F,O⟩:=h;rcases DataW.trod_slice ht O with ⟨qX,_⟩ | ⟨a,M,K,b,I,n,_,qX,_,_,X,Y,L,UW,_,_⟩
 ·simp[Value.cells] at qX;obtain⟨rfl,rfl,rfl⟩:=qX;exact⟨none,0,0,[],Z,Z,zero_le _,λx u=>by (cases u),⟨by simp,λi v k=>by simp at k⟩⟩
 ·simp[Value.cells] at qX;obtain⟨rfl,rfl,rfl⟩:=qX;obtain⟨css,D,B⟩:=aa9 len (λi (cs:List Value)=>(cs.length=s∧∃n y,DataW.trod enc P W 0 (λ_=>true) true n e cs=some y)∧∀j v,cs[j]? =some v→W.cell? (a.add (i*s+j))=some v) λi k=>by
   have l:=UW i k;have U:b[i]? =some b[i]:=getElem?_eq_getElem ay;rw[U,Option.bind_eq_some_iff] at l;obtain⟨cs,J,R⟩:=l;rw[hc] at J;obtain⟨N,G,Q⟩:=World.cells?_some J;refine⟨cs,⟨?_,n,_,R⟩,λj v C=> ?_⟩
   ·omega
   ·have T:j<s:=by
     rcases Nat.lt_or_ge j cs.length with h | h
     ·omega
     ·rw[getElem?_eq_none h] at C;cases C
    rw[←add_add,Q j ay,C]
  refine⟨some a,len,cap,css,Z,D,by omega,λcs qX=> ?_,PW (λx u=> ?_) |>.trans (by rw[D]),λi v k w S=> ?_⟩
  ·obtain⟨i,k⟩:=getElem?_of_mem qX;exact (B i cs k).1
  ·obtain⟨i,k⟩:=getElem?_of_mem u;exact (B i x k).1.1
  ·obtain⟨x,N,G⟩:=OL (s:=s) (λx u=>by
    obtain⟨i,k⟩:=getElem?_of_mem u;exact (B i x k).1.1) k
   have l:=(B _ x N).2 _ v G;rw[Nat.mul_comm,div_add_mod] at l;exact⟨_,Z,(S.below.cell (World.block_lt_of_cell? _ _ l)).trans l⟩
theorem ac0{H:Type}{enc:TypeId×Value→H}{x:DataW H×List MemPlace}(ht:P.underlying t=some (.slice e))(he:P.underlying e=some (.int k))(hc:P.cellsOf e=1)
 (hf:DataW.trod enc P W 0 (λ_=>true) true fuel t cs=some x):∃A m cap xs,cs=[.slice A m cap]∧Seq W [Old W] A m 1 (ints k xs)∧(∀x∈xs,k.min≤x∧x≤k.max)∧xs.length=m∧m≤cap∧cap≤maxLen:=by
 rcases open_ints ht he hc hf with ⟨qX,d⟩ | ⟨a,len,cap,u,qX,_,y,B,D,d,Wy,j⟩
 ·exact⟨none,0,0,[],qX,Seq.agZ,λx d=>(by cases d),rfl,Nat.le_refl _,zero_le _⟩
 ·simp only[if_true] at D;have b:(u.take len).length=len:=by rw[length_take];omega
  refine⟨some a,len,cap,u.take len,qX,⟨by rw[bR,b,Nat.mul_one],λi v l w C=> ?_⟩,λx d=> ?_,b,y,B⟩
  ·have n:i<len:=by
    rcases Nat.lt_or_ge i len with h | h
    ·exact h
    ·rw[getElem?_eq_none (by rw[bR,b];exact h)] at l;cases l
   have r:=Wy i ay;have F:=World.block_lt_of_cell? _ _ r;refine⟨_,Z,((C.below.cell F).trans r).trans ?_⟩;rw[←l,tY _ _ ay];simp[getD,getElem?_take,n]
  ·have :=j x (mem_of_mem_take d)
   simpa [Lit.wf] using this
end Go.Sl
namespace Go.Sl
open Go.RowKit Go.BigFrame Go.ChangeShapes Go.WideShapes List Nat
def bytesOf(s:ByteArray):List Int:=s.data.toList.map λb=>(b.toNat:Int)
theorem bytesOf_length(s:ByteArray):(bytesOf s).length=s.size:=by simp_all [bytesOf,length_map,Array.length_toList]
theorem eY(s:ByteArray):bF (bytesOf s):=λx a=>by
 obtain⟨b,_,rfl⟩:=mem_map.1 a;have :=b.toNat_lt;omega
theorem JU(s:ByteArray):strOfNums (bytesOf s)=s:=by
 unfold strOfNums bytesOf;rw[map_map];obtain⟨⟨l⟩⟩:=s;congr 1;show (List.map _ l).toArray=l.toArray;congr 1
 conv=>rhs;rw[←map_id l]
 apply map_congr_left;intro b _;show UInt8.ofNat ((b.toNat:Int)).toNat=b;simp
theorem XC(hx:bF xs)(hy:bF ys)(h:strOfNums xs=strOfNums ys):xs=ys:=by
 have a:=congrArg (λs:ByteArray=>s.data.toList) h;rw[strOfNums_data,strOfNums_data] at a;have b:∀(xs ys:List Int),bF xs→bF ys→xs.map (λn=>UInt8.ofNat n.toNat)=ys.map (λn=>UInt8.ofNat n.toNat)→xs=ys:=λxs=>by
  induction xs with
  | nil=>intro ys _ _ h;cases ys with | nil=>rfl | cons y ys=>cases h
  | cons x xs ih =>
   intro ys hx hy h;cases ys with
   | nil=>cases h
   | cons y ys =>
    rw[map_cons,map_cons] at h;injection h with a e
    have l:=hx x (.head _);have k:=hy y (.head _);have j:=congrArg UInt8.toNat a;rw[UInt8.toNat_ofNat',UInt8.toNat_ofNat'] at j;rw[ih ys (λz d=>hx z (.tail _ d)) (λz d=>hy z (.tail _ d)) e,show x=y by omega]
 exact b xs ys hx hy a
theorem WL.He{S T E:Nat}(hk:k=bytesOf s)(hS:P.underlying S=some .string)(hT:P.underlying T=some (.slice E))(hE:P.underlying E=some (.int .u8))(hx:OV true e x (.string s))(hd:blt d n=true)
 (h:∀b cap cs,s.size≤cap→(∀H':List aH,Seq K (lZ b E cs::H') (some ⟨b,0,none⟩) s.size 1 (ints .u8 k))→WL Mo P K n ops rest Q ((d,.slice (some ⟨b,0,none⟩) s.size cap)::e) (lZ b E cs::H)) :
 WL Mo P K n ops (⟨some d,.convert S T x,ty,pos,af,none⟩::rest) Q e H:=by
 refine WL.RQ (R:=λu H'=>∃b cap cs,u= .slice (some ⟨b,0,none⟩) s.size cap∧H'=lZ b E cs::H∧s.size≤cap∧∀H':List aH,Seq K (lZ b E cs::H') (some ⟨b,0,none⟩) s.size 1 (ints .u8 k)) (λa w F m=> ?_) hd (λu H' ⟨b,cap,cs,B,y,C,G⟩=>by subst B y;exact h b cap cs C G);have r:=Lib.run_convert_string_bytes (P:=P) w S T E s hS hT hE;refine⟨_,Lib.bytesWorld w E s,lZ w.heap.size E (Lib.bytesCells w E s).toList::H, ?_,⟨m.1.grow ?_ ?_ ?_ ?_,m.2.push ?_ (λb l=>Lib.bytesWorld_at_old w E s b l) ⟨((Lib.bytesCells w E s).size,(Lib.bytesCells w E s).size+1), ?_⟩ (λb l=> ?_)⟩,w.heap.size,grownCap w s.size 0 E,_,Z,Z,grownCap_ge w s.size 0 E,λH'=>⟨?_,λi v j=> ?_⟩⟩
 ·show ((do pure (Next.value (←convert S T (a.eval x)))):Sem Next).run P w=_;rw[hx.ev Z F];simp[r]
 ·simp[Lib.bytesWorld,World.freeze]<;>rfl
 ·simp[Lib.bytesWorld,World.freeze]<;>rfl
 ·simp[Lib.bytesWorld,World.freeze]<;>rfl
 ·rw[Lib.bytesWorld_size];omega
 ·rw[Lib.bytesWorld_size];omega
 ·have :=Lib.bytesWorld_at_new w E s
  simpa using this
 ·have l:b=w.heap.size:=l;rw[Lib.bytesWorld_size];omega
 ·rw[hk,bR,bytesOf_length,Nat.mul_one]
 ·rw[hk] at j;have GQ:i<s.size:=by
   rcases Nat.lt_or_ge i s.size with h | h
   ·exact h
   ·rw[getElem?_eq_none (by rw[bR,bytesOf_length];exact h)] at j;cases j
  have D:(Lib.bytesCells w E s).toList[i]? =some v:=by
   rw[←j];unfold Lib.bytesCells ints bytesOf;have JQ:s.data.size=s.size:=rfl;have akM:i<s.data.toList.length:=by rw[Array.length_toList];exact GQ
   simp[Array.getElem?_append,JQ,GQ];rw[getElem?_append_left (by rw[length_map];exact akM),getElem?_map,getElem?_eq_getElem akM];rfl
  have :=Rd.aeZ (K:=K) (H:=H') (b:=w.heap.size) (T:=E) (o:=i) D
  simpa [jM] using this
def strs(ss:List ByteArray):List Value:=ss.map Value.string
theorem Seq.agK(h:Seq K H A m 1 (strs ss))(hi:i<m):Rd K H (A.map (·.add (i*1))) (.string (ss.getD i ByteArray.empty)):=by
 have a:ss.length=m:=by have :=h.len;simpa [strs] using this
 have :=h.rd i (.string (ss.getD i ByteArray.empty)) (by simp[strs,getD,a,hi])
 rwa [Nat.mul_one]
end Go.Sl
