import Derived.WalkKit
import Derived.Deep.Quiet
import Derived.Deep.LoopGhost
import Derived.CallsIn
import Derived.TacticsIn
import Derived.LoopNIn
import Derived.Sort.LoopGhostIn
import Derived.Maps.AppendAt
import Derived.Laws.MakeOwn
import Derived.Orders
import Derived.Laws.BytesArg
import Derived.Lib.Bytes
import Derived.ProofKit
import Derived.Laws.StructEq
set_option autoImplicit true
set_option linter.all false
set_option relaxedAutoImplicit true
abbrev Go.η:Go.Value:= .int .u32 0
abbrev Go.θ:Go.Value:= .int .u64 0
abbrev Go.ζ:Go.Value:= .int .u8 0
abbrev Go.Value.i(x:Int):Go.Value:= .int .i64 x
namespace Go.Sl
theorem Z{α:Sort u}{a:α}:a=a:=.refl a
open Go.RowKit List Nat
structure Mode where
 round:Option (Option Nat)
 ds:List Deferred
abbrev IB:Option Nat→Fence
 | none=>Fence.wide
 | some l=>Fence.wide.inRound l
theorem AU(r:Option Nat)(f:FuncId):(IB r).fn f:=by cases r<;>trivial
theorem Lr:CallsIn (IB r) 0 P f args w R↔Calls P f args w R:=by
 cases r
 ·exact callsIn_wide
 ·exact callsIn_wide (n:=0)
theorem zo(r:Option Nat):(IB r).depth.isSome=true→1≤0:=by cases r<;>intro h<;>cases h
def Lx(M:Mode)(P:Program)(c:Code)(q:Exit→Act→World→Prop)(a:Act)(w:World):Prop :=
 match M.round with | none=>c.wp P q a w | some l=>c.wpIn (IB l) 0 P q a w
def lwp(M:Mode)(P:Program)(ops:Array Oper)(q:Exit→Act→World→Prop)(rest:List Oper)(a:Act)(w:World):Prop :=
 match M.round with | none=>wpList P ops q rest a w | some l=>wpListIn (IB l) 0 P ops q rest a w
def owp(M:Mode)(P:Program)(o:Oper)(a:Act)(w:World)(K:Act→World→Prop)(q:Exit→Act→World→Prop):Prop :=
 match M.round with | none=>o.wp P a w K q | some l=>o.wpIn (IB l) 0 P a w K q
theorem yt(h:Lx M P c q a w)(hq:∀x a w,q x a w→q' x a w):Lx M P c q' a w:=by
 obtain⟨r,g⟩:=M;cases r
 ·exact wp_mono h hq
 ·exact wpIn_mono h hq
theorem aaO(h:q .normal a w):Lx M P .skip q a w:=by
 obtain⟨r,g⟩:=M;cases r
 ·exact wp_skip h
 ·exact wpIn_skip h
theorem Yp(h:q .normal a w):Lx M P (.label l) q a w:=by
 obtain⟨r,g⟩:=M;cases r
 ·exact wp_label h
 ·exact wpIn_label h
theorem aau{id:Nat}(h:q (.exit id) a w):Lx M P (.exit id) q a w:=by
 obtain⟨r,g⟩:=M;cases r
 ·exact wp_exit h
 ·exact wpIn_exit h
theorem abV(h:q (.goto l) a w):Lx M P (.goto l) q a w:=by
 obtain⟨r,g⟩:=M;cases r
 ·exact wp_goto h
 ·exact wpIn_goto h
theorem adJ(h:q .ret a w):Lx M P .ret q a w:=by
 obtain⟨r,g⟩:=M;cases r
 ·exact wp_ret h
 ·exact wpIn_ret h
theorem aer{M:Mode}{P:Program}{q:Exit→Act→World→Prop}{a:Act}{w:World}{x y:Code}(h:Lx M P x (λe a w=>match e with | .normal=>Lx M P y q a w | e=>q e a w) a w):Lx M P (.seq x y) q a w:=by
 obtain⟨r,g⟩:=M;cases r
 ·exact wp_seq (wp_mono h λe a w h=>by cases e<;>exact h)
 ·exact wpIn_seq (wpIn_mono h λe a w h=>by cases e<;>exact h)
theorem Xm{M:Mode}{P:Program}{q:Exit→Act→World→Prop}{a:Act}{w:World}{id:Nat}{c:Code}(h:Lx M P c (λe a w=>match e with | .exit i=>if i=id then q .normal a w else q (.exit i) a w | e=>q e a w) a w):Lx M P (.block id c) q a w:=by
 obtain⟨r,g⟩:=M;cases r
 ·refine wp_block (wp_mono h λe a w h=> ?_);cases e<;>first | exact h | (simp only[Exit.inBlock] at h ⊢;split<;>simp_all)
 ·refine wpIn_block (wpIn_mono h λe a w h=> ?_);cases e<;>first | exact h | (simp only[Exit.inBlock] at h ⊢;split<;>simp_all)
theorem aai(hc:a.eval c= .bool t)(ht:t=true→Lx M P x q a w)(hf:t=false→Lx M P y q a w):Lx M P (.cond c x y) q a w:=by
 obtain⟨r,g⟩:=M;cases r
 ·exact wp_cond_split hc ht hf
 ·exact wpIn_cond_split hc ht hf
theorem SX{id:Nat}(h:lwp M P l.toArray q l a w):Lx M P (.region id l.toArray false) q a w:=by
 obtain⟨r,g⟩:=M;cases r
 ·exact wp_region_lit h
 ·exact wpIn_region_lit h
theorem Qk{M:Mode}{P:Program}{q:Exit→Act→World→Prop}{a:Act}{w:World}{c:Code}(I:Nat→Act→World→Prop)(m:Nat)(h0:I m a w)(h:∀m a w,I m a w→Lx M P c (λe a w=>match e with | .normal=>∃m',m'<m∧I m' a w | e=>q e a w) a w):Lx M P (.loop c) q a w:=by
 obtain⟨r,g⟩:=M;cases r
 ·exact wp_loop_ghost I m h0 λm a w b=>wp_mono (h m a w b) λe a w h=>by cases e<;>exact h
 ·exact wpIn_loop_ghost I m h0 λm a w b=>wpIn_mono (h m a w b) λe a w h=>by cases e<;>exact h
theorem ael(h:q .normal a w):lwp M P ops q [] a w:=by
 obtain⟨r,g⟩:=M;cases r
 ·exact wpList_nil (P:=P) (ops:=ops) h
 ·rename_i l;exact wpListIn_nil (F:=IB l) (n:=0) (P:=P) (ops:=ops) h
theorem uP(hw:Region.wanted o (yielded ops a.tmps)=true)(h:∀R:Act→World→Prop,(∀a w,lwp M P ops q rest a w→R a w)→owp M P o a w R q):lwp M P ops q (o::rest) a w:=by
 obtain⟨r,g⟩:=M;cases r
 ·exact wpList_step λR b=>by rw[if_pos hw];exact h R b
 ·exact wpListIn_step λR b=>by rw[if_pos hw];exact h R b
theorem kH(hg:o.guard=none)(h:∀R:Act→World→Prop,(∀a w,lwp M P ops q rest a w→R a w)→owp M P o a w R q):lwp M P ops q (o::rest) a w :=
 uP (by simp[Region.wanted,hg]) h
theorem qg(hw:Region.wanted o (yielded ops a.tmps)=false)(h:lwp M P ops q rest (a.put o.dst undef) w):lwp M P ops q (o::rest) a w:=by
 obtain⟨r,g⟩:=M;cases r
 ·exact wpList_step λR b=>by rw[hw];exact b _ _ h
 ·exact wpListIn_step λR b=>by rw[hw];exact⟨λf _=>AU _ f,b _ _ h⟩
theorem Ev(h:(execOp ρ o).run P w= .ok nx w')(hn:∀d,nx≠ .defer d):∀c,o.op≠ .defer c:=by
 intro c a;unfold execOp at h;rw[a] at h;simp only[Sem.run_bind] at h;cases hr:(resolve ρ c o.type).run P w with
 | ok d w2 =>
  rw[hr] at h;simp only[Result.andThen_ok,Sem.run_pure,Result.ok.injEq] at h;exact hn d h.1.symm
 | halt x w2=>rw[hr] at h;cases h
theorem zB(h:(execOp a.eval o).run P w= .ok (.value v) w')(hK:K (a.put o.dst v) w'):owp M P o a w K q:=by
 obtain⟨r,g⟩:=M;cases r
 ·show o.wp P a w K q;unfold Oper.wp;rw[h,Oper.upon_value];exact hK
 ·refine⟨λf _=>AU _ f, ?_⟩;rw[Oper.semAt_eq _ _ _ (Ev h (λd=>by simp)),h,Oper.uponIn_value];exact hK
theorem aaC(h:(execOp a.eval o).run P w= .ok .skip w')(hK:K (a.put o.dst undef) w'):owp M P o a w K q:=by
 obtain⟨r,g⟩:=M;cases r
 ·show o.wp P a w K q;unfold Oper.wp;rw[h,Oper.upon_skip];exact hK
 ·refine⟨λf _=>AU _ f, ?_⟩;rw[Oper.semAt_eq _ _ _ (Ev h (λd=>by simp)),h,Oper.uponIn_skip];exact hK
theorem DX(h:(execOp a.eval o).run P w= .ok (.enter f args) w')(hK:Calls P f args w' λe w''=>∃v,e= .returned v∧K (a.put o.dst v) w''):owp M P o a w K q:=by
 obtain⟨r,g⟩:=M;cases r
 ·show o.wp P a w K q;unfold Oper.wp;rw[h,Oper.upon_enter];refine hK.mono ?_;rintro _ w'' ⟨v,rfl,h⟩;exact h
 ·rename_i l;refine⟨λf _=>AU _ f, ?_⟩;rw[Oper.semAt_eq _ _ _ (Ev h (λd=>by simp)),h,Oper.uponIn_enter];refine⟨zo l, ?_⟩;have b:CallsIn (IB l) 0 P f args w' (λe w''=>∃v,e= .returned v∧K (a.put o.dst v) w''):=Lr.2 hK;refine b.mono ?_;rintro _ w'' ⟨v,rfl,h⟩;exact h
structure aH where
 jA:Nat→Prop
 holds:World→Prop
 loc:∀w w':World,(∀b,jA b→w'.heap[b]? =w.heap[b]?)→holds w→holds w'
structure RA(K w:World):Prop where
 os:w.os=K.os
 tape:w.tape=K.tape
 output:w.output=K.output
 size:K.heap.size≤w.heap.size
def bO(w:World):List aH→Prop
 | []=>True
 | A::H=>A.holds w∧(∀b,A.jA b→b<w.heap.size)∧(∀b,A.jA b→∀B∈H,¬B.jA b)∧bO w H
def Sat(K w:World)(H:List aH):Prop:=RA K w∧bO w H
theorem bO.tail(h:bO w (A::H)):bO w H:=h.2.2.2
theorem Sat.tail(h:Sat K w (A::H)):Sat K w H:=⟨h.1,h.2.tail⟩
theorem Sat.head(h:Sat K w (A::H)):A.holds w:=h.2.1
theorem bO.drop:∀(k:Nat) {H:List aH},bO w H→bO w (H.drop k)
 | 0,_,h=>h
 | _+1,[],h=>h
 | k+1,_::_,h=>bO.drop k h.tail
theorem Sat.drop(k:Nat)(h:Sat K w H):Sat K w (H.drop k):=⟨h.1,h.2.drop k⟩
theorem bO.mem:∀ {H:List aH} {A:aH},bO w H→A∈H→A.holds w∧∀b,A.jA b→b<w.heap.size
 | B::H,A,h,hm=>by
  rcases mem_cons.1 hm with rfl | hm
  ·exact⟨h.1,h.2.1⟩
  ·exact h.tail.mem hm
theorem bO.nG(hs:w.heap.size≤w'.heap.size):∀ {H:List aH},(∀A∈H,∀b,A.jA b→w'.heap[b]? =w.heap[b]?)→bO w H→bO w' H
 | [],_,_=>trivial
 | A::H,hk,h=>⟨A.loc w w' (hk A (.head _)) h.1,λb hb=>Nat.lt_of_lt_of_le (h.2.1 b hb) hs,h.2.2.1,bO.nG hs (λB hB=>hk B (.tail _ hB)) h.tail⟩
theorem bO.grow(hs:w.heap.size≤w'.heap.size)(hk:∀b,b<w.heap.size→w'.heap[b]? =w.heap[b]?)(h:bO w H):bO w' H :=
 h.nG hs λA a b j=>hk b ((h.mem a).2 b j)
theorem bO.push(hs:w.heap.size≤w'.heap.size)(hk:∀b,b<w.heap.size→w'.heap[b]? =w.heap[b]?)(h:bO w H)
 (hA:A.holds w') (h1:∀b,A.jA b→w.heap.size≤b∧b<w'.heap.size):bO w' (A::H) :=
 ⟨hA,λb a=>(h1 b a).2,λb a B j wE=>by have :=(h.mem j).2 b wE;have :=(h1 b a).1;omega,h.grow hs hk⟩
theorem bO.set(hs:w.heap.size≤w'.heap.size)(h:bO w (A::H))(hk:∀b,¬A.jA b→b<w.heap.size→w'.heap[b]? =w.heap[b]?)
 (hA:A'.holds w') (hf:∀b,A'.jA b→A.jA b∨(w.heap.size≤b∧b<w'.heap.size)):bO w' (A'::H):=by
 refine⟨hA,λb j=> ?_,λb j B k wE=> ?_,h.tail.nG hs λB k b j=>hk b (λl=>h.2.2.1 b l B k j) ((h.tail.mem k).2 b j)⟩
 ·rcases hf b j with a | a
  ·exact Nat.lt_of_lt_of_le (h.2.1 b a) hs
  ·exact a.2
 ·rcases hf b j with a | a
  ·exact h.2.2.1 b a B k wE
  ·have :=(h.tail.mem k).2 b wE;omega
theorem bO.swap(h:bO w (A::B::H)):bO w (B::A::H) :=
 ⟨h.tail.1,h.tail.2.1,λb j C a k=>by
  rcases mem_cons.1 a with rfl | a
  ·exact h.2.2.1 b k B (.head _) j
  ·exact h.tail.2.2.1 b j C a k,h.1,h.2.1,λb j C a=>h.2.2.1 b j C (.tail _ a),h.tail.tail⟩
theorem bO.vk(h:bO w (A::H))(hH:bO w H→bO w H')(hm:∀B∈H',B∈H):bO w (A::H') :=
 ⟨h.1,h.2.1,λb j B a=>h.2.2.1 b j B (hm B a),hH h.tail⟩
def pull(i:Nat)(H:List aH):List aH:=match H[i]? with | some A=>A::H.eraseIdx i | none=>H
theorem bO.Rs:∀(i:Nat) {H:List aH} {A:aH},H[i]? =some A→bO w H→bO w (A::H.eraseIdx i)
 | _,[],_,hi,_=>by simp at hi
 | 0,B::H,A,hi,h=>by simp at hi;subst hi;exact h
 | i+1,B::H,A,hi,h=>by
  have h1:=bO.Rs i (A:=A) (by simpa using hi) h.tail;have b:bO w (B::A::H.eraseIdx i):=h.vk (λ_=>h1) (λC a=>by
   rcases mem_cons.1 a with rfl | a
   ·exact mem_of_getElem? (by simpa using hi)
   ·exact mem_of_mem_eraseIdx a)
  exact b.swap
theorem Sat.pull{K w:World}{H:List aH}(i:Nat)(h:Sat K w H):Sat K w (pull i H):=by
 unfold Sl.pull;split
 ·rename_i A a;exact⟨h.1,bO.Rs i a h.2⟩
 ·exact h
theorem RA.grow(h:RA K w)(h1:w'.os=w.os)(h2:w'.tape=w.tape)(h3:w'.output=w.output)(h4:w.heap.size≤w'.heap.size):RA K w' :=
 ⟨h1.trans h.os,h2.trans h.tape,h3.trans h.output,Nat.le_trans h.size h4⟩
theorem Sat.drew(h:Sat K w H):Sat K { w with drawn:=w.drawn+1 } H :=
 ⟨h.1.grow Z Z Z (Nat.le_refl _),bO.grow (w:=w) (w':= { w with drawn:=w.drawn+1 }) (Nat.le_refl _) (λ_ _=>Z) h.2⟩
abbrev Env:=List (Nat×Value)
def look:Env→Nat→Option Value
 | [],_=>none
 | (k,v)::e,t=>bif beq k t then some v else look e t
structure eF(Mo:Mode)(n:Nat)(e:Env)(a:Act):Prop where
 defers:a.defers=Mo.ds
 size:a.tmps.size=n
 at_:∀t v,look e t=some v→a.tmps.getD t undef=v
def sQ(e:Env):Operand→Option Value
 | .tmp t=>look e t
 | .const v=>some v
 | .global g=>some (.pointer (some ⟨g,0,none⟩))
 | .func f=>some (.func (.func f) #[] #[])
theorem eF.ev(h:eF Mo n e a)(hx:sQ e x=some v):a.eval x=v:=by
 cases x with
 | tmp t=>exact h.at_ t v hx
 | const u=>simpa [sQ,Act.eval] using hx
 | global g=>simpa [sQ,Act.eval] using hx
 | func f=>simpa [sQ,Act.eval] using hx
theorem eF.put(h:eF Mo n e a)(d:Nat)(hd:blt d n=true)(v:Value):eF Mo n ((d,v)::e) (a.put (some d) v):=by
 have ZB:d<a.tmps.size:=by rw[h.size];simpa using hd
 refine⟨h.defers,by simp[Act.put,h.size],λt u b=> ?_⟩;simp only[look] at b;cases hk:beq d t with
 | true =>
  simp only[hk,cond_true] at b;obtain rfl:=eq_of_beq_eq_true hk;simp[Act.put,Array.getD,ZB] at b ⊢;exact b
 | false =>
  simp only[hk,cond_false] at b;have pq:d≠t:=ne_of_beq_eq_false hk;have :=h.at_ t u b;simp only[Act.put,Array.getD_eq_getD_getElem?,Array.getElem?_setIfInBounds,if_neg pq] at this ⊢;exact this
theorem eF.none{Mo:Mode}{n:Nat}{e:Env}{a:Act}(h:eF Mo n e a)(v:Value):eF Mo n e (a.put none v):=h
def Sub(E e:Env):Prop:=∀t v,look E t=some v→look e t=some v
theorem Sub.nil(e:Env):Sub [] e:=λ_ _ h=>by simp[look] at h
theorem Sub.cons{E e:Env}{t:Nat}{v:Value}(h:look e t=some v)(k:Sub E e):Sub ((t,v)::E) e:=λs u a=>by
 simp only[look] at a;cases hk:beq t s with
 | true =>
  simp only[hk,cond_true,Option.some.injEq] at a;obtain rfl:=eq_of_beq_eq_true hk;rw[h,a]
 | false=>simp only[hk,cond_false] at a;exact k s u a
theorem Sub.refl(e:Env):Sub e e:=λ_ _ h=>h
theorem eF.sub(h:eF Mo n e a)(hs:Sub E e):eF Mo n E a:=⟨h.defers,h.size,λt v b=>h.at_ t v (hs t v b)⟩
abbrev iX:=Mode→Exit→Env→List aH→Prop
def lift(r:Option (Option Nat))(K:World)(n:Nat)(Q:iX)(x:Exit)(a:Act)(w:World):Prop:=∃ds e H,eF ⟨r,ds⟩ n e a∧Sat K w H∧Q ⟨r,ds⟩ x e H
def WC(Mo:Mode)(P:Program)(K:World)(n:Nat)(c:Code)(Q:iX)(e:Env)(H:List aH):Prop :=
 ∀ a w,eF Mo n e a→Sat K w H→Lx Mo P c (lift Mo.round K n Q) a w
def WL(Mo:Mode)(P:Program)(K:World)(n:Nat)(ops:Array Oper)(rest:List Oper)(Q:iX)(e:Env)(H:List aH):Prop :=
 ∀ a w,eF Mo n e a→Sat K w H→lwp Mo P ops (lift Mo.round K n Q) rest a w
def zO(R:Mode→Env→List aH→Prop)(Q:iX):iX
 | Mo,.normal,e,H=>R Mo e H
 | Mo,x,e,H=>Q Mo x e H
def U3(id:Nat)(Q:iX):iX
 | Mo,.exit id',e,H=>bif beq id' id then Q Mo .normal e H else Q Mo (.exit id') e H
 | Mo,x,e,H=>Q Mo x e H
theorem X0(h:∀Mo x e H,Q Mo x e H→Q' Mo x e H)(x:Exit)(a:Act)(w:World)(hh:lift r K n Q x a w):lift r K n Q' x a w:=by
 obtain⟨ds,e,H,b,j,k⟩:=hh;exact⟨ds,e,H,b,j,h _ _ _ _ k⟩
theorem WC.skip(h:Q Mo .normal e H):WC Mo P K n .skip Q e H:=λa w j b=>aaO ⟨_,e,H,j,b,h⟩
theorem WC.label(h:Q Mo .normal e H):WC Mo P K n (.label l) Q e H:=λa w j b=>Yp ⟨_,e,H,j,b,h⟩
theorem WC.exit{id:Nat}(h:Q Mo (.exit id) e H):WC Mo P K n (.exit id) Q e H:=λa w j b=>aau ⟨_,e,H,j,b,h⟩
theorem WC.goto(h:Q Mo (.goto l) e H):WC Mo P K n (.goto l) Q e H:=λa w j b=>abV ⟨_,e,H,j,b,h⟩
theorem WC.ret(h:Q Mo .ret e H):WC Mo P K n .ret Q e H:=λa w j b=>adJ ⟨_,e,H,j,b,h⟩
theorem WC.seq(h:WC Mo P K n x (zO (λMo=>WC Mo P K n y Q) Q) e H):WC Mo P K n (.seq x y) Q e H:=λa w m C=>by
 refine aer (yt (h a w m C) ?_);rintro x a w ⟨ds,B,F,b,j,k⟩;cases x
 case normal =>
  have D:=k a w b j;obtain⟨r,l⟩:=Mo;cases r<;>exact D
 all_goals exact⟨ds,B,F,b,j,k⟩
theorem WC.block{id:Nat}(h:WC Mo P K n c (U3 id Q) e H):WC Mo P K n (.block id c) Q e H:=λa w y B=>by
 refine Xm (yt (h a w y B) ?_);rintro x a w ⟨ds,m,r,k,l,j⟩;cases x with
 | exit id' =>
  simp only[U3] at j ⊢;by_cases b:id'=id
  ·subst b;simp at j ⊢;exact⟨ds,m,r,k,l,j⟩
  ·have :beq id' id=false:=by cases hb:beq id' id with | false=>rfl | true=>exact (b (eq_of_beq_eq_true hb)).elim
   simp only[this,cond_false] at j;rw[if_neg b];exact⟨ds,m,r,k,l,j⟩
 | _=>exact⟨ds,m,r,k,l,j⟩
theorem WC.cond(hc:sQ e c=some (.bool t))(ht:t=true→WC Mo P K n x Q e H)(hf:t=false→WC Mo P K n y Q e H) :
 WC Mo P K n (.cond c x y) Q e H:=λa w b j=>aai (b.ev hc) (λh=>ht h a w b j) (λh=>hf h a w b j)
theorem WC.region{id:Nat}(h:WL Mo P K n l.toArray l Q e H):WC Mo P K n (.region id l.toArray false) Q e H:=λa w j b=>SX (h a w j b)
theorem WC.sub(hE:Sub E e)(hH:∀w,Sat K w H→Sat K w H')(h:WC Mo P K n c Q E H'):WC Mo P K n c Q e H :=
 λa w j b=>h a w (j.sub hE) (hH w b)
theorem WC.mono(h:WC Mo P K n c Q e H)(hq:∀Mo x e H,Q Mo x e H→Q' Mo x e H):WC Mo P K n c Q' e H :=
 λa w b k=>yt (h a w b k) λx a w j=>X0 hq x a w j
theorem WL.nil(h:Q Mo .normal e H):WL Mo P K n ops [] Q e H:=λa w j b=>ael ⟨_,e,H,j,b,h⟩
theorem WL.sub(hE:Sub E e)(hH:∀w,Sat K w H→Sat K w H')(h:WL Mo P K n ops l Q E H'):WL Mo P K n ops l Q e H :=
 λa w j b=>h a w (j.sub hE) (hH w b)
def Round{σ:Type}(Mo:Mode)(K:World)(E:σ→Env)(M:σ→List aH)(I:σ→Prop)(μ:σ→Nat)(s:σ)(Mo':Mode)(e':Env)(H':List aH):Prop :=
 Mo'.ds=Mo.ds∧∃s',I s'∧μ s'<μ s∧Sub (E s') e'∧∀w,Sat K w H'→Sat K w (M s')
theorem WC.loop{σ:Type}(E:σ→Env)(M:σ→List aH)(I:σ→Prop)(μ:σ→Nat)(s0:σ)(h0:I s0)(hE:Sub (E s0) e)(hH:∀w,Sat K w H→Sat K w (M s0))
 (round:∀s,I s→WC Mo P K n c (zO (Round Mo K E M I μ s) Q) (E s) (M s)):WC Mo P K n (.loop c) Q e H:=by
 intro a w h j;refine Qk (λm a w=>∃s,μ s=m∧I s∧eF Mo n (E s) a∧Sat K w (M s)) (μ s0) ⟨s0,Z,h0,h.sub hE,hH w j⟩ ?_;rintro m a w ⟨s,rfl,B,h,j⟩;refine yt (round s B a w h j) ?_;rintro x a w ⟨ds,D,J,k,l,y⟩;cases x
 case normal =>
  obtain⟨N,O,R,F,L,C⟩:=y;obtain⟨r,b⟩:=Mo;obtain rfl:ds=b:=N;exact⟨_,F,O,Z,R,k.sub L,C w l⟩
 all_goals exact⟨ds,D,J,k,l,y⟩
def aB(P:Program)(f:FuncId)(args:Array Value)(K:World)(H:List aH)(post:Value→List aH→Prop):Prop :=
 ∀ w,Sat K w H→Calls P f args w λe a=>∃v H',e= .returned v∧Sat K a H'∧post v H'
theorem aB.mono(h:aB P f args K H post)(hp:∀v H',post v H'→post' v H'):aB P f args K H post' :=
 λw k=>(h w k).mono λe l ⟨v,H',a,b,j⟩=>⟨v,H',a,b,hp _ _ j⟩
theorem aB.sat(h:aB P f args K H' post)(hH:∀w,Sat K w H→Sat K w H'):aB P f args K H post :=
 λw a=>h w (hH w a)
def bJ(Mo:Mode)(P:Program)(K:World)(n:Nat)(fn:Func)(e:Env)(H:List aH)(v:Value):Prop :=
 ∀ a w,eF Mo n e a→Sat K w H→(results fn a.tmps).run P w= .ok v w
def aF(P:Program)(K:World)(n:Nat)(fn:Func)(post:Value→List aH→Prop):iX
 | Mo,.normal,e,H | Mo,.ret,e,H=>Mo.ds=[]∧∃v H',bJ Mo P K n fn e H v∧(∀w,Sat K w H→Sat K w H')∧post v H'
 | _,_,_,_=>False
def kV:Nat→List Value→Env
 | _,[]=>[]
 | i,v::vs=>(i,v)::kV (i+1) vs
theorem nO:∀(vs:List Value) (i t:Nat) (v:Value),look (kV i vs) t=some v→i≤t∧vs[t-i]? =some v
 | [],_,_,_,h=>by simp[kV,look] at h
 | u::vs,i,t,v,h=>by
  simp only[kV,look] at h;cases hk:beq i t with
  | true =>
   simp only[hk,cond_true,Option.some.injEq] at h;obtain rfl:=eq_of_beq_eq_true hk;simp[h]
  | false =>
   simp only[hk,cond_false] at h;obtain⟨b,a⟩:=nO vs (i+1) t v h;refine⟨by omega, ?_⟩;rw[show t-i=(t-(i+1))+1 by omega]
   simpa using a
theorem aB.enter{n:Nat}(hf:P.funcs[f]? =some fn)(hb:fn.body=some c)(hn:fn.ntmps=n)(hl:ble vs.length n=true)
 (h:WC ⟨none,[]⟩ P K n c (aF P K n fn post) (kV 0 vs) H):aB P f vs.toArray K H post:=by
 intro w B;refine calls_of_wp hf hb (wp_mono (h _ w ?_ B) ?_)
 ·have Dp:vs.length≤n:=by simpa using hl
  refine⟨Z,by simp[hn];omega,λt v y=> ?_⟩;obtain⟨_,b⟩:=nO vs 0 t v y;simp only[Nat.sub_zero] at b;have C:t<vs.length:=by
   rcases Nat.lt_or_ge t vs.length with h | h
   ·exact h
   ·simp[getElem?_eq_none h] at b
  rw[Array.getD_eq_getD_getElem?,Array.getElem?_append_left (by simpa using C)];simp[b]
 ·rintro x a w ⟨ds,F,I,j,b,k⟩;cases x<;>first
   | (obtain⟨r,v,ou,D,l,m⟩:=k;exact⟨j.defers.trans r,v,D a w j b,v,ou,Z,l w b,m⟩)
   | exact k.elim
theorem bJ.tmp{fn:Func}(hr:fn.results= #[.tmp t])(h:look e t=some v):bJ Mo P K n fn e H v:=λa w b _=>by
 rw[results_tmp hr];rw[b.at_ t v h]
theorem bJ.none(hr:fn.results= #[]):bJ Mo P K n fn e H (.tuple #[]):=λa w _ _=>results_none hr _ _ _
theorem bJ.eU{fn:Func}(hr:fn.results= #[.tmp t,.tmp u])(h:look e t=some v)(h':look e u=some v'):bJ Mo P K n fn e H (.tuple #[v,v']):=λa w b _=>by
 rw[results_tmp2 hr];rw[b.at_ t v h,b.at_ u v' h']
theorem bJ.Bl{fn:Func}(hr:fn.results= #[.tmp t,.tmp u,.tmp r])(h:look e t=some v)(h':look e u=some v')(h'':look e r=some v''):bJ Mo P K n fn e H (.tuple #[v,v',v'']):=λa w b _=>by
 have j:=b.at_ t v h;have k:=b.at_ u v' h';have l:=b.at_ r v'' h'';simp only[Array.getD_eq_getD_getElem?] at j k l;simp[results,hr,j,k,l]
theorem bJ.aev{fn:Func}(hr:fn.results= #[.tmp t,.tmp u,.tmp r,.tmp s])(h:look e t=some v)(h':look e u=some v')(h'':look e r=some v'')(h3:look e s=some v3):bJ Mo P K n fn e H (.tuple #[v,v',v'',v3]):=λa w b _=>by
 have j:=b.at_ t v h;have k:=b.at_ u v' h';have l:=b.at_ r v'' h'';have m:=b.at_ s v3 h3;simp only[Array.getD_eq_getD_getElem?] at j k l m;simp[results,hr,j,k,l,m]
theorem aF.ret(hr:bJ ⟨r,[]⟩ P K n fn e H v)(hs:∀w,Sat K w H→Sat K w H')(hp:post v H'):aF P K n fn post ⟨r,[]⟩ .ret e H:=⟨Z,v,H',hr,hs,hp⟩
theorem aF.normal(hr:bJ ⟨r,[]⟩ P K n fn e H v)(hs:∀w,Sat K w H→Sat K w H')(hp:post v H'):aF P K n fn post ⟨r,[]⟩ .normal e H:=⟨Z,v,H',hr,hs,hp⟩
def cv(c:Bool)(v:Value):Value:=if c then v else undef
def GC(gv:Value)(want c:Bool):Prop:=((match gv with | .bool b=>some b | _=>none)==some want)=c
theorem GC.t:GC (.bool b) true b:=by cases b<;>rfl
theorem GC.f:GC (.bool b) false (!b):=by cases b<;>rfl
theorem GC.ct:GC (cv c (.bool b)) true (c&&b):=by cases c<;>cases b<;>rfl
theorem GC.cf:GC (cv c (.bool b)) false (c&& !b):=by cases c<;>cases b<;>rfl
def OV(c:Bool)(e:Env)(x:Operand)(v:Value):Prop:=∃u,sQ e x=some u∧(c=true→u=v)
theorem OV.p(h:sQ e x=some v):OV c e x v:=⟨v,h,λ_=>Z⟩
theorem OV.g(h:sQ e x=some (cv c0 v))(hc:c=true→c0=true):OV c e x v:=⟨_,h,λa=>by simp[cv,hc a]⟩
theorem OV.ev(h:OV c e x v)(hc:c=true)(ha:eF Mo n e a):a.eval x=v:=by
 obtain⟨u,b,j⟩:=h;rw[ha.ev b,j hc]
def eX(Mo:Mode)(P:Program)(K:World)(n:Nat)(c:Bool)(e:Env)(H:List aH)(o:Oper)(v:Value):Prop :=
 c=true→∀a w,eF Mo n e a→Sat K w H→(execOp a.eval o).run P w= .ok (.value v) w
theorem WL.val{d:Nat}(hv:eX Mo P K n true e H ⟨some d,op,ty,pos,af,none⟩ v)(hd:blt d n=true)
 (h:WL Mo P K n ops rest Q ((d,v)::e) H):WL Mo P K n ops (⟨some d,op,ty,pos,af,none⟩::rest) Q e H:=λa w j b=>by
 exact kH Z λR k=>zB (hv Z a w j b) (k _ _ (h _ w (j.put d hd v) b))
theorem Region.jv{dj:Nat}{oj:Oper}(hg:o.guard=some (j,want))(hj:ops[j]? =some oj)(EG:oj.dst=some dj)
 (hl:look e dj=some gv) (ha:eF Mo n e a) (hG:GC gv want c):Region.wanted o (yielded ops a.tmps)=c:=by
 have b:=ha.at_ dj gv hl;simp only[Region.wanted,hg,yielded,hj,Option.bind_some,EG];rw[Array.getD_eq_getD_getElem?] at b;cases ht:a.tmps[dj]? with
 | none =>
  simp only[ht,Option.getD_none] at b;subst b;rw[←hG];rfl
 | some u =>
  simp only[ht,Option.getD_some] at b;subst b;cases u<;>exact hG
theorem WL.bI{d dj:Nat}{oj:Oper}
 (hj:ops[j]? =some oj) (EG:oj.dst=some dj) (hl:look e dj=some gv) (hG:GC gv want c)
 (hv:eX Mo P K n c e H ⟨some d,op,ty,pos,af,some (j,want)⟩ v) (hd:blt d n=true)
 (h:WL Mo P K n ops rest Q ((d,cv c v)::e) H):WL Mo P K n ops (⟨some d,op,ty,pos,af,some (j,want)⟩::rest) Q e H:=λa w b k=>by
 have GK:=Region.jv (o:=⟨some d,op,ty,pos,af,some (j,want)⟩) Z hj EG hl b hG;cases c with
 | false=>exact qg GK (h _ w (b.put d hd _) k)
 | true=>exact uP GK λR l=>zB (hv Z a w b k) (l _ _ (h _ w (b.put d hd v) k))
theorem WL.BK{Mo:Mode}{P:Program}{K:World}{n:Nat}{Q:iX}{e:Env}{H:List aH}{ops:Array Oper}{rest:List Oper}{o oj:Oper}{j dj:Nat}{want:Bool}{gv:Value}(hg:o.guard=some (j,want))
 (hj:ops[j]? =some oj) (EG:oj.dst=some dj) (hl:look e dj=some gv) (hG:GC gv want false) (hd:∀d,o.dst=some d→blt d n=true)
 (h:WL Mo P K n ops rest Q (match o.dst with | some d=>(d,undef)::e | none=>e) H):WL Mo P K n ops (o::rest) Q e H:=λa w b k=>by
 refine qg (Region.jv hg hj EG hl b hG) ?_;cases ZB:o.dst with
 | none=>rw[ZB] at h;exact h a w b k
 | some d=>rw[ZB] at h;exact h _ w (b.put d (hd d ZB) _) k
abbrev ptr(b o:Nat):Value:= .pointer (some ⟨b,o,none⟩)
theorem jM(b o k:Nat):(⟨b,o,none⟩:Addr).add k=⟨b,o+k,none⟩:=by unfold Addr.add;split<;>simp_all
theorem V.move(hx:OV c e x v):eX Mo P K n c e H ⟨dst,.move x,ty,pos,af,gd⟩ v:=λh a w b _=>by
 show Result.ok (Next.value (a.eval x)) w=_;rw[hx.ev h b]
theorem V.assign(hx:OV c e x v):eX Mo P K n c e H ⟨dst,.assign x,ty,pos,af,gd⟩ v:=λh a w b _=>by
 show Result.ok (Next.value (a.eval x)) w=_;rw[hx.ev h b]
theorem I8{a:Act}(h:a.eval q= .bool g):(execOp a.eval ⟨dst,.pick q x y,ty,pos,af,gd⟩).run P w= .ok (.value (if g then a.eval x else a.eval y)) w:=by
 show ((do pure (Next.value (if ←asBool (a.eval q) then a.eval x else a.eval y))):Sem Next).run P w=_;rw[h];rfl
theorem V.aas(hq:OV c e q (.bool true))(hx:OV c e x v):eX Mo P K n c e H ⟨dst,.pick q x y,ty,pos,af,gd⟩ v:=λh a w b _=>by
 rw[I8 (hq.ev h b),hx.ev h b];rfl
theorem V.Ci(hq:OV c e q (.bool g))(hx:OV (c&&g) e x (.bool p)):eX Mo P K n c e H ⟨dst,.pick q x (.const (.bool false)),ty,pos,af,gd⟩ (.bool (g&&p)):=λh a w b _=>by
 rw[I8 (hq.ev h b)];subst h;cases g with
 | true=>rw[hx.ev Z b];rfl
 | false=>rfl
theorem V.DY(hq:OV c e q (.bool g))(hy:OV (c&& !g) e y (.bool p)):eX Mo P K n c e H ⟨dst,.pick q (.const (.bool true)) y,ty,pos,af,gd⟩ (.bool (g||p)):=λh a w b _=>by
 rw[I8 (hq.ev h b)];subst h;cases g with
 | false=>rw[hy.ev Z b];rfl
 | true=>rfl
theorem rX{a:Act}(hx:a.eval x=u)(hy:a.eval y=v)(hg:(eqGuard op t x y u v).run P w= .ok () w)(hr:(binOp op t u v).run P w= .ok r w) :
 (execOp a.eval ⟨dst,.binOp op t x y t',ty,pos,af,gd⟩).run P w= .ok (.value r) w:=by
 show (((eqGuard op t x y (a.eval x) (a.eval y) >>= λ_=>binOp op t (a.eval x) (a.eval y)) >>= λr=>pure (Next.value r)):Sem Next).run P w=_;rw[hx,hy];simp only[Sem.run_bind,hg,hr,Result.andThen_ok,Sem.run_pure]
theorem OM:(eqGuard op t x y (.int k i) (.int k' j)).run P w= .ok () w:=by
 unfold eqGuard;cases op<;>rfl
theorem afA:(eqGuard op t x y (.bool i) (.bool j)).run P w= .ok () w:=by
 unfold eqGuard;cases op<;>rfl
theorem xg:(eqGuard op t x y (.string i) (.string j)).run P w= .ok () w:=by
 unfold eqGuard;cases op<;>rfl
theorem Fz:(eqGuard op t x y (.pointer i) (.pointer j)).run P w= .ok () w:=by
 unfold eqGuard;cases op<;>rfl
section ints
theorem V.xJ(hx:OV c e x (.int k i))(hy:OV c e y (.int k' j))(hr:∀w,(binOp op t (.int k i) (.int k' j)).run P w= .ok r w):eX Mo P K n c e H ⟨dst,.binOp op t x y t',ty,pos,af,gd⟩ r :=
 λh a w b _=>rX (hx.ev h b) (hy.ev h b) OM (hr w)
theorem V.lss(hx:OV c e x (.int k i))(hy:OV c e y (.int k j)):eX Mo P K n c e H ⟨dst,.binOp .lss t x y t',ty,pos,af,gd⟩ (.bool (decide (i<j))):=V.xJ hx hy λw=>by simp[binOp,Op.intCmp]
theorem V.leq(hx:OV c e x (.int k i))(hy:OV c e y (.int k j)):eX Mo P K n c e H ⟨dst,.binOp .leq t x y t',ty,pos,af,gd⟩ (.bool (decide (i≤j))):=V.xJ hx hy λw=>by simp[binOp,Op.intCmp]
theorem V.gtr(hx:OV c e x (.int k i))(hy:OV c e y (.int k j)):eX Mo P K n c e H ⟨dst,.binOp .gtr t x y t',ty,pos,af,gd⟩ (.bool (decide (j<i))):=V.xJ hx hy λw=>by simp[binOp,Op.intCmp]
theorem V.geq(hx:OV c e x (.int k i))(hy:OV c e y (.int k j)):eX Mo P K n c e H ⟨dst,.binOp .geq t x y t',ty,pos,af,gd⟩ (.bool (decide (j≤i))):=V.xJ hx hy λw=>by simp[binOp,Op.intCmp]
theorem V.eql(hx:OV c e x (.int k i))(hy:OV c e y (.int k j)):eX Mo P K n c e H ⟨dst,.binOp .eql t x y t',ty,pos,af,gd⟩ (.bool (decide (i=j))):=V.xJ hx hy λw=>by
 simp[binOp,Op.intCmp];rw[Bool.eq_iff_iff];simp
theorem V.neq(hx:OV c e x (.int k i))(hy:OV c e y (.int k j)):eX Mo P K n c e H ⟨dst,.binOp .neq t x y t',ty,pos,af,gd⟩ (.bool (!decide (i=j))):=V.xJ hx hy λw=>by
 simp[binOp,Op.intCmp];rw[Bool.eq_iff_iff];simp
theorem V.add(hx:OV c e x (.int k i))(hy:OV c e y (.int k j)):eX Mo P K n c e H ⟨dst,.binOp .add t x y t',ty,pos,af,gd⟩ (.int k (k.wrap (i+j))):=V.xJ hx hy λw=>by simp[binOp,Op.intArith]
theorem V.sub(hx:OV c e x (.int k i))(hy:OV c e y (.int k j)):eX Mo P K n c e H ⟨dst,.binOp .sub t x y t',ty,pos,af,gd⟩ (.int k (k.wrap (i-j))):=V.xJ hx hy λw=>by simp[binOp,Op.intArith]
theorem V.mul(hx:OV c e x (.int k i))(hy:OV c e y (.int k j)):eX Mo P K n c e H ⟨dst,.binOp .mul t x y t',ty,pos,af,gd⟩ (.int k (k.wrap (i*j))):=V.xJ hx hy λw=>by simp[binOp,Op.intArith]
theorem wrap_i64(h: -9223372036854775808≤i∧i≤9223372036854775807):IntKind.i64.wrap i=i:=IntWalk.i64_in i h
theorem V.aG(h:eX Mo P K n c e H o v)(he:c=true→v=v'):eX Mo P K n c e H o v':=λa=>by rw[←he a];exact h a
theorem V.CX(hx:OV c e x (.i i))(hy:OV c e y (.i j))(h:c=true→ -9223372036854775808≤i+j∧i+j≤9223372036854775807):eX Mo P K n c e H ⟨dst,.binOp .add t x y t',ty,pos,af,gd⟩ (.i (i+j)):=V.aG (V.add hx hy) λa=>by rw[wrap_i64 (h a)]
theorem V.Eo(hx:OV c e x (.i i))(hy:OV c e y (.i j))(h:c=true→ -9223372036854775808≤i-j∧i-j≤9223372036854775807):eX Mo P K n c e H ⟨dst,.binOp .sub t x y t',ty,pos,af,gd⟩ (.i (i-j)):=V.aG (V.sub hx hy) λa=>by rw[wrap_i64 (h a)]
theorem V.MK(hx:OV c e x (.i i))(hy:OV c e y (.i j))(h:c=true→ -9223372036854775808≤i*j∧i*j≤9223372036854775807):eX Mo P K n c e H ⟨dst,.binOp .mul t x y t',ty,pos,af,gd⟩ (.i (i*j)):=V.aG (V.mul hx hy) λa=>by rw[wrap_i64 (h a)]
theorem V.quo(hx:OV c e x (.int k i))(hy:OV c e y (.int k j))(h:j≠0):eX Mo P K n c e H ⟨dst,.binOp .quo t x y t',ty,pos,af,gd⟩ (.int k (k.wrap (i.tdiv j))):=V.xJ hx hy λw=>by simp[binOp,Op.intDiv,h]
theorem V.rem(hx:OV c e x (.int k i))(hy:OV c e y (.int k j))(h:j≠0):eX Mo P K n c e H ⟨dst,.binOp .rem t x y t',ty,pos,af,gd⟩ (.int k (i.tmod j)):=V.xJ hx hy λw=>by simp[binOp,Op.intDiv,h]
theorem V.aeC(hx:OV c e x (.i i))(hy:OV c e y (.i j))(h:c=true→0≤i∧i≤9223372036854775807∧0<j):eX Mo P K n c e H ⟨dst,.binOp .quo t x y t',ty,pos,af,gd⟩ (.i (i/j)):=λb=>by
 obtain⟨a,l,k⟩:=h b;refine V.aG (V.quo hx hy (by omega)) (λ_=> ?_) b;rw[Int.tdiv_eq_ediv_of_nonneg a,wrap_i64 ⟨by have :=Int.ediv_nonneg a (Int.le_of_lt k);omega,by have :=Int.ediv_le_self j a;omega⟩]
theorem V.Av(hx:OV c e x (.i i))(hy:OV c e y (.i j))(h:c=true→0≤i∧0<j):eX Mo P K n c e H ⟨dst,.binOp .rem t x y t',ty,pos,af,gd⟩ (.i (i%j)):=λa=>by
 obtain⟨b,k⟩:=h a;refine V.aG (V.rem hx hy (by omega)) (λ_=> ?_) a;rw[Int.tmod_eq_emod_of_nonneg b]
def bitsOf(op:BinOp)(k:IntKind)(i j:Int):Int :=
 let a:=BitVec.ofInt k.bits i
 let b:=BitVec.ofInt k.bits j
 k.wrap (match op with | .and=>(a &&& b) | .or=>(a ||| b) | .xor=>(a ^^^ b) | _=>(a &&& ~~~b)).toNat
theorem V.and(hx:OV c e x (.int k i))(hy:OV c e y (.int k j)):eX Mo P K n c e H ⟨dst,.binOp .and t x y t',ty,pos,af,gd⟩ (.int k (bitsOf .and k i j)):=V.xJ hx hy λw=>by simp[binOp,Op.intBits,bitsOf]
theorem V.or(hx:OV c e x (.int k i))(hy:OV c e y (.int k j)):eX Mo P K n c e H ⟨dst,.binOp .or t x y t',ty,pos,af,gd⟩ (.int k (bitsOf .or k i j)):=V.xJ hx hy λw=>by simp[binOp,Op.intBits,bitsOf]
theorem V.xor(hx:OV c e x (.int k i))(hy:OV c e y (.int k j)):eX Mo P K n c e H ⟨dst,.binOp .xor t x y t',ty,pos,af,gd⟩ (.int k (bitsOf .xor k i j)):=V.xJ hx hy λw=>by simp[binOp,Op.intBits,bitsOf]
theorem V.andNot(hx:OV c e x (.int k i))(hy:OV c e y (.int k j)):eX Mo P K n c e H ⟨dst,.binOp .andNot t x y t',ty,pos,af,gd⟩ (.int k (bitsOf .andNot k i j)):=V.xJ hx hy λw=>by simp[binOp,Op.intBits,bitsOf]
theorem V.shl(hx:OV c e x (.int k i))(hy:OV c e y (.int k' j))(h:0≤j):eX Mo P K n c e H ⟨dst,.binOp .shl t x y t',ty,pos,af,gd⟩ (.int k (k.wrap (i*2^(min j.toNat k.bits)))):=V.xJ hx hy λw=>by
 simp[binOp,Op.shift,Int.not_lt.2 h]
theorem V.shr(hx:OV c e x (.int k i))(hy:OV c e y (.int k' j))(h:0≤j):eX Mo P K n c e H ⟨dst,.binOp .shr t x y t',ty,pos,af,gd⟩ (.int k (i.fdiv (2^(min j.toNat k.bits)))):=V.xJ hx hy λw=>by
 simp[binOp,Op.shift,Int.not_lt.2 h]
end ints
theorem V.as9(ht:P.underlying t=some .bool)(hx:OV c e x (.bool i))(hy:OV c e y (.bool j)):eX Mo P K n c e H ⟨dst,.binOp .neq t x y t',ty,pos,af,gd⟩ (.bool (!(i==j))) :=
 λh a w b _=>rX (hx.ev h b) (hy.ev h b) afA (by
  show ((Op.equal t (.bool i) (.bool j) >>= λr=>pure (Value.bool (!r))):Sem Value).run P w=_;simp only[Sem.run_bind,run_equal_bool w t i j ht,Result.andThen_ok,Sem.run_pure])
theorem V.ajB(hx:OV c e x (.string i))(hy:OV c e y (.string j)):eX Mo P K n c e H ⟨dst,.binOp .eql t x y t',ty,pos,af,gd⟩ (.bool (i.toList==j.toList)) :=
 λh a w b _=>rX (hx.ev h b) (hy.ev h b) xg (by simp[binOp,Op.stringOp])
theorem V.agA(hx:OV c e x (.string i))(hy:OV c e y (.string j)):eX Mo P K n c e H ⟨dst,.binOp .neq t x y t',ty,pos,af,gd⟩ (.bool (!(i.toList==j.toList))) :=
 λh a w b _=>rX (hx.ev h b) (hy.ev h b) xg (by simp[binOp,Op.stringOp])
theorem V.akw(ht:P.underlying t=some (.pointer (P.pointee t)))(hx:OV c e x (.pointer i))(hy:OV c e y (.pointer none)):eX Mo P K n c e H ⟨dst,.binOp .eql t x y t',ty,pos,af,gd⟩ (.bool i.isNone) :=
 λh a w b _=>rX (hx.ev h b) (hy.ev h b) Fz (by
  have j:(binOp .eql t (.pointer i) (.pointer none))=((Op.equal t (.pointer i) (.pointer none) >>= λr=>pure (Value.bool r)):Sem Value):=by cases i<;>rfl
  rw[j];simp only[Sem.run_bind,run_equal_pointer_nil w t i ht,Result.andThen_ok,Sem.run_pure])
theorem V.anq(ht:P.underlying t=some (.pointer (P.pointee t)))(hx:OV c e x (.pointer i))(hy:OV c e y (.pointer none)):eX Mo P K n c e H ⟨dst,.binOp .neq t x y t',ty,pos,af,gd⟩ (.bool (!i.isNone)) :=
 λh a w b _=>rX (hx.ev h b) (hy.ev h b) Fz (by
  have j:(binOp .neq t (.pointer i) (.pointer none))=((Op.equal t (.pointer i) (.pointer none) >>= λr=>pure (Value.bool (!r))):Sem Value):=by cases i<;>rfl
  rw[j];simp only[Sem.run_bind,run_equal_pointer_nil w t i ht,Result.andThen_ok,Sem.run_pure])
theorem V.not(hx:OV c e x (.bool g)):eX Mo P K n c e H ⟨dst,.unOp .not t x,ty,pos,af,gd⟩ (.bool (!g)):=λh a w b _=>by
 show ((do pure (Next.value (←Op.unary .not (a.eval x)))):Sem Next).run P w=_;rw[hx.ev h b];rfl
theorem V.extract{vs:List Value}(hx:OV c e x (.tuple vs.toArray))(hv:vs[i]? =some v):eX Mo P K n c e H ⟨dst,.extract x i,ty,pos,af,gd⟩ v:=λh a w b _=>by
 show ((do pure (Next.value (←Instr.extract (a.eval x) i))):Sem Next).run P w=_;rw[hx.ev h b];simp[Instr.extract,hv]
theorem V.FC(hs:∀w,(underlying s).run P w= .ok ds w)(ht:∀w,(underlying t).run P w= .ok (.int k') w)(hx:OV c e x (.int k i)) :
 eX Mo P K n c e H ⟨dst,.convert s t x,ty,pos,af,gd⟩ (.int k' (k'.wrap i)):=λh a w b _=>by
 show ((do pure (Next.value (←convert s t (a.eval x)))):Sem Next).run P w=_;rw[hx.ev h b];simp only[convert,Sem.run_bind,hs,ht,Result.andThen_ok];cases ds<;>rfl
theorem V.uy(hs:∀w,(underlying s).run P w= .ok ds w)(ht:∀w,(underlying t).run P w= .ok (.int k') w)(hx:OV c e x (.int k i))(hi:c=true→k'.wrap i=i) :
 eX Mo P K n c e H ⟨dst,.convert s t x,ty,pos,af,gd⟩ (.int k' i):=V.aG (V.FC hs ht hx) λa=>by rw[hi a]
def jC(P:Program)(S f off:Nat):Prop:=∀(a:Addr) (w:World),(Instr.fieldAt S (.pointer (some a)) f).run P w= .ok (.pointer (some (a.add off))) w
theorem V.fieldAddr(hF:jC P S f off)(hx:OV c e x (ptr b o)):eX Mo P K n c e H ⟨dst,.fieldAddr S x f,ty,pos,af,gd⟩ (ptr b (o+off)):=λj a w h _=>by
 show ((do pure (Next.value (←Instr.fieldAt S (a.eval x) f))):Sem Next).run P w=_;rw[hx.ev j h,Sem.run_bind,hF,jM];rfl
theorem V.nilCheck(hx:OV c e x (.pointer (some p))):eX Mo P K n c e H ⟨dst,.nilCheck x,ty,pos,af,gd⟩ (.pointer (some p)):=λh a w b _=>by
 show (match a.eval x with
  | .pointer none | .nilIface | .nilFunc=>runtimePanic .nilDeref
  | .func (.method name) first captured=>_
  | x=>pure (.value x):Sem Next).run P w=_
 rw[hx.ev h b];rfl
def ah(b T:Nat)(cs:List Value):aH where
 jA x:=x=b
 holds w:=w.heap[b]? =some (.cells cs.toArray T (0,0))
 loc w w' h hw:=by rw[h b Z];exact hw
def Old(K:World):aH where
 jA x:=x<K.heap.size
 holds w:=∀b,b<K.heap.size→w.heap[b]? =K.heap[b]?
 loc w w' h hw b hb:=(h b hb).trans (hw b hb)
theorem Sat.YZ(K:World):Sat K K [Old K]:=⟨⟨Z,Z,Z,Nat.le_refl _⟩,λ_ _=>Z,λ_ b=>b,λ_ _ _ a=>by simp at a,trivial⟩
theorem Sat.below(h:Sat K w (Old K::H)):Below K.heap.size K w:=⟨h.1.os,h.1.tape,h.1.output,h.1.size,h.head⟩
def Rd(K:World)(H:List aH)(p:Option Addr)(v:Value):Prop:=∀w,Sat K w H→∃a,p=some a∧w.cell? a=some v
theorem Rd.up{K:World}{H:List aH}{A:aH}{p:Option Addr}{v:Value}(h:Rd K H p v):Rd K (A::H) p v:=λw a=>h w a.tail
theorem Rd.here(h:cs[o]? =some v):Rd K (ah b T cs::H) (some ⟨b,o,none⟩) v:=λw a=>by
 refine⟨_,Z, ?_⟩;have :=a.head;simp only[ah] at this;simp[World.cell?,this,h]
def fH(K:World)(H:List aH)(b o:Nat)(vs:List Value):Prop:=∀i v,vs[i]? =some v→Rd K H (some ⟨b,o+i,none⟩) v
theorem fH.up{K:World}{H:List aH}{A:aH}{b o:Nat}{vs:List Value}(h:fH K H b o vs):fH K (A::H) b o vs:=λi v a=>(h i v a).up
theorem fH.here(h:vs <+: cs.drop o):fH K (ah b T cs::H) b o vs:=λi v a=>by
 refine Rd.here ?_;obtain⟨t,k⟩:=h;have :=getElem?_drop (xs:=cs) (i:=o) (j:=i);rw[←this,←k,getElem?_append_left (by
  rcases Nat.lt_or_ge i vs.length with h | h
  ·exact h
  ·simp[getElem?_eq_none h] at a),a]
theorem fH.all:fH K (ah b T cs::H) b 0 cs:=fH.here (by simp)
def M9(P:Program)(T:Nat):Prop:=∀w,(isAgg T).run P w= .ok false w
def Ur(P:Program)(T s:Nat):Prop:=(∀w,(isAgg T).run P w= .ok true w)∧∀w,(sizeOf T).run P w= .ok s w
theorem V.load(hT:M9 P T)(hx:OV c e x (.pointer p))(hr:c=true→Rd K H p v):eX Mo P K n c e H ⟨dst,.load T x,ty,pos,af,gd⟩ v:=λb a w j h=>by
 show ((do pure (Next.value (←Instr.loadAt T (a.eval x)))):Sem Next).run P w=_;obtain⟨l,rfl,k⟩:=hr b w h;rw[hx.ev b j];simp[Instr.loadAt,Instr.sureAddr,loadVar,hT w,k]
theorem V.fE(hT:Ur P T s)(hx:OV c e x (ptr b o))(hs:vs.length=s)(hr:c=true→fH K H b o vs):eX Mo P K n c e H ⟨dst,.load T x,ty,pos,af,gd⟩ (.agg vs.toArray):=λk a w l m=>by
 show ((do pure (Next.value (←Instr.loadAt T (a.eval x)))):Sem Next).run P w=_;rw[hx.ev k l];have h:=run_loadCells_list (P:=P) w ⟨b,o,none⟩ vs (λj v r=>by
  obtain⟨B,h,y⟩:=hr k j v r w m;injection h with h;subst h;rwa [jM])
 subst hs;simp[Instr.loadAt,Instr.sureAddr,loadVar,hT.1 w,hT.2 w,h]
theorem WL.RQ{d:Nat}{R:Value→List aH→Prop}
 (hv:∀a w,eF Mo n e a→Sat K w H→∃v w' H',(execOp a.eval ⟨some d,op,ty,pos,af,none⟩).run P w= .ok (.value v) w'∧Sat K w' H'∧R v H') (hd:blt d n=true)
 (h:∀v H',R v H'→WL Mo P K n ops rest Q ((d,v)::e) H'):WL Mo P K n ops (⟨some d,op,ty,pos,af,none⟩::rest) Q e H:=λa w b m=>by
 obtain⟨v,w',H',j,k,l⟩:=hv a w b m;exact kH Z λS r=>zB j (r _ _ (h v H' l _ w' (b.put d hd v) k))
theorem WL.aeo{R:List aH→Prop}
 (hv:∀a w,eF Mo n e a→Sat K w H→∃w' H',(((execOp a.eval ⟨none,op,ty,pos,af,none⟩).run P w= .ok .skip w')∨∃v,(execOp a.eval ⟨none,op,ty,pos,af,none⟩).run P w= .ok (.value v) w')∧Sat K w' H'∧R H')
 (h:∀H',R H'→WL Mo P K n ops rest Q e H'):WL Mo P K n ops (⟨none,op,ty,pos,af,none⟩::rest) Q e H:=λa w j r=>by
 obtain⟨w',H',b,k,l⟩:=hv a w j r;refine kH Z λS m=> ?_;rcases b with b | ⟨v,b⟩
 ·exact aaC b (m _ _ (h H' l _ w' (j.none _) k))
 ·exact zB b (m _ _ (h H' l _ w' (j.none _) k))
theorem Sat.alloc(hw:Sat K w H)(T:Nat)(cs:List Value):Sat K (w.alloc (.cells cs.toArray T)) (ah w.heap.size T cs::H):=by
 refine⟨hw.1.grow Z Z Z (by simp),hw.2.push (by simp) (λb a=> ?_) ?_ (λb a=> ?_)⟩
 ·exact Below.heap_alloc _ _ _ a
 ·exact heap_alloc_new w _
 ·simp only[ah] at a;subst a;simp
theorem WL.box(hx:OV true e x v)(hc:v.cells.toList=cs)(hd:blt d n=true)
 (h:∀b,WL Mo P K n ops rest Q ((d,ptr b 0)::e) (ah b T cs::H)):WL Mo P K n ops (⟨some d,.box T x,ty,pos,af,none⟩::rest) Q e H:=by
 refine WL.RQ (R:=λv j=>∃b,v=ptr b 0∧j=ah b T cs::H) (λa w k m=> ?_) hd (λv j ⟨b,r,l⟩=>by subst r l;exact h b);refine⟨ptr w.heap.size 0,w.alloc (.cells cs.toArray T),_, ?_,m.alloc T cs,_,Z,Z⟩;show ((do pure (Next.value (←Instr.box T (a.eval x)))):Sem Next).run P w=_;rw[hx.ev Z k,←hc];simp[Instr.box,newVar,newRow]
theorem WL.alloc{e:Env}{T:Nat}(hz:∀w,(zeroValue T).run P w= .ok z w)(hc:z.cells.toList=cs)(hd:blt d n=true)
 (h:∀b,WL Mo P K n ops rest Q ((d,ptr b 0)::e) (ah b T cs::H)):WL Mo P K n ops (⟨some d,.alloc T,ty,pos,af,none⟩::rest) Q e H:=by
 refine WL.RQ (R:=λv j=>∃b,v=ptr b 0∧j=ah b T cs::H) (λa w r l=> ?_) hd (λv j ⟨b,m,k⟩=>by subst m k;exact h b);refine⟨ptr w.heap.size 0,w.alloc (.cells cs.toArray T),_, ?_,l.alloc T cs,_,Z,Z⟩;show ((do pure (Next.value (←Instr.alloc T true (.tuple #[])))):Sem Next).run P w=_;simp[Instr.alloc,newVar,newRow,hz w,←hc]
def oU(cs:List Value)(o:Nat):List Value→List Value
 | []=>cs
 | v::vs=>oU (cs.set o v) (o+1) vs
theorem Fu:∀(vs:List Value) (cs:List Value) (o:Nat),(oU cs o vs).length=cs.length
 | [],_,_=>rfl
 | v::vs,cs,o=>by rw[oU,Fu vs];simp
theorem kL(b k:Nat)(hk:k≠b):∀(vs:List Value) (o:Nat) (w:World),(w.setCells b o vs).heap[k]? =w.heap[k]?
 | [],_,_=>rfl
 | v::vs,o,w=>by rw[World.setCells,kL b k hk vs];exact Below.heap_setCell w _ v k hk
theorem sU(b:Nat)(T:TypeId)(fr:Nat×Nat):∀(vs:List Value) (o:Nat) (w:World) (cs:List Value),w.heap[b]? =some (.cells cs.toArray T fr)→(w.setCells b o vs).heap[b]? =some (.cells (oU cs o vs).toArray T fr)
 | [],_,_,_,h=>h
 | v::vs,o,w,cs,h=>by
  rw[World.setCells,oU];refine sU b T fr vs (o+1) _ _ ?_;simp[World.setCell,Array.getElem?_modify,h]
theorem lC(b:Nat):∀(vs:List Value) (o:Nat) (w:World),(w.setCells b o vs).os=w.os∧(w.setCells b o vs).tape=w.tape∧(w.setCells b o vs).output=w.output∧(w.setCells b o vs).heap.size=w.heap.size
 | [],_,_=>⟨Z,Z,Z,Z⟩
 | v::vs,o,w=>by
  rw[World.setCells];obtain⟨h1,h2,h3,h4⟩:=lC b vs (o+1) (w.setCell ⟨b,o,none⟩ v);exact⟨h1,h2,h3,by rw[h4];simp⟩
structure bT(K:World)(H:List aH)(b o:Nat)(vs:List Value)(H':List aH):Prop where
 agY:∀B'∈H',∀k,B'.jA k→∃B∈H,B.jA k
 own:∃B∈H,B.jA b
 may:∀w,bO w H→∀i,i<vs.length→(w.cell? ⟨b,o+i,none⟩).isSome=true∧w.frozen? ⟨b,o+i,none⟩=false
 sat:∀w,bO w H→bO (w.setCells b o vs) H'
theorem bT.here(ho:ble (o+vs.length) cs.length=true)(hc:oU cs o vs=cs'):bT K (ah b T cs::H) b o vs (ah b T cs'::H):=by
 have GN:o+vs.length≤cs.length:=by simpa using ho
 refine⟨λx Y7 k l=> ?_,⟨_,.head _,Z⟩,λw j i r=> ?_,λw j=> ?_⟩
 ·rcases mem_cons.1 Y7 with rfl | h
  ·exact⟨_,.head _,l⟩
  ·exact⟨_,.tail _ h,l⟩
 ·have a:=j.1;simp only[ah] at a;exact⟨by simp[World.cell?,a];omega,by simp[World.frozen?,a]⟩
 ·have a:=j.1;simp only[ah] at a;obtain⟨_,_,_,m⟩:=lC b vs o w;refine j.set (Nat.le_of_eq m.symm) (λk Gg _=>kL b k Gg vs o w) ?_ (λk Gg=> .inl Gg);simp only[ah];rw[sU b T (0,0) vs o w cs a,←hc]
theorem bT.up{K:World}{H:List aH}{A:aH}{b o:Nat}{vs:List Value}{H':List aH}(h:bT K H b o vs H'):bT K (A::H) b o vs (A::H'):=by
 obtain⟨B,x,j⟩:=h.own;refine⟨λl Y7 k y=> ?_,⟨B,.tail _ x,j⟩,λw a=>h.may w a.tail,λw a=> ?_⟩
 ·rcases mem_cons.1 Y7 with rfl | D
  ·exact⟨_,.head _,y⟩
  ·obtain⟨m,C,J⟩:=h.agY l D k y;exact⟨m,.tail _ C,J⟩
 ·have pq:¬A.jA b:=λI=>a.2.2.1 b I B x j;obtain⟨_,_,_,F⟩:=lC b vs o w;refine⟨A.loc w _ (λk Gg=>kL b k (λe=>pq (e ▸ Gg)) vs o w) a.1,λk Gg=>by rw[F];exact a.2.1 k Gg,λk Gg l Y7 wE=> ?_,h.sat w a.tail⟩;obtain⟨m,r,oH⟩:=h.agY l Y7 k wE;exact a.2.2.1 k Gg m r oH
theorem bT.run(h:bT K H b o vs H')(hw:Sat K w H)(h1:∀v∈vs,v.oneCell'=true) :
 (storeCells ⟨b,o,none⟩ vs).run P w= .ok () (w.setCells b o vs)∧Sat K (w.setCells b o vs) H':=by
 have k:=h.may w hw.2;obtain⟨m,l,r,x⟩:=lC b vs o w;refine⟨?_,hw.1.grow m l r (Nat.le_of_eq x.symm),h.sat w hw.2⟩;have :=run_storeCells_cells (P:=P) b o vs 0 w (λj a=>by simpa using (k j a).1) (λj a=>by simpa using (k j a).2) h1
 simpa using this
theorem WL.store{T:Nat}(hT:∀w,(sizeOf T).run P w= .ok s w)(hx:OV true e x (ptr b o))(hy:OV true e y v)(hc:v.cells.toList=cs)
 (hs:cs.length=s) (h1:cs.all (·.oneCell')=true) (hu:bT K H b o cs H') (h:WL Mo P K n ops rest Q e H'):WL Mo P K n ops (⟨none,.store T x y,ty,pos,af,none⟩::rest) Q e H:=by
 refine WL.aeo (R:=λou=>ou=H') (λa w j l=> ?_) (λou m=>by subst m;exact h);obtain⟨B,k⟩:=hu.run (P:=P) l (λv r=>by simpa using all_eq_true.1 h1 v r);refine⟨_,H',.inl ?_,k,Z⟩;show ((do Instr.storeAt T (a.eval x) (a.eval y);pure Next.skip):Sem Next).run P w=_;rw[hx.ev Z j,hy.ev Z j];subst hc hs;simp[Instr.storeAt,Instr.sureAddr,storeVar,hT w,B]
def Ga(c:Bool)(e:Env):List Operand→List Value→Prop
 | [],[]=>True
 | x::xs,v::vs=>OV c e x v∧Ga c e xs vs
 | _,_=>False
theorem Ga.ev(ha:eF Mo n e a)(hc:c=true):∀ {xs:List Operand} {vs:List Value},Ga c e xs vs→xs.map a.eval=vs
 | [],[],_=>rfl
 | x::xs,v::vs,h=>by rw[map_cons,h.1.ev hc ha,Ga.ev ha hc h.2]
def bP(P:Program)(f:FuncId):Prop:=∀args w,(callFunc f args).run P w= .ok (.enter f args) w
theorem xS{xs:List Operand}{a:Act}(hf:bP P f)(gL:xs.map a.eval=vs) :
 (execOp a.eval ⟨dst,.call ⟨.value (.func f),xs.toArray,ats⟩,ty,pos,af,gd⟩).run P w= .ok (.enter f vs.toArray) w:=by
 rw[execOp_call_go,hf];simp[gL]
theorem tO{xs:List Operand}{a:Act}(hf:bP P f)(hy:a.eval y= .func (.func f) first.toArray captured.toArray)(gL:xs.map a.eval=vs) :
 (execOp a.eval ⟨dst,.call ⟨.value y,xs.toArray,ats⟩,ty,pos,af,gd⟩).run P w= .ok (.enter f (first++vs++captured).toArray) w:=by
 show ((do let d ←resolve a.eval ⟨.value y,xs.toArray,ats⟩ ty;invoke d.target d.args):Sem Next).run P w=_;have b:resolve a.eval ⟨.value y,xs.toArray,ats⟩ ty=pure { target:= .fn (.func f) captured.toArray,args:=first.toArray++vs.toArray }:=by
  simp only[resolve,hy,map_toArray,gL];rfl
 rw[b];show (callFunc f (first.toArray++vs.toArray++captured.toArray)).run P w=_;rw[hf];simp
theorem WL.aeX{d:Nat}{vs:List Value}(hr:∀a w,eF Mo n e a→(execOp a.eval ⟨some d,op,ty,pos,af,none⟩).run P w= .ok (.enter f vs.toArray) w)
 (hF:aB P f vs.toArray K H post) (hd:blt d n=true) (h:∀v H',post v H'→WL Mo P K n ops rest Q ((d,v)::e) H'):WL Mo P K n ops (⟨some d,op,ty,pos,af,none⟩::rest) Q e H:=λa w b l=>by
 refine kH Z λS r=>DX (hr a w b) ((hF w l).mono ?_);rintro _ m ⟨v,H',rfl,j,k⟩;exact⟨v,Z,r _ _ (h v H' k _ m (b.put d hd v) j)⟩
theorem WL.call(hf:bP P f)(gL:Ga true e xs vs)
 (hF:aB P f vs.toArray K H post) (hd:blt d n=true) (h:∀v H',post v H'→WL Mo P K n ops rest Q ((d,v)::e) H'):WL Mo P K n ops (⟨some d,.call ⟨.value (.func f),xs.toArray,ats⟩,ty,pos,af,none⟩::rest) Q e H :=
 WL.aeX (λa w b=>xS hf (gL.ev b Z)) hF hd h
theorem WL.ny(hf:bP P f)(hy:OV true e y (.func (.func f) first.toArray captured.toArray))(gL:Ga true e xs vs)
 (hF:aB P f (first++vs++captured).toArray K H post) (hd:blt d n=true) (h:∀v H',post v H'→WL Mo P K n ops rest Q ((d,v)::e) H'):WL Mo P K n ops (⟨some d,.call ⟨.value y,xs.toArray,ats⟩,ty,pos,af,none⟩::rest) Q e H :=
 WL.aeX (λa w b=>tO hf (hy.ev Z b) (gL.ev b Z)) hF hd h
def aK(P:Program)(f:FuncId)(args:Array Value)(K:World)(H:List aH)(v:Value):Prop:=aB P f args K H λb a=>b=v∧a=H
theorem aK.eq(h:aK P f args K H v)(e:v=v'):aK P f args K H v':=e ▸ h
theorem aK.call(h:aK P f args K H v)(hw:Sat K w H):Calls P f args w λe w'=>e= .returned v∧Sat K w' H :=
 (h w hw).mono λe w' ⟨l,m,a,b,j,k⟩=>by subst j k;exact⟨a,b⟩
theorem WL.nL{dj:Nat}{oj:Oper}
 (hj:ops[j]? =some oj) (EG:oj.dst=some dj) (hl:look e dj=some gv) (hG:GC gv want c) (hf:bP P f) (gL:Ga c e xs vs) (hF:c=true→aK P f vs.toArray K H v) (hd:blt d n=true)
 (h:WL Mo P K n ops rest Q ((d,cv c v)::e) H):WL Mo P K n ops (⟨some d,.call ⟨.value (.func f),xs.toArray,ats⟩,ty,pos,af,some (j,want)⟩::rest) Q e H:=λa w b k=>by
 have GK:=Region.jv (o:=⟨some d,.call ⟨.value (.func f),xs.toArray,ats⟩,ty,pos,af,some (j,want)⟩) Z hj EG hl b hG;cases c with
 | false=>exact qg GK (h _ w (b.put d hd _) k)
 | true =>
  refine uP GK λR m=>DX (xS hf (gL.ev b Z)) (((hF Z).call k).mono ?_);rintro _ r ⟨rfl,l⟩;exact⟨v,Z,m _ _ (h _ r (b.put d hd v) l)⟩
end Go.Sl
namespace Go.Sl
open Go.RowKit Go.BigFrame List Nat
abbrev sp(A:Option Addr)(k:Nat):Value:= .pointer (A.map (·.add k))
theorem add_add(a:Addr)(i j:Nat):(a.add i).add j=a.add (i+j):=by
 cases a with
 | mk b o s =>
  unfold Addr.add;by_cases k:i=0
  ·by_cases h:j=0
   ·simp[k,h]
   ·simp[k,h]
  ·by_cases h:j=0
   ·simp[k,h]
   ·rw[if_neg k,if_neg h,if_neg (by omega)];simp[Nat.add_assoc]
structure Seq(K:World)(H:List aH)(A:Option Addr)(m s:Nat)(vs:List Value):Prop where
 len:vs.length=m*s
 rd:∀i v,vs[i]? =some v→Rd K H (A.map (·.add i)) v
theorem Seq.up{K:World}{H:List aH}{A:Option Addr}{m s:Nat}{vs:List Value}{B:aH}(h:Seq K H A m s vs):Seq K (B::H) A m s vs:=⟨h.len,λi v a=>(h.rd i v a).up⟩
theorem Seq.sat(h:Seq K H A m s vs)(hs:∀w,Sat K w H'→Sat K w H):Seq K H' A m s vs:=⟨h.len,λi v a w b=>h.rd i v a w (hs w b)⟩
theorem Seq.here(hl:vs.length=m*s)(h:vs <+: cs.drop o):Seq K (ah b T cs::H) (some ⟨b,o,none⟩) m s vs:=⟨hl,λi v a=>by
 have :=(fH.here (K:=K) (H:=H) (b:=b) (T:=T) h) i v a
 simpa [jM] using this⟩
theorem Seq.nil:Seq K H none 0 s []:=⟨by simp,λi v a=>by simp at a⟩
theorem Seq.cell(h:Seq K H A m s vs)(hw:Sat K w H)(hi:vs[i]? =some v):∃a,A=some a∧w.cell? (a.add i)=some v:=by
 obtain⟨a,b,j⟩:=h.rd i v hi w hw;cases A with
 | none=>simp at b
 | some a'=>simp at b;subst b;exact⟨a',Z,j⟩
theorem V.len{t:TypeId}{cap:Nat}(hT:∀w,(underlying T).run P w= .ok (.slice E) w)(hx:OV c e x (.slice A m cap)) :
 eX Mo P K n c e H ⟨dst,.call ⟨.builtin .len,#[x],#[T]⟩,ty,pos,af,gd⟩ (.i (m:Int)):=λh a w b _=>by
 rw[execOp_builtin,builtin_len];have :=hx.ev h b;simp[Builtin.len_,hT w,this,goInt]
theorem V.min{Mo:Mode}{P:Program}{K:World}{n:Nat}{e:Env}{H:List aH}{c:Bool}{dst:Option Tmp}{ty:TypeId}{pos:String}{af:Array Edge}{gd:Option (Nat×Bool)}{x y:Operand}{ats:Array TypeId}{k:IntKind}{i j:Int}(hx:OV c e x (.int k i))(hy:OV c e y (.int k j)) :
 eX Mo P K n c e H ⟨dst,.call ⟨.builtin .min,#[x,y],ats⟩,ty,pos,af,gd⟩ (.int k (min i j)):=λh a w b _=>by
 rw[execOp_builtin,builtin_min];have l:=hx.ev h b;have m:=hy.ev h b;simp[Builtin.min_,l,m,Builtin.min2];omega
theorem V.max{Mo:Mode}{P:Program}{K:World}{n:Nat}{e:Env}{H:List aH}{c:Bool}{dst:Option Tmp}{ty:TypeId}{pos:String}{af:Array Edge}{gd:Option (Nat×Bool)}{x y:Operand}{ats:Array TypeId}{k:IntKind}{i j:Int}(hx:OV c e x (.int k i))(hy:OV c e y (.int k j)) :
 eX Mo P K n c e H ⟨dst,.call ⟨.builtin .max,#[x,y],ats⟩,ty,pos,af,gd⟩ (.int k (max i j)):=λh a w b _=>by
 rw[execOp_builtin,builtin_max];have l:=hx.ev h b;have m:=hy.ev h b;simp[Builtin.max_,l,m,Builtin.max2];omega
def fq(P:Program)(T E s:Nat):Prop:=(∀w,(underlying T).run P w= .ok (.slice E) w)∧∀w,(sizeOf E).run P w= .ok s w
def tC(P:Program)(T m E s:Nat):Prop:=(∀w,(underlying T).run P w= .ok (.array m E) w)∧∀w,(sizeOf E).run P w= .ok s w
theorem V.dw{cap:Nat}(hT:fq P T E s)(hx:OV c e x (.slice A m cap))(hy:OV c e y (.int k j))(hb:c=true→0≤j∧j<m)
 (hr:c=true→Rd K H (A.map (·.add (j.toNat*s))) v):eX Mo P K n c e H ⟨dst,.indexAddr T x y,ty,pos,af,gd⟩ (sp A (j.toNat*s)):=λb a w h r=>by
 show ((do pure (Next.value (←Instr.indexAt T (a.eval x) (a.eval y)))):Sem Next).run P w=_;rw[hx.ev b h,hy.ev b h];obtain⟨p,l,B⟩:=hr b w r;cases A with
 | none=>simp at l
 | some a'=>simp[Instr.indexAt,asIntOf,hT.1 w,hT.2 w,hb b]
theorem V.FW{cap:Nat}(hT:fq P T E s)(hx:OV c e x (.slice (some ⟨b,o,none⟩) m cap))(hy:OV c e y (.int k j))(hb:c=true→0≤j∧j<m) :
 eX Mo P K n c e H ⟨dst,.indexAddr T x y,ty,pos,af,gd⟩ (ptr b (o+j.toNat*s)):=λh a w l r=>by
 show ((do pure (Next.value (←Instr.indexAt T (a.eval x) (a.eval y)))):Sem Next).run P w=_;rw[hx.ev h l,hy.ev h l];simp[Instr.indexAt,asIntOf,hT.1 w,hT.2 w,hb h,jM]
theorem V.YM(hT:tC P T m E s)(hx:OV c e x (ptr b o))(hy:OV c e y (.int k j))(hb:c=true→0≤j∧j<m) :
 eX Mo P K n c e H ⟨dst,.indexAddr T x y,ty,pos,af,gd⟩ (ptr b (o+j.toNat*s)):=λh a w l r=>by
 show ((do pure (Next.value (←Instr.indexAt T (a.eval x) (a.eval y)))):Sem Next).run P w=_;rw[hx.ev h l,hy.ev h l];simp[Instr.indexAt,Instr.sureAddr,asIntOf,hT.1 w,hT.2 w,hb h,jM]
theorem V.uY(hF:jC P S f off)(hx:OV c e x (sp A k))(hr:c=true→Rd K H (A.map (·.add k')) v):eX Mo P K n c e H ⟨dst,.fieldAddr S x f,ty,pos,af,gd⟩ (sp A (k+off)):=λb a w h l=>by
 show ((do pure (Next.value (←Instr.fieldAt S (a.eval x) f))):Sem Next).run P w=_;rw[hx.ev b h];obtain⟨p,j,m⟩:=hr b w l;cases A with
 | none=>simp at j
 | some a'=>simp[sp,hF _ _,add_add]
theorem V.tX{vs:List Value}(hT:Ur P T s)(hx:OV c e x (sp A k))(hs:vs.length=s)(h0:0<s)(hr:c=true→∀i v,vs[i]? =some v→Rd K H (A.map (·.add (k+i))) v):eX Mo P K n c e H ⟨dst,.load T x,ty,pos,af,gd⟩ (.agg vs.toArray):=λh a w m l=>by
 show ((do pure (Next.value (←Instr.loadAt T (a.eval x)))):Sem Next).run P w=_;rw[hx.ev h m];subst hs;obtain⟨p,b,_⟩:=hr h 0 vs[0] (by simp) w l;cases A with
 | none=>simp at b
 | some a' =>
  have b:=run_loadCells_list (P:=P) w (a'.add k) vs (λj v r=>by
   obtain⟨q,b,y⟩:=hr h j v r w l;simp at b;subst b;rwa [add_add])
  simp[sp,Instr.loadAt,Instr.sureAddr,loadVar,hT.1 w,hT.2 w,b]
theorem V.index{cs:List Value}(hT:tC P T m E s)(hx:OV c e x (.agg cs.toArray))(hy:OV c e y (.int k j))(hb:c=true→0≤j∧j<m)
 (hp:c=true→∀w,(part E cs.toArray (j.toNat*s)).run P w= .ok v w):eX Mo P K n c e H ⟨dst,.index T x y,ty,pos,af,gd⟩ v:=λb a w h l=>by
 show ((do pure (Next.value (←Instr.index T (a.eval x) (a.eval y)))):Sem Next).run P w=_;rw[hx.ev b h,hy.ev b h];simp[Instr.index,asIntOf,hT.1 w,hT.2 w,hb b,hp b w]
theorem nI{cs:List Value}(hE:M9 P E)(hv:cs[o]? =some v):∀w,(part E cs.toArray o).run P w= .ok v w:=λw=>by simp[part,hE w,hv]
theorem aiR{vs:List Value}(hE:Ur P E s)(hv:cs.extract o (o+s)=vs.toArray):∀w,(part E cs o).run P w= .ok (.agg vs.toArray) w:=λw=>by simp only[part,Sem.run_bind,hE.1 w,hE.2 w,Result.andThen_ok,if_true,Sem.run_pure,hv]
theorem V.build{T:Nat}{xs:List (Nat×Operand)}{vs:List (Nat×Value)}(gL:Ga c e (xs.map (·.2)) (vs.map (·.2)))(hi:xs.map (·.1)=vs.map (·.1))(hB:∀w,(Instr.build T vs.toArray).run P w= .ok v w) :
 eX Mo P K n c e H ⟨dst,.build T xs.toArray,ty,pos,af,gd⟩ v:=λl a w j r=>by
 show ((do pure (Next.value (←Instr.build T (xs.toArray.map λ(i,x)=>(i,a.eval x))))):Sem Next).run P w=_;have k:=gL.ev j l;have m:xs.map (λ(i,x)=>(i,a.eval x))=vs:=by
  apply ext_getElem?;intro i;have h:=congrArg (·[i]?) k;have b:=congrArg (·[i]?) hi;simp only[getElem?_map] at h b ⊢;cases hx:xs[i]? <;>cases hv:vs[i]? <;>simp[hx,hv] at h b ⊢;exact Prod.ext b h
 rw[map_toArray,m];simp[hB w]
theorem V.field{T:Nat}(hx:OV c e x (.agg cs))(hF:∀w,(Instr.field T (.agg cs) f).run P w= .ok v w):eX Mo P K n c e H ⟨dst,.field T x f,ty,pos,af,gd⟩ v:=λh a w b j=>by
 show ((do pure (Next.value (←Instr.field T (a.eval x) f))):Sem Next).run P w=_;rw[hx.ev h b];simp[hF w]
def OO(c:Bool)(e:Env)(x:Option Operand)(d l:Nat):Prop:=match x with | none=>l=d | some y=>∃k j,OV c e y (.int k j)∧(c=true→j=(l:Int))
theorem OO.none{e:Env}{c:Bool}{d:Nat}:OO c e none d d:=rfl
theorem OO.some{e:Env}{c:Bool}{y:Operand}{k:IntKind}{j:Int}{l d:Nat}(h:OV c e y (.int k j))(hj:c=true→j=(l:Int)):OO c e (some y) d l:=⟨k,j,h,hj⟩
theorem run_sliceBound{l:Nat}(hi:i=(l:Int))(h:l≤y):(Instr.sliceBound (.int k i) y code).run P w= .ok l w:=by
 subst hi;simp[Instr.sliceBound,asIntOf,h]
theorem wB(ha:eF Mo n e a)(hl:OO true e lo 0 l)(hh:OO true e hi m h)(hm:OO true e mx cap x)(hmh:mx.isSome=true→hi.isSome=true)(h1:l≤h)(h2:h≤x)(h3:x≤cap)(w:World) :
 (Instr.sliceBounds b m cap (lo.map a.eval) (hi.map a.eval) (mx.map a.eval)).run P w= .ok (l,h,x) w:=by
 cases mx with
 | none =>
  simp only[OO] at hm;subst hm;cases hi with
  | none =>
   simp only[OO] at hh;subst hh;cases lo with
   | none=>simp only[OO] at hl;subst hl;simp[Instr.sliceBounds]
   | some y =>
    obtain⟨k,j,C,B⟩:=hl;simp[Instr.sliceBounds,C.ev Z ha,run_sliceBound (B Z) h1]
  | some z =>
   obtain⟨k,j,D,B⟩:=hh;cases lo with
   | none=>simp only[OO] at hl;subst hl;simp[Instr.sliceBounds,D.ev Z ha,run_sliceBound (B Z) h2]
   | some y =>
    obtain⟨J,L,C,r⟩:=hl;simp[Instr.sliceBounds,D.ev Z ha,run_sliceBound (B Z) h2,C.ev Z ha,run_sliceBound (r Z) h1]
 | some u =>
  obtain⟨N,M,I,F⟩:=hm;cases hi with
  | none=>simp at hmh
  | some z =>
   obtain⟨k,j,D,B⟩:=hh;cases lo with
   | none=>simp only[OO] at hl;subst hl;simp[Instr.sliceBounds,I.ev Z ha,run_sliceBound (F Z) h3,D.ev Z ha,run_sliceBound (B Z) h2]
   | some y =>
    obtain⟨J,L,C,r⟩:=hl;simp[Instr.sliceBounds,I.ev Z ha,run_sliceBound (F Z) h3,D.ev Z ha,run_sliceBound (B Z) h2,C.ev Z ha,run_sliceBound (r Z) h1]
theorem V.slice{cap:Nat}(hT:fq P T E s)(hx:OV true e x (.slice A m cap))(hl:OO true e lo 0 l)(hh:OO true e hi m h)(hm:OO true e mx cap u)
 (hmh:mx.isSome=true→hi.isSome=true) (h1:l≤h) (h2:h≤u) (h3:u≤cap) :
 eX Mo P K n true e H ⟨dst,.slice T x lo hi mx,ty,pos,af,gd⟩ (.slice (if u=l then A else A.map (·.add (l*s))) (h-l) (u-l)):=λ_ a w j r=>by
 show ((do pure (Next.value (←Instr.sliceAt T (a.eval x) (lo.map a.eval) (hi.map a.eval) (mx.map a.eval)))):Sem Next).run P w=_;rw[hx.ev Z j];have k:=wB (P:=P) (b:=true) j hl hh hm hmh h1 h2 h3 w;simp[Instr.sliceAt,Instr.slice,hT.1 w,hT.2 w,k]
theorem V.qM(hT:tC P T m E s)(hx:OV true e x (ptr b o))(hl:OO true e lo 0 l)(hh:OO true e hi m h)(hm:OO true e mx m u)
 (hmh:mx.isSome=true→hi.isSome=true) (h1:l≤h) (h2:h≤u) (h3:u≤m) :
 eX Mo P K n true e H ⟨dst,.slice T x lo hi mx,ty,pos,af,gd⟩ (.slice (some ⟨b,if u=l then o else o+l*s,none⟩) (h-l) (u-l)):=λ_ a w j r=>by
 show ((do pure (Next.value (←Instr.sliceAt T (a.eval x) (lo.map a.eval) (hi.map a.eval) (mx.map a.eval)))):Sem Next).run P w=_;rw[hx.ev Z j];have k:=wB (P:=P) (b:=false) j hl hh hm hmh h1 h2 h3 w;simp[Instr.sliceAt,Instr.sureAddr,hT.1 w,hT.2 w,k,jM];split<;>rfl
theorem WL.makeSlice{T:Nat}(hT:P.underlying T=some (.slice E))(hi:P.info? E=some i)(hz:i.zero=some z)(hx:OV true e x (.int k l))(hy:OV true e y (.int k' q))
 (h0:0≤l) (RL:l≤q) (hb:(i.bytes:Int)*q≤281474976710656) (h63:q≤9223372036854775807) (hd:blt d n=true)
 (h:∀b,WL Mo P K n ops rest Q ((d,.slice (some ⟨b,0,none⟩) l.toNat q.toNat)::e) (ah b E (madeCells z.cells (q.toNat*i.size)).toList::H)) :
 WL Mo P K n ops (⟨some d,.makeSlice T x y,ty,pos,af,none⟩::rest) Q e H:=by
 refine WL.RQ (R:=λv m=>∃b,v= .slice (some ⟨b,0,none⟩) l.toNat q.toNat∧m=ah b E (madeCells z.cells (q.toNat*i.size)).toList::H) (λa w j B=> ?_) hd (λv m ⟨b,C,r⟩=>by subst C r;exact h b);refine⟨_,_,_, ?_,B.alloc E (madeCells z.cells (q.toNat*i.size)).toList,_,Z,Z⟩;show ((do pure (Next.value (←Instr.makeSlice T (a.eval x) (a.eval y)))):Sem Next).run P w=_;rw[hx.ev Z j,hy.ev Z j,Sem.run_bind,run_make (P:=P) w T E i z hT hi hz k k' l q h0 RL hb h63];simp
theorem WL.buildSlice{T E:Nat}{xs:List (Nat×Operand)}{vs:List (Nat×Value)}(gL:Ga true e (xs.map (·.2)) (vs.map (·.2)))(hi:xs.map (·.1)=vs.map (·.1))
 (hB:∀w,(Instr.buildSlice T m vs.toArray).run P w= .ok (.slice (some ⟨w.heap.size,0,none⟩) m m) (w.alloc (.cells cs.toArray E))) (hd:blt d n=true)
 (h:∀b,WL Mo P K n ops rest Q ((d,.slice (some ⟨b,0,none⟩) m m)::e) (ah b E cs::H)):WL Mo P K n ops (⟨some d,.buildSlice T m xs.toArray,ty,pos,af,none⟩::rest) Q e H:=by
 refine WL.RQ (R:=λv l=>∃b,v= .slice (some ⟨b,0,none⟩) m m∧l=ah b E cs::H) (λa w r D=> ?_) hd (λv l ⟨b,F,C⟩=>by subst F C;exact h b);refine⟨_,_,_, ?_,D.alloc E cs,_,Z,Z⟩;show ((do pure (Next.value (←Instr.buildSlice T m (xs.toArray.map λ(i,x)=>(i,a.eval x))))):Sem Next).run P w=_;have y:=gL.ev r Z;have B:xs.map (λ(i,x)=>(i,a.eval x))=vs:=by
  apply ext_getElem?;intro i;have k:=congrArg (·[i]?) y;have j:=congrArg (·[i]?) hi;simp only[getElem?_map] at k j ⊢;cases hx:xs[i]? <;>cases hv:vs[i]? <;>simp[hx,hv] at k j ⊢;exact Prod.ext j k
 rw[map_toArray,B];simp[hB w]
def aV(v:Value)(E s m:Nat)(cs:List Value):aH where
 jA x:=v.ownBlock=some x
 holds w:=w.ownsRow 0 E s v m cs
 loc w w' h hw:=by
  refine⟨hw.1, ?_⟩;rcases hw.2 with j | ⟨g,cap,a,rfl,k,l,b⟩
  ·exact .inl j
  ·exact .inr ⟨g,cap,a,Z,k,by rw[h g Z];exact l,b⟩
theorem Sat.gI(hw:Sat K w H)(E s:Nat):Sat K w (aV (.slice none 0 0) E s 0 []::H) :=
 ⟨hw.1,World.ownsRow_nil w 0 E s,λb a=>by simp[aV,Value.ownBlock] at a,λb a=>by simp[aV,Value.ownBlock] at a,hw.2⟩
theorem Sat.BX(hw:Sat K w (ah b E cs::H))(hl:cs.length=cap*s)(hm:m≤cap)(hc:cap≤maxLen):Sat K w (aV (.slice (some ⟨b,0,none⟩) m cap) E s m (cs.take (m*s))::H):=by
 have h:=hw.head;simp only[ah] at h;refine⟨hw.1,⟨?_,.inr ⟨b,cap,cs.toArray,Z,zero_le _,h,hm,hc,by simpa using hl,by simp⟩⟩,λx a=> ?_,λx a B j wE=> ?_,hw.2.tail⟩
 ·rw[length_take,hl];exact Nat.min_eq_left (mul_le_mul_right _ hm)
 ·simp[aV,Value.ownBlock] at a;subst a;exact hw.2.2.1 _ Z
 ·simp[aV,Value.ownBlock] at a;subst a;exact hw.2.2.2.1 _ Z B j wE
theorem aV.shape{w:World}{E:Nat}(h:w.ownsRow 0 E s v m cs):∃A cap,v= .slice A m cap∧m≤cap∧(∀a,A=some a→a.off=0∧a.spot=none)∧(A=none→m=0∧cap=0):=by
 rcases h.2 with ⟨rfl,rfl⟩ | ⟨g,cap,j,rfl,_,_,b,_⟩
 ·exact⟨none,0,Z,Nat.le_refl _,λa h=>by simp at h,λ_=>⟨Z,Z⟩⟩
 ·exact⟨_,cap,Z,b,λa h=>by simp at h;subst h;simp,λh=>by simp at h⟩
theorem aV.seq(hl:cs.length=m*s):Seq K (aV (.slice A m cap) E s m cs::H) A m s cs:=⟨hl,λi v b w r=>by
 have h:=r.head;rcases h.2 with ⟨a,l⟩ | ⟨g,j,k,a,_⟩
 ·exfalso;simp only[Value.slice.injEq] at a;subst l;simp at hl;simp[hl] at b
 ·simp only[Value.slice.injEq] at a;obtain⟨rfl,_,rfl⟩:=a;exact⟨_,Z,h.cells (g:=g) Z i v b⟩⟩
def dH(P:Program)(E s bytes:Nat)(z:Value):Prop:=∃i,P.info? E=some i∧i.zero=some z∧i.size=s∧i.bytes=bytes∧z.cells.size=s∧0<s
theorem dH.mk{bytes:Nat}(hi:P.info? E=some i)(h1:i.zero=some z)(h2:i.size=s)(h3:i.bytes=bytes)(h4:z.cells.size=s)(h5:blt 0 s=true):dH P E s bytes z:=⟨i,hi,h1,h2,h3,h4,by simpa using h5⟩
theorem WL.append{T E bytes:Nat}(hT:P.underlying T=some (.slice E))(hE:dH P E s bytes z)(hx:OV true e x v)(hy:OV true e y (.slice B q cap'))
 (hn:Seq K H B q s news) (h1:∀u∈news,u.oneCell'=true) (hb:(m+q)*bytes≤140737488355328) (JC:blt 0 bytes=true) (hd:blt d n=true)
 (h:∀A cap,(A=none→m+q=0∧cap=0)→m+q≤cap→WL Mo P K n ops rest Q ((d,.slice A (m+q) cap)::e) (aV (.slice A (m+q) cap) E s (m+q) (cs++news)::H)) :
 WL Mo P K n ops (⟨some d,.call ⟨.builtin .append,#[x,y],#[T,T]⟩,ty,pos,af,none⟩::rest) Q e (aV v E s m cs::H):=by
 refine WL.RQ (R:=λu J=>∃A cap,u= .slice A (m+q) cap∧(A=none→m+q=0∧cap=0)∧m+q≤cap∧J=aV (.slice A (m+q) cap) E s (m+q) (cs++news)::H) (λa w S M=> ?_) hd (λu J ⟨A,cap,X,W,e3,e4⟩=>by subst X e4;exact h A cap W e3);obtain⟨i,U,hz,hs,TT,N,h0⟩:=hE;have RH:0<bytes:=by simpa using JC
 have Y:m+q≤140737488355328:=Nat.le_trans (Nat.le_mul_of_pos_right _ RH) hb;have sW:∀l k,(execOp a.eval ⟨some d,.call ⟨.builtin .append,#[x,y],#[T,T]⟩,ty,pos,af,none⟩).run P w= .ok (.value l) k→k.ownsRow 0 E s l (m+q) (cs++news)→w.grownBy k v.ownBlock →
  (l.ownBlock=none∨l.ownBlock=v.ownBlock∨l.ownBlock=some w.heap.size)→∃u w'' J,(execOp a.eval ⟨some d,.call ⟨.builtin .append,#[x,y],#[T,T]⟩,ty,pos,af,none⟩).run P w= .ok (.value u) w''∧Sat K w'' J ∧
   ∃ A cap,u= .slice A (m+q) cap∧(A=none→m+q=0∧cap=0)∧m+q≤cap∧J=aV (.slice A (m+q) cap) E s (m+q) (cs++news)::H:=λl k Kw Bu F Zb=>by
  obtain⟨A,cap,rfl,C,_,I⟩:=aV.shape Bu;refine⟨_,k,_,Kw,⟨M.1.grow F.os F.tape F.output F.size, ?_⟩,A,cap,Z,I,C,Z⟩;refine M.2.set (A':=aV (.slice A (m+q) cap) E s (m+q) (cs++news)) F.size (λb wE o7=>F.block b o7 (λe=>wE e.symm)) Bu (λb wE=> ?_);have oH:(Value.slice A (m+q) cap).ownBlock=some b:=wE;rcases Zb with D | D | D
  ·rw[D] at oH;cases oH
  ·exact .inl (D.symm.trans oH)
  ·rw[D] at oH;injection oH with oH
   subst oH;exact .inr ⟨Nat.le_refl _,(Bu.lt _ D).2⟩
 have Bu:w.ownsRow 0 E s v m cs:=M.head;have Km:=hx.ev Z S;have Qt:=hy.ev Z S;have JA:∀r k,(Builtin.append_ #[T,T] ty #[v,.slice B q cap']).run P w= .ok r k→(execOp a.eval ⟨some d,.call ⟨.builtin .append,#[x,y],#[T,T]⟩,ty,pos,af,none⟩).run P w= .ok (.value r) k:=λr k O=>by
  rw[execOp_builtin,builtin_append];simp[Km,Qt,O]
 cases B with
 | none =>
  have RB:news=[]:=by
   cases news with
   | nil=>rfl
   | cons u us=>obtain⟨p,C,_⟩:=hn.rd 0 u Z w M.tail;simp at C
  have hq:q=0:=by
   have :=hn.len;rw[RB] at this;rcases mul_eq_zero.1 this.symm with h | h
   ·exact h
   ·omega
  subst RB hq;refine sW v w (JA v w ?_) (by simpa using Bu) ⟨Z,Z,Z,Nat.le_refl _,λ_ _ _=>Z⟩ (.inr (.inl Z));obtain⟨A,cap,rfl,C,_,_⟩:=aV.shape Bu;cases A<;>simp[Builtin.append_,run_underlying hT,sizeOf,typeInfo,U,Builtin.lenOf,Builtin.firstCells,C,storeCells]
 | some b =>
  obtain⟨l,k,O,I,k3,k4,L⟩:=run_append_own_at (P:=P) w 0 T ty E i z s bytes hT U hz hs TT N h0 v m cs Bu b q cap' news hn.len (λj u V=>by
   obtain⟨p,C,I⟩:=hn.rd j u V w M.tail;simp at C;subst C;exact I) h1 (by simp only[maxLen];omega) hb (zero_le _)
  refine sW l k (JA l k O) I k3 ?_;rcases L with L | L
  ·exact .inr (.inl L)
  ·exact .inr (.inr L)
def WQ(Mo:Mode)(P:Program)(K:World)(n:Nat)(ops:Array Oper)(rest:List Oper)(R:Env→Prop)(e:Env)(H:List aH):Prop :=
 ∀ a,eF Mo n e a→wpQuiet P ops (λw=>Sat K w H) (λb=>∃e',eF Mo n e' b∧R e') rest a
theorem vR(h:∀a,S a→S' a):∀(l:List Oper) (a:Act),wpQuiet P ops C S l a→wpQuiet P ops C S' l a
 | [],a,hh=>h a hh
 | o::l,a,hh=>by
  simp only[wpQuiet] at hh ⊢;split
  ·rename_i hw;rw[if_pos hw] at hh;obtain⟨v,h1,h2⟩:=hh;exact⟨v,h1,vR h l _ h2⟩
  ·rename_i hw;rw[if_neg hw] at hh;exact vR h l _ hh
theorem WC.V9{id:Nat}(hm:P.follows .mixedOrders=true)(hB:Region.lexB .any l.toArray=true)(h:WQ ⟨none,ds⟩ P K n l.toArray l (λe'=>Q ⟨none,ds⟩ .normal e' H) e H):WC ⟨none,ds⟩ P K n (.region id l.toArray true) Q e H:=λa w b m=>by
 show (Code.region id l.toArray true).wp P _ a w;refine wp_region_quiet (C:=λw=>Sat K w H) hm hB m.drew ?_;have :=h a b;refine vR ?_ _ a this;rintro r ⟨e',j,k⟩ x GK;exact⟨ds,e',H,j,GK,k⟩
theorem WQ.nil(h:R e):WQ Mo P K n ops [] R e H:=λa b=>⟨e,b,h⟩
theorem WQ.val{d:Nat}(hv:eX Mo P K n true e H ⟨some d,op,ty,pos,af,none⟩ v)(hd:blt d n=true)(h:WQ Mo P K n ops rest R ((d,v)::e) H):WQ Mo P K n ops (⟨some d,op,ty,pos,af,none⟩::rest) R e H:=λa b=>by
 refine wpQuiet_step λS k=> ?_;simp only[Region.wanted,if_true];refine⟨v,λw j=> ?_,k _ (h _ (b.put d hd v))⟩;unfold Oper.quietAt;rw[hv Z a w b j];exact⟨Z,Z⟩
theorem WQ.bI{d dj:Nat}{oj:Oper}(hj:ops[j]? =some oj)(EG:oj.dst=some dj)(hl:look e dj=some gv)(hG:GC gv want c)
 (hv:eX Mo P K n c e H ⟨some d,op,ty,pos,af,some (j,want)⟩ v) (hd:blt d n=true) (h:WQ Mo P K n ops rest R ((d,cv c v)::e) H):WQ Mo P K n ops (⟨some d,op,ty,pos,af,some (j,want)⟩::rest) R e H:=λa b=>by
 refine wpQuiet_step λS k=> ?_;rw[Region.jv (o:=⟨some d,op,ty,pos,af,some (j,want)⟩) Z hj EG hl b hG];cases c with
 | false=>exact k _ (h _ (b.put d hd _))
 | true =>
  simp only[if_true];refine⟨v,λw l=> ?_,k _ (h _ (b.put d hd v))⟩;unfold Oper.quietAt;rw[hv Z a w b l];exact⟨Z,Z⟩
theorem WQ.call(hf:bP P f)(gL:Ga true e xs vs)
 (hF:aK P f vs.toArray K H v) (hd:blt d n=true) (h:WQ Mo P K n ops rest R ((d,v)::e) H):WQ Mo P K n ops (⟨some d,.call ⟨.value (.func f),xs.toArray,ats⟩,ty,pos,af,none⟩::rest) R e H:=λa b=>by
 refine wpQuiet_step λS k=> ?_;simp only[Region.wanted,if_true];refine⟨v,λw j=> ?_,k _ (h _ (b.put d hd v))⟩;unfold Oper.quietAt;rw[xS hf (gL.ev b Z)];exact⟨Z,hF.call j⟩
theorem WQ.nL{dj:Nat}{oj:Oper}
 (hj:ops[j]? =some oj) (EG:oj.dst=some dj) (hl:look e dj=some gv) (hG:GC gv want c) (hf:bP P f) (gL:Ga c e xs vs) (hF:c=true→aK P f vs.toArray K H v) (hd:blt d n=true)
 (h:WQ Mo P K n ops rest R ((d,cv c v)::e) H):WQ Mo P K n ops (⟨some d,.call ⟨.value (.func f),xs.toArray,ats⟩,ty,pos,af,some (j,want)⟩::rest) R e H:=λa b=>by
 refine wpQuiet_step λS k=> ?_;rw[Region.jv (o:=⟨some d,.call ⟨.value (.func f),xs.toArray,ats⟩,ty,pos,af,some (j,want)⟩) Z hj EG hl b hG];cases c with
 | false=>exact k _ (h _ (b.put d hd _))
 | true =>
  simp only[if_true];refine⟨v,λw l=> ?_,k _ (h _ (b.put d hd v))⟩;unfold Oper.quietAt;rw[xS hf (gL.ev b Z)];exact⟨Z,(hF Z).call l⟩
def lQ(P:Program)(ops:Array Oper)(C:World→Prop)(o:Oper)(v:Value)(a:Act):Prop :=
 (Region.wanted o (yielded ops a.tmps)=true∧∀w,C w→(execOp a.eval o).run P w= .ok (.value v) w)∨(Region.wanted o (yielded ops a.tmps)=false∧v=undef)
theorem lQ.wpOp{P:Program}{ops:Array Oper}{C:World→Prop}{q:Exit→Act→World→Prop}{i:Nat}{o:Oper}{v:Value}{a:Act}(hi:ops[i]? =some o)(hy:lQ P ops C o v a){S:Act→World→Prop}{w:World}(hC:C w)(h:S (a.put o.dst v) w):wpOp P ops q i S a w:=by
 unfold Go.wpOp;simp only[hi];rcases hy with ⟨b,j⟩ | ⟨b,rfl⟩
 ·simp only[b,if_true,Oper.wp,j w hC,Oper.upon];exact .inl h
 ·simp only[b,Bool.false_eq_true,if_false];exact h
theorem lQ.of_same(hy:lQ P ops C o v a)(he:execOp a'.eval o=execOp a.eval o)
 (hw:Region.wanted o (yielded ops a'.tmps)=Region.wanted o (yielded ops a.tmps)):lQ P ops C o v a':=by grind [lQ]
theorem XU(hj:ops[j]? =some oj)(hap:oi.apart ops oj=true)
 (ZJ:∀cs b,oi.op≠ .select cs b) (hsj:∀cs b,oj.op≠ .select cs b)
 (hQ:∀c a w,q (.panic c) (a.put oi.dst v) w→q (.panic c) a w)
 (hy:lQ P ops C oi v a) (h:wpOp P ops q j S (a.put oi.dst v) w) :
 wpOp P ops q j (λa' w'=>lQ P ops C oi v a'∧S (a'.put oi.dst v) w') a w:=by
 obtain⟨y,l,F⟩:=Oper.apart_spec hap;have nG:∀(a:Act),lQ P ops C oi v a→∀u,lQ P ops C oi v (a.put oj.dst u):=λa hy u =>
  hy.of_same (execOp_put oi ZJ a oj.dst u F) (wanted_put oi a oj.dst u F)
 have k:∀d,lQ P ops C oi v { a with defers:=d::a.defers }:=λd=>hy.of_same Z Z;unfold wpOp at *
 simp only[hj] at *
 rw[wanted_put oj a oi.dst v y] at h;split
 ·rename_i B;simp only[B,if_true] at h;rcases h with h | ⟨Wm,akU⟩
  case inr=>exact .inr ⟨by unfold Oper.asks at *;rw[execOp_put oj hsj a oi.dst v y] at Wm;exact Wm,akU⟩
  refine .inl ?_;unfold Oper.wp at *
  rw[execOp_put oj hsj a oi.dst v y] at h
  generalize (execOp a.eval oj).run P w=r at *
  cases r with
  | ok n w' =>
   cases n<;>simp only[Oper.upon] at h ⊢
   case value u=>exact⟨nG a hy u,by rw[←Act.put_comm a v u l];exact h⟩
   case skip=>exact⟨nG a hy _,by rw[←Act.put_comm a v undef l];exact h⟩
   case defer d =>
    refine⟨nG _ (k d) _, ?_⟩;rw[←Act.put_comm _ v undef l,←Act.put_defers];exact h
   case enter f args =>
    refine Calls.mono h λe D m=> ?_;cases e with
    | returned u=>exact⟨nG a hy u,by rw[←Act.put_comm a v u l];exact m⟩
    | panicked c=>exact hQ _ _ _ m
    | outgrown=>exact m
   case row row args=>exact Rows.mono h λu D m=>⟨nG a hy u,by rw[←Act.put_comm a v u l];exact m⟩
  | halt x w' =>
   cases x<;>simp only[Oper.upon] at h ⊢
   case panic u=>exact hQ _ _ _ h
 ·rename_i B;simp only[B] at h;exact⟨nG a hy _,by rw[←Act.put_comm a v undef l];exact h⟩
def Am(P:Program)(md:Region.Mode)(ops:Array Oper)(C:World→Prop)(q:Exit→Act→World→Prop):Nat→Array Bool→Act→World→Prop
 | 0,listed,a,w=>C w∧Region.ready md ops listed=[]∧q .normal a w
 | fuel+1,listed,a,w=>C w∧(Region.ready md ops listed=[]→q .normal a w) ∧
  ∀ i∈Region.ready md ops listed,wpOp P ops q i (Am P md ops C q fuel (listed.setIfInBounds i true)) a w
theorem Bb:∀(fuel:Nat) (listed:Array Bool) (a:Act) (w:World),Am P md ops C q fuel listed a w→wpAny P md ops q fuel listed a w
 | 0,_,_,_,h=>h.2
 | fuel+1,_,_,_,h=>⟨h.2.1,λi hi=>wpOp_mono (λa w hh=>Bb fuel _ a w hh) (h.2.2 i hi)⟩
theorem Z5:∀ {fuel:Nat} {listed:Array Bool} {a:Act} {w:World},Am P md ops C q fuel listed a w→C w
 | 0,_,_,_,h=>h.1
 | _+1,_,_,_,h=>h.1
theorem Dc(hi:ops[i]? =some oi)(alp:∀(j:Nat) (o:Oper) cs b,ops[j]? =some o→o.op≠ .select cs b)
 (hQ:∀c a w,q (.panic c) (a.put oi.dst v) w→q (.panic c) a w) :
 ∀ (fuel:Nat) (listed:Array Bool) (a:Act) (w:World),
  (∀j oj,ops[j]? =some oj→j≠i→listed.getD j true=false→(∀e∈oj.after,Region.binds md e=true→e.on≠i)→oi.apart ops oj=true) →
  i∈Region.ready md ops listed→lQ P ops C oi v a→C w →
  Am P md ops C q fuel (listed.setIfInBounds i true) (a.put oi.dst v) w→Am P md ops C q (fuel+1) listed a w:=by
 intro fuel
 induction fuel with
 | zero =>
  intro listed a w _ x F y H;refine⟨y,λh=>(by rw[h] at x;cases x),λj I=> ?_⟩;by_cases l:j=i
  ·subst l;exact F.wpOp hi y H
  ·have :=ready_mono I l;rw[H.2.1] at this;cases this
 | succ fuel ih =>
  intro listed a w afF x F y H;refine⟨y,λh=>(by rw[h] at x;cases x),λj I=> ?_⟩;by_cases l:j=i
  ·subst l;exact F.wpOp hi y H
  ·have m:=H.2.2 j (ready_mono I l);obtain⟨ak5,oj,r,nT⟩:=mem_ready.1 I;have aoI:∀e∈oj.after,Region.binds md e=true→e.on≠i:=λe V T M=>by
    have m:=nT e V T;have N:=(mem_ready.1 x).1;rw[M] at m;rcases Nat.lt_or_ge i listed.size with L | L
    ·simp[L] at N m;rw[N] at m;cases m
    ·simp[Array.getElem?_eq_none L] at m
   have U:=XU r (afF j oj r l ak5 aoI) (λcs b=>alp i oi cs b hi) (λcs b=>alp j oj cs b r) hQ F m;have ahM:∀k ok,ops[k]? =some ok→k≠i→(listed.setIfInBounds j true).getD k true=false →
    (∀e∈ok.after,Region.binds md e=true→e.on≠i)→oi.apart ops ok=true:=λk ok W J B uN=>by
    refine afF k ok W J ?_ uN;by_cases D:j=k
    ·subst D;exact ak5
    ·rw[getD_set_ne true D] at B;exact B
   refine wpOp_mono (λR S O=> ?_) U;have Kw:Am P md ops C q fuel ((listed.setIfInBounds j true).setIfInBounds i true) (R.put oi.dst v) S:=by
    rw[Array.setIfInBounds_comm _ _ l];exact O.2
   exact ih (listed.setIfInBounds j true) R S ahM (ready_mono x (Ne.symm l)) O.1 (Z5 Kw) Kw
def WA(Mo:Mode)(P:Program)(K:World)(n:Nat)(F0:List aH)(ops:Array Oper)(Q:iX)(fuel:Nat)(listed:Array Bool)(e:Env)(H:List aH):Prop :=
 ∀ a w,eF Mo n e a→Sat K w H→Am P .any ops (λw=>Sat K w F0) (lift Mo.round K n Q) fuel listed a w
theorem WC.dM{id:Nat}{l:List Oper}(F0:List aH)(hm:P.follows .mixedOrders=true)(h:WA ⟨none,ds⟩ P K n F0 l.toArray Q l.length (Array.replicate l.length false) e H):WC ⟨none,ds⟩ P K n (.region id l.toArray true) Q e H:=λa w j b=>by
 show (Code.region id l.toArray true).wp P _ a w;refine wp_region_any hm (Bb (C:=λw=>Sat K w F0) _ _ _ _ ?_);have :=h a _ j b.drew
 simpa using this
theorem WC.MO{id:Nat}{l:List Oper}(hm:P.follows .mixedOrders=true)(h:WA ⟨none,ds⟩ P K n H l.toArray Q l.length (Array.replicate l.length false) e H):WC ⟨none,ds⟩ P K n (.region id l.toArray true) Q e H:=WC.dM H hm h
theorem WA.done(hr:Region.ready .any ops listed=[])(hF:∀w,Sat K w H→Sat K w F0)(h:Q Mo .normal e H):WA Mo P K n F0 ops Q fuel listed e H:=λa w j b=>by
 cases fuel with
 | zero=>exact⟨hF w b,hr,Mo.ds,e,H,j,b,h⟩
 | succ fuel=>exact⟨hF w b,λ_=>⟨Mo.ds,e,H,j,b,h⟩,by rw[hr];simp⟩
theorem WA.take{d:Nat}(i:Nat)(hF:∀w,Sat K w H→Sat K w F0)(hi:ops[i]? =some ⟨some d,op,ty,pos,af,none⟩)(hs:Region.noSelect ops=true)(hf:Region.free .any ops listed i=true)
 (hr:(Region.ready .any ops listed).contains i=true) (hQ:∀c (p:Mode×Env) H,¬Q p.1 (.panic c) p.2 H) (hv:eX Mo P K n true e F0 ⟨some d,op,ty,pos,af,none⟩ v) (hd:blt d n=true)
 (h:WA Mo P K n F0 ops Q fuel (listed.setIfInBounds i true) ((d,v)::e) H):WA Mo P K n F0 ops Q (fuel+1) listed e H:=λa w j k=>by
 refine Dc hi (Region.noSelect_spec hs) (λc a w l=> ?_) fuel listed a w (Region.free_spec hi hf) (by simpa using hr) (.inl ⟨Z,λy GK=>hv Z a y j GK⟩) (hF w k) (h _ w (j.put d hd v) k);obtain⟨b,m,x,_,_,r⟩:=l;exact (hQ c (⟨Mo.round,b⟩,m) x r).elim
theorem WA.afn{d j dj:Nat}(i:Nat)(hF:∀w,Sat K w H→Sat K w F0)(hi:ops[i]? =some ⟨some d,op,ty,pos,af,some (j,want)⟩)(hs:Region.noSelect ops=true)(hf:Region.free .any ops listed i=true)
 (hr:(Region.ready .any ops listed).contains i=true) (hQ:∀c (p:Mode×Env) H,¬Q p.1 (.panic c) p.2 H) (hj:ops[j]? =some oj) (EG:oj.dst=some dj) (hl:look e dj=some gv) (hG:GC gv want c)
 (hv:eX Mo P K n c e F0 ⟨some d,op,ty,pos,af,some (j,want)⟩ v) (hd:blt d n=true)
 (h:WA Mo P K n F0 ops Q fuel (listed.setIfInBounds i true) ((d,cv c v)::e) H):WA Mo P K n F0 ops Q (fuel+1) listed e H:=λa w b m=>by
 refine Dc (v:=cv c v) hi (Region.noSelect_spec hs) (λc a w r=> ?_) fuel listed a w (Region.free_spec hi hf) (by simpa using hr) ?_ (hF w m) (h _ w (b.put d hd _) m)
 ·obtain⟨l,x,B,_,_,y⟩:=r;exact (hQ c (⟨Mo.round,l⟩,x) B y).elim
 ·have GK:=Region.jv (o:=⟨some d,op,ty,pos,af,some (j,want)⟩) Z hj EG hl b hG;cases hc:c with
  | true=>subst hc;exact .inl ⟨GK,λC k=>hv Z a C b k⟩
  | false=>subst hc;exact .inr ⟨GK,Z⟩
theorem WA.akx{d j dj:Nat}(i:Nat)(hF:∀w,Sat K w H→Sat K w F0)(hi:ops[i]? =some ⟨some d,op,ty,pos,af,some (j,want)⟩)(hs:Region.noSelect ops=true)(hf:Region.free .any ops listed i=true)
 (hr:(Region.ready .any ops listed).contains i=true) (hQ:∀c (p:Mode×Env) H,¬Q p.1 (.panic c) p.2 H) (hj:ops[j]? =some oj) (EG:oj.dst=some dj) (hl:look e dj=some gv) (hG:GC gv want true)
 (hv:eX Mo P K n true e F0 ⟨some d,op,ty,pos,af,some (j,want)⟩ v) (hd:blt d n=true)
 (h:WA Mo P K n F0 ops Q fuel (listed.setIfInBounds i true) ((d,v)::e) H):WA Mo P K n F0 ops Q (fuel+1) listed e H:=WA.afn i hF hi hs hf hr hQ hj EG hl hG hv hd h
theorem WA.ajr{d j dj:Nat}(i:Nat)(hF:∀w,Sat K w H→Sat K w F0)(hi:ops[i]? =some ⟨some d,op,ty,pos,af,some (j,want)⟩)(hs:Region.noSelect ops=true)(hf:Region.free .any ops listed i=true)
 (hr:(Region.ready .any ops listed).contains i=true) (hQ:∀c (p:Mode×Env) H,¬Q p.1 (.panic c) p.2 H) (hj:ops[j]? =some oj) (EG:oj.dst=some dj) (hl:look e dj=some gv) (hG:GC gv want false) (hd:blt d n=true)
 (h:WA Mo P K n F0 ops Q fuel (listed.setIfInBounds i true) ((d,undef)::e) H):WA Mo P K n F0 ops Q (fuel+1) listed e H :=
 WA.afn (v:=undef) i hF hi hs hf hr hQ hj EG hl hG (λh=>by cases h) hd h
theorem WL.known{dj:Nat}{oj:Oper}(hj:ops[j]? =some oj)(EG:oj.dst=some dj)(hl:look e dj=some gv)(hG:GC gv want true)
 (h:WL Mo P K n ops (⟨dst,op,ty,pos,af,none⟩::rest) Q e H):WL Mo P K n ops (⟨dst,op,ty,pos,af,some (j,want)⟩::rest) Q e H:=λa w k x=>by
 have m:=h a w k x;have GK:=Region.jv (o:=⟨dst,op,ty,pos,af,some (j,want)⟩) Z hj EG hl k hG;obtain⟨r,ds⟩:=Mo;cases r with
 | none =>
  have b:wpList P ops (lift none K n Q) (⟨dst,op,ty,pos,af,none⟩::rest) a w:=m;show wpList P ops (lift none K n Q) (⟨dst,op,ty,pos,af,some (j,want)⟩::rest) a w;unfold wpList at b ⊢;rw[if_pos GK];rw[if_pos (by simp[Region.wanted])] at b;exact b
 | some l =>
  have b:wpListIn (IB l) 0 P ops (lift (some l) K n Q) (⟨dst,op,ty,pos,af,none⟩::rest) a w:=m;show wpListIn (IB l) 0 P ops (lift (some l) K n Q) (⟨dst,op,ty,pos,af,some (j,want)⟩::rest) a w;unfold wpListIn at b ⊢;rw[if_pos GK];rw[if_pos (by simp[Region.wanted])] at b;exact b
theorem UL(hi:ops[i]? =some o)(h:WL ⟨none,ds⟩ P K n ops [o] (zO R Q) e H)(ha:eF ⟨none,ds⟩ n e a)(hw:Sat K w H)
 (hS:∀a w ds' e' H',eF ⟨none,ds'⟩ n e' a→Sat K w H'→R ⟨none,ds'⟩ e' H'→S a w):wpOp P ops (lift none K n Q) i S a w:=by
 have b:wpList P ops (lift none K n (zO R Q)) [o] a w:=h a w ha hw;unfold wpOp;simp only[hi];unfold wpList at b;have j:∀x a w,lift none K n (zO R Q) x a w→(x= .normal→S a w)∧(x≠ .normal→lift none K n Q x a w):=by
  rintro x a w ⟨ds',e',H',F,C,D⟩;cases x<;>first | exact⟨λ_=>hS a w ds' e' H' F C D,λk=>(k Z).elim⟩ | exact⟨(λk=>by cases k),λ_=>⟨ds',e',H',F,C,D⟩⟩
 split
 ·rename_i GK;rw[if_pos GK] at b;rcases b with b | ⟨b,I⟩
  ·refine .inl ?_;unfold Oper.wp at b ⊢
   generalize (execOp a.eval o).run P w=r at b ⊢
   cases r with
   | ok nx w' =>
    cases nx<;>simp only[Oper.upon] at b ⊢ <;>first
     | exact (j _ _ _ b).1 Z
     | exact b
     | (
      refine b.mono ?_;rintro x B l;cases x<;>first
       | exact (j _ _ _ l).1 Z
       | exact (j _ _ _ l).2 (by simp)
       | (obtain⟨m,y,k⟩:=l;exact⟨m,y,(j _ _ _ k).2 (by simp)⟩))
     | exact b.mono λv B l=>(j _ _ _ l).1 Z
   | halt x w' =>
    cases x<;>simp only[Oper.upon] at b ⊢ <;>first
     | exact (j _ _ _ b).2 (by simp)
     | exact b
  ·obtain⟨m,y,k⟩:=I;exact .inr ⟨b,m,y,(j _ _ _ k).2 (by simp)⟩
 ·rename_i GK;rw[if_neg GK] at b;exact (j _ _ _ b).1 Z
theorem WA.step(hF:∀w,Sat K w H→Sat K w F0)(hr:Region.ready .any ops listed=rs)(pq:rs.isEmpty=false)
 (h:∀i∈rs,∃o,ops[i]? =some o∧WL ⟨none,ds⟩ P K n ops [o] (zO (λMo=>WA Mo P K n F0 ops Q fuel (listed.setIfInBounds i true)) Q) e H):WA ⟨none,ds⟩ P K n F0 ops Q (fuel+1) listed e H:=λa w l j=>by
 refine⟨hF w j,(λk=>by rw[hr] at k;rw[k] at pq;cases pq),λi b=> ?_⟩;rw[hr] at b;obtain⟨o,m,r⟩:=h i b;exact UL m r l j λa w x D F C y B=>B a w C y
theorem WA.one{o:Oper}(hF:∀w,Sat K w H→Sat K w F0)(hr:Region.ready .any ops listed=[i])(hi:ops[i]? =some o)
 (h:WL ⟨none,ds⟩ P K n ops [o] (zO (λMo=>WA Mo P K n F0 ops Q fuel (listed.setIfInBounds i true)) Q) e H):WA ⟨none,ds⟩ P K n F0 ops Q (fuel+1) listed e H :=
 WA.step hF hr Z λj a=>by simp at a;subst a;exact⟨o,hi,h⟩
theorem WA.t{Mo:Mode}{P:Program}{K:World}{n:Nat}{Q:iX}{e:Env}{H:List aH}{ty:TypeId}{pos:String}{af:Array Edge}{ops:Array Oper}{F0:List aH}{fuel:Nat}{listed:Array Bool}{d:Nat}{op:Op}{v:Value}(i:Nat)(hi:ops[i]? =some ⟨some d,op,ty,pos,af,none⟩)(hv:eX Mo P K n true e F0 ⟨some d,op,ty,pos,af,none⟩ v)
 (h:WA Mo P K n F0 ops Q fuel (listed.setIfInBounds i true) ((d,v)::e) H) (hd:blt d n=true:=by rfl) (hF:∀w,Sat K w H→Sat K w F0:=by intro w h;repeat (first | exact h | replace h:=h.tail)) (hs:Region.noSelect ops=true:=by kernel_rfl) (hf:Region.free .any ops listed i=true:=by kernel_rfl)
 (hr:(Region.ready .any ops listed).contains i=true:=by kernel_rfl) (hQ:∀c (p:Mode×Env) H,¬Q p.1 (.panic c) p.2 H:=by exact λ_ _ _ h=>h):WA Mo P K n F0 ops Q (fuel+1) listed e H:=WA.take i hF hi hs hf hr hQ hv hd h
theorem WA.tG{Mo:Mode}{P:Program}{K:World}{n:Nat}{Q:iX}{e:Env}{H:List aH}{c:Bool}{ty:TypeId}{pos:String}{af:Array Edge}{ops:Array Oper}{F0:List aH}{fuel:Nat}{listed:Array Bool}{d j dj:Nat}{want:Bool}{oj:Oper}{op:Op}{v gv:Value}(i:Nat)(hi:ops[i]? =some ⟨some d,op,ty,pos,af,some (j,want)⟩)(hj:ops[j]? =some oj)(EG:oj.dst=some dj)(hl:look e dj=some gv)(hG:GC gv want c)
 (hv:eX Mo P K n c e F0 ⟨some d,op,ty,pos,af,some (j,want)⟩ v) (h:WA Mo P K n F0 ops Q fuel (listed.setIfInBounds i true) ((d,cv c v)::e) H) (hd:blt d n=true:=by rfl) (hF:∀w,Sat K w H→Sat K w F0:=by intro w h;repeat (first | exact h | replace h:=h.tail)) (hs:Region.noSelect ops=true:=by kernel_rfl) (hf:Region.free .any ops listed i=true:=by kernel_rfl)
 (hr:(Region.ready .any ops listed).contains i=true:=by kernel_rfl) (hQ:∀c (p:Mode×Env) H,¬Q p.1 (.panic c) p.2 H:=by exact λ_ _ _ h=>h):WA Mo P K n F0 ops Q (fuel+1) listed e H:=WA.afn i hF hi hs hf hr hQ hj EG hl hG hv hd h
theorem WA.tK{Mo:Mode}{P:Program}{K:World}{n:Nat}{Q:iX}{e:Env}{H:List aH}{ty:TypeId}{pos:String}{af:Array Edge}{ops:Array Oper}{F0:List aH}{fuel:Nat}{listed:Array Bool}{d j dj:Nat}{want:Bool}{oj:Oper}{op:Op}{v gv:Value}(i:Nat)(hi:ops[i]? =some ⟨some d,op,ty,pos,af,some (j,want)⟩)(hj:ops[j]? =some oj)(EG:oj.dst=some dj)(hl:look e dj=some gv)(hG:GC gv want true)
 (hv:eX Mo P K n true e F0 ⟨some d,op,ty,pos,af,some (j,want)⟩ v) (h:WA Mo P K n F0 ops Q fuel (listed.setIfInBounds i true) ((d,v)::e) H) (hd:blt d n=true:=by rfl) (hF:∀w,Sat K w H→Sat K w F0:=by intro w h;repeat (first | exact h | replace h:=h.tail)) (hs:Region.noSelect ops=true:=by kernel_rfl) (hf:Region.free .any ops listed i=true:=by kernel_rfl)
 (hr:(Region.ready .any ops listed).contains i=true:=by kernel_rfl) (hQ:∀c (p:Mode×Env) H,¬Q p.1 (.panic c) p.2 H:=by exact λ_ _ _ h=>h):WA Mo P K n F0 ops Q (fuel+1) listed e H:=WA.akx i hF hi hs hf hr hQ hj EG hl hG hv hd h
theorem WA.tF{Mo:Mode}{P:Program}{K:World}{n:Nat}{Q:iX}{e:Env}{H:List aH}{ty:TypeId}{pos:String}{af:Array Edge}{ops:Array Oper}{F0:List aH}{fuel:Nat}{listed:Array Bool}{d j dj:Nat}{want:Bool}{oj:Oper}{op:Op}{gv:Value}(i:Nat)(hi:ops[i]? =some ⟨some d,op,ty,pos,af,some (j,want)⟩)(hj:ops[j]? =some oj)(EG:oj.dst=some dj)(hl:look e dj=some gv)(hG:GC gv want false)
 (h:WA Mo P K n F0 ops Q fuel (listed.setIfInBounds i true) ((d,undef)::e) H) (hd:blt d n=true:=by rfl) (hF:∀w,Sat K w H→Sat K w F0:=by intro w h;repeat (first | exact h | replace h:=h.tail)) (hs:Region.noSelect ops=true:=by kernel_rfl) (hf:Region.free .any ops listed i=true:=by kernel_rfl)
 (hr:(Region.ready .any ops listed).contains i=true:=by kernel_rfl) (hQ:∀c (p:Mode×Env) H,¬Q p.1 (.panic c) p.2 H:=by exact λ_ _ _ h=>h):WA Mo P K n F0 ops Q (fuel+1) listed e H:=WA.ajr i hF hi hs hf hr hQ hj EG hl hG hd h
theorem WA.o{P:Program}{K:World}{n:Nat}{Q:iX}{e:Env}{H:List aH}{ops:Array Oper}{F0:List aH}{ds:List Deferred}{fuel:Nat}{listed:Array Bool}{o:Oper}(i:Nat)(hi:ops[i]? =some o)(h:WL ⟨none,ds⟩ P K n ops [o] (zO (λMo=>WA Mo P K n F0 ops Q fuel (listed.setIfInBounds i true)) Q) e H)
 (hF:∀w,Sat K w H→Sat K w F0:=by intro w h;repeat (first | exact h | replace h:=h.tail)) (hr:Region.ready .any ops listed=[i]:=by kernel_rfl):WA ⟨none,ds⟩ P K n F0 ops Q (fuel+1) listed e H:=WA.one hF hr hi h
theorem WA.fin{Mo:Mode}{P:Program}{K:World}{n:Nat}{Q:iX}{e:Env}{H:List aH}{ops:Array Oper}{F0:List aH}{fuel:Nat}{listed:Array Bool}(h:Q Mo .normal e H)(hF:∀w,Sat K w H→Sat K w F0:=by intro w h;repeat (first | exact h | replace h:=h.tail))(hr:Region.ready .any ops listed=[]:=by kernel_rfl):WA Mo P K n F0 ops Q fuel listed e H:=WA.done hr hF h
theorem WC.sr{id:Nat}(h:WL Mo P K n l.toArray l (zO (λMo=>WC Mo P K n y Q) Q) e H):WC Mo P K n (.seq (.region id l.toArray false) y) Q e H:=WC.seq (WC.region h)
theorem WL.mv(hx:sQ e x=some v)(hd:blt d n=true)(h:WL Mo P K n ops rest Q ((d,v)::e) H):WL Mo P K n ops (⟨some d,.move x,ty,pos,af,none⟩::rest) Q e H:=WL.val (V.move (OV.p hx)) hd h
theorem WL.sg(hx:sQ e x=some v)(hd:blt d n=true)(h:WL Mo P K n ops rest Q ((d,v)::e) H):WL Mo P K n ops (⟨some d,.assign x,ty,pos,af,none⟩::rest) Q e H:=WL.val (V.assign (OV.p hx)) hd h
theorem WL.ld{Mo:Mode}{P:Program}{K:World}{n:Nat}{Q:iX}{e:Env}{H:List aH}{ty:TypeId}{pos:String}{af:Array Edge}{ops:Array Oper}{rest:List Oper}{d:Nat}{x:Operand}{T:Nat}{q:Option Addr}{v:Value}(hT:M9 P T)(hx:sQ e x=some (.pointer q))(hd:blt d n=true)(h:WL Mo P K n ops rest Q ((d,v)::e) H)(hr:Rd K H q v:=by repeat (first | exact Rd.here Z | apply Rd.up)):WL Mo P K n ops (⟨some d,.load T x,ty,pos,af,none⟩::rest) Q e H:=WL.val (V.load hT (OV.p hx) (λ_=>hr)) hd h
theorem WL.xt{vs:List Value}(hx:sQ e x=some (.tuple vs.toArray))(hv:vs[i]? =some v)(hd:blt d n=true)(h:WL Mo P K n ops rest Q ((d,v)::e) H):WL Mo P K n ops (⟨some d,.extract x i,ty,pos,af,none⟩::rest) Q e H:=WL.val (V.extract (OV.p hx) hv) hd h
theorem WL.ad{Mo:Mode}{P:Program}{K:World}{n:Nat}{Q:iX}{e:Env}{H:List aH}{ty:TypeId}{pos:String}{af:Array Edge}{ops:Array Oper}{rest:List Oper}{d t t':Nat}{x y:Operand}{i j:Int}(hx:sQ e x=some (.i i))(hy:sQ e y=some (.i j))(hd:blt d n=true)(h:WL Mo P K n ops rest Q ((d,.i (i+j))::e) H)(hb: -9223372036854775808≤i+j∧i+j≤9223372036854775807:=by omega):WL Mo P K n ops (⟨some d,.binOp .add t x y t',ty,pos,af,none⟩::rest) Q e H:=WL.val (V.CX (OV.p hx) (OV.p hy) (λ_=>hb)) hd h
theorem WL.sb{Mo:Mode}{P:Program}{K:World}{n:Nat}{Q:iX}{e:Env}{H:List aH}{ty:TypeId}{pos:String}{af:Array Edge}{ops:Array Oper}{rest:List Oper}{d t t':Nat}{x y:Operand}{i j:Int}(hx:sQ e x=some (.i i))(hy:sQ e y=some (.i j))(hd:blt d n=true)(h:WL Mo P K n ops rest Q ((d,.i (i-j))::e) H)(hb: -9223372036854775808≤i-j∧i-j≤9223372036854775807:=by omega):WL Mo P K n ops (⟨some d,.binOp .sub t x y t',ty,pos,af,none⟩::rest) Q e H:=WL.val (V.Eo (OV.p hx) (OV.p hy) (λ_=>hb)) hd h
theorem WL.nc(hx:sQ e x=some (.pointer (some p)))(hd:blt d n=true)(h:WL Mo P K n ops rest Q ((d,.pointer (some p))::e) H):WL Mo P K n ops (⟨some d,.nilCheck x,ty,pos,af,none⟩::rest) Q e H:=WL.val (V.nilCheck (OV.p hx)) hd h
theorem WA.two{o:Oper}(hF:∀w,Sat K w H→Sat K w F0)(hr:Region.ready .any ops listed=[i,j])(hi:ops[i]? =some o)(hj:ops[j]? =some o')
 (h:WL ⟨none,ds⟩ P K n ops [o] (zO (λMo=>WA Mo P K n F0 ops Q fuel (listed.setIfInBounds i true)) Q) e H) (h':WL ⟨none,ds⟩ P K n ops [o'] (zO (λMo=>WA Mo P K n F0 ops Q fuel (listed.setIfInBounds j true)) Q) e H):WA ⟨none,ds⟩ P K n F0 ops Q (fuel+1) listed e H :=
 WA.step hF hr Z λk a=>by
  simp at a;rcases a with rfl | rfl
  ·exact⟨o,hi,h⟩
  ·exact⟨o',hj,h'⟩
theorem WC.MI(hc:sQ e x=some (.bool t))(ht:t=true)(h:WC Mo P K n y Q e H):WC Mo P K n (.cond x y z) Q e H:=WC.cond hc (λ_=>h) (λk=>by rw[ht] at k;cases k)
theorem WC.ni(hc:sQ e x=some (.bool t))(ht:t=false)(h:WC Mo P K n z Q e H):WC Mo P K n (.cond x y z) Q e H:=WC.cond hc (λk=>by rw[ht] at k;cases k) (λ_=>h)
def Oh(P:Program)(K:World)(n:Nat)(x:Code)(Q:iX):Nat→Mode→Env→List aH→Prop
 | 0,_,_,_=>False
 | m+1,Mo,e,H=>WC Mo P K n x (zO (Oh P K n x Q m) Q) e H
theorem WC.rounds(m:Nat)(h:Oh P K n x Q m Mo e H):WC Mo P K n (.loop x) Q e H:=λa w k l=>by
 refine Qk (λj a w=>∃ds e H,Oh P K n x Q j ⟨Mo.round,ds⟩ e H∧eF ⟨Mo.round,ds⟩ n e a∧Sat K w H) m ⟨Mo.ds,e,H,h,k,l⟩ ?_;rintro j a w ⟨ds,e,H,h,k,l⟩;cases j with
 | zero=>exact h.elim
 | succ j =>
  have J:=h a w k l;have L:Lx Mo P x (lift Mo.round K n (zO (Oh P K n x Q j) Q)) a w:=by
   obtain⟨r,M⟩:=Mo;cases r<;>exact J
  refine yt L ?_;rintro y a w ⟨b,B,D,I,C,F⟩;cases y
  case normal=>exact⟨j,lt_succ_self _,b,B,D,F,I,C⟩
  all_goals exact⟨b,B,D,I,C,F⟩
def Oc(cs:List Value):Nat→List Value→Prop
 | _,[]=>True
 | o,v::vs=>cs[o]? =some v∧Oc cs (o+1) vs
theorem Oc.at_:∀ {vs:List Value} {o:Nat},Oc cs o vs→∀i v,vs[i]? =some v→cs[o+i]? =some v
 | [],_,_,i,v,h=>by simp at h
 | u::us,o,hg,0,v,h=>by simp at h;subst h;exact hg.1
 | u::us,o,hg,i+1,v,h=>by
  have :=Oc.at_ hg.2 i v (by simpa using h)
  rwa [show o+(i+1)=o+1+i by omega]
theorem fH.ED(h:Oc cs o vs):fH K (ah b T cs::H) b o vs:=λi v a=>Rd.here (h.at_ i v a)
theorem yH(hE:Ur P E s)(hl:vs.length=s)(hg:Oc cs o vs):∀w,(part E cs.toArray o).run P w= .ok (.agg vs.toArray) w:=by
 refine aiR hE ?_;apply Array.ext_getElem?;intro i;rw[Array.getElem?_extract];by_cases j:i<vs.length
 ·have a:=hg.at_ i vs[i] (by simp);have JQ:o+i<cs.length:=by
   rcases Nat.lt_or_ge (o+i) cs.length with h | h
   ·exact h
   ·rw[getElem?_eq_none h] at a;cases a
  rw[if_pos (by simp;omega)];simp[a]
 ·have b:¬i<min (o+s) cs.toArray.size-o:=by omega
  rw[if_neg b];simp;omega
theorem look_eq(h:look e t=some v)(he:v=v'):look e t=some v':=he ▸ h
theorem Sat.p1(h:Sat K w (A::B::H)):Sat K w (B::A::H):=Sat.pull 1 h
theorem Sat.p2(h:Sat K w (A::B::C::H)):Sat K w (C::A::B::H):=Sat.pull 2 h
theorem Sat.oJ(h:Sat K w (A::B::H)):Sat K w (A::H):=h.p1.tail
theorem Sat.aT(h:Sat K w (ah b T cs::H))(he:cs=cs'):Sat K w (ah b T cs'::H):=he ▸ h
theorem Sat.wm(h:Sat K w (aV v E s m cs::H))(he:cs=cs'):Sat K w (aV v E s m cs'::H):=he ▸ h
theorem Seq.all(hl:cs.length=m*s):Seq K (ah b T cs::H) (some ⟨b,0,none⟩) m s cs:=Seq.here hl (by simp)
def ints(k:IntKind)(xs:List Int):List Value:=xs.map (Value.int k)
theorem bR(k:IntKind)(xs:List Int):(ints k xs).length=xs.length:=by simp[ints]
theorem tY(k:IntKind)(xs:List Int)(h:i<xs.length):(ints k xs)[i]? =some (.int k (xs.getD i 0)):=by simp[ints,h]
theorem gY(k:IntKind)(xs ys:List Int):ints k (xs++ys)=ints k xs++ints k ys:=by simp[ints]
theorem xI(k:IntKind)(xs:List Int):∀u∈ints k xs,u.oneCell'=true:=by simp[ints,Value.oneCell']
theorem Seq.dD(h:Seq K H A m 1 (ints k xs))(hj:0≤j∧j<(m:Int)):Rd K H (A.map (·.add (j.toNat*1))) (.int k (xs.getD j.toNat 0)):=by
 have a:xs.length=m:=by simpa [ints] using h.len
 have :=h.rd j.toNat _ (tY k xs (by omega))
 simpa using this
theorem Seq.agZ:Seq K H none 0 1 (ints k []):=Seq.nil
theorem Seq.allI(hl:xs.length=m):Seq K (ah b T (ints k xs)::H) (some ⟨b,0,none⟩) m 1 (ints k xs):=Seq.all (by simp[ints,hl])
def Rg(tmps:Array Value)(r:ResultVar):Sem Value:=match r with | .tmp t=>pure (tmps.getD t undef) | .cell x t=>do loadVar t (←asAddr (tmps.getD x undef))
theorem Bn(fn:Func)(tmps:Array Value):results fn tmps=(do let vs ←fn.results.mapM (Rg tmps);pure (if h:vs.size=1 then vs[0] else .tuple vs)):=rfl
def R1(Mo:Mode)(P:Program)(K:World)(n:Nat)(r:ResultVar)(e:Env)(H:List aH)(v:Value):Prop :=
 ∀ a w,eF Mo n e a→Sat K w H→(Rg a.tmps r).run P w= .ok v w
theorem R1.tmp{t:Tmp}(h:look e t=some v):R1 Mo P K n (.tmp t) e H v:=λa w b _=>by simp only[Rg,b.at_ t v h];rfl
theorem R1.jQ(h:look e t=some (ptr b o))(hT:Ur P T s)(hs:vs.length=s)(hr:fH K H b o vs):R1 Mo P K n (.cell t T) e H (.agg vs.toArray):=λa w l m=>by
 have k:=run_loadCells_list (P:=P) w ⟨b,o,none⟩ vs (λj v r=>by
  obtain⟨y,k,x⟩:=hr j v r w m;injection k with k;subst k;rwa [jM])
 subst hs;simp only[Rg,l.at_ t _ h];simp[asAddr,loadVar,hT.1 w,hT.2 w,k]
theorem R1.JH(h:look e t=some (.pointer p))(hT:M9 P T)(hr:Rd K H p v):R1 Mo P K n (.cell t T) e H v:=λa w j b=>by
 obtain⟨l,rfl,k⟩:=hr w b;simp only[Rg,j.at_ t _ h];simp[asAddr,loadVar,hT w,k]
theorem bJ.one(hr:fn.results= #[r])(h:R1 Mo P K n r e H v):bJ Mo P K n fn e H v:=λa w j b=>by
 rw[Bn,hr];simp[h a w j b]
theorem bJ.two(hr:fn.results= #[r,r'])(h:R1 Mo P K n r e H v)(h':R1 Mo P K n r' e H v'):bJ Mo P K n fn e H (.tuple #[v,v']):=λa w j b=>by
 rw[Bn,hr];simp[h a w j b,h' a w j b]
theorem WL.nM{T E bytes m:Nat}(hT:P.underlying T=some (.slice E))(hE:dH P E 1 bytes z)(hx:OV true e x (.int k l))(hy:OV true e y (.int k' q))
 (hl:l=(m:Int)) (hq:q=(m:Int)) (hb:(bytes:Int)*(m:Int)≤281474976710656) (RH:blt 0 bytes=true) (hz:z.cells= #[z]) (hd:blt d n=true)
 (h:∀b,WL Mo P K n ops rest Q ((d,.slice (some ⟨b,0,none⟩) m m)::e) (ah b E (replicate m z)::H)) :
 WL Mo P K n ops (⟨some d,.makeSlice T x y,ty,pos,af,none⟩::rest) Q e H:=by
 obtain⟨i,B,a,hs,JC,C,I⟩:=hE;subst hl hq;have amH:0<bytes:=by simpa using RH
 have r:(m:Int)≤9223372036854775807:=by
  have :(1:Int)*(m:Int)≤(bytes:Int)*(m:Int):=Int.mul_le_mul_of_nonneg_right (by omega) (by omega);omega
 have ali:(madeCells z.cells ((m:Int).toNat*i.size)).toList=replicate m z:=by
  rw[hz,hs];apply ext_getElem
  ·simp[madeCells]
  ·intro j D F;simp[madeCells,mod_one]
 refine WL.makeSlice hT B a hx hy (by omega) (Int.le_refl _) (by rw[JC];exact hb) r hd (λb=> ?_);rw[ali];exact h b
theorem WL.af0{T E bytes:Nat}(m:Nat)(hT:P.underlying T=some (.slice E))(hE:dH P E 1 bytes z)(hx:OV true e x (.int k l))(hy:OV true e y (.int k' q))
 (hl:l=(m:Int)) (hq:q=(m:Int)) (hb:(bytes:Int)*(m:Int)≤281474976710656) (RH:blt 0 bytes=true) (hz:z.cells= #[z]) (hc:replicate m z=cs) (hd:blt d n=true)
 (h:∀b,WL Mo P K n ops rest Q ((d,.slice (some ⟨b,0,none⟩) m m)::e) (ah b E cs::H)) :
 WL Mo P K n ops (⟨some d,.makeSlice T x y,ty,pos,af,none⟩::rest) Q e H:=WL.nM hT hE hx hy hl hq hb RH hz hd (by rw[hc];exact h)
end Go.Sl
namespace Go.Sl
open Go.RowKit List Nat
theorem cZ:(∀(p:Prop) [Decidable p],(decide p=true)=p)∧(∀(p:Prop) [Decidable p],(decide p=false)=¬p) :=
 ⟨λ_ _=>decide_eq_true_eq,λ_ _=>propext decide_eq_false_iff_not⟩
theorem oK:(∀b:Bool,((!b)=true)=(b=false))∧(∀b:Bool,((!b)=false)=(b=true))∧(∀(p:Prop) [Decidable p],(decide p=true)=p)∧(∀(p:Prop) [Decidable p],(decide p=false)=¬p) :=
 ⟨λb=>by simp,λb=>by simp,cZ.1,cZ.2⟩
theorem Gi:(∀a b:Bool,((a&&b)=true)=(a=true∧b=true))∧(∀a b:Bool,((a&&b)=false)=(a=false∨b=false))∧(∀(p:Prop) [Decidable p],(decide p=true)=p)∧(∀(p:Prop) [Decidable p],(decide p=false)=¬p) :=
 ⟨λa b=>by cases a<;>cases b<;>simp,λa b=>by cases a<;>cases b<;>simp,cZ.1,cZ.2⟩
theorem Gd:(∀a b:Bool,((a&&b)=true)=(a=true∧b=true))∧(∀a b:Bool,((a||b)=true)=(a=true∨b=true))∧(∀a b:Bool,((a&&b)=false)=(a=false∨b=false))∧(∀a b:Bool,((a||b)=false)=(a=false∧b=false))∧(∀b:Bool,((!b)=true)=(b=false))∧(∀b:Bool,((!b)=false)=(b=true))∧(∀b:Bool,(¬b=true)=(b=false))∧(∀b:Bool,(¬b=false)=(b=true))∧(∀(p:Prop) [Decidable p],(decide p=true)=p)∧(∀(p:Prop) [Decidable p],(decide p=false)=¬p) :=
 ⟨λa b=>by cases a<;>cases b<;>simp,λa b=>by cases a<;>cases b<;>simp,λa b=>by cases a<;>cases b<;>simp,λa b=>by cases a<;>cases b<;>simp,λb=>by simp,λb=>by simp,λb=>by simp,λb=>by simp,cZ.1,cZ.2⟩
theorem iC:(∀a b:Int,(¬a<b)=(b≤a))∧(∀a b:Int,(¬a≤b)=(b<a))∧(∀a b:Bool,((a&&b)=true)=(a=true∧b=true))∧(∀a b:Bool,((a||b)=true)=(a=true∨b=true))∧(∀a b:Bool,((a&&b)=false)=(a=false∨b=false))∧(∀a b:Bool,((a||b)=false)=(a=false∧b=false))∧(∀b:Bool,((!b)=true)=(b=false))∧(∀b:Bool,((!b)=false)=(b=true))∧(∀b:Bool,(¬b=true)=(b=false))∧(∀b:Bool,(¬b=false)=(b=true))∧(∀(p:Prop) [Decidable p],(decide p=true)=p)∧(∀(p:Prop) [Decidable p],(decide p=false)=¬p) :=
 ⟨λa b=>propext Int.not_lt,λa b=>propext Int.not_le,Gd⟩
theorem eO{K:World}{H F:List aH}(h:∀w,Sat K w H→Sat K w F:=by intro w h;repeat (first | exact h | replace h:=h.tail)):∀w,Sat K w H→Sat K w F:=h
theorem tN{K:World}{H:List aH}{b o:Nat}{vs:List Value}(h:fH K H b o vs:=by repeat (first | exact fH.ED ⟨Z,Z,Z,Z,Z,trivial⟩ | apply fH.up)):fH K H b o vs:=h
theorem adS{K:World}{H:List aH}{b o:Nat}{vs:List Value}(h:fH K H b o vs:=by repeat (first | exact fH.ED ⟨Z,Z,Z,trivial⟩ | apply fH.up)):fH K H b o vs:=h
theorem af4{K:World}{H:List aH}{b o:Nat}{vs:List Value}(h:fH K H b o vs:=by repeat (first | exact fH.ED ⟨Z,Z,trivial⟩ | apply fH.up)):fH K H b o vs:=h
theorem wL{K:World}{H:List aH}{b o:Nat}{vs:List Value}(h:fH K H b o vs:=by repeat (first | exact fH.all | apply fH.up)):fH K H b o vs:=h
theorem lD{K:World}{H:List aH}{q:Option Addr}{v:Value}(h:Rd K H q v:=by repeat (first | exact Rd.here Z | apply Rd.up)):Rd K H q v:=h
theorem Jy{a b:Prop}(h:a→b:=by intro hc;first | omega | (simp at hc;omega)):a→b:=h
theorem bC{E e:Env}(h:Sub E e:=by repeat (first | exact Sub.nil _ | refine Sub.cons Z ?_ | refine Sub.cons (look_eq Z (by simp)) ?_)):Sub E e:=h
theorem qR{P:Program}{K:World}{n:Nat}{e:Env}{H:List aH}{r:Option (Option Nat)}{fn:Func}{post:Value→List aH→Prop}{v:Value}{t:Tmp}(H':List aH)(hr:fn.results= #[.tmp t])(h:look e t=some v)(hs:∀w,Sat K w H→Sat K w H')(hp:post v H'):aF P K n fn post ⟨r,[]⟩ .ret e H:=aF.ret (bJ.tmp hr h) hs hp
theorem rA{P:Program}{K:World}{n:Nat}{e:Env}{H:List aH}{Mo:Mode}{fn:Func}{t u T b o:Nat}{v0 v1 v2 v3 v4 v':Value}(hr:fn.results= #[.cell t T,.tmp u])(h:look e t=some (ptr b o))(hT:Ur P T 5)(h':look e u=some v')(hs:fH K H b o [v0,v1,v2,v3,v4]:=by repeat (first | exact fH.ED ⟨Z,Z,Z,Z,Z,trivial⟩ | apply fH.up)):bJ Mo P K n fn e H (.tuple #[.agg [v0,v1,v2,v3,v4].toArray,v']):=bJ.two hr (R1.jQ h hT Z hs) (R1.tmp h')
theorem ay{p:Prop}(h:p:=by omega):p:=h
theorem aN{p:Prop}(h:p:=by decide):p:=h
theorem cO{K:World}{H:List aH}:∀w,Sat K w H→Sat K w H:=λ_ h=>h
theorem aB.en{P:Program}{K:World}{n:Nat}{H:List aH}{E:Env}{f:FuncId}{fn:Func}{c:Code}{vs:List Value}{post:Value→List aH→Prop}(hf:P.funcs[f]? =some fn)(hn:fn.ntmps=n)
 (h:WC ⟨none,[]⟩ P K n c (aF P K n fn post) E H) (hb:fn.body=some c:=by exact Z) (hl:ble vs.length n=true:=by exact Z) (hE:kV 0 vs=E:=by first | (simp only[kV,reduceAdd];done) | (simp only[kV,reduceAdd];rfl)):aB P f vs.toArray K H post :=
 aB.enter hf hb hn hl (hE ▸ h)
section
variable{Mo:Mode}{P:Program}{K:World}{n:Nat}{Q:iX}{e:Env}{H G:List aH}{u:Value}{ty:TypeId}{pos:String}{af:Array Edge}{ops:Array Oper}{rest:List Oper}{d:Nat}{f:FuncId}{ats:Array TypeId}{post:Value→List aH→Prop}{x1 x2 x3 x4:Operand}{v1 v2 v3 v4:Value}
theorem ak{c:Bool}{x:Operand}{v:Value}(h:sQ e x=some v):OV c e x v:=OV.p h
theorem WL.c1(hf:bP P f)(h1:sQ e x1=some v1)(hF:aB P f #[v1] K H post)(hd:blt d n=true)(h:∀v H',post v H'→WL Mo P K n ops rest Q ((d,v)::e) H'):WL Mo P K n ops (⟨some d,.call ⟨.value (.func f),#[x1],ats⟩,ty,pos,af,none⟩::rest) Q e H:=WL.call (xs:=[x1]) (vs:=[v1]) hf ⟨OV.p h1,trivial⟩ hF hd h
theorem WL.t1(hf:bP P f)(h1:sQ e x1=some v1)(hF:aB P f #[v1] K H λv H'=>v=u∧H'=G)(hd:blt d n=true)(h:WL Mo P K n ops rest Q ((d,u)::e) G):WL Mo P K n ops (⟨some d,.call ⟨.value (.func f),#[x1],ats⟩,ty,pos,af,none⟩::rest) Q e H:=WL.call (xs:=[x1]) (vs:=[v1]) hf ⟨OV.p h1,trivial⟩ hF hd λ_ _ a=>by obtain⟨rfl,rfl⟩:=a;exact h
theorem WL.c2(hf:bP P f)(h1:sQ e x1=some v1)(h2:sQ e x2=some v2)(hF:aB P f #[v1,v2] K H post)(hd:blt d n=true)(h:∀v H',post v H'→WL Mo P K n ops rest Q ((d,v)::e) H'):WL Mo P K n ops (⟨some d,.call ⟨.value (.func f),#[x1,x2],ats⟩,ty,pos,af,none⟩::rest) Q e H:=WL.call (xs:=[x1,x2]) (vs:=[v1,v2]) hf ⟨OV.p h1,OV.p h2,trivial⟩ hF hd h
theorem WL.t2(hf:bP P f)(h1:sQ e x1=some v1)(h2:sQ e x2=some v2)(hF:aB P f #[v1,v2] K H λv H'=>v=u∧H'=G)(hd:blt d n=true)(h:WL Mo P K n ops rest Q ((d,u)::e) G):WL Mo P K n ops (⟨some d,.call ⟨.value (.func f),#[x1,x2],ats⟩,ty,pos,af,none⟩::rest) Q e H:=WL.call (xs:=[x1,x2]) (vs:=[v1,v2]) hf ⟨OV.p h1,OV.p h2,trivial⟩ hF hd λ_ _ a=>by obtain⟨rfl,rfl⟩:=a;exact h
theorem WL.c3(hf:bP P f)(h1:sQ e x1=some v1)(h2:sQ e x2=some v2)(h3:sQ e x3=some v3)(hF:aB P f #[v1,v2,v3] K H post)(hd:blt d n=true)(h:∀v H',post v H'→WL Mo P K n ops rest Q ((d,v)::e) H'):WL Mo P K n ops (⟨some d,.call ⟨.value (.func f),#[x1,x2,x3],ats⟩,ty,pos,af,none⟩::rest) Q e H:=WL.call (xs:=[x1,x2,x3]) (vs:=[v1,v2,v3]) hf ⟨OV.p h1,OV.p h2,OV.p h3,trivial⟩ hF hd h
theorem WL.t3(hf:bP P f)(h1:sQ e x1=some v1)(h2:sQ e x2=some v2)(h3:sQ e x3=some v3)(hF:aB P f #[v1,v2,v3] K H λv H'=>v=u∧H'=G)(hd:blt d n=true)(h:WL Mo P K n ops rest Q ((d,u)::e) G):WL Mo P K n ops (⟨some d,.call ⟨.value (.func f),#[x1,x2,x3],ats⟩,ty,pos,af,none⟩::rest) Q e H:=WL.call (xs:=[x1,x2,x3]) (vs:=[v1,v2,v3]) hf ⟨OV.p h1,OV.p h2,OV.p h3,trivial⟩ hF hd λ_ _ a=>by obtain⟨rfl,rfl⟩:=a;exact h
theorem WL.c4(hf:bP P f)(h1:sQ e x1=some v1)(h2:sQ e x2=some v2)(h3:sQ e x3=some v3)(h4:sQ e x4=some v4)(hF:aB P f #[v1,v2,v3,v4] K H post)(hd:blt d n=true)(h:∀v H',post v H'→WL Mo P K n ops rest Q ((d,v)::e) H'):WL Mo P K n ops (⟨some d,.call ⟨.value (.func f),#[x1,x2,x3,x4],ats⟩,ty,pos,af,none⟩::rest) Q e H:=WL.call (xs:=[x1,x2,x3,x4]) (vs:=[v1,v2,v3,v4]) hf ⟨OV.p h1,OV.p h2,OV.p h3,OV.p h4,trivial⟩ hF hd h
theorem WL.t4(hf:bP P f)(h1:sQ e x1=some v1)(h2:sQ e x2=some v2)(h3:sQ e x3=some v3)(h4:sQ e x4=some v4)(hF:aB P f #[v1,v2,v3,v4] K H λv H'=>v=u∧H'=G)(hd:blt d n=true)(h:WL Mo P K n ops rest Q ((d,u)::e) G):WL Mo P K n ops (⟨some d,.call ⟨.value (.func f),#[x1,x2,x3,x4],ats⟩,ty,pos,af,none⟩::rest) Q e H:=WL.call (xs:=[x1,x2,x3,x4]) (vs:=[v1,v2,v3,v4]) hf ⟨OV.p h1,OV.p h2,OV.p h3,OV.p h4,trivial⟩ hF hd λ_ _ a=>by obtain⟨rfl,rfl⟩:=a;exact h
end
end Go.Sl
namespace Go.Sl
open Go.RowKit Go.BigFrame List Nat
theorem Ku{w:World}(h:w.cell? a=some v):a=⟨a.block,a.off,none⟩:=by
 cases a with
 | mk b o s =>
  cases s with
  | none=>rfl
  | some x =>
   unfold World.cell? at h;split at h<;>simp at h
theorem V.iM{S T E cap:Nat}(hS:P.underlying S=some (.slice E))(hE:P.underlying E=some (.int .u8))(hT:P.underlying T=some .string)(hx:OV c e x (.slice A m cap))
 (hs:c=true→Seq K H A m 1 (ints .u8 xs)):eX Mo P K n c e H ⟨dst,.convert S T x,ty,pos,af,gd⟩ (.string (strOfNums xs)):=λl a w D C=>by
 show ((do pure (Next.value (←convert S T (a.eval x)))):Sem Next).run P w=_;rw[hx.ev l D];have h:=hs l;have B:xs.length=m:=by simpa [ints] using h.len
 have Kw:(convert S T (.slice A m cap)).run P w= .ok (.string (strOfNums xs)) w:=by
  cases A with
  | none =>
   have :xs=[]:=by
    cases xs with
    | nil=>rfl
    | cons y ys=>obtain⟨p,b,_⟩:=h.rd 0 _ Z w C;simp at b
   subst this;exact run_convert_bytes_nil w S E hS hE m cap T hT
  | some p =>
   rcases eq_zero_or_pos m with j | j
   ·subst j;have :xs=[]:=eq_nil_of_length_eq_zero B;subst this;simp[convert,run_underlying hS,run_underlying hE,run_underlying hT,Conv.bytesToString,loadCells,loadCellsFrom,strOfNums,ByteArray.empty,ByteArray.emptyWithCapacity];try rfl
   ·have Wy:∀i,i<m→w.cell? (p.add i)=some (.int .u8 (xs.getD i 0)):=λi k=>by
     obtain⟨q,b,F⟩:=h.rd i _ (tY .u8 xs ay) w C;simp at b;subst b;exact F
    have r:=Ku (by have :=Wy 0 j;rwa [show p.add 0=p from Z] at this);rw[r];refine run_convert_bytes_arg w S E hS hE p.block p.off m cap xs B (λi k=> ?_) T hT;have :=Wy i k;rw[r,jM] at this;exact this
 simp[Kw]
def bF(xs:List Int):Prop:=∀x∈xs,0≤x∧x<256
theorem bF.at_(h:bF xs)(i:Nat):0≤xs.getD i 0∧xs.getD i 0<256:=by
 by_cases a:i<xs.length
 ·have :=h xs[i] (by simp)
  simpa [getD,a] using this
 ·simp[getD,getElem?_eq_none (Nat.le_of_not_lt a)]
theorem bF.wide(h:bF xs)(i:Nat): -9223372036854775808≤xs.getD i 0∧xs.getD i 0≤9223372036854775807:=by have :=h.at_ i;omega
theorem Kl(hx:bF xs)(hy:bF ys)(h:(strOfNums xs).data.toList=(strOfNums ys).data.toList):xs=ys:=by
 simp only[strOfNums_data] at h
 induction xs generalizing ys with
 | nil=>cases ys with
  | nil=>rfl
  | cons y ys=>simp at h
 | cons x xs ih =>
  cases ys with
  | nil=>simp at h
  | cons y ys =>
   simp only[map_cons,List.cons.injEq] at h;obtain⟨b,j⟩:=h;have m:=hx x (by simp);have l:=hy y (by simp);have k:=congrArg UInt8.toNat b;simp only[UInt8.toNat_ofNat'] at k;have :x=y:=ay;subst this;rw[ih (λz a=>hx z (by simp[a])) (λz a=>hy z (by simp[a])) j]
theorem sZ(hx:bF xs)(hy:bF ys):((strOfNums xs).toList==(strOfNums ys).toList)=decide (xs=ys):=by
 have a:∀b:ByteArray,b.toList=b.data.toList:=λb=>ByteArray.toList_eq b;rw[a,a,Bool.eq_iff_iff];simp only[beq_iff_eq,decide_eq_true_eq];exact⟨Kl hx hy,λh=>by rw[h]⟩
theorem WL.adU{T':Nat}(hT:fq P T E 1)(hx:OV true e x (.slice (some ⟨b,o,none⟩) dl dc))
 (hn:s.data.toList.map (λb=>Value.int .u8 b.toNat)=news) (hl:ble s.size dl=true) (hu:bT K H b o news H') (hd:blt d n=true)
 (h:WL Mo P K n ops rest Q ((d,.i (news.length:Int))::e) H'):WL Mo P K n ops (⟨some d,.call ⟨.builtin .copy,#[x,.const (.string s)],#[T,T']⟩,ty,pos,af,none⟩::rest) Q e H:=by
 refine WL.RQ (R:=λv ou=>v= .i (news.length:Int)∧ou=H') (λa w y C=> ?_) hd (λv ou ⟨r,l⟩=>by subst r l;exact h);have k:∀v∈news,v.oneCell'=true:=by rw[←hn];simp[Value.oneCell']
 obtain⟨F,m⟩:=hu.run (P:=P) C k;refine⟨_,_,H', ?_,m,Z,Z⟩;have j:news.length=s.size:=by rw[←hn,length_map];rfl
 have Dp:s.size≤dl:=by simpa using hl
 have D:List.take s.size (List.map (λb:UInt8=>Value.int .u8 b.toNat) s.data.toList)=news:=by rw[hn];exact take_of_length_le ay
 have B:s.size.min dl=s.size:=Nat.min_eq_left Dp;rw[execOp_builtin,builtin_copy];have Km:=hx.ev Z y;have Qt:a.eval (.const (.string s))= .string s:=rfl;simp[Builtin.copy_,Km,Qt,hT.1 w,hT.2 w,Builtin.lenOf,Builtin.firstCells,B,D,F,goInt,j]
theorem WL.D7{T E bytes:Nat}(hT:P.underlying T=some (.slice E))(hE:dH P E s bytes z)(hx:OV true e x (.slice A m cap))(hy:OV true e y (.slice B q cap'))
 (hs:Seq K H A m s cs) (hn:Seq K H B q s news) (wH:cap<m+q) (hm0:0<m) (hq0:0<q) (hb:(m+q)*bytes≤140737488355328) (JC:blt 0 bytes=true) (hd:blt d n=true)
 (h:∀A cap,(A=none→m+q=0∧cap=0)→m+q≤cap→WL Mo P K n ops rest Q ((d,.slice A (m+q) cap)::e) (aV (.slice A (m+q) cap) E s (m+q) (cs++news)::H)) :
 WL Mo P K n ops (⟨some d,.call ⟨.builtin .append,#[x,y],#[T,T]⟩,ty,pos,af,none⟩::rest) Q e H:=by
 refine WL.RQ (R:=λu L=>∃A cap,u= .slice A (m+q) cap∧(A=none→m+q=0∧cap=0)∧m+q≤cap∧L=aV (.slice A (m+q) cap) E s (m+q) (cs++news)::H) (λa w N r=> ?_) hd (λu L ⟨A,cap,V,U,e3,e4⟩=>by subst V e4;exact h A cap U e3);obtain⟨i,hi,hz,Zp,TT,I,M⟩:=hE;have RH:0<bytes:=by simpa using JC
 have W:m+q≤140737488355328:=Nat.le_trans (Nat.le_mul_of_pos_right _ RH) hb;have aeL:m+q≤maxLen:=by simp only[maxLen];omega
 have Km:=hx.ev Z N;have Qt:=hy.ev Z N;have qX:0<cs.length:=by rw[hs.len];exact Nat.mul_pos hm0 M
 have X:0<news.length:=by rw[hn.len];exact Nat.mul_pos hq0 M
 obtain⟨S,rfl,_⟩:=hs.cell r (i:=0) (v:=cs[0]) (by simp);obtain⟨O,rfl,_⟩:=hn.cell r (i:=0) (v:=news[0]) (by simp);have l:∀j v,cs[j]? =some v→w.cell? (S.add j)=some v:=λj v J=>by
  obtain⟨p,D,F⟩:=hs.cell r J;simp at D;subst D;exact F
 have acG:∀j v,news[j]? =some v→w.cell? (O.add j)=some v:=λj v J=>by
  obtain⟨p,D,F⟩:=hn.cell r J;simp at D;subst D;exact F
 subst Zp TT;have Y:=run_append_grow (P:=P) w T ty E i z hT hi hz S m cap cs hs.len l O q cap' news hn.len acG wH ay (growslice_fits wH hb);have C:=grownCap_ge w (m+q) cap E;have Zi:=grownCap_le_maxLen w (m+q) cap E aeL;have k:(cs++news).length=(m+q)*i.size:=by rw[length_append,hs.len,hn.len,Nat.add_mul]
 refine⟨.slice (some ⟨w.heap.size,0,none⟩) (m+q) (grownCap w (m+q) cap E),w.drew.alloc (.cells (cs.toArray++news.toArray++Builtin.zeroCells z.cells (grownCap w (m+q) cap E-(m+q))) E),
  aV (.slice (some ⟨w.heap.size,0,none⟩) (m+q) (grownCap w (m+q) cap E)) E i.size (m+q) (cs++news)::H, ?_,⟨r.1.grow Z Z Z (by simp), ?_⟩,_,_,Z,(λh=>by simp at h),C,Z⟩
 ·rw[execOp_builtin,builtin_append];simp only[map_toArray,map_cons,map_nil,Km,Qt,Sem.run_bind,Y,Result.andThen_ok,Sem.run_pure]
 ·refine r.2.push (by simp) (λb wE=> ?_) ?_ (λb wE=> ?_)
  ·exact heap_alloc_old w.drew _ wE
  ·refine⟨k,.inr ⟨w.heap.size,_,_,Z,zero_le _,heap_alloc_new w.drew _,C,Zi, ?_, ?_⟩⟩
   ·simp only[Array.size_append,size_toArray,size_zeroCells,I,hs.len,hn.len,←Nat.add_mul];congr 1;omega
   ·simp only[Array.toList_append,append_assoc];rw[←append_assoc,←k];exact take_left
  ·simp[aV,Value.ownBlock] at wE;subst wE;simp
def lZ(b T:Nat)(cs:List Value):aH where
 jA x:=x=b
 holds w:=∃fr,w.heap[b]? =some (.cells cs.toArray T fr)
 loc w w' h hw:=by rw[h b Z];exact hw
theorem Rd.aeZ(h:cs[o]? =some v):Rd K (lZ b T cs::H) (some ⟨b,o,none⟩) v:=λw a=>by
 refine⟨_,Z, ?_⟩;obtain⟨j,this⟩:=a.head;simp[World.cell?,this,h]
theorem Seq.agX(hl:cs.length=m*s):Seq K (lZ b T cs::H) (some ⟨b,0,none⟩) m s cs:=⟨hl,λi v a=>by
 have :=Rd.aeZ (K:=K) (H:=H) (b:=b) (T:=T) (o:=i) a
 simpa [jM] using this⟩
theorem WL.acd{T:Nat}(hT:P.underlying T=some (.slice E))(hE:P.underlying E=some (.int .u8))(hx:OV true e x (.slice (some ⟨b,0,none⟩) m cap))(hd:blt d n=true)
 (h:WL Mo P K n ops rest Q ((d,.slice (some ⟨b,0,none⟩) m cap)::e) (lZ b E cs::H)) :
 WL Mo P K n ops (⟨some d,.convert T T x,ty,pos,af,none⟩::rest) Q e (ah b E cs::H):=by
 refine WL.RQ (R:=λu B=>u= .slice (some ⟨b,0,none⟩) m cap∧B=lZ b E cs::H) (λa w C l=> ?_) hd (λu B ⟨F,D⟩=>by subst F D;exact h);have r:=l.head;simp only[ah] at r;have j:w.shape? b=some (E,cs.length):=by simp[World.shape?,r]
 refine⟨_,w.freeze ⟨b,cs.length,none⟩ 1,_, ?_,⟨l.1.grow ?_ ?_ ?_ ?_, ?_⟩,Z,Z⟩
 ·show ((do pure (Next.value (←convert T T (a.eval x)))):Sem Next).run P w=_;rw[hx.ev Z C];simp[convert,run_underlying hT,run_underlying hE,markStringish,j]
 ·simp[World.freeze]
 ·simp[World.freeze]
 ·simp[World.freeze]
 ·simp[World.freeze]
 ·refine l.2.set (A':=lZ b E cs) (by simp[World.freeze]) (λk y _=> ?_) ?_ (λk y=> .inl y)
  ·have :b≠k:=λh=>y h.symm;simp[World.freeze,Array.getElem?_modify,this]
  ·refine⟨(cs.length,cs.length+1), ?_⟩;simp[World.freeze,Array.getElem?_modify,r]
theorem WC.abO{α:Type}(P':α→Prop)(E:α→Env)(M:α→List aH)(a:α)(ha:P' a)(hE:Sub (E a) e)(hM:∀w,Sat K w H→Sat K w (M a))
 (h:∀a,P' a→WC Mo P K n code Q (E a) (M a)):WC Mo P K n code Q e H:=WC.sub hE hM (h a ha)
end Go.Sl
namespace Go.Sl
open Go.ChangeShapes Go.WideShapes Go.ChangeAt Go.RowKit List Nat
theorem aes{H:Type}{enc:TypeId×Value→H}(hl:laidOutB P=true){sp:Nat→Bool}:∀ {ts:List TypeId} {vs:List Value} {ds:List (DataW H)} {ps:List MemPlace},(∀t∈ts,P.readableRec t=true∧t<P.types.size) →
 DataW.TrodAll enc P W 0 (λ_=>true) true ts vs ds ps→(∀p∈ps,W.sameAt W' p)→(∀p∈ps,sp p.block=true)→DataW.TrodAll enc P W' 0 sp true ts vs ds ps:=by
 intro ts
 induction ts with
 | nil =>
  intro vs ds ps _ h _ _;cases vs<;>cases ds<;>first | exact h | exact h.elim
 | cons t ts ih =>
  intro vs ds ps b h hs j;cases vs with
  | nil=>cases ds<;>exact h.elim
  | cons v vs =>
   cases ds with
   | nil=>exact h.elim
   | cons d ds =>
    obtain⟨p,q,k,l,e⟩:=h;subst e;obtain⟨m,r⟩:=b t (by simp);exact⟨p,q,WideElems.Trod_stays hl m r k (λx a=>hs x (by simp[a])) (λx a=>j x (by simp[a])),ih (λt y=>b t (by simp[y])) l (λx a=>hs x (by simp[a])) (λx a=>j x (by simp[a])),Z⟩
theorem qW{H:Type}{enc:TypeId×Value→H}:∀ {ts:List TypeId} {vs:List Value} {ds:List (DataW H)} {ps:List MemPlace},DataW.TrodAll enc P W base spare held ts vs ds ps→vs.length=ts.length∧ds.length=ts.length:=by
 intro ts
 induction ts with
 | nil=>intro vs ds ps h;cases vs<;>cases ds<;>first | exact⟨Z,Z⟩ | exact h.elim
 | cons t ts ih =>
  intro vs ds ps h;cases vs with
  | nil=>cases ds<;>exact h.elim
  | cons v vs =>
   cases ds with
   | nil=>exact h.elim
   | cons d ds =>
    obtain⟨p,q,b,a,e⟩:=h;have :=ih a;simp[this]
theorem ab5{H:Type}{enc:TypeId×Value→H}{s:ChangeSpec}{ds gs:List (DataW H)}(hl:laidOutB P=true)
 (hr:f.params.toList.all (λt=>P.readableRec t&&decide (t<P.types.size))=true) (hv:s.vars=[])
 (hf:∀ds:List (DataW H),ds.length=f.params.size→s.fn H ds= { results:=[.lit (.bool true)],args:=ds })
 (U0:f.resultTypes= #[tb]) (htb:P.underlying tb=some .bool) (hW:DataW.Whole enc P f.params.toList s.vars false W args.toList ds gs before) (hb:Below W.heap.size W W') :
 s.post enc P f false true false false W args (.bool true) W':=by
 have o7:∀p∈before,p.block<W.heap.size:=λp m=>hW.lt p m;have j:=hW;obtain⟨p,q,k,l,rfl,y,vZ⟩:=hW;rw[hv] at l;obtain⟨rfl,rfl⟩:=trodVars_none l;have b:=(qW k).2;have RS:=hf ds (by rw[b,Array.length_toList]);refine⟨ds,[],_,[],p,[],j, ?_, ?_, ?_,World.keptBut_mono (λx a=>a) (hb.frame _),λh=>by cases h⟩
 ·rw[append_nil,RS,U0];exact trodAll_mk1 (shut_bool htb true)
 ·rw[append_nil,RS];refine aes hl (λt r=> ?_) k (λx a=>hb.same (o7 x (by simp[a]))) (λx a=>by simpa using o7 x (by simp[a]));have :=all_eq_true.1 hr t r
  simpa using this
 ·rw[append_nil,RS,hv];rfl
theorem Tg{s:ChangeSpec}{H:Type}{enc:TypeId×Value→H}(own:ownKnob C.prog.godebug=none)(started:os.Started)(noInit:C.prog.inits.idxOf? f=none)
 (RS:C.prog.funcs[f]? =some fn)
 (witness:∃(w:World) (tape:Tape) (i:Input),w.os=os∧(w.forCall tape i).Shaped C.prog∧i.vars=[]∧Input.okWide C.prog (w.forCall tape i) .any w.heap.size f i ∧
  s.pre6 enc C.prog fn [] false (w.forCall tape i).memory i.args∧({}:Assume).holds C.prog (lone (Frame.enter C.prog f i.args .normal) [] (w.forCall tape i)))
 (hl:laidOutB C.prog=true) (hr:fn.params.toList.all (λt=>C.prog.readableRec t&&decide (t<C.prog.types.size))=true) (hv:s.vars=[])
 (hf:∀ds:List (DataW H),ds.length=fn.params.size→s.fn H ds= { results:=[.lit (.bool true)],args:=ds })
 (U0:fn.resultTypes= #[tb]) (htb:C.prog.underlying tb=some .bool)
 (contract:∀(W:World) (base:Nat) (args:Array Value) (ds:List (DataW H)) (p:List MemPlace),(∀(j:Nat) t v,fn.params[j]? =some t→args[j]? =some v→Value.okWide C.prog W .any base t v) →
  DataW.TrodAll enc C.prog W 0 (λ_=>true) true fn.params.toList args.toList ds p→(∀x∈p,x.block<W.heap.size)→aK C.prog f args W [Old W] (.bool true)) :
 ReturnsInHanded {} C os f .any (s.pre6 enc C.prog fn [] false) (s.post enc C.prog fn false true false false):=by
 refine returnsInHanded_of_change own started noInit RS witness ?_;intro W base args ds F b JE h _ _;have a:=h;obtain⟨p,q,k,B,rfl,m,vZ⟩:=h;refine ((contract W base args ds p JE k (λx r=>a.lt x (by simp[r]))).call (Sat.YZ W)).mono λe D ⟨l,y⟩=> ?_;exact⟨_,l,ab5 hl hr hv hf U0 htb a y.below⟩
def EF(P:Program)(t:TypeId)(v:Value):Prop :=
 match P.underlying t with
 | some (.int k)=>∃i,v= .int k i∧k.min≤i∧i≤k.max
 | some .bool=>∃b,v= .bool b
 | _=>True
theorem agc(h:Cell.okWide P W r base t v):EF P t v:=by
 unfold EF;cases hu:P.underlying t with
 | none=>trivial
 | some d =>
  cases d<;>simp only[Cell.okWide,hu] at h ⊢;all_goals cases v<;>simp_all [Cell.ok,IntKind.has]
theorem aa7(hu:∃d,P.underlying t=some d∧((∃fs,d= .struct fs)∨∃m e,d= .array m e))(hts:P.cellTypes P.depth t=some ts)(hn:P.cellsOf t=ts.length)(h:Value.okWide P W r base t v) :
 ∃ cs:Array Value,v= .agg cs∧cs.size=ts.length∧∀(i:Nat) u w,ts[i]? =some u→cs[i]? =some w→EF P u w:=by
 obtain⟨d,hd,ZB⟩:=hu;have x:∃cs,v= .agg cs∧cs.size=P.cellsOf t∧Row.okWide P W r base t cs:=by
  rcases ZB with ⟨fs,rfl⟩ | ⟨m,e,rfl⟩<;>simpa only[Value.okWide,hd] using h
 obtain⟨cs,rfl,JQ,l,a,_,k⟩:=x;rw[hts] at a;injection a with a
 subst a;refine⟨cs,Z,JQ.trans hn,λi u w j B=> ?_⟩;obtain⟨C,b,y⟩:=k i w B;have o7:i<ts.length:=by
  rcases Nat.lt_or_ge i ts.length with h | h
  ·exact h
  ·rw[getElem?_eq_none h] at j;cases j
 rw[mod_eq_of_lt o7,j] at b;injection b with b
 subst b;exact agc y
theorem EF.int(hu:P.underlying t=some (.int k))(h:EF P t v):∃i,v= .int k i∧k.min≤i∧i≤k.max:=by simpa only[EF,hu] using h
theorem aeP(h:∀x∈xs,IntKind.u8.min≤x∧x≤IntKind.u8.max):bF xs:=λx a=>by
 have :=h x a;have j:IntKind.u8.min=0:=rfl;have b:IntKind.u8.max=255:=rfl;omega
end Go.Sl
namespace Go.Sl
open Go.RowKit List Nat
def iW(P:Program)(k:Nat)(t:TypeId)(x y:Value)(b:Bool):Prop:=∀w,(Op.equalIn k t x y).run P w= .ok b w
def JZ(P:Program)(k:Nat)(xs ys:Array Value)(fs:List Field)(b:Bool):Prop:=∀w,(Op.eqFields k xs ys fs).run P w= .ok b w
def Nz(P:Program)(t:TypeId)(xs:Array Value)(o:Nat)(v:Value):Prop:=∀w,(part t xs o).run P w= .ok v w
theorem iW.int(h:P.underlying t=some (.int i)):iW P (k+1) t (.int i a) (.int i b) (decide (a=b)):=λw=>by
 rw[run_equalIn_int w k t i i a b h];rfl
theorem iW.bool(h:P.underlying t=some .bool):iW P (k+1) t (.bool a) (.bool b) (a==b):=λw=>run_equalIn_bool w k t a b h
theorem iW.string(h:P.underlying t=some .string):iW P (k+1) t (.string a) (.string b) (a.toList==b.toList):=λw=>run_equalIn_string w k t a b h
theorem JZ.nil:JZ P k xs ys [] true:=λw=>by simp[Op.eqFields]
theorem JZ.cons {P:Program} {k:Nat} {xs ys:Array Value} {f:Field} {fs:List Field} {a b:Value} {r s:Bool} (hn:(f.name== "_")=false) (ha:Nz P f.type xs f.offset a) (hb:Nz P f.type ys f.offset b) (he:iW P k f.type a b r) (hr:JZ P k xs ys fs s) :
 JZ P k xs ys (f::fs) (r&&s):=λw=>by
 have h:f.name≠ "_" :=by simpa using hn
 rw[Op.eqFields];simp only[if_pos h,Sem.run_bind,ha w,hb w,he w,Result.andThen_ok];cases r
 ·simp
 ·simpa using hr w
theorem iW.struct(hu:P.underlying t=some (.struct fs))(hp:P.stoodInHeld t=false)(h:JZ P k xs ys fs.toList r):iW P (k+1) t (.agg xs) (.agg ys) r:=λw=>by
 have a:P.fieldsOf t=fs:=by simp[Program.fieldsOf,hu]
 rw[run_equalIn_struct (P:=P) w k t xs ys (by rw[a];exact hu) hp,a];exact h w
inductive Xb (P:Program) (k:Nat) (e n:Nat) (xs ys:Array Value):List Nat→Bool→Prop
 | nil:Xb P k e n xs ys [] true
 | cons {i:Nat} {is:List Nat} {a b:Value} {r s:Bool} (ha:Nz P e xs (i*n) a) (hb:Nz P e ys (i*n) b) (he:iW P k e a b r) (hr:Xb P k e n xs ys is s):Xb P k e n xs ys (i::is) (r&&s)
theorem iW.array{e:Nat}(hu:P.underlying t=some (.array m e))(hs:∀w,(sizeOf e).run P w= .ok n w)(h:Xb P k e n xs ys (range' 0 m 1) r):iW P (k+1) t (.agg xs) (.agg ys) r:=λw=>by
 rw[Op.equalIn];simp only[Sem.run_bind,run_underlying hu,Result.andThen_ok,hs,Std.Legacy.Range.forIn_eq_forIn_range',Std.Legacy.Range.size,Nat.sub_zero,Nat.add_sub_cancel,Nat.div_one]
 generalize range' 0 m 1=l at h ⊢
 induction h with
 | nil=>simp
 | @cons i is a b r s ha hb he hr ih =>
  simp only[forIn_cons,Sem.run_bind,ha w,hb w,he w,Result.andThen_ok];cases r
  ·simp
  ·simp only[Bool.not_true,Bool.false_eq_true,if_false,Sem.run_pure,Result.andThen_ok,Bool.true_and];exact ih
theorem V.agF(hm:P.eqGuardType P.depth t=false)(hx:OV c e x (.agg xs))(hy:OV c e y (.agg ys))(h:iW P 10000 t (.agg xs) (.agg ys) b) :
 eX Mo P K n c e H ⟨dst,.binOp .eql t x y t',ty,pos,af,gd⟩ (.bool b):=λk a w j _ =>
 rX (hx.ev k j) (hy.ev k j) (run_eqGuard_agg w _ _ _ _ _ _ hm) (by rw[run_eql_struct,h w];rfl)
theorem V.Qc(hm:P.eqGuardType P.depth t=false)(hx:OV c e x (.agg xs))(hy:OV c e y (.agg ys))(h:iW P 10000 t (.agg xs) (.agg ys) b) :
 eX Mo P K n c e H ⟨dst,.binOp .neq t x y t',ty,pos,af,gd⟩ (.bool (!b)):=λk a w j _ =>
 rX (hx.ev k j) (hy.ev k j) (run_eqGuard_agg w _ _ _ _ _ _ hm) (by rw[run_neq_struct,h w];rfl)
end Go.Sl
