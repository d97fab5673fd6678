import Derived.WalkKit
import Derived.Deep.Quiet
import Derived.Deep.LoopGhost
import Derived.CallsIn
import Derived.TacticsIn
import Derived.LoopNIn
import Derived.Sort.LoopGhostIn
import Derived.Maps.AppendAt
import Derived.Laws.MakeOwn
import Derived.Orders
import Derived.Laws.BytesArg
import Derived.Lib.Bytes
import Derived.ProofKit
import Derived.Laws.StructEq
set_option autoImplicit true
set_option linter.all false
set_option relaxedAutoImplicit true
abbrev Go.η:Go.Value:= .int .u32 0
abbrev Go.θ:Go.Value:= .int .u64 0
abbrev Go.ζ:Go.Value:= .int .u8 0
abbrev Go.Value.i(x:Int):Go.Value:= .int .i64 x
namespace Go.Sl
open Go.RowKit List Nat
structure Mode where
 round:Option (Option Nat)
 ds:List Deferred
abbrev IB:Option Nat→Fence
 | none=>Fence.wide
 | some l=>Fence.wide.inRound l
theorem AU(r:Option Nat)(f:FuncId):(IB r).fn f:=by cases r<;>trivial
theorem Lr:CallsIn (IB r) 0 P f args w R↔Calls P f args w R:=by
 cases r
 ·exact callsIn_wide
 ·exact callsIn_wide (n:=0)
theorem zo(r:Option Nat):(IB r).depth.isSome=true→1≤0:=by cases r<;>intro h<;>cases h
def Lx(M:Mode)(P:Program)(c:Code)(q:Exit→Act→World→Prop)(a:Act)(w:World):Prop :=
 match M.round with | none=>c.wp P q a w | some l=>c.wpIn (IB l) 0 P q a w
def lwp(M:Mode)(P:Program)(ops:Array Oper)(q:Exit→Act→World→Prop)(rest:List Oper)(a:Act)(w:World):Prop :=
 match M.round with | none=>wpList P ops q rest a w | some l=>wpListIn (IB l) 0 P ops q rest a w
def owp(M:Mode)(P:Program)(o:Oper)(a:Act)(w:World)(K:Act→World→Prop)(q:Exit→Act→World→Prop):Prop :=
 match M.round with | none=>o.wp P a w K q | some l=>o.wpIn (IB l) 0 P a w K q
theorem yt(h:Lx M P c q a w)(hq:∀x a w,q x a w→q' x a w):Lx M P c q' a w:=by
 obtain⟨r,g⟩:=M;cases r
 ·exact wp_mono h hq
 ·exact wpIn_mono h hq
theorem aaO(h:q .normal a w):Lx M P .skip q a w:=by
 obtain⟨r,g⟩:=M;cases r
 ·exact wp_skip h
 ·exact wpIn_skip h
theorem Yp(h:q .normal a w):Lx M P (.label l) q a w:=by
 obtain⟨r,g⟩:=M;cases r
 ·exact wp_label h
 ·exact wpIn_label h
theorem aau{id:Nat}(h:q (.exit id) a w):Lx M P (.exit id) q a w:=by
 obtain⟨r,g⟩:=M;cases r
 ·exact wp_exit h
 ·exact wpIn_exit h
theorem abV(h:q (.goto l) a w):Lx M P (.goto l) q a w:=by
 obtain⟨r,g⟩:=M;cases r
 ·exact wp_goto h
 ·exact wpIn_goto h
theorem adJ(h:q .ret a w):Lx M P .ret q a w:=by
 obtain⟨r,g⟩:=M;cases r
 ·exact wp_ret h
 ·exact wpIn_ret h
theorem aer{M:Mode}{P:Program}{q:Exit→Act→World→Prop}{a:Act}{w:World}{x y:Code}(h:Lx M P x (fun e a w=>match e with | .normal=>Lx M P y q a w | e=>q e a w) a w):Lx M P (.seq x y) q a w:=by
 obtain⟨r,g⟩:=M;cases r
 ·exact wp_seq (wp_mono h fun e a w h=>by cases e<;>exact h)
 ·exact wpIn_seq (wpIn_mono h fun e a w h=>by cases e<;>exact h)
theorem Xm{M:Mode}{P:Program}{q:Exit→Act→World→Prop}{a:Act}{w:World}{id:Nat}{c:Code}(h:Lx M P c (fun e a w=>match e with | .exit i=>if i=id then q .normal a w else q (.exit i) a w | e=>q e a w) a w):Lx M P (.block id c) q a w:=by
 obtain⟨r,g⟩:=M;cases r
 ·refine wp_block (wp_mono h fun e a w h=> ?_);cases e<;>first | exact h | (simp only[Exit.inBlock] at h ⊢;split<;>simp_all)
 ·refine wpIn_block (wpIn_mono h fun e a w h=> ?_);cases e<;>first | exact h | (simp only[Exit.inBlock] at h ⊢;split<;>simp_all)
theorem aai(hc:a.eval c= .bool t)(ht:t=true→Lx M P x q a w)(hf:t=false→Lx M P y q a w):Lx M P (.cond c x y) q a w:=by
 obtain⟨r,g⟩:=M;cases r
 ·exact wp_cond_split hc ht hf
 ·exact wpIn_cond_split hc ht hf
theorem SX{id:Nat}(h:lwp M P l.toArray q l a w):Lx M P (.region id l.toArray false) q a w:=by
 obtain⟨r,g⟩:=M;cases r
 ·exact wp_region_lit h
 ·exact wpIn_region_lit h
theorem Qk{M:Mode}{P:Program}{q:Exit→Act→World→Prop}{a:Act}{w:World}{c:Code}(I:Nat→Act→World→Prop)(m:Nat)(h0:I m a w)(h:∀m a w,I m a w→Lx M P c (fun e a w=>match e with | .normal=>∃m',m'<m∧I m' a w | e=>q e a w) a w):Lx M P (.loop c) q a w:=by
 obtain⟨r,g⟩:=M;cases r
 ·exact wp_loop_ghost I m h0 fun m a w hi=>wp_mono (h m a w hi) fun e a w h=>by cases e<;>exact h
 ·exact wpIn_loop_ghost I m h0 fun m a w hi=>wpIn_mono (h m a w hi) fun e a w h=>by cases e<;>exact h
theorem ael(h:q .normal a w):lwp M P ops q [] a w:=by
 obtain⟨r,g⟩:=M;cases r
 ·exact wpList_nil (P:=P) (ops:=ops) h
 ·rename_i l;exact wpListIn_nil (F:=IB l) (n:=0) (P:=P) (ops:=ops) h
theorem uP(hw:Region.wanted o (yielded ops a.tmps)=true)(h:∀R:Act→World→Prop,(∀a w,lwp M P ops q rest a w→R a w)→owp M P o a w R q):lwp M P ops q (o::rest) a w:=by
 obtain⟨r,g⟩:=M;cases r
 ·exact wpList_step fun R hR=>by rw[if_pos hw];exact h R hR
 ·exact wpListIn_step fun R hR=>by rw[if_pos hw];exact h R hR
theorem kH(hg:o.guard=none)(h:∀R:Act→World→Prop,(∀a w,lwp M P ops q rest a w→R a w)→owp M P o a w R q):lwp M P ops q (o::rest) a w :=
 uP (by simp[Region.wanted,hg]) h
theorem qg(hw:Region.wanted o (yielded ops a.tmps)=false)(h:lwp M P ops q rest (a.put o.dst undef) w):lwp M P ops q (o::rest) a w:=by
 obtain⟨r,g⟩:=M;cases r
 ·exact wpList_step fun R hR=>by rw[hw];exact hR _ _ h
 ·exact wpListIn_step fun R hR=>by rw[hw];exact⟨fun f _=>AU _ f,hR _ _ h⟩
theorem Ev(h:(execOp ρ o).run P w= .ok nx w')(hn:∀d,nx≠ .defer d):∀c,o.op≠ .defer c:=by
 intro c hc;unfold execOp at h;rw[hc] at h;simp only[Sem.run_bind] at h;cases hr:(resolve ρ c o.type).run P w with
 | ok d w2 =>
  rw[hr] at h;simp only[Result.andThen_ok,Sem.run_pure,Result.ok.injEq] at h;exact hn d h.1.symm
 | halt x w2=>rw[hr] at h;cases h
theorem zB(h:(execOp a.eval o).run P w= .ok (.value v) w')(hK:K (a.put o.dst v) w'):owp M P o a w K q:=by
 obtain⟨r,g⟩:=M;cases r
 ·show o.wp P a w K q;unfold Oper.wp;rw[h,Oper.upon_value];exact hK
 ·refine⟨fun f _=>AU _ f, ?_⟩;rw[Oper.semAt_eq _ _ _ (Ev h (fun d=>by simp)),h,Oper.uponIn_value];exact hK
theorem aaC(h:(execOp a.eval o).run P w= .ok .skip w')(hK:K (a.put o.dst undef) w'):owp M P o a w K q:=by
 obtain⟨r,g⟩:=M;cases r
 ·show o.wp P a w K q;unfold Oper.wp;rw[h,Oper.upon_skip];exact hK
 ·refine⟨fun f _=>AU _ f, ?_⟩;rw[Oper.semAt_eq _ _ _ (Ev h (fun d=>by simp)),h,Oper.uponIn_skip];exact hK
theorem DX(h:(execOp a.eval o).run P w= .ok (.enter f args) w')(hK:Calls P f args w' fun e w''=>∃v,e= .returned v∧K (a.put o.dst v) w''):owp M P o a w K q:=by
 obtain⟨r,g⟩:=M;cases r
 ·show o.wp P a w K q;unfold Oper.wp;rw[h,Oper.upon_enter];refine hK.mono ?_;rintro _ w'' ⟨v,rfl,h⟩;exact h
 ·rename_i l;refine⟨fun f _=>AU _ f, ?_⟩;rw[Oper.semAt_eq _ _ _ (Ev h (fun d=>by simp)),h,Oper.uponIn_enter];refine⟨zo l, ?_⟩;have h1:CallsIn (IB l) 0 P f args w' (fun e w''=>∃v,e= .returned v∧K (a.put o.dst v) w''):=Lr.2 hK;refine h1.mono ?_;rintro _ w'' ⟨v,rfl,h⟩;exact h
structure aH where
 jA:Nat→Prop
 holds:World→Prop
 loc:∀w w':World,(∀b,jA b→w'.heap[b]? =w.heap[b]?)→holds w→holds w'
structure RA(K w:World):Prop where
 os:w.os=K.os
 tape:w.tape=K.tape
 output:w.output=K.output
 size:K.heap.size≤w.heap.size
def bO(w:World):List aH→Prop
 | []=>True
 | A::H=>A.holds w∧(∀b,A.jA b→b<w.heap.size)∧(∀b,A.jA b→∀B∈H,¬B.jA b)∧bO w H
def Sat(K w:World)(H:List aH):Prop:=RA K w∧bO w H
theorem bO.tail(h:bO w (A::H)):bO w H:=h.2.2.2
theorem Sat.tail(h:Sat K w (A::H)):Sat K w H:=⟨h.1,h.2.tail⟩
theorem Sat.head(h:Sat K w (A::H)):A.holds w:=h.2.1
theorem bO.drop:∀(k:Nat) {H:List aH},bO w H→bO w (H.drop k)
 | 0,_,h=>h
 | _+1,[],h=>h
 | k+1,_::_,h=>bO.drop k h.tail
theorem Sat.drop(k:Nat)(h:Sat K w H):Sat K w (H.drop k):=⟨h.1,h.2.drop k⟩
theorem bO.mem:∀ {H:List aH} {A:aH},bO w H→A∈H→A.holds w∧∀b,A.jA b→b<w.heap.size
 | B::H,A,h,hm=>by
  rcases mem_cons.1 hm with rfl | hm
  ·exact⟨h.1,h.2.1⟩
  ·exact h.tail.mem hm
theorem bO.nG(hs:w.heap.size≤w'.heap.size):∀ {H:List aH},(∀A∈H,∀b,A.jA b→w'.heap[b]? =w.heap[b]?)→bO w H→bO w' H
 | [],_,_=>trivial
 | A::H,hk,h=>⟨A.loc w w' (hk A (.head _)) h.1,fun b hb=>Nat.lt_of_lt_of_le (h.2.1 b hb) hs,h.2.2.1,bO.nG hs (fun B hB=>hk B (.tail _ hB)) h.tail⟩
theorem bO.grow(hs:w.heap.size≤w'.heap.size)(hk:∀b,b<w.heap.size→w'.heap[b]? =w.heap[b]?)(h:bO w H):bO w' H :=
 h.nG hs fun A hA b hb=>hk b ((h.mem hA).2 b hb)
theorem bO.push(hs:w.heap.size≤w'.heap.size)(hk:∀b,b<w.heap.size→w'.heap[b]? =w.heap[b]?)(h:bO w H)
 (hA:A.holds w') (h1:∀b,A.jA b→w.heap.size≤b∧b<w'.heap.size):bO w' (A::H) :=
 ⟨hA,fun b hb=>(h1 b hb).2,fun b hb B hB wE=>by have :=(h.mem hB).2 b wE;have :=(h1 b hb).1;omega,h.grow hs hk⟩
theorem bO.set(hs:w.heap.size≤w'.heap.size)(h:bO w (A::H))(hk:∀b,¬A.jA b→b<w.heap.size→w'.heap[b]? =w.heap[b]?)
 (hA:A'.holds w') (hf:∀b,A'.jA b→A.jA b∨(w.heap.size≤b∧b<w'.heap.size)):bO w' (A'::H):=by
 refine⟨hA,fun b hb=> ?_,fun b hb B hB wE=> ?_,h.tail.nG hs fun B hB b hb=>hk b (fun ha=>h.2.2.1 b ha B hB hb) ((h.tail.mem hB).2 b hb)⟩
 ·rcases hf b hb with h1 | h1
  ·exact Nat.lt_of_lt_of_le (h.2.1 b h1) hs
  ·exact h1.2
 ·rcases hf b hb with h1 | h1
  ·exact h.2.2.1 b h1 B hB wE
  ·have :=(h.tail.mem hB).2 b wE;omega
theorem bO.swap(h:bO w (A::B::H)):bO w (B::A::H) :=
 ⟨h.tail.1,h.tail.2.1,fun b hb C hC hc=>by
  rcases mem_cons.1 hC with rfl | hC
  ·exact h.2.2.1 b hc B (.head _) hb
  ·exact h.tail.2.2.1 b hb C hC hc,h.1,h.2.1,fun b hb C hC=>h.2.2.1 b hb C (.tail _ hC),h.tail.tail⟩
theorem bO.vk(h:bO w (A::H))(hH:bO w H→bO w H')(hm:∀B∈H',B∈H):bO w (A::H') :=
 ⟨h.1,h.2.1,fun b hb B hB=>h.2.2.1 b hb B (hm B hB),hH h.tail⟩
def pull(i:Nat)(H:List aH):List aH:=match H[i]? with | some A=>A::H.eraseIdx i | none=>H
theorem bO.Rs:∀(i:Nat) {H:List aH} {A:aH},H[i]? =some A→bO w H→bO w (A::H.eraseIdx i)
 | _,[],_,hi,_=>by simp at hi
 | 0,B::H,A,hi,h=>by simp at hi;subst hi;exact h
 | i+1,B::H,A,hi,h=>by
  have h1:=bO.Rs i (A:=A) (by simpa using hi) h.tail;have h2:bO w (B::A::H.eraseIdx i):=h.vk (fun _=>h1) (fun C hC=>by
   rcases mem_cons.1 hC with rfl | hC
   ·exact mem_of_getElem? (by simpa using hi)
   ·exact mem_of_mem_eraseIdx hC)
  exact h2.swap
theorem Sat.pull{K w:World}{H:List aH}(i:Nat)(h:Sat K w H):Sat K w (pull i H):=by
 unfold Sl.pull;split
 ·rename_i A hi;exact⟨h.1,bO.Rs i hi h.2⟩
 ·exact h
theorem RA.grow(h:RA K w)(h1:w'.os=w.os)(h2:w'.tape=w.tape)(h3:w'.output=w.output)(h4:w.heap.size≤w'.heap.size):RA K w' :=
 ⟨h1.trans h.os,h2.trans h.tape,h3.trans h.output,Nat.le_trans h.size h4⟩
theorem Sat.drew(h:Sat K w H):Sat K { w with drawn:=w.drawn+1 } H :=
 ⟨h.1.grow rfl rfl rfl (Nat.le_refl _),bO.grow (w:=w) (w':= { w with drawn:=w.drawn+1 }) (Nat.le_refl _) (fun _ _=>rfl) h.2⟩
abbrev Env:=List (Nat×Value)
def look:Env→Nat→Option Value
 | [],_=>none
 | (k,v)::e,t=>bif beq k t then some v else look e t
structure eF(Mo:Mode)(n:Nat)(e:Env)(a:Act):Prop where
 defers:a.defers=Mo.ds
 size:a.tmps.size=n
 at_:∀t v,look e t=some v→a.tmps.getD t undef=v
def sQ(e:Env):Operand→Option Value
 | .tmp t=>look e t
 | .const v=>some v
 | .global g=>some (.pointer (some ⟨g,0,none⟩))
 | .func f=>some (.func (.func f) #[] #[])
theorem eF.ev(h:eF Mo n e a)(hx:sQ e x=some v):a.eval x=v:=by
 cases x with
 | tmp t=>exact h.at_ t v hx
 | const u=>simpa [sQ,Act.eval] using hx
 | global g=>simpa [sQ,Act.eval] using hx
 | func f=>simpa [sQ,Act.eval] using hx
theorem eF.put(h:eF Mo n e a)(d:Nat)(hd:blt d n=true)(v:Value):eF Mo n ((d,v)::e) (a.put (some d) v):=by
 have ZB:d<a.tmps.size:=by rw[h.size];simpa using hd
 refine⟨h.defers,by simp[Act.put,h.size],fun t u hu=> ?_⟩;simp only[look] at hu;cases hk:beq d t with
 | true =>
  simp only[hk,cond_true] at hu;obtain rfl:=eq_of_beq_eq_true hk;simp[Act.put,Array.getD,ZB] at hu ⊢;exact hu
 | false =>
  simp only[hk,cond_false] at hu;have pq:d≠t:=ne_of_beq_eq_false hk;have :=h.at_ t u hu;simp only[Act.put,Array.getD_eq_getD_getElem?,Array.getElem?_setIfInBounds,if_neg pq] at this ⊢;exact this
theorem eF.none{Mo:Mode}{n:Nat}{e:Env}{a:Act}(h:eF Mo n e a)(v:Value):eF Mo n e (a.put none v):=h
def Sub(E e:Env):Prop:=∀t v,look E t=some v→look e t=some v
theorem Sub.nil(e:Env):Sub [] e:=fun _ _ h=>by simp[look] at h
theorem Sub.cons{E e:Env}{t:Nat}{v:Value}(h:look e t=some v)(k:Sub E e):Sub ((t,v)::E) e:=fun s u hu=>by
 simp only[look] at hu;cases hk:beq t s with
 | true =>
  simp only[hk,cond_true,Option.some.injEq] at hu;obtain rfl:=eq_of_beq_eq_true hk;rw[h,hu]
 | false=>simp only[hk,cond_false] at hu;exact k s u hu
theorem Sub.refl(e:Env):Sub e e:=fun _ _ h=>h
theorem eF.sub(h:eF Mo n e a)(hs:Sub E e):eF Mo n E a:=⟨h.defers,h.size,fun t v hv=>h.at_ t v (hs t v hv)⟩
abbrev iX:=Mode→Exit→Env→List aH→Prop
def lift(r:Option (Option Nat))(K:World)(n:Nat)(Q:iX)(x:Exit)(a:Act)(w:World):Prop:=∃ds e H,eF ⟨r,ds⟩ n e a∧Sat K w H∧Q ⟨r,ds⟩ x e H
def WC(Mo:Mode)(P:Program)(K:World)(n:Nat)(c:Code)(Q:iX)(e:Env)(H:List aH):Prop :=
 ∀ a w,eF Mo n e a→Sat K w H→Lx Mo P c (lift Mo.round K n Q) a w
def WL(Mo:Mode)(P:Program)(K:World)(n:Nat)(ops:Array Oper)(rest:List Oper)(Q:iX)(e:Env)(H:List aH):Prop :=
 ∀ a w,eF Mo n e a→Sat K w H→lwp Mo P ops (lift Mo.round K n Q) rest a w
def zO(R:Mode→Env→List aH→Prop)(Q:iX):iX
 | Mo,.normal,e,H=>R Mo e H
 | Mo,x,e,H=>Q Mo x e H
def U3(id:Nat)(Q:iX):iX
 | Mo,.exit id',e,H=>bif beq id' id then Q Mo .normal e H else Q Mo (.exit id') e H
 | Mo,x,e,H=>Q Mo x e H
theorem X0(h:∀Mo x e H,Q Mo x e H→Q' Mo x e H)(x:Exit)(a:Act)(w:World)(hh:lift r K n Q x a w):lift r K n Q' x a w:=by
 obtain⟨ds,e,H,h1,h2,h3⟩:=hh;exact⟨ds,e,H,h1,h2,h _ _ _ _ h3⟩
theorem WC.skip(h:Q Mo .normal e H):WC Mo P K n .skip Q e H:=fun a w ha hw=>aaO ⟨_,e,H,ha,hw,h⟩
theorem WC.label(h:Q Mo .normal e H):WC Mo P K n (.label l) Q e H:=fun a w ha hw=>Yp ⟨_,e,H,ha,hw,h⟩
theorem WC.exit{id:Nat}(h:Q Mo (.exit id) e H):WC Mo P K n (.exit id) Q e H:=fun a w ha hw=>aau ⟨_,e,H,ha,hw,h⟩
theorem WC.goto(h:Q Mo (.goto l) e H):WC Mo P K n (.goto l) Q e H:=fun a w ha hw=>abV ⟨_,e,H,ha,hw,h⟩
theorem WC.ret(h:Q Mo .ret e H):WC Mo P K n .ret Q e H:=fun a w ha hw=>adJ ⟨_,e,H,ha,hw,h⟩
theorem WC.seq(h:WC Mo P K n x (zO (fun Mo=>WC Mo P K n y Q) Q) e H):WC Mo P K n (.seq x y) Q e H:=fun a w ha hw=>by
 refine aer (yt (h a w ha hw) ?_);rintro x a w ⟨ds,e',H',h1,h2,h3⟩;cases x
 case normal =>
  have h4:=h3 a w h1 h2;obtain⟨r,ds0⟩:=Mo;cases r<;>exact h4
 all_goals exact⟨ds,e',H',h1,h2,h3⟩
theorem WC.block{id:Nat}(h:WC Mo P K n c (U3 id Q) e H):WC Mo P K n (.block id c) Q e H:=fun a w ha hw=>by
 refine Xm (yt (h a w ha hw) ?_);rintro x a w ⟨ds,e',H',h1,h2,h3⟩;cases x with
 | exit id' =>
  simp only[U3] at h3 ⊢;by_cases hid:id'=id
  ·subst hid;simp at h3 ⊢;exact⟨ds,e',H',h1,h2,h3⟩
  ·have :beq id' id=false:=by cases hb:beq id' id with | false=>rfl | true=>exact (hid (eq_of_beq_eq_true hb)).elim
   simp only[this,cond_false] at h3;rw[if_neg hid];exact⟨ds,e',H',h1,h2,h3⟩
 | _=>exact⟨ds,e',H',h1,h2,h3⟩
theorem WC.cond(hc:sQ e c=some (.bool t))(ht:t=true→WC Mo P K n x Q e H)(hf:t=false→WC Mo P K n y Q e H) :
 WC Mo P K n (.cond c x y) Q e H:=fun a w ha hw=>aai (ha.ev hc) (fun h=>ht h a w ha hw) (fun h=>hf h a w ha hw)
theorem WC.region{id:Nat}(h:WL Mo P K n l.toArray l Q e H):WC Mo P K n (.region id l.toArray false) Q e H:=fun a w ha hw=>SX (h a w ha hw)
theorem WC.sub(hE:Sub E e)(hH:∀w,Sat K w H→Sat K w H')(h:WC Mo P K n c Q E H'):WC Mo P K n c Q e H :=
 fun a w ha hw=>h a w (ha.sub hE) (hH w hw)
theorem WC.mono(h:WC Mo P K n c Q e H)(hq:∀Mo x e H,Q Mo x e H→Q' Mo x e H):WC Mo P K n c Q' e H :=
 fun a w ha hw=>yt (h a w ha hw) fun x a w hh=>X0 hq x a w hh
theorem WL.nil(h:Q Mo .normal e H):WL Mo P K n ops [] Q e H:=fun a w ha hw=>ael ⟨_,e,H,ha,hw,h⟩
theorem WL.sub(hE:Sub E e)(hH:∀w,Sat K w H→Sat K w H')(h:WL Mo P K n ops l Q E H'):WL Mo P K n ops l Q e H :=
 fun a w ha hw=>h a w (ha.sub hE) (hH w hw)
def Round{σ:Type}(Mo:Mode)(K:World)(E:σ→Env)(M:σ→List aH)(I:σ→Prop)(μ:σ→Nat)(s:σ)(Mo':Mode)(e':Env)(H':List aH):Prop :=
 Mo'.ds=Mo.ds∧∃s',I s'∧μ s'<μ s∧Sub (E s') e'∧∀w,Sat K w H'→Sat K w (M s')
theorem WC.loop{σ:Type}(E:σ→Env)(M:σ→List aH)(I:σ→Prop)(μ:σ→Nat)(s0:σ)(h0:I s0)(hE:Sub (E s0) e)(hH:∀w,Sat K w H→Sat K w (M s0))
 (round:∀s,I s→WC Mo P K n c (zO (Round Mo K E M I μ s) Q) (E s) (M s)):WC Mo P K n (.loop c) Q e H:=by
 intro a w ha hw;refine Qk (fun m a w=>∃s,μ s=m∧I s∧eF Mo n (E s) a∧Sat K w (M s)) (μ s0) ⟨s0,rfl,h0,ha.sub hE,hH w hw⟩ ?_;rintro m a w ⟨s,rfl,hI,ha,hw⟩;refine yt (round s hI a w ha hw) ?_;rintro x a w ⟨ds,e',H',h1,h2,h3⟩;cases x
 case normal =>
  obtain⟨hm,s',k1,k2,k3,k4⟩:=h3;obtain⟨r,ds0⟩:=Mo;obtain rfl:ds=ds0:=hm;exact⟨_,k2,s',rfl,k1,h1.sub k3,k4 w h2⟩
 all_goals exact⟨ds,e',H',h1,h2,h3⟩
def aB(P:Program)(f:FuncId)(args:Array Value)(K:World)(H:List aH)(post:Value→List aH→Prop):Prop :=
 ∀ w,Sat K w H→Calls P f args w fun e w'=>∃v H',e= .returned v∧Sat K w' H'∧post v H'
theorem aB.mono(h:aB P f args K H post)(hp:∀v H',post v H'→post' v H'):aB P f args K H post' :=
 fun w hw=>(h w hw).mono fun e w' ⟨v,H',h1,h2,h3⟩=>⟨v,H',h1,h2,hp _ _ h3⟩
theorem aB.sat(h:aB P f args K H' post)(hH:∀w,Sat K w H→Sat K w H'):aB P f args K H post :=
 fun w hw=>h w (hH w hw)
def bJ(Mo:Mode)(P:Program)(K:World)(n:Nat)(fn:Func)(e:Env)(H:List aH)(v:Value):Prop :=
 ∀ a w,eF Mo n e a→Sat K w H→(results fn a.tmps).run P w= .ok v w
def aF(P:Program)(K:World)(n:Nat)(fn:Func)(post:Value→List aH→Prop):iX
 | Mo,.normal,e,H | Mo,.ret,e,H=>Mo.ds=[]∧∃v H',bJ Mo P K n fn e H v∧(∀w,Sat K w H→Sat K w H')∧post v H'
 | _,_,_,_=>False
def kV:Nat→List Value→Env
 | _,[]=>[]
 | i,v::vs=>(i,v)::kV (i+1) vs
theorem nO:∀(vs:List Value) (i t:Nat) (v:Value),look (kV i vs) t=some v→i≤t∧vs[t-i]? =some v
 | [],_,_,_,h=>by simp[kV,look] at h
 | u::vs,i,t,v,h=>by
  simp only[kV,look] at h;cases hk:beq i t with
  | true =>
   simp only[hk,cond_true,Option.some.injEq] at h;obtain rfl:=eq_of_beq_eq_true hk;simp[h]
  | false =>
   simp only[hk,cond_false] at h;obtain⟨h1,h2⟩:=nO vs (i+1) t v h;refine⟨by omega, ?_⟩;rw[show t-i=(t-(i+1))+1 by omega]
   simpa using h2
theorem aB.enter{n:Nat}(hf:P.funcs[f]? =some fn)(hb:fn.body=some c)(hn:fn.ntmps=n)(hl:ble vs.length n=true)
 (h:WC ⟨none,[]⟩ P K n c (aF P K n fn post) (kV 0 vs) H):aB P f vs.toArray K H post:=by
 intro w hw;refine calls_of_wp hf hb (wp_mono (h _ w ?_ hw) ?_)
 ·have Dp:vs.length≤n:=by simpa using hl
  refine⟨rfl,by simp[hn];omega,fun t v hv=> ?_⟩;obtain⟨_,h2⟩:=nO vs 0 t v hv;simp only[Nat.sub_zero] at h2;have ht:t<vs.length:=by
   rcases Nat.lt_or_ge t vs.length with h | h
   ·exact h
   ·simp[getElem?_eq_none h] at h2
  rw[Array.getD_eq_getD_getElem?,Array.getElem?_append_left (by simpa using ht)];simp[h2]
 ·rintro x a w ⟨ds,e',H',h1,h2,h3⟩;cases x<;>first
   | (obtain⟨k0,v,ou,k1,k2,k3⟩:=h3;exact⟨h1.defers.trans k0,v,k1 a w h1 h2,v,ou,rfl,k2 w h2,k3⟩)
   | exact h3.elim
theorem bJ.tmp{fn:Func}(hr:fn.results= #[.tmp t])(h:look e t=some v):bJ Mo P K n fn e H v:=fun a w ha _=>by
 rw[results_tmp hr];rw[ha.at_ t v h]
theorem bJ.none(hr:fn.results= #[]):bJ Mo P K n fn e H (.tuple #[]):=fun a w _ _=>results_none hr _ _ _
theorem bJ.eU{fn:Func}(hr:fn.results= #[.tmp t,.tmp u])(h:look e t=some v)(h':look e u=some v'):bJ Mo P K n fn e H (.tuple #[v,v']):=fun a w ha _=>by
 rw[results_tmp2 hr];rw[ha.at_ t v h,ha.at_ u v' h']
theorem bJ.Bl{fn:Func}(hr:fn.results= #[.tmp t,.tmp u,.tmp r])(h:look e t=some v)(h':look e u=some v')(h'':look e r=some v''):bJ Mo P K n fn e H (.tuple #[v,v',v'']):=fun a w ha _=>by
 have e1:=ha.at_ t v h;have e2:=ha.at_ u v' h';have e3:=ha.at_ r v'' h'';simp only[Array.getD_eq_getD_getElem?] at e1 e2 e3;simp[results,hr,e1,e2,e3]
theorem bJ.aev{fn:Func}(hr:fn.results= #[.tmp t,.tmp u,.tmp r,.tmp s])(h:look e t=some v)(h':look e u=some v')(h'':look e r=some v'')(h3:look e s=some v3):bJ Mo P K n fn e H (.tuple #[v,v',v'',v3]):=fun a w ha _=>by
 have e1:=ha.at_ t v h;have e2:=ha.at_ u v' h';have e3:=ha.at_ r v'' h'';have e4:=ha.at_ s v3 h3;simp only[Array.getD_eq_getD_getElem?] at e1 e2 e3 e4;simp[results,hr,e1,e2,e3,e4]
theorem aF.ret(hr:bJ ⟨r,[]⟩ P K n fn e H v)(hs:∀w,Sat K w H→Sat K w H')(hp:post v H'):aF P K n fn post ⟨r,[]⟩ .ret e H:=⟨rfl,v,H',hr,hs,hp⟩
theorem aF.normal(hr:bJ ⟨r,[]⟩ P K n fn e H v)(hs:∀w,Sat K w H→Sat K w H')(hp:post v H'):aF P K n fn post ⟨r,[]⟩ .normal e H:=⟨rfl,v,H',hr,hs,hp⟩
def cv(c:Bool)(v:Value):Value:=if c then v else undef
def GC(gv:Value)(want c:Bool):Prop:=((match gv with | .bool b=>some b | _=>none)==some want)=c
theorem GC.t:GC (.bool b) true b:=by cases b<;>rfl
theorem GC.f:GC (.bool b) false (!b):=by cases b<;>rfl
theorem GC.ct:GC (cv c (.bool b)) true (c&&b):=by cases c<;>cases b<;>rfl
theorem GC.cf:GC (cv c (.bool b)) false (c&& !b):=by cases c<;>cases b<;>rfl
def OV(c:Bool)(e:Env)(x:Operand)(v:Value):Prop:=∃u,sQ e x=some u∧(c=true→u=v)
theorem OV.p(h:sQ e x=some v):OV c e x v:=⟨v,h,fun _=>rfl⟩
theorem OV.g(h:sQ e x=some (cv c0 v))(hc:c=true→c0=true):OV c e x v:=⟨_,h,fun h'=>by simp[cv,hc h']⟩
theorem OV.ev(h:OV c e x v)(hc:c=true)(ha:eF Mo n e a):a.eval x=v:=by
 obtain⟨u,h1,h2⟩:=h;rw[ha.ev h1,h2 hc]
def eX(Mo:Mode)(P:Program)(K:World)(n:Nat)(c:Bool)(e:Env)(H:List aH)(o:Oper)(v:Value):Prop :=
 c=true→∀a w,eF Mo n e a→Sat K w H→(execOp a.eval o).run P w= .ok (.value v) w
theorem WL.val{d:Nat}(hv:eX Mo P K n true e H ⟨some d,op,ty,pos,af,none⟩ v)(hd:blt d n=true)
 (h:WL Mo P K n ops rest Q ((d,v)::e) H):WL Mo P K n ops (⟨some d,op,ty,pos,af,none⟩::rest) Q e H:=fun a w ha hw=>by
 exact kH rfl fun R hR=>zB (hv rfl a w ha hw) (hR _ _ (h _ w (ha.put d hd v) hw))
theorem Region.jv{dj:Nat}{oj:Oper}(hg:o.guard=some (j,want))(hj:ops[j]? =some oj)(EG:oj.dst=some dj)
 (hl:look e dj=some gv) (ha:eF Mo n e a) (hG:GC gv want c):Region.wanted o (yielded ops a.tmps)=c:=by
 have h1:=ha.at_ dj gv hl;simp only[Region.wanted,hg,yielded,hj,Option.bind_some,EG];rw[Array.getD_eq_getD_getElem?] at h1;cases ht:a.tmps[dj]? with
 | none =>
  simp only[ht,Option.getD_none] at h1;subst h1;rw[←hG];rfl
 | some u =>
  simp only[ht,Option.getD_some] at h1;subst h1;cases u<;>exact hG
theorem WL.bI{d dj:Nat}{oj:Oper}
 (hj:ops[j]? =some oj) (EG:oj.dst=some dj) (hl:look e dj=some gv) (hG:GC gv want c)
 (hv:eX Mo P K n c e H ⟨some d,op,ty,pos,af,some (j,want)⟩ v) (hd:blt d n=true)
 (h:WL Mo P K n ops rest Q ((d,cv c v)::e) H):WL Mo P K n ops (⟨some d,op,ty,pos,af,some (j,want)⟩::rest) Q e H:=fun a w ha hw=>by
 have GK:=Region.jv (o:=⟨some d,op,ty,pos,af,some (j,want)⟩) rfl hj EG hl ha hG;cases c with
 | false=>exact qg GK (h _ w (ha.put d hd _) hw)
 | true=>exact uP GK fun R hR=>zB (hv rfl a w ha hw) (hR _ _ (h _ w (ha.put d hd v) hw))
theorem WL.BK{Mo:Mode}{P:Program}{K:World}{n:Nat}{Q:iX}{e:Env}{H:List aH}{ops:Array Oper}{rest:List Oper}{o oj:Oper}{j dj:Nat}{want:Bool}{gv:Value}(hg:o.guard=some (j,want))
 (hj:ops[j]? =some oj) (EG:oj.dst=some dj) (hl:look e dj=some gv) (hG:GC gv want false) (hd:∀d,o.dst=some d→blt d n=true)
 (h:WL Mo P K n ops rest Q (match o.dst with | some d=>(d,undef)::e | none=>e) H):WL Mo P K n ops (o::rest) Q e H:=fun a w ha hw=>by
 refine qg (Region.jv hg hj EG hl ha hG) ?_;cases ZB:o.dst with
 | none=>rw[ZB] at h;exact h a w ha hw
 | some d=>rw[ZB] at h;exact h _ w (ha.put d (hd d ZB) _) hw
abbrev ptr(b o:Nat):Value:= .pointer (some ⟨b,o,none⟩)
theorem jM(b o k:Nat):(⟨b,o,none⟩:Addr).add k=⟨b,o+k,none⟩:=by unfold Addr.add;split<;>simp_all
theorem V.move(hx:OV c e x v):eX Mo P K n c e H ⟨dst,.move x,ty,pos,af,gd⟩ v:=fun hc a w ha _=>by
 show Result.ok (Next.value (a.eval x)) w=_;rw[hx.ev hc ha]
theorem V.assign(hx:OV c e x v):eX Mo P K n c e H ⟨dst,.assign x,ty,pos,af,gd⟩ v:=fun hc a w ha _=>by
 show Result.ok (Next.value (a.eval x)) w=_;rw[hx.ev hc ha]
theorem I8{a:Act}(h:a.eval q= .bool g):(execOp a.eval ⟨dst,.pick q x y,ty,pos,af,gd⟩).run P w= .ok (.value (if g then a.eval x else a.eval y)) w:=by
 show ((do pure (Next.value (if ←asBool (a.eval q) then a.eval x else a.eval y))):Sem Next).run P w=_;rw[h];rfl
theorem V.aas(hq:OV c e q (.bool true))(hx:OV c e x v):eX Mo P K n c e H ⟨dst,.pick q x y,ty,pos,af,gd⟩ v:=fun hc a w ha _=>by
 rw[I8 (hq.ev hc ha),hx.ev hc ha];rfl
theorem V.Ci(hq:OV c e q (.bool g))(hx:OV (c&&g) e x (.bool p)):eX Mo P K n c e H ⟨dst,.pick q x (.const (.bool false)),ty,pos,af,gd⟩ (.bool (g&&p)):=fun hc a w ha _=>by
 rw[I8 (hq.ev hc ha)];subst hc;cases g with
 | true=>rw[hx.ev rfl ha];rfl
 | false=>rfl
theorem V.DY(hq:OV c e q (.bool g))(hy:OV (c&& !g) e y (.bool p)):eX Mo P K n c e H ⟨dst,.pick q (.const (.bool true)) y,ty,pos,af,gd⟩ (.bool (g||p)):=fun hc a w ha _=>by
 rw[I8 (hq.ev hc ha)];subst hc;cases g with
 | false=>rw[hy.ev rfl ha];rfl
 | true=>rfl
theorem rX{a:Act}(hx:a.eval x=u)(hy:a.eval y=v)(hg:(eqGuard op t x y u v).run P w= .ok () w)(hr:(binOp op t u v).run P w= .ok r w) :
 (execOp a.eval ⟨dst,.binOp op t x y t',ty,pos,af,gd⟩).run P w= .ok (.value r) w:=by
 show (((eqGuard op t x y (a.eval x) (a.eval y) >>= fun _=>binOp op t (a.eval x) (a.eval y)) >>= fun r=>pure (Next.value r)):Sem Next).run P w=_;rw[hx,hy];simp only[Sem.run_bind,hg,hr,Result.andThen_ok,Sem.run_pure]
theorem OM:(eqGuard op t x y (.int k i) (.int k' j)).run P w= .ok () w:=by
 unfold eqGuard;cases op<;>rfl
theorem xg:(eqGuard op t x y (.string i) (.string j)).run P w= .ok () w:=by
 unfold eqGuard;cases op<;>rfl
theorem Fz:(eqGuard op t x y (.pointer i) (.pointer j)).run P w= .ok () w:=by
 unfold eqGuard;cases op<;>rfl
section ints
theorem V.xJ(hx:OV c e x (.int k i))(hy:OV c e y (.int k' j))(hr:∀w,(binOp op t (.int k i) (.int k' j)).run P w= .ok r w):eX Mo P K n c e H ⟨dst,.binOp op t x y t',ty,pos,af,gd⟩ r :=
 fun hc a w ha _=>rX (hx.ev hc ha) (hy.ev hc ha) OM (hr w)
theorem V.lss(hx:OV c e x (.int k i))(hy:OV c e y (.int k j)):eX Mo P K n c e H ⟨dst,.binOp .lss t x y t',ty,pos,af,gd⟩ (.bool (decide (i<j))):=V.xJ hx hy fun w=>by simp[binOp,Op.intCmp]
theorem V.leq(hx:OV c e x (.int k i))(hy:OV c e y (.int k j)):eX Mo P K n c e H ⟨dst,.binOp .leq t x y t',ty,pos,af,gd⟩ (.bool (decide (i≤j))):=V.xJ hx hy fun w=>by simp[binOp,Op.intCmp]
theorem V.gtr(hx:OV c e x (.int k i))(hy:OV c e y (.int k j)):eX Mo P K n c e H ⟨dst,.binOp .gtr t x y t',ty,pos,af,gd⟩ (.bool (decide (j<i))):=V.xJ hx hy fun w=>by simp[binOp,Op.intCmp]
theorem V.geq(hx:OV c e x (.int k i))(hy:OV c e y (.int k j)):eX Mo P K n c e H ⟨dst,.binOp .geq t x y t',ty,pos,af,gd⟩ (.bool (decide (j≤i))):=V.xJ hx hy fun w=>by simp[binOp,Op.intCmp]
theorem V.eql(hx:OV c e x (.int k i))(hy:OV c e y (.int k j)):eX Mo P K n c e H ⟨dst,.binOp .eql t x y t',ty,pos,af,gd⟩ (.bool (decide (i=j))):=V.xJ hx hy fun w=>by
 simp[binOp,Op.intCmp];rw[Bool.eq_iff_iff];simp
theorem V.neq(hx:OV c e x (.int k i))(hy:OV c e y (.int k j)):eX Mo P K n c e H ⟨dst,.binOp .neq t x y t',ty,pos,af,gd⟩ (.bool (!decide (i=j))):=V.xJ hx hy fun w=>by
 simp[binOp,Op.intCmp];rw[Bool.eq_iff_iff];simp
theorem V.add(hx:OV c e x (.int k i))(hy:OV c e y (.int k j)):eX Mo P K n c e H ⟨dst,.binOp .add t x y t',ty,pos,af,gd⟩ (.int k (k.wrap (i+j))):=V.xJ hx hy fun w=>by simp[binOp,Op.intArith]
theorem V.sub(hx:OV c e x (.int k i))(hy:OV c e y (.int k j)):eX Mo P K n c e H ⟨dst,.binOp .sub t x y t',ty,pos,af,gd⟩ (.int k (k.wrap (i-j))):=V.xJ hx hy fun w=>by simp[binOp,Op.intArith]
theorem V.mul(hx:OV c e x (.int k i))(hy:OV c e y (.int k j)):eX Mo P K n c e H ⟨dst,.binOp .mul t x y t',ty,pos,af,gd⟩ (.int k (k.wrap (i*j))):=V.xJ hx hy fun w=>by simp[binOp,Op.intArith]
theorem wrap_i64(h: -9223372036854775808≤i∧i≤9223372036854775807):IntKind.i64.wrap i=i:=IntWalk.i64_in i h
theorem V.aG(h:eX Mo P K n c e H o v)(he:c=true→v=v'):eX Mo P K n c e H o v':=fun hc=>by rw[←he hc];exact h hc
theorem V.CX(hx:OV c e x (.i i))(hy:OV c e y (.i j))(h:c=true→ -9223372036854775808≤i+j∧i+j≤9223372036854775807):eX Mo P K n c e H ⟨dst,.binOp .add t x y t',ty,pos,af,gd⟩ (.i (i+j)):=V.aG (V.add hx hy) fun hc=>by rw[wrap_i64 (h hc)]
theorem V.Eo(hx:OV c e x (.i i))(hy:OV c e y (.i j))(h:c=true→ -9223372036854775808≤i-j∧i-j≤9223372036854775807):eX Mo P K n c e H ⟨dst,.binOp .sub t x y t',ty,pos,af,gd⟩ (.i (i-j)):=V.aG (V.sub hx hy) fun hc=>by rw[wrap_i64 (h hc)]
theorem V.MK(hx:OV c e x (.i i))(hy:OV c e y (.i j))(h:c=true→ -9223372036854775808≤i*j∧i*j≤9223372036854775807):eX Mo P K n c e H ⟨dst,.binOp .mul t x y t',ty,pos,af,gd⟩ (.i (i*j)):=V.aG (V.mul hx hy) fun hc=>by rw[wrap_i64 (h hc)]
theorem V.quo(hx:OV c e x (.int k i))(hy:OV c e y (.int k j))(h:j≠0):eX Mo P K n c e H ⟨dst,.binOp .quo t x y t',ty,pos,af,gd⟩ (.int k (k.wrap (i.tdiv j))):=V.xJ hx hy fun w=>by simp[binOp,Op.intDiv,h]
theorem V.rem(hx:OV c e x (.int k i))(hy:OV c e y (.int k j))(h:j≠0):eX Mo P K n c e H ⟨dst,.binOp .rem t x y t',ty,pos,af,gd⟩ (.int k (i.tmod j)):=V.xJ hx hy fun w=>by simp[binOp,Op.intDiv,h]
theorem V.aeC(hx:OV c e x (.i i))(hy:OV c e y (.i j))(h:c=true→0≤i∧i≤9223372036854775807∧0<j):eX Mo P K n c e H ⟨dst,.binOp .quo t x y t',ty,pos,af,gd⟩ (.i (i/j)):=fun hc=>by
 obtain⟨h1,h2,h3⟩:=h hc;refine V.aG (V.quo hx hy (by omega)) (fun _=> ?_) hc;rw[Int.tdiv_eq_ediv_of_nonneg h1,wrap_i64 ⟨by have :=Int.ediv_nonneg h1 (Int.le_of_lt h3);omega,by have :=Int.ediv_le_self j h1;omega⟩]
theorem V.Av(hx:OV c e x (.i i))(hy:OV c e y (.i j))(h:c=true→0≤i∧0<j):eX Mo P K n c e H ⟨dst,.binOp .rem t x y t',ty,pos,af,gd⟩ (.i (i%j)):=fun hc=>by
 obtain⟨h1,h3⟩:=h hc;refine V.aG (V.rem hx hy (by omega)) (fun _=> ?_) hc;rw[Int.tmod_eq_emod_of_nonneg h1]
def bitsOf(op:BinOp)(k:IntKind)(i j:Int):Int :=
 let a:=BitVec.ofInt k.bits i
 let b:=BitVec.ofInt k.bits j
 k.wrap (match op with | .and=>(a &&& b) | .or=>(a ||| b) | .xor=>(a ^^^ b) | _=>(a &&& ~~~b)).toNat
theorem V.and(hx:OV c e x (.int k i))(hy:OV c e y (.int k j)):eX Mo P K n c e H ⟨dst,.binOp .and t x y t',ty,pos,af,gd⟩ (.int k (bitsOf .and k i j)):=V.xJ hx hy fun w=>by simp[binOp,Op.intBits,bitsOf]
theorem V.or(hx:OV c e x (.int k i))(hy:OV c e y (.int k j)):eX Mo P K n c e H ⟨dst,.binOp .or t x y t',ty,pos,af,gd⟩ (.int k (bitsOf .or k i j)):=V.xJ hx hy fun w=>by simp[binOp,Op.intBits,bitsOf]
theorem V.xor(hx:OV c e x (.int k i))(hy:OV c e y (.int k j)):eX Mo P K n c e H ⟨dst,.binOp .xor t x y t',ty,pos,af,gd⟩ (.int k (bitsOf .xor k i j)):=V.xJ hx hy fun w=>by simp[binOp,Op.intBits,bitsOf]
theorem V.andNot(hx:OV c e x (.int k i))(hy:OV c e y (.int k j)):eX Mo P K n c e H ⟨dst,.binOp .andNot t x y t',ty,pos,af,gd⟩ (.int k (bitsOf .andNot k i j)):=V.xJ hx hy fun w=>by simp[binOp,Op.intBits,bitsOf]
theorem V.shl(hx:OV c e x (.int k i))(hy:OV c e y (.int k' j))(h:0≤j):eX Mo P K n c e H ⟨dst,.binOp .shl t x y t',ty,pos,af,gd⟩ (.int k (k.wrap (i*2^(min j.toNat k.bits)))):=V.xJ hx hy fun w=>by
 simp[binOp,Op.shift,Int.not_lt.2 h]
theorem V.shr(hx:OV c e x (.int k i))(hy:OV c e y (.int k' j))(h:0≤j):eX Mo P K n c e H ⟨dst,.binOp .shr t x y t',ty,pos,af,gd⟩ (.int k (i.fdiv (2^(min j.toNat k.bits)))):=V.xJ hx hy fun w=>by
 simp[binOp,Op.shift,Int.not_lt.2 h]
end ints
theorem V.ajB(hx:OV c e x (.string i))(hy:OV c e y (.string j)):eX Mo P K n c e H ⟨dst,.binOp .eql t x y t',ty,pos,af,gd⟩ (.bool (i.toList==j.toList)) :=
 fun hc a w ha _=>rX (hx.ev hc ha) (hy.ev hc ha) xg (by simp[binOp,Op.stringOp])
theorem V.agA(hx:OV c e x (.string i))(hy:OV c e y (.string j)):eX Mo P K n c e H ⟨dst,.binOp .neq t x y t',ty,pos,af,gd⟩ (.bool (!(i.toList==j.toList))) :=
 fun hc a w ha _=>rX (hx.ev hc ha) (hy.ev hc ha) xg (by simp[binOp,Op.stringOp])
theorem V.akw(ht:P.underlying t=some (.pointer (P.pointee t)))(hx:OV c e x (.pointer i))(hy:OV c e y (.pointer none)):eX Mo P K n c e H ⟨dst,.binOp .eql t x y t',ty,pos,af,gd⟩ (.bool i.isNone) :=
 fun hc a w ha _=>rX (hx.ev hc ha) (hy.ev hc ha) Fz (by
  have h1:(binOp .eql t (.pointer i) (.pointer none))=((Op.equal t (.pointer i) (.pointer none) >>= fun r=>pure (Value.bool r)):Sem Value):=by cases i<;>rfl
  rw[h1];simp only[Sem.run_bind,run_equal_pointer_nil w t i ht,Result.andThen_ok,Sem.run_pure])
theorem V.anq(ht:P.underlying t=some (.pointer (P.pointee t)))(hx:OV c e x (.pointer i))(hy:OV c e y (.pointer none)):eX Mo P K n c e H ⟨dst,.binOp .neq t x y t',ty,pos,af,gd⟩ (.bool (!i.isNone)) :=
 fun hc a w ha _=>rX (hx.ev hc ha) (hy.ev hc ha) Fz (by
  have h1:(binOp .neq t (.pointer i) (.pointer none))=((Op.equal t (.pointer i) (.pointer none) >>= fun r=>pure (Value.bool (!r))):Sem Value):=by cases i<;>rfl
  rw[h1];simp only[Sem.run_bind,run_equal_pointer_nil w t i ht,Result.andThen_ok,Sem.run_pure])
theorem V.not(hx:OV c e x (.bool g)):eX Mo P K n c e H ⟨dst,.unOp .not t x,ty,pos,af,gd⟩ (.bool (!g)):=fun hc a w ha _=>by
 show ((do pure (Next.value (←Op.unary .not (a.eval x)))):Sem Next).run P w=_;rw[hx.ev hc ha];rfl
theorem V.extract{vs:List Value}(hx:OV c e x (.tuple vs.toArray))(hv:vs[i]? =some v):eX Mo P K n c e H ⟨dst,.extract x i,ty,pos,af,gd⟩ v:=fun hc a w ha _=>by
 show ((do pure (Next.value (←Instr.extract (a.eval x) i))):Sem Next).run P w=_;rw[hx.ev hc ha];simp[Instr.extract,hv]
theorem V.FC(hs:∀w,(underlying s).run P w= .ok ds w)(ht:∀w,(underlying t).run P w= .ok (.int k') w)(hx:OV c e x (.int k i)) :
 eX Mo P K n c e H ⟨dst,.convert s t x,ty,pos,af,gd⟩ (.int k' (k'.wrap i)):=fun hc a w ha _=>by
 show ((do pure (Next.value (←convert s t (a.eval x)))):Sem Next).run P w=_;rw[hx.ev hc ha];simp only[convert,Sem.run_bind,hs,ht,Result.andThen_ok];cases ds<;>rfl
theorem V.uy(hs:∀w,(underlying s).run P w= .ok ds w)(ht:∀w,(underlying t).run P w= .ok (.int k') w)(hx:OV c e x (.int k i))(hi:c=true→k'.wrap i=i) :
 eX Mo P K n c e H ⟨dst,.convert s t x,ty,pos,af,gd⟩ (.int k' i):=V.aG (V.FC hs ht hx) fun hc=>by rw[hi hc]
def jC(P:Program)(S f off:Nat):Prop:=∀(a:Addr) (w:World),(Instr.fieldAt S (.pointer (some a)) f).run P w= .ok (.pointer (some (a.add off))) w
theorem V.fieldAddr(hF:jC P S f off)(hx:OV c e x (ptr b o)):eX Mo P K n c e H ⟨dst,.fieldAddr S x f,ty,pos,af,gd⟩ (ptr b (o+off)):=fun hc a w ha _=>by
 show ((do pure (Next.value (←Instr.fieldAt S (a.eval x) f))):Sem Next).run P w=_;rw[hx.ev hc ha,Sem.run_bind,hF,jM];rfl
theorem V.nilCheck(hx:OV c e x (.pointer (some p))):eX Mo P K n c e H ⟨dst,.nilCheck x,ty,pos,af,gd⟩ (.pointer (some p)):=fun hc a w ha _=>by
 show (match a.eval x with
  | .pointer none | .nilIface | .nilFunc=>runtimePanic .nilDeref
  | .func (.method name) first captured=>_
  | x=>pure (.value x):Sem Next).run P w=_
 rw[hx.ev hc ha];rfl
def ah(b T:Nat)(cs:List Value):aH where
 jA x:=x=b
 holds w:=w.heap[b]? =some (.cells cs.toArray T (0,0))
 loc w w' h hw:=by rw[h b rfl];exact hw
def Old(K:World):aH where
 jA x:=x<K.heap.size
 holds w:=∀b,b<K.heap.size→w.heap[b]? =K.heap[b]?
 loc w w' h hw b hb:=(h b hb).trans (hw b hb)
theorem Sat.YZ(K:World):Sat K K [Old K]:=⟨⟨rfl,rfl,rfl,Nat.le_refl _⟩,fun _ _=>rfl,fun _ hb=>hb,fun _ _ _ hB=>by simp at hB,trivial⟩
theorem Sat.below(h:Sat K w (Old K::H)):Below K.heap.size K w:=⟨h.1.os,h.1.tape,h.1.output,h.1.size,h.head⟩
def Rd(K:World)(H:List aH)(p:Option Addr)(v:Value):Prop:=∀w,Sat K w H→∃a,p=some a∧w.cell? a=some v
theorem Rd.up{K:World}{H:List aH}{A:aH}{p:Option Addr}{v:Value}(h:Rd K H p v):Rd K (A::H) p v:=fun w hw=>h w hw.tail
theorem Rd.here(h:cs[o]? =some v):Rd K (ah b T cs::H) (some ⟨b,o,none⟩) v:=fun w hw=>by
 refine⟨_,rfl, ?_⟩;have :=hw.head;simp only[ah] at this;simp[World.cell?,this,h]
def fH(K:World)(H:List aH)(b o:Nat)(vs:List Value):Prop:=∀i v,vs[i]? =some v→Rd K H (some ⟨b,o+i,none⟩) v
theorem fH.up{K:World}{H:List aH}{A:aH}{b o:Nat}{vs:List Value}(h:fH K H b o vs):fH K (A::H) b o vs:=fun i v hi=>(h i v hi).up
theorem fH.here(h:vs <+: cs.drop o):fH K (ah b T cs::H) b o vs:=fun i v hi=>by
 refine Rd.here ?_;obtain⟨t,ht⟩:=h;have :=getElem?_drop (xs:=cs) (i:=o) (j:=i);rw[←this,←ht,getElem?_append_left (by
  rcases Nat.lt_or_ge i vs.length with h | h
  ·exact h
  ·simp[getElem?_eq_none h] at hi),hi]
theorem fH.all:fH K (ah b T cs::H) b 0 cs:=fH.here (by simp)
def M9(P:Program)(T:Nat):Prop:=∀w,(isAgg T).run P w= .ok false w
def Ur(P:Program)(T s:Nat):Prop:=(∀w,(isAgg T).run P w= .ok true w)∧∀w,(sizeOf T).run P w= .ok s w
theorem V.load(hT:M9 P T)(hx:OV c e x (.pointer p))(hr:c=true→Rd K H p v):eX Mo P K n c e H ⟨dst,.load T x,ty,pos,af,gd⟩ v:=fun hc a w ha hw=>by
 show ((do pure (Next.value (←Instr.loadAt T (a.eval x)))):Sem Next).run P w=_;obtain⟨p',rfl,h2⟩:=hr hc w hw;rw[hx.ev hc ha];simp[Instr.loadAt,Instr.sureAddr,loadVar,hT w,h2]
theorem V.fE(hT:Ur P T s)(hx:OV c e x (ptr b o))(hs:vs.length=s)(hr:c=true→fH K H b o vs):eX Mo P K n c e H ⟨dst,.load T x,ty,pos,af,gd⟩ (.agg vs.toArray):=fun hc a w ha hw=>by
 show ((do pure (Next.value (←Instr.loadAt T (a.eval x)))):Sem Next).run P w=_;rw[hx.ev hc ha];have h1:=run_loadCells_list (P:=P) w ⟨b,o,none⟩ vs (fun j v hj=>by
  obtain⟨a',h1,h2⟩:=hr hc j v hj w hw;injection h1 with h1;subst h1;rwa [jM])
 subst hs;simp[Instr.loadAt,Instr.sureAddr,loadVar,hT.1 w,hT.2 w,h1]
theorem WL.RQ{d:Nat}{R:Value→List aH→Prop}
 (hv:∀a w,eF Mo n e a→Sat K w H→∃v w' H',(execOp a.eval ⟨some d,op,ty,pos,af,none⟩).run P w= .ok (.value v) w'∧Sat K w' H'∧R v H') (hd:blt d n=true)
 (h:∀v H',R v H'→WL Mo P K n ops rest Q ((d,v)::e) H'):WL Mo P K n ops (⟨some d,op,ty,pos,af,none⟩::rest) Q e H:=fun a w ha hw=>by
 obtain⟨v,w',H',h1,h2,h3⟩:=hv a w ha hw;exact kH rfl fun S hS=>zB h1 (hS _ _ (h v H' h3 _ w' (ha.put d hd v) h2))
theorem WL.aeo{R:List aH→Prop}
 (hv:∀a w,eF Mo n e a→Sat K w H→∃w' H',(((execOp a.eval ⟨none,op,ty,pos,af,none⟩).run P w= .ok .skip w')∨∃v,(execOp a.eval ⟨none,op,ty,pos,af,none⟩).run P w= .ok (.value v) w')∧Sat K w' H'∧R H')
 (h:∀H',R H'→WL Mo P K n ops rest Q e H'):WL Mo P K n ops (⟨none,op,ty,pos,af,none⟩::rest) Q e H:=fun a w ha hw=>by
 obtain⟨w',H',h1,h2,h3⟩:=hv a w ha hw;refine kH rfl fun S hS=> ?_;rcases h1 with h1 | ⟨v,h1⟩
 ·exact aaC h1 (hS _ _ (h H' h3 _ w' (ha.none _) h2))
 ·exact zB h1 (hS _ _ (h H' h3 _ w' (ha.none _) h2))
theorem Sat.alloc(hw:Sat K w H)(T:Nat)(cs:List Value):Sat K (w.alloc (.cells cs.toArray T)) (ah w.heap.size T cs::H):=by
 refine⟨hw.1.grow rfl rfl rfl (by simp),hw.2.push (by simp) (fun b hb=> ?_) ?_ (fun b hb=> ?_)⟩
 ·exact Below.heap_alloc _ _ _ hb
 ·exact heap_alloc_new w _
 ·simp only[ah] at hb;subst hb;simp
theorem WL.box(hx:OV true e x v)(hc:v.cells.toList=cs)(hd:blt d n=true)
 (h:∀b,WL Mo P K n ops rest Q ((d,ptr b 0)::e) (ah b T cs::H)):WL Mo P K n ops (⟨some d,.box T x,ty,pos,af,none⟩::rest) Q e H:=by
 refine WL.RQ (R:=fun v H'=>∃b,v=ptr b 0∧H'=ah b T cs::H) (fun a w ha hw=> ?_) hd (fun v H' ⟨b,e1,e2⟩=>by subst e1 e2;exact h b);refine⟨ptr w.heap.size 0,w.alloc (.cells cs.toArray T),_, ?_,hw.alloc T cs,_,rfl,rfl⟩;show ((do pure (Next.value (←Instr.box T (a.eval x)))):Sem Next).run P w=_;rw[hx.ev rfl ha,←hc];simp[Instr.box,newVar,newRow]
theorem WL.alloc{e:Env}{T:Nat}(hz:∀w,(zeroValue T).run P w= .ok z w)(hc:z.cells.toList=cs)(hd:blt d n=true)
 (h:∀b,WL Mo P K n ops rest Q ((d,ptr b 0)::e) (ah b T cs::H)):WL Mo P K n ops (⟨some d,.alloc T,ty,pos,af,none⟩::rest) Q e H:=by
 refine WL.RQ (R:=fun v H'=>∃b,v=ptr b 0∧H'=ah b T cs::H) (fun a w ha hw=> ?_) hd (fun v H' ⟨b,e1,e2⟩=>by subst e1 e2;exact h b);refine⟨ptr w.heap.size 0,w.alloc (.cells cs.toArray T),_, ?_,hw.alloc T cs,_,rfl,rfl⟩;show ((do pure (Next.value (←Instr.alloc T true (.tuple #[])))):Sem Next).run P w=_;simp[Instr.alloc,newVar,newRow,hz w,←hc]
def oU(cs:List Value)(o:Nat):List Value→List Value
 | []=>cs
 | v::vs=>oU (cs.set o v) (o+1) vs
theorem Fu:∀(vs:List Value) (cs:List Value) (o:Nat),(oU cs o vs).length=cs.length
 | [],_,_=>rfl
 | v::vs,cs,o=>by rw[oU,Fu vs];simp
theorem kL(b k:Nat)(hk:k≠b):∀(vs:List Value) (o:Nat) (w:World),(w.setCells b o vs).heap[k]? =w.heap[k]?
 | [],_,_=>rfl
 | v::vs,o,w=>by rw[World.setCells,kL b k hk vs];exact Below.heap_setCell w _ v k hk
theorem sU(b:Nat)(T:TypeId)(fr:Nat×Nat):∀(vs:List Value) (o:Nat) (w:World) (cs:List Value),w.heap[b]? =some (.cells cs.toArray T fr)→(w.setCells b o vs).heap[b]? =some (.cells (oU cs o vs).toArray T fr)
 | [],_,_,_,h=>h
 | v::vs,o,w,cs,h=>by
  rw[World.setCells,oU];refine sU b T fr vs (o+1) _ _ ?_;simp[World.setCell,Array.getElem?_modify,h]
theorem lC(b:Nat):∀(vs:List Value) (o:Nat) (w:World),(w.setCells b o vs).os=w.os∧(w.setCells b o vs).tape=w.tape∧(w.setCells b o vs).output=w.output∧(w.setCells b o vs).heap.size=w.heap.size
 | [],_,_=>⟨rfl,rfl,rfl,rfl⟩
 | v::vs,o,w=>by
  rw[World.setCells];obtain⟨h1,h2,h3,h4⟩:=lC b vs (o+1) (w.setCell ⟨b,o,none⟩ v);exact⟨h1,h2,h3,by rw[h4];simp⟩
structure bT(K:World)(H:List aH)(b o:Nat)(vs:List Value)(H':List aH):Prop where
 agY:∀B'∈H',∀k,B'.jA k→∃B∈H,B.jA k
 own:∃B∈H,B.jA b
 may:∀w,bO w H→∀i,i<vs.length→(w.cell? ⟨b,o+i,none⟩).isSome=true∧w.frozen? ⟨b,o+i,none⟩=false
 sat:∀w,bO w H→bO (w.setCells b o vs) H'
theorem bT.here(ho:ble (o+vs.length) cs.length=true)(hc:oU cs o vs=cs'):bT K (ah b T cs::H) b o vs (ah b T cs'::H):=by
 have GN:o+vs.length≤cs.length:=by simpa using ho
 refine⟨fun B' Y7 k hk=> ?_,⟨_,.head _,rfl⟩,fun w hw i hi=> ?_,fun w hw=> ?_⟩
 ·rcases mem_cons.1 Y7 with rfl | h
  ·exact⟨_,.head _,hk⟩
  ·exact⟨_,.tail _ h,hk⟩
 ·have hb:=hw.1;simp only[ah] at hb;exact⟨by simp[World.cell?,hb];omega,by simp[World.frozen?,hb]⟩
 ·have hb:=hw.1;simp only[ah] at hb;obtain⟨_,_,_,h4⟩:=lC b vs o w;refine hw.set (Nat.le_of_eq h4.symm) (fun k Gg _=>kL b k Gg vs o w) ?_ (fun k Gg=> .inl Gg);simp only[ah];rw[sU b T (0,0) vs o w cs hb,←hc]
theorem bT.up{K:World}{H:List aH}{A:aH}{b o:Nat}{vs:List Value}{H':List aH}(h:bT K H b o vs H'):bT K (A::H) b o vs (A::H'):=by
 obtain⟨B,hB,hBb⟩:=h.own;refine⟨fun B' Y7 k hk=> ?_,⟨B,.tail _ hB,hBb⟩,fun w hw=>h.may w hw.tail,fun w hw=> ?_⟩
 ·rcases mem_cons.1 Y7 with rfl | h'
  ·exact⟨_,.head _,hk⟩
  ·obtain⟨B2,h2,h3⟩:=h.agY B' h' k hk;exact⟨B2,.tail _ h2,h3⟩
 ·have pq:¬A.jA b:=fun ha=>hw.2.2.1 b ha B hB hBb;obtain⟨_,_,_,h4⟩:=lC b vs o w;refine⟨A.loc w _ (fun k Gg=>kL b k (fun e=>pq (e ▸ Gg)) vs o w) hw.1,fun k Gg=>by rw[h4];exact hw.2.1 k Gg,fun k Gg B' Y7 wE=> ?_,h.sat w hw.tail⟩;obtain⟨B2,hB2,oH⟩:=h.agY B' Y7 k wE;exact hw.2.2.1 k Gg B2 hB2 oH
theorem bT.run(h:bT K H b o vs H')(hw:Sat K w H)(h1:∀v∈vs,v.oneCell'=true) :
 (storeCells ⟨b,o,none⟩ vs).run P w= .ok () (w.setCells b o vs)∧Sat K (w.setCells b o vs) H':=by
 have hm:=h.may w hw.2;obtain⟨e1,e2,e3,e4⟩:=lC b vs o w;refine⟨?_,hw.1.grow e1 e2 e3 (Nat.le_of_eq e4.symm),h.sat w hw.2⟩;have :=run_storeCells_cells (P:=P) b o vs 0 w (fun j hj=>by simpa using (hm j hj).1) (fun j hj=>by simpa using (hm j hj).2) h1
 simpa using this
theorem WL.store{T:Nat}(hT:∀w,(sizeOf T).run P w= .ok s w)(hx:OV true e x (ptr b o))(hy:OV true e y v)(hc:v.cells.toList=cs)
 (hs:cs.length=s) (h1:cs.all (·.oneCell')=true) (hu:bT K H b o cs H') (h:WL Mo P K n ops rest Q e H'):WL Mo P K n ops (⟨none,.store T x y,ty,pos,af,none⟩::rest) Q e H:=by
 refine WL.aeo (R:=fun ou=>ou=H') (fun a w ha hw=> ?_) (fun ou e1=>by subst e1;exact h);obtain⟨k1,k2⟩:=hu.run (P:=P) hw (fun v hv=>by simpa using all_eq_true.1 h1 v hv);refine⟨_,H',.inl ?_,k2,rfl⟩;show ((do Instr.storeAt T (a.eval x) (a.eval y);pure Next.skip):Sem Next).run P w=_;rw[hx.ev rfl ha,hy.ev rfl ha];subst hc hs;simp[Instr.storeAt,Instr.sureAddr,storeVar,hT w,k1]
def Ga(c:Bool)(e:Env):List Operand→List Value→Prop
 | [],[]=>True
 | x::xs,v::vs=>OV c e x v∧Ga c e xs vs
 | _,_=>False
theorem Ga.ev(ha:eF Mo n e a)(hc:c=true):∀ {xs:List Operand} {vs:List Value},Ga c e xs vs→xs.map a.eval=vs
 | [],[],_=>rfl
 | x::xs,v::vs,h=>by rw[map_cons,h.1.ev hc ha,Ga.ev ha hc h.2]
def bP(P:Program)(f:FuncId):Prop:=∀args w,(callFunc f args).run P w= .ok (.enter f args) w
theorem xS{xs:List Operand}{a:Act}(hf:bP P f)(gL:xs.map a.eval=vs) :
 (execOp a.eval ⟨dst,.call ⟨.value (.func f),xs.toArray,ats⟩,ty,pos,af,gd⟩).run P w= .ok (.enter f vs.toArray) w:=by
 rw[execOp_call_go,hf];simp[gL]
theorem tO{xs:List Operand}{a:Act}(hf:bP P f)(hy:a.eval y= .func (.func f) first.toArray captured.toArray)(gL:xs.map a.eval=vs) :
 (execOp a.eval ⟨dst,.call ⟨.value y,xs.toArray,ats⟩,ty,pos,af,gd⟩).run P w= .ok (.enter f (first++vs++captured).toArray) w:=by
 show ((do let d ←resolve a.eval ⟨.value y,xs.toArray,ats⟩ ty;invoke d.target d.args):Sem Next).run P w=_;have h1:resolve a.eval ⟨.value y,xs.toArray,ats⟩ ty=pure { target:= .fn (.func f) captured.toArray,args:=first.toArray++vs.toArray }:=by
  simp only[resolve,hy,map_toArray,gL];rfl
 rw[h1];show (callFunc f (first.toArray++vs.toArray++captured.toArray)).run P w=_;rw[hf];simp
theorem WL.aeX{d:Nat}{vs:List Value}(hr:∀a w,eF Mo n e a→(execOp a.eval ⟨some d,op,ty,pos,af,none⟩).run P w= .ok (.enter f vs.toArray) w)
 (hF:aB P f vs.toArray K H post) (hd:blt d n=true) (h:∀v H',post v H'→WL Mo P K n ops rest Q ((d,v)::e) H'):WL Mo P K n ops (⟨some d,op,ty,pos,af,none⟩::rest) Q e H:=fun a w ha hw=>by
 refine kH rfl fun S hS=>DX (hr a w ha) ((hF w hw).mono ?_);rintro _ w' ⟨v,H',rfl,h2,h3⟩;exact⟨v,rfl,hS _ _ (h v H' h3 _ w' (ha.put d hd v) h2)⟩
theorem WL.call(hf:bP P f)(gL:Ga true e xs vs)
 (hF:aB P f vs.toArray K H post) (hd:blt d n=true) (h:∀v H',post v H'→WL Mo P K n ops rest Q ((d,v)::e) H'):WL Mo P K n ops (⟨some d,.call ⟨.value (.func f),xs.toArray,ats⟩,ty,pos,af,none⟩::rest) Q e H :=
 WL.aeX (fun a w ha=>xS hf (gL.ev ha rfl)) hF hd h
theorem WL.ny(hf:bP P f)(hy:OV true e y (.func (.func f) first.toArray captured.toArray))(gL:Ga true e xs vs)
 (hF:aB P f (first++vs++captured).toArray K H post) (hd:blt d n=true) (h:∀v H',post v H'→WL Mo P K n ops rest Q ((d,v)::e) H'):WL Mo P K n ops (⟨some d,.call ⟨.value y,xs.toArray,ats⟩,ty,pos,af,none⟩::rest) Q e H :=
 WL.aeX (fun a w ha=>tO hf (hy.ev rfl ha) (gL.ev ha rfl)) hF hd h
def aK(P:Program)(f:FuncId)(args:Array Value)(K:World)(H:List aH)(v:Value):Prop:=aB P f args K H fun v' H'=>v'=v∧H'=H
theorem aK.eq(h:aK P f args K H v)(e:v=v'):aK P f args K H v':=e ▸ h
theorem aK.call(h:aK P f args K H v)(hw:Sat K w H):Calls P f args w fun e w'=>e= .returned v∧Sat K w' H :=
 (h w hw).mono fun e w' ⟨v',H',h1,h2,h3,h4⟩=>by subst h3 h4;exact⟨h1,h2⟩
theorem WL.nL{dj:Nat}{oj:Oper}
 (hj:ops[j]? =some oj) (EG:oj.dst=some dj) (hl:look e dj=some gv) (hG:GC gv want c) (hf:bP P f) (gL:Ga c e xs vs) (hF:c=true→aK P f vs.toArray K H v) (hd:blt d n=true)
 (h:WL Mo P K n ops rest Q ((d,cv c v)::e) H):WL Mo P K n ops (⟨some d,.call ⟨.value (.func f),xs.toArray,ats⟩,ty,pos,af,some (j,want)⟩::rest) Q e H:=fun a w ha hw=>by
 have GK:=Region.jv (o:=⟨some d,.call ⟨.value (.func f),xs.toArray,ats⟩,ty,pos,af,some (j,want)⟩) rfl hj EG hl ha hG;cases c with
 | false=>exact qg GK (h _ w (ha.put d hd _) hw)
 | true =>
  refine uP GK fun R hR=>DX (xS hf (gL.ev ha rfl)) (((hF rfl).call hw).mono ?_);rintro _ w' ⟨rfl,h2⟩;exact⟨v,rfl,hR _ _ (h _ w' (ha.put d hd v) h2)⟩
end Go.Sl
namespace Go.Sl
open Go.RowKit Go.BigFrame List Nat
abbrev sp(A:Option Addr)(k:Nat):Value:= .pointer (A.map (·.add k))
theorem add_add(a:Addr)(i j:Nat):(a.add i).add j=a.add (i+j):=by
 cases a with
 | mk b o s =>
  unfold Addr.add;by_cases hi:i=0
  ·by_cases hj:j=0
   ·simp[hi,hj]
   ·simp[hi,hj]
  ·by_cases hj:j=0
   ·simp[hi,hj]
   ·rw[if_neg hi,if_neg hj,if_neg (by omega)];simp[Nat.add_assoc]
structure Seq(K:World)(H:List aH)(A:Option Addr)(m s:Nat)(vs:List Value):Prop where
 len:vs.length=m*s
 rd:∀i v,vs[i]? =some v→Rd K H (A.map (·.add i)) v
theorem Seq.up{K:World}{H:List aH}{A:Option Addr}{m s:Nat}{vs:List Value}{B:aH}(h:Seq K H A m s vs):Seq K (B::H) A m s vs:=⟨h.len,fun i v hi=>(h.rd i v hi).up⟩
theorem Seq.sat(h:Seq K H A m s vs)(hs:∀w,Sat K w H'→Sat K w H):Seq K H' A m s vs:=⟨h.len,fun i v hi w hw=>h.rd i v hi w (hs w hw)⟩
theorem Seq.here(hl:vs.length=m*s)(h:vs <+: cs.drop o):Seq K (ah b T cs::H) (some ⟨b,o,none⟩) m s vs:=⟨hl,fun i v hi=>by
 have :=(fH.here (K:=K) (H:=H) (b:=b) (T:=T) h) i v hi
 simpa [jM] using this⟩
theorem Seq.nil:Seq K H none 0 s []:=⟨by simp,fun i v hi=>by simp at hi⟩
theorem Seq.cell(h:Seq K H A m s vs)(hw:Sat K w H)(hi:vs[i]? =some v):∃a,A=some a∧w.cell? (a.add i)=some v:=by
 obtain⟨a,h1,h2⟩:=h.rd i v hi w hw;cases A with
 | none=>simp at h1
 | some a'=>simp at h1;subst h1;exact⟨a',rfl,h2⟩
theorem V.len{t:TypeId}{cap:Nat}(hT:∀w,(underlying T).run P w= .ok (.slice E) w)(hx:OV c e x (.slice A m cap)) :
 eX Mo P K n c e H ⟨dst,.call ⟨.builtin .len,#[x],#[T]⟩,ty,pos,af,gd⟩ (.i (m:Int)):=fun hc a w ha _=>by
 rw[execOp_builtin,builtin_len];have :=hx.ev hc ha;simp[Builtin.len_,hT w,this,goInt]
theorem V.ahA(hT:∀w,(underlying T).run P w= .ok .string w)(hx:OV c e x (.string s)) :
 eX Mo P K n c e H ⟨dst,.call ⟨.builtin .len,#[x],#[T]⟩,ty,pos,af,gd⟩ (.i (s.size:Int)):=fun hc a w ha _=>by
 rw[execOp_builtin,builtin_len];have :=hx.ev hc ha;simp[Builtin.len_,hT w,this,goInt]
theorem V.min{Mo:Mode}{P:Program}{K:World}{n:Nat}{e:Env}{H:List aH}{c:Bool}{dst:Option Tmp}{ty:TypeId}{pos:String}{af:Array Edge}{gd:Option (Nat×Bool)}{x y:Operand}{ats:Array TypeId}{k:IntKind}{i j:Int}(hx:OV c e x (.int k i))(hy:OV c e y (.int k j)) :
 eX Mo P K n c e H ⟨dst,.call ⟨.builtin .min,#[x,y],ats⟩,ty,pos,af,gd⟩ (.int k (min i j)):=fun hc a w ha _=>by
 rw[execOp_builtin,builtin_min];have h1:=hx.ev hc ha;have h2:=hy.ev hc ha;simp[Builtin.min_,h1,h2,Builtin.min2];omega
theorem V.max{Mo:Mode}{P:Program}{K:World}{n:Nat}{e:Env}{H:List aH}{c:Bool}{dst:Option Tmp}{ty:TypeId}{pos:String}{af:Array Edge}{gd:Option (Nat×Bool)}{x y:Operand}{ats:Array TypeId}{k:IntKind}{i j:Int}(hx:OV c e x (.int k i))(hy:OV c e y (.int k j)) :
 eX Mo P K n c e H ⟨dst,.call ⟨.builtin .max,#[x,y],ats⟩,ty,pos,af,gd⟩ (.int k (max i j)):=fun hc a w ha _=>by
 rw[execOp_builtin,builtin_max];have h1:=hx.ev hc ha;have h2:=hy.ev hc ha;simp[Builtin.max_,h1,h2,Builtin.max2];omega
def fq(P:Program)(T E s:Nat):Prop:=(∀w,(underlying T).run P w= .ok (.slice E) w)∧∀w,(sizeOf E).run P w= .ok s w
def tC(P:Program)(T m E s:Nat):Prop:=(∀w,(underlying T).run P w= .ok (.array m E) w)∧∀w,(sizeOf E).run P w= .ok s w
theorem V.dw{cap:Nat}(hT:fq P T E s)(hx:OV c e x (.slice A m cap))(hy:OV c e y (.int k j))(hb:c=true→0≤j∧j<m)
 (hr:c=true→Rd K H (A.map (·.add (j.toNat*s))) v):eX Mo P K n c e H ⟨dst,.indexAddr T x y,ty,pos,af,gd⟩ (sp A (j.toNat*s)):=fun hc a w ha hw=>by
 show ((do pure (Next.value (←Instr.indexAt T (a.eval x) (a.eval y)))):Sem Next).run P w=_;rw[hx.ev hc ha,hy.ev hc ha];obtain⟨p,h1,h2⟩:=hr hc w hw;cases A with
 | none=>simp at h1
 | some a'=>simp[Instr.indexAt,asIntOf,hT.1 w,hT.2 w,hb hc]
theorem V.FW{cap:Nat}(hT:fq P T E s)(hx:OV c e x (.slice (some ⟨b,o,none⟩) m cap))(hy:OV c e y (.int k j))(hb:c=true→0≤j∧j<m) :
 eX Mo P K n c e H ⟨dst,.indexAddr T x y,ty,pos,af,gd⟩ (ptr b (o+j.toNat*s)):=fun hc a w ha hw=>by
 show ((do pure (Next.value (←Instr.indexAt T (a.eval x) (a.eval y)))):Sem Next).run P w=_;rw[hx.ev hc ha,hy.ev hc ha];simp[Instr.indexAt,asIntOf,hT.1 w,hT.2 w,hb hc,jM]
theorem V.YM(hT:tC P T m E s)(hx:OV c e x (ptr b o))(hy:OV c e y (.int k j))(hb:c=true→0≤j∧j<m) :
 eX Mo P K n c e H ⟨dst,.indexAddr T x y,ty,pos,af,gd⟩ (ptr b (o+j.toNat*s)):=fun hc a w ha hw=>by
 show ((do pure (Next.value (←Instr.indexAt T (a.eval x) (a.eval y)))):Sem Next).run P w=_;rw[hx.ev hc ha,hy.ev hc ha];simp[Instr.indexAt,Instr.sureAddr,asIntOf,hT.1 w,hT.2 w,hb hc,jM]
theorem V.uY(hF:jC P S f off)(hx:OV c e x (sp A k))(hr:c=true→Rd K H (A.map (·.add k')) v):eX Mo P K n c e H ⟨dst,.fieldAddr S x f,ty,pos,af,gd⟩ (sp A (k+off)):=fun hc a w ha hw=>by
 show ((do pure (Next.value (←Instr.fieldAt S (a.eval x) f))):Sem Next).run P w=_;rw[hx.ev hc ha];obtain⟨p,h1,h2⟩:=hr hc w hw;cases A with
 | none=>simp at h1
 | some a'=>simp[sp,hF _ _,add_add]
theorem V.tX{vs:List Value}(hT:Ur P T s)(hx:OV c e x (sp A k))(hs:vs.length=s)(h0:0<s)(hr:c=true→∀i v,vs[i]? =some v→Rd K H (A.map (·.add (k+i))) v):eX Mo P K n c e H ⟨dst,.load T x,ty,pos,af,gd⟩ (.agg vs.toArray):=fun hc a w ha hw=>by
 show ((do pure (Next.value (←Instr.loadAt T (a.eval x)))):Sem Next).run P w=_;rw[hx.ev hc ha];subst hs;obtain⟨p,h1,_⟩:=hr hc 0 vs[0] (by simp) w hw;cases A with
 | none=>simp at h1
 | some a' =>
  have h1:=run_loadCells_list (P:=P) w (a'.add k) vs (fun j v hj=>by
   obtain⟨q,h1,h2⟩:=hr hc j v hj w hw;simp at h1;subst h1;rwa [add_add])
  simp[sp,Instr.loadAt,Instr.sureAddr,loadVar,hT.1 w,hT.2 w,h1]
theorem V.index{cs:List Value}(hT:tC P T m E s)(hx:OV c e x (.agg cs.toArray))(hy:OV c e y (.int k j))(hb:c=true→0≤j∧j<m)
 (hp:c=true→∀w,(part E cs.toArray (j.toNat*s)).run P w= .ok v w):eX Mo P K n c e H ⟨dst,.index T x y,ty,pos,af,gd⟩ v:=fun hc a w ha hw=>by
 show ((do pure (Next.value (←Instr.index T (a.eval x) (a.eval y)))):Sem Next).run P w=_;rw[hx.ev hc ha,hy.ev hc ha];simp[Instr.index,asIntOf,hT.1 w,hT.2 w,hb hc,hp hc w]
theorem nI{cs:List Value}(hE:M9 P E)(hv:cs[o]? =some v):∀w,(part E cs.toArray o).run P w= .ok v w:=fun w=>by simp[part,hE w,hv]
theorem aiR{vs:List Value}(hE:Ur P E s)(hv:cs.extract o (o+s)=vs.toArray):∀w,(part E cs o).run P w= .ok (.agg vs.toArray) w:=fun w=>by simp only[part,Sem.run_bind,hE.1 w,hE.2 w,Result.andThen_ok,if_true,Sem.run_pure,hv]
theorem V.build{T:Nat}{xs:List (Nat×Operand)}{vs:List (Nat×Value)}(gL:Ga c e (xs.map (·.2)) (vs.map (·.2)))(hi:xs.map (·.1)=vs.map (·.1))(hB:∀w,(Instr.build T vs.toArray).run P w= .ok v w) :
 eX Mo P K n c e H ⟨dst,.build T xs.toArray,ty,pos,af,gd⟩ v:=fun hc a w ha hw=>by
 show ((do pure (Next.value (←Instr.build T (xs.toArray.map fun (i,x)=>(i,a.eval x))))):Sem Next).run P w=_;have h1:=gL.ev ha hc;have h2:xs.map (fun (i,x)=>(i,a.eval x))=vs:=by
  apply ext_getElem?;intro i;have k1:=congrArg (·[i]?) h1;have k2:=congrArg (·[i]?) hi;simp only[getElem?_map] at k1 k2 ⊢;cases hx:xs[i]? <;>cases hv:vs[i]? <;>simp[hx,hv] at k1 k2 ⊢;exact Prod.ext k2 k1
 rw[map_toArray,h2];simp[hB w]
theorem V.field{T:Nat}(hx:OV c e x (.agg cs))(hF:∀w,(Instr.field T (.agg cs) f).run P w= .ok v w):eX Mo P K n c e H ⟨dst,.field T x f,ty,pos,af,gd⟩ v:=fun hc a w ha hw=>by
 show ((do pure (Next.value (←Instr.field T (a.eval x) f))):Sem Next).run P w=_;rw[hx.ev hc ha];simp[hF w]
def OO(c:Bool)(e:Env)(x:Option Operand)(d l:Nat):Prop:=match x with | none=>l=d | some y=>∃k j,OV c e y (.int k j)∧(c=true→j=(l:Int))
theorem OO.none{e:Env}{c:Bool}{d:Nat}:OO c e none d d:=rfl
theorem OO.some{e:Env}{c:Bool}{y:Operand}{k:IntKind}{j:Int}{l d:Nat}(h:OV c e y (.int k j))(hj:c=true→j=(l:Int)):OO c e (some y) d l:=⟨k,j,h,hj⟩
theorem run_sliceBound{l:Nat}(hi:i=(l:Int))(h:l≤y):(Instr.sliceBound (.int k i) y code).run P w= .ok l w:=by
 subst hi;simp[Instr.sliceBound,asIntOf,h]
theorem wB(ha:eF Mo n e a)(hl:OO true e lo 0 l)(hh:OO true e hi m h)(hm:OO true e mx cap x)(hmh:mx.isSome=true→hi.isSome=true)(h1:l≤h)(h2:h≤x)(h3:x≤cap)(w:World) :
 (Instr.sliceBounds b m cap (lo.map a.eval) (hi.map a.eval) (mx.map a.eval)).run P w= .ok (l,h,x) w:=by
 cases mx with
 | none =>
  simp only[OO] at hm;subst hm;cases hi with
  | none =>
   simp only[OO] at hh;subst hh;cases lo with
   | none=>simp only[OO] at hl;subst hl;simp[Instr.sliceBounds]
   | some y =>
    obtain⟨k,j,hy,hj⟩:=hl;simp[Instr.sliceBounds,hy.ev rfl ha,run_sliceBound (hj rfl) h1]
  | some z =>
   obtain⟨k,j,hz,hj⟩:=hh;cases lo with
   | none=>simp only[OO] at hl;subst hl;simp[Instr.sliceBounds,hz.ev rfl ha,run_sliceBound (hj rfl) h2]
   | some y =>
    obtain⟨k',j',hy,hj'⟩:=hl;simp[Instr.sliceBounds,hz.ev rfl ha,run_sliceBound (hj rfl) h2,hy.ev rfl ha,run_sliceBound (hj' rfl) h1]
 | some u =>
  obtain⟨k2,j2,hu,hj2⟩:=hm;cases hi with
  | none=>simp at hmh
  | some z =>
   obtain⟨k,j,hz,hj⟩:=hh;cases lo with
   | none=>simp only[OO] at hl;subst hl;simp[Instr.sliceBounds,hu.ev rfl ha,run_sliceBound (hj2 rfl) h3,hz.ev rfl ha,run_sliceBound (hj rfl) h2]
   | some y =>
    obtain⟨k',j',hy,hj'⟩:=hl;simp[Instr.sliceBounds,hu.ev rfl ha,run_sliceBound (hj2 rfl) h3,hz.ev rfl ha,run_sliceBound (hj rfl) h2,hy.ev rfl ha,run_sliceBound (hj' rfl) h1]
theorem V.slice{cap:Nat}(hT:fq P T E s)(hx:OV true e x (.slice A m cap))(hl:OO true e lo 0 l)(hh:OO true e hi m h)(hm:OO true e mx cap u)
 (hmh:mx.isSome=true→hi.isSome=true) (h1:l≤h) (h2:h≤u) (h3:u≤cap) :
 eX Mo P K n true e H ⟨dst,.slice T x lo hi mx,ty,pos,af,gd⟩ (.slice (if u=l then A else A.map (·.add (l*s))) (h-l) (u-l)):=fun _ a w ha hw=>by
 show ((do pure (Next.value (←Instr.sliceAt T (a.eval x) (lo.map a.eval) (hi.map a.eval) (mx.map a.eval)))):Sem Next).run P w=_;rw[hx.ev rfl ha];have hb:=wB (P:=P) (b:=true) ha hl hh hm hmh h1 h2 h3 w;simp[Instr.sliceAt,Instr.slice,hT.1 w,hT.2 w,hb]
theorem V.qM(hT:tC P T m E s)(hx:OV true e x (ptr b o))(hl:OO true e lo 0 l)(hh:OO true e hi m h)(hm:OO true e mx m u)
 (hmh:mx.isSome=true→hi.isSome=true) (h1:l≤h) (h2:h≤u) (h3:u≤m) :
 eX Mo P K n true e H ⟨dst,.slice T x lo hi mx,ty,pos,af,gd⟩ (.slice (some ⟨b,if u=l then o else o+l*s,none⟩) (h-l) (u-l)):=fun _ a w ha hw=>by
 show ((do pure (Next.value (←Instr.sliceAt T (a.eval x) (lo.map a.eval) (hi.map a.eval) (mx.map a.eval)))):Sem Next).run P w=_;rw[hx.ev rfl ha];have hb:=wB (P:=P) (b:=false) ha hl hh hm hmh h1 h2 h3 w;simp[Instr.sliceAt,Instr.sureAddr,hT.1 w,hT.2 w,hb,jM];split<;>rfl
theorem WL.makeSlice{T:Nat}(hT:P.underlying T=some (.slice E))(hi:P.info? E=some i)(hz:i.zero=some z)(hx:OV true e x (.int k l))(hy:OV true e y (.int k' q))
 (h0:0≤l) (RL:l≤q) (hb:(i.bytes:Int)*q≤281474976710656) (h63:q≤9223372036854775807) (hd:blt d n=true)
 (h:∀b,WL Mo P K n ops rest Q ((d,.slice (some ⟨b,0,none⟩) l.toNat q.toNat)::e) (ah b E (madeCells z.cells (q.toNat*i.size)).toList::H)) :
 WL Mo P K n ops (⟨some d,.makeSlice T x y,ty,pos,af,none⟩::rest) Q e H:=by
 refine WL.RQ (R:=fun v H'=>∃b,v= .slice (some ⟨b,0,none⟩) l.toNat q.toNat∧H'=ah b E (madeCells z.cells (q.toNat*i.size)).toList::H) (fun a w ha hw=> ?_) hd (fun v H' ⟨b,e1,e2⟩=>by subst e1 e2;exact h b);refine⟨_,_,_, ?_,hw.alloc E (madeCells z.cells (q.toNat*i.size)).toList,_,rfl,rfl⟩;show ((do pure (Next.value (←Instr.makeSlice T (a.eval x) (a.eval y)))):Sem Next).run P w=_;rw[hx.ev rfl ha,hy.ev rfl ha,Sem.run_bind,run_make (P:=P) w T E i z hT hi hz k k' l q h0 RL hb h63];simp
theorem WL.buildSlice{T E:Nat}{xs:List (Nat×Operand)}{vs:List (Nat×Value)}(gL:Ga true e (xs.map (·.2)) (vs.map (·.2)))(hi:xs.map (·.1)=vs.map (·.1))
 (hB:∀w,(Instr.buildSlice T m vs.toArray).run P w= .ok (.slice (some ⟨w.heap.size,0,none⟩) m m) (w.alloc (.cells cs.toArray E))) (hd:blt d n=true)
 (h:∀b,WL Mo P K n ops rest Q ((d,.slice (some ⟨b,0,none⟩) m m)::e) (ah b E cs::H)):WL Mo P K n ops (⟨some d,.buildSlice T m xs.toArray,ty,pos,af,none⟩::rest) Q e H:=by
 refine WL.RQ (R:=fun v H'=>∃b,v= .slice (some ⟨b,0,none⟩) m m∧H'=ah b E cs::H) (fun a w ha hw=> ?_) hd (fun v H' ⟨b,e1,e2⟩=>by subst e1 e2;exact h b);refine⟨_,_,_, ?_,hw.alloc E cs,_,rfl,rfl⟩;show ((do pure (Next.value (←Instr.buildSlice T m (xs.toArray.map fun (i,x)=>(i,a.eval x))))):Sem Next).run P w=_;have h1:=gL.ev ha rfl;have h2:xs.map (fun (i,x)=>(i,a.eval x))=vs:=by
  apply ext_getElem?;intro i;have k1:=congrArg (·[i]?) h1;have k2:=congrArg (·[i]?) hi;simp only[getElem?_map] at k1 k2 ⊢;cases hx:xs[i]? <;>cases hv:vs[i]? <;>simp[hx,hv] at k1 k2 ⊢;exact Prod.ext k2 k1
 rw[map_toArray,h2];simp[hB w]
def aV(v:Value)(E s m:Nat)(cs:List Value):aH where
 jA x:=v.ownBlock=some x
 holds w:=w.ownsRow 0 E s v m cs
 loc w w' h hw:=by
  refine⟨hw.1, ?_⟩;rcases hw.2 with h1 | ⟨g,cap,cur,rfl,h2,h3,h4⟩
  ·exact .inl h1
  ·exact .inr ⟨g,cap,cur,rfl,h2,by rw[h g rfl];exact h3,h4⟩
theorem Sat.gI(hw:Sat K w H)(E s:Nat):Sat K w (aV (.slice none 0 0) E s 0 []::H) :=
 ⟨hw.1,World.ownsRow_nil w 0 E s,fun b hb=>by simp[aV,Value.ownBlock] at hb,fun b hb=>by simp[aV,Value.ownBlock] at hb,hw.2⟩
theorem Sat.BX(hw:Sat K w (ah b E cs::H))(hl:cs.length=cap*s)(hm:m≤cap)(hc:cap≤maxLen):Sat K w (aV (.slice (some ⟨b,0,none⟩) m cap) E s m (cs.take (m*s))::H):=by
 have hb:=hw.head;simp only[ah] at hb;refine⟨hw.1,⟨?_,.inr ⟨b,cap,cs.toArray,rfl,zero_le _,hb,hm,hc,by simpa using hl,by simp⟩⟩,fun x hx=> ?_,fun x hx B hB wE=> ?_,hw.2.tail⟩
 ·rw[length_take,hl];exact Nat.min_eq_left (mul_le_mul_right _ hm)
 ·simp[aV,Value.ownBlock] at hx;subst hx;exact hw.2.2.1 _ rfl
 ·simp[aV,Value.ownBlock] at hx;subst hx;exact hw.2.2.2.1 _ rfl B hB wE
theorem aV.shape{w:World}{E:Nat}(h:w.ownsRow 0 E s v m cs):∃A cap,v= .slice A m cap∧m≤cap∧(∀a,A=some a→a.off=0∧a.spot=none)∧(A=none→m=0∧cap=0):=by
 rcases h.2 with ⟨rfl,rfl⟩ | ⟨g,cap,cur,rfl,_,_,h4,_⟩
 ·exact⟨none,0,rfl,Nat.le_refl _,fun a h=>by simp at h,fun _=>⟨rfl,rfl⟩⟩
 ·exact⟨_,cap,rfl,h4,fun a h=>by simp at h;subst h;simp,fun h=>by simp at h⟩
theorem aV.seq(hl:cs.length=m*s):Seq K (aV (.slice A m cap) E s m cs::H) A m s cs:=⟨hl,fun i v hi w hw=>by
 have h:=hw.head;rcases h.2 with ⟨h1,h2⟩ | ⟨g,cap',cur,h1,_⟩
 ·exfalso;simp only[Value.slice.injEq] at h1;subst h2;simp at hl;simp[hl] at hi
 ·simp only[Value.slice.injEq] at h1;obtain⟨rfl,_,rfl⟩:=h1;exact⟨_,rfl,h.cells (g:=g) rfl i v hi⟩⟩
def dH(P:Program)(E s bytes:Nat)(z:Value):Prop:=∃i,P.info? E=some i∧i.zero=some z∧i.size=s∧i.bytes=bytes∧z.cells.size=s∧0<s
theorem dH.mk{bytes:Nat}(hi:P.info? E=some i)(h1:i.zero=some z)(h2:i.size=s)(h3:i.bytes=bytes)(h4:z.cells.size=s)(h5:blt 0 s=true):dH P E s bytes z:=⟨i,hi,h1,h2,h3,h4,by simpa using h5⟩
theorem WL.append{T E bytes:Nat}(hT:P.underlying T=some (.slice E))(hE:dH P E s bytes z)(hx:OV true e x v)(hy:OV true e y (.slice B q cap'))
 (hn:Seq K H B q s news) (h1:∀u∈news,u.oneCell'=true) (hb:(m+q)*bytes≤140737488355328) (JC:blt 0 bytes=true) (hd:blt d n=true)
 (h:∀A cap,(A=none→m+q=0∧cap=0)→m+q≤cap→WL Mo P K n ops rest Q ((d,.slice A (m+q) cap)::e) (aV (.slice A (m+q) cap) E s (m+q) (cs++news)::H)) :
 WL Mo P K n ops (⟨some d,.call ⟨.builtin .append,#[x,y],#[T,T]⟩,ty,pos,af,none⟩::rest) Q e (aV v E s m cs::H):=by
 refine WL.RQ (R:=fun u H'=>∃A cap,u= .slice A (m+q) cap∧(A=none→m+q=0∧cap=0)∧m+q≤cap∧H'=aV (.slice A (m+q) cap) E s (m+q) (cs++news)::H) (fun a w ha hw=> ?_) hd (fun u H' ⟨A,cap,e1,e2,e3,e4⟩=>by subst e1 e4;exact h A cap e2 e3);obtain⟨i,hi,hz,hs,TT,hzs,h0⟩:=hE;have RH:0<bytes:=by simpa using JC
 have hle:m+q≤140737488355328:=Nat.le_trans (Nat.le_mul_of_pos_right _ RH) hb;have sW:∀v' w',(execOp a.eval ⟨some d,.call ⟨.builtin .append,#[x,y],#[T,T]⟩,ty,pos,af,none⟩).run P w= .ok (.value v') w'→w'.ownsRow 0 E s v' (m+q) (cs++news)→w.grownBy w' v.ownBlock →
  (v'.ownBlock=none∨v'.ownBlock=v.ownBlock∨v'.ownBlock=some w.heap.size)→∃u w'' H',(execOp a.eval ⟨some d,.call ⟨.builtin .append,#[x,y],#[T,T]⟩,ty,pos,af,none⟩).run P w= .ok (.value u) w''∧Sat K w'' H' ∧
   ∃ A cap,u= .slice A (m+q) cap∧(A=none→m+q=0∧cap=0)∧m+q≤cap∧H'=aV (.slice A (m+q) cap) E s (m+q) (cs++news)::H:=fun v' w' Kw Bu hg Zb=>by
  obtain⟨A,cap,rfl,k1,_,k2⟩:=aV.shape Bu;refine⟨_,w',_,Kw,⟨hw.1.grow hg.os hg.tape hg.output hg.size, ?_⟩,A,cap,rfl,k2,k1,rfl⟩;refine hw.2.set (A':=aV (.slice A (m+q) cap) E s (m+q) (cs++news)) hg.size (fun b wE o7=>hg.block b o7 (fun e=>wE e.symm)) Bu (fun b wE=> ?_);have oH:(Value.slice A (m+q) cap).ownBlock=some b:=wE;rcases Zb with h' | h' | h'
  ·rw[h'] at oH;cases oH
  ·exact .inl (h'.symm.trans oH)
  ·rw[h'] at oH;injection oH with oH
   subst oH;exact .inr ⟨Nat.le_refl _,(Bu.lt _ h').2⟩
 have Bu:w.ownsRow 0 E s v m cs:=hw.head;have Km:=hx.ev rfl ha;have Qt:=hy.ev rfl ha;have JA:∀r w',(Builtin.append_ #[T,T] ty #[v,.slice B q cap']).run P w= .ok r w'→(execOp a.eval ⟨some d,.call ⟨.builtin .append,#[x,y],#[T,T]⟩,ty,pos,af,none⟩).run P w= .ok (.value r) w':=fun r w' hr=>by
  rw[execOp_builtin,builtin_append];simp[Km,Qt,hr]
 cases B with
 | none =>
  have RB:news=[]:=by
   cases news with
   | nil=>rfl
   | cons u us=>obtain⟨p,k1,_⟩:=hn.rd 0 u rfl w hw.tail;simp at k1
  have hq:q=0:=by
   have :=hn.len;rw[RB] at this;rcases mul_eq_zero.1 this.symm with h | h
   ·exact h
   ·omega
  subst RB hq;refine sW v w (JA v w ?_) (by simpa using Bu) ⟨rfl,rfl,rfl,Nat.le_refl _,fun _ _ _=>rfl⟩ (.inr (.inl rfl));obtain⟨A,cap,rfl,k1,_,_⟩:=aV.shape Bu;cases A<;>simp[Builtin.append_,run_underlying hT,sizeOf,typeInfo,hi,Builtin.lenOf,Builtin.firstCells,k1,storeCells]
 | some b =>
  obtain⟨v',w',hr,k2,k3,k4,k5⟩:=run_append_own_at (P:=P) w 0 T ty E i z s bytes hT hi hz hs TT hzs h0 v m cs Bu b q cap' news hn.len (fun j u hu=>by
   obtain⟨p,k1,k2⟩:=hn.rd j u hu w hw.tail;simp at k1;subst k1;exact k2) h1 (by simp only[maxLen];omega) hb (zero_le _)
  refine sW v' w' (JA v' w' hr) k2 k3 ?_;rcases k5 with k5 | k5
  ·exact .inr (.inl k5)
  ·exact .inr (.inr k5)
def WQ(Mo:Mode)(P:Program)(K:World)(n:Nat)(ops:Array Oper)(rest:List Oper)(R:Env→Prop)(e:Env)(H:List aH):Prop :=
 ∀ a,eF Mo n e a→wpQuiet P ops (fun w=>Sat K w H) (fun a'=>∃e',eF Mo n e' a'∧R e') rest a
theorem vR(h:∀a,S a→S' a):∀(l:List Oper) (a:Act),wpQuiet P ops C S l a→wpQuiet P ops C S' l a
 | [],a,hh=>h a hh
 | o::l,a,hh=>by
  simp only[wpQuiet] at hh ⊢;split
  ·rename_i hw;rw[if_pos hw] at hh;obtain⟨v,h1,h2⟩:=hh;exact⟨v,h1,vR h l _ h2⟩
  ·rename_i hw;rw[if_neg hw] at hh;exact vR h l _ hh
theorem WC.V9{id:Nat}(hm:P.follows .mixedOrders=true)(hB:Region.lexB .any l.toArray=true)(h:WQ ⟨none,ds⟩ P K n l.toArray l (fun e'=>Q ⟨none,ds⟩ .normal e' H) e H):WC ⟨none,ds⟩ P K n (.region id l.toArray true) Q e H:=fun a w ha hw=>by
 show (Code.region id l.toArray true).wp P _ a w;refine wp_region_quiet (C:=fun w=>Sat K w H) hm hB hw.drew ?_;have :=h a ha;refine vR ?_ _ a this;rintro a' ⟨e',h1,h2⟩ w' GK;exact⟨ds,e',H,h1,GK,h2⟩
theorem WQ.nil(h:R e):WQ Mo P K n ops [] R e H:=fun a ha=>⟨e,ha,h⟩
theorem WQ.val{d:Nat}(hv:eX Mo P K n true e H ⟨some d,op,ty,pos,af,none⟩ v)(hd:blt d n=true)(h:WQ Mo P K n ops rest R ((d,v)::e) H):WQ Mo P K n ops (⟨some d,op,ty,pos,af,none⟩::rest) R e H:=fun a ha=>by
 refine wpQuiet_step fun S hS=> ?_;simp only[Region.wanted,if_true];refine⟨v,fun w hw=> ?_,hS _ (h _ (ha.put d hd v))⟩;unfold Oper.quietAt;rw[hv rfl a w ha hw];exact⟨rfl,rfl⟩
theorem WQ.bI{d dj:Nat}{oj:Oper}(hj:ops[j]? =some oj)(EG:oj.dst=some dj)(hl:look e dj=some gv)(hG:GC gv want c)
 (hv:eX Mo P K n c e H ⟨some d,op,ty,pos,af,some (j,want)⟩ v) (hd:blt d n=true) (h:WQ Mo P K n ops rest R ((d,cv c v)::e) H):WQ Mo P K n ops (⟨some d,op,ty,pos,af,some (j,want)⟩::rest) R e H:=fun a ha=>by
 refine wpQuiet_step fun S hS=> ?_;rw[Region.jv (o:=⟨some d,op,ty,pos,af,some (j,want)⟩) rfl hj EG hl ha hG];cases c with
 | false=>exact hS _ (h _ (ha.put d hd _))
 | true =>
  simp only[if_true];refine⟨v,fun w hw=> ?_,hS _ (h _ (ha.put d hd v))⟩;unfold Oper.quietAt;rw[hv rfl a w ha hw];exact⟨rfl,rfl⟩
theorem WQ.call(hf:bP P f)(gL:Ga true e xs vs)
 (hF:aK P f vs.toArray K H v) (hd:blt d n=true) (h:WQ Mo P K n ops rest R ((d,v)::e) H):WQ Mo P K n ops (⟨some d,.call ⟨.value (.func f),xs.toArray,ats⟩,ty,pos,af,none⟩::rest) R e H:=fun a ha=>by
 refine wpQuiet_step fun S hS=> ?_;simp only[Region.wanted,if_true];refine⟨v,fun w hw=> ?_,hS _ (h _ (ha.put d hd v))⟩;unfold Oper.quietAt;rw[xS hf (gL.ev ha rfl)];exact⟨rfl,hF.call hw⟩
theorem WQ.nL{dj:Nat}{oj:Oper}
 (hj:ops[j]? =some oj) (EG:oj.dst=some dj) (hl:look e dj=some gv) (hG:GC gv want c) (hf:bP P f) (gL:Ga c e xs vs) (hF:c=true→aK P f vs.toArray K H v) (hd:blt d n=true)
 (h:WQ Mo P K n ops rest R ((d,cv c v)::e) H):WQ Mo P K n ops (⟨some d,.call ⟨.value (.func f),xs.toArray,ats⟩,ty,pos,af,some (j,want)⟩::rest) R e H:=fun a ha=>by
 refine wpQuiet_step fun S hS=> ?_;rw[Region.jv (o:=⟨some d,.call ⟨.value (.func f),xs.toArray,ats⟩,ty,pos,af,some (j,want)⟩) rfl hj EG hl ha hG];cases c with
 | false=>exact hS _ (h _ (ha.put d hd _))
 | true =>
  simp only[if_true];refine⟨v,fun w hw=> ?_,hS _ (h _ (ha.put d hd v))⟩;unfold Oper.quietAt;rw[xS hf (gL.ev ha rfl)];exact⟨rfl,(hF rfl).call hw⟩
def lQ(P:Program)(ops:Array Oper)(C:World→Prop)(o:Oper)(v:Value)(a:Act):Prop :=
 (Region.wanted o (yielded ops a.tmps)=true∧∀w,C w→(execOp a.eval o).run P w= .ok (.value v) w)∨(Region.wanted o (yielded ops a.tmps)=false∧v=undef)
theorem lQ.wpOp{P:Program}{ops:Array Oper}{C:World→Prop}{q:Exit→Act→World→Prop}{i:Nat}{o:Oper}{v:Value}{a:Act}(hi:ops[i]? =some o)(hy:lQ P ops C o v a){S:Act→World→Prop}{w:World}(hC:C w)(h:S (a.put o.dst v) w):wpOp P ops q i S a w:=by
 unfold Go.wpOp;simp only[hi];rcases hy with ⟨hw,hv⟩ | ⟨hw,rfl⟩
 ·simp only[hw,if_true,Oper.wp,hv w hC,Oper.upon];exact .inl h
 ·simp only[hw,Bool.false_eq_true,if_false];exact h
theorem lQ.of_same(hy:lQ P ops C o v a)(he:execOp a'.eval o=execOp a.eval o)
 (hw:Region.wanted o (yielded ops a'.tmps)=Region.wanted o (yielded ops a.tmps)):lQ P ops C o v a':=by grind [lQ]
theorem XU(hj:ops[j]? =some oj)(hap:oi.apart ops oj=true)
 (ZJ:∀cs b,oi.op≠ .select cs b) (hsj:∀cs b,oj.op≠ .select cs b)
 (hQ:∀c a w,q (.panic c) (a.put oi.dst v) w→q (.panic c) a w)
 (hy:lQ P ops C oi v a) (h:wpOp P ops q j S (a.put oi.dst v) w) :
 wpOp P ops q j (fun a' w'=>lQ P ops C oi v a'∧S (a'.put oi.dst v) w') a w:=by
 obtain⟨h1,h2,h3⟩:=Oper.apart_spec hap;have nG:∀(a:Act),lQ P ops C oi v a→∀u,lQ P ops C oi v (a.put oj.dst u):=fun a hy u =>
  hy.of_same (execOp_put oi ZJ a oj.dst u h3) (wanted_put oi a oj.dst u h3)
 have keepD:∀d,lQ P ops C oi v { a with defers:=d::a.defers }:=fun d=>hy.of_same rfl rfl;unfold wpOp at *
 simp only[hj] at *
 rw[wanted_put oj a oi.dst v h1] at h;split
 ·rename_i hw;simp only[hw,if_true] at h;rcases h with h | ⟨Wm,akU⟩
  case inr=>exact .inr ⟨by unfold Oper.asks at *;rw[execOp_put oj hsj a oi.dst v h1] at Wm;exact Wm,akU⟩
  refine .inl ?_;unfold Oper.wp at *
  rw[execOp_put oj hsj a oi.dst v h1] at h
  generalize (execOp a.eval oj).run P w=r at *
  cases r with
  | ok n w' =>
   cases n<;>simp only[Oper.upon] at h ⊢
   case value u=>exact⟨nG a hy u,by rw[←Act.put_comm a v u h2];exact h⟩
   case skip=>exact⟨nG a hy _,by rw[←Act.put_comm a v undef h2];exact h⟩
   case defer d =>
    refine⟨nG _ (keepD d) _, ?_⟩;rw[←Act.put_comm _ v undef h2,←Act.put_defers];exact h
   case enter f args =>
    refine Calls.mono h fun e w'' he=> ?_;cases e with
    | returned u=>exact⟨nG a hy u,by rw[←Act.put_comm a v u h2];exact he⟩
    | panicked c=>exact hQ _ _ _ he
    | outgrown=>exact he
   case row row args=>exact Rows.mono h fun u w'' he=>⟨nG a hy u,by rw[←Act.put_comm a v u h2];exact he⟩
  | halt x w' =>
   cases x<;>simp only[Oper.upon] at h ⊢
   case panic u=>exact hQ _ _ _ h
 ·rename_i hw;simp only[hw] at h;exact⟨nG a hy _,by rw[←Act.put_comm a v undef h2];exact h⟩
def Am(P:Program)(md:Region.Mode)(ops:Array Oper)(C:World→Prop)(q:Exit→Act→World→Prop):Nat→Array Bool→Act→World→Prop
 | 0,listed,a,w=>C w∧Region.ready md ops listed=[]∧q .normal a w
 | fuel+1,listed,a,w=>C w∧(Region.ready md ops listed=[]→q .normal a w) ∧
  ∀ i∈Region.ready md ops listed,wpOp P ops q i (Am P md ops C q fuel (listed.setIfInBounds i true)) a w
theorem Bb:∀(fuel:Nat) (listed:Array Bool) (a:Act) (w:World),Am P md ops C q fuel listed a w→wpAny P md ops q fuel listed a w
 | 0,_,_,_,h=>h.2
 | fuel+1,_,_,_,h=>⟨h.2.1,fun i hi=>wpOp_mono (fun a w hh=>Bb fuel _ a w hh) (h.2.2 i hi)⟩
theorem Z5:∀ {fuel:Nat} {listed:Array Bool} {a:Act} {w:World},Am P md ops C q fuel listed a w→C w
 | 0,_,_,_,h=>h.1
 | _+1,_,_,_,h=>h.1
theorem Dc(hi:ops[i]? =some oi)(alp:∀(j:Nat) (o:Oper) cs b,ops[j]? =some o→o.op≠ .select cs b)
 (hQ:∀c a w,q (.panic c) (a.put oi.dst v) w→q (.panic c) a w) :
 ∀ (fuel:Nat) (listed:Array Bool) (a:Act) (w:World),
  (∀j oj,ops[j]? =some oj→j≠i→listed.getD j true=false→(∀e∈oj.after,Region.binds md e=true→e.on≠i)→oi.apart ops oj=true) →
  i∈Region.ready md ops listed→lQ P ops C oi v a→C w →
  Am P md ops C q fuel (listed.setIfInBounds i true) (a.put oi.dst v) w→Am P md ops C q (fuel+1) listed a w:=by
 intro fuel
 induction fuel with
 | zero =>
  intro listed a w _ hr hy hC H;refine⟨hC,fun h=>(by rw[h] at hr;cases hr),fun j hj=> ?_⟩;by_cases hji:j=i
  ·subst hji;exact hy.wpOp hi hC H
  ·have :=ready_mono hj hji;rw[H.2.1] at this;cases this
 | succ fuel ih =>
  intro listed a w afF hr hy hC H;refine⟨hC,fun h=>(by rw[h] at hr;cases hr),fun j hj=> ?_⟩;by_cases hji:j=i
  ·subst hji;exact hy.wpOp hi hC H
  ·have h1:=H.2.2 j (ready_mono hj hji);obtain⟨ak5,oj,hoj,nT⟩:=mem_ready.1 hj;have aoI:∀e∈oj.after,Region.binds md e=true→e.on≠i:=fun e he hb heq=>by
    have h1:=nT e he hb;have h0:=(mem_ready.1 hr).1;rw[heq] at h1;rcases Nat.lt_or_ge i listed.size with h' | h'
    ·simp[h'] at h0 h1;rw[h0] at h1;cases h1
    ·simp[Array.getElem?_eq_none h'] at h1
   have h2:=XU hoj (afF j oj hoj hji ak5 aoI) (fun cs b=>alp i oi cs b hi) (fun cs b=>alp j oj cs b hoj) hQ hy h1;have ahM:∀k ok,ops[k]? =some ok→k≠i→(listed.setIfInBounds j true).getD k true=false →
    (∀e∈ok.after,Region.binds md e=true→e.on≠i)→oi.apart ops ok=true:=fun k ok hk hki hun uN=>by
    refine afF k ok hk hki ?_ uN;by_cases hjk:j=k
    ·subst hjk;exact ak5
    ·rw[getD_set_ne true hjk] at hun;exact hun
   refine wpOp_mono (fun a' w' h3=> ?_) h2;have Kw:Am P md ops C q fuel ((listed.setIfInBounds j true).setIfInBounds i true) (a'.put oi.dst v) w':=by
    rw[Array.setIfInBounds_comm _ _ hji];exact h3.2
   exact ih (listed.setIfInBounds j true) a' w' ahM (ready_mono hr (Ne.symm hji)) h3.1 (Z5 Kw) Kw
def WA(Mo:Mode)(P:Program)(K:World)(n:Nat)(F0:List aH)(ops:Array Oper)(Q:iX)(fuel:Nat)(listed:Array Bool)(e:Env)(H:List aH):Prop :=
 ∀ a w,eF Mo n e a→Sat K w H→Am P .any ops (fun w=>Sat K w F0) (lift Mo.round K n Q) fuel listed a w
theorem WC.dM{id:Nat}{l:List Oper}(F0:List aH)(hm:P.follows .mixedOrders=true)(h:WA ⟨none,ds⟩ P K n F0 l.toArray Q l.length (Array.replicate l.length false) e H):WC ⟨none,ds⟩ P K n (.region id l.toArray true) Q e H:=fun a w ha hw=>by
 show (Code.region id l.toArray true).wp P _ a w;refine wp_region_any hm (Bb (C:=fun w=>Sat K w F0) _ _ _ _ ?_);have :=h a _ ha hw.drew
 simpa using this
theorem WC.MO{id:Nat}{l:List Oper}(hm:P.follows .mixedOrders=true)(h:WA ⟨none,ds⟩ P K n H l.toArray Q l.length (Array.replicate l.length false) e H):WC ⟨none,ds⟩ P K n (.region id l.toArray true) Q e H:=WC.dM H hm h
theorem WA.done(hr:Region.ready .any ops listed=[])(hF:∀w,Sat K w H→Sat K w F0)(h:Q Mo .normal e H):WA Mo P K n F0 ops Q fuel listed e H:=fun a w ha hw=>by
 cases fuel with
 | zero=>exact⟨hF w hw,hr,Mo.ds,e,H,ha,hw,h⟩
 | succ fuel=>exact⟨hF w hw,fun _=>⟨Mo.ds,e,H,ha,hw,h⟩,by rw[hr];simp⟩
theorem WA.take{d:Nat}(i:Nat)(hF:∀w,Sat K w H→Sat K w F0)(hi:ops[i]? =some ⟨some d,op,ty,pos,af,none⟩)(hs:Region.noSelect ops=true)(hf:Region.free .any ops listed i=true)
 (hr:(Region.ready .any ops listed).contains i=true) (hQ:∀c (p:Mode×Env) H,¬Q p.1 (.panic c) p.2 H) (hv:eX Mo P K n true e F0 ⟨some d,op,ty,pos,af,none⟩ v) (hd:blt d n=true)
 (h:WA Mo P K n F0 ops Q fuel (listed.setIfInBounds i true) ((d,v)::e) H):WA Mo P K n F0 ops Q (fuel+1) listed e H:=fun a w ha hw=>by
 refine Dc hi (Region.noSelect_spec hs) (fun c a w hh=> ?_) fuel listed a w (Region.free_spec hi hf) (by simpa using hr) (.inl ⟨rfl,fun w' GK=>hv rfl a w' ha GK⟩) (hF w hw) (h _ w (ha.put d hd v) hw);obtain⟨ds',e',H',_,_,h3⟩:=hh;exact (hQ c (⟨Mo.round,ds'⟩,e') H' h3).elim
theorem WA.afn{d j dj:Nat}(i:Nat)(hF:∀w,Sat K w H→Sat K w F0)(hi:ops[i]? =some ⟨some d,op,ty,pos,af,some (j,want)⟩)(hs:Region.noSelect ops=true)(hf:Region.free .any ops listed i=true)
 (hr:(Region.ready .any ops listed).contains i=true) (hQ:∀c (p:Mode×Env) H,¬Q p.1 (.panic c) p.2 H) (hj:ops[j]? =some oj) (EG:oj.dst=some dj) (hl:look e dj=some gv) (hG:GC gv want c)
 (hv:eX Mo P K n c e F0 ⟨some d,op,ty,pos,af,some (j,want)⟩ v) (hd:blt d n=true)
 (h:WA Mo P K n F0 ops Q fuel (listed.setIfInBounds i true) ((d,cv c v)::e) H):WA Mo P K n F0 ops Q (fuel+1) listed e H:=fun a w ha hw=>by
 refine Dc (v:=cv c v) hi (Region.noSelect_spec hs) (fun c a w hh=> ?_) fuel listed a w (Region.free_spec hi hf) (by simpa using hr) ?_ (hF w hw) (h _ w (ha.put d hd _) hw)
 ·obtain⟨ds',e',H',_,_,h3⟩:=hh;exact (hQ c (⟨Mo.round,ds'⟩,e') H' h3).elim
 ·have GK:=Region.jv (o:=⟨some d,op,ty,pos,af,some (j,want)⟩) rfl hj EG hl ha hG;cases hc:c with
  | true=>subst hc;exact .inl ⟨GK,fun w' k=>hv rfl a w' ha k⟩
  | false=>subst hc;exact .inr ⟨GK,rfl⟩
theorem WA.akx{d j dj:Nat}(i:Nat)(hF:∀w,Sat K w H→Sat K w F0)(hi:ops[i]? =some ⟨some d,op,ty,pos,af,some (j,want)⟩)(hs:Region.noSelect ops=true)(hf:Region.free .any ops listed i=true)
 (hr:(Region.ready .any ops listed).contains i=true) (hQ:∀c (p:Mode×Env) H,¬Q p.1 (.panic c) p.2 H) (hj:ops[j]? =some oj) (EG:oj.dst=some dj) (hl:look e dj=some gv) (hG:GC gv want true)
 (hv:eX Mo P K n true e F0 ⟨some d,op,ty,pos,af,some (j,want)⟩ v) (hd:blt d n=true)
 (h:WA Mo P K n F0 ops Q fuel (listed.setIfInBounds i true) ((d,v)::e) H):WA Mo P K n F0 ops Q (fuel+1) listed e H:=WA.afn i hF hi hs hf hr hQ hj EG hl hG hv hd h
theorem WL.known{dj:Nat}{oj:Oper}(hj:ops[j]? =some oj)(EG:oj.dst=some dj)(hl:look e dj=some gv)(hG:GC gv want true)
 (h:WL Mo P K n ops (⟨dst,op,ty,pos,af,none⟩::rest) Q e H):WL Mo P K n ops (⟨dst,op,ty,pos,af,some (j,want)⟩::rest) Q e H:=fun a w ha hw=>by
 have h1:=h a w ha hw;have GK:=Region.jv (o:=⟨dst,op,ty,pos,af,some (j,want)⟩) rfl hj EG hl ha hG;obtain⟨r,ds⟩:=Mo;cases r with
 | none =>
  have h2:wpList P ops (lift none K n Q) (⟨dst,op,ty,pos,af,none⟩::rest) a w:=h1;show wpList P ops (lift none K n Q) (⟨dst,op,ty,pos,af,some (j,want)⟩::rest) a w;unfold wpList at h2 ⊢;rw[if_pos GK];rw[if_pos (by simp[Region.wanted])] at h2;exact h2
 | some l =>
  have h2:wpListIn (IB l) 0 P ops (lift (some l) K n Q) (⟨dst,op,ty,pos,af,none⟩::rest) a w:=h1;show wpListIn (IB l) 0 P ops (lift (some l) K n Q) (⟨dst,op,ty,pos,af,some (j,want)⟩::rest) a w;unfold wpListIn at h2 ⊢;rw[if_pos GK];rw[if_pos (by simp[Region.wanted])] at h2;exact h2
theorem UL(hi:ops[i]? =some o)(h:WL ⟨none,ds⟩ P K n ops [o] (zO R Q) e H)(ha:eF ⟨none,ds⟩ n e a)(hw:Sat K w H)
 (hS:∀a w ds' e' H',eF ⟨none,ds'⟩ n e' a→Sat K w H'→R ⟨none,ds'⟩ e' H'→S a w):wpOp P ops (lift none K n Q) i S a w:=by
 have h1:wpList P ops (lift none K n (zO R Q)) [o] a w:=h a w ha hw;unfold wpOp;simp only[hi];unfold wpList at h1;have hQ:∀x a w,lift none K n (zO R Q) x a w→(x= .normal→S a w)∧(x≠ .normal→lift none K n Q x a w):=by
  rintro x a w ⟨ds',e',H',k1,k2,k3⟩;cases x<;>first | exact⟨fun _=>hS a w ds' e' H' k1 k2 k3,fun k=>(k rfl).elim⟩ | exact⟨(fun k=>by cases k),fun _=>⟨ds',e',H',k1,k2,k3⟩⟩
 split
 ·rename_i GK;rw[if_pos GK] at h1;rcases h1 with h1 | ⟨h1,h2⟩
  ·refine .inl ?_;unfold Oper.wp at h1 ⊢
   generalize (execOp a.eval o).run P w=r at h1 ⊢
   cases r with
   | ok nx w' =>
    cases nx<;>simp only[Oper.upon] at h1 ⊢ <;>first
     | exact (hQ _ _ _ h1).1 rfl
     | exact h1
     | (
      refine h1.mono ?_;rintro x w'' hx;cases x<;>first
       | exact (hQ _ _ _ hx).1 rfl
       | exact (hQ _ _ _ hx).2 (by simp)
       | (obtain⟨a2,w2,k⟩:=hx;exact⟨a2,w2,(hQ _ _ _ k).2 (by simp)⟩))
     | exact h1.mono fun v w'' hx=>(hQ _ _ _ hx).1 rfl
   | halt x w' =>
    cases x<;>simp only[Oper.upon] at h1 ⊢ <;>first
     | exact (hQ _ _ _ h1).2 (by simp)
     | exact h1
  ·obtain⟨a2,w2,k⟩:=h2;exact .inr ⟨h1,a2,w2,(hQ _ _ _ k).2 (by simp)⟩
 ·rename_i GK;rw[if_neg GK] at h1;exact (hQ _ _ _ h1).1 rfl
theorem WA.step(hF:∀w,Sat K w H→Sat K w F0)(hr:Region.ready .any ops listed=rs)(pq:rs.isEmpty=false)
 (h:∀i∈rs,∃o,ops[i]? =some o∧WL ⟨none,ds⟩ P K n ops [o] (zO (fun Mo=>WA Mo P K n F0 ops Q fuel (listed.setIfInBounds i true)) Q) e H):WA ⟨none,ds⟩ P K n F0 ops Q (fuel+1) listed e H:=fun a w ha hw=>by
 refine⟨hF w hw,(fun h0=>by rw[hr] at h0;rw[h0] at pq;cases pq),fun i hi=> ?_⟩;rw[hr] at hi;obtain⟨o,h1,h2⟩:=h i hi;exact UL h1 h2 ha hw fun a w ds' e' H' k1 k2 k3=>k3 a w k1 k2
theorem WA.one{o:Oper}(hF:∀w,Sat K w H→Sat K w F0)(hr:Region.ready .any ops listed=[i])(hi:ops[i]? =some o)
 (h:WL ⟨none,ds⟩ P K n ops [o] (zO (fun Mo=>WA Mo P K n F0 ops Q fuel (listed.setIfInBounds i true)) Q) e H):WA ⟨none,ds⟩ P K n F0 ops Q (fuel+1) listed e H :=
 WA.step hF hr rfl fun j hj=>by simp at hj;subst hj;exact⟨o,hi,h⟩
theorem WA.t{Mo:Mode}{P:Program}{K:World}{n:Nat}{Q:iX}{e:Env}{H:List aH}{ty:TypeId}{pos:String}{af:Array Edge}{ops:Array Oper}{F0:List aH}{fuel:Nat}{listed:Array Bool}{d:Nat}{op:Op}{v:Value}(i:Nat)(hi:ops[i]? =some ⟨some d,op,ty,pos,af,none⟩)(hv:eX Mo P K n true e F0 ⟨some d,op,ty,pos,af,none⟩ v)
 (h:WA Mo P K n F0 ops Q fuel (listed.setIfInBounds i true) ((d,v)::e) H) (hd:blt d n=true:=by rfl) (hF:∀w,Sat K w H→Sat K w F0:=by intro w h;repeat (first | exact h | replace h:=h.tail)) (hs:Region.noSelect ops=true:=by kernel_rfl) (hf:Region.free .any ops listed i=true:=by kernel_rfl)
 (hr:(Region.ready .any ops listed).contains i=true:=by kernel_rfl) (hQ:∀c (p:Mode×Env) H,¬Q p.1 (.panic c) p.2 H:=by exact fun _ _ _ h=>h):WA Mo P K n F0 ops Q (fuel+1) listed e H:=WA.take i hF hi hs hf hr hQ hv hd h
theorem WA.tK{Mo:Mode}{P:Program}{K:World}{n:Nat}{Q:iX}{e:Env}{H:List aH}{ty:TypeId}{pos:String}{af:Array Edge}{ops:Array Oper}{F0:List aH}{fuel:Nat}{listed:Array Bool}{d j dj:Nat}{want:Bool}{oj:Oper}{op:Op}{v gv:Value}(i:Nat)(hi:ops[i]? =some ⟨some d,op,ty,pos,af,some (j,want)⟩)(hj:ops[j]? =some oj)(EG:oj.dst=some dj)(hl:look e dj=some gv)(hG:GC gv want true)
 (hv:eX Mo P K n true e F0 ⟨some d,op,ty,pos,af,some (j,want)⟩ v) (h:WA Mo P K n F0 ops Q fuel (listed.setIfInBounds i true) ((d,v)::e) H) (hd:blt d n=true:=by rfl) (hF:∀w,Sat K w H→Sat K w F0:=by intro w h;repeat (first | exact h | replace h:=h.tail)) (hs:Region.noSelect ops=true:=by kernel_rfl) (hf:Region.free .any ops listed i=true:=by kernel_rfl)
 (hr:(Region.ready .any ops listed).contains i=true:=by kernel_rfl) (hQ:∀c (p:Mode×Env) H,¬Q p.1 (.panic c) p.2 H:=by exact fun _ _ _ h=>h):WA Mo P K n F0 ops Q (fuel+1) listed e H:=WA.akx i hF hi hs hf hr hQ hj EG hl hG hv hd h
theorem WA.o{P:Program}{K:World}{n:Nat}{Q:iX}{e:Env}{H:List aH}{ops:Array Oper}{F0:List aH}{ds:List Deferred}{fuel:Nat}{listed:Array Bool}{o:Oper}(i:Nat)(hi:ops[i]? =some o)(h:WL ⟨none,ds⟩ P K n ops [o] (zO (fun Mo=>WA Mo P K n F0 ops Q fuel (listed.setIfInBounds i true)) Q) e H)
 (hF:∀w,Sat K w H→Sat K w F0:=by intro w h;repeat (first | exact h | replace h:=h.tail)) (hr:Region.ready .any ops listed=[i]:=by kernel_rfl):WA ⟨none,ds⟩ P K n F0 ops Q (fuel+1) listed e H:=WA.one hF hr hi h
theorem WA.fin{Mo:Mode}{P:Program}{K:World}{n:Nat}{Q:iX}{e:Env}{H:List aH}{ops:Array Oper}{F0:List aH}{fuel:Nat}{listed:Array Bool}(h:Q Mo .normal e H)(hF:∀w,Sat K w H→Sat K w F0:=by intro w h;repeat (first | exact h | replace h:=h.tail))(hr:Region.ready .any ops listed=[]:=by kernel_rfl):WA Mo P K n F0 ops Q fuel listed e H:=WA.done hr hF h
theorem WC.sr{id:Nat}(h:WL Mo P K n l.toArray l (zO (fun Mo=>WC Mo P K n y Q) Q) e H):WC Mo P K n (.seq (.region id l.toArray false) y) Q e H:=WC.seq (WC.region h)
theorem WL.mv(hx:sQ e x=some v)(hd:blt d n=true)(h:WL Mo P K n ops rest Q ((d,v)::e) H):WL Mo P K n ops (⟨some d,.move x,ty,pos,af,none⟩::rest) Q e H:=WL.val (V.move (OV.p hx)) hd h
theorem WL.sg(hx:sQ e x=some v)(hd:blt d n=true)(h:WL Mo P K n ops rest Q ((d,v)::e) H):WL Mo P K n ops (⟨some d,.assign x,ty,pos,af,none⟩::rest) Q e H:=WL.val (V.assign (OV.p hx)) hd h
theorem WL.ld{Mo:Mode}{P:Program}{K:World}{n:Nat}{Q:iX}{e:Env}{H:List aH}{ty:TypeId}{pos:String}{af:Array Edge}{ops:Array Oper}{rest:List Oper}{d:Nat}{x:Operand}{T:Nat}{q:Option Addr}{v:Value}(hT:M9 P T)(hx:sQ e x=some (.pointer q))(hd:blt d n=true)(h:WL Mo P K n ops rest Q ((d,v)::e) H)(hr:Rd K H q v:=by repeat (first | exact Rd.here rfl | apply Rd.up)):WL Mo P K n ops (⟨some d,.load T x,ty,pos,af,none⟩::rest) Q e H:=WL.val (V.load hT (OV.p hx) (fun _=>hr)) hd h
theorem WL.xt{vs:List Value}(hx:sQ e x=some (.tuple vs.toArray))(hv:vs[i]? =some v)(hd:blt d n=true)(h:WL Mo P K n ops rest Q ((d,v)::e) H):WL Mo P K n ops (⟨some d,.extract x i,ty,pos,af,none⟩::rest) Q e H:=WL.val (V.extract (OV.p hx) hv) hd h
theorem WL.ad{Mo:Mode}{P:Program}{K:World}{n:Nat}{Q:iX}{e:Env}{H:List aH}{ty:TypeId}{pos:String}{af:Array Edge}{ops:Array Oper}{rest:List Oper}{d t t':Nat}{x y:Operand}{i j:Int}(hx:sQ e x=some (.i i))(hy:sQ e y=some (.i j))(hd:blt d n=true)(h:WL Mo P K n ops rest Q ((d,.i (i+j))::e) H)(hb: -9223372036854775808≤i+j∧i+j≤9223372036854775807:=by omega):WL Mo P K n ops (⟨some d,.binOp .add t x y t',ty,pos,af,none⟩::rest) Q e H:=WL.val (V.CX (OV.p hx) (OV.p hy) (fun _=>hb)) hd h
theorem WL.sb{Mo:Mode}{P:Program}{K:World}{n:Nat}{Q:iX}{e:Env}{H:List aH}{ty:TypeId}{pos:String}{af:Array Edge}{ops:Array Oper}{rest:List Oper}{d t t':Nat}{x y:Operand}{i j:Int}(hx:sQ e x=some (.i i))(hy:sQ e y=some (.i j))(hd:blt d n=true)(h:WL Mo P K n ops rest Q ((d,.i (i-j))::e) H)(hb: -9223372036854775808≤i-j∧i-j≤9223372036854775807:=by omega):WL Mo P K n ops (⟨some d,.binOp .sub t x y t',ty,pos,af,none⟩::rest) Q e H:=WL.val (V.Eo (OV.p hx) (OV.p hy) (fun _=>hb)) hd h
theorem WL.nc(hx:sQ e x=some (.pointer (some p)))(hd:blt d n=true)(h:WL Mo P K n ops rest Q ((d,.pointer (some p))::e) H):WL Mo P K n ops (⟨some d,.nilCheck x,ty,pos,af,none⟩::rest) Q e H:=WL.val (V.nilCheck (OV.p hx)) hd h
theorem WA.two{o:Oper}(hF:∀w,Sat K w H→Sat K w F0)(hr:Region.ready .any ops listed=[i,j])(hi:ops[i]? =some o)(hj:ops[j]? =some o')
 (h:WL ⟨none,ds⟩ P K n ops [o] (zO (fun Mo=>WA Mo P K n F0 ops Q fuel (listed.setIfInBounds i true)) Q) e H) (h':WL ⟨none,ds⟩ P K n ops [o'] (zO (fun Mo=>WA Mo P K n F0 ops Q fuel (listed.setIfInBounds j true)) Q) e H):WA ⟨none,ds⟩ P K n F0 ops Q (fuel+1) listed e H :=
 WA.step hF hr rfl fun k hk=>by
  simp at hk;rcases hk with rfl | rfl
  ·exact⟨o,hi,h⟩
  ·exact⟨o',hj,h'⟩
theorem WC.MI(hc:sQ e x=some (.bool t))(ht:t=true)(h:WC Mo P K n y Q e H):WC Mo P K n (.cond x y z) Q e H:=WC.cond hc (fun _=>h) (fun k=>by rw[ht] at k;cases k)
theorem WC.ni(hc:sQ e x=some (.bool t))(ht:t=false)(h:WC Mo P K n z Q e H):WC Mo P K n (.cond x y z) Q e H:=WC.cond hc (fun k=>by rw[ht] at k;cases k) (fun _=>h)
def Oh(P:Program)(K:World)(n:Nat)(x:Code)(Q:iX):Nat→Mode→Env→List aH→Prop
 | 0,_,_,_=>False
 | m+1,Mo,e,H=>WC Mo P K n x (zO (Oh P K n x Q m) Q) e H
theorem WC.rounds(m:Nat)(h:Oh P K n x Q m Mo e H):WC Mo P K n (.loop x) Q e H:=fun a w ha hw=>by
 refine Qk (fun j a w=>∃ds e H,Oh P K n x Q j ⟨Mo.round,ds⟩ e H∧eF ⟨Mo.round,ds⟩ n e a∧Sat K w H) m ⟨Mo.ds,e,H,h,ha,hw⟩ ?_;rintro j a w ⟨ds,e,H,h,ha,hw⟩;cases j with
 | zero=>exact h.elim
 | succ j =>
  have h1:=h a w ha hw;have h2:Lx Mo P x (lift Mo.round K n (zO (Oh P K n x Q j) Q)) a w:=by
   obtain⟨r,ds0⟩:=Mo;cases r<;>exact h1
  refine yt h2 ?_;rintro y a w ⟨ds',e',H',k1,k2,k3⟩;cases y
  case normal=>exact⟨j,lt_succ_self _,ds',e',H',k3,k1,k2⟩
  all_goals exact⟨ds',e',H',k1,k2,k3⟩
def Oc(cs:List Value):Nat→List Value→Prop
 | _,[]=>True
 | o,v::vs=>cs[o]? =some v∧Oc cs (o+1) vs
theorem Oc.at_:∀ {vs:List Value} {o:Nat},Oc cs o vs→∀i v,vs[i]? =some v→cs[o+i]? =some v
 | [],_,_,i,v,h=>by simp at h
 | u::us,o,hg,0,v,h=>by simp at h;subst h;exact hg.1
 | u::us,o,hg,i+1,v,h=>by
  have :=Oc.at_ hg.2 i v (by simpa using h)
  rwa [show o+(i+1)=o+1+i by omega]
theorem fH.ED(h:Oc cs o vs):fH K (ah b T cs::H) b o vs:=fun i v hi=>Rd.here (h.at_ i v hi)
theorem yH(hE:Ur P E s)(hl:vs.length=s)(hg:Oc cs o vs):∀w,(part E cs.toArray o).run P w= .ok (.agg vs.toArray) w:=by
 refine aiR hE ?_;apply Array.ext_getElem?;intro i;rw[Array.getElem?_extract];by_cases hi:i<vs.length
 ·have h1:=hg.at_ i vs[i] (by simp);have JQ:o+i<cs.length:=by
   rcases Nat.lt_or_ge (o+i) cs.length with h | h
   ·exact h
   ·rw[getElem?_eq_none h] at h1;cases h1
  rw[if_pos (by simp;omega)];simp[h1]
 ·have h2:¬i<min (o+s) cs.toArray.size-o:=by omega
  rw[if_neg h2];simp;omega
theorem look_eq(h:look e t=some v)(he:v=v'):look e t=some v':=he ▸ h
theorem Sat.p1(h:Sat K w (A::B::H)):Sat K w (B::A::H):=Sat.pull 1 h
theorem Sat.p2(h:Sat K w (A::B::C::H)):Sat K w (C::A::B::H):=Sat.pull 2 h
theorem Sat.oJ(h:Sat K w (A::B::H)):Sat K w (A::H):=h.p1.tail
theorem Sat.aT(h:Sat K w (ah b T cs::H))(he:cs=cs'):Sat K w (ah b T cs'::H):=he ▸ h
theorem Sat.wm(h:Sat K w (aV v E s m cs::H))(he:cs=cs'):Sat K w (aV v E s m cs'::H):=he ▸ h
theorem Seq.all(hl:cs.length=m*s):Seq K (ah b T cs::H) (some ⟨b,0,none⟩) m s cs:=Seq.here hl (by simp)
def ints(k:IntKind)(xs:List Int):List Value:=xs.map (Value.int k)
theorem bR(k:IntKind)(xs:List Int):(ints k xs).length=xs.length:=by simp[ints]
theorem tY(k:IntKind)(xs:List Int)(h:i<xs.length):(ints k xs)[i]? =some (.int k (xs.getD i 0)):=by simp[ints,h]
theorem gY(k:IntKind)(xs ys:List Int):ints k (xs++ys)=ints k xs++ints k ys:=by simp[ints]
theorem xI(k:IntKind)(xs:List Int):∀u∈ints k xs,u.oneCell'=true:=by simp[ints,Value.oneCell']
theorem Seq.dD(h:Seq K H A m 1 (ints k xs))(hj:0≤j∧j<(m:Int)):Rd K H (A.map (·.add (j.toNat*1))) (.int k (xs.getD j.toNat 0)):=by
 have hl:xs.length=m:=by simpa [ints] using h.len
 have :=h.rd j.toNat _ (tY k xs (by omega))
 simpa using this
theorem Seq.agZ:Seq K H none 0 1 (ints k []):=Seq.nil
theorem Seq.allI(hl:xs.length=m):Seq K (ah b T (ints k xs)::H) (some ⟨b,0,none⟩) m 1 (ints k xs):=Seq.all (by simp[ints,hl])
def Rg(tmps:Array Value)(r:ResultVar):Sem Value:=match r with | .tmp t=>pure (tmps.getD t undef) | .cell x t=>do loadVar t (←asAddr (tmps.getD x undef))
theorem Bn(fn:Func)(tmps:Array Value):results fn tmps=(do let vs ←fn.results.mapM (Rg tmps);pure (if h:vs.size=1 then vs[0] else .tuple vs)):=rfl
def R1(Mo:Mode)(P:Program)(K:World)(n:Nat)(r:ResultVar)(e:Env)(H:List aH)(v:Value):Prop :=
 ∀ a w,eF Mo n e a→Sat K w H→(Rg a.tmps r).run P w= .ok v w
theorem R1.tmp{t:Tmp}(h:look e t=some v):R1 Mo P K n (.tmp t) e H v:=fun a w ha _=>by simp only[Rg,ha.at_ t v h];rfl
theorem R1.jQ(h:look e t=some (ptr b o))(hT:Ur P T s)(hs:vs.length=s)(hr:fH K H b o vs):R1 Mo P K n (.cell t T) e H (.agg vs.toArray):=fun a w ha hw=>by
 have h1:=run_loadCells_list (P:=P) w ⟨b,o,none⟩ vs (fun j v hj=>by
  obtain⟨a',h1,h2⟩:=hr j v hj w hw;injection h1 with h1;subst h1;rwa [jM])
 subst hs;simp only[Rg,ha.at_ t _ h];simp[asAddr,loadVar,hT.1 w,hT.2 w,h1]
theorem R1.JH(h:look e t=some (.pointer p))(hT:M9 P T)(hr:Rd K H p v):R1 Mo P K n (.cell t T) e H v:=fun a w ha hw=>by
 obtain⟨p',rfl,h2⟩:=hr w hw;simp only[Rg,ha.at_ t _ h];simp[asAddr,loadVar,hT w,h2]
theorem bJ.one(hr:fn.results= #[r])(h:R1 Mo P K n r e H v):bJ Mo P K n fn e H v:=fun a w ha hw=>by
 rw[Bn,hr];simp[h a w ha hw]
theorem bJ.two(hr:fn.results= #[r,r'])(h:R1 Mo P K n r e H v)(h':R1 Mo P K n r' e H v'):bJ Mo P K n fn e H (.tuple #[v,v']):=fun a w ha hw=>by
 rw[Bn,hr];simp[h a w ha hw,h' a w ha hw]
theorem WL.nM{T E bytes m:Nat}(hT:P.underlying T=some (.slice E))(hE:dH P E 1 bytes z)(hx:OV true e x (.int k l))(hy:OV true e y (.int k' q))
 (hl:l=(m:Int)) (hq:q=(m:Int)) (hb:(bytes:Int)*(m:Int)≤281474976710656) (RH:blt 0 bytes=true) (hz:z.cells= #[z]) (hd:blt d n=true)
 (h:∀b,WL Mo P K n ops rest Q ((d,.slice (some ⟨b,0,none⟩) m m)::e) (ah b E (replicate m z)::H)) :
 WL Mo P K n ops (⟨some d,.makeSlice T x y,ty,pos,af,none⟩::rest) Q e H:=by
 obtain⟨i,hi,hiz,hs,JC,hzs,h0⟩:=hE;subst hl hq;have amH:0<bytes:=by simpa using RH
 have h63:(m:Int)≤9223372036854775807:=by
  have :(1:Int)*(m:Int)≤(bytes:Int)*(m:Int):=Int.mul_le_mul_of_nonneg_right (by omega) (by omega);omega
 have ali:(madeCells z.cells ((m:Int).toNat*i.size)).toList=replicate m z:=by
  rw[hz,hs];apply ext_getElem
  ·simp[madeCells]
  ·intro j h1 h2;simp[madeCells,mod_one]
 refine WL.makeSlice hT hi hiz hx hy (by omega) (Int.le_refl _) (by rw[JC];exact hb) h63 hd (fun b=> ?_);rw[ali];exact h b
theorem WL.af0{T E bytes:Nat}(m:Nat)(hT:P.underlying T=some (.slice E))(hE:dH P E 1 bytes z)(hx:OV true e x (.int k l))(hy:OV true e y (.int k' q))
 (hl:l=(m:Int)) (hq:q=(m:Int)) (hb:(bytes:Int)*(m:Int)≤281474976710656) (RH:blt 0 bytes=true) (hz:z.cells= #[z]) (hc:replicate m z=cs) (hd:blt d n=true)
 (h:∀b,WL Mo P K n ops rest Q ((d,.slice (some ⟨b,0,none⟩) m m)::e) (ah b E cs::H)) :
 WL Mo P K n ops (⟨some d,.makeSlice T x y,ty,pos,af,none⟩::rest) Q e H:=WL.nM hT hE hx hy hl hq hb RH hz hd (by rw[hc];exact h)
end Go.Sl
namespace Go.Sl
open Go.RowKit List Nat
theorem cZ:(∀(p:Prop) [Decidable p],(decide p=true)=p)∧(∀(p:Prop) [Decidable p],(decide p=false)=¬p) :=
 ⟨fun _ _=>decide_eq_true_eq,fun _ _=>propext decide_eq_false_iff_not⟩
theorem oK:(∀b:Bool,((!b)=true)=(b=false))∧(∀b:Bool,((!b)=false)=(b=true))∧(∀(p:Prop) [Decidable p],(decide p=true)=p)∧(∀(p:Prop) [Decidable p],(decide p=false)=¬p) :=
 ⟨fun b=>by simp,fun b=>by simp,cZ.1,cZ.2⟩
theorem Gi:(∀a b:Bool,((a&&b)=true)=(a=true∧b=true))∧(∀a b:Bool,((a&&b)=false)=(a=false∨b=false))∧(∀(p:Prop) [Decidable p],(decide p=true)=p)∧(∀(p:Prop) [Decidable p],(decide p=false)=¬p) :=
 ⟨fun a b=>by cases a<;>cases b<;>simp,fun a b=>by cases a<;>cases b<;>simp,cZ.1,cZ.2⟩
theorem Gd:(∀a b:Bool,((a&&b)=true)=(a=true∧b=true))∧(∀a b:Bool,((a||b)=true)=(a=true∨b=true))∧(∀a b:Bool,((a&&b)=false)=(a=false∨b=false))∧(∀a b:Bool,((a||b)=false)=(a=false∧b=false))∧(∀b:Bool,((!b)=true)=(b=false))∧(∀b:Bool,((!b)=false)=(b=true))∧(∀b:Bool,(¬b=true)=(b=false))∧(∀b:Bool,(¬b=false)=(b=true))∧(∀(p:Prop) [Decidable p],(decide p=true)=p)∧(∀(p:Prop) [Decidable p],(decide p=false)=¬p) :=
 ⟨fun a b=>by cases a<;>cases b<;>simp,fun a b=>by cases a<;>cases b<;>simp,fun a b=>by cases a<;>cases b<;>simp,fun a b=>by cases a<;>cases b<;>simp,fun b=>by simp,fun b=>by simp,fun b=>by simp,fun b=>by simp,cZ.1,cZ.2⟩
theorem iC:(∀a b:Int,(¬a<b)=(b≤a))∧(∀a b:Int,(¬a≤b)=(b<a))∧(∀a b:Bool,((a&&b)=true)=(a=true∧b=true))∧(∀a b:Bool,((a||b)=true)=(a=true∨b=true))∧(∀a b:Bool,((a&&b)=false)=(a=false∨b=false))∧(∀a b:Bool,((a||b)=false)=(a=false∧b=false))∧(∀b:Bool,((!b)=true)=(b=false))∧(∀b:Bool,((!b)=false)=(b=true))∧(∀b:Bool,(¬b=true)=(b=false))∧(∀b:Bool,(¬b=false)=(b=true))∧(∀(p:Prop) [Decidable p],(decide p=true)=p)∧(∀(p:Prop) [Decidable p],(decide p=false)=¬p) :=
 ⟨fun a b=>propext Int.not_lt,fun a b=>propext Int.not_le,Gd⟩
theorem eO{K:World}{H F:List aH}(h:∀w,Sat K w H→Sat K w F:=by intro w h;repeat (first | exact h | replace h:=h.tail)):∀w,Sat K w H→Sat K w F:=h
theorem tN{K:World}{H:List aH}{b o:Nat}{vs:List Value}(h:fH K H b o vs:=by repeat (first | exact fH.ED ⟨rfl,rfl,rfl,rfl,rfl,trivial⟩ | apply fH.up)):fH K H b o vs:=h
theorem adS{K:World}{H:List aH}{b o:Nat}{vs:List Value}(h:fH K H b o vs:=by repeat (first | exact fH.ED ⟨rfl,rfl,rfl,trivial⟩ | apply fH.up)):fH K H b o vs:=h
theorem wL{K:World}{H:List aH}{b o:Nat}{vs:List Value}(h:fH K H b o vs:=by repeat (first | exact fH.all | apply fH.up)):fH K H b o vs:=h
theorem lD{K:World}{H:List aH}{q:Option Addr}{v:Value}(h:Rd K H q v:=by repeat (first | exact Rd.here rfl | apply Rd.up)):Rd K H q v:=h
theorem Jy{a b:Prop}(h:a→b:=by intro hc;first | omega | (simp at hc;omega)):a→b:=h
theorem bC{E e:Env}(h:Sub E e:=by repeat (first | exact Sub.nil _ | refine Sub.cons rfl ?_ | refine Sub.cons (look_eq rfl (by simp)) ?_)):Sub E e:=h
theorem qR{P:Program}{K:World}{n:Nat}{e:Env}{H:List aH}{r:Option (Option Nat)}{fn:Func}{post:Value→List aH→Prop}{v:Value}{t:Tmp}(H':List aH)(hr:fn.results= #[.tmp t])(h:look e t=some v)(hs:∀w,Sat K w H→Sat K w H')(hp:post v H'):aF P K n fn post ⟨r,[]⟩ .ret e H:=aF.ret (bJ.tmp hr h) hs hp
theorem rA{P:Program}{K:World}{n:Nat}{e:Env}{H:List aH}{Mo:Mode}{fn:Func}{t u T b o:Nat}{v0 v1 v2 v3 v4 v':Value}(hr:fn.results= #[.cell t T,.tmp u])(h:look e t=some (ptr b o))(hT:Ur P T 5)(h':look e u=some v')(hs:fH K H b o [v0,v1,v2,v3,v4]:=by repeat (first | exact fH.ED ⟨rfl,rfl,rfl,rfl,rfl,trivial⟩ | apply fH.up)):bJ Mo P K n fn e H (.tuple #[.agg [v0,v1,v2,v3,v4].toArray,v']):=bJ.two hr (R1.jQ h hT rfl hs) (R1.tmp h')
theorem ay{p:Prop}(h:p:=by omega):p:=h
theorem aN{p:Prop}(h:p:=by decide):p:=h
theorem cO{K:World}{H:List aH}:∀w,Sat K w H→Sat K w H:=fun _ h=>h
theorem aB.en{P:Program}{K:World}{n:Nat}{H:List aH}{E:Env}{f:FuncId}{fn:Func}{c:Code}{vs:List Value}{post:Value→List aH→Prop}(hf:P.funcs[f]? =some fn)(hn:fn.ntmps=n)
 (h:WC ⟨none,[]⟩ P K n c (aF P K n fn post) E H) (hb:fn.body=some c:=by exact rfl) (hl:ble vs.length n=true:=by exact rfl) (hE:kV 0 vs=E:=by first | (simp only[kV,reduceAdd];done) | (simp only[kV,reduceAdd];rfl)):aB P f vs.toArray K H post :=
 aB.enter hf hb hn hl (hE ▸ h)
section
variable{Mo:Mode}{P:Program}{K:World}{n:Nat}{Q:iX}{e:Env}{H G:List aH}{u:Value}{ty:TypeId}{pos:String}{af:Array Edge}{ops:Array Oper}{rest:List Oper}{d:Nat}{f:FuncId}{ats:Array TypeId}{post:Value→List aH→Prop}{x1 x2 x3 x4:Operand}{v1 v2 v3 v4:Value}
theorem ak{c:Bool}{x:Operand}{v:Value}(h:sQ e x=some v):OV c e x v:=OV.p h
theorem WL.c1(hf:bP P f)(h1:sQ e x1=some v1)(hF:aB P f #[v1] K H post)(hd:blt d n=true)(h:∀v H',post v H'→WL Mo P K n ops rest Q ((d,v)::e) H'):WL Mo P K n ops (⟨some d,.call ⟨.value (.func f),#[x1],ats⟩,ty,pos,af,none⟩::rest) Q e H:=WL.call (xs:=[x1]) (vs:=[v1]) hf ⟨OV.p h1,trivial⟩ hF hd h
theorem WL.t1(hf:bP P f)(h1:sQ e x1=some v1)(hF:aB P f #[v1] K H fun v H'=>v=u∧H'=G)(hd:blt d n=true)(h:WL Mo P K n ops rest Q ((d,u)::e) G):WL Mo P K n ops (⟨some d,.call ⟨.value (.func f),#[x1],ats⟩,ty,pos,af,none⟩::rest) Q e H:=WL.call (xs:=[x1]) (vs:=[v1]) hf ⟨OV.p h1,trivial⟩ hF hd fun _ _ hp=>by obtain⟨rfl,rfl⟩:=hp;exact h
theorem WL.c2(hf:bP P f)(h1:sQ e x1=some v1)(h2:sQ e x2=some v2)(hF:aB P f #[v1,v2] K H post)(hd:blt d n=true)(h:∀v H',post v H'→WL Mo P K n ops rest Q ((d,v)::e) H'):WL Mo P K n ops (⟨some d,.call ⟨.value (.func f),#[x1,x2],ats⟩,ty,pos,af,none⟩::rest) Q e H:=WL.call (xs:=[x1,x2]) (vs:=[v1,v2]) hf ⟨OV.p h1,OV.p h2,trivial⟩ hF hd h
theorem WL.t2(hf:bP P f)(h1:sQ e x1=some v1)(h2:sQ e x2=some v2)(hF:aB P f #[v1,v2] K H fun v H'=>v=u∧H'=G)(hd:blt d n=true)(h:WL Mo P K n ops rest Q ((d,u)::e) G):WL Mo P K n ops (⟨some d,.call ⟨.value (.func f),#[x1,x2],ats⟩,ty,pos,af,none⟩::rest) Q e H:=WL.call (xs:=[x1,x2]) (vs:=[v1,v2]) hf ⟨OV.p h1,OV.p h2,trivial⟩ hF hd fun _ _ hp=>by obtain⟨rfl,rfl⟩:=hp;exact h
theorem WL.c3(hf:bP P f)(h1:sQ e x1=some v1)(h2:sQ e x2=some v2)(h3:sQ e x3=some v3)(hF:aB P f #[v1,v2,v3] K H post)(hd:blt d n=true)(h:∀v H',post v H'→WL Mo P K n ops rest Q ((d,v)::e) H'):WL Mo P K n ops (⟨some d,.call ⟨.value (.func f),#[x1,x2,x3],ats⟩,ty,pos,af,none⟩::rest) Q e H:=WL.call (xs:=[x1,x2,x3]) (vs:=[v1,v2,v3]) hf ⟨OV.p h1,OV.p h2,OV.p h3,trivial⟩ hF hd h
theorem WL.t3(hf:bP P f)(h1:sQ e x1=some v1)(h2:sQ e x2=some v2)(h3:sQ e x3=some v3)(hF:aB P f #[v1,v2,v3] K H fun v H'=>v=u∧H'=G)(hd:blt d n=true)(h:WL Mo P K n ops rest Q ((d,u)::e) G):WL Mo P K n ops (⟨some d,.call ⟨.value (.func f),#[x1,x2,x3],ats⟩,ty,pos,af,none⟩::rest) Q e H:=WL.call (xs:=[x1,x2,x3]) (vs:=[v1,v2,v3]) hf ⟨OV.p h1,OV.p h2,OV.p h3,trivial⟩ hF hd fun _ _ hp=>by obtain⟨rfl,rfl⟩:=hp;exact h
theorem WL.c4(hf:bP P f)(h1:sQ e x1=some v1)(h2:sQ e x2=some v2)(h3:sQ e x3=some v3)(h4:sQ e x4=some v4)(hF:aB P f #[v1,v2,v3,v4] K H post)(hd:blt d n=true)(h:∀v H',post v H'→WL Mo P K n ops rest Q ((d,v)::e) H'):WL Mo P K n ops (⟨some d,.call ⟨.value (.func f),#[x1,x2,x3,x4],ats⟩,ty,pos,af,none⟩::rest) Q e H:=WL.call (xs:=[x1,x2,x3,x4]) (vs:=[v1,v2,v3,v4]) hf ⟨OV.p h1,OV.p h2,OV.p h3,OV.p h4,trivial⟩ hF hd h
theorem WL.t4(hf:bP P f)(h1:sQ e x1=some v1)(h2:sQ e x2=some v2)(h3:sQ e x3=some v3)(h4:sQ e x4=some v4)(hF:aB P f #[v1,v2,v3,v4] K H fun v H'=>v=u∧H'=G)(hd:blt d n=true)(h:WL Mo P K n ops rest Q ((d,u)::e) G):WL Mo P K n ops (⟨some d,.call ⟨.value (.func f),#[x1,x2,x3,x4],ats⟩,ty,pos,af,none⟩::rest) Q e H:=WL.call (xs:=[x1,x2,x3,x4]) (vs:=[v1,v2,v3,v4]) hf ⟨OV.p h1,OV.p h2,OV.p h3,OV.p h4,trivial⟩ hF hd fun _ _ hp=>by obtain⟨rfl,rfl⟩:=hp;exact h
end
end Go.Sl
namespace Go.Sl
open Go.RowKit Go.BigFrame List Nat
theorem Ku{w:World}(h:w.cell? a=some v):a=⟨a.block,a.off,none⟩:=by
 cases a with
 | mk b o s =>
  cases s with
  | none=>rfl
  | some x =>
   unfold World.cell? at h;split at h<;>simp at h
theorem V.iM{S T E cap:Nat}(hS:P.underlying S=some (.slice E))(hE:P.underlying E=some (.int .u8))(hT:P.underlying T=some .string)(hx:OV c e x (.slice A m cap))
 (hs:c=true→Seq K H A m 1 (ints .u8 xs)):eX Mo P K n c e H ⟨dst,.convert S T x,ty,pos,af,gd⟩ (.string (strOfNums xs)):=fun hc a w ha hw=>by
 show ((do pure (Next.value (←convert S T (a.eval x)))):Sem Next).run P w=_;rw[hx.ev hc ha];have hq:=hs hc;have hl:xs.length=m:=by simpa [ints] using hq.len
 have Kw:(convert S T (.slice A m cap)).run P w= .ok (.string (strOfNums xs)) w:=by
  cases A with
  | none =>
   have :xs=[]:=by
    cases xs with
    | nil=>rfl
    | cons y ys=>obtain⟨p,k1,_⟩:=hq.rd 0 _ rfl w hw;simp at k1
   subst this;exact run_convert_bytes_nil w S E hS hE m cap T hT
  | some p =>
   rcases eq_zero_or_pos m with h0 | h0
   ·subst h0;have :xs=[]:=eq_nil_of_length_eq_zero hl;subst this;simp[convert,run_underlying hS,run_underlying hE,run_underlying hT,Conv.bytesToString,loadCells,loadCellsFrom,strOfNums,ByteArray.empty,ByteArray.emptyWithCapacity];try rfl
   ·have Wy:∀i,i<m→w.cell? (p.add i)=some (.int .u8 (xs.getD i 0)):=fun i hi=>by
     obtain⟨q,k1,k2⟩:=hq.rd i _ (tY .u8 xs ay) w hw;simp at k1;subst k1;exact k2
    have hp:=Ku (by have :=Wy 0 h0;rwa [show p.add 0=p from rfl] at this);rw[hp];refine run_convert_bytes_arg w S E hS hE p.block p.off m cap xs hl (fun i hi=> ?_) T hT;have :=Wy i hi;rw[hp,jM] at this;exact this
 simp[Kw]
def bF(xs:List Int):Prop:=∀x∈xs,0≤x∧x<256
theorem bF.at_(h:bF xs)(i:Nat):0≤xs.getD i 0∧xs.getD i 0<256:=by
 by_cases hi:i<xs.length
 ·have :=h xs[i] (by simp)
  simpa [getD,hi] using this
 ·simp[getD,getElem?_eq_none (Nat.le_of_not_lt hi)]
theorem bF.wide(h:bF xs)(i:Nat): -9223372036854775808≤xs.getD i 0∧xs.getD i 0≤9223372036854775807:=by have :=h.at_ i;omega
theorem Kl(hx:bF xs)(hy:bF ys)(h:(strOfNums xs).data.toList=(strOfNums ys).data.toList):xs=ys:=by
 simp only[strOfNums_data] at h
 induction xs generalizing ys with
 | nil=>cases ys with
  | nil=>rfl
  | cons y ys=>simp at h
 | cons x xs ih =>
  cases ys with
  | nil=>simp at h
  | cons y ys =>
   simp only[map_cons,List.cons.injEq] at h;obtain⟨h1,h2⟩:=h;have e1:=hx x (by simp);have e2:=hy y (by simp);have h3:=congrArg UInt8.toNat h1;simp only[UInt8.toNat_ofNat'] at h3;have :x=y:=ay;subst this;rw[ih (fun z hz=>hx z (by simp[hz])) (fun z hz=>hy z (by simp[hz])) h2]
theorem sZ(hx:bF xs)(hy:bF ys):((strOfNums xs).toList==(strOfNums ys).toList)=decide (xs=ys):=by
 have hl:∀b:ByteArray,b.toList=b.data.toList:=fun b=>ByteArray.toList_eq b;rw[hl,hl,Bool.eq_iff_iff];simp only[beq_iff_eq,decide_eq_true_eq];exact⟨Kl hx hy,fun h=>by rw[h]⟩
theorem WL.adU{T':Nat}(hT:fq P T E 1)(hx:OV true e x (.slice (some ⟨b,o,none⟩) dl dc))
 (hn:s.data.toList.map (fun b=>Value.int .u8 b.toNat)=news) (hl:ble s.size dl=true) (hu:bT K H b o news H') (hd:blt d n=true)
 (h:WL Mo P K n ops rest Q ((d,.i (news.length:Int))::e) H'):WL Mo P K n ops (⟨some d,.call ⟨.builtin .copy,#[x,.const (.string s)],#[T,T']⟩,ty,pos,af,none⟩::rest) Q e H:=by
 refine WL.RQ (R:=fun v ou=>v= .i (news.length:Int)∧ou=H') (fun a w ha hw=> ?_) hd (fun v ou ⟨e1,e2⟩=>by subst e1 e2;exact h);have h1:∀v∈news,v.oneCell'=true:=by rw[←hn];simp[Value.oneCell']
 obtain⟨k1,k2⟩:=hu.run (P:=P) hw h1;refine⟨_,_,H', ?_,k2,rfl,rfl⟩;have hlen:news.length=s.size:=by rw[←hn,length_map];rfl
 have Dp:s.size≤dl:=by simpa using hl
 have ht:List.take s.size (List.map (fun b:UInt8=>Value.int .u8 b.toNat) s.data.toList)=news:=by rw[hn];exact take_of_length_le ay
 have hm:s.size.min dl=s.size:=Nat.min_eq_left Dp;rw[execOp_builtin,builtin_copy];have Km:=hx.ev rfl ha;have Qt:a.eval (.const (.string s))= .string s:=rfl;simp[Builtin.copy_,Km,Qt,hT.1 w,hT.2 w,Builtin.lenOf,Builtin.firstCells,hm,ht,k1,goInt,hlen]
theorem WL.D7{T E bytes:Nat}(hT:P.underlying T=some (.slice E))(hE:dH P E s bytes z)(hx:OV true e x (.slice A m cap))(hy:OV true e y (.slice B q cap'))
 (hs:Seq K H A m s cs) (hn:Seq K H B q s news) (wH:cap<m+q) (hm0:0<m) (hq0:0<q) (hb:(m+q)*bytes≤140737488355328) (JC:blt 0 bytes=true) (hd:blt d n=true)
 (h:∀A cap,(A=none→m+q=0∧cap=0)→m+q≤cap→WL Mo P K n ops rest Q ((d,.slice A (m+q) cap)::e) (aV (.slice A (m+q) cap) E s (m+q) (cs++news)::H)) :
 WL Mo P K n ops (⟨some d,.call ⟨.builtin .append,#[x,y],#[T,T]⟩,ty,pos,af,none⟩::rest) Q e H:=by
 refine WL.RQ (R:=fun u H'=>∃A cap,u= .slice A (m+q) cap∧(A=none→m+q=0∧cap=0)∧m+q≤cap∧H'=aV (.slice A (m+q) cap) E s (m+q) (cs++news)::H) (fun a w ha hw=> ?_) hd (fun u H' ⟨A,cap,e1,e2,e3,e4⟩=>by subst e1 e4;exact h A cap e2 e3);obtain⟨i,hi,hz,Zp,TT,hzs,h0⟩:=hE;have RH:0<bytes:=by simpa using JC
 have hle:m+q≤140737488355328:=Nat.le_trans (Nat.le_mul_of_pos_right _ RH) hb;have aeL:m+q≤maxLen:=by simp only[maxLen];omega
 have Km:=hx.ev rfl ha;have Qt:=hy.ev rfl ha;have qX:0<cs.length:=by rw[hs.len];exact Nat.mul_pos hm0 h0
 have hns:0<news.length:=by rw[hn.len];exact Nat.mul_pos hq0 h0
 obtain⟨pa,rfl,_⟩:=hs.cell hw (i:=0) (v:=cs[0]) (by simp);obtain⟨pb,rfl,_⟩:=hn.cell hw (i:=0) (v:=news[0]) (by simp);have holds:∀j v,cs[j]? =some v→w.cell? (pa.add j)=some v:=fun j v hj=>by
  obtain⟨p,k1,k2⟩:=hs.cell hw hj;simp at k1;subst k1;exact k2
 have acG:∀j v,news[j]? =some v→w.cell? (pb.add j)=some v:=fun j v hj=>by
  obtain⟨p,k1,k2⟩:=hn.cell hw hj;simp at k1;subst k1;exact k2
 subst Zp TT;have hr:=run_append_grow (P:=P) w T ty E i z hT hi hz pa m cap cs hs.len holds pb q cap' news hn.len acG wH ay (growslice_fits wH hb);have hge:=grownCap_ge w (m+q) cap E;have Zi:=grownCap_le_maxLen w (m+q) cap E aeL;have hlen:(cs++news).length=(m+q)*i.size:=by rw[length_append,hs.len,hn.len,Nat.add_mul]
 refine⟨.slice (some ⟨w.heap.size,0,none⟩) (m+q) (grownCap w (m+q) cap E),w.drew.alloc (.cells (cs.toArray++news.toArray++Builtin.zeroCells z.cells (grownCap w (m+q) cap E-(m+q))) E),
  aV (.slice (some ⟨w.heap.size,0,none⟩) (m+q) (grownCap w (m+q) cap E)) E i.size (m+q) (cs++news)::H, ?_,⟨hw.1.grow rfl rfl rfl (by simp), ?_⟩,_,_,rfl,(fun h=>by simp at h),hge,rfl⟩
 ·rw[execOp_builtin,builtin_append];simp only[map_toArray,map_cons,map_nil,Km,Qt,Sem.run_bind,hr,Result.andThen_ok,Sem.run_pure]
 ·refine hw.2.push (by simp) (fun b wE=> ?_) ?_ (fun b wE=> ?_)
  ·exact heap_alloc_old w.drew _ wE
  ·refine⟨hlen,.inr ⟨w.heap.size,_,_,rfl,zero_le _,heap_alloc_new w.drew _,hge,Zi, ?_, ?_⟩⟩
   ·simp only[Array.size_append,size_toArray,size_zeroCells,hzs,hs.len,hn.len,←Nat.add_mul];congr 1;omega
   ·simp only[Array.toList_append,append_assoc];rw[←append_assoc,←hlen];exact take_left
  ·simp[aV,Value.ownBlock] at wE;subst wE;simp
def lZ(b T:Nat)(cs:List Value):aH where
 jA x:=x=b
 holds w:=∃fr,w.heap[b]? =some (.cells cs.toArray T fr)
 loc w w' h hw:=by rw[h b rfl];exact hw
theorem Rd.aeZ(h:cs[o]? =some v):Rd K (lZ b T cs::H) (some ⟨b,o,none⟩) v:=fun w hw=>by
 refine⟨_,rfl, ?_⟩;obtain⟨fr,this⟩:=hw.head;simp[World.cell?,this,h]
theorem Seq.agX(hl:cs.length=m*s):Seq K (lZ b T cs::H) (some ⟨b,0,none⟩) m s cs:=⟨hl,fun i v hi=>by
 have :=Rd.aeZ (K:=K) (H:=H) (b:=b) (T:=T) (o:=i) hi
 simpa [jM] using this⟩
theorem WL.acd{T:Nat}(hT:P.underlying T=some (.slice E))(hE:P.underlying E=some (.int .u8))(hx:OV true e x (.slice (some ⟨b,0,none⟩) m cap))(hd:blt d n=true)
 (h:WL Mo P K n ops rest Q ((d,.slice (some ⟨b,0,none⟩) m cap)::e) (lZ b E cs::H)) :
 WL Mo P K n ops (⟨some d,.convert T T x,ty,pos,af,none⟩::rest) Q e (ah b E cs::H):=by
 refine WL.RQ (R:=fun u H'=>u= .slice (some ⟨b,0,none⟩) m cap∧H'=lZ b E cs::H) (fun a w ha hw=> ?_) hd (fun u H' ⟨e1,e2⟩=>by subst e1 e2;exact h);have hb:=hw.head;simp only[ah] at hb;have hsh:w.shape? b=some (E,cs.length):=by simp[World.shape?,hb]
 refine⟨_,w.freeze ⟨b,cs.length,none⟩ 1,_, ?_,⟨hw.1.grow ?_ ?_ ?_ ?_, ?_⟩,rfl,rfl⟩
 ·show ((do pure (Next.value (←convert T T (a.eval x)))):Sem Next).run P w=_;rw[hx.ev rfl ha];simp[convert,run_underlying hT,run_underlying hE,markStringish,hsh]
 ·simp[World.freeze]
 ·simp[World.freeze]
 ·simp[World.freeze]
 ·simp[World.freeze]
 ·refine hw.2.set (A':=lZ b E cs) (by simp[World.freeze]) (fun k hk _=> ?_) ?_ (fun k hk=> .inl hk)
  ·have :b≠k:=fun h=>hk h.symm;simp[World.freeze,Array.getElem?_modify,this]
  ·refine⟨(cs.length,cs.length+1), ?_⟩;simp[World.freeze,Array.getElem?_modify,hb]
theorem WC.abO{α:Type}(P':α→Prop)(E:α→Env)(M:α→List aH)(a:α)(ha:P' a)(hE:Sub (E a) e)(hM:∀w,Sat K w H→Sat K w (M a))
 (h:∀a,P' a→WC Mo P K n code Q (E a) (M a)):WC Mo P K n code Q e H:=WC.sub hE hM (h a ha)
end Go.Sl
namespace Go.Sl
open Go.ChangeShapes Go.WideShapes Go.ChangeAt Go.RowKit List Nat
theorem aes{H:Type}{enc:TypeId×Value→H}(hl:laidOutB P=true){sp:Nat→Bool}:∀ {ts:List TypeId} {vs:List Value} {ds:List (DataW H)} {ps:List MemPlace},(∀t∈ts,P.readableRec t=true∧t<P.types.size) →
 DataW.TrodAll enc P W 0 (fun _=>true) true ts vs ds ps→(∀p∈ps,W.sameAt W' p)→(∀p∈ps,sp p.block=true)→DataW.TrodAll enc P W' 0 sp true ts vs ds ps:=by
 intro ts
 induction ts with
 | nil =>
  intro vs ds ps _ h _ _;cases vs<;>cases ds<;>first | exact h | exact h.elim
 | cons t ts ih =>
  intro vs ds ps hr h hs hp;cases vs with
  | nil=>cases ds<;>exact h.elim
  | cons v vs =>
   cases ds with
   | nil=>exact h.elim
   | cons d ds =>
    obtain⟨p,q,h1,h2,e⟩:=h;subst e;obtain⟨r1,r2⟩:=hr t (by simp);exact⟨p,q,WideElems.Trod_stays hl r1 r2 h1 (fun x hx=>hs x (by simp[hx])) (fun x hx=>hp x (by simp[hx])),ih (fun t ht=>hr t (by simp[ht])) h2 (fun x hx=>hs x (by simp[hx])) (fun x hx=>hp x (by simp[hx])),rfl⟩
theorem qW{H:Type}{enc:TypeId×Value→H}:∀ {ts:List TypeId} {vs:List Value} {ds:List (DataW H)} {ps:List MemPlace},DataW.TrodAll enc P W base spare held ts vs ds ps→vs.length=ts.length∧ds.length=ts.length:=by
 intro ts
 induction ts with
 | nil=>intro vs ds ps h;cases vs<;>cases ds<;>first | exact⟨rfl,rfl⟩ | exact h.elim
 | cons t ts ih =>
  intro vs ds ps h;cases vs with
  | nil=>cases ds<;>exact h.elim
  | cons v vs =>
   cases ds with
   | nil=>exact h.elim
   | cons d ds =>
    obtain⟨p,q,h1,h2,e⟩:=h;have :=ih h2;simp[this]
theorem ab5{H:Type}{enc:TypeId×Value→H}{s:ChangeSpec}{ds gs:List (DataW H)}(hl:laidOutB P=true)
 (hr:f.params.toList.all (fun t=>P.readableRec t&&decide (t<P.types.size))=true) (hv:s.vars=[])
 (hf:∀ds:List (DataW H),ds.length=f.params.size→s.fn H ds= { results:=[.lit (.bool true)],args:=ds })
 (U0:f.resultTypes= #[tb]) (htb:P.underlying tb=some .bool) (hW:DataW.Whole enc P f.params.toList s.vars false W args.toList ds gs before) (hb:Below W.heap.size W W') :
 s.post enc P f false true false false W args (.bool true) W':=by
 have o7:∀p∈before,p.block<W.heap.size:=fun p hp=>hW.lt p hp;have hW0:=hW;obtain⟨p,q,hA,hV,rfl,hfz,vZ⟩:=hW;rw[hv] at hV;obtain⟨rfl,rfl⟩:=trodVars_none hV;have hlen:=(qW hA).2;have RS:=hf ds (by rw[hlen,Array.length_toList]);refine⟨ds,[],_,[],p,[],hW0, ?_, ?_, ?_,World.keptBut_mono (fun x hx=>hx) (hb.frame _),fun h=>by cases h⟩
 ·rw[append_nil,RS,U0];exact trodAll_mk1 (shut_bool htb true)
 ·rw[append_nil,RS];refine aes hl (fun t ht=> ?_) hA (fun x hx=>hb.same (o7 x (by simp[hx]))) (fun x hx=>by simpa using o7 x (by simp[hx]));have :=all_eq_true.1 hr t ht
  simpa using this
 ·rw[append_nil,RS,hv];rfl
theorem Tg{s:ChangeSpec}{H:Type}{enc:TypeId×Value→H}(own:ownKnob C.prog.godebug=none)(started:os.Started)(noInit:C.prog.inits.idxOf? f=none)
 (RS:C.prog.funcs[f]? =some fn)
 (witness:∃(w:World) (tape:Tape) (i:Input),w.os=os∧(w.forCall tape i).Shaped C.prog∧i.vars=[]∧Input.okWide C.prog (w.forCall tape i) .any w.heap.size f i ∧
  s.pre6 enc C.prog fn [] false (w.forCall tape i).memory i.args∧({}:Assume).holds C.prog (lone (Frame.enter C.prog f i.args .normal) [] (w.forCall tape i)))
 (hl:laidOutB C.prog=true) (hr:fn.params.toList.all (fun t=>C.prog.readableRec t&&decide (t<C.prog.types.size))=true) (hv:s.vars=[])
 (hf:∀ds:List (DataW H),ds.length=fn.params.size→s.fn H ds= { results:=[.lit (.bool true)],args:=ds })
 (U0:fn.resultTypes= #[tb]) (htb:C.prog.underlying tb=some .bool)
 (contract:∀(W:World) (base:Nat) (args:Array Value) (ds:List (DataW H)) (p:List MemPlace),(∀(j:Nat) t v,fn.params[j]? =some t→args[j]? =some v→Value.okWide C.prog W .any base t v) →
  DataW.TrodAll enc C.prog W 0 (fun _=>true) true fn.params.toList args.toList ds p→(∀x∈p,x.block<W.heap.size)→aK C.prog f args W [Old W] (.bool true)) :
 ReturnsInHanded {} C os f .any (s.pre6 enc C.prog fn [] false) (s.post enc C.prog fn false true false false):=by
 refine returnsInHanded_of_change own started noInit RS witness ?_;intro W base args ds gs before JE hW _ _;have hW0:=hW;obtain⟨p,q,hA,hV,rfl,hfz,vZ⟩:=hW;refine ((contract W base args ds p JE hA (fun x hx=>hW0.lt x (by simp[hx]))).call (Sat.YZ W)).mono fun e W' ⟨he,hw⟩=> ?_;exact⟨_,he,ab5 hl hr hv hf U0 htb hW0 hw.below⟩
def EF(P:Program)(t:TypeId)(v:Value):Prop :=
 match P.underlying t with
 | some (.int k)=>∃i,v= .int k i∧k.min≤i∧i≤k.max
 | some .bool=>∃b,v= .bool b
 | _=>True
theorem agc(h:Cell.okWide P W r base t v):EF P t v:=by
 unfold EF;cases hu:P.underlying t with
 | none=>trivial
 | some d =>
  cases d<;>simp only[Cell.okWide,hu] at h ⊢;all_goals cases v<;>simp_all [Cell.ok,IntKind.has]
theorem aa7(hu:∃d,P.underlying t=some d∧((∃fs,d= .struct fs)∨∃m e,d= .array m e))(hts:P.cellTypes P.depth t=some ts)(hn:P.cellsOf t=ts.length)(h:Value.okWide P W r base t v) :
 ∃ cs:Array Value,v= .agg cs∧cs.size=ts.length∧∀(i:Nat) u w,ts[i]? =some u→cs[i]? =some w→EF P u w:=by
 obtain⟨d,hd,ZB⟩:=hu;have h':∃cs,v= .agg cs∧cs.size=P.cellsOf t∧Row.okWide P W r base t cs:=by
  rcases ZB with ⟨fs,rfl⟩ | ⟨m,e,rfl⟩<;>simpa only[Value.okWide,hd] using h
 obtain⟨cs,rfl,JQ,ts',h1,_,h2⟩:=h';rw[hts] at h1;injection h1 with h1
 subst h1;refine⟨cs,rfl,JQ.trans hn,fun i u w hi hw=> ?_⟩;obtain⟨u',k1,k2⟩:=h2 i w hw;have o7:i<ts.length:=by
  rcases Nat.lt_or_ge i ts.length with h | h
  ·exact h
  ·rw[getElem?_eq_none h] at hi;cases hi
 rw[mod_eq_of_lt o7,hi] at k1;injection k1 with k1
 subst k1;exact agc k2
theorem EF.int(hu:P.underlying t=some (.int k))(h:EF P t v):∃i,v= .int k i∧k.min≤i∧i≤k.max:=by simpa only[EF,hu] using h
theorem adx(h:∀x∈xs,IntKind.u8.min≤x∧x≤IntKind.u8.max):bF xs:=fun x hx=>by
 have :=h x hx;have e1:IntKind.u8.min=0:=rfl;have e2:IntKind.u8.max=255:=rfl;omega
end Go.Sl
namespace Go.Sl
open Go.RowKit List Nat
def iW(P:Program)(k:Nat)(t:TypeId)(x y:Value)(b:Bool):Prop:=∀w,(Op.equalIn k t x y).run P w= .ok b w
def JZ(P:Program)(k:Nat)(xs ys:Array Value)(fs:List Field)(b:Bool):Prop:=∀w,(Op.eqFields k xs ys fs).run P w= .ok b w
def Nz(P:Program)(t:TypeId)(xs:Array Value)(o:Nat)(v:Value):Prop:=∀w,(part t xs o).run P w= .ok v w
theorem iW.int(h:P.underlying t=some (.int i)):iW P (k+1) t (.int i a) (.int i b) (decide (a=b)):=fun w=>by
 rw[run_equalIn_int w k t i i a b h];rfl
theorem iW.bool(h:P.underlying t=some .bool):iW P (k+1) t (.bool a) (.bool b) (a==b):=fun w=>run_equalIn_bool w k t a b h
theorem iW.string(h:P.underlying t=some .string):iW P (k+1) t (.string a) (.string b) (a.toList==b.toList):=fun w=>run_equalIn_string w k t a b h
theorem JZ.nil:JZ P k xs ys [] true:=fun w=>by simp[Op.eqFields]
theorem JZ.cons {P:Program} {k:Nat} {xs ys:Array Value} {f:Field} {fs:List Field} {a b:Value} {r s:Bool} (hn:(f.name== "_")=false) (ha:Nz P f.type xs f.offset a) (hb:Nz P f.type ys f.offset b) (he:iW P k f.type a b r) (hr:JZ P k xs ys fs s) :
 JZ P k xs ys (f::fs) (r&&s):=fun w=>by
 have hn':f.name≠ "_" :=by simpa using hn
 rw[Op.eqFields];simp only[if_pos hn',Sem.run_bind,ha w,hb w,he w,Result.andThen_ok];cases r
 ·simp
 ·simpa using hr w
theorem iW.struct(hu:P.underlying t=some (.struct fs))(hp:P.stoodInHeld t=false)(h:JZ P k xs ys fs.toList r):iW P (k+1) t (.agg xs) (.agg ys) r:=fun w=>by
 have hf:P.fieldsOf t=fs:=by simp[Program.fieldsOf,hu]
 rw[run_equalIn_struct (P:=P) w k t xs ys (by rw[hf];exact hu) hp,hf];exact h w
inductive Xb (P:Program) (k:Nat) (e n:Nat) (xs ys:Array Value):List Nat→Bool→Prop
 | nil:Xb P k e n xs ys [] true
 | cons {i:Nat} {is:List Nat} {a b:Value} {r s:Bool} (ha:Nz P e xs (i*n) a) (hb:Nz P e ys (i*n) b) (he:iW P k e a b r) (hr:Xb P k e n xs ys is s):Xb P k e n xs ys (i::is) (r&&s)
theorem iW.array{e:Nat}(hu:P.underlying t=some (.array m e))(hs:∀w,(sizeOf e).run P w= .ok n w)(h:Xb P k e n xs ys (range' 0 m 1) r):iW P (k+1) t (.agg xs) (.agg ys) r:=fun w=>by
 rw[Op.equalIn];simp only[Sem.run_bind,run_underlying hu,Result.andThen_ok,hs,Std.Legacy.Range.forIn_eq_forIn_range',Std.Legacy.Range.size,Nat.sub_zero,Nat.add_sub_cancel,Nat.div_one]
 generalize range' 0 m 1=l at h ⊢
 induction h with
 | nil=>simp
 | @cons i is a b r s ha hb he hr ih =>
  simp only[forIn_cons,Sem.run_bind,ha w,hb w,he w,Result.andThen_ok];cases r
  ·simp
  ·simp only[Bool.not_true,Bool.false_eq_true,if_false,Sem.run_pure,Result.andThen_ok,Bool.true_and];exact ih
theorem V.agF(hm:P.eqGuardType P.depth t=false)(hx:OV c e x (.agg xs))(hy:OV c e y (.agg ys))(h:iW P 10000 t (.agg xs) (.agg ys) b) :
 eX Mo P K n c e H ⟨dst,.binOp .eql t x y t',ty,pos,af,gd⟩ (.bool b):=fun hc a w ha _ =>
 rX (hx.ev hc ha) (hy.ev hc ha) (run_eqGuard_agg w _ _ _ _ _ _ hm) (by rw[run_eql_struct,h w];rfl)
theorem V.Qc(hm:P.eqGuardType P.depth t=false)(hx:OV c e x (.agg xs))(hy:OV c e y (.agg ys))(h:iW P 10000 t (.agg xs) (.agg ys) b) :
 eX Mo P K n c e H ⟨dst,.binOp .neq t x y t',ty,pos,af,gd⟩ (.bool (!b)):=fun hc a w ha _ =>
 rX (hx.ev hc ha) (hy.ev hc ha) (run_eqGuard_agg w _ _ _ _ _ _ hm) (by rw[run_neq_struct,h w];rfl)
end Go.Sl
