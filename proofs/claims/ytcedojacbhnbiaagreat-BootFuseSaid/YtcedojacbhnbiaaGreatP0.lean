import Derived.WalkKit
import Derived.Deep.Quiet
import Derived.Deep.LoopGhost
import Derived.CallsIn
import Derived.TacticsIn
import Derived.LoopNIn
import Derived.Sort.LoopGhostIn
import Derived.Maps.AppendAt
import Derived.Laws.MakeOwn
import Derived.Orders
import Derived.Laws.BytesArg
import Derived.Lib.Bytes
import Derived.ProofKit
set_option linter.unusedSimpArgs false
set_option linter.unusedVariables false
abbrev Go.Value.i(x:Int):Go.Value:= .int .i64 x
namespace Go.Sl
open Go.RowKit List Nat
structure Mode where
 round:Option (Option Nat)
 ds:List Deferred
abbrev IG:Option Nat→Fence
 | none=>Fence.wide
 | some l=>Fence.wide.inRound l
theorem AV(r:Option Nat)(f:FuncId):(IG r).fn f:=by cases r<;>trivial
theorem Mq{r:Option Nat}{P:Program}{f:FuncId}{args:Array Value}{w:World}{R:Ending→World→Prop}:CallsIn (IG r) 0 P f args w R↔Calls P f args w R:=by
 cases r
 ·exact callsIn_wide
 ·exact callsIn_wide (n:=0)
theorem zi(r:Option Nat):(IG r).depth.isSome=true→1≤0:=by cases r<;>intro h<;>cases h
def ML(M:Mode)(P:Program)(c:Code)(q:Exit→Act→World→Prop)(a:Act)(w:World):Prop :=
 match M.round with | none=>c.wp P q a w | some l=>c.wpIn (IG l) 0 P q a w
def lwp(M:Mode)(P:Program)(ops:Array Oper)(q:Exit→Act→World→Prop)(rest:List Oper)(a:Act)(w:World):Prop :=
 match M.round with | none=>wpList P ops q rest a w | some l=>wpListIn (IG l) 0 P ops q rest a w
def owp(M:Mode)(P:Program)(o:Oper)(a:Act)(w:World)(K:Act→World→Prop)(q:Exit→Act→World→Prop):Prop :=
 match M.round with | none=>o.wp P a w K q | some l=>o.wpIn (IG l) 0 P a w K q
section
variable{M:Mode}{P:Program}{q:Exit→Act→World→Prop}{a:Act}{w:World}
theorem xP{c:Code}{q':Exit→Act→World→Prop}(h:ML M P c q a w)(hq:∀x a w,q x a w→q' x a w):ML M P c q' a w:=by
 obtain⟨r,g⟩:=M;cases r
 ·exact wp_mono h hq
 ·exact wpIn_mono h hq
theorem aar(h:q .normal a w):ML M P .skip q a w:=by
 obtain⟨r,g⟩:=M;cases r
 ·exact wp_skip h
 ·exact wpIn_skip h
theorem Xm{l:Nat}(h:q .normal a w):ML M P (.label l) q a w:=by
 obtain⟨r,g⟩:=M;cases r
 ·exact wp_label h
 ·exact wpIn_label h
theorem aa5{id:Nat}(h:q (.exit id) a w):ML M P (.exit id) q a w:=by
 obtain⟨r,g⟩:=M;cases r
 ·exact wp_exit h
 ·exact wpIn_exit h
theorem aag{l:Nat}(h:q (.goto l) a w):ML M P (.goto l) q a w:=by
 obtain⟨r,g⟩:=M;cases r
 ·exact wp_goto h
 ·exact wpIn_goto h
theorem ae7(h:q .ret a w):ML M P .ret q a w:=by
 obtain⟨r,g⟩:=M;cases r
 ·exact wp_ret h
 ·exact wpIn_ret h
theorem ad2{x y:Code}(h:ML M P x (fun e a w=>match e with | .normal=>ML M P y q a w | e=>q e a w) a w):ML M P (.seq x y) q a w:=by
 obtain⟨r,g⟩:=M;cases r
 ·exact wp_seq (wp_mono h fun e a w h=>by cases e<;>exact h)
 ·exact wpIn_seq (wpIn_mono h fun e a w h=>by cases e<;>exact h)
theorem YA{id:Nat}{c:Code}(h:ML M P c (fun e a w=>match e with | .exit i=>if i=id then q .normal a w else q (.exit i) a w | e=>q e a w) a w):ML M P (.block id c) q a w:=by
 obtain⟨r,g⟩:=M;cases r
 ·refine wp_block (wp_mono h fun e a w h=> ?_);cases e<;>first | exact h | (simp only[Exit.inBlock] at h ⊢;split<;>simp_all)
 ·refine wpIn_block (wpIn_mono h fun e a w h=> ?_);cases e<;>first | exact h | (simp only[Exit.inBlock] at h ⊢;split<;>simp_all)
theorem abW{c:Operand}{x y:Code}{t:Bool}(hc:a.eval c= .bool t)(ht:t=true→ML M P x q a w)(hf:t=false→ML M P y q a w):ML M P (.cond c x y) q a w:=by
 obtain⟨r,g⟩:=M;cases r
 ·exact wp_cond_split hc ht hf
 ·exact wpIn_cond_split hc ht hf
theorem Tk{id:Nat}{l:List Oper}(h:lwp M P l.toArray q l a w):ML M P (.region id l.toArray false) q a w:=by
 obtain⟨r,g⟩:=M;cases r
 ·exact wp_region_lit h
 ·exact wpIn_region_lit h
theorem Rv{c:Code}(I:Nat→Act→World→Prop)(m:Nat)(h0:I m a w)(h:∀m a w,I m a w→ML M P c (fun e a w=>match e with | .normal=>∃m',m'<m∧I m' a w | e=>q e a w) a w):ML M P (.loop c) q a w:=by
 obtain⟨r,g⟩:=M;cases r
 ·exact wp_loop_ghost I m h0 fun m a w hi=>wp_mono (h m a w hi) fun e a w h=>by cases e<;>exact h
 ·exact wpIn_loop_ghost I m h0 fun m a w hi=>wpIn_mono (h m a w hi) fun e a w h=>by cases e<;>exact h
theorem aek{ops:Array Oper}(h:q .normal a w):lwp M P ops q [] a w:=by
 obtain⟨r,g⟩:=M;cases r
 ·exact wpList_nil (P:=P) (ops:=ops) h
 ·rename_i l;exact wpListIn_nil (F:=IG l) (n:=0) (P:=P) (ops:=ops) h
theorem vD{ops:Array Oper}{rest:List Oper}{o:Oper}(hw:Region.wanted o (yielded ops a.tmps)=true)(h:∀R:Act→World→Prop,(∀a w,lwp M P ops q rest a w→R a w)→owp M P o a w R q):lwp M P ops q (o::rest) a w:=by
 obtain⟨r,g⟩:=M;cases r
 ·exact wpList_step fun R hR=>by rw[if_pos hw];exact h R hR
 ·exact wpListIn_step fun R hR=>by rw[if_pos hw];exact h R hR
theorem kP{ops:Array Oper}{rest:List Oper}{o:Oper}(hg:o.guard=none)(h:∀R:Act→World→Prop,(∀a w,lwp M P ops q rest a w→R a w)→owp M P o a w R q):lwp M P ops q (o::rest) a w :=
 vD (by simp[Region.wanted,hg]) h
theorem qB{ops:Array Oper}{rest:List Oper}{o:Oper}(hw:Region.wanted o (yielded ops a.tmps)=false)(h:lwp M P ops q rest (a.put o.dst undef) w):lwp M P ops q (o::rest) a w:=by
 obtain⟨r,g⟩:=M;cases r
 ·exact wpList_step fun R hR=>by rw[hw];exact hR _ _ h
 ·exact wpListIn_step fun R hR=>by rw[hw];exact⟨fun f _=>AV _ f,hR _ _ h⟩
theorem ED{o:Oper}{ρ:Operand→Value}{w w':World}{nx:Next}(h:(execOp ρ o).run P w= .ok nx w')(hn:∀d,nx≠ .defer d):∀c,o.op≠ .defer c:=by
 intro c hc;unfold execOp at h;rw[hc] at h;simp only[Sem.run_bind] at h;cases hr:(resolve ρ c o.type).run P w with
 | ok d w2 =>
  rw[hr] at h;simp only[Result.andThen_ok,Sem.run_pure,Result.ok.injEq] at h;exact hn d h.1.symm
 | halt x w2=>rw[hr] at h;cases h
theorem zA{o:Oper}{K:Act→World→Prop}{v:Value}{w':World}(h:(execOp a.eval o).run P w= .ok (.value v) w')(hK:K (a.put o.dst v) w'):owp M P o a w K q:=by
 obtain⟨r,g⟩:=M;cases r
 ·show o.wp P a w K q;unfold Oper.wp;rw[h,Oper.upon_value];exact hK
 ·refine⟨fun f _=>AV _ f, ?_⟩;rw[Oper.semAt_eq _ _ _ (ED h (fun d=>by simp)),h,Oper.uponIn_value];exact hK
theorem ab1{o:Oper}{K:Act→World→Prop}{w':World}(h:(execOp a.eval o).run P w= .ok .skip w')(hK:K (a.put o.dst undef) w'):owp M P o a w K q:=by
 obtain⟨r,g⟩:=M;cases r
 ·show o.wp P a w K q;unfold Oper.wp;rw[h,Oper.upon_skip];exact hK
 ·refine⟨fun f _=>AV _ f, ?_⟩;rw[Oper.semAt_eq _ _ _ (ED h (fun d=>by simp)),h,Oper.uponIn_skip];exact hK
theorem D9{o:Oper}{K:Act→World→Prop}{f:FuncId}{args:Array Value}{w':World}(h:(execOp a.eval o).run P w= .ok (.enter f args) w')(hK:Calls P f args w' fun e w''=>∃v,e= .returned v∧K (a.put o.dst v) w''):owp M P o a w K q:=by
 obtain⟨r,g⟩:=M;cases r
 ·show o.wp P a w K q;unfold Oper.wp;rw[h,Oper.upon_enter];refine hK.mono ?_;rintro _ w'' ⟨v,rfl,h⟩;exact h
 ·rename_i l;refine⟨fun f _=>AV _ f, ?_⟩;rw[Oper.semAt_eq _ _ _ (ED h (fun d=>by simp)),h,Oper.uponIn_enter];refine⟨zi l, ?_⟩;have h1:CallsIn (IG l) 0 P f args w' (fun e w''=>∃v,e= .returned v∧K (a.put o.dst v) w''):=Mq.2 hK;refine h1.mono ?_;rintro _ w'' ⟨v,rfl,h⟩;exact h
end
structure aA where
 jF:Nat→Prop
 holds:World→Prop
 loc:∀w w':World,(∀b,jF b→w'.heap[b]? =w.heap[b]?)→holds w→holds w'
structure Vt(K w:World):Prop where
 os:w.os=K.os
 tape:w.tape=K.tape
 output:w.output=K.output
 size:K.heap.size≤w.heap.size
def bS(w:World):List aA→Prop
 | []=>True
 | A::H=>A.holds w∧(∀b,A.jF b→b<w.heap.size)∧(∀b,A.jF b→∀B∈H,¬B.jF b)∧bS w H
def Sat(K w:World)(H:List aA):Prop:=Vt K w∧bS w H
theorem bS.tail{w:World}{A:aA}{H:List aA}(h:bS w (A::H)):bS w H:=h.2.2.2
theorem Sat.tail{K w:World}{A:aA}{H:List aA}(h:Sat K w (A::H)):Sat K w H:=⟨h.1,h.2.tail⟩
theorem Sat.head{K w:World}{A:aA}{H:List aA}(h:Sat K w (A::H)):A.holds w:=h.2.1
theorem bS.drop{w:World}:∀(k:Nat) {H:List aA},bS w H→bS w (H.drop k)
 | 0,_,h=>h
 | _+1,[],h=>h
 | k+1,_::_,h=>bS.drop k h.tail
theorem Sat.drop{K w:World}{H:List aA}(k:Nat)(h:Sat K w H):Sat K w (H.drop k):=⟨h.1,h.2.drop k⟩
theorem bS.mem{w:World}:∀ {H:List aA} {A:aA},bS w H→A∈H→A.holds w∧∀b,A.jF b→b<w.heap.size
 | B::H,A,h,hm=>by
  rcases mem_cons.1 hm with rfl | hm
  ·exact⟨h.1,h.2.1⟩
  ·exact h.tail.mem hm
theorem bS.lI{w w':World}(hs:w.heap.size≤w'.heap.size):∀ {H:List aA},(∀A∈H,∀b,A.jF b→w'.heap[b]? =w.heap[b]?)→bS w H→bS w' H
 | [],_,_=>trivial
 | A::H,hk,h=>⟨A.loc w w' (hk A (.head _)) h.1,fun b hb=>Nat.lt_of_lt_of_le (h.2.1 b hb) hs,h.2.2.1,bS.lI hs (fun B hB=>hk B (.tail _ hB)) h.tail⟩
theorem bS.grow{w w':World}(hs:w.heap.size≤w'.heap.size)(hk:∀b,b<w.heap.size→w'.heap[b]? =w.heap[b]?){H:List aA}(h:bS w H):bS w' H :=
 h.lI hs fun A hA b hb=>hk b ((h.mem hA).2 b hb)
theorem bS.push{w w':World}(hs:w.heap.size≤w'.heap.size)(hk:∀b,b<w.heap.size→w'.heap[b]? =w.heap[b]?){H:List aA}(h:bS w H)
 {A:aA} (hA:A.holds w') (h1:∀b,A.jF b→w.heap.size≤b∧b<w'.heap.size):bS w' (A::H) :=
 ⟨hA,fun b hb=>(h1 b hb).2,fun b hb B hB tY=>by have :=(h.mem hB).2 b tY;have :=(h1 b hb).1;omega,h.grow hs hk⟩
theorem bS.set{w w':World}(hs:w.heap.size≤w'.heap.size){A A':aA}{H:List aA}(h:bS w (A::H))(hk:∀b,¬A.jF b→b<w.heap.size→w'.heap[b]? =w.heap[b]?)
 (hA:A'.holds w') (hf:∀b,A'.jF b→A.jF b∨(w.heap.size≤b∧b<w'.heap.size)):bS w' (A'::H):=by
 refine⟨hA,fun b hb=> ?_,fun b hb B hB tY=> ?_,h.tail.lI hs fun B hB b hb=>hk b (fun ha=>h.2.2.1 b ha B hB hb) ((h.tail.mem hB).2 b hb)⟩
 ·rcases hf b hb with h1 | h1
  ·exact Nat.lt_of_lt_of_le (h.2.1 b h1) hs
  ·exact h1.2
 ·rcases hf b hb with h1 | h1
  ·exact h.2.2.1 b h1 B hB tY
  ·have :=(h.tail.mem hB).2 b tY;omega
theorem bS.swap{w:World}{A B:aA}{H:List aA}(h:bS w (A::B::H)):bS w (B::A::H) :=
 ⟨h.tail.1,h.tail.2.1,fun b hb C hC hc=>by
  rcases mem_cons.1 hC with rfl | hC
  ·exact h.2.2.1 b hc B (.head _) hb
  ·exact h.tail.2.2.1 b hb C hC hc,h.1,h.2.1,fun b hb C hC=>h.2.2.1 b hb C (.tail _ hC),h.tail.tail⟩
theorem bS.wh{w:World}{A:aA}{H H':List aA}(h:bS w (A::H))(hH:bS w H→bS w H')(hm:∀B∈H',B∈H):bS w (A::H') :=
 ⟨h.1,h.2.1,fun b hb B hB=>h.2.2.1 b hb B (hm B hB),hH h.tail⟩
def pull(i:Nat)(H:List aA):List aA:=match H[i]? with | some A=>A::H.eraseIdx i | none=>H
theorem bS.QF{w:World}:∀(i:Nat) {H:List aA} {A:aA},H[i]? =some A→bS w H→bS w (A::H.eraseIdx i)
 | _,[],_,hi,_=>by simp at hi
 | 0,B::H,A,hi,h=>by simp at hi;subst hi;exact h
 | i+1,B::H,A,hi,h=>by
  have h1:=bS.QF i (A:=A) (by simpa using hi) h.tail;have h2:bS w (B::A::H.eraseIdx i):=h.wh (fun _=>h1) (fun C hC=>by
   rcases mem_cons.1 hC with rfl | hC
   ·exact mem_of_getElem? (by simpa using hi)
   ·exact mem_of_mem_eraseIdx hC)
  exact h2.swap
theorem Sat.pull{K w:World}{H:List aA}(i:Nat)(h:Sat K w H):Sat K w (pull i H):=by
 unfold Sl.pull;split
 ·rename_i A hi;exact⟨h.1,bS.QF i hi h.2⟩
 ·exact h
theorem Vt.grow{K w w':World}(h:Vt K w)(h1:w'.os=w.os)(h2:w'.tape=w.tape)(h3:w'.output=w.output)(h4:w.heap.size≤w'.heap.size):Vt K w' :=
 ⟨h1.trans h.os,h2.trans h.tape,h3.trans h.output,Nat.le_trans h.size h4⟩
theorem Sat.drew{K w:World}{H:List aA}(h:Sat K w H):Sat K { w with drawn:=w.drawn+1 } H :=
 ⟨h.1.grow rfl rfl rfl (Nat.le_refl _),bS.grow (w:=w) (w':= { w with drawn:=w.drawn+1 }) (Nat.le_refl _) (fun _ _=>rfl) h.2⟩
abbrev Env:=List (Nat×Value)
def look:Env→Nat→Option Value
 | [],_=>none
 | (k,v)::e,t=>bif beq k t then some v else look e t
structure eB(Mo:Mode)(n:Nat)(e:Env)(a:Act):Prop where
 defers:a.defers=Mo.ds
 size:a.tmps.size=n
 at_:∀t v,look e t=some v→a.tmps.getD t undef=v
def tN(e:Env):Operand→Option Value
 | .tmp t=>look e t
 | .const v=>some v
 | .global g=>some (.pointer (some ⟨g,0,none⟩))
 | .func f=>some (.func (.func f) #[] #[])
theorem eB.ev{Mo:Mode}{n:Nat}{e:Env}{a:Act}(h:eB Mo n e a){x:Operand}{v:Value}(hx:tN e x=some v):a.eval x=v:=by
 cases x with
 | tmp t=>exact h.at_ t v hx
 | const u=>simpa [tN,Act.eval] using hx
 | global g=>simpa [tN,Act.eval] using hx
 | func f=>simpa [tN,Act.eval] using hx
theorem eB.put{Mo:Mode}{n:Nat}{e:Env}{a:Act}(h:eB Mo n e a)(d:Nat)(hd:blt d n=true)(v:Value):eB Mo n ((d,v)::e) (a.put (some d) v):=by
 have Zr:d<a.tmps.size:=by rw[h.size];simpa using hd
 refine⟨h.defers,by simp[Act.put,h.size],fun t u hu=> ?_⟩;simp only[look] at hu;cases hk:beq d t with
 | true =>
  simp only[hk,cond_true] at hu;obtain rfl:=eq_of_beq_eq_true hk;simp[Act.put,Array.getD,Zr] at hu ⊢;exact hu
 | false =>
  simp only[hk,cond_false] at hu;have nk:d≠t:=ne_of_beq_eq_false hk;have :=h.at_ t u hu;simp only[Act.put,Array.getD_eq_getD_getElem?,Array.getElem?_setIfInBounds,if_neg nk] at this ⊢;exact this
theorem eB.none{Mo:Mode}{n:Nat}{e:Env}{a:Act}(h:eB Mo n e a)(v:Value):eB Mo n e (a.put none v):=h
def Sub(E e:Env):Prop:=∀t v,look E t=some v→look e t=some v
theorem Sub.nil(e:Env):Sub [] e:=fun _ _ h=>by simp[look] at h
theorem Sub.cons{E e:Env}{t:Nat}{v:Value}(h:look e t=some v)(k:Sub E e):Sub ((t,v)::E) e:=fun s u hu=>by
 simp only[look] at hu;cases hk:beq t s with
 | true =>
  simp only[hk,cond_true,Option.some.injEq] at hu;obtain rfl:=eq_of_beq_eq_true hk;rw[h,hu]
 | false=>simp only[hk,cond_false] at hu;exact k s u hu
theorem Sub.refl(e:Env):Sub e e:=fun _ _ h=>h
theorem eB.sub{Mo:Mode}{n:Nat}{E e:Env}{a:Act}(h:eB Mo n e a)(hs:Sub E e):eB Mo n E a:=⟨h.defers,h.size,fun t v hv=>h.at_ t v (hs t v hv)⟩
abbrev fG:=Mode→Exit→Env→List aA→Prop
def lift(r:Option (Option Nat))(K:World)(n:Nat)(Q:fG)(x:Exit)(a:Act)(w:World):Prop:=∃ds e H,eB ⟨r,ds⟩ n e a∧Sat K w H∧Q ⟨r,ds⟩ x e H
def WC(Mo:Mode)(P:Program)(K:World)(n:Nat)(c:Code)(Q:fG)(e:Env)(H:List aA):Prop :=
 ∀ a w,eB Mo n e a→Sat K w H→ML Mo P c (lift Mo.round K n Q) a w
def WL(Mo:Mode)(P:Program)(K:World)(n:Nat)(ops:Array Oper)(rest:List Oper)(Q:fG)(e:Env)(H:List aA):Prop :=
 ∀ a w,eB Mo n e a→Sat K w H→lwp Mo P ops (lift Mo.round K n Q) rest a w
def zW(R:Mode→Env→List aA→Prop)(Q:fG):fG
 | Mo,.normal,e,H=>R Mo e H
 | Mo,x,e,H=>Q Mo x e H
def Wz(id:Nat)(Q:fG):fG
 | Mo,.exit id',e,H=>bif beq id' id then Q Mo .normal e H else Q Mo (.exit id') e H
 | Mo,x,e,H=>Q Mo x e H
section
variable{Mo:Mode}{P:Program}{K:World}{n:Nat}{Q:fG}{e:Env}{H:List aA}
theorem XP{r:Option (Option Nat)}{Q Q':fG}(h:∀Mo x e H,Q Mo x e H→Q' Mo x e H)(x:Exit)(a:Act)(w:World)(hh:lift r K n Q x a w):lift r K n Q' x a w:=by
 obtain⟨ds,e,H,h1,h2,h3⟩:=hh;exact⟨ds,e,H,h1,h2,h _ _ _ _ h3⟩
theorem WC.skip(h:Q Mo .normal e H):WC Mo P K n .skip Q e H:=fun a w ha hw=>aar ⟨_,e,H,ha,hw,h⟩
theorem WC.label{l:Nat}(h:Q Mo .normal e H):WC Mo P K n (.label l) Q e H:=fun a w ha hw=>Xm ⟨_,e,H,ha,hw,h⟩
theorem WC.exit{id:Nat}(h:Q Mo (.exit id) e H):WC Mo P K n (.exit id) Q e H:=fun a w ha hw=>aa5 ⟨_,e,H,ha,hw,h⟩
theorem WC.goto{l:Nat}(h:Q Mo (.goto l) e H):WC Mo P K n (.goto l) Q e H:=fun a w ha hw=>aag ⟨_,e,H,ha,hw,h⟩
theorem WC.ret(h:Q Mo .ret e H):WC Mo P K n .ret Q e H:=fun a w ha hw=>ae7 ⟨_,e,H,ha,hw,h⟩
theorem WC.seq{x y:Code}(h:WC Mo P K n x (zW (fun Mo=>WC Mo P K n y Q) Q) e H):WC Mo P K n (.seq x y) Q e H:=fun a w ha hw=>by
 refine ad2 (xP (h a w ha hw) ?_);rintro x a w ⟨ds,e',H',h1,h2,h3⟩;cases x
 case normal =>
  have h4:=h3 a w h1 h2;obtain⟨r,ds0⟩:=Mo;cases r<;>exact h4
 all_goals exact⟨ds,e',H',h1,h2,h3⟩
theorem WC.block{id:Nat}{c:Code}(h:WC Mo P K n c (Wz id Q) e H):WC Mo P K n (.block id c) Q e H:=fun a w ha hw=>by
 refine YA (xP (h a w ha hw) ?_);rintro x a w ⟨ds,e',H',h1,h2,h3⟩;cases x with
 | exit id' =>
  simp only[Wz] at h3 ⊢;by_cases hid:id'=id
  ·subst hid;simp at h3 ⊢;exact⟨ds,e',H',h1,h2,h3⟩
  ·have :beq id' id=false:=by cases hb:beq id' id with | false=>rfl | true=>exact (hid (eq_of_beq_eq_true hb)).elim
   simp only[this,cond_false] at h3;rw[if_neg hid];exact⟨ds,e',H',h1,h2,h3⟩
 | _=>exact⟨ds,e',H',h1,h2,h3⟩
theorem WC.cond{c:Operand}{x y:Code}{t:Bool}(hc:tN e c=some (.bool t))(ht:t=true→WC Mo P K n x Q e H)(hf:t=false→WC Mo P K n y Q e H) :
 WC Mo P K n (.cond c x y) Q e H:=fun a w ha hw=>abW (ha.ev hc) (fun h=>ht h a w ha hw) (fun h=>hf h a w ha hw)
theorem WC.region{id:Nat}{l:List Oper}(h:WL Mo P K n l.toArray l Q e H):WC Mo P K n (.region id l.toArray false) Q e H:=fun a w ha hw=>Tk (h a w ha hw)
theorem WC.sub{c:Code}{E:Env}{H':List aA}(hE:Sub E e)(hH:∀w,Sat K w H→Sat K w H')(h:WC Mo P K n c Q E H'):WC Mo P K n c Q e H :=
 fun a w ha hw=>h a w (ha.sub hE) (hH w hw)
theorem WC.mono{c:Code}{Q':fG}(h:WC Mo P K n c Q e H)(hq:∀Mo x e H,Q Mo x e H→Q' Mo x e H):WC Mo P K n c Q' e H :=
 fun a w ha hw=>xP (h a w ha hw) fun x a w hh=>XP hq x a w hh
theorem WL.nil{ops:Array Oper}(h:Q Mo .normal e H):WL Mo P K n ops [] Q e H:=fun a w ha hw=>aek ⟨_,e,H,ha,hw,h⟩
theorem WL.sub{ops:Array Oper}{l:List Oper}{E:Env}{H':List aA}(hE:Sub E e)(hH:∀w,Sat K w H→Sat K w H')(h:WL Mo P K n ops l Q E H'):WL Mo P K n ops l Q e H :=
 fun a w ha hw=>h a w (ha.sub hE) (hH w hw)
def Round{σ:Type}(Mo:Mode)(K:World)(E:σ→Env)(M:σ→List aA)(I:σ→Prop)(μ:σ→Nat)(s:σ)(Mo':Mode)(e':Env)(H':List aA):Prop :=
 Mo'.ds=Mo.ds∧∃s',I s'∧μ s'<μ s∧Sub (E s') e'∧∀w,Sat K w H'→Sat K w (M s')
theorem WC.loop{c:Code}{σ:Type}(E:σ→Env)(M:σ→List aA)(I:σ→Prop)(μ:σ→Nat)(s0:σ)(h0:I s0)(hE:Sub (E s0) e)(hH:∀w,Sat K w H→Sat K w (M s0))
 (round:∀s,I s→WC Mo P K n c (zW (Round Mo K E M I μ s) Q) (E s) (M s)):WC Mo P K n (.loop c) Q e H:=by
 intro a w ha hw;refine Rv (fun m a w=>∃s,μ s=m∧I s∧eB Mo n (E s) a∧Sat K w (M s)) (μ s0) ⟨s0,rfl,h0,ha.sub hE,hH w hw⟩ ?_;rintro m a w ⟨s,rfl,hI,ha,hw⟩;refine xP (round s hI a w ha hw) ?_;rintro x a w ⟨ds,e',H',h1,h2,h3⟩;cases x
 case normal =>
  obtain⟨hm,s',k1,k2,k3,k4⟩:=h3;obtain⟨r,ds0⟩:=Mo;obtain rfl:ds=ds0:=hm;exact⟨_,k2,s',rfl,k1,h1.sub k3,k4 w h2⟩
 all_goals exact⟨ds,e',H',h1,h2,h3⟩
def aC(P:Program)(f:FuncId)(args:Array Value)(K:World)(H:List aA)(post:Value→List aA→Prop):Prop :=
 ∀ w,Sat K w H→Calls P f args w fun e w'=>∃v H',e= .returned v∧Sat K w' H'∧post v H'
theorem aC.mono{f:FuncId}{args:Array Value}{post post':Value→List aA→Prop}(h:aC P f args K H post)(hp:∀v H',post v H'→post' v H'):aC P f args K H post' :=
 fun w hw=>(h w hw).mono fun e w' ⟨v,H',h1,h2,h3⟩=>⟨v,H',h1,h2,hp _ _ h3⟩
theorem aC.sat{f:FuncId}{args:Array Value}{post:Value→List aA→Prop}{H':List aA}(h:aC P f args K H' post)(hH:∀w,Sat K w H→Sat K w H'):aC P f args K H post :=
 fun w hw=>h w (hH w hw)
def bI(Mo:Mode)(P:Program)(K:World)(n:Nat)(fn:Func)(e:Env)(H:List aA)(v:Value):Prop :=
 ∀ a w,eB Mo n e a→Sat K w H→(results fn a.tmps).run P w= .ok v w
def aG(P:Program)(K:World)(n:Nat)(fn:Func)(post:Value→List aA→Prop):fG
 | Mo,.normal,e,H | Mo,.ret,e,H=>Mo.ds=[]∧∃v H',bI Mo P K n fn e H v∧(∀w,Sat K w H→Sat K w H')∧post v H'
 | _,_,_,_=>False
def lH:Nat→List Value→Env
 | _,[]=>[]
 | i,v::vs=>(i,v)::lH (i+1) vs
theorem nY:∀(vs:List Value) (i t:Nat) (v:Value),look (lH i vs) t=some v→i≤t∧vs[t-i]? =some v
 | [],_,_,_,h=>by simp[lH,look] at h
 | u::vs,i,t,v,h=>by
  simp only[lH,look] at h;cases hk:beq i t with
  | true =>
   simp only[hk,cond_true,Option.some.injEq] at h;obtain rfl:=eq_of_beq_eq_true hk;simp[h]
  | false =>
   simp only[hk,cond_false] at h;obtain⟨h1,h2⟩:=nY vs (i+1) t v h;refine⟨by omega, ?_⟩;rw[show t-i=(t-(i+1))+1 by omega]
   simpa using h2
theorem aC.enter{f:FuncId}{fn:Func}{c:Code}{vs:List Value}{post:Value→List aA→Prop}(hf:P.funcs[f]? =some fn)(hb:fn.body=some c)(hn:fn.ntmps=n)(hl:ble vs.length n=true)
 (h:WC ⟨none,[]⟩ P K n c (aG P K n fn post) (lH 0 vs) H):aC P f vs.toArray K H post:=by
 intro w hw;refine calls_of_wp hf hb (wp_mono (h _ w ?_ hw) ?_)
 ·have GA:vs.length≤n:=by simpa using hl
  refine⟨rfl,by simp[hn];omega,fun t v hv=> ?_⟩;obtain⟨_,h2⟩:=nY vs 0 t v hv;simp only[Nat.sub_zero] at h2;have ht:t<vs.length:=by
   rcases Nat.lt_or_ge t vs.length with h | h
   ·exact h
   ·simp[getElem?_eq_none h] at h2
  rw[Array.getD_eq_getD_getElem?,Array.getElem?_append_left (by simpa using ht)];simp[h2]
 ·rintro x a w ⟨ds,e',H',h1,h2,h3⟩;cases x<;>first
   | (obtain⟨k0,v,oV,k1,k2,k3⟩:=h3;exact⟨h1.defers.trans k0,v,k1 a w h1 h2,v,oV,rfl,k2 w h2,k3⟩)
   | exact h3.elim
theorem bI.tmp{fn:Func}{t:Tmp}{v:Value}(hr:fn.results= #[.tmp t])(h:look e t=some v):bI Mo P K n fn e H v:=fun a w ha _=>by
 rw[results_tmp hr];rw[ha.at_ t v h]
theorem bI.none{fn:Func}(hr:fn.results= #[]):bI Mo P K n fn e H (.tuple #[]):=fun a w _ _=>results_none hr _ _ _
theorem bI.eY{fn:Func}{t u:Tmp}{v v':Value}(hr:fn.results= #[.tmp t,.tmp u])(h:look e t=some v)(h':look e u=some v'):bI Mo P K n fn e H (.tuple #[v,v']):=fun a w ha _=>by
 rw[results_tmp2 hr];rw[ha.at_ t v h,ha.at_ u v' h']
theorem bI.zR{fn:Func}{t u r:Tmp}{v v' v'':Value}(hr:fn.results= #[.tmp t,.tmp u,.tmp r])(h:look e t=some v)(h':look e u=some v')(h'':look e r=some v''):bI Mo P K n fn e H (.tuple #[v,v',v'']):=fun a w ha _=>by
 have e1:=ha.at_ t v h;have e2:=ha.at_ u v' h';have e3:=ha.at_ r v'' h'';simp only[Array.getD_eq_getD_getElem?] at e1 e2 e3;simp[results,hr,e1,e2,e3]
theorem bI.aea{fn:Func}{t u r s:Tmp}{v v' v'' v3:Value}(hr:fn.results= #[.tmp t,.tmp u,.tmp r,.tmp s])(h:look e t=some v)(h':look e u=some v')(h'':look e r=some v'')(h3:look e s=some v3):bI Mo P K n fn e H (.tuple #[v,v',v'',v3]):=fun a w ha _=>by
 have e1:=ha.at_ t v h;have e2:=ha.at_ u v' h';have e3:=ha.at_ r v'' h'';have e4:=ha.at_ s v3 h3;simp only[Array.getD_eq_getD_getElem?] at e1 e2 e3 e4;simp[results,hr,e1,e2,e3,e4]
theorem aG.ret{fn:Func}{post:Value→List aA→Prop}{v:Value}{H':List aA}{r:Option (Option Nat)}(hr:bI ⟨r,[]⟩ P K n fn e H v)(hs:∀w,Sat K w H→Sat K w H')(hp:post v H'):aG P K n fn post ⟨r,[]⟩ .ret e H:=⟨rfl,v,H',hr,hs,hp⟩
theorem aG.normal{fn:Func}{post:Value→List aA→Prop}{v:Value}{H':List aA}{r:Option (Option Nat)}(hr:bI ⟨r,[]⟩ P K n fn e H v)(hs:∀w,Sat K w H→Sat K w H')(hp:post v H'):aG P K n fn post ⟨r,[]⟩ .normal e H:=⟨rfl,v,H',hr,hs,hp⟩
def cv(c:Bool)(v:Value):Value:=if c then v else undef
def GC(gv:Value)(want:Bool)(c:Bool):Prop:=((match gv with | .bool b=>some b | _=>none)==some want)=c
theorem GC.t{b:Bool}:GC (.bool b) true b:=by cases b<;>rfl
theorem GC.f{b:Bool}:GC (.bool b) false (!b):=by cases b<;>rfl
theorem GC.ct{c b:Bool}:GC (cv c (.bool b)) true (c&&b):=by cases c<;>cases b<;>rfl
theorem GC.cf{c b:Bool}:GC (cv c (.bool b)) false (c&& !b):=by cases c<;>cases b<;>rfl
def OV(c:Bool)(e:Env)(x:Operand)(v:Value):Prop:=∃u,tN e x=some u∧(c=true→u=v)
theorem OV.p{c:Bool}{x:Operand}{v:Value}(h:tN e x=some v):OV c e x v:=⟨v,h,fun _=>rfl⟩
theorem OV.g{c c0:Bool}{x:Operand}{v:Value}(h:tN e x=some (cv c0 v))(hc:c=true→c0=true):OV c e x v:=⟨_,h,fun h'=>by simp[cv,hc h']⟩
theorem OV.ev{c:Bool}{x:Operand}{v:Value}(h:OV c e x v)(hc:c=true){a:Act}(ha:eB Mo n e a):a.eval x=v:=by
 obtain⟨u,h1,h2⟩:=h;rw[ha.ev h1,h2 hc]
def eX(Mo:Mode)(P:Program)(K:World)(n:Nat)(c:Bool)(e:Env)(H:List aA)(o:Oper)(v:Value):Prop :=
 c=true→∀a w,eB Mo n e a→Sat K w H→(execOp a.eval o).run P w= .ok (.value v) w
theorem WL.val{ops:Array Oper}{rest:List Oper}{d:Nat}{op:Op}{ty:TypeId}{pos:String}{af:Array Edge}{v:Value}(hv:eX Mo P K n true e H ⟨some d,op,ty,pos,af,none⟩ v)(hd:blt d n=true)
 (h:WL Mo P K n ops rest Q ((d,v)::e) H):WL Mo P K n ops (⟨some d,op,ty,pos,af,none⟩::rest) Q e H:=fun a w ha hw=>by
 exact kP rfl fun R hR=>zA (hv rfl a w ha hw) (hR _ _ (h _ w (ha.put d hd v) hw))
theorem Region.jy{ops:Array Oper}{o:Oper}{a:Act}{j dj:Nat}{want:Bool}{oj:Oper}{gv:Value}{c:Bool}(hg:o.guard=some (j,want))(hj:ops[j]? =some oj)(Gz:oj.dst=some dj)
 (hl:look e dj=some gv) (ha:eB Mo n e a) (hG:GC gv want c):Region.wanted o (yielded ops a.tmps)=c:=by
 have h1:=ha.at_ dj gv hl;simp only[Region.wanted,hg,yielded,hj,Option.bind_some,Gz];rw[Array.getD_eq_getD_getElem?] at h1;cases ht:a.tmps[dj]? with
 | none =>
  simp only[ht,Option.getD_none] at h1;subst h1;rw[←hG];rfl
 | some u =>
  simp only[ht,Option.getD_some] at h1;subst h1;cases u<;>exact hG
theorem WL.bG{ops:Array Oper}{rest:List Oper}{d j dj:Nat}{want:Bool}{oj:Oper}{op:Op}{ty:TypeId}{pos:String}{af:Array Edge}{v gv:Value}{c:Bool}
 (hj:ops[j]? =some oj) (Gz:oj.dst=some dj) (hl:look e dj=some gv) (hG:GC gv want c)
 (hv:eX Mo P K n c e H ⟨some d,op,ty,pos,af,some (j,want)⟩ v) (hd:blt d n=true)
 (h:WL Mo P K n ops rest Q ((d,cv c v)::e) H):WL Mo P K n ops (⟨some d,op,ty,pos,af,some (j,want)⟩::rest) Q e H:=fun a w ha hw=>by
 have Ht:=Region.jy (o:=⟨some d,op,ty,pos,af,some (j,want)⟩) rfl hj Gz hl ha hG;cases c with
 | false=>exact qB Ht (h _ w (ha.put d hd _) hw)
 | true=>exact vD Ht fun R hR=>zA (hv rfl a w ha hw) (hR _ _ (h _ w (ha.put d hd v) hw))
theorem WL.Dh{ops:Array Oper}{rest:List Oper}{o oj:Oper}{j dj:Nat}{want:Bool}{gv:Value}(hg:o.guard=some (j,want))
 (hj:ops[j]? =some oj) (Gz:oj.dst=some dj) (hl:look e dj=some gv) (hG:GC gv want false) (hd:∀d,o.dst=some d→blt d n=true)
 (h:WL Mo P K n ops rest Q (match o.dst with | some d=>(d,undef)::e | none=>e) H):WL Mo P K n ops (o::rest) Q e H:=fun a w ha hw=>by
 refine qB (Region.jy hg hj Gz hl ha hG) ?_;cases Zr:o.dst with
 | none=>rw[Zr] at h;exact h a w ha hw
 | some d=>rw[Zr] at h;exact h _ w (ha.put d (hd d Zr) _) hw
end
abbrev ptr(b o:Nat):Value:= .pointer (some ⟨b,o,none⟩)
theorem jR(b o k:Nat):(⟨b,o,none⟩:Addr).add k=⟨b,o+k,none⟩:=by unfold Addr.add;split<;>simp_all
section
variable{Mo:Mode}{P:Program}{K:World}{n:Nat}{Q:fG}{e:Env}{H:List aA}{c:Bool}{dst:Option Tmp}{ty:TypeId}{pos:String}{af:Array Edge}{gd:Option (Nat×Bool)}
theorem V.move{x:Operand}{v:Value}(hx:OV c e x v):eX Mo P K n c e H ⟨dst,.move x,ty,pos,af,gd⟩ v:=fun hc a w ha _=>by
 show Result.ok (Next.value (a.eval x)) w=_;rw[hx.ev hc ha]
theorem V.assign{x:Operand}{v:Value}(hx:OV c e x v):eX Mo P K n c e H ⟨dst,.assign x,ty,pos,af,gd⟩ v:=fun hc a w ha _=>by
 show Result.ok (Next.value (a.eval x)) w=_;rw[hx.ev hc ha]
theorem Ij{a:Act}{w:World}{q x y:Operand}{g:Bool}(h:a.eval q= .bool g):(execOp a.eval ⟨dst,.pick q x y,ty,pos,af,gd⟩).run P w= .ok (.value (if g then a.eval x else a.eval y)) w:=by
 show ((do pure (Next.value (if ←asBool (a.eval q) then a.eval x else a.eval y))):Sem Next).run P w=_;rw[h];rfl
theorem V.afz{q x y:Operand}{v:Value}(hq:OV c e q (.bool true))(hx:OV c e x v):eX Mo P K n c e H ⟨dst,.pick q x y,ty,pos,af,gd⟩ v:=fun hc a w ha _=>by
 rw[Ij (hq.ev hc ha),hx.ev hc ha];rfl
theorem V.Ct{q x:Operand}{g p:Bool}(hq:OV c e q (.bool g))(hx:OV (c&&g) e x (.bool p)):eX Mo P K n c e H ⟨dst,.pick q x (.const (.bool false)),ty,pos,af,gd⟩ (.bool (g&&p)):=fun hc a w ha _=>by
 rw[Ij (hq.ev hc ha)];subst hc;cases g with
 | true=>rw[hx.ev rfl ha];rfl
 | false=>rfl
theorem V.BL{q y:Operand}{g p:Bool}(hq:OV c e q (.bool g))(hy:OV (c&& !g) e y (.bool p)):eX Mo P K n c e H ⟨dst,.pick q (.const (.bool true)) y,ty,pos,af,gd⟩ (.bool (g||p)):=fun hc a w ha _=>by
 rw[Ij (hq.ev hc ha)];subst hc;cases g with
 | false=>rw[hy.ev rfl ha];rfl
 | true=>rfl
theorem qA{a:Act}{w:World}{op:BinOp}{t t':TypeId}{x y:Operand}{u v:Value}{r:Value}(hx:a.eval x=u)(hy:a.eval y=v)(hg:(eqGuard op t x y u v).run P w= .ok () w)(hr:(binOp op t u v).run P w= .ok r w) :
 (execOp a.eval ⟨dst,.binOp op t x y t',ty,pos,af,gd⟩).run P w= .ok (.value r) w:=by
 show (((eqGuard op t x y (a.eval x) (a.eval y) >>= fun _=>binOp op t (a.eval x) (a.eval y)) >>= fun r=>pure (Next.value r)):Sem Next).run P w=_;rw[hx,hy];simp only[Sem.run_bind,hg,hr,Result.andThen_ok,Sem.run_pure]
theorem QZ{w:World}{op:BinOp}{t:TypeId}{x y:Operand}{k k':IntKind}{i j:Int}:(eqGuard op t x y (.int k i) (.int k' j)).run P w= .ok () w:=by
 unfold eqGuard;cases op<;>rfl
theorem Nw{w:World}{op:BinOp}{t:TypeId}{x y:Operand}{i j:Bool}:(eqGuard op t x y (.bool i) (.bool j)).run P w= .ok () w:=by
 unfold eqGuard;cases op<;>rfl
theorem xW{w:World}{op:BinOp}{t:TypeId}{x y:Operand}{i j:ByteArray}:(eqGuard op t x y (.string i) (.string j)).run P w= .ok () w:=by
 unfold eqGuard;cases op<;>rfl
theorem Fp{w:World}{op:BinOp}{t:TypeId}{x y:Operand}{i j:Option Addr}:(eqGuard op t x y (.pointer i) (.pointer j)).run P w= .ok () w:=by
 unfold eqGuard;cases op<;>rfl
section ints
variable{x y:Operand}{k k':IntKind}{i j:Int}{t t':TypeId}
theorem V.xg{op:BinOp}{r:Value}(hx:OV c e x (.int k i))(hy:OV c e y (.int k' j))(hr:∀w,(binOp op t (.int k i) (.int k' j)).run P w= .ok r w):eX Mo P K n c e H ⟨dst,.binOp op t x y t',ty,pos,af,gd⟩ r :=
 fun hc a w ha _=>qA (hx.ev hc ha) (hy.ev hc ha) QZ (hr w)
theorem V.lss(hx:OV c e x (.int k i))(hy:OV c e y (.int k j)):eX Mo P K n c e H ⟨dst,.binOp .lss t x y t',ty,pos,af,gd⟩ (.bool (decide (i<j))):=V.xg hx hy fun w=>by simp[binOp,Op.intCmp]
theorem V.leq(hx:OV c e x (.int k i))(hy:OV c e y (.int k j)):eX Mo P K n c e H ⟨dst,.binOp .leq t x y t',ty,pos,af,gd⟩ (.bool (decide (i≤j))):=V.xg hx hy fun w=>by simp[binOp,Op.intCmp]
theorem V.gtr(hx:OV c e x (.int k i))(hy:OV c e y (.int k j)):eX Mo P K n c e H ⟨dst,.binOp .gtr t x y t',ty,pos,af,gd⟩ (.bool (decide (j<i))):=V.xg hx hy fun w=>by simp[binOp,Op.intCmp]
theorem V.geq(hx:OV c e x (.int k i))(hy:OV c e y (.int k j)):eX Mo P K n c e H ⟨dst,.binOp .geq t x y t',ty,pos,af,gd⟩ (.bool (decide (j≤i))):=V.xg hx hy fun w=>by simp[binOp,Op.intCmp]
theorem V.eql(hx:OV c e x (.int k i))(hy:OV c e y (.int k j)):eX Mo P K n c e H ⟨dst,.binOp .eql t x y t',ty,pos,af,gd⟩ (.bool (decide (i=j))):=V.xg hx hy fun w=>by
 simp[binOp,Op.intCmp];rw[Bool.eq_iff_iff];simp
theorem V.neq(hx:OV c e x (.int k i))(hy:OV c e y (.int k j)):eX Mo P K n c e H ⟨dst,.binOp .neq t x y t',ty,pos,af,gd⟩ (.bool (!decide (i=j))):=V.xg hx hy fun w=>by
 simp[binOp,Op.intCmp];rw[Bool.eq_iff_iff];simp
theorem V.add(hx:OV c e x (.int k i))(hy:OV c e y (.int k j)):eX Mo P K n c e H ⟨dst,.binOp .add t x y t',ty,pos,af,gd⟩ (.int k (k.wrap (i+j))):=V.xg hx hy fun w=>by simp[binOp,Op.intArith]
theorem V.sub(hx:OV c e x (.int k i))(hy:OV c e y (.int k j)):eX Mo P K n c e H ⟨dst,.binOp .sub t x y t',ty,pos,af,gd⟩ (.int k (k.wrap (i-j))):=V.xg hx hy fun w=>by simp[binOp,Op.intArith]
theorem V.mul(hx:OV c e x (.int k i))(hy:OV c e y (.int k j)):eX Mo P K n c e H ⟨dst,.binOp .mul t x y t',ty,pos,af,gd⟩ (.int k (k.wrap (i*j))):=V.xg hx hy fun w=>by simp[binOp,Op.intArith]
theorem wrap_i64{i:Int}(h: -9223372036854775808≤i∧i≤9223372036854775807):IntKind.i64.wrap i=i:=IntWalk.i64_in i h
theorem V.aI{o:Oper}{v v':Value}(h:eX Mo P K n c e H o v)(he:c=true→v=v'):eX Mo P K n c e H o v':=fun hc=>by rw[←he hc];exact h hc
theorem V.Ci(hx:OV c e x (.i i))(hy:OV c e y (.i j))(h:c=true→ -9223372036854775808≤i+j∧i+j≤9223372036854775807):eX Mo P K n c e H ⟨dst,.binOp .add t x y t',ty,pos,af,gd⟩ (.i (i+j)):=V.aI (V.add hx hy) fun hc=>by rw[wrap_i64 (h hc)]
theorem V.CV(hx:OV c e x (.i i))(hy:OV c e y (.i j))(h:c=true→ -9223372036854775808≤i-j∧i-j≤9223372036854775807):eX Mo P K n c e H ⟨dst,.binOp .sub t x y t',ty,pos,af,gd⟩ (.i (i-j)):=V.aI (V.sub hx hy) fun hc=>by rw[wrap_i64 (h hc)]
theorem V.OD(hx:OV c e x (.i i))(hy:OV c e y (.i j))(h:c=true→ -9223372036854775808≤i*j∧i*j≤9223372036854775807):eX Mo P K n c e H ⟨dst,.binOp .mul t x y t',ty,pos,af,gd⟩ (.i (i*j)):=V.aI (V.mul hx hy) fun hc=>by rw[wrap_i64 (h hc)]
theorem V.quo(hx:OV c e x (.int k i))(hy:OV c e y (.int k j))(h:j≠0):eX Mo P K n c e H ⟨dst,.binOp .quo t x y t',ty,pos,af,gd⟩ (.int k (k.wrap (i.tdiv j))):=V.xg hx hy fun w=>by simp[binOp,Op.intDiv,h]
theorem V.rem(hx:OV c e x (.int k i))(hy:OV c e y (.int k j))(h:j≠0):eX Mo P K n c e H ⟨dst,.binOp .rem t x y t',ty,pos,af,gd⟩ (.int k (i.tmod j)):=V.xg hx hy fun w=>by simp[binOp,Op.intDiv,h]
theorem V.ad9(hx:OV c e x (.i i))(hy:OV c e y (.i j))(h:c=true→0≤i∧i≤9223372036854775807∧0<j):eX Mo P K n c e H ⟨dst,.binOp .quo t x y t',ty,pos,af,gd⟩ (.i (i/j)):=fun hc=>by
 obtain⟨h1,h2,h3⟩:=h hc;refine V.aI (V.quo hx hy (by omega)) (fun _=> ?_) hc;rw[Int.tdiv_eq_ediv_of_nonneg h1,wrap_i64 ⟨by have :=Int.ediv_nonneg h1 (Int.le_of_lt h3);omega,by have :=Int.ediv_le_self j h1;omega⟩]
theorem V.Dv(hx:OV c e x (.i i))(hy:OV c e y (.i j))(h:c=true→0≤i∧0<j):eX Mo P K n c e H ⟨dst,.binOp .rem t x y t',ty,pos,af,gd⟩ (.i (i%j)):=fun hc=>by
 obtain⟨h1,h3⟩:=h hc;refine V.aI (V.rem hx hy (by omega)) (fun _=> ?_) hc;rw[Int.tmod_eq_emod_of_nonneg h1]
def bitsOf(op:BinOp)(k:IntKind)(i j:Int):Int :=
 let a:=BitVec.ofInt k.bits i
 let b:=BitVec.ofInt k.bits j
 k.wrap (match op with | .and=>(a &&& b) | .or=>(a ||| b) | .xor=>(a ^^^ b) | _=>(a &&& ~~~b)).toNat
theorem V.and(hx:OV c e x (.int k i))(hy:OV c e y (.int k j)):eX Mo P K n c e H ⟨dst,.binOp .and t x y t',ty,pos,af,gd⟩ (.int k (bitsOf .and k i j)):=V.xg hx hy fun w=>by simp[binOp,Op.intBits,bitsOf]
theorem V.or(hx:OV c e x (.int k i))(hy:OV c e y (.int k j)):eX Mo P K n c e H ⟨dst,.binOp .or t x y t',ty,pos,af,gd⟩ (.int k (bitsOf .or k i j)):=V.xg hx hy fun w=>by simp[binOp,Op.intBits,bitsOf]
theorem V.xor(hx:OV c e x (.int k i))(hy:OV c e y (.int k j)):eX Mo P K n c e H ⟨dst,.binOp .xor t x y t',ty,pos,af,gd⟩ (.int k (bitsOf .xor k i j)):=V.xg hx hy fun w=>by simp[binOp,Op.intBits,bitsOf]
theorem V.andNot(hx:OV c e x (.int k i))(hy:OV c e y (.int k j)):eX Mo P K n c e H ⟨dst,.binOp .andNot t x y t',ty,pos,af,gd⟩ (.int k (bitsOf .andNot k i j)):=V.xg hx hy fun w=>by simp[binOp,Op.intBits,bitsOf]
theorem V.shl(hx:OV c e x (.int k i))(hy:OV c e y (.int k' j))(h:0≤j):eX Mo P K n c e H ⟨dst,.binOp .shl t x y t',ty,pos,af,gd⟩ (.int k (k.wrap (i*2^(min j.toNat k.bits)))):=V.xg hx hy fun w=>by
 simp[binOp,Op.shift,Int.not_lt.2 h]
theorem V.shr(hx:OV c e x (.int k i))(hy:OV c e y (.int k' j))(h:0≤j):eX Mo P K n c e H ⟨dst,.binOp .shr t x y t',ty,pos,af,gd⟩ (.int k (i.fdiv (2^(min j.toNat k.bits)))):=V.xg hx hy fun w=>by
 simp[binOp,Op.shift,Int.not_lt.2 h]
end ints
theorem V.ajJ{x y:Operand}{t t':TypeId}{i j:Bool}(ht:P.underlying t=some .bool)(hx:OV c e x (.bool i))(hy:OV c e y (.bool j)):eX Mo P K n c e H ⟨dst,.binOp .neq t x y t',ty,pos,af,gd⟩ (.bool (!(i==j))) :=
 fun hc a w ha _=>qA (hx.ev hc ha) (hy.ev hc ha) Nw (by
  show ((Op.equal t (.bool i) (.bool j) >>= fun r=>pure (Value.bool (!r))):Sem Value).run P w=_;simp only[Sem.run_bind,run_equal_bool w t i j ht,Result.andThen_ok,Sem.run_pure])
theorem V.aji{x y:Operand}{t t':TypeId}{i j:ByteArray}(hx:OV c e x (.string i))(hy:OV c e y (.string j)):eX Mo P K n c e H ⟨dst,.binOp .eql t x y t',ty,pos,af,gd⟩ (.bool (i.toList==j.toList)) :=
 fun hc a w ha _=>qA (hx.ev hc ha) (hy.ev hc ha) xW (by simp[binOp,Op.stringOp])
theorem V.ag4{x y:Operand}{t t':TypeId}{i j:ByteArray}(hx:OV c e x (.string i))(hy:OV c e y (.string j)):eX Mo P K n c e H ⟨dst,.binOp .neq t x y t',ty,pos,af,gd⟩ (.bool (!(i.toList==j.toList))) :=
 fun hc a w ha _=>qA (hx.ev hc ha) (hy.ev hc ha) xW (by simp[binOp,Op.stringOp])
theorem V.ajL{x y:Operand}{t t':TypeId}{i:Option Addr}(ht:P.underlying t=some (.pointer (P.pointee t)))(hx:OV c e x (.pointer i))(hy:OV c e y (.pointer none)):eX Mo P K n c e H ⟨dst,.binOp .eql t x y t',ty,pos,af,gd⟩ (.bool i.isNone) :=
 fun hc a w ha _=>qA (hx.ev hc ha) (hy.ev hc ha) Fp (by
  have h1:(binOp .eql t (.pointer i) (.pointer none))=((Op.equal t (.pointer i) (.pointer none) >>= fun r=>pure (Value.bool r)):Sem Value):=by cases i<;>rfl
  rw[h1];simp only[Sem.run_bind,run_equal_pointer_nil w t i ht,Result.andThen_ok,Sem.run_pure])
theorem V.am0{x y:Operand}{t t':TypeId}{i:Option Addr}(ht:P.underlying t=some (.pointer (P.pointee t)))(hx:OV c e x (.pointer i))(hy:OV c e y (.pointer none)):eX Mo P K n c e H ⟨dst,.binOp .neq t x y t',ty,pos,af,gd⟩ (.bool (!i.isNone)) :=
 fun hc a w ha _=>qA (hx.ev hc ha) (hy.ev hc ha) Fp (by
  have h1:(binOp .neq t (.pointer i) (.pointer none))=((Op.equal t (.pointer i) (.pointer none) >>= fun r=>pure (Value.bool (!r))):Sem Value):=by cases i<;>rfl
  rw[h1];simp only[Sem.run_bind,run_equal_pointer_nil w t i ht,Result.andThen_ok,Sem.run_pure])
theorem V.not{x:Operand}{t:TypeId}{g:Bool}(hx:OV c e x (.bool g)):eX Mo P K n c e H ⟨dst,.unOp .not t x,ty,pos,af,gd⟩ (.bool (!g)):=fun hc a w ha _=>by
 show ((do pure (Next.value (←Op.unary .not (a.eval x)))):Sem Next).run P w=_;rw[hx.ev hc ha];rfl
theorem V.extract{x:Operand}{i:Nat}{vs:List Value}{v:Value}(hx:OV c e x (.tuple vs.toArray))(hv:vs[i]? =some v):eX Mo P K n c e H ⟨dst,.extract x i,ty,pos,af,gd⟩ v:=fun hc a w ha _=>by
 show ((do pure (Next.value (←Instr.extract (a.eval x) i))):Sem Next).run P w=_;rw[hx.ev hc ha];simp[Instr.extract,hv]
theorem V.FX{x:Operand}{s t:TypeId}{k k':IntKind}{i:Int}{ds:TypeDesc}(hs:∀w,(underlying s).run P w= .ok ds w)(ht:∀w,(underlying t).run P w= .ok (.int k') w)(hx:OV c e x (.int k i)) :
 eX Mo P K n c e H ⟨dst,.convert s t x,ty,pos,af,gd⟩ (.int k' (k'.wrap i)):=fun hc a w ha _=>by
 show ((do pure (Next.value (←convert s t (a.eval x)))):Sem Next).run P w=_;rw[hx.ev hc ha];simp only[convert,Sem.run_bind,hs,ht,Result.andThen_ok];cases ds<;>rfl
theorem V.Ip{x:Operand}{s t:TypeId}{k k':IntKind}{i:Int}{ds:TypeDesc}(hs:∀w,(underlying s).run P w= .ok ds w)(ht:∀w,(underlying t).run P w= .ok (.int k') w)(hx:OV c e x (.int k i))(hi:c=true→k'.wrap i=i) :
 eX Mo P K n c e H ⟨dst,.convert s t x,ty,pos,af,gd⟩ (.int k' i):=V.aI (V.FX hs ht hx) fun hc=>by rw[hi hc]
def oP(P:Program)(S f off:Nat):Prop:=∀(a:Addr) (w:World),(Instr.fieldAt S (.pointer (some a)) f).run P w= .ok (.pointer (some (a.add off))) w
theorem V.fieldAddr{x:Operand}{S f off b o:Nat}(hF:oP P S f off)(hx:OV c e x (ptr b o)):eX Mo P K n c e H ⟨dst,.fieldAddr S x f,ty,pos,af,gd⟩ (ptr b (o+off)):=fun hc a w ha _=>by
 show ((do pure (Next.value (←Instr.fieldAt S (a.eval x) f))):Sem Next).run P w=_;rw[hx.ev hc ha,Sem.run_bind,hF,jR];rfl
theorem V.nilCheck{x:Operand}{p:Addr}(hx:OV c e x (.pointer (some p))):eX Mo P K n c e H ⟨dst,.nilCheck x,ty,pos,af,gd⟩ (.pointer (some p)):=fun hc a w ha _=>by
 show (match a.eval x with
  | .pointer none | .nilIface | .nilFunc=>runtimePanic .nilDeref
  | .func (.method name) first captured=>_
  | x=>pure (.value x):Sem Next).run P w=_
 rw[hx.ev hc ha];rfl
end
def ah(b T:Nat)(cs:List Value):aA where
 jF x:=x=b
 holds w:=w.heap[b]? =some (.cells cs.toArray T (0,0))
 loc w w' h hw:=by rw[h b rfl];exact hw
def Old(K:World):aA where
 jF x:=x<K.heap.size
 holds w:=∀b,b<K.heap.size→w.heap[b]? =K.heap[b]?
 loc w w' h hw b hb:=(h b hb).trans (hw b hb)
theorem Sat.Po(K:World):Sat K K [Old K]:=⟨⟨rfl,rfl,rfl,Nat.le_refl _⟩,fun _ _=>rfl,fun _ hb=>hb,fun _ _ _ hB=>by simp at hB,trivial⟩
theorem Sat.below{K w:World}{H:List aA}(h:Sat K w (Old K::H)):Below K.heap.size K w:=⟨h.1.os,h.1.tape,h.1.output,h.1.size,h.head⟩
def Rd(K:World)(H:List aA)(p:Option Addr)(v:Value):Prop:=∀w,Sat K w H→∃a,p=some a∧w.cell? a=some v
theorem Rd.up{K:World}{H:List aA}{A:aA}{p:Option Addr}{v:Value}(h:Rd K H p v):Rd K (A::H) p v:=fun w hw=>h w hw.tail
theorem Rd.here{K:World}{H:List aA}{b T o:Nat}{cs:List Value}{v:Value}(h:cs[o]? =some v):Rd K (ah b T cs::H) (some ⟨b,o,none⟩) v:=fun w hw=>by
 refine⟨_,rfl, ?_⟩;have :=hw.head;simp only[ah] at this;simp[World.cell?,this,h]
def gD(K:World)(H:List aA)(b o:Nat)(vs:List Value):Prop:=∀i v,vs[i]? =some v→Rd K H (some ⟨b,o+i,none⟩) v
theorem gD.up{K:World}{H:List aA}{A:aA}{b o:Nat}{vs:List Value}(h:gD K H b o vs):gD K (A::H) b o vs:=fun i v hi=>(h i v hi).up
theorem gD.here{K:World}{H:List aA}{b T o:Nat}{cs vs:List Value}(h:vs <+: cs.drop o):gD K (ah b T cs::H) b o vs:=fun i v hi=>by
 refine Rd.here ?_;obtain⟨t,ht⟩:=h;have :=getElem?_drop (xs:=cs) (i:=o) (j:=i);rw[←this,←ht,getElem?_append_left (by
  rcases Nat.lt_or_ge i vs.length with h | h
  ·exact h
  ·simp[getElem?_eq_none h] at hi),hi]
theorem gD.all{K:World}{H:List aA}{b T:Nat}{cs:List Value}:gD K (ah b T cs::H) b 0 cs:=gD.here (by simp)
section
variable{Mo:Mode}{P:Program}{K:World}{n:Nat}{Q:fG}{e:Env}{H:List aA}{c:Bool}{dst:Option Tmp}{ty:TypeId}{pos:String}{af:Array Edge}{gd:Option (Nat×Bool)}{ops:Array Oper}{rest:List Oper}
def Nf(P:Program)(T:Nat):Prop:=∀w,(isAgg T).run P w= .ok false w
def Ue(P:Program)(T s:Nat):Prop:=(∀w,(isAgg T).run P w= .ok true w)∧∀w,(sizeOf T).run P w= .ok s w
theorem V.load{x:Operand}{T:Nat}{p:Option Addr}{v:Value}(hT:Nf P T)(hx:OV c e x (.pointer p))(hr:c=true→Rd K H p v):eX Mo P K n c e H ⟨dst,.load T x,ty,pos,af,gd⟩ v:=fun hc a w ha hw=>by
 show ((do pure (Next.value (←Instr.loadAt T (a.eval x)))):Sem Next).run P w=_;obtain⟨p',rfl,h2⟩:=hr hc w hw;rw[hx.ev hc ha];simp[Instr.loadAt,Instr.sureAddr,loadVar,hT w,h2]
theorem V.gG{x:Operand}{T s b o:Nat}{vs:List Value}(hT:Ue P T s)(hx:OV c e x (ptr b o))(hs:vs.length=s)(hr:c=true→gD K H b o vs):eX Mo P K n c e H ⟨dst,.load T x,ty,pos,af,gd⟩ (.agg vs.toArray):=fun hc a w ha hw=>by
 show ((do pure (Next.value (←Instr.loadAt T (a.eval x)))):Sem Next).run P w=_;rw[hx.ev hc ha];have h1:=run_loadCells_list (P:=P) w ⟨b,o,none⟩ vs (fun j v hj=>by
  obtain⟨a',h1,h2⟩:=hr hc j v hj w hw;injection h1 with h1;subst h1;rwa [jR])
 subst hs;simp[Instr.loadAt,Instr.sureAddr,loadVar,hT.1 w,hT.2 w,h1]
theorem WL.SS{d:Nat}{op:Op}{R:Value→List aA→Prop}
 (hv:∀a w,eB Mo n e a→Sat K w H→∃v w' H',(execOp a.eval ⟨some d,op,ty,pos,af,none⟩).run P w= .ok (.value v) w'∧Sat K w' H'∧R v H') (hd:blt d n=true)
 (h:∀v H',R v H'→WL Mo P K n ops rest Q ((d,v)::e) H'):WL Mo P K n ops (⟨some d,op,ty,pos,af,none⟩::rest) Q e H:=fun a w ha hw=>by
 obtain⟨v,w',H',h1,h2,h3⟩:=hv a w ha hw;exact kP rfl fun S hS=>zA h1 (hS _ _ (h v H' h3 _ w' (ha.put d hd v) h2))
theorem WL.aeK{op:Op}{R:List aA→Prop}
 (hv:∀a w,eB Mo n e a→Sat K w H→∃w' H',(((execOp a.eval ⟨none,op,ty,pos,af,none⟩).run P w= .ok .skip w')∨∃v,(execOp a.eval ⟨none,op,ty,pos,af,none⟩).run P w= .ok (.value v) w')∧Sat K w' H'∧R H')
 (h:∀H',R H'→WL Mo P K n ops rest Q e H'):WL Mo P K n ops (⟨none,op,ty,pos,af,none⟩::rest) Q e H:=fun a w ha hw=>by
 obtain⟨w',H',h1,h2,h3⟩:=hv a w ha hw;refine kP rfl fun S hS=> ?_;rcases h1 with h1 | ⟨v,h1⟩
 ·exact ab1 h1 (hS _ _ (h H' h3 _ w' (ha.none _) h2))
 ·exact zA h1 (hS _ _ (h H' h3 _ w' (ha.none _) h2))
theorem Sat.alloc{w:World}(hw:Sat K w H)(T:Nat)(cs:List Value):Sat K (w.alloc (.cells cs.toArray T)) (ah w.heap.size T cs::H):=by
 refine⟨hw.1.grow rfl rfl rfl (by simp),hw.2.push (by simp) (fun b hb=> ?_) ?_ (fun b hb=> ?_)⟩
 ·exact Below.heap_alloc _ _ _ hb
 ·exact heap_alloc_new w _
 ·simp only[ah] at hb;subst hb;simp
theorem WL.box{d T:Nat}{x:Operand}{v:Value}{cs:List Value}(hx:OV true e x v)(hc:v.cells.toList=cs)(hd:blt d n=true)
 (h:∀b,WL Mo P K n ops rest Q ((d,ptr b 0)::e) (ah b T cs::H)):WL Mo P K n ops (⟨some d,.box T x,ty,pos,af,none⟩::rest) Q e H:=by
 refine WL.SS (R:=fun v H'=>∃b,v=ptr b 0∧H'=ah b T cs::H) (fun a w ha hw=> ?_) hd (fun v H' ⟨b,e1,e2⟩=>by subst e1 e2;exact h b);refine⟨ptr w.heap.size 0,w.alloc (.cells cs.toArray T),_, ?_,hw.alloc T cs,_,rfl,rfl⟩;show ((do pure (Next.value (←Instr.box T (a.eval x)))):Sem Next).run P w=_;rw[hx.ev rfl ha,←hc];simp[Instr.box,newVar,newRow]
theorem WL.alloc{d T:Nat}{z:Value}{cs:List Value}(hz:∀w,(zeroValue T).run P w= .ok z w)(hc:z.cells.toList=cs)(hd:blt d n=true)
 (h:∀b,WL Mo P K n ops rest Q ((d,ptr b 0)::e) (ah b T cs::H)):WL Mo P K n ops (⟨some d,.alloc T,ty,pos,af,none⟩::rest) Q e H:=by
 refine WL.SS (R:=fun v H'=>∃b,v=ptr b 0∧H'=ah b T cs::H) (fun a w ha hw=> ?_) hd (fun v H' ⟨b,e1,e2⟩=>by subst e1 e2;exact h b);refine⟨ptr w.heap.size 0,w.alloc (.cells cs.toArray T),_, ?_,hw.alloc T cs,_,rfl,rfl⟩;show ((do pure (Next.value (←Instr.alloc T true (.tuple #[])))):Sem Next).run P w=_;simp[Instr.alloc,newVar,newRow,hz w,←hc]
def pU(cs:List Value)(o:Nat):List Value→List Value
 | []=>cs
 | v::vs=>pU (cs.set o v) (o+1) vs
theorem Fq:∀(vs:List Value) (cs:List Value) (o:Nat),(pU cs o vs).length=cs.length
 | [],_,_=>rfl
 | v::vs,cs,o=>by rw[pU,Fq vs];simp
theorem lg(b k:Nat)(hk:k≠b):∀(vs:List Value) (o:Nat) (w:World),(w.setCells b o vs).heap[k]? =w.heap[k]?
 | [],_,_=>rfl
 | v::vs,o,w=>by rw[World.setCells,lg b k hk vs];exact Below.heap_setCell w _ v k hk
theorem tu(b:Nat)(T:TypeId)(fr:Nat×Nat):∀(vs:List Value) (o:Nat) (w:World) (cs:List Value),w.heap[b]? =some (.cells cs.toArray T fr)→(w.setCells b o vs).heap[b]? =some (.cells (pU cs o vs).toArray T fr)
 | [],_,_,_,h=>h
 | v::vs,o,w,cs,h=>by
  rw[World.setCells,pU];refine tu b T fr vs (o+1) _ _ ?_;simp[World.setCell,Array.getElem?_modify,h]
theorem lQ(b:Nat):∀(vs:List Value) (o:Nat) (w:World),(w.setCells b o vs).os=w.os∧(w.setCells b o vs).tape=w.tape∧(w.setCells b o vs).output=w.output∧(w.setCells b o vs).heap.size=w.heap.size
 | [],_,_=>⟨rfl,rfl,rfl,rfl⟩
 | v::vs,o,w=>by
  rw[World.setCells];obtain⟨h1,h2,h3,h4⟩:=lQ b vs (o+1) (w.setCell ⟨b,o,none⟩ v);exact⟨h1,h2,h3,by rw[h4];simp⟩
structure dw(K:World)(H:List aA)(b o:Nat)(vs:List Value)(H':List aA):Prop where
 ahK:∀B'∈H',∀k,B'.jF k→∃B∈H,B.jF k
 own:∃B∈H,B.jF b
 may:∀w,bS w H→∀i,i<vs.length→(w.cell? ⟨b,o+i,none⟩).isSome=true∧w.frozen? ⟨b,o+i,none⟩=false
 sat:∀w,bS w H→bS (w.setCells b o vs) H'
theorem dw.here{b T o:Nat}{cs vs cs':List Value}(ho:ble (o+vs.length) cs.length=true)(hc:pU cs o vs=cs'):dw K (ah b T cs::H) b o vs (ah b T cs'::H):=by
 have Ho:o+vs.length≤cs.length:=by simpa using ho
 refine⟨fun B' ZV k hk=> ?_,⟨_,.head _,rfl⟩,fun w hw i hi=> ?_,fun w hw=> ?_⟩
 ·rcases mem_cons.1 ZV with rfl | h
  ·exact⟨_,.head _,hk⟩
  ·exact⟨_,.tail _ h,hk⟩
 ·have hb:=hw.1;simp only[ah] at hb;exact⟨by simp[World.cell?,hb];omega,by simp[World.frozen?,hb]⟩
 ·have hb:=hw.1;simp only[ah] at hb;obtain⟨_,_,_,h4⟩:=lQ b vs o w;refine hw.set (Nat.le_of_eq h4.symm) (fun k yS _=>lg b k yS vs o w) ?_ (fun k yS=> .inl yS);simp only[ah];rw[tu b T (0,0) vs o w cs hb,←hc]
theorem dw.up{A:aA}{b o:Nat}{vs:List Value}{H':List aA}(h:dw K H b o vs H'):dw K (A::H) b o vs (A::H'):=by
 obtain⟨B,hB,hBb⟩:=h.own;refine⟨fun B' ZV k hk=> ?_,⟨B,.tail _ hB,hBb⟩,fun w hw=>h.may w hw.tail,fun w hw=> ?_⟩
 ·rcases mem_cons.1 ZV with rfl | h'
  ·exact⟨_,.head _,hk⟩
  ·obtain⟨B2,h2,h3⟩:=h.ahK B' h' k hk;exact⟨B2,.tail _ h2,h3⟩
 ·have nk:¬A.jF b:=fun ha=>hw.2.2.1 b ha B hB hBb;obtain⟨_,_,_,h4⟩:=lQ b vs o w;refine⟨A.loc w _ (fun k yS=>lg b k (fun e=>nk (e ▸ yS)) vs o w) hw.1,fun k yS=>by rw[h4];exact hw.2.1 k yS,fun k yS B' ZV tY=> ?_,h.sat w hw.tail⟩;obtain⟨B2,hB2,tX⟩:=h.ahK B' ZV k tY;exact hw.2.2.1 k yS B2 hB2 tX
theorem dw.run{b o:Nat}{vs:List Value}{H':List aA}(h:dw K H b o vs H'){w:World}(hw:Sat K w H)(h1:∀v∈vs,v.oneCell'=true) :
 (storeCells ⟨b,o,none⟩ vs).run P w= .ok () (w.setCells b o vs)∧Sat K (w.setCells b o vs) H':=by
 have hm:=h.may w hw.2;obtain⟨e1,e2,e3,e4⟩:=lQ b vs o w;refine⟨?_,hw.1.grow e1 e2 e3 (Nat.le_of_eq e4.symm),h.sat w hw.2⟩;have :=run_storeCells_cells (P:=P) b o vs 0 w (fun j hj=>by simpa using (hm j hj).1) (fun j hj=>by simpa using (hm j hj).2) h1
 simpa using this
theorem WL.store{x y:Operand}{T s b o:Nat}{v:Value}{cs:List Value}{H':List aA}(hT:∀w,(sizeOf T).run P w= .ok s w)(hx:OV true e x (ptr b o))(hy:OV true e y v)(hc:v.cells.toList=cs)
 (hs:cs.length=s) (h1:cs.all (·.oneCell')=true) (hu:dw K H b o cs H') (h:WL Mo P K n ops rest Q e H'):WL Mo P K n ops (⟨none,.store T x y,ty,pos,af,none⟩::rest) Q e H:=by
 refine WL.aeK (R:=fun oV=>oV=H') (fun a w ha hw=> ?_) (fun oV e1=>by subst e1;exact h);obtain⟨k1,k2⟩:=hu.run (P:=P) hw (fun v hv=>by simpa using all_eq_true.1 h1 v hv);refine⟨_,H',.inl ?_,k2,rfl⟩;show ((do Instr.storeAt T (a.eval x) (a.eval y);pure Next.skip):Sem Next).run P w=_;rw[hx.ev rfl ha,hy.ev rfl ha];subst hc hs;simp[Instr.storeAt,Instr.sureAddr,storeVar,hT w,k1]
def Gh(c:Bool)(e:Env):List Operand→List Value→Prop
 | [],[]=>True
 | x::xs,v::vs=>OV c e x v∧Gh c e xs vs
 | _,_=>False
theorem Gh.ev{c:Bool}{a:Act}(ha:eB Mo n e a)(hc:c=true):∀ {xs:List Operand} {vs:List Value},Gh c e xs vs→xs.map a.eval=vs
 | [],[],_=>rfl
 | x::xs,v::vs,h=>by rw[map_cons,h.1.ev hc ha,Gh.ev ha hc h.2]
def bT(P:Program)(f:FuncId):Prop:=∀args w,(callFunc f args).run P w= .ok (.enter f args) w
theorem yF{f:FuncId}{xs:List Operand}{vs:List Value}{ats:Array TypeId}{a:Act}{w:World}(hf:bT P f)(dP:xs.map a.eval=vs) :
 (execOp a.eval ⟨dst,.call ⟨.value (.func f),xs.toArray,ats⟩,ty,pos,af,gd⟩).run P w= .ok (.enter f vs.toArray) w:=by
 rw[execOp_call_go,hf];simp[dP]
theorem uo{y:Operand}{f:FuncId}{first captured:List Value}{xs:List Operand}{vs:List Value}{ats:Array TypeId}{a:Act}{w:World}(hf:bT P f)(hy:a.eval y= .func (.func f) first.toArray captured.toArray)(dP:xs.map a.eval=vs) :
 (execOp a.eval ⟨dst,.call ⟨.value y,xs.toArray,ats⟩,ty,pos,af,gd⟩).run P w= .ok (.enter f (first++vs++captured).toArray) w:=by
 show ((do let d ←resolve a.eval ⟨.value y,xs.toArray,ats⟩ ty;invoke d.target d.args):Sem Next).run P w=_;have h1:resolve a.eval ⟨.value y,xs.toArray,ats⟩ ty=pure { target:= .fn (.func f) captured.toArray,args:=first.toArray++vs.toArray }:=by
  simp only[resolve,hy,map_toArray,dP];rfl
 rw[h1];show (callFunc f (first.toArray++vs.toArray++captured.toArray)).run P w=_;rw[hf];simp
theorem WL.afx{d:Nat}{f:FuncId}{op:Op}{vs:List Value}{post:Value→List aA→Prop}(hr:∀a w,eB Mo n e a→(execOp a.eval ⟨some d,op,ty,pos,af,none⟩).run P w= .ok (.enter f vs.toArray) w)
 (hF:aC P f vs.toArray K H post) (hd:blt d n=true) (h:∀v H',post v H'→WL Mo P K n ops rest Q ((d,v)::e) H'):WL Mo P K n ops (⟨some d,op,ty,pos,af,none⟩::rest) Q e H:=fun a w ha hw=>by
 refine kP rfl fun S hS=>D9 (hr a w ha) ((hF w hw).mono ?_);rintro _ w' ⟨v,H',rfl,h2,h3⟩;exact⟨v,rfl,hS _ _ (h v H' h3 _ w' (ha.put d hd v) h2)⟩
theorem WL.call{d:Nat}{f:FuncId}{xs:List Operand}{vs:List Value}{ats:Array TypeId}{post:Value→List aA→Prop}(hf:bT P f)(dP:Gh true e xs vs)
 (hF:aC P f vs.toArray K H post) (hd:blt d n=true) (h:∀v H',post v H'→WL Mo P K n ops rest Q ((d,v)::e) H'):WL Mo P K n ops (⟨some d,.call ⟨.value (.func f),xs.toArray,ats⟩,ty,pos,af,none⟩::rest) Q e H :=
 WL.afx (fun a w ha=>yF hf (dP.ev ha rfl)) hF hd h
theorem WL.nC{d:Nat}{f:FuncId}{y:Operand}{first captured:List Value}{xs:List Operand}{vs:List Value}{ats:Array TypeId}{post:Value→List aA→Prop}(hf:bT P f)(hy:OV true e y (.func (.func f) first.toArray captured.toArray))(dP:Gh true e xs vs)
 (hF:aC P f (first++vs++captured).toArray K H post) (hd:blt d n=true) (h:∀v H',post v H'→WL Mo P K n ops rest Q ((d,v)::e) H'):WL Mo P K n ops (⟨some d,.call ⟨.value y,xs.toArray,ats⟩,ty,pos,af,none⟩::rest) Q e H :=
 WL.afx (fun a w ha=>uo hf (hy.ev rfl ha) (dP.ev ha rfl)) hF hd h
def aL(P:Program)(f:FuncId)(args:Array Value)(K:World)(H:List aA)(v:Value):Prop:=aC P f args K H fun v' H'=>v'=v∧H'=H
theorem aL.eq{f:FuncId}{args:Array Value}{v v':Value}(h:aL P f args K H v)(e:v=v'):aL P f args K H v':=e ▸ h
theorem aL.call{f:FuncId}{args:Array Value}{v:Value}(h:aL P f args K H v){w:World}(hw:Sat K w H):Calls P f args w fun e w'=>e= .returned v∧Sat K w' H :=
 (h w hw).mono fun e w' ⟨v',H',h1,h2,h3,h4⟩=>by subst h3 h4;exact⟨h1,h2⟩
theorem WL.qh{d j dj:Nat}{want:Bool}{oj:Oper}{f:FuncId}{xs:List Operand}{vs:List Value}{ats:Array TypeId}{v gv:Value}{c:Bool}
 (hj:ops[j]? =some oj) (Gz:oj.dst=some dj) (hl:look e dj=some gv) (hG:GC gv want c) (hf:bT P f) (dP:Gh c e xs vs) (hF:c=true→aL P f vs.toArray K H v) (hd:blt d n=true)
 (h:WL Mo P K n ops rest Q ((d,cv c v)::e) H):WL Mo P K n ops (⟨some d,.call ⟨.value (.func f),xs.toArray,ats⟩,ty,pos,af,some (j,want)⟩::rest) Q e H:=fun a w ha hw=>by
 have Ht:=Region.jy (o:=⟨some d,.call ⟨.value (.func f),xs.toArray,ats⟩,ty,pos,af,some (j,want)⟩) rfl hj Gz hl ha hG;cases c with
 | false=>exact qB Ht (h _ w (ha.put d hd _) hw)
 | true =>
  refine vD Ht fun R hR=>D9 (yF hf (dP.ev ha rfl)) (((hF rfl).call hw).mono ?_);rintro _ w' ⟨rfl,h2⟩;exact⟨v,rfl,hR _ _ (h _ w' (ha.put d hd v) h2)⟩
end
end Go.Sl
namespace Go.Sl
open Go.RowKit Go.BigFrame List Nat
section
variable{Mo:Mode}{P:Program}{K:World}{n:Nat}{Q:fG}{e:Env}{H:List aA}{c:Bool}{dst:Option Tmp}{ty:TypeId}{pos:String}{af:Array Edge}{gd:Option (Nat×Bool)}{ops:Array Oper}{rest:List Oper}
abbrev sp(A:Option Addr)(k:Nat):Value:= .pointer (A.map (·.add k))
theorem add_add(a:Addr)(i j:Nat):(a.add i).add j=a.add (i+j):=by
 cases a with
 | mk b o s =>
  unfold Addr.add;by_cases hi:i=0
  ·by_cases hj:j=0
   ·simp[hi,hj]
   ·simp[hi,hj]
  ·by_cases hj:j=0
   ·simp[hi,hj]
   ·rw[if_neg hi,if_neg hj,if_neg (by omega)];simp[Nat.add_assoc]
structure Seq(K:World)(H:List aA)(A:Option Addr)(m s:Nat)(vs:List Value):Prop where
 len:vs.length=m*s
 rd:∀i v,vs[i]? =some v→Rd K H (A.map (·.add i)) v
theorem Seq.up{A:Option Addr}{m s:Nat}{vs:List Value}{B:aA}(h:Seq K H A m s vs):Seq K (B::H) A m s vs:=⟨h.len,fun i v hi=>(h.rd i v hi).up⟩
theorem Seq.sat{A:Option Addr}{m s:Nat}{vs:List Value}{H':List aA}(h:Seq K H A m s vs)(hs:∀w,Sat K w H'→Sat K w H):Seq K H' A m s vs:=⟨h.len,fun i v hi w hw=>h.rd i v hi w (hs w hw)⟩
theorem Seq.here{b T o m s:Nat}{cs vs:List Value}(hl:vs.length=m*s)(h:vs <+: cs.drop o):Seq K (ah b T cs::H) (some ⟨b,o,none⟩) m s vs:=⟨hl,fun i v hi=>by
 have :=(gD.here (K:=K) (H:=H) (b:=b) (T:=T) h) i v hi
 simpa [jR] using this⟩
theorem Seq.nil{s:Nat}:Seq K H none 0 s []:=⟨by simp,fun i v hi=>by simp at hi⟩
theorem Seq.cell{A:Option Addr}{m s:Nat}{vs:List Value}(h:Seq K H A m s vs){w:World}(hw:Sat K w H){i:Nat}{v:Value}(hi:vs[i]? =some v):∃a,A=some a∧w.cell? (a.add i)=some v:=by
 obtain⟨a,h1,h2⟩:=h.rd i v hi w hw;cases A with
 | none=>simp at h1
 | some a'=>simp at h1;subst h1;exact⟨a',rfl,h2⟩
theorem V.len{x:Operand}{t T:TypeId}{E:TypeId}{A:Option Addr}{m cap:Nat}(hT:∀w,(underlying T).run P w= .ok (.slice E) w)(hx:OV c e x (.slice A m cap)) :
 eX Mo P K n c e H ⟨dst,.call ⟨.builtin .len,#[x],#[T]⟩,ty,pos,af,gd⟩ (.i (m:Int)):=fun hc a w ha _=>by
 rw[execOp_builtin,builtin_len];have :=hx.ev hc ha;simp[Builtin.len_,hT w,this,goInt]
theorem V.adn{x:Operand}{T:TypeId}{s:ByteArray}(hT:∀w,(underlying T).run P w= .ok .string w)(hx:OV c e x (.string s)) :
 eX Mo P K n c e H ⟨dst,.call ⟨.builtin .len,#[x],#[T]⟩,ty,pos,af,gd⟩ (.i (s.size:Int)):=fun hc a w ha _=>by
 rw[execOp_builtin,builtin_len];have :=hx.ev hc ha;simp[Builtin.len_,hT w,this,goInt]
theorem V.min{x y:Operand}{ats:Array TypeId}{k:IntKind}{i j:Int}(hx:OV c e x (.int k i))(hy:OV c e y (.int k j)) :
 eX Mo P K n c e H ⟨dst,.call ⟨.builtin .min,#[x,y],ats⟩,ty,pos,af,gd⟩ (.int k (min i j)):=fun hc a w ha _=>by
 rw[execOp_builtin,builtin_min];have h1:=hx.ev hc ha;have h2:=hy.ev hc ha;simp[Builtin.min_,h1,h2,Builtin.min2];omega
theorem V.max{x y:Operand}{ats:Array TypeId}{k:IntKind}{i j:Int}(hx:OV c e x (.int k i))(hy:OV c e y (.int k j)) :
 eX Mo P K n c e H ⟨dst,.call ⟨.builtin .max,#[x,y],ats⟩,ty,pos,af,gd⟩ (.int k (max i j)):=fun hc a w ha _=>by
 rw[execOp_builtin,builtin_max];have h1:=hx.ev hc ha;have h2:=hy.ev hc ha;simp[Builtin.max_,h1,h2,Builtin.max2];omega
def gI(P:Program)(T E s:Nat):Prop:=(∀w,(underlying T).run P w= .ok (.slice E) w)∧∀w,(sizeOf E).run P w= .ok s w
def uL(P:Program)(T m E s:Nat):Prop:=(∀w,(underlying T).run P w= .ok (.array m E) w)∧∀w,(sizeOf E).run P w= .ok s w
theorem V.eD{x y:Operand}{T E s m cap:Nat}{A:Option Addr}{k:IntKind}{j:Int}{v:Value}(hT:gI P T E s)(hx:OV c e x (.slice A m cap))(hy:OV c e y (.int k j))(hb:c=true→0≤j∧j<m)
 (hr:c=true→Rd K H (A.map (·.add (j.toNat*s))) v):eX Mo P K n c e H ⟨dst,.indexAddr T x y,ty,pos,af,gd⟩ (sp A (j.toNat*s)):=fun hc a w ha hw=>by
 show ((do pure (Next.value (←Instr.indexAt T (a.eval x) (a.eval y)))):Sem Next).run P w=_;rw[hx.ev hc ha,hy.ev hc ha];obtain⟨p,h1,h2⟩:=hr hc w hw;cases A with
 | none=>simp at h1
 | some a'=>simp[Instr.indexAt,asIntOf,hT.1 w,hT.2 w,hb hc]
theorem V.Gs{x y:Operand}{T E s m cap b o:Nat}{k:IntKind}{j:Int}(hT:gI P T E s)(hx:OV c e x (.slice (some ⟨b,o,none⟩) m cap))(hy:OV c e y (.int k j))(hb:c=true→0≤j∧j<m) :
 eX Mo P K n c e H ⟨dst,.indexAddr T x y,ty,pos,af,gd⟩ (ptr b (o+j.toNat*s)):=fun hc a w ha hw=>by
 show ((do pure (Next.value (←Instr.indexAt T (a.eval x) (a.eval y)))):Sem Next).run P w=_;rw[hx.ev hc ha,hy.ev hc ha];simp[Instr.indexAt,asIntOf,hT.1 w,hT.2 w,hb hc,jR]
theorem V.aa2{x y:Operand}{T E s m b o:Nat}{k:IntKind}{j:Int}(hT:uL P T m E s)(hx:OV c e x (ptr b o))(hy:OV c e y (.int k j))(hb:c=true→0≤j∧j<m) :
 eX Mo P K n c e H ⟨dst,.indexAddr T x y,ty,pos,af,gd⟩ (ptr b (o+j.toNat*s)):=fun hc a w ha hw=>by
 show ((do pure (Next.value (←Instr.indexAt T (a.eval x) (a.eval y)))):Sem Next).run P w=_;rw[hx.ev hc ha,hy.ev hc ha];simp[Instr.indexAt,Instr.sureAddr,asIntOf,hT.1 w,hT.2 w,hb hc,jR]
theorem V.Tq{x:Operand}{S f off k:Nat}{A:Option Addr}{v:Value}{k':Nat}(hF:oP P S f off)(hx:OV c e x (sp A k))(hr:c=true→Rd K H (A.map (·.add k')) v):eX Mo P K n c e H ⟨dst,.fieldAddr S x f,ty,pos,af,gd⟩ (sp A (k+off)):=fun hc a w ha hw=>by
 show ((do pure (Next.value (←Instr.fieldAt S (a.eval x) f))):Sem Next).run P w=_;rw[hx.ev hc ha];obtain⟨p,h1,h2⟩:=hr hc w hw;cases A with
 | none=>simp at h1
 | some a'=>simp[sp,hF _ _,add_add]
theorem V.wH{x:Operand}{T s k:Nat}{A:Option Addr}{vs:List Value}(hT:Ue P T s)(hx:OV c e x (sp A k))(hs:vs.length=s)(h0:0<s)(hr:c=true→∀i v,vs[i]? =some v→Rd K H (A.map (·.add (k+i))) v):eX Mo P K n c e H ⟨dst,.load T x,ty,pos,af,gd⟩ (.agg vs.toArray):=fun hc a w ha hw=>by
 show ((do pure (Next.value (←Instr.loadAt T (a.eval x)))):Sem Next).run P w=_;rw[hx.ev hc ha];subst hs;obtain⟨p,h1,_⟩:=hr hc 0 vs[0] (by simp) w hw;cases A with
 | none=>simp at h1
 | some a' =>
  have h1:=run_loadCells_list (P:=P) w (a'.add k) vs (fun j v hj=>by
   obtain⟨q,h1,h2⟩:=hr hc j v hj w hw;simp at h1;subst h1;rwa [add_add])
  simp[sp,Instr.loadAt,Instr.sureAddr,loadVar,hT.1 w,hT.2 w,h1]
theorem V.index{x y:Operand}{T E s m:Nat}{cs:List Value}{k:IntKind}{j:Int}{v:Value}(hT:uL P T m E s)(hx:OV c e x (.agg cs.toArray))(hy:OV c e y (.int k j))(hb:c=true→0≤j∧j<m)
 (hp:c=true→∀w,(part E cs.toArray (j.toNat*s)).run P w= .ok v w):eX Mo P K n c e H ⟨dst,.index T x y,ty,pos,af,gd⟩ v:=fun hc a w ha hw=>by
 show ((do pure (Next.value (←Instr.index T (a.eval x) (a.eval y)))):Sem Next).run P w=_;rw[hx.ev hc ha,hy.ev hc ha];simp[Instr.index,asIntOf,hT.1 w,hT.2 w,hb hc,hp hc w]
theorem lC{E:Nat}{cs:List Value}{o:Nat}{v:Value}(hE:Nf P E)(hv:cs[o]? =some v):∀w,(part E cs.toArray o).run P w= .ok v w:=fun w=>by simp[part,hE w,hv]
theorem ajc{E s:Nat}{cs:Array Value}{o:Nat}{vs:List Value}(hE:Ue P E s)(hv:cs.extract o (o+s)=vs.toArray):∀w,(part E cs o).run P w= .ok (.agg vs.toArray) w:=fun w=>by simp only[part,Sem.run_bind,hE.1 w,hE.2 w,Result.andThen_ok,if_true,Sem.run_pure,hv]
theorem V.build{T:Nat}{xs:List (Nat×Operand)}{vs:List (Nat×Value)}{v:Value}(dP:Gh c e (xs.map (·.2)) (vs.map (·.2)))(hi:xs.map (·.1)=vs.map (·.1))(hB:∀w,(Instr.build T vs.toArray).run P w= .ok v w) :
 eX Mo P K n c e H ⟨dst,.build T xs.toArray,ty,pos,af,gd⟩ v:=fun hc a w ha hw=>by
 show ((do pure (Next.value (←Instr.build T (xs.toArray.map fun (i,x)=>(i,a.eval x))))):Sem Next).run P w=_;have h1:=dP.ev ha hc;have h2:xs.map (fun (i,x)=>(i,a.eval x))=vs:=by
  apply ext_getElem?;intro i;have k1:=congrArg (·[i]?) h1;have k2:=congrArg (·[i]?) hi;simp only[getElem?_map] at k1 k2 ⊢;cases hx:xs[i]? <;>cases hv:vs[i]? <;>simp[hx,hv] at k1 k2 ⊢;exact Prod.ext k2 k1
 rw[map_toArray,h2];simp[hB w]
theorem V.field{x:Operand}{T f:Nat}{cs:Array Value}{v:Value}(hx:OV c e x (.agg cs))(hF:∀w,(Instr.field T (.agg cs) f).run P w= .ok v w):eX Mo P K n c e H ⟨dst,.field T x f,ty,pos,af,gd⟩ v:=fun hc a w ha hw=>by
 show ((do pure (Next.value (←Instr.field T (a.eval x) f))):Sem Next).run P w=_;rw[hx.ev hc ha];simp[hF w]
def OO(c:Bool)(e:Env)(x:Option Operand)(d l:Nat):Prop:=match x with | none=>l=d | some y=>∃k j,OV c e y (.int k j)∧(c=true→j=(l:Int))
theorem OO.none{d:Nat}:OO c e none d d:=rfl
theorem OO.some{y:Operand}{k:IntKind}{j:Int}{l d:Nat}(h:OV c e y (.int k j))(hj:c=true→j=(l:Int)):OO c e (some y) d l:=⟨k,j,h,hj⟩
theorem run_sliceBound{i:Int}{k:IntKind}{l y:Nat}{code:BoundsCode}{w:World}(hi:i=(l:Int))(h:l≤y):(Instr.sliceBound (.int k i) y code).run P w= .ok l w:=by
 subst hi;simp[Instr.sliceBound,asIntOf,h]
theorem wF{b:Bool}{m cap:Nat}{lo hi mx:Option Operand}{l h x:Nat}{a:Act}(ha:eB Mo n e a)(hl:OO true e lo 0 l)(hh:OO true e hi m h)(hm:OO true e mx cap x)(hmh:mx.isSome=true→hi.isSome=true)(h1:l≤h)(h2:h≤x)(h3:x≤cap)(w:World) :
 (Instr.sliceBounds b m cap (lo.map a.eval) (hi.map a.eval) (mx.map a.eval)).run P w= .ok (l,h,x) w:=by
 cases mx with
 | none =>
  simp only[OO] at hm;subst hm;cases hi with
  | none =>
   simp only[OO] at hh;subst hh;cases lo with
   | none=>simp only[OO] at hl;subst hl;simp[Instr.sliceBounds]
   | some y =>
    obtain⟨k,j,hy,hj⟩:=hl;simp[Instr.sliceBounds,hy.ev rfl ha,run_sliceBound (hj rfl) h1]
  | some z =>
   obtain⟨k,j,hz,hj⟩:=hh;cases lo with
   | none=>simp only[OO] at hl;subst hl;simp[Instr.sliceBounds,hz.ev rfl ha,run_sliceBound (hj rfl) h2]
   | some y =>
    obtain⟨k',j',hy,hj'⟩:=hl;simp[Instr.sliceBounds,hz.ev rfl ha,run_sliceBound (hj rfl) h2,hy.ev rfl ha,run_sliceBound (hj' rfl) h1]
 | some u =>
  obtain⟨k2,j2,hu,hj2⟩:=hm;cases hi with
  | none=>simp at hmh
  | some z =>
   obtain⟨k,j,hz,hj⟩:=hh;cases lo with
   | none=>simp only[OO] at hl;subst hl;simp[Instr.sliceBounds,hu.ev rfl ha,run_sliceBound (hj2 rfl) h3,hz.ev rfl ha,run_sliceBound (hj rfl) h2]
   | some y =>
    obtain⟨k',j',hy,hj'⟩:=hl;simp[Instr.sliceBounds,hu.ev rfl ha,run_sliceBound (hj2 rfl) h3,hz.ev rfl ha,run_sliceBound (hj rfl) h2,hy.ev rfl ha,run_sliceBound (hj' rfl) h1]
theorem V.slice{x:Operand}{lo hi mx:Option Operand}{T E s m cap l h u:Nat}{A:Option Addr}(hT:gI P T E s)(hx:OV true e x (.slice A m cap))(hl:OO true e lo 0 l)(hh:OO true e hi m h)(hm:OO true e mx cap u)
 (hmh:mx.isSome=true→hi.isSome=true) (h1:l≤h) (h2:h≤u) (h3:u≤cap) :
 eX Mo P K n true e H ⟨dst,.slice T x lo hi mx,ty,pos,af,gd⟩ (.slice (if u=l then A else A.map (·.add (l*s))) (h-l) (u-l)):=fun _ a w ha hw=>by
 show ((do pure (Next.value (←Instr.sliceAt T (a.eval x) (lo.map a.eval) (hi.map a.eval) (mx.map a.eval)))):Sem Next).run P w=_;rw[hx.ev rfl ha];have hb:=wF (P:=P) (b:=true) ha hl hh hm hmh h1 h2 h3 w;simp[Instr.sliceAt,Instr.slice,hT.1 w,hT.2 w,hb]
theorem V.qQ{x:Operand}{lo hi mx:Option Operand}{T E s m l h u b o:Nat}(hT:uL P T m E s)(hx:OV true e x (ptr b o))(hl:OO true e lo 0 l)(hh:OO true e hi m h)(hm:OO true e mx m u)
 (hmh:mx.isSome=true→hi.isSome=true) (h1:l≤h) (h2:h≤u) (h3:u≤m) :
 eX Mo P K n true e H ⟨dst,.slice T x lo hi mx,ty,pos,af,gd⟩ (.slice (some ⟨b,if u=l then o else o+l*s,none⟩) (h-l) (u-l)):=fun _ a w ha hw=>by
 show ((do pure (Next.value (←Instr.sliceAt T (a.eval x) (lo.map a.eval) (hi.map a.eval) (mx.map a.eval)))):Sem Next).run P w=_;rw[hx.ev rfl ha];have hb:=wF (P:=P) (b:=false) ha hl hh hm hmh h1 h2 h3 w;simp[Instr.sliceAt,Instr.sureAddr,hT.1 w,hT.2 w,hb,jR];split<;>rfl
theorem WL.makeSlice{d:Nat}{x y:Operand}{T E:Nat}{i:TypeInfo}{z:Value}{k k':IntKind}{l q:Int}(hT:P.underlying T=some (.slice E))(hi:P.info? E=some i)(hz:i.zero=some z)(hx:OV true e x (.int k l))(hy:OV true e y (.int k' q))
 (h0:0≤l) (SN:l≤q) (hb:(i.bytes:Int)*q≤281474976710656) (h63:q≤9223372036854775807) (hd:blt d n=true)
 (h:∀b,WL Mo P K n ops rest Q ((d,.slice (some ⟨b,0,none⟩) l.toNat q.toNat)::e) (ah b E (madeCells z.cells (q.toNat*i.size)).toList::H)) :
 WL Mo P K n ops (⟨some d,.makeSlice T x y,ty,pos,af,none⟩::rest) Q e H:=by
 refine WL.SS (R:=fun v H'=>∃b,v= .slice (some ⟨b,0,none⟩) l.toNat q.toNat∧H'=ah b E (madeCells z.cells (q.toNat*i.size)).toList::H) (fun a w ha hw=> ?_) hd (fun v H' ⟨b,e1,e2⟩=>by subst e1 e2;exact h b);refine⟨_,_,_, ?_,hw.alloc E (madeCells z.cells (q.toNat*i.size)).toList,_,rfl,rfl⟩;show ((do pure (Next.value (←Instr.makeSlice T (a.eval x) (a.eval y)))):Sem Next).run P w=_;rw[hx.ev rfl ha,hy.ev rfl ha,Sem.run_bind,run_make (P:=P) w T E i z hT hi hz k k' l q h0 SN hb h63];simp
theorem WL.buildSlice{d:Nat}{T E m:Nat}{xs:List (Nat×Operand)}{vs:List (Nat×Value)}{cs:List Value}(dP:Gh true e (xs.map (·.2)) (vs.map (·.2)))(hi:xs.map (·.1)=vs.map (·.1))
 (hB:∀w,(Instr.buildSlice T m vs.toArray).run P w= .ok (.slice (some ⟨w.heap.size,0,none⟩) m m) (w.alloc (.cells cs.toArray E))) (hd:blt d n=true)
 (h:∀b,WL Mo P K n ops rest Q ((d,.slice (some ⟨b,0,none⟩) m m)::e) (ah b E cs::H)):WL Mo P K n ops (⟨some d,.buildSlice T m xs.toArray,ty,pos,af,none⟩::rest) Q e H:=by
 refine WL.SS (R:=fun v H'=>∃b,v= .slice (some ⟨b,0,none⟩) m m∧H'=ah b E cs::H) (fun a w ha hw=> ?_) hd (fun v H' ⟨b,e1,e2⟩=>by subst e1 e2;exact h b);refine⟨_,_,_, ?_,hw.alloc E cs,_,rfl,rfl⟩;show ((do pure (Next.value (←Instr.buildSlice T m (xs.toArray.map fun (i,x)=>(i,a.eval x))))):Sem Next).run P w=_;have h1:=dP.ev ha rfl;have h2:xs.map (fun (i,x)=>(i,a.eval x))=vs:=by
  apply ext_getElem?;intro i;have k1:=congrArg (·[i]?) h1;have k2:=congrArg (·[i]?) hi;simp only[getElem?_map] at k1 k2 ⊢;cases hx:xs[i]? <;>cases hv:vs[i]? <;>simp[hx,hv] at k1 k2 ⊢;exact Prod.ext k2 k1
 rw[map_toArray,h2];simp[hB w]
def bq(v:Value)(E s m:Nat)(cs:List Value):aA where
 jF x:=v.ownBlock=some x
 holds w:=w.ownsRow 0 E s v m cs
 loc w w' h hw:=by
  refine⟨hw.1, ?_⟩;rcases hw.2 with h1 | ⟨g,cap,cur,rfl,h2,h3,h4⟩
  ·exact .inl h1
  ·exact .inr ⟨g,cap,cur,rfl,h2,by rw[h g rfl];exact h3,h4⟩
theorem Sat.iG{w:World}(hw:Sat K w H)(E s:Nat):Sat K w (bq (.slice none 0 0) E s 0 []::H) :=
 ⟨hw.1,World.ownsRow_nil w 0 E s,fun b hb=>by simp[bq,Value.ownBlock] at hb,fun b hb=>by simp[bq,Value.ownBlock] at hb,hw.2⟩
theorem Sat.Nq{w:World}{b E s m cap:Nat}{cs:List Value}(hw:Sat K w (ah b E cs::H))(hl:cs.length=cap*s)(hm:m≤cap)(hc:cap≤maxLen):Sat K w (bq (.slice (some ⟨b,0,none⟩) m cap) E s m (cs.take (m*s))::H):=by
 have hb:=hw.head;simp only[ah] at hb;refine⟨hw.1,⟨?_,.inr ⟨b,cap,cs.toArray,rfl,zero_le _,hb,hm,hc,by simpa using hl,by simp⟩⟩,fun x hx=> ?_,fun x hx B hB tY=> ?_,hw.2.tail⟩
 ·rw[length_take,hl];exact Nat.min_eq_left (mul_le_mul_right _ hm)
 ·simp[bq,Value.ownBlock] at hx;subst hx;exact hw.2.2.1 _ rfl
 ·simp[bq,Value.ownBlock] at hx;subst hx;exact hw.2.2.2.1 _ rfl B hB tY
theorem bq.shape{w:World}{v:Value}{E s m:Nat}{cs:List Value}(h:w.ownsRow 0 E s v m cs):∃A cap,v= .slice A m cap∧m≤cap∧(∀a,A=some a→a.off=0∧a.spot=none)∧(A=none→m=0∧cap=0):=by
 rcases h.2 with ⟨rfl,rfl⟩ | ⟨g,cap,cur,rfl,_,_,h4,_⟩
 ·exact⟨none,0,rfl,Nat.le_refl _,fun a h=>by simp at h,fun _=>⟨rfl,rfl⟩⟩
 ·exact⟨_,cap,rfl,h4,fun a h=>by simp at h;subst h;simp,fun h=>by simp at h⟩
theorem bq.seq{A:Option Addr}{cap E s m:Nat}{cs:List Value}(hl:cs.length=m*s):Seq K (bq (.slice A m cap) E s m cs::H) A m s cs:=⟨hl,fun i v hi w hw=>by
 have h:=hw.head;rcases h.2 with ⟨h1,h2⟩ | ⟨g,cap',cur,h1,_⟩
 ·exfalso;simp only[Value.slice.injEq] at h1;subst h2;simp at hl;simp[hl] at hi
 ·simp only[Value.slice.injEq] at h1;obtain⟨rfl,_,rfl⟩:=h1;exact⟨_,rfl,h.cells (g:=g) rfl i v hi⟩⟩
def dX(P:Program)(E s bytes:Nat)(z:Value):Prop:=∃i,P.info? E=some i∧i.zero=some z∧i.size=s∧i.bytes=bytes∧z.cells.size=s∧0<s
theorem dX.mk{E s bytes:Nat}{z:Value}{i:TypeInfo}(hi:P.info? E=some i)(h1:i.zero=some z)(h2:i.size=s)(h3:i.bytes=bytes)(h4:z.cells.size=s)(h5:blt 0 s=true):dX P E s bytes z:=⟨i,hi,h1,h2,h3,h4,by simpa using h5⟩
theorem WL.append{d:Nat}{x y:Operand}{T E s bytes m q cap':Nat}{z v:Value}{cs news:List Value}{B:Option Addr}(hT:P.underlying T=some (.slice E))(hE:dX P E s bytes z)(hx:OV true e x v)(hy:OV true e y (.slice B q cap'))
 (hn:Seq K H B q s news) (h1:∀u∈news,u.oneCell'=true) (hb:(m+q)*bytes≤140737488355328) (J6:blt 0 bytes=true) (hd:blt d n=true)
 (h:∀A cap,(A=none→m+q=0∧cap=0)→m+q≤cap→WL Mo P K n ops rest Q ((d,.slice A (m+q) cap)::e) (bq (.slice A (m+q) cap) E s (m+q) (cs++news)::H)) :
 WL Mo P K n ops (⟨some d,.call ⟨.builtin .append,#[x,y],#[T,T]⟩,ty,pos,af,none⟩::rest) Q e (bq v E s m cs::H):=by
 refine WL.SS (R:=fun u H'=>∃A cap,u= .slice A (m+q) cap∧(A=none→m+q=0∧cap=0)∧m+q≤cap∧H'=bq (.slice A (m+q) cap) E s (m+q) (cs++news)::H) (fun a w ha hw=> ?_) hd (fun u H' ⟨A,cap,e1,e2,e3,e4⟩=>by subst e1 e4;exact h A cap e2 e3);obtain⟨i,hi,hz,hs,Vg,hzs,h0⟩:=hE;have SL:0<bytes:=by simpa using J6
 have hle:m+q≤140737488355328:=Nat.le_trans (Nat.le_mul_of_pos_right _ SL) hb;have tT:∀v' w',(execOp a.eval ⟨some d,.call ⟨.builtin .append,#[x,y],#[T,T]⟩,ty,pos,af,none⟩).run P w= .ok (.value v') w'→w'.ownsRow 0 E s v' (m+q) (cs++news)→w.grownBy w' v.ownBlock →
  (v'.ownBlock=none∨v'.ownBlock=v.ownBlock∨v'.ownBlock=some w.heap.size)→∃u w'' H',(execOp a.eval ⟨some d,.call ⟨.builtin .append,#[x,y],#[T,T]⟩,ty,pos,af,none⟩).run P w= .ok (.value u) w''∧Sat K w'' H' ∧
   ∃ A cap,u= .slice A (m+q) cap∧(A=none→m+q=0∧cap=0)∧m+q≤cap∧H'=bq (.slice A (m+q) cap) E s (m+q) (cs++news)::H:=fun v' w' K3 BZ hg Zo=>by
  obtain⟨A,cap,rfl,k1,_,k2⟩:=bq.shape BZ;refine⟨_,w',_,K3,⟨hw.1.grow hg.os hg.tape hg.output hg.size, ?_⟩,A,cap,rfl,k2,k1,rfl⟩;refine hw.2.set (A':=bq (.slice A (m+q) cap) E s (m+q) (cs++news)) hg.size (fun b tY oJ=>hg.block b oJ (fun e=>tY e.symm)) BZ (fun b tY=> ?_);have tX:(Value.slice A (m+q) cap).ownBlock=some b:=tY;rcases Zo with h' | h' | h'
  ·rw[h'] at tX;cases tX
  ·exact .inl (h'.symm.trans tX)
  ·rw[h'] at tX;injection tX with tX
   subst tX;exact .inr ⟨Nat.le_refl _,(BZ.lt _ h').2⟩
 have BZ:w.ownsRow 0 E s v m cs:=hw.head;have KO:=hx.ev rfl ha;have Qr:=hy.ev rfl ha;have JI:∀r w',(Builtin.append_ #[T,T] ty #[v,.slice B q cap']).run P w= .ok r w'→(execOp a.eval ⟨some d,.call ⟨.builtin .append,#[x,y],#[T,T]⟩,ty,pos,af,none⟩).run P w= .ok (.value r) w':=fun r w' hr=>by
  rw[execOp_builtin,builtin_append];simp[KO,Qr,hr]
 cases B with
 | none =>
  have SE:news=[]:=by
   cases news with
   | nil=>rfl
   | cons u us=>obtain⟨p,k1,_⟩:=hn.rd 0 u rfl w hw.tail;simp at k1
  have hq:q=0:=by
   have :=hn.len;rw[SE] at this;rcases mul_eq_zero.1 this.symm with h | h
   ·exact h
   ·omega
  subst SE hq;refine tT v w (JI v w ?_) (by simpa using BZ) ⟨rfl,rfl,rfl,Nat.le_refl _,fun _ _ _=>rfl⟩ (.inr (.inl rfl));obtain⟨A,cap,rfl,k1,_,_⟩:=bq.shape BZ;cases A<;>simp[Builtin.append_,run_underlying hT,sizeOf,typeInfo,hi,Builtin.lenOf,Builtin.firstCells,k1,storeCells]
 | some b =>
  obtain⟨v',w',hr,k2,k3,k4,k5⟩:=run_append_own_at (P:=P) w 0 T ty E i z s bytes hT hi hz hs Vg hzs h0 v m cs BZ b q cap' news hn.len (fun j u hu=>by
   obtain⟨p,k1,k2⟩:=hn.rd j u hu w hw.tail;simp at k1;subst k1;exact k2) h1 (by simp only[maxLen];omega) hb (zero_le _)
  refine tT v' w' (JI v' w' hr) k2 k3 ?_;rcases k5 with k5 | k5
  ·exact .inr (.inl k5)
  ·exact .inr (.inr k5)
end
section
variable{Mo:Mode}{P:Program}{K:World}{n:Nat}{Q:fG}{R:Env→Prop}{e:Env}{H:List aA}{c:Bool}{dst:Option Tmp}{ty:TypeId}{pos:String}{af:Array Edge}{gd:Option (Nat×Bool)}{ops:Array Oper}{rest:List Oper}
def WQ(Mo:Mode)(P:Program)(K:World)(n:Nat)(ops:Array Oper)(rest:List Oper)(R:Env→Prop)(e:Env)(H:List aA):Prop :=
 ∀ a,eB Mo n e a→wpQuiet P ops (fun w=>Sat K w H) (fun a'=>∃e',eB Mo n e' a'∧R e') rest a
theorem vM{C:World→Prop}{S S':Act→Prop}(h:∀a,S a→S' a):∀(l:List Oper) (a:Act),wpQuiet P ops C S l a→wpQuiet P ops C S' l a
 | [],a,hh=>h a hh
 | o::l,a,hh=>by
  simp only[wpQuiet] at hh ⊢;split
  ·rename_i hw;rw[if_pos hw] at hh;obtain⟨v,h1,h2⟩:=hh;exact⟨v,h1,vM h l _ h2⟩
  ·rename_i hw;rw[if_neg hw] at hh;exact vM h l _ hh
theorem WC.VL{id:Nat}{l:List Oper}{ds:List Deferred}(hm:P.follows .mixedOrders=true)(hB:Region.lexB .any l.toArray=true)(h:WQ ⟨none,ds⟩ P K n l.toArray l (fun e'=>Q ⟨none,ds⟩ .normal e' H) e H):WC ⟨none,ds⟩ P K n (.region id l.toArray true) Q e H:=fun a w ha hw=>by
 show (Code.region id l.toArray true).wp P _ a w;refine wp_region_quiet (C:=fun w=>Sat K w H) hm hB hw.drew ?_;have :=h a ha;refine vM ?_ _ a this;rintro a' ⟨e',h1,h2⟩ w' Ht;exact⟨ds,e',H,h1,Ht,h2⟩
theorem WQ.nil(h:R e):WQ Mo P K n ops [] R e H:=fun a ha=>⟨e,ha,h⟩
theorem WQ.val{d:Nat}{op:Op}{v:Value}(hv:eX Mo P K n true e H ⟨some d,op,ty,pos,af,none⟩ v)(hd:blt d n=true)(h:WQ Mo P K n ops rest R ((d,v)::e) H):WQ Mo P K n ops (⟨some d,op,ty,pos,af,none⟩::rest) R e H:=fun a ha=>by
 refine wpQuiet_step fun S hS=> ?_;simp only[Region.wanted,if_true];refine⟨v,fun w hw=> ?_,hS _ (h _ (ha.put d hd v))⟩;unfold Oper.quietAt;rw[hv rfl a w ha hw];exact⟨rfl,rfl⟩
theorem WQ.bG{d j dj:Nat}{want:Bool}{oj:Oper}{op:Op}{v gv:Value}(hj:ops[j]? =some oj)(Gz:oj.dst=some dj)(hl:look e dj=some gv)(hG:GC gv want c)
 (hv:eX Mo P K n c e H ⟨some d,op,ty,pos,af,some (j,want)⟩ v) (hd:blt d n=true) (h:WQ Mo P K n ops rest R ((d,cv c v)::e) H):WQ Mo P K n ops (⟨some d,op,ty,pos,af,some (j,want)⟩::rest) R e H:=fun a ha=>by
 refine wpQuiet_step fun S hS=> ?_;rw[Region.jy (o:=⟨some d,op,ty,pos,af,some (j,want)⟩) rfl hj Gz hl ha hG];cases c with
 | false=>exact hS _ (h _ (ha.put d hd _))
 | true =>
  simp only[if_true];refine⟨v,fun w hw=> ?_,hS _ (h _ (ha.put d hd v))⟩;unfold Oper.quietAt;rw[hv rfl a w ha hw];exact⟨rfl,rfl⟩
theorem WQ.call{d:Nat}{f:FuncId}{xs:List Operand}{vs:List Value}{ats:Array TypeId}{v:Value}(hf:bT P f)(dP:Gh true e xs vs)
 (hF:aL P f vs.toArray K H v) (hd:blt d n=true) (h:WQ Mo P K n ops rest R ((d,v)::e) H):WQ Mo P K n ops (⟨some d,.call ⟨.value (.func f),xs.toArray,ats⟩,ty,pos,af,none⟩::rest) R e H:=fun a ha=>by
 refine wpQuiet_step fun S hS=> ?_;simp only[Region.wanted,if_true];refine⟨v,fun w hw=> ?_,hS _ (h _ (ha.put d hd v))⟩;unfold Oper.quietAt;rw[yF hf (dP.ev ha rfl)];exact⟨rfl,hF.call hw⟩
theorem WQ.qh{d j dj:Nat}{want:Bool}{oj:Oper}{f:FuncId}{xs:List Operand}{vs:List Value}{ats:Array TypeId}{v gv:Value}
 (hj:ops[j]? =some oj) (Gz:oj.dst=some dj) (hl:look e dj=some gv) (hG:GC gv want c) (hf:bT P f) (dP:Gh c e xs vs) (hF:c=true→aL P f vs.toArray K H v) (hd:blt d n=true)
 (h:WQ Mo P K n ops rest R ((d,cv c v)::e) H):WQ Mo P K n ops (⟨some d,.call ⟨.value (.func f),xs.toArray,ats⟩,ty,pos,af,some (j,want)⟩::rest) R e H:=fun a ha=>by
 refine wpQuiet_step fun S hS=> ?_;rw[Region.jy (o:=⟨some d,.call ⟨.value (.func f),xs.toArray,ats⟩,ty,pos,af,some (j,want)⟩) rfl hj Gz hl ha hG];cases c with
 | false=>exact hS _ (h _ (ha.put d hd _))
 | true =>
  simp only[if_true];refine⟨v,fun w hw=> ?_,hS _ (h _ (ha.put d hd v))⟩;unfold Oper.quietAt;rw[yF hf (dP.ev ha rfl)];exact⟨rfl,(hF rfl).call hw⟩
def lY(P:Program)(ops:Array Oper)(C:World→Prop)(o:Oper)(v:Value)(a:Act):Prop :=
 (Region.wanted o (yielded ops a.tmps)=true∧∀w,C w→(execOp a.eval o).run P w= .ok (.value v) w)∨(Region.wanted o (yielded ops a.tmps)=false∧v=undef)
theorem lY.wpOp{C:World→Prop}{q:Exit→Act→World→Prop}{i:Nat}{o:Oper}{v:Value}{a:Act}(hi:ops[i]? =some o)(hy:lY P ops C o v a){S:Act→World→Prop}{w:World}(hC:C w)(h:S (a.put o.dst v) w):wpOp P ops q i S a w:=by
 unfold Go.wpOp;simp only[hi];rcases hy with ⟨hw,hv⟩ | ⟨hw,rfl⟩
 ·simp only[hw,if_true,Oper.wp,hv w hC,Oper.upon];exact .inl h
 ·simp only[hw,Bool.false_eq_true,if_false];exact h
theorem lY.of_same{C:World→Prop}{o:Oper}{v:Value}{a a':Act}(hy:lY P ops C o v a)(he:execOp a'.eval o=execOp a.eval o)
 (hw:Region.wanted o (yielded ops a'.tmps)=Region.wanted o (yielded ops a.tmps)):lY P ops C o v a':=by grind [lY]
theorem XW{C:World→Prop}{q:Exit→Act→World→Prop}{j:Nat}{oi oj:Oper}{v:Value}(hj:ops[j]? =some oj)(hap:oi.apart ops oj=true)
 (ZM:∀cs b,oi.op≠ .select cs b) (hsj:∀cs b,oj.op≠ .select cs b)
 (hQ:∀c a w,q (.panic c) (a.put oi.dst v) w→q (.panic c) a w) {S:Act→World→Prop} {a:Act} {w:World}
 (hy:lY P ops C oi v a) (h:wpOp P ops q j S (a.put oi.dst v) w) :
 wpOp P ops q j (fun a' w'=>lY P ops C oi v a'∧S (a'.put oi.dst v) w') a w:=by
 obtain⟨h1,h2,h3⟩:=Oper.apart_spec hap;have lI:∀(a:Act),lY P ops C oi v a→∀u,lY P ops C oi v (a.put oj.dst u):=fun a hy u =>
  hy.of_same (execOp_put oi ZM a oj.dst u h3) (wanted_put oi a oj.dst u h3)
 have keepD:∀d,lY P ops C oi v { a with defers:=d::a.defers }:=fun d=>hy.of_same rfl rfl;unfold wpOp at *
 simp only[hj] at *
 rw[wanted_put oj a oi.dst v h1] at h;split
 ·rename_i hw;simp only[hw,if_true] at h;rcases h with h | ⟨Xd,ak9⟩
  case inr=>exact .inr ⟨by unfold Oper.asks at *;rw[execOp_put oj hsj a oi.dst v h1] at Xd;exact Xd,ak9⟩
  refine .inl ?_;unfold Oper.wp at *
  rw[execOp_put oj hsj a oi.dst v h1] at h
  generalize (execOp a.eval oj).run P w=r at *
  cases r with
  | ok n w' =>
   cases n<;>simp only[Oper.upon] at h ⊢
   case value u=>exact⟨lI a hy u,by rw[←Act.put_comm a v u h2];exact h⟩
   case skip=>exact⟨lI a hy _,by rw[←Act.put_comm a v undef h2];exact h⟩
   case defer d =>
    refine⟨lI _ (keepD d) _, ?_⟩;rw[←Act.put_comm _ v undef h2,←Act.put_defers];exact h
   case enter f args =>
    refine Calls.mono h fun e w'' he=> ?_;cases e with
    | returned u=>exact⟨lI a hy u,by rw[←Act.put_comm a v u h2];exact he⟩
    | panicked c=>exact hQ _ _ _ he
    | outgrown=>exact he
   case row row args=>exact Rows.mono h fun u w'' he=>⟨lI a hy u,by rw[←Act.put_comm a v u h2];exact he⟩
  | halt x w' =>
   cases x<;>simp only[Oper.upon] at h ⊢
   case panic u=>exact hQ _ _ _ h
 ·rename_i hw;simp only[hw] at h;exact⟨lI a hy _,by rw[←Act.put_comm a v undef h2];exact h⟩
def Bv(P:Program)(md:Region.Mode)(ops:Array Oper)(C:World→Prop)(q:Exit→Act→World→Prop):Nat→Array Bool→Act→World→Prop
 | 0,listed,a,w=>C w∧Region.ready md ops listed=[]∧q .normal a w
 | fuel+1,listed,a,w=>C w∧(Region.ready md ops listed=[]→q .normal a w) ∧
  ∀ i∈Region.ready md ops listed,wpOp P ops q i (Bv P md ops C q fuel (listed.setIfInBounds i true)) a w
theorem Bg{md:Region.Mode}{C:World→Prop}{q:Exit→Act→World→Prop}:∀(fuel:Nat) (listed:Array Bool) (a:Act) (w:World),Bv P md ops C q fuel listed a w→wpAny P md ops q fuel listed a w
 | 0,_,_,_,h=>h.2
 | fuel+1,_,_,_,h=>⟨h.2.1,fun i hi=>wpOp_mono (fun a w hh=>Bg fuel _ a w hh) (h.2.2 i hi)⟩
theorem aay{md:Region.Mode}{C:World→Prop}{q:Exit→Act→World→Prop}:∀ {fuel:Nat} {listed:Array Bool} {a:Act} {w:World},Bv P md ops C q fuel listed a w→C w
 | 0,_,_,_,h=>h.1
 | _+1,_,_,_,h=>h.1
theorem Di{md:Region.Mode}{C:World→Prop}{q:Exit→Act→World→Prop}{i:Nat}{oi:Oper}{v:Value}(hi:ops[i]? =some oi)(alb:∀(j:Nat) (o:Oper) cs b,ops[j]? =some o→o.op≠ .select cs b)
 (hQ:∀c a w,q (.panic c) (a.put oi.dst v) w→q (.panic c) a w) :
 ∀ (fuel:Nat) (listed:Array Bool) (a:Act) (w:World),
  (∀j oj,ops[j]? =some oj→j≠i→listed.getD j true=false→(∀e∈oj.after,Region.binds md e=true→e.on≠i)→oi.apart ops oj=true) →
  i∈Region.ready md ops listed→lY P ops C oi v a→C w →
  Bv P md ops C q fuel (listed.setIfInBounds i true) (a.put oi.dst v) w→Bv P md ops C q (fuel+1) listed a w:=by
 intro fuel
 induction fuel with
 | zero =>
  intro listed a w _ hr hy hC H;refine⟨hC,fun h=>(by rw[h] at hr;cases hr),fun j hj=> ?_⟩;by_cases hji:j=i
  ·subst hji;exact hy.wpOp hi hC H
  ·have :=ready_mono hj hji;rw[H.2.1] at this;cases this
 | succ fuel ih =>
  intro listed a w af9 hr hy hC H;refine⟨hC,fun h=>(by rw[h] at hr;cases hr),fun j hj=> ?_⟩;by_cases hji:j=i
  ·subst hji;exact hy.wpOp hi hC H
  ·have h1:=H.2.2 j (ready_mono hj hji);obtain⟨akY,oj,hoj,rO⟩:=mem_ready.1 hj;have an9:∀e∈oj.after,Region.binds md e=true→e.on≠i:=fun e he hb heq=>by
    have h1:=rO e he hb;have h0:=(mem_ready.1 hr).1;rw[heq] at h1;rcases Nat.lt_or_ge i listed.size with h' | h'
    ·simp[h'] at h0 h1;rw[h0] at h1;cases h1
    ·simp[Array.getElem?_eq_none h'] at h1
   have h2:=XW hoj (af9 j oj hoj hji akY an9) (fun cs b=>alb i oi cs b hi) (fun cs b=>alb j oj cs b hoj) hQ hy h1;have ah2:∀k ok,ops[k]? =some ok→k≠i→(listed.setIfInBounds j true).getD k true=false →
    (∀e∈ok.after,Region.binds md e=true→e.on≠i)→oi.apart ops ok=true:=fun k ok hk hki hun Ce=>by
    refine af9 k ok hk hki ?_ Ce;by_cases hjk:j=k
    ·subst hjk;exact akY
    ·rw[getD_set_ne true hjk] at hun;exact hun
   refine wpOp_mono (fun a' w' h3=> ?_) h2;have K3:Bv P md ops C q fuel ((listed.setIfInBounds j true).setIfInBounds i true) (a'.put oi.dst v) w':=by
    rw[Array.setIfInBounds_comm _ _ hji];exact h3.2
   exact ih (listed.setIfInBounds j true) a' w' ah2 (ready_mono hr (Ne.symm hji)) h3.1 (aay K3) K3
def WA(Mo:Mode)(P:Program)(K:World)(n:Nat)(F0:List aA)(ops:Array Oper)(Q:fG)(fuel:Nat)(listed:Array Bool)(e:Env)(H:List aA):Prop :=
 ∀ a w,eB Mo n e a→Sat K w H→Bv P .any ops (fun w=>Sat K w F0) (lift Mo.round K n Q) fuel listed a w
theorem WC.fE{id:Nat}{l:List Oper}{ds:List Deferred}(F0:List aA)(hm:P.follows .mixedOrders=true)(h:WA ⟨none,ds⟩ P K n F0 l.toArray Q l.length (Array.replicate l.length false) e H):WC ⟨none,ds⟩ P K n (.region id l.toArray true) Q e H:=fun a w ha hw=>by
 show (Code.region id l.toArray true).wp P _ a w;refine wp_region_any hm (Bg (C:=fun w=>Sat K w F0) _ _ _ _ ?_);have :=h a _ ha hw.drew
 simpa using this
theorem WC.NS{id:Nat}{l:List Oper}{ds:List Deferred}(hm:P.follows .mixedOrders=true)(h:WA ⟨none,ds⟩ P K n H l.toArray Q l.length (Array.replicate l.length false) e H):WC ⟨none,ds⟩ P K n (.region id l.toArray true) Q e H:=WC.fE H hm h
variable{F0:List aA}
theorem WA.done{fuel:Nat}{listed:Array Bool}(hr:Region.ready .any ops listed=[])(hF:∀w,Sat K w H→Sat K w F0)(h:Q Mo .normal e H):WA Mo P K n F0 ops Q fuel listed e H:=fun a w ha hw=>by
 cases fuel with
 | zero=>exact⟨hF w hw,hr,Mo.ds,e,H,ha,hw,h⟩
 | succ fuel=>exact⟨hF w hw,fun _=>⟨Mo.ds,e,H,ha,hw,h⟩,by rw[hr];simp⟩
theorem WA.take{fuel:Nat}{listed:Array Bool}{d:Nat}{op:Op}{v:Value}(i:Nat)(hF:∀w,Sat K w H→Sat K w F0)(hi:ops[i]? =some ⟨some d,op,ty,pos,af,none⟩)(hs:Region.noSelect ops=true)(hf:Region.free .any ops listed i=true)
 (hr:(Region.ready .any ops listed).contains i=true) (hQ:∀c (p:Mode×Env) H,¬Q p.1 (.panic c) p.2 H) (hv:eX Mo P K n true e F0 ⟨some d,op,ty,pos,af,none⟩ v) (hd:blt d n=true)
 (h:WA Mo P K n F0 ops Q fuel (listed.setIfInBounds i true) ((d,v)::e) H):WA Mo P K n F0 ops Q (fuel+1) listed e H:=fun a w ha hw=>by
 refine Di hi (Region.noSelect_spec hs) (fun c a w hh=> ?_) fuel listed a w (Region.free_spec hi hf) (by simpa using hr) (.inl ⟨rfl,fun w' Ht=>hv rfl a w' ha Ht⟩) (hF w hw) (h _ w (ha.put d hd v) hw);obtain⟨ds',e',H',_,_,h3⟩:=hh;exact (hQ c (⟨Mo.round,ds'⟩,e') H' h3).elim
theorem WA.afC{fuel:Nat}{listed:Array Bool}{d j dj:Nat}{want:Bool}{oj:Oper}{op:Op}{v gv:Value}(i:Nat)(hF:∀w,Sat K w H→Sat K w F0)(hi:ops[i]? =some ⟨some d,op,ty,pos,af,some (j,want)⟩)(hs:Region.noSelect ops=true)(hf:Region.free .any ops listed i=true)
 (hr:(Region.ready .any ops listed).contains i=true) (hQ:∀c (p:Mode×Env) H,¬Q p.1 (.panic c) p.2 H) (hj:ops[j]? =some oj) (Gz:oj.dst=some dj) (hl:look e dj=some gv) (hG:GC gv want c)
 (hv:eX Mo P K n c e F0 ⟨some d,op,ty,pos,af,some (j,want)⟩ v) (hd:blt d n=true)
 (h:WA Mo P K n F0 ops Q fuel (listed.setIfInBounds i true) ((d,cv c v)::e) H):WA Mo P K n F0 ops Q (fuel+1) listed e H:=fun a w ha hw=>by
 refine Di (v:=cv c v) hi (Region.noSelect_spec hs) (fun c a w hh=> ?_) fuel listed a w (Region.free_spec hi hf) (by simpa using hr) ?_ (hF w hw) (h _ w (ha.put d hd _) hw)
 ·obtain⟨ds',e',H',_,_,h3⟩:=hh;exact (hQ c (⟨Mo.round,ds'⟩,e') H' h3).elim
 ·have Ht:=Region.jy (o:=⟨some d,op,ty,pos,af,some (j,want)⟩) rfl hj Gz hl ha hG;cases hc:c with
  | true=>subst hc;exact .inl ⟨Ht,fun w' k=>hv rfl a w' ha k⟩
  | false=>subst hc;exact .inr ⟨Ht,rfl⟩
theorem WA.ako{fuel:Nat}{listed:Array Bool}{d j dj:Nat}{want:Bool}{oj:Oper}{op:Op}{v gv:Value}(i:Nat)(hF:∀w,Sat K w H→Sat K w F0)(hi:ops[i]? =some ⟨some d,op,ty,pos,af,some (j,want)⟩)(hs:Region.noSelect ops=true)(hf:Region.free .any ops listed i=true)
 (hr:(Region.ready .any ops listed).contains i=true) (hQ:∀c (p:Mode×Env) H,¬Q p.1 (.panic c) p.2 H) (hj:ops[j]? =some oj) (Gz:oj.dst=some dj) (hl:look e dj=some gv) (hG:GC gv want true)
 (hv:eX Mo P K n true e F0 ⟨some d,op,ty,pos,af,some (j,want)⟩ v) (hd:blt d n=true)
 (h:WA Mo P K n F0 ops Q fuel (listed.setIfInBounds i true) ((d,v)::e) H):WA Mo P K n F0 ops Q (fuel+1) listed e H:=WA.afC i hF hi hs hf hr hQ hj Gz hl hG hv hd h
theorem WL.known{ops:Array Oper}{rest:List Oper}{j dj:Nat}{want:Bool}{oj:Oper}{op:Op}{gv:Value}(hj:ops[j]? =some oj)(Gz:oj.dst=some dj)(hl:look e dj=some gv)(hG:GC gv want true)
 (h:WL Mo P K n ops (⟨dst,op,ty,pos,af,none⟩::rest) Q e H):WL Mo P K n ops (⟨dst,op,ty,pos,af,some (j,want)⟩::rest) Q e H:=fun a w ha hw=>by
 have h1:=h a w ha hw;have Ht:=Region.jy (o:=⟨dst,op,ty,pos,af,some (j,want)⟩) rfl hj Gz hl ha hG;obtain⟨r,ds⟩:=Mo;cases r with
 | none =>
  have h2:wpList P ops (lift none K n Q) (⟨dst,op,ty,pos,af,none⟩::rest) a w:=h1;show wpList P ops (lift none K n Q) (⟨dst,op,ty,pos,af,some (j,want)⟩::rest) a w;unfold wpList at h2 ⊢;rw[if_pos Ht];rw[if_pos (by simp[Region.wanted])] at h2;exact h2
 | some l =>
  have h2:wpListIn (IG l) 0 P ops (lift (some l) K n Q) (⟨dst,op,ty,pos,af,none⟩::rest) a w:=h1;show wpListIn (IG l) 0 P ops (lift (some l) K n Q) (⟨dst,op,ty,pos,af,some (j,want)⟩::rest) a w;unfold wpListIn at h2 ⊢;rw[if_pos Ht];rw[if_pos (by simp[Region.wanted])] at h2;exact h2
theorem Ux{ds:List Deferred}{o:Oper}{i:Nat}{R:Mode→Env→List aA→Prop}{S:Act→World→Prop}(hi:ops[i]? =some o)(h:WL ⟨none,ds⟩ P K n ops [o] (zW R Q) e H){a:Act}{w:World}(ha:eB ⟨none,ds⟩ n e a)(hw:Sat K w H)
 (hS:∀a w ds' e' H',eB ⟨none,ds'⟩ n e' a→Sat K w H'→R ⟨none,ds'⟩ e' H'→S a w):wpOp P ops (lift none K n Q) i S a w:=by
 have h1:wpList P ops (lift none K n (zW R Q)) [o] a w:=h a w ha hw;unfold wpOp;simp only[hi];unfold wpList at h1;have hQ:∀x a w,lift none K n (zW R Q) x a w→(x= .normal→S a w)∧(x≠ .normal→lift none K n Q x a w):=by
  rintro x a w ⟨ds',e',H',k1,k2,k3⟩;cases x<;>first | exact⟨fun _=>hS a w ds' e' H' k1 k2 k3,fun k=>(k rfl).elim⟩ | exact⟨(fun k=>by cases k),fun _=>⟨ds',e',H',k1,k2,k3⟩⟩
 split
 ·rename_i Ht;rw[if_pos Ht] at h1;rcases h1 with h1 | ⟨h1,h2⟩
  ·refine .inl ?_;unfold Oper.wp at h1 ⊢
   generalize (execOp a.eval o).run P w=r at h1 ⊢
   cases r with
   | ok nx w' =>
    cases nx<;>simp only[Oper.upon] at h1 ⊢ <;>first
     | exact (hQ _ _ _ h1).1 rfl
     | exact h1
     | (
      refine h1.mono ?_;rintro x w'' hx;cases x<;>first
       | exact (hQ _ _ _ hx).1 rfl
       | exact (hQ _ _ _ hx).2 (by simp)
       | (obtain⟨a2,w2,k⟩:=hx;exact⟨a2,w2,(hQ _ _ _ k).2 (by simp)⟩))
     | exact h1.mono fun v w'' hx=>(hQ _ _ _ hx).1 rfl
   | halt x w' =>
    cases x<;>simp only[Oper.upon] at h1 ⊢ <;>first
     | exact (hQ _ _ _ h1).2 (by simp)
     | exact h1
  ·obtain⟨a2,w2,k⟩:=h2;exact .inr ⟨h1,a2,w2,(hQ _ _ _ k).2 (by simp)⟩
 ·rename_i Ht;rw[if_neg Ht] at h1;exact (hQ _ _ _ h1).1 rfl
section
variable{ds:List Deferred}
theorem WA.step{fuel:Nat}{listed:Array Bool}{rs:List Nat}(hF:∀w,Sat K w H→Sat K w F0)(hr:Region.ready .any ops listed=rs)(nk:rs.isEmpty=false)
 (h:∀i∈rs,∃o,ops[i]? =some o∧WL ⟨none,ds⟩ P K n ops [o] (zW (fun Mo=>WA Mo P K n F0 ops Q fuel (listed.setIfInBounds i true)) Q) e H):WA ⟨none,ds⟩ P K n F0 ops Q (fuel+1) listed e H:=fun a w ha hw=>by
 refine⟨hF w hw,(fun h0=>by rw[hr] at h0;rw[h0] at nk;cases nk),fun i hi=> ?_⟩;rw[hr] at hi;obtain⟨o,h1,h2⟩:=h i hi;exact Ux h1 h2 ha hw fun a w ds' e' H' k1 k2 k3=>k3 a w k1 k2
theorem WA.one{fuel:Nat}{listed:Array Bool}{i:Nat}{o:Oper}(hF:∀w,Sat K w H→Sat K w F0)(hr:Region.ready .any ops listed=[i])(hi:ops[i]? =some o)
 (h:WL ⟨none,ds⟩ P K n ops [o] (zW (fun Mo=>WA Mo P K n F0 ops Q fuel (listed.setIfInBounds i true)) Q) e H):WA ⟨none,ds⟩ P K n F0 ops Q (fuel+1) listed e H :=
 WA.step hF hr rfl fun j hj=>by simp at hj;subst hj;exact⟨o,hi,h⟩
theorem WA.t{fuel:Nat}{listed:Array Bool}{d:Nat}{op:Op}{v:Value}(i:Nat)(hi:ops[i]? =some ⟨some d,op,ty,pos,af,none⟩)(hv:eX Mo P K n true e F0 ⟨some d,op,ty,pos,af,none⟩ v)
 (h:WA Mo P K n F0 ops Q fuel (listed.setIfInBounds i true) ((d,v)::e) H) (hd:blt d n=true:=by rfl) (hF:∀w,Sat K w H→Sat K w F0:=by intro w h;repeat (first | exact h | replace h:=h.tail)) (hs:Region.noSelect ops=true:=by kernel_rfl) (hf:Region.free .any ops listed i=true:=by kernel_rfl)
 (hr:(Region.ready .any ops listed).contains i=true:=by kernel_rfl) (hQ:∀c (p:Mode×Env) H,¬Q p.1 (.panic c) p.2 H:=by exact fun _ _ _ h=>h):WA Mo P K n F0 ops Q (fuel+1) listed e H:=WA.take i hF hi hs hf hr hQ hv hd h
theorem WA.tG{fuel:Nat}{listed:Array Bool}{d j dj:Nat}{want:Bool}{oj:Oper}{op:Op}{v gv:Value}(i:Nat)(hi:ops[i]? =some ⟨some d,op,ty,pos,af,some (j,want)⟩)(hj:ops[j]? =some oj)(Gz:oj.dst=some dj)(hl:look e dj=some gv)(hG:GC gv want c)
 (hv:eX Mo P K n c e F0 ⟨some d,op,ty,pos,af,some (j,want)⟩ v) (h:WA Mo P K n F0 ops Q fuel (listed.setIfInBounds i true) ((d,cv c v)::e) H) (hd:blt d n=true:=by rfl) (hF:∀w,Sat K w H→Sat K w F0:=by intro w h;repeat (first | exact h | replace h:=h.tail)) (hs:Region.noSelect ops=true:=by kernel_rfl) (hf:Region.free .any ops listed i=true:=by kernel_rfl)
 (hr:(Region.ready .any ops listed).contains i=true:=by kernel_rfl) (hQ:∀c (p:Mode×Env) H,¬Q p.1 (.panic c) p.2 H:=by exact fun _ _ _ h=>h):WA Mo P K n F0 ops Q (fuel+1) listed e H:=WA.afC i hF hi hs hf hr hQ hj Gz hl hG hv hd h
theorem WA.tK{fuel:Nat}{listed:Array Bool}{d j dj:Nat}{want:Bool}{oj:Oper}{op:Op}{v gv:Value}(i:Nat)(hi:ops[i]? =some ⟨some d,op,ty,pos,af,some (j,want)⟩)(hj:ops[j]? =some oj)(Gz:oj.dst=some dj)(hl:look e dj=some gv)(hG:GC gv want true)
 (hv:eX Mo P K n true e F0 ⟨some d,op,ty,pos,af,some (j,want)⟩ v) (h:WA Mo P K n F0 ops Q fuel (listed.setIfInBounds i true) ((d,v)::e) H) (hd:blt d n=true:=by rfl) (hF:∀w,Sat K w H→Sat K w F0:=by intro w h;repeat (first | exact h | replace h:=h.tail)) (hs:Region.noSelect ops=true:=by kernel_rfl) (hf:Region.free .any ops listed i=true:=by kernel_rfl)
 (hr:(Region.ready .any ops listed).contains i=true:=by kernel_rfl) (hQ:∀c (p:Mode×Env) H,¬Q p.1 (.panic c) p.2 H:=by exact fun _ _ _ h=>h):WA Mo P K n F0 ops Q (fuel+1) listed e H:=WA.ako i hF hi hs hf hr hQ hj Gz hl hG hv hd h
theorem WA.o{fuel:Nat}{listed:Array Bool}{o:Oper}(i:Nat)(hi:ops[i]? =some o)(h:WL ⟨none,ds⟩ P K n ops [o] (zW (fun Mo=>WA Mo P K n F0 ops Q fuel (listed.setIfInBounds i true)) Q) e H)
 (hF:∀w,Sat K w H→Sat K w F0:=by intro w h;repeat (first | exact h | replace h:=h.tail)) (hr:Region.ready .any ops listed=[i]:=by kernel_rfl):WA ⟨none,ds⟩ P K n F0 ops Q (fuel+1) listed e H:=WA.one hF hr hi h
theorem WA.fin{fuel:Nat}{listed:Array Bool}(h:Q Mo .normal e H)(hF:∀w,Sat K w H→Sat K w F0:=by intro w h;repeat (first | exact h | replace h:=h.tail))(hr:Region.ready .any ops listed=[]:=by kernel_rfl):WA Mo P K n F0 ops Q fuel listed e H:=WA.done hr hF h
theorem WC.sr{id:Nat}{l:List Oper}{y:Code}(h:WL Mo P K n l.toArray l (zW (fun Mo=>WC Mo P K n y Q) Q) e H):WC Mo P K n (.seq (.region id l.toArray false) y) Q e H:=WC.seq (WC.region h)
theorem WL.mv{rest:List Oper}{d:Nat}{x:Operand}{v:Value}(hx:tN e x=some v)(hd:blt d n=true)(h:WL Mo P K n ops rest Q ((d,v)::e) H):WL Mo P K n ops (⟨some d,.move x,ty,pos,af,none⟩::rest) Q e H:=WL.val (V.move (OV.p hx)) hd h
theorem WL.sg{rest:List Oper}{d:Nat}{x:Operand}{v:Value}(hx:tN e x=some v)(hd:blt d n=true)(h:WL Mo P K n ops rest Q ((d,v)::e) H):WL Mo P K n ops (⟨some d,.assign x,ty,pos,af,none⟩::rest) Q e H:=WL.val (V.assign (OV.p hx)) hd h
theorem WL.ld{rest:List Oper}{d:Nat}{x:Operand}{T:Nat}{q:Option Addr}{v:Value}(hT:Nf P T)(hx:tN e x=some (.pointer q))(hd:blt d n=true)(h:WL Mo P K n ops rest Q ((d,v)::e) H)(hr:Rd K H q v:=by repeat (first | exact Rd.here rfl | apply Rd.up)):WL Mo P K n ops (⟨some d,.load T x,ty,pos,af,none⟩::rest) Q e H:=WL.val (V.load hT (OV.p hx) (fun _=>hr)) hd h
theorem WL.xt{rest:List Oper}{d i:Nat}{x:Operand}{vs:List Value}{v:Value}(hx:tN e x=some (.tuple vs.toArray))(hv:vs[i]? =some v)(hd:blt d n=true)(h:WL Mo P K n ops rest Q ((d,v)::e) H):WL Mo P K n ops (⟨some d,.extract x i,ty,pos,af,none⟩::rest) Q e H:=WL.val (V.extract (OV.p hx) hv) hd h
theorem WL.ad{rest:List Oper}{d t t':Nat}{x y:Operand}{i j:Int}(hx:tN e x=some (.i i))(hy:tN e y=some (.i j))(hd:blt d n=true)(h:WL Mo P K n ops rest Q ((d,.i (i+j))::e) H)(hb: -9223372036854775808≤i+j∧i+j≤9223372036854775807:=by omega):WL Mo P K n ops (⟨some d,.binOp .add t x y t',ty,pos,af,none⟩::rest) Q e H:=WL.val (V.Ci (OV.p hx) (OV.p hy) (fun _=>hb)) hd h
theorem WL.sb{rest:List Oper}{d t t':Nat}{x y:Operand}{i j:Int}(hx:tN e x=some (.i i))(hy:tN e y=some (.i j))(hd:blt d n=true)(h:WL Mo P K n ops rest Q ((d,.i (i-j))::e) H)(hb: -9223372036854775808≤i-j∧i-j≤9223372036854775807:=by omega):WL Mo P K n ops (⟨some d,.binOp .sub t x y t',ty,pos,af,none⟩::rest) Q e H:=WL.val (V.CV (OV.p hx) (OV.p hy) (fun _=>hb)) hd h
theorem WL.nc{rest:List Oper}{d:Nat}{x:Operand}{p:Addr}(hx:tN e x=some (.pointer (some p)))(hd:blt d n=true)(h:WL Mo P K n ops rest Q ((d,.pointer (some p))::e) H):WL Mo P K n ops (⟨some d,.nilCheck x,ty,pos,af,none⟩::rest) Q e H:=WL.val (V.nilCheck (OV.p hx)) hd h
theorem WA.two{fuel:Nat}{listed:Array Bool}{i j:Nat}{o o':Oper}(hF:∀w,Sat K w H→Sat K w F0)(hr:Region.ready .any ops listed=[i,j])(hi:ops[i]? =some o)(hj:ops[j]? =some o')
 (h:WL ⟨none,ds⟩ P K n ops [o] (zW (fun Mo=>WA Mo P K n F0 ops Q fuel (listed.setIfInBounds i true)) Q) e H) (h':WL ⟨none,ds⟩ P K n ops [o'] (zW (fun Mo=>WA Mo P K n F0 ops Q fuel (listed.setIfInBounds j true)) Q) e H):WA ⟨none,ds⟩ P K n F0 ops Q (fuel+1) listed e H :=
 WA.step hF hr rfl fun k hk=>by
  simp at hk;rcases hk with rfl | rfl
  ·exact⟨o,hi,h⟩
  ·exact⟨o',hj,h'⟩
end
theorem WC.NC{x:Operand}{y z:Code}{t:Bool}(hc:tN e x=some (.bool t))(ht:t=true)(h:WC Mo P K n y Q e H):WC Mo P K n (.cond x y z) Q e H:=WC.cond hc (fun _=>h) (fun k=>by rw[ht] at k;cases k)
theorem WC.jq{x:Operand}{y z:Code}{t:Bool}(hc:tN e x=some (.bool t))(ht:t=false)(h:WC Mo P K n z Q e H):WC Mo P K n (.cond x y z) Q e H:=WC.cond hc (fun k=>by rw[ht] at k;cases k) (fun _=>h)
def O6(P:Program)(K:World)(n:Nat)(x:Code)(Q:fG):Nat→Mode→Env→List aA→Prop
 | 0,_,_,_=>False
 | m+1,Mo,e,H=>WC Mo P K n x (zW (O6 P K n x Q m) Q) e H
theorem WC.rounds{x:Code}(m:Nat)(h:O6 P K n x Q m Mo e H):WC Mo P K n (.loop x) Q e H:=fun a w ha hw=>by
 refine Rv (fun j a w=>∃ds e H,O6 P K n x Q j ⟨Mo.round,ds⟩ e H∧eB ⟨Mo.round,ds⟩ n e a∧Sat K w H) m ⟨Mo.ds,e,H,h,ha,hw⟩ ?_;rintro j a w ⟨ds,e,H,h,ha,hw⟩;cases j with
 | zero=>exact h.elim
 | succ j =>
  have h1:=h a w ha hw;have h2:ML Mo P x (lift Mo.round K n (zW (O6 P K n x Q j) Q)) a w:=by
   obtain⟨r,ds0⟩:=Mo;cases r<;>exact h1
  refine xP h2 ?_;rintro y a w ⟨ds',e',H',k1,k2,k3⟩;cases y
  case normal=>exact⟨j,lt_succ_self _,ds',e',H',k3,k1,k2⟩
  all_goals exact⟨ds',e',H',k1,k2,k3⟩
end
def Pf(cs:List Value):Nat→List Value→Prop
 | _,[]=>True
 | o,v::vs=>cs[o]? =some v∧Pf cs (o+1) vs
theorem Pf.at_{cs:List Value}:∀ {vs:List Value} {o:Nat},Pf cs o vs→∀i v,vs[i]? =some v→cs[o+i]? =some v
 | [],_,_,i,v,h=>by simp at h
 | u::us,o,hg,0,v,h=>by simp at h;subst h;exact hg.1
 | u::us,o,hg,i+1,v,h=>by
  have :=Pf.at_ hg.2 i v (by simpa using h)
  rwa [show o+(i+1)=o+1+i by omega]
theorem gD.K4{K:World}{H:List aA}{b T o:Nat}{cs vs:List Value}(h:Pf cs o vs):gD K (ah b T cs::H) b o vs:=fun i v hi=>Rd.here (h.at_ i v hi)
theorem xY{P:Program}{E s:Nat}{cs:List Value}{o:Nat}{vs:List Value}(hE:Ue P E s)(hl:vs.length=s)(hg:Pf cs o vs):∀w,(part E cs.toArray o).run P w= .ok (.agg vs.toArray) w:=by
 refine ajc hE ?_;apply Array.ext_getElem?;intro i;rw[Array.getElem?_extract];by_cases hi:i<vs.length
 ·have h1:=hg.at_ i vs[i] (by simp);have Kl:o+i<cs.length:=by
   rcases Nat.lt_or_ge (o+i) cs.length with h | h
   ·exact h
   ·rw[getElem?_eq_none h] at h1;cases h1
  rw[if_pos (by simp;omega)];simp[h1]
 ·have h2:¬i<min (o+s) cs.toArray.size-o:=by omega
  rw[if_neg h2];simp;omega
theorem look_eq{e:Env}{t:Nat}{v v':Value}(h:look e t=some v)(he:v=v'):look e t=some v':=he ▸ h
theorem Sat.p1{K w:World}{A B:aA}{H:List aA}(h:Sat K w (A::B::H)):Sat K w (B::A::H):=Sat.pull 1 h
theorem Sat.p2{K w:World}{A B C:aA}{H:List aA}(h:Sat K w (A::B::C::H)):Sat K w (C::A::B::H):=Sat.pull 2 h
theorem Sat.DT{K w:World}{A B:aA}{H:List aA}(h:Sat K w (A::B::H)):Sat K w (A::H):=h.p1.tail
theorem Sat.aS{K w:World}{b T:Nat}{cs cs':List Value}{H:List aA}(h:Sat K w (ah b T cs::H))(he:cs=cs'):Sat K w (ah b T cs'::H):=he ▸ h
theorem Sat.FD{K w:World}{v:Value}{E s m:Nat}{cs cs':List Value}{H:List aA}(h:Sat K w (bq v E s m cs::H))(he:cs=cs'):Sat K w (bq v E s m cs'::H):=he ▸ h
theorem Seq.all{K:World}{H:List aA}{b T m s:Nat}{cs:List Value}(hl:cs.length=m*s):Seq K (ah b T cs::H) (some ⟨b,0,none⟩) m s cs:=Seq.here hl (by simp)
def ints(k:IntKind)(xs:List Int):List Value:=xs.map (Value.int k)
theorem bY(k:IntKind)(xs:List Int):(ints k xs).length=xs.length:=by simp[ints]
theorem uI(k:IntKind)(xs:List Int){i:Nat}(h:i<xs.length):(ints k xs)[i]? =some (.int k (xs.getD i 0)):=by simp[ints,h]
theorem eP(k:IntKind)(xs ys:List Int):ints k (xs++ys)=ints k xs++ints k ys:=by simp[ints]
theorem yM(k:IntKind)(xs:List Int):∀u∈ints k xs,u.oneCell'=true:=by simp[ints,Value.oneCell']
theorem Seq.jk{K:World}{H:List aA}{A:Option Addr}{m:Nat}{k:IntKind}{xs:List Int}(h:Seq K H A m 1 (ints k xs)){j:Int}(hj:0≤j∧j<(m:Int)):Rd K H (A.map (·.add (j.toNat*1))) (.int k (xs.getD j.toNat 0)):=by
 have hl:xs.length=m:=by simpa [ints] using h.len
 have :=h.rd j.toNat _ (uI k xs (by omega))
 simpa using this
theorem Seq.agw{K:World}{H:List aA}{k:IntKind}:Seq K H none 0 1 (ints k []):=Seq.nil
theorem Seq.allI{K:World}{H:List aA}{b T m:Nat}{k:IntKind}{xs:List Int}(hl:xs.length=m):Seq K (ah b T (ints k xs)::H) (some ⟨b,0,none⟩) m 1 (ints k xs):=Seq.all (by simp[ints,hl])
def Rg(tmps:Array Value)(r:ResultVar):Sem Value:=match r with | .tmp t=>pure (tmps.getD t undef) | .cell x t=>do loadVar t (←asAddr (tmps.getD x undef))
theorem Br(fn:Func)(tmps:Array Value):results fn tmps=(do let vs ←fn.results.mapM (Rg tmps);pure (if h:vs.size=1 then vs[0] else .tuple vs)):=rfl
def R1(Mo:Mode)(P:Program)(K:World)(n:Nat)(r:ResultVar)(e:Env)(H:List aA)(v:Value):Prop :=
 ∀ a w,eB Mo n e a→Sat K w H→(Rg a.tmps r).run P w= .ok v w
section
variable{Mo:Mode}{P:Program}{K:World}{n:Nat}{e:Env}{H:List aA}
theorem R1.tmp{t:Tmp}{v:Value}(h:look e t=some v):R1 Mo P K n (.tmp t) e H v:=fun a w ha _=>by simp only[Rg,ha.at_ t v h];rfl
theorem R1.nG{t T s b o:Nat}{vs:List Value}(h:look e t=some (ptr b o))(hT:Ue P T s)(hs:vs.length=s)(hr:gD K H b o vs):R1 Mo P K n (.cell t T) e H (.agg vs.toArray):=fun a w ha hw=>by
 have h1:=run_loadCells_list (P:=P) w ⟨b,o,none⟩ vs (fun j v hj=>by
  obtain⟨a',h1,h2⟩:=hr j v hj w hw;injection h1 with h1;subst h1;rwa [jR])
 subst hs;simp only[Rg,ha.at_ t _ h];simp[asAddr,loadVar,hT.1 w,hT.2 w,h1]
theorem R1.JY{t T:Nat}{p:Option Addr}{v:Value}(h:look e t=some (.pointer p))(hT:Nf P T)(hr:Rd K H p v):R1 Mo P K n (.cell t T) e H v:=fun a w ha hw=>by
 obtain⟨p',rfl,h2⟩:=hr w hw;simp only[Rg,ha.at_ t _ h];simp[asAddr,loadVar,hT w,h2]
theorem bI.one{fn:Func}{r:ResultVar}{v:Value}(hr:fn.results= #[r])(h:R1 Mo P K n r e H v):bI Mo P K n fn e H v:=fun a w ha hw=>by
 rw[Br,hr];simp[h a w ha hw]
theorem bI.two{fn:Func}{r r':ResultVar}{v v':Value}(hr:fn.results= #[r,r'])(h:R1 Mo P K n r e H v)(h':R1 Mo P K n r' e H v'):bI Mo P K n fn e H (.tuple #[v,v']):=fun a w ha hw=>by
 rw[Br,hr];simp[h a w ha hw,h' a w ha hw]
end
section
variable{Mo:Mode}{P:Program}{K:World}{n:Nat}{Q:fG}{e:Env}{H:List aA}{ty:TypeId}{pos:String}{af:Array Edge}{ops:Array Oper}{rest:List Oper}
theorem WL.sK{d:Nat}{x y:Operand}{T E bytes m:Nat}{z:Value}{k k':IntKind}{l q:Int}(hT:P.underlying T=some (.slice E))(hE:dX P E 1 bytes z)(hx:OV true e x (.int k l))(hy:OV true e y (.int k' q))
 (hl:l=(m:Int)) (hq:q=(m:Int)) (hb:(bytes:Int)*(m:Int)≤281474976710656) (SL:blt 0 bytes=true) (hz:z.cells= #[z]) (hd:blt d n=true)
 (h:∀b,WL Mo P K n ops rest Q ((d,.slice (some ⟨b,0,none⟩) m m)::e) (ah b E (replicate m z)::H)) :
 WL Mo P K n ops (⟨some d,.makeSlice T x y,ty,pos,af,none⟩::rest) Q e H:=by
 obtain⟨i,hi,hiz,hs,J6,hzs,h0⟩:=hE;subst hl hq;have amv:0<bytes:=by simpa using SL
 have h63:(m:Int)≤9223372036854775807:=by
  have :(1:Int)*(m:Int)≤(bytes:Int)*(m:Int):=Int.mul_le_mul_of_nonneg_right (by omega) (by omega);omega
 have ak6:(madeCells z.cells ((m:Int).toNat*i.size)).toList=replicate m z:=by
  rw[hz,hs];apply ext_getElem
  ·simp[madeCells]
  ·intro j h1 h2;simp[madeCells,mod_one]
 refine WL.makeSlice hT hi hiz hx hy (by omega) (Int.le_refl _) (by rw[J6];exact hb) h63 hd (fun b=> ?_);rw[ak6];exact h b
theorem WL.ag3{d:Nat}{x y:Operand}{T E bytes:Nat}(m:Nat){z:Value}{k k':IntKind}{l q:Int}{cs:List Value}(hT:P.underlying T=some (.slice E))(hE:dX P E 1 bytes z)(hx:OV true e x (.int k l))(hy:OV true e y (.int k' q))
 (hl:l=(m:Int)) (hq:q=(m:Int)) (hb:(bytes:Int)*(m:Int)≤281474976710656) (SL:blt 0 bytes=true) (hz:z.cells= #[z]) (hc:replicate m z=cs) (hd:blt d n=true)
 (h:∀b,WL Mo P K n ops rest Q ((d,.slice (some ⟨b,0,none⟩) m m)::e) (ah b E cs::H)) :
 WL Mo P K n ops (⟨some d,.makeSlice T x y,ty,pos,af,none⟩::rest) Q e H:=WL.sK hT hE hx hy hl hq hb SL hz hd (by rw[hc];exact h)
end
end Go.Sl
namespace Go.Sl
open Go.RowKit List Nat
theorem dh:(∀(p:Prop) [Decidable p],(decide p=true)=p)∧(∀(p:Prop) [Decidable p],(decide p=false)=¬p) :=
 ⟨fun _ _=>decide_eq_true_eq,fun _ _=>propext decide_eq_false_iff_not⟩
theorem oD:(∀b:Bool,((!b)=true)=(b=false))∧(∀b:Bool,((!b)=false)=(b=true))∧(∀(p:Prop) [Decidable p],(decide p=true)=p)∧(∀(p:Prop) [Decidable p],(decide p=false)=¬p) :=
 ⟨fun b=>by simp,fun b=>by simp,dh.1,dh.2⟩
theorem He:(∀a b:Bool,((a&&b)=true)=(a=true∧b=true))∧(∀a b:Bool,((a&&b)=false)=(a=false∨b=false))∧(∀(p:Prop) [Decidable p],(decide p=true)=p)∧(∀(p:Prop) [Decidable p],(decide p=false)=¬p) :=
 ⟨fun a b=>by cases a<;>cases b<;>simp,fun a b=>by cases a<;>cases b<;>simp,dh.1,dh.2⟩
theorem KD:(∀a b:Bool,((a&&b)=true)=(a=true∧b=true))∧(∀a b:Bool,((a||b)=true)=(a=true∨b=true))∧(∀a b:Bool,((a&&b)=false)=(a=false∨b=false))∧(∀a b:Bool,((a||b)=false)=(a=false∧b=false))∧(∀b:Bool,((!b)=true)=(b=false))∧(∀b:Bool,((!b)=false)=(b=true))∧(∀b:Bool,(¬b=true)=(b=false))∧(∀b:Bool,(¬b=false)=(b=true))∧(∀(p:Prop) [Decidable p],(decide p=true)=p)∧(∀(p:Prop) [Decidable p],(decide p=false)=¬p) :=
 ⟨fun a b=>by cases a<;>cases b<;>simp,fun a b=>by cases a<;>cases b<;>simp,fun a b=>by cases a<;>cases b<;>simp,fun a b=>by cases a<;>cases b<;>simp,fun b=>by simp,fun b=>by simp,fun b=>by simp,fun b=>by simp,dh.1,dh.2⟩
theorem lX:(∀a b:Int,(¬a<b)=(b≤a))∧(∀a b:Int,(¬a≤b)=(b<a))∧(∀a b:Bool,((a&&b)=true)=(a=true∧b=true))∧(∀a b:Bool,((a||b)=true)=(a=true∨b=true))∧(∀a b:Bool,((a&&b)=false)=(a=false∨b=false))∧(∀a b:Bool,((a||b)=false)=(a=false∧b=false))∧(∀b:Bool,((!b)=true)=(b=false))∧(∀b:Bool,((!b)=false)=(b=true))∧(∀b:Bool,(¬b=true)=(b=false))∧(∀b:Bool,(¬b=false)=(b=true))∧(∀(p:Prop) [Decidable p],(decide p=true)=p)∧(∀(p:Prop) [Decidable p],(decide p=false)=¬p) :=
 ⟨fun a b=>propext Int.not_lt,fun a b=>propext Int.not_le,KD⟩
theorem gy{K:World}{H F:List aA}(h:∀w,Sat K w H→Sat K w F:=by intro w h;repeat (first | exact h | replace h:=h.tail)):∀w,Sat K w H→Sat K w F:=h
theorem Bn{K:World}{H:List aA}{b o:Nat}{vs:List Value}(h:gD K H b o vs:=by repeat (first | exact gD.K4 ⟨rfl,rfl,rfl,rfl,rfl,trivial⟩ | apply gD.up)):gD K H b o vs:=h
theorem aeN{K:World}{H:List aA}{b o:Nat}{vs:List Value}(h:gD K H b o vs:=by repeat (first | exact gD.K4 ⟨rfl,rfl,rfl,trivial⟩ | apply gD.up)):gD K H b o vs:=h
theorem wM{K:World}{H:List aA}{b o:Nat}{vs:List Value}(h:gD K H b o vs:=by repeat (first | exact gD.all | apply gD.up)):gD K H b o vs:=h
theorem nS{K:World}{H:List aA}{q:Option Addr}{v:Value}(h:Rd K H q v:=by repeat (first | exact Rd.here rfl | apply Rd.up)):Rd K H q v:=h
theorem Yc{a b:Prop}(h:a→b:=by intro hc;first | omega | (simp at hc;omega)):a→b:=h
theorem bM{E e:Env}(h:Sub E e:=by repeat (first | exact Sub.nil _ | refine Sub.cons rfl ?_ | refine Sub.cons (look_eq rfl (by simp)) ?_)):Sub E e:=h
theorem qR{P:Program}{K:World}{n:Nat}{e:Env}{H:List aA}{r:Option (Option Nat)}{fn:Func}{post:Value→List aA→Prop}{v:Value}{t:Tmp}(H':List aA)(hr:fn.results= #[.tmp t])(h:look e t=some v)(hs:∀w,Sat K w H→Sat K w H')(hp:post v H'):aG P K n fn post ⟨r,[]⟩ .ret e H:=aG.ret (bI.tmp hr h) hs hp
theorem FR{P:Program}{K:World}{n:Nat}{e:Env}{H:List aA}{Mo:Mode}{fn:Func}{t u T b o:Nat}{v0 v1 v2 v3 v4 v':Value}(hr:fn.results= #[.cell t T,.tmp u])(h:look e t=some (ptr b o))(hT:Ue P T 5)(h':look e u=some v')(hs:gD K H b o [v0,v1,v2,v3,v4]:=by repeat (first | exact gD.K4 ⟨rfl,rfl,rfl,rfl,rfl,trivial⟩ | apply gD.up)):bI Mo P K n fn e H (.tuple #[.agg [v0,v1,v2,v3,v4].toArray,v']):=bI.two hr (R1.nG h hT rfl hs) (R1.tmp h')
theorem ay{p:Prop}(h:p:=by omega):p:=h
theorem aK{p:Prop}(h:p:=by decide):p:=h
theorem cu{K:World}{H:List aA}:∀w,Sat K w H→Sat K w H:=fun _ h=>h
theorem aC.en{P:Program}{K:World}{n:Nat}{H:List aA}{E:Env}{f:FuncId}{fn:Func}{c:Code}{vs:List Value}{post:Value→List aA→Prop}(hf:P.funcs[f]? =some fn)(hn:fn.ntmps=n)
 (h:WC ⟨none,[]⟩ P K n c (aG P K n fn post) E H) (hb:fn.body=some c:=by exact rfl) (hl:ble vs.length n=true:=by exact rfl) (hE:lH 0 vs=E:=by first | (simp only[lH,reduceAdd];done) | (simp only[lH,reduceAdd];rfl)):aC P f vs.toArray K H post :=
 aC.enter hf hb hn hl (hE ▸ h)
section
variable{Mo:Mode}{P:Program}{K:World}{n:Nat}{Q:fG}{e:Env}{H G:List aA}{u:Value}{ty:TypeId}{pos:String}{af:Array Edge}{ops:Array Oper}{rest:List Oper}{d:Nat}{f:FuncId}{ats:Array TypeId}{post:Value→List aA→Prop}{x1 x2 x3 x4:Operand}{v1 v2 v3 v4:Value}
theorem ak{c:Bool}{x:Operand}{v:Value}(h:tN e x=some v):OV c e x v:=OV.p h
theorem WL.c1(hf:bT P f)(h1:tN e x1=some v1)(hF:aC P f #[v1] K H post)(hd:blt d n=true)(h:∀v H',post v H'→WL Mo P K n ops rest Q ((d,v)::e) H'):WL Mo P K n ops (⟨some d,.call ⟨.value (.func f),#[x1],ats⟩,ty,pos,af,none⟩::rest) Q e H:=WL.call (xs:=[x1]) (vs:=[v1]) hf ⟨OV.p h1,trivial⟩ hF hd h
theorem WL.t1(hf:bT P f)(h1:tN e x1=some v1)(hF:aC P f #[v1] K H fun v H'=>v=u∧H'=G)(hd:blt d n=true)(h:WL Mo P K n ops rest Q ((d,u)::e) G):WL Mo P K n ops (⟨some d,.call ⟨.value (.func f),#[x1],ats⟩,ty,pos,af,none⟩::rest) Q e H:=WL.call (xs:=[x1]) (vs:=[v1]) hf ⟨OV.p h1,trivial⟩ hF hd fun _ _ hp=>by obtain⟨rfl,rfl⟩:=hp;exact h
theorem WL.c2(hf:bT P f)(h1:tN e x1=some v1)(h2:tN e x2=some v2)(hF:aC P f #[v1,v2] K H post)(hd:blt d n=true)(h:∀v H',post v H'→WL Mo P K n ops rest Q ((d,v)::e) H'):WL Mo P K n ops (⟨some d,.call ⟨.value (.func f),#[x1,x2],ats⟩,ty,pos,af,none⟩::rest) Q e H:=WL.call (xs:=[x1,x2]) (vs:=[v1,v2]) hf ⟨OV.p h1,OV.p h2,trivial⟩ hF hd h
theorem WL.t2(hf:bT P f)(h1:tN e x1=some v1)(h2:tN e x2=some v2)(hF:aC P f #[v1,v2] K H fun v H'=>v=u∧H'=G)(hd:blt d n=true)(h:WL Mo P K n ops rest Q ((d,u)::e) G):WL Mo P K n ops (⟨some d,.call ⟨.value (.func f),#[x1,x2],ats⟩,ty,pos,af,none⟩::rest) Q e H:=WL.call (xs:=[x1,x2]) (vs:=[v1,v2]) hf ⟨OV.p h1,OV.p h2,trivial⟩ hF hd fun _ _ hp=>by obtain⟨rfl,rfl⟩:=hp;exact h
theorem WL.c3(hf:bT P f)(h1:tN e x1=some v1)(h2:tN e x2=some v2)(h3:tN e x3=some v3)(hF:aC P f #[v1,v2,v3] K H post)(hd:blt d n=true)(h:∀v H',post v H'→WL Mo P K n ops rest Q ((d,v)::e) H'):WL Mo P K n ops (⟨some d,.call ⟨.value (.func f),#[x1,x2,x3],ats⟩,ty,pos,af,none⟩::rest) Q e H:=WL.call (xs:=[x1,x2,x3]) (vs:=[v1,v2,v3]) hf ⟨OV.p h1,OV.p h2,OV.p h3,trivial⟩ hF hd h
theorem WL.t3(hf:bT P f)(h1:tN e x1=some v1)(h2:tN e x2=some v2)(h3:tN e x3=some v3)(hF:aC P f #[v1,v2,v3] K H fun v H'=>v=u∧H'=G)(hd:blt d n=true)(h:WL Mo P K n ops rest Q ((d,u)::e) G):WL Mo P K n ops (⟨some d,.call ⟨.value (.func f),#[x1,x2,x3],ats⟩,ty,pos,af,none⟩::rest) Q e H:=WL.call (xs:=[x1,x2,x3]) (vs:=[v1,v2,v3]) hf ⟨OV.p h1,OV.p h2,OV.p h3,trivial⟩ hF hd fun _ _ hp=>by obtain⟨rfl,rfl⟩:=hp;exact h
theorem WL.c4(hf:bT P f)(h1:tN e x1=some v1)(h2:tN e x2=some v2)(h3:tN e x3=some v3)(h4:tN e x4=some v4)(hF:aC P f #[v1,v2,v3,v4] K H post)(hd:blt d n=true)(h:∀v H',post v H'→WL Mo P K n ops rest Q ((d,v)::e) H'):WL Mo P K n ops (⟨some d,.call ⟨.value (.func f),#[x1,x2,x3,x4],ats⟩,ty,pos,af,none⟩::rest) Q e H:=WL.call (xs:=[x1,x2,x3,x4]) (vs:=[v1,v2,v3,v4]) hf ⟨OV.p h1,OV.p h2,OV.p h3,OV.p h4,trivial⟩ hF hd h
theorem WL.t4(hf:bT P f)(h1:tN e x1=some v1)(h2:tN e x2=some v2)(h3:tN e x3=some v3)(h4:tN e x4=some v4)(hF:aC P f #[v1,v2,v3,v4] K H fun v H'=>v=u∧H'=G)(hd:blt d n=true)(h:WL Mo P K n ops rest Q ((d,u)::e) G):WL Mo P K n ops (⟨some d,.call ⟨.value (.func f),#[x1,x2,x3,x4],ats⟩,ty,pos,af,none⟩::rest) Q e H:=WL.call (xs:=[x1,x2,x3,x4]) (vs:=[v1,v2,v3,v4]) hf ⟨OV.p h1,OV.p h2,OV.p h3,OV.p h4,trivial⟩ hF hd fun _ _ hp=>by obtain⟨rfl,rfl⟩:=hp;exact h
end
end Go.Sl
namespace Go.Sl
open Go.RowKit Go.BigFrame List Nat
section
variable{Mo:Mode}{P:Program}{K:World}{n:Nat}{Q:fG}{e:Env}{H:List aA}{c:Bool}{dst:Option Tmp}{ty:TypeId}{pos:String}{af:Array Edge}{gd:Option (Nat×Bool)}{ops:Array Oper}{rest:List Oper}
theorem KV{w:World}{a:Addr}{v:Value}(h:w.cell? a=some v):a=⟨a.block,a.off,none⟩:=by
 cases a with
 | mk b o s =>
  cases s with
  | none=>rfl
  | some x =>
   unfold World.cell? at h;split at h<;>simp at h
theorem V.ug{x:Operand}{S T E m cap:Nat}{A:Option Addr}{xs:List Int}(hS:P.underlying S=some (.slice E))(hE:P.underlying E=some (.int .u8))(hT:P.underlying T=some .string)(hx:OV c e x (.slice A m cap))
 (hs:c=true→Seq K H A m 1 (ints .u8 xs)):eX Mo P K n c e H ⟨dst,.convert S T x,ty,pos,af,gd⟩ (.string (strOfNums xs)):=fun hc a w ha hw=>by
 show ((do pure (Next.value (←convert S T (a.eval x)))):Sem Next).run P w=_;rw[hx.ev hc ha];have hq:=hs hc;have hl:xs.length=m:=by simpa [ints] using hq.len
 have K3:(convert S T (.slice A m cap)).run P w= .ok (.string (strOfNums xs)) w:=by
  cases A with
  | none =>
   have :xs=[]:=by
    cases xs with
    | nil=>rfl
    | cons y ys=>obtain⟨p,k1,_⟩:=hq.rd 0 _ rfl w hw;simp at k1
   subst this;exact run_convert_bytes_nil w S E hS hE m cap T hT
  | some p =>
   rcases eq_zero_or_pos m with h0 | h0
   ·subst h0;have :xs=[]:=eq_nil_of_length_eq_zero hl;subst this;simp[convert,run_underlying hS,run_underlying hE,run_underlying hT,Conv.bytesToString,loadCells,loadCellsFrom,strOfNums,ByteArray.empty,ByteArray.emptyWithCapacity];try rfl
   ·have J8:∀i,i<m→w.cell? (p.add i)=some (.int .u8 (xs.getD i 0)):=fun i hi=>by
     obtain⟨q,k1,k2⟩:=hq.rd i _ (uI .u8 xs ay) w hw;simp at k1;subst k1;exact k2
    have hp:=KV (by have :=J8 0 h0;rwa [show p.add 0=p from rfl] at this);rw[hp];refine run_convert_bytes_arg w S E hS hE p.block p.off m cap xs hl (fun i hi=> ?_) T hT;have :=J8 i hi;rw[hp,jR] at this;exact this
 simp[K3]
def bQ(xs:List Int):Prop:=∀x∈xs,0≤x∧x<256
theorem bQ.at_{xs:List Int}(h:bQ xs)(i:Nat):0≤xs.getD i 0∧xs.getD i 0<256:=by
 by_cases hi:i<xs.length
 ·have :=h xs[i] (by simp)
  simpa [getD,hi] using this
 ·simp[getD,getElem?_eq_none (Nat.le_of_not_lt hi)]
theorem bQ.wide{xs:List Int}(h:bQ xs)(i:Nat): -9223372036854775808≤xs.getD i 0∧xs.getD i 0≤9223372036854775807:=by have :=h.at_ i;omega
theorem Kw{xs ys:List Int}(hx:bQ xs)(hy:bQ ys)(h:(strOfNums xs).data.toList=(strOfNums ys).data.toList):xs=ys:=by
 simp only[strOfNums_data] at h
 induction xs generalizing ys with
 | nil=>cases ys with
  | nil=>rfl
  | cons y ys=>simp at h
 | cons x xs ih =>
  cases ys with
  | nil=>simp at h
  | cons y ys =>
   simp only[map_cons,List.cons.injEq] at h;obtain⟨h1,h2⟩:=h;have e1:=hx x (by simp);have e2:=hy y (by simp);have h3:=congrArg UInt8.toNat h1;simp only[UInt8.toNat_ofNat'] at h3;have :x=y:=ay;subst this;rw[ih (fun z hz=>hx z (by simp[hz])) (fun z hz=>hy z (by simp[hz])) h2]
theorem OW{xs ys:List Int}(hx:bQ xs)(hy:bQ ys):((strOfNums xs).toList==(strOfNums ys).toList)=decide (xs=ys):=by
 have hl:∀b:ByteArray,b.toList=b.data.toList:=fun b=>ByteArray.toList_eq b;rw[hl,hl,Bool.eq_iff_iff];simp only[beq_iff_eq,decide_eq_true_eq];exact⟨Kw hx hy,fun h=>by rw[h]⟩
theorem WL.ad4{d:Nat}{x:Operand}{s:ByteArray}{T T' E b o dl dc:Nat}{news:List Value}{H':List aA}(hT:gI P T E 1)(hx:OV true e x (.slice (some ⟨b,o,none⟩) dl dc))
 (hn:s.data.toList.map (fun b=>Value.int .u8 b.toNat)=news) (hl:ble s.size dl=true) (hu:dw K H b o news H') (hd:blt d n=true)
 (h:WL Mo P K n ops rest Q ((d,.i (news.length:Int))::e) H'):WL Mo P K n ops (⟨some d,.call ⟨.builtin .copy,#[x,.const (.string s)],#[T,T']⟩,ty,pos,af,none⟩::rest) Q e H:=by
 refine WL.SS (R:=fun v oV=>v= .i (news.length:Int)∧oV=H') (fun a w ha hw=> ?_) hd (fun v oV ⟨e1,e2⟩=>by subst e1 e2;exact h);have h1:∀v∈news,v.oneCell'=true:=by rw[←hn];simp[Value.oneCell']
 obtain⟨k1,k2⟩:=hu.run (P:=P) hw h1;refine⟨_,_,H', ?_,k2,rfl,rfl⟩;have hlen:news.length=s.size:=by rw[←hn,length_map];rfl
 have GA:s.size≤dl:=by simpa using hl
 have ht:List.take s.size (List.map (fun b:UInt8=>Value.int .u8 b.toNat) s.data.toList)=news:=by rw[hn];exact take_of_length_le ay
 have hm:s.size.min dl=s.size:=Nat.min_eq_left GA;rw[execOp_builtin,builtin_copy];have KO:=hx.ev rfl ha;have Qr:a.eval (.const (.string s))= .string s:=rfl;simp[Builtin.copy_,KO,Qr,hT.1 w,hT.2 w,Builtin.lenOf,Builtin.firstCells,hm,ht,k1,goInt,hlen]
theorem WL.y8{d:Nat}{x y:Operand}{T E s bytes m q cap cap':Nat}{z:Value}{cs news:List Value}{A B:Option Addr}(hT:P.underlying T=some (.slice E))(hE:dX P E s bytes z)(hx:OV true e x (.slice A m cap))(hy:OV true e y (.slice B q cap'))
 (hs:Seq K H A m s cs) (hn:Seq K H B q s news) (wI:cap<m+q) (hm0:0<m) (hq0:0<q) (hb:(m+q)*bytes≤140737488355328) (J6:blt 0 bytes=true) (hd:blt d n=true)
 (h:∀A cap,(A=none→m+q=0∧cap=0)→m+q≤cap→WL Mo P K n ops rest Q ((d,.slice A (m+q) cap)::e) (bq (.slice A (m+q) cap) E s (m+q) (cs++news)::H)) :
 WL Mo P K n ops (⟨some d,.call ⟨.builtin .append,#[x,y],#[T,T]⟩,ty,pos,af,none⟩::rest) Q e H:=by
 refine WL.SS (R:=fun u H'=>∃A cap,u= .slice A (m+q) cap∧(A=none→m+q=0∧cap=0)∧m+q≤cap∧H'=bq (.slice A (m+q) cap) E s (m+q) (cs++news)::H) (fun a w ha hw=> ?_) hd (fun u H' ⟨A,cap,e1,e2,e3,e4⟩=>by subst e1 e4;exact h A cap e2 e3);obtain⟨i,hi,hz,hs',Vg,hzs,h0⟩:=hE;have SL:0<bytes:=by simpa using J6
 have hle:m+q≤140737488355328:=Nat.le_trans (Nat.le_mul_of_pos_right _ SL) hb;have afi:m+q≤maxLen:=by simp only[maxLen];omega
 have KO:=hx.ev rfl ha;have Qr:=hy.ev rfl ha;have p8:0<cs.length:=by rw[hs.len];exact Nat.mul_pos hm0 h0
 have hns:0<news.length:=by rw[hn.len];exact Nat.mul_pos hq0 h0
 obtain⟨pa,rfl,_⟩:=hs.cell hw (i:=0) (v:=cs[0]) (by simp);obtain⟨pb,rfl,_⟩:=hn.cell hw (i:=0) (v:=news[0]) (by simp);have holds:∀j v,cs[j]? =some v→w.cell? (pa.add j)=some v:=fun j v hj=>by
  obtain⟨p,k1,k2⟩:=hs.cell hw hj;simp at k1;subst k1;exact k2
 have adh:∀j v,news[j]? =some v→w.cell? (pb.add j)=some v:=fun j v hj=>by
  obtain⟨p,k1,k2⟩:=hn.cell hw hj;simp at k1;subst k1;exact k2
 subst hs' Vg;have hr:=run_append_grow (P:=P) w T ty E i z hT hi hz pa m cap cs hs.len holds pb q cap' news hn.len adh wI ay (growslice_fits wI hb);have hge:=grownCap_ge w (m+q) cap E;have hcm:=grownCap_le_maxLen w (m+q) cap E afi;have hlen:(cs++news).length=(m+q)*i.size:=by rw[length_append,hs.len,hn.len,Nat.add_mul]
 refine⟨.slice (some ⟨w.heap.size,0,none⟩) (m+q) (grownCap w (m+q) cap E),w.drew.alloc (.cells (cs.toArray++news.toArray++Builtin.zeroCells z.cells (grownCap w (m+q) cap E-(m+q))) E),
  bq (.slice (some ⟨w.heap.size,0,none⟩) (m+q) (grownCap w (m+q) cap E)) E i.size (m+q) (cs++news)::H, ?_,⟨hw.1.grow rfl rfl rfl (by simp), ?_⟩,_,_,rfl,(fun h=>by simp at h),hge,rfl⟩
 ·rw[execOp_builtin,builtin_append];simp only[map_toArray,map_cons,map_nil,KO,Qr,Sem.run_bind,hr,Result.andThen_ok,Sem.run_pure]
 ·refine hw.2.push (by simp) (fun b tY=> ?_) ?_ (fun b tY=> ?_)
  ·exact heap_alloc_old w.drew _ tY
  ·refine⟨hlen,.inr ⟨w.heap.size,_,_,rfl,zero_le _,heap_alloc_new w.drew _,hge,hcm, ?_, ?_⟩⟩
   ·simp only[Array.size_append,size_toArray,size_zeroCells,hzs,hs.len,hn.len,←Nat.add_mul];congr 1;omega
   ·simp only[Array.toList_append,append_assoc];rw[←append_assoc,←hlen];exact take_left
  ·simp[bq,Value.ownBlock] at tY;subst tY;simp
def pK(b T:Nat)(cs:List Value):aA where
 jF x:=x=b
 holds w:=∃fr,w.heap[b]? =some (.cells cs.toArray T fr)
 loc w w' h hw:=by rw[h b rfl];exact hw
theorem Rd.afO{b T o:Nat}{cs:List Value}{v:Value}(h:cs[o]? =some v):Rd K (pK b T cs::H) (some ⟨b,o,none⟩) v:=fun w hw=>by
 refine⟨_,rfl, ?_⟩;obtain⟨fr,this⟩:=hw.head;simp[World.cell?,this,h]
theorem Seq.akW{b T m s:Nat}{cs:List Value}(hl:cs.length=m*s):Seq K (pK b T cs::H) (some ⟨b,0,none⟩) m s cs:=⟨hl,fun i v hi=>by
 have :=Rd.afO (K:=K) (H:=H) (b:=b) (T:=T) (o:=i) hi
 simpa [jR] using this⟩
theorem WL.Z7{d:Nat}{x:Operand}{T E b m cap:Nat}{cs:List Value}(hT:P.underlying T=some (.slice E))(hE:P.underlying E=some (.int .u8))(hx:OV true e x (.slice (some ⟨b,0,none⟩) m cap))(hd:blt d n=true)
 (h:WL Mo P K n ops rest Q ((d,.slice (some ⟨b,0,none⟩) m cap)::e) (pK b E cs::H)) :
 WL Mo P K n ops (⟨some d,.convert T T x,ty,pos,af,none⟩::rest) Q e (ah b E cs::H):=by
 refine WL.SS (R:=fun u H'=>u= .slice (some ⟨b,0,none⟩) m cap∧H'=pK b E cs::H) (fun a w ha hw=> ?_) hd (fun u H' ⟨e1,e2⟩=>by subst e1 e2;exact h);have hb:=hw.head;simp only[ah] at hb;have hsh:w.shape? b=some (E,cs.length):=by simp[World.shape?,hb]
 refine⟨_,w.freeze ⟨b,cs.length,none⟩ 1,_, ?_,⟨hw.1.grow ?_ ?_ ?_ ?_, ?_⟩,rfl,rfl⟩
 ·show ((do pure (Next.value (←convert T T (a.eval x)))):Sem Next).run P w=_;rw[hx.ev rfl ha];simp[convert,run_underlying hT,run_underlying hE,markStringish,hsh]
 ·simp[World.freeze]
 ·simp[World.freeze]
 ·simp[World.freeze]
 ·simp[World.freeze]
 ·refine hw.2.set (A':=pK b E cs) (by simp[World.freeze]) (fun k hk _=> ?_) ?_ (fun k hk=> .inl hk)
  ·have :b≠k:=fun h=>hk h.symm;simp[World.freeze,Array.getElem?_modify,this]
  ·refine⟨(cs.length,cs.length+1), ?_⟩;simp[World.freeze,Array.getElem?_modify,hb]
end
theorem WC.Ni{α:Type}{Mo:Mode}{P:Program}{K:World}{n:Nat}{Q:fG}{e:Env}{H:List aA}{code:Code}(P':α→Prop)(E:α→Env)(M:α→List aA)(a:α)(ha:P' a)(hE:Sub (E a) e)(hM:∀w,Sat K w H→Sat K w (M a))
 (h:∀a,P' a→WC Mo P K n code Q (E a) (M a)):WC Mo P K n code Q e H:=WC.sub hE hM (h a ha)
end Go.Sl
namespace Go.Sl
open Go.ChangeShapes Go.WideShapes Go.ChangeAt Go.RowKit List Nat
section
variable{H:Type}{enc:TypeId×Value→H}{P:Program}{W W':World}
theorem ad7(hl:laidOutB P=true){sp:Nat→Bool}:∀ {ts:List TypeId} {vs:List Value} {ds:List (DataW H)} {ps:List MemPlace},(∀t∈ts,P.readableRec t=true∧t<P.types.size) →
 DataW.TrodAll enc P W 0 (fun _=>true) true ts vs ds ps→(∀p∈ps,W.sameAt W' p)→(∀p∈ps,sp p.block=true)→DataW.TrodAll enc P W' 0 sp true ts vs ds ps:=by
 intro ts
 induction ts with
 | nil =>
  intro vs ds ps _ h _ _;cases vs<;>cases ds<;>first | exact h | exact h.elim
 | cons t ts ih =>
  intro vs ds ps hr h hs hp;cases vs with
  | nil=>cases ds<;>exact h.elim
  | cons v vs =>
   cases ds with
   | nil=>exact h.elim
   | cons d ds =>
    obtain⟨p,q,h1,h2,e⟩:=h;subst e;obtain⟨r1,r2⟩:=hr t (by simp);exact⟨p,q,WideElems.Trod_stays hl r1 r2 h1 (fun x hx=>hs x (by simp[hx])) (fun x hx=>hp x (by simp[hx])),ih (fun t ht=>hr t (by simp[ht])) h2 (fun x hx=>hs x (by simp[hx])) (fun x hx=>hp x (by simp[hx])),rfl⟩
theorem kM{base:Nat}{spare:Nat→Bool}{held:Bool}:∀ {ts:List TypeId} {vs:List Value} {ds:List (DataW H)} {ps:List MemPlace},DataW.TrodAll enc P W base spare held ts vs ds ps→vs.length=ts.length∧ds.length=ts.length:=by
 intro ts
 induction ts with
 | nil=>intro vs ds ps h;cases vs<;>cases ds<;>first | exact⟨rfl,rfl⟩ | exact h.elim
 | cons t ts ih =>
  intro vs ds ps h;cases vs with
  | nil=>cases ds<;>exact h.elim
  | cons v vs =>
   cases ds with
   | nil=>exact h.elim
   | cons d ds =>
    obtain⟨p,q,h1,h2,e⟩:=h;have :=ih h2;simp[this]
theorem acu{f:Func}{s:ChangeSpec}{tb:TypeId}{args:Array Value}{ds gs:List (DataW H)}{before:List MemPlace}(hl:laidOutB P=true)
 (hr:f.params.toList.all (fun t=>P.readableRec t&&decide (t<P.types.size))=true) (hv:s.vars=[])
 (hf:∀ds:List (DataW H),ds.length=f.params.size→s.fn H ds= { results:=[.lit (.bool true)],args:=ds })
 (O4:f.resultTypes= #[tb]) (htb:P.underlying tb=some .bool) (hW:DataW.Whole enc P f.params.toList s.vars false W args.toList ds gs before) (hb:Below W.heap.size W W') :
 s.post enc P f false true false false W args (.bool true) W':=by
 have oJ:∀p∈before,p.block<W.heap.size:=fun p hp=>hW.lt p hp;have hW0:=hW;obtain⟨p,q,hA,hV,rfl,hfz,wC⟩:=hW;rw[hv] at hV;obtain⟨rfl,rfl⟩:=trodVars_none hV;have hlen:=(kM hA).2;have Kj:=hf ds (by rw[hlen,Array.length_toList]);refine⟨ds,[],_,[],p,[],hW0, ?_, ?_, ?_,World.keptBut_mono (fun x hx=>hx) (hb.frame _),fun h=>by cases h⟩
 ·rw[append_nil,Kj,O4];exact trodAll_mk1 (shut_bool htb true)
 ·rw[append_nil,Kj];refine ad7 hl (fun t ht=> ?_) hA (fun x hx=>hb.same (oJ x (by simp[hx]))) (fun x hx=>by simpa using oJ x (by simp[hx]));have :=all_eq_true.1 hr t ht
  simpa using this
 ·rw[append_nil,Kj,hv];rfl
end
theorem JB{C:Checked}{os:Os}{fn:Func}{f:FuncId}{s:ChangeSpec}{H:Type}{enc:TypeId×Value→H}{tb:TypeId}(own:ownKnob C.prog.godebug=none)(started:os.Started)(noInit:C.prog.inits.idxOf? f=none)
 (Kj:C.prog.funcs[f]? =some fn)
 (witness:∃(w:World) (tape:Tape) (i:Input),w.os=os∧(w.forCall tape i).Shaped C.prog∧i.vars=[]∧Input.okWide C.prog (w.forCall tape i) .any w.heap.size f i ∧
  s.pre6 enc C.prog fn [] false (w.forCall tape i).memory i.args∧({}:Assume).holds C.prog (lone (Frame.enter C.prog f i.args .normal) [] (w.forCall tape i)))
 (hl:laidOutB C.prog=true) (hr:fn.params.toList.all (fun t=>C.prog.readableRec t&&decide (t<C.prog.types.size))=true) (hv:s.vars=[])
 (hf:∀ds:List (DataW H),ds.length=fn.params.size→s.fn H ds= { results:=[.lit (.bool true)],args:=ds })
 (O4:fn.resultTypes= #[tb]) (htb:C.prog.underlying tb=some .bool)
 (contract:∀(W:World) (base:Nat) (args:Array Value) (ds:List (DataW H)) (p:List MemPlace),(∀(j:Nat) t v,fn.params[j]? =some t→args[j]? =some v→Value.okWide C.prog W .any base t v) →
  DataW.TrodAll enc C.prog W 0 (fun _=>true) true fn.params.toList args.toList ds p→(∀x∈p,x.block<W.heap.size)→aL C.prog f args W [Old W] (.bool true)) :
 ReturnsInHanded {} C os f .any (s.pre6 enc C.prog fn [] false) (s.post enc C.prog fn false true false false):=by
 refine returnsInHanded_of_change own started noInit Kj witness ?_;intro W base args ds gs before zZ hW _ _;have hW0:=hW;obtain⟨p,q,hA,hV,rfl,hfz,wC⟩:=hW;refine ((contract W base args ds p zZ hA (fun x hx=>hW0.lt x (by simp[hx]))).call (Sat.Po W)).mono fun e W' ⟨he,hw⟩=> ?_;exact⟨_,he,acu hl hr hv hf O4 htb hW0 hw.below⟩
section
variable{P:Program}{W:World}{r:Reach}{base:Nat}
def EU(P:Program)(t:TypeId)(v:Value):Prop :=
 match P.underlying t with
 | some (.int k)=>∃i,v= .int k i∧k.min≤i∧i≤k.max
 | some .bool=>∃b,v= .bool b
 | _=>True
theorem ahC{t:TypeId}{v:Value}(h:Cell.okWide P W r base t v):EU P t v:=by
 unfold EU;cases hu:P.underlying t with
 | none=>trivial
 | some d =>
  cases d<;>simp only[Cell.okWide,hu] at h ⊢;all_goals cases v<;>simp_all [Cell.ok,IntKind.has]
theorem abA{t:TypeId}{v:Value}{ts:List TypeId}(hu:∃d,P.underlying t=some d∧((∃fs,d= .struct fs)∨∃m e,d= .array m e))(hts:P.cellTypes P.depth t=some ts)(hn:P.cellsOf t=ts.length)(h:Value.okWide P W r base t v) :
 ∃ cs:Array Value,v= .agg cs∧cs.size=ts.length∧∀(i:Nat) u w,ts[i]? =some u→cs[i]? =some w→EU P u w:=by
 obtain⟨d,hd,Zr⟩:=hu;have h':∃cs,v= .agg cs∧cs.size=P.cellsOf t∧Row.okWide P W r base t cs:=by
  rcases Zr with ⟨fs,rfl⟩ | ⟨m,e,rfl⟩<;>simpa only[Value.okWide,hd] using h
 obtain⟨cs,rfl,Kl,ts',h1,_,h2⟩:=h';rw[hts] at h1;injection h1 with h1
 subst h1;refine⟨cs,rfl,Kl.trans hn,fun i u w hi hw=> ?_⟩;obtain⟨u',k1,k2⟩:=h2 i w hw;have oJ:i<ts.length:=by
  rcases Nat.lt_or_ge i ts.length with h | h
  ·exact h
  ·rw[getElem?_eq_none h] at hi;cases hi
 rw[mod_eq_of_lt oJ,hi] at k1;injection k1 with k1
 subst k1;exact ahC k2
theorem EU.int{t:TypeId}{v:Value}{k:IntKind}(hu:P.underlying t=some (.int k))(h:EU P t v):∃i,v= .int k i∧k.min≤i∧i≤k.max:=by simpa only[EU,hu] using h
end
end Go.Sl
