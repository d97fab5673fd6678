import Derived.Test.YtcedojacbhnbiaaGreatP1
import Derived.KernelRfl
import Derived.Laws.Externs
set_option autoImplicit true
set_option linter.all false
set_option maxHeartbeats 2000000
set_option maxRecDepth 20000
set_option relaxedAutoImplicit true
namespace Go.Sl
open Go.RowKit List Nat
structure aM(l:List Char)(X Y:Prop):Prop where
 f:Y→X
structure StS(s:String)(X Y:Prop):Prop where
 f:Y→X
theorem StS.o{l:List Char}{X Y:Prop}(h:aM l X Y):StS (String.ofList l) X Y:=⟨h.f⟩
theorem aW{a b:Prop}(x:a)(y:b):a∧b:=⟨x,y⟩
theorem aM.z{X:Prop}:aM [] X X:=⟨id⟩
structure Ix(i:Nat):Prop where
theorem aM.s(k:Nat){l:List Char}{X Zz Y:Prop}(h:Zz→X)(t:aM l Zz Y):aM (Char.ofNat k::l) X Y:=⟨λy=>h (t.f y)⟩
theorem aM.w(k:Nat){i:Nat}{l:List Char}{X Zz Y:Prop}(h:Ix i→Zz→X)(t:aM l Zz Y):aM (Char.ofNat k::Char.ofNat (i+48)::l) X Y:=⟨λy=>h ⟨⟩ (t.f y)⟩
theorem aM.m2(k a b:Nat){l:List Char}{X Y:Prop}(t:aM (Char.ofNat a::Char.ofNat b::l) X Y):aM (Char.ofNat k::l) X Y:=⟨t.f⟩
theorem aM.m3(k a b d:Nat){l:List Char}{X Y:Prop}(t:aM (Char.ofNat a::Char.ofNat b::Char.ofNat d::l) X Y):aM (Char.ofNat k::l) X Y:=⟨t.f⟩
theorem aM.m4(k a b d e:Nat){l:List Char}{X Y:Prop}(t:aM (Char.ofNat a::Char.ofNat b::Char.ofNat d::Char.ofNat e::l) X Y):aM (Char.ofNat k::l) X Y:=⟨t.f⟩
theorem aM.m5(k a b d e f:Nat){l:List Char}{X Y:Prop}(t:aM (Char.ofNat a::Char.ofNat b::Char.ofNat d::Char.ofNat e::Char.ofNat f::l) X Y):aM (Char.ofNat k::l) X Y:=⟨t.f⟩
theorem aM.m6(k a b d e f g:Nat){l:List Char}{X Y:Prop}(t:aM (Char.ofNat a::Char.ofNat b::Char.ofNat d::Char.ofNat e::Char.ofNat f::Char.ofNat g::l) X Y):aM (Char.ofNat k::l) X Y:=⟨t.f⟩
theorem aM.m7(k a b d e f g i:Nat){l:List Char}{X Y:Prop}(t:aM (Char.ofNat a::Char.ofNat b::Char.ofNat d::Char.ofNat e::Char.ofNat f::Char.ofNat g::Char.ofNat i::l) X Y):aM (Char.ofNat k::l) X Y:=⟨t.f⟩
theorem aM.m8(k a b d e f g i j:Nat){l:List Char}{X Y:Prop}(t:aM (Char.ofNat a::Char.ofNat b::Char.ofNat d::Char.ofNat e::Char.ofNat f::Char.ofNat g::Char.ofNat i::Char.ofNat j::l) X Y):aM (Char.ofNat k::l) X Y:=⟨t.f⟩
structure fK(l:List Char)(X Y:Prop):Prop where
 f:Y→X
theorem aM.q{l:List Char}{X Y:Prop}(h:fK l X Y):aM (Char.ofNat 126::l) X Y:=⟨h.f⟩
theorem fK.s(k:Nat){l:List Char}{X Zz Y:Prop}(h:Zz→X)(t:aM l Zz Y):fK (Char.ofNat k::l) X Y:=⟨λy=>h (t.f y)⟩
theorem fK.w(k:Nat){i:Nat}{l:List Char}{X Zz Y:Prop}(h:Ix i→Zz→X)(t:aM l Zz Y):fK (Char.ofNat k::Char.ofNat (i+48)::l) X Y:=⟨λy=>h ⟨⟩ (t.f y)⟩
theorem fK.m2(k a b:Nat){l:List Char}{X Y:Prop}(t:aM (Char.ofNat a::Char.ofNat b::l) X Y):fK (Char.ofNat k::l) X Y:=⟨t.f⟩
theorem fK.m3(k a b d:Nat){l:List Char}{X Y:Prop}(t:aM (Char.ofNat a::Char.ofNat b::Char.ofNat d::l) X Y):fK (Char.ofNat k::l) X Y:=⟨t.f⟩
theorem fK.m4(k a b d e:Nat){l:List Char}{X Y:Prop}(t:aM (Char.ofNat a::Char.ofNat b::Char.ofNat d::Char.ofNat e::l) X Y):fK (Char.ofNat k::l) X Y:=⟨t.f⟩
theorem fK.m5(k a b d e f:Nat){l:List Char}{X Y:Prop}(t:aM (Char.ofNat a::Char.ofNat b::Char.ofNat d::Char.ofNat e::Char.ofNat f::l) X Y):fK (Char.ofNat k::l) X Y:=⟨t.f⟩
theorem fK.m6(k a b d e f g:Nat){l:List Char}{X Y:Prop}(t:aM (Char.ofNat a::Char.ofNat b::Char.ofNat d::Char.ofNat e::Char.ofNat f::Char.ofNat g::l) X Y):fK (Char.ofNat k::l) X Y:=⟨t.f⟩
theorem fK.m7(k a b d e f g i:Nat){l:List Char}{X Y:Prop}(t:aM (Char.ofNat a::Char.ofNat b::Char.ofNat d::Char.ofNat e::Char.ofNat f::Char.ofNat g::Char.ofNat i::l) X Y):fK (Char.ofNat k::l) X Y:=⟨t.f⟩
theorem fK.m8(k a b d e f g i j:Nat){l:List Char}{X Y:Prop}(t:aM (Char.ofNat a::Char.ofNat b::Char.ofNat d::Char.ofNat e::Char.ofNat f::Char.ofNat g::Char.ofNat i::Char.ofNat j::l) X Y):fK (Char.ofNat k::l) X Y:=⟨t.f⟩
structure gB(l:List Char)(X Y:Prop):Prop where
 f:Y→X
theorem fK.q{l:List Char}{X Y:Prop}(h:gB l X Y):fK (Char.ofNat 126::l) X Y:=⟨h.f⟩
theorem gB.s(k:Nat){l:List Char}{X Zz Y:Prop}(h:Zz→X)(t:aM l Zz Y):gB (Char.ofNat k::l) X Y:=⟨λy=>h (t.f y)⟩
theorem gB.w(k:Nat){i:Nat}{l:List Char}{X Zz Y:Prop}(h:Ix i→Zz→X)(t:aM l Zz Y):gB (Char.ofNat k::Char.ofNat (i+48)::l) X Y:=⟨λy=>h ⟨⟩ (t.f y)⟩
theorem gB.m2(k a b:Nat){l:List Char}{X Y:Prop}(t:aM (Char.ofNat a::Char.ofNat b::l) X Y):gB (Char.ofNat k::l) X Y:=⟨t.f⟩
theorem gB.m3(k a b d:Nat){l:List Char}{X Y:Prop}(t:aM (Char.ofNat a::Char.ofNat b::Char.ofNat d::l) X Y):gB (Char.ofNat k::l) X Y:=⟨t.f⟩
theorem gB.m4(k a b d e:Nat){l:List Char}{X Y:Prop}(t:aM (Char.ofNat a::Char.ofNat b::Char.ofNat d::Char.ofNat e::l) X Y):gB (Char.ofNat k::l) X Y:=⟨t.f⟩
theorem gB.m5(k a b d e f:Nat){l:List Char}{X Y:Prop}(t:aM (Char.ofNat a::Char.ofNat b::Char.ofNat d::Char.ofNat e::Char.ofNat f::l) X Y):gB (Char.ofNat k::l) X Y:=⟨t.f⟩
theorem gB.m6(k a b d e f g:Nat){l:List Char}{X Y:Prop}(t:aM (Char.ofNat a::Char.ofNat b::Char.ofNat d::Char.ofNat e::Char.ofNat f::Char.ofNat g::l) X Y):gB (Char.ofNat k::l) X Y:=⟨t.f⟩
theorem gB.m7(k a b d e f g i:Nat){l:List Char}{X Y:Prop}(t:aM (Char.ofNat a::Char.ofNat b::Char.ofNat d::Char.ofNat e::Char.ofNat f::Char.ofNat g::Char.ofNat i::l) X Y):gB (Char.ofNat k::l) X Y:=⟨t.f⟩
theorem gB.m8(k a b d e f g i j:Nat){l:List Char}{X Y:Prop}(t:aM (Char.ofNat a::Char.ofNat b::Char.ofNat d::Char.ofNat e::Char.ofNat f::Char.ofNat g::Char.ofNat i::Char.ofNat j::l) X Y):gB (Char.ofNat k::l) X Y:=⟨t.f⟩
structure wh(l:List Char)(X Y:Prop):Prop where
 f:Y→X
theorem gB.q{l:List Char}{X Y:Prop}(h:wh l X Y):gB (Char.ofNat 126::l) X Y:=⟨h.f⟩
theorem wh.s(k:Nat){l:List Char}{X Zz Y:Prop}(h:Zz→X)(t:aM l Zz Y):wh (Char.ofNat k::l) X Y:=⟨λy=>h (t.f y)⟩
theorem wh.w(k:Nat){i:Nat}{l:List Char}{X Zz Y:Prop}(h:Ix i→Zz→X)(t:aM l Zz Y):wh (Char.ofNat k::Char.ofNat (i+48)::l) X Y:=⟨λy=>h ⟨⟩ (t.f y)⟩
theorem wh.m2(k a b:Nat){l:List Char}{X Y:Prop}(t:aM (Char.ofNat a::Char.ofNat b::l) X Y):wh (Char.ofNat k::l) X Y:=⟨t.f⟩
theorem wh.m3(k a b d:Nat){l:List Char}{X Y:Prop}(t:aM (Char.ofNat a::Char.ofNat b::Char.ofNat d::l) X Y):wh (Char.ofNat k::l) X Y:=⟨t.f⟩
theorem wh.m4(k a b d e:Nat){l:List Char}{X Y:Prop}(t:aM (Char.ofNat a::Char.ofNat b::Char.ofNat d::Char.ofNat e::l) X Y):wh (Char.ofNat k::l) X Y:=⟨t.f⟩
theorem wh.m5(k a b d e f:Nat){l:List Char}{X Y:Prop}(t:aM (Char.ofNat a::Char.ofNat b::Char.ofNat d::Char.ofNat e::Char.ofNat f::l) X Y):wh (Char.ofNat k::l) X Y:=⟨t.f⟩
theorem wh.m6(k a b d e f g:Nat){l:List Char}{X Y:Prop}(t:aM (Char.ofNat a::Char.ofNat b::Char.ofNat d::Char.ofNat e::Char.ofNat f::Char.ofNat g::l) X Y):wh (Char.ofNat k::l) X Y:=⟨t.f⟩
theorem wh.m7(k a b d e f g i:Nat){l:List Char}{X Y:Prop}(t:aM (Char.ofNat a::Char.ofNat b::Char.ofNat d::Char.ofNat e::Char.ofNat f::Char.ofNat g::Char.ofNat i::l) X Y):wh (Char.ofNat k::l) X Y:=⟨t.f⟩
theorem wh.m8(k a b d e f g i j:Nat){l:List Char}{X Y:Prop}(t:aM (Char.ofNat a::Char.ofNat b::Char.ofNat d::Char.ofNat e::Char.ofNat f::Char.ofNat g::Char.ofNat i::Char.ofNat j::l) X Y):wh (Char.ofNat k::l) X Y:=⟨t.f⟩
class wP(P:Program)(T:Nat)(d:outParam TypeDesc):Prop where
 h:∀w,(underlying T).run P w= .ok d w
class xH(P:Program)(T:Nat):Prop where
 h:M9 P T
class wO(P:Program)(T:Nat)(s:outParam Nat):Prop where
 h:Ur P T s
class iH(P:Program)(S f:Nat)(off:outParam Nat):Prop where
 h:jC P S f off
class q8(P:Program)(T:Nat)(s:outParam Nat):Prop where
 h:∀w,(sizeOf T).run P w= .ok s w
class OE(P:Program)(T:Nat)(d:outParam TypeDesc):Prop where
 h:P.underlying T=some d
class ZvT(P:Program)(T:Nat)(z:outParam Value):Prop where
 h:∀w,(zeroValue T).run P w= .ok z w
class JW(P:Program)(T:Nat)(cs:outParam (List Value)):Prop where
 h:∃z,(∀w,(zeroValue T).run P w= .ok z w)∧z.cells.toList=cs
class BdT(P:Program)(T:Nat)(v:outParam Value):Prop where
 h:∀w,(Instr.build T [].toArray).run P w= .ok v w
class ElT(P:Program)(E:Nat)(s b:outParam Nat)(z:outParam Value):Prop where
 h:dH P E s b z
class Jq(P:Program)(T:Nat)(m E s:outParam Nat):Prop where
 h:tC P T m E s
class RO(P:Program)(T:Nat)(E s:outParam Nat):Prop where
 h:fq P T E s
section
variable{Mo:Mode}{P:Program}{K:World}{n:Nat}{ops:Array Oper}{Q:iX}{c:Bool}{e:Env}{H F0:List aH}{ty:TypeId}{pos:String}{af:Array Edge}{ds:List Deferred}
theorem WA.tI{fuel:Nat}{listed:Array Bool}{d i:Nat}{op:Op}{v:Value}(ix:Ix i)(hi:ops[i]? =some ⟨some d,op,ty,pos,af,none⟩)(hv:eX Mo P K n true e F0 ⟨some d,op,ty,pos,af,none⟩ v)
 (h:WA Mo P K n F0 ops Q fuel (listed.setIfInBounds i true) ((d,v)::e) H) (hd:blt d n=true:=by rfl) (hF:∀w,Sat K w H→Sat K w F0:=by intro w h;repeat (first | exact h | replace h:=h.tail)) (hs:Region.noSelect ops=true:=by kernel_rfl) (hf:Region.free .any ops listed i=true:=by kernel_rfl)
 (hr:(Region.ready .any ops listed).contains i=true:=by kernel_rfl) (hQ:∀c (p:Mode×Env) H,¬Q p.1 (.panic c) p.2 H:=by exact λ_ _ _ h=>h):WA Mo P K n F0 ops Q (fuel+1) listed e H:=WA.take i hF hi hs hf hr hQ hv hd h
theorem WA.oI{fuel:Nat}{listed:Array Bool}{i:Nat}{o:Oper}(ix:Ix i)(hi:ops[i]? =some o)(h:WL ⟨none,ds⟩ P K n ops [o] (zO (λMo=>WA Mo P K n F0 ops Q fuel (listed.setIfInBounds i true)) Q) e H)
 (hF:∀w,Sat K w H→Sat K w F0:=by intro w h;repeat (first | exact h | replace h:=h.tail)) (hr:Region.ready .any ops listed=[i]:=by kernel_rfl):WA ⟨none,ds⟩ P K n F0 ops Q (fuel+1) listed e H:=WA.one hF hr hi h
theorem aF.qe{fn:Func}{u:Value}{t:Tmp}{F:List aH}{r:Option (Option Nat)}(hr:fn.results= #[.tmp t]:=by rfl)(h:look e t=some u:=by rfl)(hs:∀w,Sat K w H→Sat K w F:=by intro w h;repeat (first | exact h | replace h:=h.tail)):aF P K n fn (λv H'=>v=u∧H'=F) ⟨r,[]⟩ .ret e H:=aF.ret (bJ.tmp hr h) hs ⟨Z,Z⟩
theorem aF.qv{fn:Func}{u v:Value}{t:Tmp}{F:List aH}{r:Option (Option Nat)}(hv:v=u)(hr:fn.results= #[.tmp t]:=by rfl)(h:look e t=some v:=by rfl)(hs:∀w,Sat K w H→Sat K w F:=by intro w h;repeat (first | exact h | replace h:=h.tail)):aF P K n fn (λv H'=>v=u∧H'=F) ⟨r,[]⟩ .ret e H:=aF.ret (bJ.tmp hr h) hs ⟨hv,Z⟩
theorem WC.ae8{c:Operand}{x y:Code}{p:Prop}[Decidable p](hc:sQ e c=some (.bool (decide p)))(ht:p→WC Mo P K n x Q e H)(hf:¬p→WC Mo P K n y Q e H):WC Mo P K n (.cond c x y) Q e H :=
 WC.cond hc (λh=>ht (of_decide_eq_true h)) λh=>hf (of_decide_eq_false h)
theorem WC.aiY{c:Operand}{x y:Code}{p:Prop}[Decidable p](hc:sQ e c=some (.bool (!decide p)))(ht:¬p→WC Mo P K n x Q e H)(hf:p→WC Mo P K n y Q e H):WC Mo P K n (.cond c x y) Q e H :=
 WC.cond hc (λh=>ht λk=>by rw[decide_eq_true k] at h;cases h) λh=>hf (Decidable.byContradiction λk=>by rw[decide_eq_false k] at h;cases h)
theorem WL.agq{d T:Nat}{cs:List Value}{rest:List Oper}[hz:JW P T cs](h:∀b,WL Mo P K n ops rest Q ((d,ptr b 0)::e) (ah b T cs::H))(hd:blt d n=true:=by rfl):WL Mo P K n ops (⟨some d,.alloc T,ty,pos,af,none⟩::rest) Q e H :=
 Exists.elim hz.h λ_ q=>WL.alloc q.1 q.2 hd h
end
theorem aj(s:String){X Y:Prop}(h:Y) (t:StS s X Y:=by
 apply StS.o;repeat (first
  | (apply aM.q;first
  | (apply fK.q;first
  | (apply gB.q;first
  | apply wh.m2 72 97 80
  | apply wh.m2 73 112 90
  | (apply wh.w 103;focus (intro ix hz;exact WA.tI ix Z (V.len (t:=34) wP.h (OV.p Z)) hz))
  | (apply wh.s 104;focus (intro hz;exact WL.val (V.makeFunc (us:=[]) (vs:=[_,_,_]) trivial ⟨OV.p Z,OV.p Z,OV.p Z,trivial⟩) Z hz))
  | (apply wh.s 105;focus (intro hz;exact WL.bI (oj:=_) Z Z Z GC.ct (V.neq (OV.g Z id) (OV.p Z)) Z hz))
  | (apply wh.s 106;focus (intro hz;exact WL.val (V.index Jq.h (OV.p rfl) (OV.p rfl) (λhc=>by clear hz;first | omega | (simp at hc;omega)) (λ_=>nI xH.h Z)) Z hz))
  | (apply wh.s 107;focus (intro hz;exact WL.bI (oj:=_) Z Z Z GC.f (V.YM Jq.h (OV.g Z id) (OV.g Z id) (λhc=>by clear hz;first | omega | (simp at hc;omega))) Z hz))
  | (apply wh.s 108;focus (intro hz;exact WA.tK 9 Z Z Z Z Z (V.agA (OV.p Z) (OV.p Z)) hz))
  | (apply wh.w 109;focus (intro ix hz;exact WA.tI ix Z (V.DY (OV.p Z) (OV.p Z)) hz))
  | (apply wh.s 111;focus (intro hz;exact WQ.bI (oj:=_) Z Z Z GC.cf (V.move (OV.p Z)) Z hz))
  | (apply wh.s 112;focus (intro hz;exact WQ.bI (oj:=_) Z Z Z GC.t (V.YM Jq.h (OV.g Z id) (OV.g Z id) (λhc=>by clear hz;first | omega | (simp at hc;omega))) Z hz))
  | (apply wh.s 113;focus (intro hz;exact WQ.bI (oj:=_) Z Z Z GC.t (V.fE (vs:=[_,_]) (wO.h (s:=2)) (OV.g Z id) Z (λ_=>by clear hz;repeat (first | exact fH.ED ⟨Z,Z,trivial⟩ | apply fH.up))) Z hz))
  | (apply wh.s 114;focus (intro h;exact WL.store (cs:=[_]) (q8.h (s:=1)) (OV.p Z) (OV.p Z) Z Z Z (by clear h;repeat (first | exact bT.here (cs':=[_,_,_]) Z Z | apply bT.up)) h))
  | (apply wh.s 115;focus (intro h;exact WL.bI (oj:=_) Z Z Z GC.t (V.lss (OV.g Z id) (OV.p Z)) Z h))
  | (apply wh.s 116;focus (intro h;exact WL.bI (oj:=_) Z Z Z GC.t (V.neq (OV.g Z id) (OV.p Z)) Z h))
  | (apply wh.s 118;focus (intro hz;exact WL.bI (oj:=_) Z Z Z GC.t (V.Av (OV.g Z id) (OV.p Z) (λhc=>by clear hz;first | omega | (simp at hc;omega))) Z hz))
  | (apply wh.s 119;focus (intro hz;exact WQ.val (V.load xH.h (OV.p rfl) (λhc=>by clear hz;repeat (first | exact Rd.here Z | apply Rd.up))) Z hz))
  | (apply wh.s 122;focus (intro hz;exact WL.val (V.fE (vs:=[_,_,_,_]) (wO.h (s:=4)) (OV.p Z) Z (λ_=>by clear hz;repeat (first | exact fH.ED ⟨Z,Z,Z,Z,trivial⟩ | apply fH.up))) Z hz))
  | (apply wh.s 65;focus (intro hz;exact WL.bI (oj:=_) Z Z Z GC.ct (V.load xH.h (OV.g Z id) (λ_=>by clear hz;repeat (first | exact Rd.here Z | apply Rd.up))) Z hz))
  | (apply wh.s 66;focus (intro hz;exact WL.bI (oj:=_) Z Z Z GC.f (V.CX (OV.p Z) (OV.g Z id) (λhc=>by clear hz;first | omega | (simp at hc;omega))) Z hz))
  | (apply wh.w 67;focus (intro ix hz;exact WA.tI ix Z (V.fE (vs:=[_,_]) (wO.h (s:=2)) (OV.p Z) Z (λ_=>by clear hz;repeat (first | exact fH.ED ⟨Z,Z,trivial⟩ | apply fH.up))) hz))
  | (apply wh.s 68;focus (intro hz;exact WQ.bI (oj:=_) Z Z Z GC.f (V.load xH.h (OV.g Z id) (λ_=>by clear hz;repeat (first | exact Rd.here Z | apply Rd.up))) Z hz))
  | (apply wh.s 69;focus (intro h;exact WL.store (cs:=[_]) (q8.h (s:=1)) (OV.p Z) (OV.p Z) Z Z Z (by clear h;repeat (first | exact bT.here (cs':=[_,_]) Z Z | apply bT.up)) h))
  | (apply wh.s 70;focus (intro h;exact WL.bI (oj:=_) Z Z Z GC.f (V.geq (OV.g Z id) (OV.p Z)) Z h))
  | (apply wh.s 71;focus (intro h;exact WL.val (V.CX (OV.p rfl) (OV.p rfl) (λ_=>by clear h;omega)) Z h))
  )
  | (apply gB.s 97;focus (intro hz;exact WQ.bI (oj:=_) Z Z Z GC.f (V.move (OV.p Z)) Z hz))
  | (apply gB.s 99;focus (intro hz;exact WQ.bI (oj:=_) Z Z Z GC.t (V.fieldAddr iH.h (OV.p Z)) Z hz))
  | (apply gB.s 100;focus (intro h;exact WL.store (cs:=[_,_]) (q8.h (s:=2)) (OV.p Z) (OV.p Z) Z Z Z (by clear h;repeat (first | exact bT.here (cs':=[_,_,_,_,_]) Z Z | apply bT.up)) h))
  | (apply gB.s 101;focus (intro h;exact WL.bI (oj:=_) Z Z Z GC.t (V.fieldAddr iH.h (OV.g Z id)) Z h))
  | (apply gB.s 102;focus (intro h;exact WL.bI (oj:=_) Z Z Z GC.f (V.neq (OV.g Z id) (OV.p Z)) Z h))
  | (apply gB.s 105;focus (intro hz;exact WL.val (V.makeFunc (us:=[]) (vs:=[_,_]) trivial ⟨OV.p Z,OV.p Z,trivial⟩) Z hz))
  | (apply gB.s 106;focus (intro hz;exact WL.bI (oj:=_) Z Z Z GC.cf (V.move (OV.p Z)) Z hz))
  | (apply gB.s 107;focus (intro hz;exact WL.acd OE.h OE.h (OV.p Z) Z hz))
  | (apply gB.s 108;focus (intro hz;exact WL.sub (Sub.refl _) (λw h=>h.bg 3 [1,2,0] Z) hz))
  | (apply gB.s 109;focus (intro hz;exact WL.sub (Sub.refl _) (λw h=>h.bg 3 [2,0,1] Z) hz))
  | (apply gB.s 113;focus (intro h;exact WL.store (cs:=[_]) (q8.h (s:=1)) (OV.p Z) (OV.p Z) Z Z Z (by clear h;repeat (first | exact bT.here (cs':=[_,_,_,_,_,_,_,_,_]) Z Z | apply bT.up)) h))
  | (apply gB.s 114;focus (intro h;exact WL.bI (oj:=_) Z Z Z GC.t (V.len (t:=0) wP.h (OV.g Z id)) Z h))
  | (apply gB.s 117;focus (intro hz;exact WQ.val (V.CX (OV.p rfl) (OV.p rfl) (λhc=>by clear hz;first | omega | (simp at hc;omega))) Z hz))
  | (apply gB.s 118;focus (intro hz;exact WL.bI (oj:=_) Z Z Z GC.t (V.lss (OV.g Z id) (OV.g Z id)) Z hz))
  | (apply gB.s 119;focus (intro hz;exact WL.bI (oj:=_) Z Z Z GC.f (V.nilCheck (OV.g Z id)) Z hz))
  | (apply gB.s 120;focus (intro hz;exact WL.val (V.max (OV.p Z) (OV.p Z)) Z hz))
  | (apply gB.s 121;focus (intro hz;exact WQ.bI (oj:=_) Z Z Z GC.t (V.move (OV.p Z)) Z hz))
  | (apply gB.w 66;focus (intro ix hz;exact WA.tI ix rfl (V.YM Jq.h (OV.p rfl) (OV.p rfl) (λhc=>by clear hz;first | omega | (simp at hc;omega))) hz))
  | (apply gB.w 67;focus (intro ix hz;exact WA.tI ix Z (V.eql (OV.p Z) (OV.p Z)) hz))
  | (apply gB.s 68;focus (intro h;exact WL.val (V.fE (vs:=[_,_,_]) (wO.h (s:=3)) (OV.p Z) Z (λ_=>by clear h;repeat (first | exact fH.ED ⟨Z,Z,Z,trivial⟩ | apply fH.up))) Z h))
  | (apply gB.s 70;focus (intro hz;exact WQ.val (V.fE (vs:=[_,_,_,_,_]) (wO.h (s:=5)) (OV.p Z) Z (λ_=>by clear hz;repeat (first | exact fH.ED ⟨Z,Z,Z,Z,Z,trivial⟩ | apply fH.up))) Z hz))
  | (apply gB.s 71;focus (intro hz;exact WL.bI (oj:=_) Z Z Z GC.t (V.nilCheck (OV.g Z id)) Z hz))
  | (apply gB.w 72;focus (intro ix hz;exact WA.tI ix rfl (V.CX (OV.p rfl) (OV.p rfl) (λhc=>by clear hz;first | omega | (simp at hc;omega))) hz))
  | (apply gB.s 73;focus (intro hz;exact WQ.val (V.Ci (OV.p Z) (OV.g Z id)) Z hz))
  | (apply gB.s 74;focus (intro hz;exact WL.sub (Sub.refl _) (λw h=>h.bg 6 [5,0,1,2,3,4] Z) hz))
  | (apply gB.s 77;focus (intro hz;exact WQ.val (V.DY (OV.p Z) (OV.g Z id)) Z hz))
  | (apply gB.s 78;focus (intro hz;exact WL.bI (oj:=_) Z Z Z GC.ct (V.move (OV.p Z)) Z hz))
  | (apply gB.s 80;focus (intro hz;exact WL.sub (Sub.refl _) (λw h=>h.bg 4 [3,0,1,2] Z) hz))
  | (apply gB.s 81;focus (intro hz;exact WL.val (V.index Jq.h (OV.p rfl) (OV.p rfl) (λhc=>by clear hz;first | omega | (simp at hc;omega)) (λ_=>yH (wO.h (s:=2)) (vs:=[_,_]) Z ⟨Z,Z,trivial⟩)) Z hz))
  | (apply gB.s 82;focus (intro hz;exact WL.He (s:=s) Z OE.h OE.h OE.h (OV.p Z) Z hz))
  | (apply gB.s 83;focus (intro hz;exact WQ.bI (oj:=_) Z Z Z GC.t (V.load xH.h (OV.g Z id) (λ_=>by clear hz;repeat (first | exact Rd.here Z | apply Rd.up))) Z hz))
  | (apply gB.w 85;focus (intro ix hz;exact WA.tI ix rfl (V.aeC (OV.p rfl) (OV.p rfl) (λhc=>by clear hz;first | omega | (simp at hc;omega))) hz))
  | (apply gB.s 86;focus (intro hz;exact WQ.val (V.MK (OV.p rfl) (OV.p rfl) (λhc=>by clear hz;first | omega | (simp at hc;omega))) Z hz))
  | (apply gB.s 87;focus (intro hz;exact WQ.val (V.len (t:=34) wP.h (OV.p Z)) Z hz))
  | (apply gB.s 88;focus (intro hz;exact WL.bI (oj:=_) Z Z Z GC.f (V.geq (OV.g Z id) (OV.g Z id)) Z hz))
  | (apply gB.s 89;focus (intro hz;exact WL.val (V.move (OV.p Z)) Z hz))
  | (apply gB.s 49;focus (intro hz;exact WL.bI (oj:=_) Z Z Z GC.f (V.move (OV.g Z id)) Z hz))
  | (apply gB.s 50;focus (intro hz;exact WL.bI (oj:=_) Z Z Z GC.f (V.Ci (OV.g Z id) (OV.g Z id)) Z hz))
  | (apply gB.s 53;focus (intro hz;exact WQ.bI (oj:=_) Z Z Z GC.f (V.fieldAddr iH.h (OV.p Z)) Z hz))
  | (apply gB.s 54;focus (intro hz;exact WL.val (V.aG (v':= .int .i64 (2)) (V.mul (OV.p Z) (OV.p Z)) (λ_=>Z)) Z hz))
  | (apply gB.s 55;focus (intro hz;exact WL.bI (oj:=_) Z Z Z GC.f (V.akw OE.h (OV.g Z id) (OV.p Z)) Z hz))
  | (apply gB.w 56;focus (intro ix hz;exact WA.tI ix Z (V.aG (v':= .int .i64 (0)) (V.mul (OV.p Z) (OV.p Z)) (λ_=>Z)) hz))
  | (apply gB.w 57;focus (intro ix hz;exact WA.tI ix Z (V.aG (v':= .int .i64 (2)) (V.mul (OV.p Z) (OV.p Z)) (λ_=>Z)) hz))
  | (apply gB.s 33;focus (intro hz;exact WL.bI (oj:=_) Z Z Z GC.t (V.fE (vs:=[_,_,_,_,_]) (wO.h (s:=5)) (OV.p Z) Z (λ_=>by clear hz;repeat (first | exact fH.ED ⟨Z,Z,Z,Z,Z,trivial⟩ | apply fH.up))) Z hz))
  | (apply gB.s 36;focus (intro h;exact WL.bI (oj:=_) Z Z Z GC.f (V.eql (OV.g Z id) (OV.p Z)) Z h))
  | (apply gB.s 37;focus (intro h;exact WL.box (cs:=[_,_,_]) (OV.p Z) Z Z h))
  | (apply gB.s 46;focus (intro hz;exact WL.bI (oj:=_) Z Z Z GC.t (V.leq (OV.g Z id) (OV.g Z id)) Z hz))
  | (apply gB.s 58;focus (intro hz;exact WL.bI (oj:=_) Z Z Z GC.t (V.Eo (OV.g Z id) (OV.p Z) (λhc=>by clear hz;first | omega | (simp at hc;omega))) Z hz))
  | (apply gB.w 59;focus (intro ix hz;exact WA.tI ix Z (V.shl (OV.p Z) (OV.p Z) (by clear hz;omega)) hz))
  | (apply gB.s 60;focus (intro hz;exact WL.bI (oj:=_) Z Z Z GC.t (V.move (OV.g Z id)) Z hz))
  | (apply gB.s 61;focus (intro hz;exact WL.bI (oj:=_) Z Z Z GC.t (V.DY (OV.g Z id) (OV.g Z id)) Z hz))
  | (apply gB.s 62;focus (intro hz;exact WL.val (V.anq OE.h (OV.p Z) (OV.p Z)) Z hz))
  | (apply gB.s 63;focus (intro hz;exact WL.bI (oj:=_) Z Z Z GC.f (V.MK (OV.p Z) (OV.g Z id) (λhc=>by clear hz;first | omega | (simp at hc;omega))) Z hz))
  | (apply gB.s 64;focus (intro hz;exact WL.val (V.abq OE.h (OV.p Z)) Z hz))
  | (apply gB.s 94;focus (intro hz;exact WQ.val (V.Eo (OV.p rfl) (OV.p rfl) (λhc=>by clear hz;first | omega | (simp at hc;omega))) Z hz))
  | (apply gB.s 95;focus (intro hz;exact WL.val (V.aoo (OV.p rfl) (λ_=>by clear hz;omega)) Z hz))
  | (apply gB.s 124;focus (intro hz;exact WL.val (V.aG (v':= .int .i64 (3)) (V.add (OV.p Z) (OV.p Z)) (λ_=>Z)) Z hz))
  | (apply gB.s 44;focus (intro hz;exact WL.bI (oj:=_) Z Z Z GC.f (V.load xH.h (OV.p Z) (λ_=>by clear hz;repeat (first | exact Rd.here Z | apply Rd.up))) Z hz))
  | (apply gB.s 96;focus (intro hz;exact WL.store (cs:=[_]) (q8.h (s:=1)) (OV.p Z) (OV.p Z) Z Z Z (by clear hz;repeat (first | exact bT.here (cs':=[_,_,_,_,_,_,_,_,_,_,_]) Z Z | apply bT.up)) hz))
  )
  | (apply fK.s 74;focus (intro h;exact WC.ret h))
  | (apply fK.s 77;focus (intro h;exact WL.xt Z Z Z h))
  | (apply fK.s 115;focus (intro hz;exact⟨Z,hz⟩))
  | apply fK.m2 121 98 99
  | apply fK.m4 36 126 77 126 77
  | (apply fK.s 73;focus (intro h;exact WC.ni Z (by clear h;first | rfl | (simp;done) | (simp;omega)) h))
  | (apply fK.s 114;focus (intro h;exact WA.fin h))
  | (apply fK.s 122;focus (intro h;exact WL.bI (oj:=_) Z Z Z GC.f (V.move (OV.p Z)) Z h))
  | (apply fK.s 98;focus (intro hz;exact WL.val (V.akw OE.h (OV.p Z) (OV.p Z)) Z hz))
  | (apply fK.w 99;focus (intro ix h;exact WA.tI ix Z (V.nilCheck (OV.p Z)) h))
  | (apply fK.s 100;focus (intro hz;exact WQ.nil hz))
  | (apply fK.w 101;focus (intro ix h;exact WA.tI ix rfl (V.FW RO.h (OV.p rfl) (OV.p rfl) (λhc=>by clear h;omega)) h))
  | (apply fK.s 103;focus (intro h;exact WL.val (V.geq (OV.p Z) (OV.p Z)) Z h))
  | (apply fK.s 104;focus (intro h;first | exact WC.aiY Z (And.left h) (And.right h) | exact WC.ae8 Z (And.left h) (And.right h)))
  | (apply fK.s 105;focus (intro hz;exact WC.V9 (by clear hz;kernel_rfl) (by clear hz;kernel_rfl) hz))
  | (apply fK.s 106;focus (intro h;exact WL.bI (oj:=_) Z Z Z GC.f (V.gtr (OV.g Z id) (OV.p Z)) Z h))
  | (apply fK.s 107;focus (intro h;exact WL.box (cs:=[_]) (OV.p Z) Z Z h))
  | (apply fK.s 109;focus (intro hz;exact WL.val (V.FC wP.h wP.h (OV.p Z)) Z hz))
  | (apply fK.s 110;focus (intro h;exact WQ.val (V.assign (OV.p Z)) Z h))
  | (apply fK.s 111;focus (intro h;exact WL.store (cs:=[_]) (q8.h (s:=1)) (OV.p Z) (OV.p Z) Z Z Z (by clear h;repeat (first | exact bT.here Z Z | apply bT.up)) h))
  | (apply fK.s 112;focus (intro h;exact WL.bI (oj:=_) Z Z Z GC.f (V.len (t:=0) wP.h (OV.g Z id)) Z h))
  | (apply fK.w 113;focus (intro ix h;exact WA.tI ix Z (V.extract (OV.p Z) Z) h))
  | (apply fK.s 116;focus (intro h;exact WQ.val (V.fieldAddr iH.h (OV.p Z)) Z h))
  | (apply fK.s 117;focus (intro h;exact WL.val (V.FW RO.h (OV.p rfl) (OV.p rfl) (λhc=>by clear h;first | omega | (simp at hc;omega))) Z h))
  | (apply fK.s 119;focus (intro hz;exact WL.val (V.aG (v':= .int .i64 (2)) (V.add (OV.p Z) (OV.p Z)) (λ_=>Z)) Z hz))
  | (apply fK.s 120;focus (intro h;exact WL.val (V.FW RO.h (OV.p rfl) (OV.p rfl) (λhc=>by clear h;omega)) Z h))
  | (apply fK.w 65;focus (intro ix h;exact WA.tI ix Z (V.assign (OV.p Z)) h))
  | (apply fK.s 68;focus (intro h;exact WL.val (V.Eo (OV.p rfl) (OV.p rfl) (λ_=>by clear h;omega)) Z h))
  | (apply fK.s 69;focus (intro h;exact WL.val (V.MK (OV.p rfl) (OV.p rfl) (λhc=>by clear h;first | omega | (simp at hc;omega))) Z h))
  | (apply fK.s 70;focus (intro h;exact WQ.val (V.load xH.h (OV.p rfl) (λ_=>by clear h;repeat (first | exact Rd.here Z | apply Rd.up))) Z h))
  | (apply fK.s 71;focus (intro h;exact WL.val (V.YM Jq.h (OV.p rfl) (OV.p rfl) (λhc=>by clear h;first | omega | (simp at hc;omega))) Z h))
  | (apply fK.s 72;focus (intro h;exact WL.val (V.gtr (OV.p Z) (OV.p Z)) Z h))
  | (apply fK.s 76;focus (intro h;exact WL.store (cs:=[_,_,_,_,_]) (q8.h (s:=5)) (OV.p Z) (OV.p Z) Z Z Z (by clear h;repeat (first | exact bT.here Z Z | apply bT.up)) h))
  | (apply fK.s 79;focus (intro hz;exact WL.known (oj:=_) Z Z Z Z hz))
  | (apply fK.s 80;focus (intro h;exact WL.val (V.fE (vs:=[_,_]) (wO.h (s:=2)) (OV.p Z) Z (λ_=>by clear h;repeat (first | exact fH.ED ⟨Z,Z,trivial⟩ | apply fH.up))) Z h))
  | (apply fK.s 81;focus (intro hz;exact WL.bI (oj:=_) Z Z Z GC.f (V.neq (OV.g Z id) (OV.g Z id)) Z hz))
  | (apply fK.s 82;focus (intro h;exact WL.bI (oj:=_) Z Z Z GC.t (V.leq (OV.g Z id) (OV.p Z)) Z h))
  | (apply fK.s 83;focus (intro h;exact WL.bI (oj:=_) Z Z Z GC.t (V.eql (OV.g Z id) (OV.p Z)) Z h))
  | (apply fK.s 84;focus (intro h;exact WL.val (V.aG (v':= .int .i64 (1)) (V.add (OV.p Z) (OV.p Z)) (λ_=>Z)) Z h))
  | (apply fK.s 85;focus (intro h;exact WL.bI (oj:=_) Z Z Z GC.t (V.geq (OV.g Z id) (OV.p Z)) Z h))
  | (apply fK.s 88;focus (intro hz;exact WC.MO (by clear hz;kernel_rfl) hz))
  | (apply fK.s 89;focus (intro hz;exact WL.sub (Sub.refl _) (λw h=>h.bg 4 [1,2,3,0] Z) hz))
  | (apply fK.s 90;focus (intro h;exact WL.store (cs:=[_]) (q8.h (s:=1)) (OV.p Z) (OV.p Z) Z Z Z (by clear h;repeat (first | exact bT.here (cs':=[_,_,_,_,_]) Z Z | apply bT.up)) h))
  | (apply fK.s 50;focus (intro hz;exact WL.val (V.makeFunc (us:=[]) (vs:=[_]) trivial ⟨OV.p Z,trivial⟩) Z hz))
  | (apply fK.s 51;focus (intro h;exact WL.box (cs:=[_,_]) (OV.p Z) Z Z h))
  | (apply fK.s 54;focus (intro hz;exact WL.val (V.shr (OV.p Z) (OV.p Z) (by clear hz;omega)) Z hz))
  | (apply fK.s 57;focus (intro hz;exact WL.sub (Sub.refl _) (λw h=>h.bg 2 [1,0] Z) hz))
  | (apply fK.s 33;focus (intro h;exact WL.bI (oj:=_) Z Z Z GC.f (V.fieldAddr iH.h (OV.g Z id)) Z h))
  | (apply fK.s 38;focus (intro hz;exact WC.ni Z ((by clear hz;simp;omega)) hz))
  | (apply fK.s 43;focus (intro h;exact WL.store (cs:=[_]) (q8.h (s:=1)) (OV.p Z) (OV.p Z) Z Z Z (by clear h;repeat (first | exact bT.here (cs':=[_]) Z Z | apply bT.up)) h))
  | (apply fK.s 46;focus (intro h;exact WL.store (cs:=[_,_]) (q8.h (s:=2)) (OV.p Z) (OV.p Z) Z Z Z (by clear h;repeat (first | exact bT.here (cs':=[_,_]) Z Z | apply bT.up)) h))
  | (apply fK.s 58;focus (intro h;exact WL.val (V.aeC (OV.p rfl) (OV.p rfl) (λhc=>by clear h;first | omega | (simp at hc;omega))) Z h))
  | (apply fK.s 62;focus (intro hz;exact WQ.val (V.nilCheck (OV.p Z)) Z hz))
  | (apply fK.s 63;focus (intro hz;exact WL.val (V.assign (OV.p Z)) Z hz))
  | (apply fK.s 64;focus (intro hz;exact WC.rounds 3 hz))
  | (apply fK.s 94;focus (intro h;exact WL.val (V.leq (OV.p Z) (OV.p Z)) Z h))
  | (apply fK.s 124;focus (intro h;exact WL.store (cs:=[_,_,_]) (q8.h (s:=3)) (OV.p Z) (OV.p Z) Z Z Z (by clear h;repeat (first | exact bT.here (cs':=[_,_,_]) Z Z | apply bT.up)) h))
  | (apply fK.s 44;focus (intro h;exact WL.bI (oj:=_) Z Z Z GC.f (V.lss (OV.g Z id) (OV.p Z)) Z h))
  | (apply fK.s 40;focus (intro hz;exact WL.bI (oj:=_) Z Z Z GC.f (V.not (OV.g Z id)) Z hz))
  | (apply fK.w 41;focus (intro ix hz;exact WA.tI ix Z (V.fE (vs:=[_,_,_,_,_]) (wO.h (s:=5)) (OV.p Z) Z (λ_=>by clear hz;repeat (first | exact fH.ED ⟨Z,Z,Z,Z,Z,trivial⟩ | apply fH.up))) hz))
  | (apply fK.s 91;focus (intro hz;exact WQ.val (V.gtr (OV.p Z) (OV.p Z)) Z hz))
  | (apply fK.s 93;focus (intro hz;exact WQ.val (V.uy wP.h wP.h (OV.p rfl) (λ_=>wrap_i64 (by clear hz;omega))) Z hz))
  )
  | (apply aM.s 99;focus (intro h;exact WL.nil h))
  | (apply aM.s 98;focus (intro h;exact WL.mv Z Z h))
  | (apply aM.s 97;focus (intro h;exact WC.sr h))
  | (apply aM.s 108;focus (intro h;exact WL.sg Z Z h))
  | apply aM.m2 111 108 99
  | (apply aM.s 76;focus (intro h;exact WC.seq h))
  | apply aM.m2 101 97 98
  | (apply aM.s 112;focus (intro h;exact WC.region h))
  | (apply aM.s 113;focus (intro h;exact WC.skip h))
  | apply aM.m3 100 111 126 74
  | (apply aM.s 115;focus (intro h;exact WC.block h))
  | apply aM.m2 114 76 101
  | (apply aM.s 88;focus (intro h;exact WL.val (V.fieldAddr iH.h (OV.p Z)) Z h))
  | (apply aM.s 74;focus (intro h;exact WC.cond Z (And.left h) (And.right h)))
  | apply aM.m2 103 112 98
  | apply aM.m2 105 111 101
  | apply aM.m2 102 111 114
  | apply aM.m2 104 99 74
  | (apply aM.s 60;focus (intro h;exact WL.ld xH.h Z Z h))
  | apply aM.m2 124 113 76
  | (apply aM.s 106;focus (intro h;exact WL.val (V.len (t:=0) wP.h (OV.p Z)) Z h))
  | apply aM.m2 71 99 76
  | apply aM.m2 69 124 115
  | apply aM.m2 107 88 60
  | apply aM.m3 53 98 126 36
  | (apply aM.s 75;focus (intro h;exact WC.exit h))
  | (apply aM.w 109;focus (intro ix h;exact WA.oI ix Z h))
  | (apply aM.w 110;focus (intro ix h;exact WA.tI ix Z (V.move (OV.p Z)) h))
  | (apply aM.s 80;focus (intro h;exact WL.val (V.lss (OV.p Z) (OV.p Z)) Z h))
  | (apply aM.s 90;focus (intro h;exact WL.ad Z Z Z h))
  | apply aM.m2 116 111 76
  | (apply aM.s 117;focus (intro h;exact WL.val (V.neq (OV.p Z) (OV.p Z)) Z h))
  | (apply aM.s 118;focus (intro hz;exact WL.agq hz))
  | apply aM.m2 119 111 97
  | (apply aM.s 91;focus (intro h;exact WL.nc Z Z h))
  | apply aM.m2 120 98 98
  | apply aM.m4 62 126 121 126 115
  | (apply aM.s 121;focus (intro h;exact WL.val (V.fE (vs:=[_,_,_,_,_]) (wO.h (s:=5)) (OV.p Z) Z (λ_=>by clear h;repeat (first | exact fH.ED ⟨Z,Z,Z,Z,Z,trivial⟩ | apply fH.up))) Z h))
  | (apply aM.s 67;focus (intro h;exact WL.store (cs:=[_,_,_,_,_]) (q8.h (s:=5)) (OV.p Z) (OV.p Z) Z Z Z (by clear h;repeat (first | exact bT.here (cs':=[_,_,_,_,_]) Z Z | apply bT.up)) h))
  | apply aM.m2 68 97 100
  | apply aM.m2 70 108 100
  | apply aM.m2 72 53 108
  | (apply aM.s 73;focus (intro h;exact WL.val (V.DY (OV.p Z) (OV.g Z id)) Z h))
  | apply aM.m3 78 111 126 115
  | apply aM.m2 79 111 103
  | apply aM.m2 81 99 97
  | apply aM.m3 82 126 121 115
  | (apply aM.s 83;focus (intro h;exact WL.val (V.Ci (OV.p Z) (OV.g Z id)) Z h))
  | apply aM.m2 84 113 101
  | apply aM.m2 85 91 88
  | apply aM.m5 86 126 126 126 72 71
  | apply aM.m2 87 75 76
  | apply aM.m2 89 69 101
  | apply aM.m2 48 105 98
  | (apply aM.s 49;focus (intro h;exact WC.ae8 Z (And.left h) (And.right h)))
  | apply aM.m3 50 99 126 73
  | (apply aM.s 51;focus (intro h;exact WC.MI Z (by clear h;first | rfl | (simp;done) | (simp;omega)) h))
  | (apply aM.w 52;focus (intro ix h;exact WA.tI ix Z (V.fieldAddr iH.h (OV.p Z)) h))
  | apply aM.m3 54 99 126 74
  | apply aM.m2 55 113 97
  | apply aM.m5 56 126 126 126 73 62
  | (apply aM.s 57;focus (intro h;exact WL.val (V.not (OV.p Z)) Z h))
  | (apply aM.s 33;focus (intro h;exact WL.bI (oj:=_) Z Z Z GC.t (V.move (OV.p Z)) Z h))
  | (apply aM.s 36;focus (intro h;exact WQ.val (V.move (OV.p Z)) Z h))
  | apply aM.m3 37 98 126 122
  | (apply aM.s 38;focus (intro h;exact WL.box (cs:=[_,_,_,_,_]) (OV.p Z) Z Z h))
  | apply aM.m3 42 99 126 114
  | (apply aM.s 43;focus (intro h;exact aF.qe))
  | (apply aM.s 46;focus (intro h;exact WL.an1 (OV.p Z) Z h))
  | (apply aM.s 58;focus (intro h;exact aF.qv h))
  | (apply aM.s 59;focus (intro h;exact WL.val (V.eql (OV.p Z) (OV.p Z)) Z h))
  | (apply aM.s 63;focus (intro hz;exact WL.sub (Sub.refl _) (λw h=>h.p1) hz))
  | (apply aM.s 64;focus (intro h;exact WL.bI (oj:=_) Z Z Z GC.f (V.load xH.h (OV.g Z id) (λ_=>by clear h;repeat (first | exact Rd.here Z | apply Rd.up))) Z h))
  | (apply aM.s 94;focus (intro hz;exact WL.val (V.build (vs:=[]) trivial Z BdT.h) Z hz))
  | (apply aM.s 95;focus (intro h;exact WL.bI (oj:=_) Z Z Z GC.f (V.fieldAddr iH.h (OV.p Z)) Z h))
  | (apply aM.s 44;focus (intro h;exact WL.bI (oj:=_) Z Z Z GC.t (V.fieldAddr iH.h (OV.p Z)) Z h))
  | (apply aM.s 96;focus (intro h;exact WL.bI (oj:=_) Z Z Z GC.t (V.load xH.h (OV.g Z id) (λ_=>by clear h;repeat (first | exact Rd.here Z | apply Rd.up))) Z h))
  | (apply aM.s 41;focus (intro h;exact WL.sb Z Z Z h))
  | (apply aM.w 93;focus (intro ix h;exact WA.tI ix rfl (V.load xH.h (OV.p rfl) (λ_=>by clear h;repeat (first | exact Rd.here Z | apply Rd.up))) h))
  )
 exact aM.z):X:=t.f h
end Go.Sl
namespace Go.Proofs.YtcedojacbhnbiaaGreat
open Go.Sl Go.RowKit Tryz List Nat
instance:wO prog 157 3:=⟨⟨isAgg157,sizeOf157⟩⟩
instance:wO prog 219 64:=⟨⟨isAgg219,sizeOf219⟩⟩
instance:wO prog 23 5:=⟨⟨isAgg23,sizeOf23⟩⟩
instance:wO prog 237 5:=⟨⟨isAgg237,sizeOf237⟩⟩
instance:wO prog 256 64:=⟨⟨isAgg256,sizeOf256⟩⟩
instance:wO prog 283 128:=⟨⟨isAgg283,sizeOf283⟩⟩
instance:wO prog 296 3:=⟨⟨isAgg296,sizeOf296⟩⟩
instance:wO prog 307 80:=⟨⟨isAgg307,sizeOf307⟩⟩
instance:wO prog 309 8:=⟨⟨isAgg309,sizeOf309⟩⟩
instance:wO prog 318 4:=⟨⟨isAgg318,sizeOf318⟩⟩
instance:wO prog 348 64:=⟨⟨isAgg348,sizeOf348⟩⟩
instance:wO prog 349 8:=⟨⟨isAgg349,sizeOf349⟩⟩
instance:wO prog 37 5:=⟨⟨isAgg37,sizeOf37⟩⟩
instance:wO prog 42 5:=⟨⟨isAgg42,sizeOf42⟩⟩
instance:wO prog 55 2:=⟨⟨isAgg55,sizeOf55⟩⟩
instance:wO prog 56 4:=⟨⟨isAgg56,sizeOf56⟩⟩
instance:wO prog 58 5:=⟨⟨isAgg58,sizeOf58⟩⟩
instance:wO prog 81 2:=⟨⟨isAgg81,sizeOf81⟩⟩
instance:wO prog 97 32:=⟨⟨isAgg97,sizeOf97⟩⟩
instance:iH prog 105 0 0:=⟨λ_ _=>by kernel_rfl⟩
instance:iH prog 105 1 1:=⟨λ_ _=>by kernel_rfl⟩
instance:iH prog 127 0 0:=⟨λ_ _=>by kernel_rfl⟩
instance:iH prog 127 1 1:=⟨λ_ _=>by kernel_rfl⟩
instance:iH prog 127 2 6:=⟨λ_ _=>by kernel_rfl⟩
instance:iH prog 127 3 7:=⟨λ_ _=>by kernel_rfl⟩
instance:iH prog 127 4 8:=⟨λ_ _=>by kernel_rfl⟩
instance:iH prog 127 5 9:=⟨λ_ _=>by kernel_rfl⟩
instance:iH prog 127 6 10:=⟨λ_ _=>by kernel_rfl⟩
instance:iH prog 140 0 0:=⟨λ_ _=>by kernel_rfl⟩
instance:iH prog 140 1 1:=⟨λ_ _=>by kernel_rfl⟩
instance:iH prog 140 2 2:=⟨Mj⟩
instance:iH prog 157 0 0:=⟨λ_ _=>by kernel_rfl⟩
instance:iH prog 157 1 1:=⟨λ_ _=>by kernel_rfl⟩
instance:iH prog 157 2 2:=⟨λ_ _=>by kernel_rfl⟩
instance:iH prog 165 0 0:=⟨λ_ _=>by kernel_rfl⟩
instance:iH prog 165 1 5:=⟨λ_ _=>by kernel_rfl⟩
instance:iH prog 165 10 14:=⟨λ_ _=>by kernel_rfl⟩
instance:iH prog 165 2 6:=⟨λ_ _=>by kernel_rfl⟩
instance:iH prog 165 3 7:=⟨λ_ _=>by kernel_rfl⟩
instance:iH prog 165 4 8:=⟨λ_ _=>by kernel_rfl⟩
instance:iH prog 165 5 9:=⟨λ_ _=>by kernel_rfl⟩
instance:iH prog 165 6 10:=⟨λ_ _=>by kernel_rfl⟩
instance:iH prog 165 7 11:=⟨λ_ _=>by kernel_rfl⟩
instance:iH prog 165 8 12:=⟨λ_ _=>by kernel_rfl⟩
instance:iH prog 165 9 13:=⟨λ_ _=>by kernel_rfl⟩
instance:iH prog 169 0 0:=⟨λ_ _=>by kernel_rfl⟩
instance:iH prog 169 1 1:=⟨λ_ _=>by kernel_rfl⟩
instance:iH prog 190 0 0:=⟨λ_ _=>by kernel_rfl⟩
instance:iH prog 190 1 1:=⟨λ_ _=>by kernel_rfl⟩
instance:iH prog 212 0 0:=⟨λ_ _=>by kernel_rfl⟩
instance:iH prog 219 0 0:=⟨λ_ _=>by kernel_rfl⟩
instance:iH prog 219 1 32:=⟨λ_ _=>by kernel_rfl⟩
instance:iH prog 23 0 0:=⟨λ_ _=>by kernel_rfl⟩
instance:iH prog 23 1 1:=⟨λ_ _=>by kernel_rfl⟩
instance:iH prog 23 2 2:=⟨λ_ _=>by kernel_rfl⟩
instance:iH prog 23 3 3:=⟨λ_ _=>by kernel_rfl⟩
instance:iH prog 23 4 4:=⟨λ_ _=>by kernel_rfl⟩
instance:iH prog 237 0 0:=⟨Vv⟩
instance:iH prog 237 1 1:=⟨λ_ _=>by kernel_rfl⟩
instance:iH prog 237 2 4:=⟨λ_ _=>by kernel_rfl⟩
instance:iH prog 283 0 0:=⟨λ_ _=>by kernel_rfl⟩
instance:iH prog 283 1 32:=⟨λ_ _=>by kernel_rfl⟩
instance:iH prog 283 2 64:=⟨λ_ _=>by kernel_rfl⟩
instance:iH prog 283 3 96:=⟨λ_ _=>by kernel_rfl⟩
instance:iH prog 296 0 0:=⟨λ_ _=>by kernel_rfl⟩
instance:iH prog 296 1 1:=⟨λ_ _=>by kernel_rfl⟩
instance:iH prog 296 2 2:=⟨λ_ _=>by kernel_rfl⟩
instance:iH prog 341 1 0:=⟨λ_ _=>by kernel_rfl⟩
instance:iH prog 343 0 0:=⟨λ_ _=>by kernel_rfl⟩
instance:iH prog 345 1 0:=⟨λ_ _=>by kernel_rfl⟩
instance:iH prog 347 1 0:=⟨λ_ _=>by kernel_rfl⟩
instance:iH prog 347 2 1:=⟨λ_ _=>by kernel_rfl⟩
instance:iH prog 352 2 0:=⟨λ_ _=>by kernel_rfl⟩
instance:iH prog 354 0 0:=⟨λ_ _=>by kernel_rfl⟩
instance:iH prog 354 1 3:=⟨λ_ _=>by kernel_rfl⟩
instance:iH prog 354 2 67:=⟨λ_ _=>by kernel_rfl⟩
instance:iH prog 354 3 75:=⟨λ_ _=>by kernel_rfl⟩
instance:iH prog 354 4 76:=⟨λ_ _=>by kernel_rfl⟩
instance:iH prog 37 0 0:=⟨ach⟩
instance:iH prog 37 1 1:=⟨λ_ _=>by kernel_rfl⟩
instance:iH prog 37 2 2:=⟨ahu⟩
instance:iH prog 37 3 3:=⟨λ_ _=>by kernel_rfl⟩
instance:iH prog 37 4 4:=⟨λ_ _=>by kernel_rfl⟩
instance:iH prog 370 0 0:=⟨λ_ _=>by kernel_rfl⟩
instance:iH prog 370 1 1:=⟨λ_ _=>by kernel_rfl⟩
instance:iH prog 370 2 2:=⟨λ_ _=>by kernel_rfl⟩
instance:iH prog 42 0 0:=⟨λ_ _=>by kernel_rfl⟩
instance:iH prog 42 1 1:=⟨λ_ _=>by kernel_rfl⟩
instance:iH prog 42 2 2:=⟨λ_ _=>by kernel_rfl⟩
instance:iH prog 42 3 3:=⟨λ_ _=>by kernel_rfl⟩
instance:iH prog 42 4 4:=⟨λ_ _=>by kernel_rfl⟩
instance:iH prog 55 0 0:=⟨λ_ _=>by kernel_rfl⟩
instance:iH prog 55 1 1:=⟨λ_ _=>by kernel_rfl⟩
instance:iH prog 58 0 0:=⟨λ_ _=>by kernel_rfl⟩
instance:iH prog 58 1 1:=⟨λ_ _=>by kernel_rfl⟩
instance:iH prog 81 0 0:=⟨λ_ _=>by kernel_rfl⟩
instance:iH prog 81 1 1:=⟨λ_ _=>by kernel_rfl⟩
instance:iH prog 99 0 0:=⟨λ_ _=>by kernel_rfl⟩
instance:iH prog 99 1 1:=⟨abW⟩
instance:iH prog 99 2 33:=⟨Uq⟩
instance:OE prog 124 (.slice 3):=⟨underlying124⟩
instance:OE prog 27 (.pointer (prog.pointee 27)):=⟨underlying27⟩
instance:OE prog 28 (.pointer (prog.pointee 28)):=⟨underlying28⟩
instance:OE prog 301 (.pointer (prog.pointee 301)):=⟨underlying301⟩
instance:OE prog 34 (.slice 5):=⟨underlying34⟩
instance:OE prog 40 (.slice 140):=⟨underlying40⟩
instance:OE prog 5 (.int .u8):=⟨underlying5⟩
instance:OE prog 70 (.pointer (prog.pointee 70)):=⟨underlying70⟩
instance:OE prog 9 (.string):=⟨underlying9⟩
instance:xH prog 124:=⟨isAgg124⟩
instance:xH prog 125:=⟨isAgg125⟩
instance:xH prog 161:=⟨isAgg161⟩
instance:xH prog 162:=⟨isAgg162⟩
instance:xH prog 163:=⟨isAgg163⟩
instance:xH prog 183:=⟨isAgg183⟩
instance:xH prog 214:=⟨isAgg214⟩
instance:xH prog 25:=⟨isAgg25⟩
instance:xH prog 27:=⟨isAgg27⟩
instance:xH prog 28:=⟨isAgg28⟩
instance:xH prog 3:=⟨isAgg3⟩
instance:xH prog 301:=⟨isAgg301⟩
instance:xH prog 306:=⟨isAgg306⟩
instance:xH prog 32:=⟨isAgg32⟩
instance:xH prog 339:=⟨isAgg339⟩
instance:xH prog 34:=⟨isAgg34⟩
instance:xH prog 35:=⟨isAgg35⟩
instance:xH prog 4:=⟨isAgg4⟩
instance:xH prog 40:=⟨isAgg40⟩
instance:xH prog 47:=⟨isAgg47⟩
instance:xH prog 79:=⟨isAgg79⟩
instance:q8 prog 105 2:=⟨sizeOf105⟩
instance:q8 prog 124 1:=⟨sizeOf124⟩
instance:q8 prog 125 1:=⟨sizeOf125⟩
instance:q8 prog 140 34:=⟨sizeOf140⟩
instance:q8 prog 157 3:=⟨sizeOf157⟩
instance:q8 prog 183 1:=⟨sizeOf183⟩
instance:q8 prog 190 2:=⟨sizeOf190⟩
instance:q8 prog 219 64:=⟨sizeOf219⟩
instance:q8 prog 23 5:=⟨sizeOf23⟩
instance:q8 prog 237 5:=⟨sizeOf237⟩
instance:q8 prog 256 64:=⟨sizeOf256⟩
instance:q8 prog 283 128:=⟨sizeOf283⟩
instance:q8 prog 296 3:=⟨sizeOf296⟩
instance:q8 prog 3 1:=⟨sizeOf3⟩
instance:q8 prog 306 1:=⟨sizeOf306⟩
instance:q8 prog 307 80:=⟨sizeOf307⟩
instance:q8 prog 309 8:=⟨sizeOf309⟩
instance:q8 prog 318 4:=⟨sizeOf318⟩
instance:q8 prog 32 1:=⟨sizeOf32⟩
instance:q8 prog 339 1:=⟨sizeOf339⟩
instance:q8 prog 34 1:=⟨sizeOf34⟩
instance:q8 prog 348 64:=⟨sizeOf348⟩
instance:q8 prog 349 8:=⟨sizeOf349⟩
instance:q8 prog 35 1:=⟨sizeOf35⟩
instance:q8 prog 37 5:=⟨sizeOf37⟩
instance:q8 prog 4 1:=⟨sizeOf4⟩
instance:q8 prog 40 1:=⟨sizeOf40⟩
instance:q8 prog 42 5:=⟨sizeOf42⟩
instance:q8 prog 5 1:=⟨sizeOf5⟩
instance:q8 prog 55 2:=⟨sizeOf55⟩
instance:q8 prog 58 5:=⟨sizeOf58⟩
instance:q8 prog 81 2:=⟨sizeOf81⟩
instance:q8 prog 97 32:=⟨sizeOf97⟩
instance:wP prog 101 (.slice 105):=⟨runUnderlying101⟩
instance:wP prog 124 (.slice 3):=⟨runUnderlying124⟩
instance:wP prog 125 (.slice 124):=⟨runUnderlying125⟩
instance:wP prog 170 (.slice 237):=⟨runUnderlying170⟩
instance:wP prog 183 (.slice 190):=⟨runUnderlying183⟩
instance:wP prog 206 (.slice 132):=⟨runUnderlying206⟩
instance:wP prog 215 (.slice 214):=⟨runUnderlying215⟩
instance:wP prog 238 (.slice 170):=⟨runUnderlying238⟩
instance:wP prog 24 (.slice 99):=⟨runUnderlying24⟩
instance:wP prog 25 (.slice 9):=⟨runUnderlying25⟩
instance:wP prog 265 (.slice 296):=⟨runUnderlying265⟩
instance:wP prog 3 (.int .i64):=⟨runUnderlying3⟩
instance:wP prog 306 (.int .u64):=⟨runUnderlying306⟩
instance:wP prog 329 (.slice 306):=⟨runUnderlying329⟩
instance:wP prog 330 (.slice 306):=⟨runUnderlying330⟩
instance:wP prog 333 (.slice 219):=⟨runUnderlying333⟩
instance:wP prog 339 (.int .u32):=⟨runUnderlying339⟩
instance:wP prog 34 (.slice 5):=⟨runUnderlying34⟩
instance:wP prog 35 (.slice 118):=⟨runUnderlying35⟩
instance:wP prog 40 (.slice 140):=⟨runUnderlying40⟩
instance:wP prog 47 (.slice 34):=⟨runUnderlying47⟩
instance:wP prog 5 (.int .u8):=⟨runUnderlying5⟩
instance:wP prog 77 (.slice 84):=⟨runUnderlying77⟩
instance:wP prog 79 (.slice 4):=⟨runUnderlying79⟩
instance:JW prog 105 [(.slice none 0 0),(.slice none 0 0)]:=⟨⟨_,zeroValue105,Z⟩⟩
instance:JW prog 124 [(.slice none 0 0)]:=⟨⟨_,zeroValue124,Z⟩⟩
instance:JW prog 140 [(.i 0),(.i 0),ζ,ζ,ζ,ζ,ζ,ζ,ζ,ζ,ζ,ζ,ζ,ζ,ζ,ζ,ζ,ζ,ζ,ζ,ζ,ζ,ζ,ζ,ζ,ζ,ζ,ζ,ζ,ζ,ζ,ζ,ζ,ζ]:=⟨⟨_,zeroValue140,Z⟩⟩
instance:JW prog 157 [(.i 0),(.i 0),(.i 0)]:=⟨⟨_,zeroValue157,Z⟩⟩
instance:JW prog 183 [(.slice none 0 0)]:=⟨⟨_,zeroValue183,Z⟩⟩
instance:JW prog 190 [(.i 0),(.slice none 0 0)]:=⟨⟨_,zeroValue190,Z⟩⟩
instance:JW prog 23 [(.i 0),(.i 0),(.i 0),(.i 0),(.i 0)]:=⟨⟨_,zeroValue23,Z⟩⟩
instance:JW prog 237 [(.i 0),(.i 0),(.i 0),(.i 0),(.bool false)]:=⟨⟨_,zeroValue237,Z⟩⟩
instance:JW prog 269 []:=⟨⟨_,zeroValue269,Z⟩⟩
instance:JW prog 296 [(.slice none 0 0),(.i 0),(.i 0)]:=⟨⟨_,zeroValue296,Z⟩⟩
instance:JW prog 3 [(.i 0)]:=⟨⟨_,zeroValue3,Z⟩⟩
instance:JW prog 32 [(.i 0)]:=⟨⟨_,zeroValue32,Z⟩⟩
instance:JW prog 34 [(.slice none 0 0)]:=⟨⟨_,zeroValue34,Z⟩⟩
instance:JW prog 37 [(.i 0),(.i 0),(.i 0),(.slice none 0 0),(.i 0)]:=⟨⟨_,zeroValue37,Z⟩⟩
instance:JW prog 4 [(.bool false)]:=⟨⟨_,zeroValue4,Z⟩⟩
instance:JW prog 42 [(.i 0),(.i 0),(.i 0),(.i 0),(.slice none 0 0)]:=⟨⟨_,zeroValue42,Z⟩⟩
instance:JW prog 55 [(.i 0),(.bool false)]:=⟨⟨_,zeroValue55,Z⟩⟩
instance:JW prog 58 [(.i 0),(.i 0),(.bool false),(.i 0),(.bool false)]:=⟨⟨_,zeroValue58,Z⟩⟩
instance:JW prog 81 [(.slice none 0 0),(.slice none 0 0)]:=⟨⟨_,zeroValue81,Z⟩⟩
instance:JW prog 97 [ζ,ζ,ζ,ζ,ζ,ζ,ζ,ζ,ζ,ζ,ζ,ζ,ζ,ζ,ζ,ζ,ζ,ζ,ζ,ζ,ζ,ζ,ζ,ζ,ζ,ζ,ζ,ζ,ζ,ζ,ζ,ζ]:=⟨⟨_,zeroValue97,Z⟩⟩
instance:JW prog 99 [(.i 0),ζ,ζ,ζ,ζ,ζ,ζ,ζ,ζ,ζ,ζ,ζ,ζ,ζ,ζ,ζ,ζ,ζ,ζ,ζ,ζ,ζ,ζ,ζ,ζ,ζ,ζ,ζ,ζ,ζ,ζ,ζ,ζ,(.bool false)]:=⟨⟨_,zeroValue99,Z⟩⟩
instance:Jq prog 122 2 3 1:=⟨⟨runUnderlying122,sizeOf3⟩⟩
instance:Jq prog 256 64 5 1:=⟨afb⟩
instance:Jq prog 307 80 306 1:=⟨⟨runUnderlying307,sizeOf306⟩⟩
instance:Jq prog 309 8 306 1:=⟨Di⟩
instance:Jq prog 318 4 306 1:=⟨nK⟩
instance:Jq prog 348 64 339 1:=⟨afq⟩
instance:Jq prog 349 8 339 1:=⟨EL⟩
instance:Jq prog 56 2 55 2:=⟨⟨runUnderlying56,sizeOf55⟩⟩
instance:Jq prog 97 32 5 1:=⟨zJ⟩
instance:BdT prog 140 (.agg #[(.i 0),(.i 0),ζ,ζ,ζ,ζ,ζ,ζ,ζ,ζ,ζ,ζ,ζ,ζ,ζ,ζ,ζ,ζ,ζ,ζ,ζ,ζ,ζ,ζ,ζ,ζ,ζ,ζ,ζ,ζ,ζ,ζ,ζ,ζ]):=⟨λw=>by kernel_rfl⟩
instance:BdT prog 157 (.agg #[(.i 0),(.i 0),(.i 0)]):=⟨λw=>by kernel_rfl⟩
instance:BdT prog 23 (.agg #[(.i 0),(.i 0),(.i 0),(.i 0),(.i 0)]):=⟨λw=>by kernel_rfl⟩
instance:BdT prog 269 (.agg #[]):=⟨λw=>by kernel_rfl⟩
instance:BdT prog 354 (.agg #[(.int .u32 0),(.int .i32 0),η,η,η,η,η,η,η,η,η,η,η,η,η,η,η,η,η,η,η,η,η,η,η,η,η,η,η,η,η,η,η,η,η,η,η,η,η,η,η,η,η,η,η,η,η,η,η,η,η,η,η,η,η,η,η,η,η,η,η,η,η,η,η,η,η,η,η,η,η,η,η,η,η,(.slice none 0 0),(.i 0)]):=⟨λw=>by kernel_rfl⟩
instance:BdT prog 37 (.agg #[(.i 0),(.i 0),(.i 0),(.slice none 0 0),(.i 0)]):=⟨λw=>by kernel_rfl⟩
instance:BdT prog 42 (.agg #[(.i 0),(.i 0),(.i 0),(.i 0),(.slice none 0 0)]):=⟨λw=>by kernel_rfl⟩
instance:BdT prog 58 (.agg #[(.i 0),(.i 0),(.bool false),(.i 0),(.bool false)]):=⟨λw=>by kernel_rfl⟩
instance:ElT prog 3 1 8 (.i 0):=⟨Me⟩
instance:ElT prog 5 1 1 (.int .u8 0):=⟨yL⟩
instance:RO prog 124 3 1:=⟨eB⟩
instance:RO prog 125 124 1:=⟨⟨runUnderlying125,sizeOf124⟩⟩
instance:RO prog 170 237 5:=⟨zX⟩
instance:RO prog 215 214 1:=⟨⟨runUnderlying215,sizeOf214⟩⟩
instance:RO prog 238 170 1:=⟨⟨runUnderlying238,sizeOf170⟩⟩
instance:RO prog 25 9 1:=⟨abj⟩
instance:RO prog 265 296 3:=⟨⟨runUnderlying265,sizeOf296⟩⟩
instance:RO prog 329 306 1:=⟨z8⟩
instance:RO prog 330 306 1:=⟨Ls⟩
instance:RO prog 34 5 1:=⟨dO⟩
instance:RO prog 40 140 34:=⟨akq⟩
instance:RO prog 79 4 1:=⟨aeh⟩
theorem iG(n a:Nat):BitVec.ofInt n (a:Int)=BitVec.ofNat n a:=by grind
theorem je(ha:a<2^k)(hb:b<2^k):a ^^^ b<2^k:=xor_lt_two_pow ha hb
theorem nC{a b:Nat}(ha:a<4611686018427387904)(hb:b<4611686018427387904):bitsOf .xor .i64 (a:Int) (b:Int)=((a ^^^ b:Nat):Int):=by
 have h:=je (k:=62) ha hb;unfold bitsOf;dsimp only;rw[iG,iG,BitVec.toNat_xor,BitVec.toNat_ofNat,BitVec.toNat_ofNat];have j:a%2^IntKind.i64.bits=a:=mod_eq_of_lt (by show a<2^64;omega);have d:b%2^IntKind.i64.bits=b:=mod_eq_of_lt (by show b<2^64;omega);rw[j,d];exact wrap_i64 ay
theorem Wq{a:Nat}(ha:a<4611686018427387904):bitsOf .and .i64 (a:Int) 1=((a%2:Nat):Int):=by
 unfold bitsOf;dsimp only;rw[show (1:Int)=((1:Nat):Int) from Z,iG,iG,BitVec.toNat_and,BitVec.toNat_ofNat,BitVec.toNat_ofNat];have d:a%2^IntKind.i64.bits=a:=mod_eq_of_lt (by show a<2^64;omega);have b:1%2^IntKind.i64.bits=1:=rfl;rw[d,b,and_one_is_mod];exact wrap_i64 ay
theorem VX{a:Nat}(ha:a<4611686018427387904):IntKind.i64.wrap ((a:Int)*2^(min (1:Int).toNat IntKind.i64.bits))=((2*a:Nat):Int):=by
 rw[show min (1:Int).toNat IntKind.i64.bits=1 from Z,wrap_i64 ay];omega
theorem yT{a:Nat}:(a:Int).fdiv (2^(min (1:Int).toNat IntKind.i64.bits))=((a/2:Nat):Int):=by
 rw[show min (1:Int).toNat IntKind.i64.bits=1 from Z,Int.fdiv_eq_ediv_of_nonneg _ aN];omega
def red(a:Nat):Nat:=if 8192≤a then a ^^^ 8219 else a
def uq:Nat→Nat→Nat→Nat→Nat
 | 0,out,_,_=>out
 | k+1,out,a,b=>if b=0 then out else uq k (if b%2=1 then out ^^^ a else out) (red (2*a)) (b/2)
def kK(a b:Nat):Nat:=uq 13 0 a b
def Hr:Nat→Nat→Nat→Nat→Nat
 | 0,out,_,_=>out
 | k+1,out,a,n=>if n=0 then out else Hr k (if n%2=1 then kK out a else out) (kK a a) (n/2)
def Xj(a n:Nat):Nat:=Hr 13 1 a n
def gG(i:Int):Nat:=Xj 2 (i%8191).toNat
def ahm(a:Nat):Nat:=Xj a 8190
theorem vH(h:a<8192):red (2*a)<8192:=by
 unfold red;split
 ·rename_i m;obtain⟨c,l⟩:∃c,2*a=8192+c:=⟨2*a-8192,by omega⟩;have bA:c<8192:=ay;have j:2*a=8192 ^^^ c:=by
   rw[l];have :=two_pow_add_eq_or_of_lt (i:=13) (b:=c) bA 1;have e:(8192:Nat) ||| c=8192 ^^^ c:=by
    apply eq_of_testBit_eq;intro i;rw[testBit_or,testBit_xor,show (8192:Nat)=2^13 from Z,testBit_two_pow];by_cases d:13=i
    ·subst d;rw[testBit_lt_two_pow bA];simp
    ·simp[d]
   rw[←e]
   simpa using this
  rw[j,Nat.xor_comm 8192 c,Nat.xor_assoc,show (8192:Nat) ^^^ 8219=27 from Z];exact je (k:=13) bA aN
 ·omega
theorem Rx:∀(k out a b:Nat),out<8192→a<8192→uq k out a b<8192
 | 0,_,_,_,h,_=>h
 | k+1,out,a,b,h,h'=>by
  rw[uq];split
  ·exact h
  ·refine Rx k _ _ _ ?_ (vH h');split
   ·exact je (k:=13) h h'
   ·exact h
theorem fD(ha:a<8192):kK a b<8192:=Rx _ _ _ _ aN ha
theorem Qj:∀(k out a n:Nat),out<8192→a<8192→Hr k out a n<8192
 | 0,_,_,_,h,_=>h
 | k+1,out,a,n,h,h'=>by
  rw[Hr];split
  ·exact h
  ·refine Qj k _ _ _ ?_ (fD h');split
   ·exact fD h
   ·exact h
theorem U5(ha:a<8192):Xj a n<8192:=Qj _ _ _ _ aN ha
theorem GA(i:Int):gG i<8192:=U5 aN
theorem NM{a b:Nat}(ha:a<8192)(hb:b<8192):aK prog 339 #[.i (a:Int),.i (b:Int)] K F (.i (kK a b:Nat)):=by
 refine aB.en func339 ntmps339 ?_;refine aj "awts" ?_;refine WC.loop (σ:=Nat×Nat×Nat×Nat) (λx=>[(5,.i (x.2.1:Int)),(0,.i (x.2.2.1:Int)),(1,.i (x.2.2.2:Int))]) (λ_=>F) (λx=>x.2.1<8192∧x.2.2.1<8192∧x.2.2.2<2^x.1∧x.1≤13∧uq x.1 x.2.1 x.2.2.1 x.2.2.2=kK a b) (λx=>x.1) (13,0,a,b) ⟨by show 0<8192;decide,ha,hb,Nat.le_refl _,Z⟩ bC cO ?_;rintro⟨k,o,x,y⟩ ⟨h1,h2,h3,UR,h4⟩;dsimp only at h1 h2 h3 UR h4 ⊢;have l:(2:Nat)^k≤2^13:=Nat.pow_le_pow_right aN UR;have m:y<8192:=ay;refine aj "ruc~h" (aW (λaL=> ?_) λaL=> ?_)
 ·have Y0:y≠0:=ay;obtain⟨d,rfl⟩:∃d,k=d+1:=⟨k-1,by rcases eq_zero_or_pos k with h | h;subst h;simp at h3;omega;omega⟩;rw[uq,if_neg Y0] at h4;have Zz:y/2<2^d:=by rw[Nat.pow_succ] at h3;omega
  refine aj "Er" ?_;refine WL.val (V.aG (v':= .i ((y%2:Nat):Int)) (V.and (ak Z) (ak Z)) (λ_=>by rw[Wq ay])) Z<|aj ";c1" (aW (λaQ=> ?_) λaQ=> ?_)
  ·rw[if_pos (show y%2=1 by omega)] at h4;refine aj "gb" ?_;refine WL.val (V.aG (v':= .i ((o ^^^ x:Nat):Int)) (V.xor (ak Z) (ak Z)) (λ_=>by rw[nC ay ay])) Z<|aj "i" ?_;refine WL.val (V.aG (v':= .i ((2*x:Nat):Int)) (V.shl (ak Z) (ak Z) aN) (λ_=>by rw[VX ay])) Z<|aj "i~gc1" (aW (λbA=> ?_) λbA=> ?_)
   ·have j:red (2*x)=2*x ^^^ 8219:=by unfold red;rw[if_pos ay]
    refine aj "g" ?_;refine WL.val (V.aG (v':= .i ((2*x ^^^ 8219:Nat):Int)) (V.xor (ak Z) (ak Z)) (λ_=>by rw[show (8219:Int)=((8219:Nat):Int) from Z,nC ay ay])) Z<|aj "O" ?_;refine WL.val (V.aG (v':= .i ((y/2:Nat):Int)) (V.shr (ak Z) (ak Z) aN) (λ_=>by rw[yT])) Z<|aj "N" ?_;have pG:=vH h2;have Dv:o ^^^ x<8192:=je (k:=13) h1 h2;rw[j] at h4 pG;exact⟨(d,o ^^^ x,_,y/2),⟨Dv,pG,Zz,by show d≤13;omega,h4⟩,lt_succ_self _,.cons Z bC,λw h=>h⟩
   ·have j:red (2*x)=2*x:=by unfold red;rw[if_neg ay]
    refine aj "qg" ?_;refine WL.val (V.aG (v':= .i ((y/2:Nat):Int)) (V.shr (ak Z) (ak Z) aN) (λ_=>by rw[yT])) Z<|aj "N" ?_;have pG:=vH h2;have Dv:o ^^^ x<8192:=je (k:=13) h1 h2;rw[j] at h4 pG;exact⟨(d,o ^^^ x,_,y/2),⟨Dv,pG,Zz,by show d≤13;omega,h4⟩,lt_succ_self _,.cons Z bC,λw h=>h⟩
  ·rw[if_neg (show ¬y%2=1 by omega)] at h4;refine aj "T" ?_;refine WL.val (V.aG (v':= .i ((2*x:Nat):Int)) (V.shl (ak Z) (ak Z) aN) (λ_=>by rw[VX ay])) Z<|aj "i~gc1" (aW (λbA=> ?_) λbA=> ?_)
   ·have j:red (2*x)=2*x ^^^ 8219:=by unfold red;rw[if_pos ay]
    refine aj "g" ?_;refine WL.val (V.aG (v':= .i ((2*x ^^^ 8219:Nat):Int)) (V.xor (ak Z) (ak Z)) (λ_=>by rw[show (8219:Int)=((8219:Nat):Int) from Z,nC ay ay])) Z<|aj "O" ?_;refine WL.val (V.aG (v':= .i ((y/2:Nat):Int)) (V.shr (ak Z) (ak Z) aN) (λ_=>by rw[yT])) Z<|aj "N" ?_;have pG:=vH h2;have Dv:o ^^^ x<8192:=je (k:=13) h1 h2;rw[j] at h4 pG;exact⟨(d,o,_,y/2),⟨h1,pG,Zz,by show d≤13;omega,h4⟩,lt_succ_self _,.cons Z bC,λw h=>h⟩
   ·have j:red (2*x)=2*x:=by unfold red;rw[if_neg ay]
    refine aj "qg" ?_;refine WL.val (V.aG (v':= .i ((y/2:Nat):Int)) (V.shr (ak Z) (ak Z) aN) (λ_=>by rw[yT])) Z<|aj "N" ?_;have pG:=vH h2;have Dv:o ^^^ x<8192:=je (k:=13) h1 h2;rw[j] at h4 pG;exact⟨(d,o,_,y/2),⟨h1,pG,Zz,by show d≤13;omega,h4⟩,lt_succ_self _,.cons Z bC,λw h=>h⟩
 ·have Y0:y=0:=ay;refine aj "Ked:" ?_;have :o=kK a b:=by
   rw[←h4,Y0];cases k<;>simp[uq]
  rw[this]
theorem ajf(a:Int):aK prog 338 #[.i a] K F (.bool (decide (0≤a)&&decide (a<8192))):=by
 refine aB.en func338 ntmps338 ?_;exact aj "ai~gb!~~~sSd+" trivial
theorem HZ{a:Nat}(h:a<8192):aK prog 338 #[.i (a:Int)] K F (.bool true):=(ajf (a:Int)).eq (by rw[decide_eq_true (show (0:Int)≤(a:Int) by omega),decide_eq_true (show (a:Int)<8192 by omega)];rfl)
theorem NV{a b:Nat}(ha:a<8192)(hb:b<8192):aK prog 328 #[.i (a:Int),.i (b:Int)] K F (.tuple #[.i (kK a b:Nat),.i 0]):=by
 refine aB.en func328 ntmps328 ?_;refine aj "alf" ?_;refine WL.t1 call338 Z (HZ ha) Z<|aj "9%" ?_;refine WL.nL (oj:=_) (vs:=[_]) Z Z Z GC.f call338 ⟨OV.g Z id,trivial⟩ (λd=>HZ hb) Z<|aj "~(I2Tb" ?_;refine WL.t2 call339 Z Z (NM ha hb) Z<|aj "F" ?_;exact aF.ret (H':=F) (bJ.eU Z Z Z) cO ⟨Z,Z⟩
theorem zu{a b:Nat}(ha:a<8192)(hb:b<8192):aK prog 288 #[.i (a:Int),.i (b:Int)] K F (.i (kK a b:Nat)):=by
 refine aB.en func288 ntmps288 ?_;refine aj "a0" ?_;exact WL.t2 call328 Z Z (NV ha hb) Z<|aj "Hid+" trivial
theorem abY{a b:Nat}(ha:a<8192)(hb:b<8192):aK prog 355 #[.i (a:Int),.i (b:Int)] K F (.i (kK a b:Nat)):=by
 refine aB.en func355 ntmps355 ?_;refine aj "a0" ?_;exact WL.t2 call328 Z Z (NV ha hb) Z<|aj "Hid+" trivial
theorem aax{a m:Nat}(ha:a<8192)(hm:m<8192):aK prog 326 #[.i (a:Int),.i (m:Int)] K F (.i (Xj a m:Nat)):=by
 refine aB.en func326 ntmps326 ?_;refine aj "awts" ?_;refine WC.loop (σ:=Nat×Nat×Nat×Nat) (λx=>[(5,.i (x.2.1:Int)),(0,.i (x.2.2.1:Int)),(1,.i (x.2.2.2:Int))]) (λ_=>F) (λx=>x.2.1<8192∧x.2.2.1<8192∧x.2.2.2<2^x.1∧x.1≤13∧Hr x.1 x.2.1 x.2.2.1 x.2.2.2=Xj a m) (λx=>x.1) (13,1,a,m) ⟨by show 1<8192;decide,ha,hm,Nat.le_refl _,Z⟩ bC cO ?_;rintro⟨k,o,x,y⟩ ⟨h1,h2,h3,UR,h4⟩;dsimp only at h1 h2 h3 UR h4 ⊢;have d:(2:Nat)^k≤2^13:=Nat.pow_le_pow_right aN UR;have j:y<8192:=ay;refine aj "r~Hc1" (aW (λaL=> ?_) λaL=> ?_)
 ·have Y0:y≠0:=ay;obtain⟨b,rfl⟩:∃b,k=b+1:=⟨k-1,by rcases eq_zero_or_pos k with h | h;subst h;simp at h3;omega;omega⟩;rw[Hr,if_neg Y0] at h4;have Zz:y/2<2^b:=by rw[Nat.pow_succ] at h3;omega
  refine aj "Er" ?_;refine WL.val (V.aG (v':= .i ((y%2:Nat):Int)) (V.and (ak Z) (ak Z)) (λ_=>by rw[Wq ay])) Z<|aj ";c1" (aW (λaQ=> ?_) λaQ=> ?_)
  ·rw[if_pos (show y%2=1 by omega)] at h4;refine aj "gb" ?_;refine WL.t2 call339 Z Z (NM h1 h2) Z<|aj "Ob" ?_;refine WL.t2 call339 Z Z (NM h2 h2) Z<|aj "O" ?_;refine WL.val (V.aG (v':= .i ((y/2:Nat):Int)) (V.shr (ak Z) (ak Z) aN) (λ_=>by rw[yT])) Z<|aj "N" ?_;exact⟨(b,kK o x,kK x x,y/2),⟨fD h1,fD h2,Zz,by show b≤13;omega,h4⟩,lt_succ_self _,.cons Z bC,λw h=>h⟩
  ·rw[if_neg (show ¬y%2=1 by omega)] at h4;refine aj "qgb" ?_;refine WL.t2 call339 Z Z (NM h2 h2) Z<|aj "O" ?_;refine WL.val (V.aG (v':= .i ((y/2:Nat):Int)) (V.shr (ak Z) (ak Z) aN) (λ_=>by rw[yT])) Z<|aj "N" ?_;exact⟨(b,o,kK x x,y/2),⟨h1,fD h2,Zz,by show b≤13;omega,h4⟩,lt_succ_self _,.cons Z bC,λw h=>h⟩
 ·have Y0:y=0:=ay;refine aj "Ked:" ?_;have :o=Xj a m:=by
   rw[←h4,Y0];cases k<;>simp[Hr]
  rw[this]
theorem W9(i:Int)(hi: -9223372036854775808≤i∧i≤9223372036854775807):aK prog 327 #[.i i] K F (.i (i%8191)):=by
 have k: -8191<i.tmod 8191∧i.tmod 8191<8191:=by
  rcases Int.le_total 0 i with h | h
  ·rw[Int.tmod_eq_emod_of_nonneg h];omega
  ·have j:i.tmod 8191= -((-i).tmod 8191):=by rw[Int.neg_tmod,Int.neg_neg]
   rw[Int.tmod_eq_emod_of_nonneg (a:= -i) ay] at j;omega
 have d:=Int.tmod_def i 8191;refine aB.en func327 ntmps327 ?_;refine aj "af" ?_;refine WL.val (V.rem (ak Z) (ak Z) aN) Z<|aj "iPc1" (aW (λb=> ?_) λb=> ?_)
 ·refine aj "gZid:" ?_;have :i.tmod 8191+8191=i%8191:=by rw[d] at b ⊢;omega
  rw[this]
 ·refine aj "Td:" ?_;have :i.tmod 8191=i%8191:=by rw[d] at b ⊢;omega
  rw[this]
theorem Tz(i:Int)(hi: -9223372036854775808≤i∧i≤9223372036854775807):aK prog 287 #[.i i] K F (.i (gG i:Nat)):=by
 have b:i%8191=(((i%8191).toNat:Nat):Int):=ay;refine aB.en func287 ntmps287 ?_;refine aj "ai" ?_;refine WL.t1 call327 Z (aK.eq (W9 i hi) (by rw[b])) Z ?_;refine WL.t2 call326 Z Z (aax (a:=2) (m:=(i%8191).toNat) aN ay) Z ?_;exact aj "d+" trivial
theorem ahl{a:Nat}(ha:a<8192)(h0:a≠0):aK prog 324 #[.i (a:Int)] K F (.tuple #[.i (ahm a:Nat),.i 0]):=by
 refine aB.en func324 ntmps324 ?_;refine aj "altse" ?_;refine WL.t1 call338 Z (HZ ha) Z<|aj "9o~Ie;o" ?_;refine WC.ni Z ((by simp only[decide_eq_false_iff_not];omega))<|aj "T" ?_;refine WL.t2 call326 Z Z (aax (a:=a) (m:=8190) ha aN) Z<|aj "F" ?_;exact aF.ret (H':=F) (bJ.eU Z Z Z) cO ⟨Z,Z⟩
def av(k:IntKind)(xs:List Nat):List Value:=xs.map λx:Nat=>Value.int k (x:Int)
theorem au(k:IntKind)(xs:List Nat):(av k xs).length=xs.length:=by simp[av]
theorem jH(k:IntKind)(xs:List Nat)(h:i<xs.length):(av k xs)[i]? =some (.int k (xs.getD i 0:Nat)):=by simp[av,getD,h]
theorem lu(k:IntKind)(xs:List Nat)(i x:Nat):(av k xs).set i (.int k (x:Int))=av k (xs.set i x):=by simp[av,map_set]
theorem jB(k:IntKind)(xs:List Nat):∀u∈av k xs,u.oneCell'=true:=by simp[av,Value.oneCell']
theorem eD(k:IntKind)(m x:Nat):av k (replicate m x)=replicate m (.int k (x:Int)):=by simp[av]
theorem dx(k:IntKind)(xs ys:List Nat):av k (xs++ys)=av k xs++av k ys:=by simp[av]
theorem dU(k:IntKind)(xs:List Nat)(n:Nat):(av k xs).take n=av k (xs.take n):=by simp[av]
theorem kQ(k:IntKind)(xs:List Nat)(n:Nat):(av k xs).drop n=av k (xs.drop n):=by simp[av]
def aA(b:Nat)(xs:List Nat):Prop:=∀x∈xs,x<b
theorem aA.at_(h:aA b xs)(hb:0<b)(i:Nat):xs.getD i 0<b:=by
 by_cases a:i<xs.length
 ·have :=h xs[i] (getElem_mem a)
  simpa [getD,a] using this
 ·simp[getD,getElem?_eq_none (Nat.le_of_not_lt a),hb]
theorem aA.set(h:aA b xs)(hx:x<b):aA b (xs.set i x):=λy a=>by
 rcases mem_or_eq_of_mem_set a with d | rfl
 ·exact h y d
 ·exact hx
theorem aA.wJ(hx:x<b):aA b (replicate n x):=λy a=>by rw[eq_of_mem_replicate a];exact hx
theorem aA.take(h:aA b xs):aA b (xs.take n):=λy a=>h y (mem_of_mem_take a)
theorem aA.append(h:aA b xs)(h':aA b ys):aA b (xs++ys):=λy a=>(mem_append.1 a).elim (h y) (h' y)
theorem _root_.Go.Sl.Seq.jo(h:Seq K H A m 1 (av k xs))(hj:j<m):Rd K H (A.map (·.add (j*1))) (.int k (xs.getD j 0:Nat)):=by
 have a:xs.length=m:=by simpa [av] using h.len
 have :=h.rd j _ (jH k xs ay)
 simpa using this
theorem _root_.Go.Sl.Seq.Gb(hl:xs.length=m):Seq K (ah b T (av k xs)::H) (some ⟨b,0,none⟩) m 1 (av k xs):=Seq.all (by simp[av,hl])
def aZ(xs:List Nat):Nat→Nat
 | 0=>0
 | k+1=>if xs.getD k 0=0 then aZ xs k else k+1
theorem iy(xs:List Nat):∀k,aZ xs k≤k
 | 0=>Nat.le_refl _
 | k+1=>by
  have :=iy xs k;rw[aZ];split<;>omega
def zY(out p:List Nat)(at_ Kc:Nat):Nat→List Nat
 | 0=>out
 | j+1=>(zY out p at_ Kc j).set (at_+j) ((zY out p at_ Kc j).getD (at_+j) 0 ^^^ kK (p.getD j 0) Kc)
theorem vg(out p:List Nat)(at_ Kc:Nat):∀j,(zY out p at_ Kc j).length=out.length
 | 0=>rfl
 | j+1=>by rw[zY,length_set,vg]
theorem yc(h:aA 8192 out)(hp:aA 8192 p):∀j,aA 8192 (zY out p at_ Kc j)
 | 0=>h
 | j+1=>by
  have ih:=yc (at_:=at_) (Kc:=Kc) h hp j;rw[zY];exact ih.set (je (k:=13) (ih.at_ aN _) (fD (hp.at_ aN _)))
def Dh(ps qs:List Nat):Nat→List Nat
 | 0=>replicate (ps.length+qs.length) 0
 | i+1=>zY (Dh ps qs i) qs i (ps.getD i 0) qs.length
def iI(ps qs:List Nat):List Nat:=Dh ps qs ps.length
theorem qc(ps qs:List Nat):∀i,(Dh ps qs i).length=ps.length+qs.length
 | 0=>length_replicate
 | i+1=>by rw[Dh,vg,qc]
theorem yE(hq:aA 8192 qs):∀i,aA 8192 (Dh ps qs i)
 | 0=>aA.wJ aN
 | i+1=>yc (yE hq i) hq _
theorem YC(hs:Seq K F A m 1 (av .i64 xs))(kS:m≤cap)(hm:m≤1000000):aK prog 354 #[.slice A m cap] K F (.slice A (aZ xs m) cap):=by
 refine aB.en func354 ntmps354 ?_;refine aj "ats" ?_;refine WC.loop (σ:=Nat) (λj=>[(0,.slice A j cap)]) (λ_=>F) (λj=>j≤m∧aZ xs j=aZ xs m) (λj=>j) m ⟨Nat.le_refl _,Z⟩ bC cO ?_;rintro j ⟨y,d⟩;have kr:0<j→Rd K F (A.map (·.add (((j:Int)-1).toNat*1))) (.i (xs.getD (j-1) 0:Nat)):=λh=>by
  rw[show ((j:Int)-1).toNat=j-1 by omega];exact hs.jo ay
 refine aj "rj~Hb!!~~r~~:" ?_;refine WL.bI (oj:=_) Z Z Z GC.t (V.dw (m:=j) (cap:=cap) eB (OV.g Z id) (OV.g Z id) (λa=>by simp at a;omega) (λa=>kr (by simp at a;omega))) Z<|WL.bI (oj:=_) Z Z Z GC.t (V.load isAgg3 (OV.g Z id) (λa=>kr (by simp at a;omega))) Z<|aj "~SSh" (aW (λb=> ?_) λb=> ?_)
 ·simp only[Gi] at b;refine aj "qsgbj)" ?_;refine WL.val (V.aG (v':= .slice A (j-1) cap) (V.slice (l:=0) (h:=j-1) (u:=cap) eB (ak Z) OO.none (OO.some (ak Z) (λ_=>by omega)) OO.none (by simp) (zero_le _) ay (Nat.le_refl _)) (λ_=>by rw[zK];rfl)) Z<|aj "N" ?_;refine⟨j-1,⟨by show j-1≤m;omega, ?_⟩,(by show j-1<j;omega),.cons Z (.nil _),λw h=>h⟩;obtain⟨i,rfl⟩:∃i,j=i+1:=⟨j-1,by omega⟩;rw[←d,aZ,if_pos (by have :=b.2;simp at this ⊢;omega)];rfl
 ·simp only[Gi] at b;refine aj "Ked:" ?_;have :aZ xs m=j:=by
   rw[←d];cases j with
   | zero=>rfl
   | succ i =>
    rw[aZ,if_neg];intro x;rcases b with k | k
    ·omega
    ·have r:¬((xs.getD i 0:Nat):Int)=0:=k;exact r (by rw[x];rfl)
  rw[this]
structure VI where
 A:Option Addr
 m:Nat
 cap:Nat
 xs:List Nat
abbrev VI.v(p:VI):Value:= .slice p.A p.m p.cap
theorem adI{ls:List VI}(hls:∀p∈ls,Seq K F p.A p.m 1 (av .i64 p.xs)∧aA 8192 p.xs∧p.m≤1000000)(hR:Seq K F (some ⟨b,0,none⟩) ls.length 1 (ls.map VI.v))(hll:ls.length≤1000) :
 aK prog 345 #[.slice (some ⟨b,0,none⟩) ls.length ls.length] K F (.bool true):=by
 refine aB.en func345 ntmps345 ?_;refine aj "afjR" ?_;refine WC.loop (σ:=Nat) (λi=>[(9,.slice (some ⟨b,0,none⟩) ls.length ls.length),(10,.i (ls.length:Int)),(11,.i (i:Int))]) (λ_=>F) (λi=>i≤ls.length) (λi=>ls.length-i) 0 (zero_le _) bC cO ?_;rintro i l;refine aj "V1" (aW (λaL=> ?_) λaL=> ?_)
 ·refine aj "EL" ?_;obtain⟨p,k⟩:∃p,ls[i]? =some p:=⟨_,getElem?_eq_getElem ay⟩;obtain⟨qY,d,Bw⟩:=hls p (mem_of_getElem? k);have l7:p.xs.length=p.m:=by simpa [av] using qY.len
  have kr:Rd K F (some ⟨b,0+(i:Int).toNat*1,none⟩) p.v:=by
   have :=hR.rd i p.v (by rw[getElem?_map,k];rfl);rw[show 0+(i:Int).toNat*1=0+i by omega]
   simpa [jM] using this
  refine aj "p~x" ?_;refine WL.val (V.load isAgg124 (ak Z) (λa=>kr)) Z<|aj "ijR" ?_;refine WC.loop (σ:=Nat) (λj=>[(9,.slice (some ⟨b,0,none⟩) ls.length ls.length),(10,.i (ls.length:Int)),(11,.i (i:Int)),(15,p.v),(16,.i (p.m:Int)),(17,.i (j:Int))]) (λ_=>F) (λj=>j≤p.m) (λj=>p.m-j) 0 (zero_le _) bC cO ?_;rintro j m;refine aj "V1" (aW (λaQ=> ?_) λaQ=> ?_)
  ·refine aj "EL" ?_;have xO:Rd K F (p.A.map (·.add ((j:Int).toNat*1))) (.i (p.xs.getD j 0:Nat)):=by
    rw[show (j:Int).toNat=j by omega];exact qY.jo ay
   refine WC.region<|WL.val (V.dw eB (ak Z) (ak Z) (λa=>by omega) (λa=>xO)) Z<|WL.val (V.load isAgg3 (ak Z) (λa=>xO)) Z<|aj "i" ?_;refine WL.t2 call328 Z Z (NV (b:=0) (d.at_ aN j) aN) Z<|aj "Hiu2q8" ?_;exact⟨j+1,(by show j+1≤p.m;omega),(by show p.m-(j+1)<p.m-j;omega),.cons Z bC,λw h=>h⟩
  ·refine aj "K8" ?_;exact⟨i+1,(by show i+1≤ls.length;omega),(by show ls.length-(i+1)<ls.length-i;omega),.cons Z bC,λw h=>h⟩
 ·exact aj "KD+" trivial
theorem aa0{x:Nat}(hN:out.length=N)(hi:i<N)(ho:aA 8192 out)(hx:x<8192)(h5:Rd K F (some ⟨b5,0,none⟩) (.slice (some ⟨g,0,none⟩) N cap))(kS:N≤1000000) :
 aB prog 353 #[.i (i:Int),.i (x:Int),ptr b5 0] K (ah g 3 (av .i64 out)::F)
  (λv H'=>H'=ah g 3 (av .i64 (out.set i (out.getD i 0 ^^^ x)))::F):=by
 have a:(av .i64 out)[0+(i:Int).toNat*1]? =some (.i (out.getD i 0:Nat)):=by rw[show 0+(i:Int).toNat*1=i by omega];exact jH _ _ ay
 have d:=ho.at_ aN i;refine aB.en func353 ntmps353 ?_;refine WC.region<|WL.val (V.load isAgg124 (ak Z) (λb=>h5.up)) Z<|aj "b~x" ?_;refine WL.val (V.load isAgg3 (ak Z) (λb=>Rd.here a)) Z<|WL.mv Z Z<|WL.val (V.aG (v':= .i ((out.getD i 0 ^^^ x:Nat):Int)) (V.xor (ak Z) (ak Z)) (λ_=>by rw[nC ay ay])) Z<|aj "~x" ?_;refine WL.store (cs:=[_]) sizeOf3 (ak Z) (ak Z) Z Z Z (bT.at_ (by rw[au];omega))<|WL.nil<|aF.normal (H':=ah g _ _::F) (bJ.none Z) (λw h=>Sat.aT h ?_) Z;rw[show 0+(i:Int).toNat*1=i by omega,lu]
theorem abF{Kc:Nat}(hN:out.length=N)(ho:aA 8192 out)(hs:Seq K F A m 1 (av .i64 ps))(hp:aA 8192 ps)(Zb:at_+m≤N)(JC:Kc<8192)
 (h5:Rd K F (some ⟨b5,0,none⟩) (.slice (some ⟨g,0,none⟩) N cap)) (kS:N≤1000000) :
 aB prog 348 #[.func (.func 353) #[] #[ptr b5 0],.slice A m cap',.i (at_:Int),.i (Kc:Int)] K (ah g 3 (av .i64 out)::F)
  (λv H'=>H'=ah g 3 (av .i64 (zY out ps at_ Kc m))::F):=by
 have k:ps.length=m:=by simpa [av] using hs.len
 refine aB.en func348 ntmps348 ?_;refine aj "ejR" ?_;refine WC.loop (σ:=Nat) (λj=>[(0,.func (.func 353) #[] #[ptr b5 0]),(2,.i (at_:Int)),(3,.i (Kc:Int)),(10,.slice A m cap'),(11,.i (m:Int)),(12,.i (j:Int))]) (λj=>ah g 3 (av .i64 (zY out ps at_ Kc j))::F) (λj=>j≤m) (λj=>m-j) 0 (zero_le _) bC cO ?_;rintro j l;refine aj "V1" (aW (λaL=> ?_) λaL=> ?_)
 ·refine aj "EL" ?_;have d:j<m:=ay;have xO:Rd K (ah g 3 (av .i64 (zY out ps at_ Kc j))::F) (A.map (·.add ((j:Int).toNat*1))) (.i (ps.getD j 0:Nat)):=by
   rw[show (j:Int).toNat=j by omega];exact (hs.jo ay).up
  have nS:=yc (at_:=at_) (Kc:=Kc) ho hp j;have a:=hp.at_ aN j;refine aj "g" ?_;refine WL.val (V.dw eB (ak Z) (ak Z) (λb=>by omega) (λb=>xO)) Z<|WL.val (V.load isAgg3 (ak Z) (λb=>xO)) Z<|aj "lOx" ?_;refine WL.val (V.aG (v':= .i ((at_+j:Nat):Int)) (V.CX (ak Z) (ak Z) (λ_=>by omega)) (λ_=>by simp)) Z<|aj "x" ?_;refine WL.t2 call355 Z Z (abY a JC) Z<|WL.ny (first:=[]) (vs:=[_,_]) (captured:=[ptr b5 0]) call353 (ak Z) ⟨ak Z,ak Z,trivial⟩ (aa0 (N:=N) (cap:=cap) (by rw[vg];exact hN) ay nS (fD a) h5 kS) Z ?_;rintro r _ rfl;refine aj "c8" ?_;exact⟨j+1,(by show j+1≤m;omega),(by show m-(j+1)<m-j;omega),.cons Z bC,λw h=>h⟩
 ·refine WC.exit ?_;obtain rfl:j=m:=by omega
  exact aF.normal (H':=ah g _ _::F) (bJ.none Z) cO Z
def bG(B:Nat):Nat→Nat→List Nat
 | 0,_=>[]
 | k+1,n=>n%B::bG B k (n/B)
def vl(B:Nat):List Nat→Nat
 | []=>0
 | x::xs=>x+B*vl B xs
theorem aI(B:Nat):∀k n,(bG B k n).length=k
 | 0,_=>rfl
 | k+1,n=>by rw[bG,length_cons,aI B k]
theorem bL(hB:0<B):∀k n,aA B (bG B k n)
 | 0,_=>λy hy=>by cases hy
 | k+1,n=>λy hy=>by
  rcases mem_cons.1 hy with rfl | hy
  ·exact mod_lt _ hB
  ·exact bL hB k _ y hy
theorem bV(B:Nat):∀k n i,i<k→(bG B k n).getD i 0=n/B^i%B
 | 0,_,i,h=>absurd h (not_lt_zero i)
 | k+1,n,0,_=>by simp[bG]
 | k+1,n,i+1,h=>by
  rw[bG,getD_cons_succ,bV B k _ i ay,Nat.pow_succ,Nat.mul_comm,Nat.div_div_eq_div_mul]
theorem xV(B:Nat):∀k n,vl B (bG B k n)=n%B^k
 | 0,n=>by simp[bG,vl,mod_one]
 | k+1,n=>by rw[bG,vl,xV B k,Nat.pow_succ,Nat.mul_comm (B^k) B,mod_mul]
theorem Uw:∀ {l:List Nat},aA B l→bG B l.length (vl B l)=l
 | [],_=>rfl
 | x::xs,h=>by
  have hx:x<B:=h x (.head _);have b:0<B:=Nat.lt_of_le_of_lt (zero_le _) hx;rw[length_cons,bG,vl,add_mul_mod_self_left,mod_eq_of_lt hx,add_mul_div_left _ _ b,div_eq_of_lt hx,Nat.zero_add,Uw λy a=>h y (.tail _ a)]
theorem ng(h:aA B l)(hk:l.length=k):bG B k (vl B l)=l:=by subst hk;exact Uw h
theorem nV(B:Nat):∀k n,bG B k (n%B^k)=bG B k n
 | 0,_=>rfl
 | k+1,n=>by
  rw[bG,bG,Nat.pow_succ,Nat.mul_comm (B^k) B,mod_mul_right_mod,mod_mul_right_div_self,nV B k]
theorem Ef(B:Nat):∀xs ys:List Nat,vl B (xs++ys)=vl B xs+B^xs.length*vl B ys
 | [],ys=>by simp[vl]
 | x::xs,ys=>by
  rw[cons_append,vl,vl,Ef B xs,length_cons,Nat.pow_succ,Nat.mul_add,Nat.mul_comm (B^xs.length) B,Nat.mul_assoc,Nat.add_assoc]
theorem nH:∀ {l:List Nat},aA B l→vl B l<B^l.length
 | [],_=>by simp[vl]
 | x::xs,h=>by
  have hx:x<B:=h x (.head _);have b:=nH (l:=xs) λy a=>h y (.tail _ a);rw[vl,length_cons,Nat.pow_succ,Nat.mul_comm _ B]
  calc x+B*vl B xs<B+B*vl B xs:=Nat.add_lt_add_right hx _
   _=B*(vl B xs+1):=by rw[Nat.mul_add,Nat.mul_one,Nat.add_comm]
   _≤B*B^xs.length:=mul_le_mul_left _ b
theorem GY(B:Nat):∀k,vl B (replicate k 0)=0
 | 0=>rfl
 | k+1=>by rw[replicate_succ,vl,GY B k];simp
theorem qz(B:Nat):∀k,bG B k 0=replicate k 0
 | 0=>rfl
 | k+1=>by rw[bG,zero_mod,Nat.zero_div,qz B k,replicate_succ]
theorem Hf(B:Nat):∀(l:List Nat) (i x:Nat),i<l.length→vl B (l.set i x)+l.getD i 0*B^i=vl B l+x*B^i
 | [],i,x,h=>absurd h (not_lt_zero i)
 | y::l,0,x,_=>by simp[vl];omega
 | y::l,i+1,x,h=>by
  have h1:=Hf B l i x (by simpa using h);rw[set_cons_succ,getD_cons_succ,vl,vl,Nat.pow_succ];have a:B*(vl B (l.set i x)+l.getD i 0*B^i)=B*(vl B l+x*B^i):=by rw[h1]
  rw[Nat.mul_add,Nat.mul_add] at a;have d:B*(l.getD i 0*B^i)=l.getD i 0*(B^i*B):=by rw[←Nat.mul_assoc,Nat.mul_comm B,Nat.mul_assoc,Nat.mul_comm B]
  have b:B*(x*B^i)=x*(B^i*B):=by rw[←Nat.mul_assoc,Nat.mul_comm B,Nat.mul_assoc,Nat.mul_comm B]
  rw[d,b] at a;omega
theorem xK(B:Nat):∀k n,bG B (k+1) n=bG B k n++[n/B^k%B]
 | 0,n=>by simp[bG]
 | k+1,n=>by
  rw[bG,xK B k,bG,cons_append,Nat.pow_succ,Nat.mul_comm (B^k) B,Nat.div_div_eq_div_mul]
theorem acX(B:Nat):∀i k n,bG B (i+k) n=bG B i n++bG B k (n/B^i)
 | 0,k,n=>by simp[bG]
 | i+1,k,n=>by
  rw[show i+1+k=(i+k)+1 by omega,bG,acX B i k,bG,cons_append,Nat.pow_succ,Nat.mul_comm (B^i) B,Nat.div_div_eq_div_mul]
theorem Ca(h:i≤k):(bG B k n).take i=bG B i n:=by grind [Nat.le.dest,acX,take_left',aI]
theorem M5(l:List Nat)(i:Nat)(hi:i≤l.length):vl B l=vl B (l.take i)+B^i*vl B (l.drop i):=by grind [Ef,take_append_drop,length_take,Nat.min_eq_left]
theorem Cr(l:List Nat)(i:Nat)(hi:i<l.length):vl B (l.take (i+1))=vl B (l.take i)+B^i*l.getD i 0:=by
 rw[take_add_one,getElem?_eq_getElem hi,Option.toList_some,Ef,length_take,Nat.min_eq_left (Nat.le_of_lt hi)];simp[vl,getD,hi]
theorem ab9(hB:0<B)(k n i:Nat)(hi:i<k):(bG B i n++replicate (k-i) 0).set i (n/B^i%B)=bG B (i+1) n++replicate (k-(i+1)) 0:=by
 rw[set_append,aI,if_neg ay,Nat.sub_self,xK,append_assoc];obtain⟨j,a⟩:∃j,k-i=j+1:=⟨k-i-1,by omega⟩;rw[a,replicate_succ,set_cons_zero,show k-(i+1)=j by omega];rfl
end Go.Proofs.YtcedojacbhnbiaaGreat
namespace Go.Sl
open Go.RowKit Go.Proofs.YtcedojacbhnbiaaGreat List Nat
theorem V.wN{Mo:Mode}{P:Program}{K:World}{n:Nat}{c:Bool}{e:Env}{H:List aH}{dst:Option Tmp}{ty:TypeId}{pos:String}{af:Array Edge}{gd:Option (Nat×Bool)}{t t':TypeId}{x y:Operand}{i j:Nat}(hx:OV c e x (.i ((i:Nat):Int)))(hy:OV c e y (.i ((j:Nat):Int)))(h:c=true→i+j≤9223372036854775807:=by intro hc;first | omega | (simp at hc;omega)):eX Mo P K n c e H ⟨dst,.binOp .add t x y t',ty,pos,af,gd⟩ (.i ((i+j:Nat):Int)):=by grind [V.aG,V.CX,Int.natCast_add]
theorem V.rD{Mo:Mode}{P:Program}{K:World}{n:Nat}{c:Bool}{e:Env}{H:List aH}{dst:Option Tmp}{ty:TypeId}{pos:String}{af:Array Edge}{gd:Option (Nat×Bool)}{t t':TypeId}{x y:Operand}{i j:Nat}(hx:OV c e x (.i ((i:Nat):Int)))(hy:OV c e y (.i ((j:Nat):Int)))(h:c=true→j≤i∧i≤9223372036854775807:=by intro hc;first | omega | (simp at hc;omega)):eX Mo P K n c e H ⟨dst,.binOp .sub t x y t',ty,pos,af,gd⟩ (.i ((i-j:Nat):Int)) :=
 V.aG (V.Eo hx hy (λhc=>by have :=h hc;omega)) λhc=>by rw[Int.natCast_sub (h hc).1]
theorem V.Ob{Mo:Mode}{P:Program}{K:World}{n:Nat}{c:Bool}{e:Env}{H:List aH}{dst:Option Tmp}{ty:TypeId}{pos:String}{af:Array Edge}{gd:Option (Nat×Bool)}{t t':TypeId}{x y:Operand}{i j:Nat}(hx:OV c e x (.i ((i:Nat):Int)))(hy:OV c e y (.i ((j:Nat):Int)))(h:c=true→i*j≤9223372036854775807:=by intro hc;first | omega | (simp at hc;omega)):eX Mo P K n c e H ⟨dst,.binOp .mul t x y t',ty,pos,af,gd⟩ (.i ((i*j:Nat):Int)):=by grind [V.aG,V.MK,Int.natCast_mul]
theorem V.XI{Mo:Mode}{P:Program}{K:World}{n:Nat}{c:Bool}{e:Env}{H:List aH}{dst:Option Tmp}{ty:TypeId}{pos:String}{af:Array Edge}{gd:Option (Nat×Bool)}{t t':TypeId}{x y:Operand}{i j:Nat}(hx:OV c e x (.i ((i:Nat):Int)))(hy:OV c e y (.i ((j:Nat):Int)))(h:c=true→0<j∧i≤9223372036854775807:=by intro hc;first | omega | (simp at hc;omega)):eX Mo P K n c e H ⟨dst,.binOp .quo t x y t',ty,pos,af,gd⟩ (.i ((i/j:Nat):Int)):=by grind [V.aG,V.aeC,Int.natCast_ediv]
theorem V.WJ{Mo:Mode}{P:Program}{K:World}{n:Nat}{c:Bool}{e:Env}{H:List aH}{dst:Option Tmp}{ty:TypeId}{pos:String}{af:Array Edge}{gd:Option (Nat×Bool)}{t t':TypeId}{x y:Operand}{i j:Nat}(hx:OV c e x (.i ((i:Nat):Int)))(hy:OV c e y (.i ((j:Nat):Int)))(h:c=true→0<j:=by intro hc;first | omega | (simp at hc;omega)):eX Mo P K n c e H ⟨dst,.binOp .rem t x y t',ty,pos,af,gd⟩ (.i ((i%j:Nat):Int)):=by grind [V.aG,V.Av,Int.natCast_emod]
def mo(k:IntKind):Nat:=2^k.bits
theorem CK(m:Nat):(2:Int)^m=((2^m:Nat):Int):=by simp[Int.natCast_pow]
theorem zx(hk:k.signed=false)(m:Nat):k.wrap (m:Int)=((m%mo k:Nat):Int):=by
 unfold IntKind.wrap mo;simp only[hk,Bool.false_and,Bool.false_eq_true,if_false];rw[CK,Int.natCast_emod]
theorem V.Rz{Mo:Mode}{P:Program}{K:World}{n:Nat}{c:Bool}{e:Env}{H:List aH}{dst:Option Tmp}{ty:TypeId}{pos:String}{af:Array Edge}{gd:Option (Nat×Bool)}{t t':TypeId}{x y:Operand}{i j:Nat}{k:IntKind}{M:Nat}(hx:OV c e x (.int k ((i:Nat):Int)))(hy:OV c e y (.int k ((j:Nat):Int)))(hk:k.signed=false:=by rfl)(hM:mo k=M:=by rfl):eX Mo P K n c e H ⟨dst,.binOp .add t x y t',ty,pos,af,gd⟩ (.int k (((i+j)%M:Nat):Int)) :=
 V.aG (V.add hx hy) λ_=>by rw[←Int.natCast_add,zx hk,hM]
theorem V.Tx{Mo:Mode}{P:Program}{K:World}{n:Nat}{c:Bool}{e:Env}{H:List aH}{dst:Option Tmp}{ty:TypeId}{pos:String}{af:Array Edge}{gd:Option (Nat×Bool)}{t t':TypeId}{x y:Operand}{i j:Nat}{k:IntKind}{M:Nat}(hx:OV c e x (.int k ((i:Nat):Int)))(hy:OV c e y (.int k ((j:Nat):Int)))(hk:k.signed=false:=by rfl)(hM:mo k=M:=by rfl):eX Mo P K n c e H ⟨dst,.binOp .mul t x y t',ty,pos,af,gd⟩ (.int k (((i*j)%M:Nat):Int)) :=
 V.aG (V.mul hx hy) λ_=>by rw[←Int.natCast_mul,zx hk,hM]
theorem V.ake{Mo:Mode}{P:Program}{K:World}{n:Nat}{c:Bool}{e:Env}{H:List aH}{dst:Option Tmp}{ty:TypeId}{pos:String}{af:Array Edge}{gd:Option (Nat×Bool)}{t t':TypeId}{x y:Operand}{i j:Nat}{k:IntKind}{M:Nat}(hx:OV c e x (.int k ((i:Nat):Int)))(hy:OV c e y (.int k ((j:Nat):Int)))(hk:k.signed=false:=by rfl)(hM:mo k=M:=by rfl)(h:c=true→j≤i∧i<M:=by intro hc;first | omega | (simp at hc;omega)):eX Mo P K n c e H ⟨dst,.binOp .sub t x y t',ty,pos,af,gd⟩ (.int k ((i-j:Nat):Int)) :=
 V.aG (V.sub hx hy) λhc=>by rw[←Int.natCast_sub (h hc).1,zx hk,hM,mod_eq_of_lt (by have :=h hc;omega)]
theorem V.G7{Mo:Mode}{P:Program}{K:World}{n:Nat}{c:Bool}{e:Env}{H:List aH}{dst:Option Tmp}{ty:TypeId}{pos:String}{af:Array Edge}{gd:Option (Nat×Bool)}{t t':TypeId}{x y:Operand}{i j:Nat}{k k':IntKind}{M:Nat}(hx:OV c e x (.int k ((i:Nat):Int)))(hy:OV c e y (.int k' ((j:Nat):Int)))(hk:k.signed=false:=by rfl)(hM:mo k=M:=by rfl):eX Mo P K n c e H ⟨dst,.binOp .shl t x y t',ty,pos,af,gd⟩ (.int k (((i*2^j)%M:Nat):Int)) :=
 V.aG (V.shl hx hy (Int.natCast_nonneg _)) λ_=>by
  rw[Int.toNat_natCast,show ((i:Int)*2^(Min.min j k.bits))=((i*2^(Min.min j k.bits):Nat):Int) by simp[Int.natCast_pow],zx hk,hM];congr 2;rcases Nat.le_total j k.bits with h | h
  ·rw[Nat.min_eq_left h]
  ·rw[Nat.min_eq_right h];obtain⟨q,rfl⟩:=Nat.le.dest h;rw[←hM,Nat.pow_add,←Nat.mul_assoc,Nat.mul_assoc,Nat.mul_comm (2^k.bits),←Nat.mul_assoc];unfold mo;rw[mul_mod_left,mul_mod_left]
theorem ab0(i k:Nat):((i:Nat):Int).fdiv (2^k)=((i/2^k:Nat):Int):=by grind
theorem V.wK{Mo:Mode}{P:Program}{K:World}{n:Nat}{c:Bool}{e:Env}{H:List aH}{dst:Option Tmp}{ty:TypeId}{pos:String}{af:Array Edge}{gd:Option (Nat×Bool)}{t t':TypeId}{x y:Operand}{i j:Nat}{k k':IntKind}(hx:OV c e x (.int k ((i:Nat):Int)))(hy:OV c e y (.int k' ((j:Nat):Int)))(h:c=true→j≤k.bits∨i<2^k.bits:=by intro _;left;simp only[IntKind.bits];omega):eX Mo P K n c e H ⟨dst,.binOp .shr t x y t',ty,pos,af,gd⟩ (.int k ((i/2^j:Nat):Int)) :=
 V.aG (V.shr hx hy (Int.natCast_nonneg _)) λd=>by
  rw[Int.toNat_natCast,ab0];congr 2;rcases Nat.le_total j k.bits with a | a
  ·rw[Nat.min_eq_left a]
  ·rcases h d with b | b
   ·rw[show j=k.bits by omega,Nat.min_self]
   ·rw[Nat.min_eq_right a,div_eq_of_lt b,div_eq_of_lt (Nat.lt_of_lt_of_le b (Nat.pow_le_pow_right aN a))]
theorem Vq{i j:Nat}(hi:i<2^m)(hj:j<2^m)(hm:m≤k.bits)(zM:k.signed=true→m<k.bits)(hf:op= .and∧f=(· &&& ·)∨op= .or∧f=(· ||| ·)∨op= .xor∧f=(· ^^^ ·)):bitsOf op k (i:Int) (j:Int)=((f i j:Nat):Int):=by
 have x:2^m≤2^k.bits:=Nat.pow_le_pow_right aN hm;have a:(BitVec.ofInt k.bits (i:Int)).toNat=i:=by rw[BitVec.ofInt_natCast,BitVec.toNat_ofNat,mod_eq_of_lt ay]
 have h:(BitVec.ofInt k.bits (j:Int)).toNat=j:=by rw[BitVec.ofInt_natCast,BitVec.toNat_ofNat,mod_eq_of_lt ay]
 have l:f i j<2^m:=by
  rcases hf with ⟨_,rfl⟩ | ⟨_,rfl⟩ | ⟨_,rfl⟩
  ·exact Nat.lt_of_le_of_lt and_le_left hi
  ·exact or_lt_two_pow hi hj
  ·exact xor_lt_two_pow hi hj
 have b:k.wrap ((f i j:Nat):Int)=((f i j:Nat):Int):=by
  unfold IntKind.wrap;have r:((f i j:Nat):Int)%(2^k.bits:Int)=((f i j:Nat):Int):=by
   rw[CK,←Int.natCast_emod,mod_eq_of_lt ay]
  simp only[r];cases hs:k.signed with
  | false=>simp
  | true =>
   have u:2^m≤2^(k.bits-1):=Nat.pow_le_pow_right aN (by have :=zM hs;omega);have d:¬((f i j:Nat):Int)≥(2^(k.bits-1):Int):=by
    rw[CK];omega
   simp[d]
 unfold bitsOf;rcases hf with ⟨rfl,rfl⟩ | ⟨rfl,rfl⟩ | ⟨rfl,rfl⟩<;>simp only[BitVec.toNat_and,BitVec.toNat_or,BitVec.toNat_xor,a,h]<;>exact b
theorem V.CY{Mo:Mode}{P:Program}{K:World}{n:Nat}{c:Bool}{e:Env}{H:List aH}{dst:Option Tmp}{ty:TypeId}{pos:String}{af:Array Edge}{gd:Option (Nat×Bool)}{t t':TypeId}{x y:Operand}{i j:Nat}{k:IntKind}(m:Nat)(hx:OV c e x (.int k ((i:Nat):Int)))(hy:OV c e y (.int k ((j:Nat):Int)))(h:c=true→i<2^m∧j<2^m:=by intro _;constructor<;>(repeat' (first | assumption | omega | decide | exact Nat.lt_of_lt_of_le (aA.at_ (by assumption) aN _) aN | exact Nat.le_of_lt (Nat.lt_of_lt_of_le (aA.at_ (by assumption) aN _) aN) | exact Nat.lt_of_lt_of_le (aA.at_ (bL aN _ _) aN _) aN | apply xor_lt_two_pow | apply or_lt_two_pow | refine Nat.lt_of_le_of_lt and_le_left ?_ | exact Nat.lt_of_lt_of_le (mod_lt _ aN) aN | refine Nat.lt_of_le_of_lt (div_le_self _ _) ?_)))(hm:m≤k.bits:=by decide)(zM:k.signed=true→m<k.bits:=by decide):eX Mo P K n c e H ⟨dst,.binOp .and t x y t',ty,pos,af,gd⟩ (.int k ((i &&& j:Nat):Int)) :=
 V.aG (V.and hx hy) λa=>by rw[Vq (h a).1 (h a).2 hm zM (.inl ⟨Z,Z⟩)]
theorem V.Zv{Mo:Mode}{P:Program}{K:World}{n:Nat}{c:Bool}{e:Env}{H:List aH}{dst:Option Tmp}{ty:TypeId}{pos:String}{af:Array Edge}{gd:Option (Nat×Bool)}{t t':TypeId}{x y:Operand}{i j:Nat}{k:IntKind}(m:Nat)(hx:OV c e x (.int k ((i:Nat):Int)))(hy:OV c e y (.int k ((j:Nat):Int)))(h:c=true→i<2^m∧j<2^m:=by intro _;constructor<;>(repeat' (first | assumption | omega | decide | exact Nat.lt_of_lt_of_le (aA.at_ (by assumption) aN _) aN | exact Nat.le_of_lt (Nat.lt_of_lt_of_le (aA.at_ (by assumption) aN _) aN) | exact Nat.lt_of_lt_of_le (aA.at_ (bL aN _ _) aN _) aN | apply xor_lt_two_pow | apply or_lt_two_pow | refine Nat.lt_of_le_of_lt and_le_left ?_ | exact Nat.lt_of_lt_of_le (mod_lt _ aN) aN | refine Nat.lt_of_le_of_lt (div_le_self _ _) ?_)))(hm:m≤k.bits:=by decide)(zM:k.signed=true→m<k.bits:=by decide):eX Mo P K n c e H ⟨dst,.binOp .or t x y t',ty,pos,af,gd⟩ (.int k ((i ||| j:Nat):Int)) :=
 V.aG (V.or hx hy) λa=>by rw[Vq (h a).1 (h a).2 hm zM (.inr (.inl ⟨Z,Z⟩))]
theorem V.ru{Mo:Mode}{P:Program}{K:World}{n:Nat}{c:Bool}{e:Env}{H:List aH}{dst:Option Tmp}{ty:TypeId}{pos:String}{af:Array Edge}{gd:Option (Nat×Bool)}{t t':TypeId}{x y:Operand}{i j:Nat}{k:IntKind}(m:Nat)(hx:OV c e x (.int k ((i:Nat):Int)))(hy:OV c e y (.int k ((j:Nat):Int)))(h:c=true→i<2^m∧j<2^m:=by intro _;constructor<;>(repeat' (first | assumption | omega | decide | exact Nat.lt_of_lt_of_le (aA.at_ (by assumption) aN _) aN | exact Nat.le_of_lt (Nat.lt_of_lt_of_le (aA.at_ (by assumption) aN _) aN) | exact Nat.lt_of_lt_of_le (aA.at_ (bL aN _ _) aN _) aN | apply xor_lt_two_pow | apply or_lt_two_pow | refine Nat.lt_of_le_of_lt and_le_left ?_ | exact Nat.lt_of_lt_of_le (mod_lt _ aN) aN | refine Nat.lt_of_le_of_lt (div_le_self _ _) ?_)))(hm:m≤k.bits:=by decide)(zM:k.signed=true→m<k.bits:=by decide):eX Mo P K n c e H ⟨dst,.binOp .xor t x y t',ty,pos,af,gd⟩ (.int k ((i ^^^ j:Nat):Int)) :=
 V.aG (V.xor hx hy) λa=>by rw[Vq (h a).1 (h a).2 hm zM (.inr (.inr ⟨Z,Z⟩))]
theorem KJ{i:Nat}(h:i≤9223372036854775807):IntKind.i64.wrap (i:Int)=i:=wrap_i64 ay
theorem kN(hk:k.signed=false)(hM:mo k=M)(h:i<M):k.wrap (i:Int)=i:=by rw[zx hk,hM,mod_eq_of_lt h]
theorem V.qQ{Mo:Mode}{P:Program}{K:World}{n:Nat}{c:Bool}{e:Env}{H:List aH}{dst:Option Tmp}{ty:TypeId}{pos:String}{af:Array Edge}{gd:Option (Nat×Bool)}{x:Operand}{i:Nat}{s u:TypeId}{k k':IntKind}{ds:TypeDesc}(hs:∀w,(underlying s).run P w= .ok ds w)(ht:∀w,(underlying u).run P w= .ok (.int k') w)(hx:OV c e x (.int k ((i:Nat):Int)))(h:c=true→k'.wrap (i:Int)=i:=by intro _;first | exact KJ (by (repeat' (first | assumption | omega | decide | exact Nat.lt_of_lt_of_le (aA.at_ (by assumption) aN _) aN | exact Nat.le_of_lt (Nat.lt_of_lt_of_le (aA.at_ (by assumption) aN _) aN) | exact Nat.lt_of_lt_of_le (aA.at_ (bL aN _ _) aN _) aN | apply xor_lt_two_pow | apply or_lt_two_pow | refine Nat.lt_of_le_of_lt and_le_left ?_ | exact Nat.lt_of_lt_of_le (mod_lt _ aN) aN | refine Nat.lt_of_le_of_lt (div_le_self _ _) ?_))) | exact kN Z Z (by (repeat' (first | assumption | omega | decide | exact Nat.lt_of_lt_of_le (aA.at_ (by assumption) aN _) aN | exact Nat.le_of_lt (Nat.lt_of_lt_of_le (aA.at_ (by assumption) aN _) aN) | exact Nat.lt_of_lt_of_le (aA.at_ (bL aN _ _) aN _) aN | apply xor_lt_two_pow | apply or_lt_two_pow | refine Nat.lt_of_le_of_lt and_le_left ?_ | exact Nat.lt_of_lt_of_le (mod_lt _ aN) aN | refine Nat.lt_of_le_of_lt (div_le_self _ _) ?_)))) :
 eX Mo P K n c e H ⟨dst,.convert s u x,ty,pos,af,gd⟩ (.int k' ((i:Nat):Int)):=V.uy hs ht hx h
theorem V.G6{Mo:Mode}{P:Program}{K:World}{n:Nat}{c:Bool}{e:Env}{H:List aH}{dst:Option Tmp}{ty:TypeId}{pos:String}{af:Array Edge}{gd:Option (Nat×Bool)}{x:Operand}{i:Nat}{s u:TypeId}{k k':IntKind}{M:Nat}{ds:TypeDesc}(hs:∀w,(underlying s).run P w= .ok ds w)(ht:∀w,(underlying u).run P w= .ok (.int k') w)(hx:OV c e x (.int k ((i:Nat):Int)))(hk:k'.signed=false:=by rfl)(hM:mo k'=M:=by rfl) :
 eX Mo P K n c e H ⟨dst,.convert s u x,ty,pos,af,gd⟩ (.int k' ((i%M:Nat):Int)):=V.aG (V.FC hs ht hx) λ_=>by rw[zx hk,hM]
theorem V.G5(hx:OV c e x (.int k ((i:Nat):Int)))(hy:OV c e y (.int k ((j:Nat):Int))):eX Mo P K n c e H ⟨dst,.binOp .eql t x y t',ty,pos,af,gd⟩ (.bool (decide (i=j))):=V.aG (V.eql hx hy) λ_=>by congr 1;apply decide_eq_decide.2;omega
theorem V.XV(hx:OV c e x (.int k ((i:Nat):Int)))(hy:OV c e y (.int k ((j:Nat):Int))):eX Mo P K n c e H ⟨dst,.binOp .neq t x y t',ty,pos,af,gd⟩ (.bool (!decide (i=j))):=V.aG (V.neq hx hy) λ_=>by congr 2;apply decide_eq_decide.2;omega
theorem V.zI(hx:OV c e x (.int k ((i:Nat):Int)))(hy:OV c e y (.int k ((j:Nat):Int))):eX Mo P K n c e H ⟨dst,.binOp .lss t x y t',ty,pos,af,gd⟩ (.bool (decide (i<j))):=V.aG (V.lss hx hy) λ_=>by congr 1;apply decide_eq_decide.2;omega
theorem V.aar(hx:OV c e x (.int k ((i:Nat):Int)))(hy:OV c e y (.int k ((j:Nat):Int))):eX Mo P K n c e H ⟨dst,.binOp .gtr t x y t',ty,pos,af,gd⟩ (.bool (decide (j<i))):=V.aG (V.gtr hx hy) λ_=>by congr 1;apply decide_eq_decide.2;omega
theorem V.anM(hx:OV c e x (.int k ((i:Nat):Int)))(hy:OV c e y (.int k ((j:Nat):Int))):eX Mo P K n c e H ⟨dst,.binOp .geq t x y t',ty,pos,af,gd⟩ (.bool (decide (j≤i))):=V.aG (V.geq hx hy) λ_=>by congr 1;apply decide_eq_decide.2;omega
theorem ZP(h:i<2^m):(2^m-1) ^^^ i=2^m-1-i:=by
 apply eq_of_testBit_eq;intro q;rw[testBit_xor,testBit_two_pow_sub_one,show 2^m-1-i=2^m-(i+1) by omega,testBit_two_pow_sub_succ h];cases hq:decide (q<m) with
 | true=>simp
 | false =>
  have a:i.testBit q=false:=testBit_lt_two_pow (Nat.lt_of_lt_of_le h (Nat.pow_le_pow_right aN (by simpa using hq)));simp[a]
theorem V.ajX{Mo:Mode}{P:Program}{K:World}{n:Nat}{c:Bool}{e:Env}{H:List aH}{dst:Option Tmp}{ty:TypeId}{pos:String}{af:Array Edge}{gd:Option (Nat×Bool)}{t:TypeId}{x:Operand}{i:Nat}{k:IntKind}{M:Nat}(hx:OV c e x (.int k ((i:Nat):Int)))(hk:k.signed=false:=by rfl)(hM:mo k=M:=by rfl)(h:c=true→i<M:=by intro _; (repeat' (first | assumption | omega | decide | exact Nat.lt_of_lt_of_le (aA.at_ (by assumption) aN _) aN | exact Nat.le_of_lt (Nat.lt_of_lt_of_le (aA.at_ (by assumption) aN _) aN) | exact Nat.lt_of_lt_of_le (aA.at_ (bL aN _ _) aN _) aN | apply xor_lt_two_pow | apply or_lt_two_pow | refine Nat.lt_of_le_of_lt and_le_left ?_ | exact Nat.lt_of_lt_of_le (mod_lt _ aN) aN | refine Nat.lt_of_le_of_lt (div_le_self _ _) ?_))):eX Mo P K n c e H ⟨dst,.unOp .xor t x,ty,pos,af,gd⟩ (.int k ((M-1-i:Nat):Int)):=λd a w l _=>by
 show ((do pure (Next.value (←Op.unary .xor (a.eval x)))):Sem Next).run P w=_;rw[hx.ev d l];have b:=h d;subst hM;have y:k.max=((2^k.bits-1:Nat):Int):=by
  unfold IntKind.max;simp only[hk,Bool.false_eq_true,if_false];rw[CK];have :=Nat.two_pow_pos k.bits;omega
 have r:=Vq (op:= .xor) (f:=(· ^^^ ·)) (k:=k) (m:=k.bits) (i:=2^k.bits-1) (j:=i) (by have :=Nat.two_pow_pos k.bits;omega) b (Nat.le_refl _) (λh=>by rw[hk] at h;cases h) (.inr (.inr ⟨rfl,rfl⟩));have u:(Op.intBits .xor k k.max ((i:Nat):Int)).run P w= .ok (.int k ((mo k-1-i:Nat):Int)) w:=by
  have :(Op.intBits .xor k k.max ((i:Nat):Int)).run P w= .ok (.int k (bitsOf .xor k k.max i)) w:=by simp[Op.intBits,bitsOf]
  rw[this,y,r];show Result.ok (Value.int k (((2^k.bits-1) ^^^ i:Nat):Int)) w=_;rw[ZP b];rfl
 simp only[Op.unary,hk,Bool.false_eq_true,if_false,Sem.run_bind,u,Result.andThen_ok,Sem.run_pure]
theorem V.fV{Mo:Mode}{P:Program}{K:World}{n:Nat}{c:Bool}{e:Env}{H:List aH}{dst:Option Tmp}{ty:TypeId}{pos:String}{af:Array Edge}{gd:Option (Nat×Bool)}{x y:Operand}{j T E m b:Nat}{k:IntKind}(hT:tC P T m E 1)(hx:OV c e x (ptr b 0))(hy:OV c e y (.int k ((j:Nat):Int)))(hb:c=true→j<m:=by intro hc;first | omega | (simp at hc;omega)):eX Mo P K n c e H ⟨dst,.indexAddr T x y,ty,pos,af,gd⟩ (ptr b j) :=
 V.aG (V.YM hT hx hy (λhc=>by have :=hb hc;omega)) λ_=>by simp
theorem V.Lc{Mo:Mode}{P:Program}{K:World}{n:Nat}{c:Bool}{e:Env}{H:List aH}{dst:Option Tmp}{ty:TypeId}{pos:String}{af:Array Edge}{gd:Option (Nat×Bool)}{x y:Operand}{j T E m cap b:Nat}{k:IntKind}(hT:fq P T E 1)(hx:OV c e x (.slice (some ⟨b,0,none⟩) m cap))(hy:OV c e y (.int k ((j:Nat):Int)))(hb:c=true→j<m:=by intro hc;first | omega | (simp at hc;omega)):eX Mo P K n c e H ⟨dst,.indexAddr T x y,ty,pos,af,gd⟩ (ptr b j) :=
 V.aG (V.FW hT hx hy (λhc=>by have :=hb hc;omega)) λ_=>by simp
theorem V.jW{Mo:Mode}{P:Program}{K:World}{n:Nat}{c:Bool}{e:Env}{H:List aH}{dst:Option Tmp}{ty:TypeId}{pos:String}{af:Array Edge}{gd:Option (Nat×Bool)}{x y:Operand}{j T E m cap:Nat}{A:Option Addr}{k:IntKind}{v:Value}(hT:fq P T E 1)(hx:OV c e x (.slice A m cap))(hy:OV c e y (.int k ((j:Nat):Int)))(hb:c=true→j<m:=by intro hc;first | omega | (simp at hc;omega))(hr:c=true→Rd K H (A.map (·.add j)) v):eX Mo P K n c e H ⟨dst,.indexAddr T x y,ty,pos,af,gd⟩ (sp A j):=by grind [V.aG,V.dw]
theorem V.abx{Mo:Mode}{P:Program}{K:World}{n:Nat}{c:Bool}{e:Env}{H:List aH}{dst:Option Tmp}{ty:TypeId}{pos:String}{af:Array Edge}{gd:Option (Nat×Bool)}{x y:Operand}{j T E m:Nat}{k k':IntKind}{l:List Nat}(hT:tC P T m E 1)(hE:M9 P E)(hx:OV c e x (.agg (av k' l).toArray))(hy:OV c e y (.int k ((j:Nat):Int)))(hb:c=true→j<m:=by intro hc;first | omega | (simp at hc;omega))(hl:l.length=m:=by first | (simp only[length_set,length_replicate,length_append,Go.Proofs.YtcedojacbhnbiaaGreat.aI,Go.Proofs.YtcedojacbhnbiaaGreat.au, *];done) | rfl | assumption | (simp[length_set,length_replicate,Go.Proofs.YtcedojacbhnbiaaGreat.aI,length_append,Go.Proofs.YtcedojacbhnbiaaGreat.au, *];done) | (simp[length_set,length_replicate,Go.Proofs.YtcedojacbhnbiaaGreat.aI,length_append,Go.Proofs.YtcedojacbhnbiaaGreat.au];omega)):eX Mo P K n c e H ⟨dst,.index T x y,ty,pos,af,gd⟩ (.int k' ((l.getD j 0:Nat):Int)) :=
 λhc=>V.index (v:= .int k' ((l.getD j 0:Nat):Int)) hT hx hy (λhc=>by have :=hb hc;omega) (λhc=>nI hE (by
  have a:=jH k' l (i:=j) (by have :=hb hc;omega)
  simpa using a)) hc
theorem Rd.nat(hj:o<l.length):Rd K (ah b T (av k l)::H) (some ⟨b,o,none⟩) (.int k ((l.getD o 0:Nat):Int)):=Rd.here (jH k l hj)
theorem Rd.ag0(hj:o<l.length):Rd K (ah b T (av k l++r)::H) (some ⟨b,o,none⟩) (.int k ((l.getD o 0:Nat):Int)):=by grind [Rd.here,getElem?_append_left,au,jH]
theorem Seq.qH(h:Seq K H A m 1 (av k xs))(hj:j<m):Rd K H (A.map (·.add j)) (.int k (xs.getD j 0:Nat)):=by
 have a:=h.jo hj
 rwa [Nat.mul_one] at a
theorem bT.nat(ho:o<l.length):bT K (ah b T (av k l)::H) b o [.int k ((z:Nat):Int)] (ah b T (av k (l.set o z))::H):=by
 have h:=bT.at_ (K:=K) (H:=H) (b:=b) (T:=T) (cs:=av k l) (v:= .int k ((z:Nat):Int)) (o:=o) (by rw[au];exact ho)
 rwa [lu] at h
theorem bT.ag0(ho:o<l.length):bT K (ah b T (av k l++r)::H) b o [.int k ((z:Nat):Int)] (ah b T (av k (l.set o z)++r)::H):=by
 have h:=bT.at_ (K:=K) (H:=H) (b:=b) (T:=T) (cs:=av k l++r) (v:= .int k ((z:Nat):Int)) (o:=o) (by rw[length_append,au];omega)
 rwa [set_append,if_pos (by rw[au];exact ho),lu] at h
theorem bT.whole(h:vs.length=cs.length):bT K (ah b T cs::H) b 0 vs (ah b T vs::H):=by
 have a:=bT.front (K:=K) (H:=H) (b:=b) (T:=T) (cs:=cs) (vs:=vs) ay
 rwa [h,drop_length,append_nil] at a
theorem V.jd{Mo:Mode}{P:Program}{K:World}{n:Nat}{c:Bool}{e:Env}{H:List aH}{dst:Option Tmp}{ty:TypeId}{pos:String}{af:Array Edge}{gd:Option (Nat×Bool)}{x:Operand}{T s b:Nat}{k:IntKind}{l:List Nat}(hT:Ur P T s)(hx:OV c e x (ptr b 0))(hr:c=true→fH K H b 0 (av k l):=by intro _;repeat (first | exact fH.all | apply fH.up))(hs:l.length=s:=by first | (simp only[length_set,length_replicate,length_append,Go.Proofs.YtcedojacbhnbiaaGreat.aI,Go.Proofs.YtcedojacbhnbiaaGreat.au, *];done) | rfl | assumption | (simp[length_set,length_replicate,Go.Proofs.YtcedojacbhnbiaaGreat.aI,length_append,Go.Proofs.YtcedojacbhnbiaaGreat.au, *];done) | (simp[length_set,length_replicate,Go.Proofs.YtcedojacbhnbiaaGreat.aI,length_append,Go.Proofs.YtcedojacbhnbiaaGreat.au];omega)):eX Mo P K n c e H ⟨dst,.load T x,ty,pos,af,gd⟩ (.agg (av k l).toArray):=by grind [V.fE,au]
def dS(L:List Nat)(o:Nat)(l:List Nat):Prop:=∃r,L.drop o=l++r
theorem dS.hd:dS (l++r) 0 l:=⟨r,Z⟩
theorem dS.self:dS l 0 l:=⟨[],by simp⟩
theorem dS.tl(h:dS r o l):dS (bG B q m++r) (o+q) l:=by
 obtain⟨s,hs⟩:=h;exact⟨s,by rw[Nat.add_comm,←drop_drop,drop_left' (aI _ _ _),hs]⟩
theorem dS.p0:dS (bG 256 32 x++r) 0 (bG 256 32 x):=dS.hd
theorem dS.p1:dS (bG 256 32 x++bG 256 32 y) 32 (bG 256 32 y):=dS.tl (o:=0) dS.self
theorem dS.p2:dS (bG 256 32 x++(bG 256 32 y++r)) 32 (bG 256 32 y):=dS.tl (o:=0) dS.hd
theorem dS.p3:dS (bG 256 32 x++(bG 256 32 y++(bG 256 32 z++r))) 64 (bG 256 32 z):=dS.tl (o:=32) (dS.tl (o:=0) dS.hd)
theorem dS.p4:dS (bG 256 32 x++(bG 256 32 y++(bG 256 32 z++bG 256 32 t))) 96 (bG 256 32 t):=dS.tl (o:=64) (dS.tl (o:=32) (dS.tl (o:=0) dS.self))
theorem fH.stop(h:fH K (ah b T cs::H) b o l):fH K (ah b T cs::H) b o l:=h
theorem fH.part(h:dS L o l):fH K (ah b T (av k L)::H) b o (av k l):=by
 obtain⟨r,h⟩:=h;exact fH.here (by rw[kQ,h,dx];exact prefix_append _ _)
theorem V.abn{Mo:Mode}{P:Program}{K:World}{n:Nat}{c:Bool}{e:Env}{H:List aH}{dst:Option Tmp}{ty:TypeId}{pos:String}{af:Array Edge}{gd:Option (Nat×Bool)}{x:Operand}{T s b o:Nat}{k:IntKind}{l:List Nat}(hT:Ur P T s)(hx:OV c e x (ptr b o))(hr:c=true→fH K H b o (av k l):=by intro _;repeat (first | (refine fH.stop ?_;exact fH.part dS.p0) | apply fH.up))(hs:l.length=s:=by exact aI _ _ _):eX Mo P K n c e H ⟨dst,.load T x,ty,pos,af,gd⟩ (.agg (av k l).toArray):=by grind [V.fE,au]
theorem V.aa8{Mo:Mode}{P:Program}{K:World}{n:Nat}{c:Bool}{e:Env}{H:List aH}{dst:Option Tmp}{ty:TypeId}{pos:String}{af:Array Edge}{gd:Option (Nat×Bool)}{x:Operand}{T s b o:Nat}{k:IntKind}{l:List Nat}(hT:Ur P T s)(hx:OV c e x (ptr b o))(hr:c=true→fH K H b o (av k l):=by intro _;repeat (first | (refine fH.stop ?_;exact fH.part dS.p1) | apply fH.up))(hs:l.length=s:=by exact aI _ _ _):eX Mo P K n c e H ⟨dst,.load T x,ty,pos,af,gd⟩ (.agg (av k l).toArray):=by grind [V.fE,au]
theorem V.af6{Mo:Mode}{P:Program}{K:World}{n:Nat}{c:Bool}{e:Env}{H:List aH}{dst:Option Tmp}{ty:TypeId}{pos:String}{af:Array Edge}{gd:Option (Nat×Bool)}{x:Operand}{T s b o:Nat}{k:IntKind}{l:List Nat}(hT:Ur P T s)(hx:OV c e x (ptr b o))(hr:c=true→fH K H b o (av k l):=by intro _;repeat (first | (refine fH.stop ?_;exact fH.part dS.p2) | apply fH.up))(hs:l.length=s:=by exact aI _ _ _):eX Mo P K n c e H ⟨dst,.load T x,ty,pos,af,gd⟩ (.agg (av k l).toArray):=by grind [V.fE,au]
theorem V.abX{Mo:Mode}{P:Program}{K:World}{n:Nat}{c:Bool}{e:Env}{H:List aH}{dst:Option Tmp}{ty:TypeId}{pos:String}{af:Array Edge}{gd:Option (Nat×Bool)}{x:Operand}{T s b o:Nat}{k:IntKind}{l:List Nat}(hT:Ur P T s)(hx:OV c e x (ptr b o))(hr:c=true→fH K H b o (av k l):=by intro _;repeat (first | (refine fH.stop ?_;exact fH.part dS.p3) | apply fH.up))(hs:l.length=s:=by exact aI _ _ _):eX Mo P K n c e H ⟨dst,.load T x,ty,pos,af,gd⟩ (.agg (av k l).toArray):=by grind [V.fE,au]
theorem V.aaf{Mo:Mode}{P:Program}{K:World}{n:Nat}{c:Bool}{e:Env}{H:List aH}{dst:Option Tmp}{ty:TypeId}{pos:String}{af:Array Edge}{gd:Option (Nat×Bool)}{x:Operand}{T s b o:Nat}{k:IntKind}{l:List Nat}(hT:Ur P T s)(hx:OV c e x (ptr b o))(hr:c=true→fH K H b o (av k l):=by intro _;repeat (first | (refine fH.stop ?_;exact fH.part dS.p4) | apply fH.up))(hs:l.length=s:=by exact aI _ _ _):eX Mo P K n c e H ⟨dst,.load T x,ty,pos,af,gd⟩ (.agg (av k l).toArray):=by grind [V.fE,au]
theorem gP(k:IntKind)(l:List Nat):(av k l).all (·.oneCell')=true:=all_eq_true.2 (jB k l)
theorem V.d9{Mo:Mode}{P:Program}{K:World}{n:Nat}{c:Bool}{e:Env}{H:List aH}{dst:Option Tmp}{ty:TypeId}{pos:String}{af:Array Edge}{gd:Option (Nat×Bool)}{x:Operand}{T:Nat}{p:Option Addr}{v:Value}(hT:M9 P T)(hx:OV c e x (.pointer p))(hr:c=true→Rd K H p v:=by intro _;repeat (first | exact Rd.here Z | exact Rd.nat (by first | omega | (simp[length_set,length_replicate,Go.Proofs.YtcedojacbhnbiaaGreat.aI, *];done) | (simp[length_set,length_replicate,Go.Proofs.YtcedojacbhnbiaaGreat.aI];omega)) | exact Rd.ag0 (by first | omega | (simp[length_set,length_replicate,Go.Proofs.YtcedojacbhnbiaaGreat.aI, *];done) | (simp[length_set,length_replicate,Go.Proofs.YtcedojacbhnbiaaGreat.aI];omega)) | exact Seq.qH (by assumption) ay | apply Rd.up)):eX Mo P K n c e H ⟨dst,.load T x,ty,pos,af,gd⟩ v:=V.load hT hx hr
theorem V.ai5{T cap E:Nat}(hT:∀w,(underlying T).run P w= .ok (.array m E) w)(hx:OV c e x (.slice (some ⟨b,o,none⟩) q cap))(h:c=true→m≤q):eX Mo P K n c e H ⟨dst,.sliceToArrayPointer T x,ty,pos,af,gd⟩ (ptr b o):=λd a w j _=>by
 show ((do pure (Next.value (←Instr.arrayAt T (a.eval x)))):Sem Next).run P w=_;rw[hx.ev d j];simp[Instr.arrayAt,hT w,Nat.not_lt.2 (h d)]
theorem V.lX{T:Nat}{xs:List (Nat×Operand)}{vs:List (Nat×Value)}(gL:Ga c e (xs.map (·.2)) (vs.map (·.2)))(hi:xs.map (·.1)=vs.map (·.1))(hB:∀w,(Instr.build T vs.toArray).run P w= .ok (.agg (av k l).toArray) w) :
 eX Mo P K n c e H ⟨dst,.build T xs.toArray,ty,pos,af,gd⟩ (.agg (av k l).toArray):=V.build gL hi hB
theorem WL.an1(hx:OV true e x (.agg cs.toArray))(hd:blt d n=true)
 (h:∀b,WL Mo P K n ops rest Q ((d,ptr b 0)::e) (ah b T cs::H)):WL Mo P K n ops (⟨some d,.box T x,ty,pos,af,none⟩::rest) Q e H:=WL.box hx Z hd h
theorem WL.jN{e:Env}{T:Nat}(k:IntKind)(m:Nat)(hz:∀w,(zeroValue T).run P w= .ok z w)(hc:z.cells.toList=av k (replicate m 0))(hd:blt d n=true)
 (h:∀b,WL Mo P K n ops rest Q ((d,ptr b 0)::e) (ah b T (av k (replicate m 0))::H)):WL Mo P K n ops (⟨some d,.alloc T,ty,pos,af,none⟩::rest) Q e H:=WL.alloc hz hc hd h
theorem WL.iD{Mo:Mode}{P:Program}{K:World}{n:Nat}{e:Env}{H:List aH}{ty:TypeId}{pos:String}{af:Array Edge}{Q:iX}{ops:Array Oper}{rest:List Oper}{x y:Operand}{T s b:Nat}{k:IntKind}{l:List Nat}{H':List aH}(hT:∀w,(sizeOf T).run P w= .ok s w)(hx:OV true e x (ptr b 0))(hy:OV true e y (.agg (av k l).toArray))(h:WL Mo P K n ops rest Q e H')(hs:l.length=s:=by first | (simp only[length_set,length_replicate,length_append,Go.Proofs.YtcedojacbhnbiaaGreat.aI,Go.Proofs.YtcedojacbhnbiaaGreat.au, *];done) | rfl | assumption | (simp[length_set,length_replicate,Go.Proofs.YtcedojacbhnbiaaGreat.aI,length_append,Go.Proofs.YtcedojacbhnbiaaGreat.au, *];done) | (simp[length_set,length_replicate,Go.Proofs.YtcedojacbhnbiaaGreat.aI,length_append,Go.Proofs.YtcedojacbhnbiaaGreat.au];omega))
 (hu:bT K H b 0 (av k l) H':=by repeat (first | exact bT.whole (by first | (simp only[length_set,length_replicate,length_append,Go.Proofs.YtcedojacbhnbiaaGreat.aI,Go.Proofs.YtcedojacbhnbiaaGreat.au, *];done) | rfl | (simp[length_set,length_replicate,Go.Proofs.YtcedojacbhnbiaaGreat.aI,Go.Proofs.YtcedojacbhnbiaaGreat.au, *];done) | (simp[length_set,length_replicate,Go.Proofs.YtcedojacbhnbiaaGreat.aI,Go.Proofs.YtcedojacbhnbiaaGreat.au];omega)) | apply bT.up)):WL Mo P K n ops (⟨none,.store T x y,ty,pos,af,none⟩::rest) Q e H :=
 WL.store (cs:=av k l) hT hx hy Z (by rw[au];exact hs) (gP k l) hu h
theorem WL.gq{Mo:Mode}{P:Program}{K:World}{n:Nat}{e:Env}{H:List aH}{ty:TypeId}{pos:String}{af:Array Edge}{Q:iX}{ops:Array Oper}{rest:List Oper}{x y:Operand}{T b o z:Nat}{k:IntKind}{H':List aH}(hT:∀w,(sizeOf T).run P w= .ok 1 w)(hx:OV true e x (ptr b o))(hy:OV true e y (.int k ((z:Nat):Int)))
 (h:WL Mo P K n ops rest Q e H') (hu:bT K H b o [.int k ((z:Nat):Int)] H':=by repeat (first | exact bT.nat (by first | omega | (simp[length_set,length_replicate,Go.Proofs.YtcedojacbhnbiaaGreat.aI, *];done) | (simp[length_set,length_replicate,Go.Proofs.YtcedojacbhnbiaaGreat.aI];omega)) | exact bT.ag0 (by first | omega | (simp[length_set,length_replicate,Go.Proofs.YtcedojacbhnbiaaGreat.aI, *];done) | (simp[length_set,length_replicate,Go.Proofs.YtcedojacbhnbiaaGreat.aI];omega)) | exact bT.here Z Z | apply bT.up)):WL Mo P K n ops (⟨none,.store T x y,ty,pos,af,none⟩::rest) Q e H :=
 WL.store hT hx hy Z Z Z hu h
theorem WL.Vf{Mo:Mode}{P:Program}{K:World}{n:Nat}{e:Env}{H:List aH}{ty:TypeId}{pos:String}{af:Array Edge}{Q:iX}{ops:Array Oper}{rest:List Oper}{x y:Operand}{d T E bytes m:Nat}{k k' k'':IntKind}{l q:Int}(hT:P.underlying T=some (.slice E))(hE:dH P E 1 bytes (.int k 0))(hx:OV true e x (.int k' l))(hy:OV true e y (.int k'' q))
 (h:∀b,WL Mo P K n ops rest Q ((d,.slice (some ⟨b,0,none⟩) m m)::e) (ah b E (av k (replicate m 0))::H))
 (hl:l=(m:Int):=by first | rfl | omega) (hq:q=(m:Int):=by first | rfl | omega) (hb:(bytes:Int)*(m:Int)≤281474976710656:=by omega) (RH:blt 0 bytes=true:=by rfl) (hd:blt d n=true:=by rfl) :
 WL Mo P K n ops (⟨some d,.makeSlice T x y,ty,pos,af,none⟩::rest) Q e H :=
 WL.nM hT hE hx hy hl hq hb RH Z hd (λb=>by
  have a:=h b;rw[eD] at a;exact a)
theorem WL.Gn{Mo:Mode}{P:Program}{K:World}{n:Nat}{e:Env}{H:List aH}{ty:TypeId}{pos:String}{af:Array Edge}{Q:iX}{ops:Array Oper}{rest:List Oper}{x y:Operand}{d T E bytes m q cap':Nat}{k:IntKind}{z v:Value}{l news:List Nat}{B:Option Addr}(hT:P.underlying T=some (.slice E))(hE:dH P E 1 bytes z)(hx:OV true e x v)(hy:OV true e y (.slice B q cap'))
 (h:∀A cap,(A=none→m+q=0∧cap=0)→m+q≤cap→WL Mo P K n ops rest Q ((d,.slice A (m+q) cap)::e) (aV (.slice A (m+q) cap) E 1 (m+q) (av k (l++news))::H))
 (hn:Seq K H B q 1 (av k news):=by repeat (first | exact Seq.all Z | assumption | apply Seq.up)) (hb:(m+q)*bytes≤140737488355328:=by omega) (JC:blt 0 bytes=true:=by rfl) (hd:blt d n=true:=by rfl) :
 WL Mo P K n ops (⟨some d,.call ⟨.builtin .append,#[x,y],#[T,T]⟩,ty,pos,af,none⟩::rest) Q e (aV v E 1 m (av k l)::H) :=
 WL.append hT hE hx hy hn (jB k news) hb JC hd (λA cap b j=>by
  have a:=h A cap b j;rw[dx] at a;exact a)
theorem Seq.pz(hl:l.length=m):Seq K (ah b T (av k l)::H) (some ⟨b,0,none⟩) m 1 (av k l):=by simp_all [Seq.all,au,Nat.mul_one]
theorem Seq.akt(hl:l.length=m)(hp:l <+: l'):Seq K (ah b T (av k l')::H) (some ⟨b,0,none⟩) m 1 (av k l):=Seq.here (by rw[au,Nat.mul_one];exact hl) (by rw[drop_zero];exact hp.map _)
theorem R1.dh{Mo:Mode}{P:Program}{K:World}{n:Nat}{e:Env}{H:List aH}{b T s:Nat}{k:IntKind}{l:List Nat}{t:Tmp}(hx:look e t=some (ptr b 0))(hT:Ur P T s)(hr:fH K H b 0 (av k l):=by repeat (first | exact fH.all | apply fH.up))(hs:l.length=s:=by first | (simp only[length_set,length_replicate,length_append,Go.Proofs.YtcedojacbhnbiaaGreat.aI,Go.Proofs.YtcedojacbhnbiaaGreat.au, *];done) | rfl | assumption | (simp[length_set,length_replicate,Go.Proofs.YtcedojacbhnbiaaGreat.aI,length_append,Go.Proofs.YtcedojacbhnbiaaGreat.au, *];done) | (simp[length_set,length_replicate,Go.Proofs.YtcedojacbhnbiaaGreat.aI,length_append,Go.Proofs.YtcedojacbhnbiaaGreat.au];omega)):R1 Mo P K n (.cell t T) e H (.agg (av k l).toArray):=by grind [R1.jQ,au]
theorem bJ.three(hr:fn.results= #[r,r',r''])(h:R1 Mo P K n r e H v)(h':R1 Mo P K n r' e H v')(h'':R1 Mo P K n r'' e H v''):bJ Mo P K n fn e H (.tuple #[v,v',v'']):=λa w d b=>by
 rw[Bn,hr];simp[h a w d b,h' a w d b,h'' a w d b]
theorem Xb.av{P:Program}{E m:Nat}{k:IntKind}{l l':List Nat}{K:Nat}(hE:M9 P E)(hi:P.underlying E=some (.int k))(hl:l.length=m)(Dp:l'.length=m):∀q i,i+q=m→Xb P (K+1) E 1 (av k l).toArray (av k l').toArray (range' i q 1) (decide (l.drop i=l'.drop i))
 | 0,i,h=>by
  rw[drop_of_length_le ay,drop_of_length_le ay];exact Xb.nil
 | q+1,i,h=>by
  have h1:=Xb.av (k:=k) (K:=K) hE hi hl Dp q (i+1) ay;rw[range'_succ];have a:decide (l.drop i=l'.drop i)=(decide ((l.getD i 0:Int)=(l'.getD i 0:Nat))&&decide (l.drop (i+1)=l'.drop (i+1))):=by
   have b:l.drop i=l.getD i 0::l.drop (i+1):=by rw[drop_eq_getElem_cons ay];simp[getD,show i<l.length by omega]
   have d:l'.drop i=l'.getD i 0::l'.drop (i+1):=by rw[drop_eq_getElem_cons ay];simp[getD,show i<l'.length by omega]
   rw[b,d];simp only[List.cons.injEq,Bool.decide_and];congr 1;apply decide_eq_decide.2;omega
  rw[a];exact Xb.cons (nI hE (by have :=jH k l (i:=i) ay;simpa using this)) (nI hE (by have :=jH k l' (i:=i) ay;simpa using this)) (iW.int hi) h1
theorem iW.av{t E:Nat}(hu:P.underlying t=some (.array m E))(hs:∀w,(sizeOf E).run P w= .ok 1 w)(hE:M9 P E)(hi:P.underlying E=some (.int k))(hl:l.length=m)(Dp:l'.length=m):iW P (K+2) t (.agg (Go.Proofs.YtcedojacbhnbiaaGreat.av k l).toArray) (.agg (Go.Proofs.YtcedojacbhnbiaaGreat.av k l').toArray) (decide (l=l')) :=
 iW.array hu hs (Xb.av (K:=K) hE hi hl Dp m 0 ay)
def vK(P:Program)(f:FuncId)(args:List Value)(v:Value):Prop:=∀w,(callFunc f args.toArray).run P w= .ok (.value v) w
theorem V.ext(hf:c=true→vK P f vs v)(gL:Ga c e xs vs):eX Mo P K n c e H ⟨dst,.call ⟨.value (.func f),xs.toArray,ats⟩,ty,pos,af,gd⟩ v:=λb a w d _=>by
 rw[execOp_call_go,map_toArray,gL.ev d b]
 simpa using hf b w
theorem WC.Gp{id:Nat}{l:List Oper}(hm:P.follows .mixedOrders=true)(h:WA ⟨none,ds⟩ P K n H l.toArray Q l.length (Array.replicate l.length false) e (A::H)):WC ⟨none,ds⟩ P K n (.region id l.toArray true) Q e (A::H):=WC.dM H hm h
def Zt:aH where
 jA _:=False
 holds _:=True
 loc _ _ _ _:=trivial
theorem Sat.emp(h:Sat K w H):Sat K w (Zt::H):=⟨h.1,trivial,λ_ h=>h.elim,λ_ h=>h.elim,h.2⟩
end Go.Sl
namespace Go.Proofs.YtcedojacbhnbiaaGreat
open Go.Sl Go.RowKit Tryz List Nat
theorem jJ(x y c:Nat)(hc:c≤1):vK prog 294 [.int .u64 (x:Int),.int .u64 (y:Int),.int .u64 (c:Int)]
 (.tuple #[.int .u64 (((x+y+c)%18446744073709551616:Nat):Int),.int .u64 (((x+y+c)/18446744073709551616:Nat):Int)]):=λw=>by
 rw[run_callFunc_extern func294 (by kernel_rfl) (by kernel_rfl) (by kernel_rfl) (e:=add64Entry) (by kernel_rfl),run_add64 x y c ay ay ay ay];simp only[Result.andThen];congr 5<;>omega
def BD:Array Value→Sem Value:=λa=>do
 let (x,y,b) ←Extern.MathBitsCarry.three "Sub64" a
 pure (Extern.MathBitsCarry.pair ((x+Extern.MathBitsCarry.m64-y-b)%Extern.MathBitsCarry.m64) (if x<y+b then 1 else 0))
theorem Zl(x y b:Nat)(hb:b≤1)(w:World) :
 (BD #[.int .u64 x,.int .u64 y,.int .u64 b]).run P w =
  .ok (.tuple #[.int .u64 (((x+18446744073709551616-y-b)%18446744073709551616:Nat):Int),.int .u64 ((if x<y+b then 1 else 0:Nat):Int)]) w:=by
 have :b=0∨b=1:=ay;rcases this with rfl | rfl<;>rfl
theorem zZ(x y b:Nat)(hb:b≤1):vK prog 291 [.int .u64 (x:Int),.int .u64 (y:Int),.int .u64 (b:Int)]
 (.tuple #[.int .u64 (((x+18446744073709551616-y-b)%18446744073709551616:Nat):Int),.int .u64 ((if x<y+b then 1 else 0:Nat):Int)]):=λw=>by
 rw[run_callFunc_extern func291 (by kernel_rfl) (by kernel_rfl) (by kernel_rfl) (e:=BD) (by kernel_rfl)];have h:=Zl (P:=prog) x y b hb w;show ((BD #[.int .u64 x,.int .u64 y,.int .u64 b]).run prog w).andThen _=_;rw[h];rfl
end Go.Proofs.YtcedojacbhnbiaaGreat
