import Derived.Test.YtcedojacbhnbiaaGreatP1
import Derived.Lib.AppendZeros
import Derived.KernelRfl
import Derived.Laws.Externs
set_option linter.unusedSimpArgs false
set_option linter.unusedVariables false
set_option maxHeartbeats 2000000
set_option maxRecDepth 20000
namespace Go.Sl
open Go.RowKit Go.BigFrame List Nat
theorem Al{z:Value}(hz:z.cells= #[z])(n:Nat):Builtin.zeroCells z.cells n=(replicate n z).toArray:=by
 rw[hz];apply Array.ext';apply ext_getElem
 ·simp[Builtin.zeroCells]
 ·intro i h1 h2;simp[Builtin.zeroCells,mod_one]
section
variable{P:Program}(w:World)(t tn ty e:TypeId)(i:TypeInfo)(z:Value)(k kn:IntKind)
theorem Eh(ht:P.underlying t=some (.slice e))(htn:P.underlying tn=some (.int kn))(hi:P.info? e=some i)(hz:i.zero=some z)(JX:z.cells= #[z])(h1:z.oneCell'=true)(Kl:i.size=1)
 (b sLen sCap n:Nat) (wI:sLen+n≤sCap) (hc:∀j,j<n→(w.cell? ⟨b,sLen+j,none⟩).isSome=true) (hf:∀j,j<n→w.frozen? ⟨b,sLen+j,none⟩=false) (alN:(n:Int)≤1000000000) (h48:n*i.bytes≤281474976710656) :
 (Builtin.append_ #[t,tn] ty #[.slice (some ⟨b,0,none⟩) sLen sCap,.int k n]).run P w= .ok (.slice (some ⟨b,0,none⟩) (sLen+n) sCap) (w.setCells b sLen (replicate n z)):=by
 have hw:IntKind.i64.wrap (n:Int)=n:=by rw[IntKind.wrap_i64];omega
 have ah5:¬(281474976710656<(n:Int)*(i.bytes:Int)):=by rw[←Int.natCast_mul];omega
 have aib:¬((n:Int)<0):=ay;have hw0:IntKind.i64.wrap 0=0:=by decide
 have dJ:=run_storeCells_cells (P:=P) b sLen (replicate n z) 0 w (by simpa using hc) (by simpa using hf) (by intro v hv;rw[eq_of_mem_replicate hv];exact h1);simp only[Nat.add_zero] at dJ;have hzc:=Al JX n;by_cases h0:n=0
 ·subst h0;simp[Builtin.append_,run_underlying ht,run_underlying htn,sizeOf,typeInfo,zeroValue,hi,hz,asInt,asIntOf,hw0,Kl,storeCells,World.setCells,show sLen≤sCap by omega,jR]
 ·simp[Builtin.append_,run_underlying ht,run_underlying htn,sizeOf,typeInfo,zeroValue,hi,hz,asInt,asIntOf,hw,aib,h0,Kl,ah5,wI,hzc,jR,dJ]
theorem uq(ht:P.underlying t=some (.slice e))(htn:P.underlying tn=some (.int kn))(hi:P.info? e=some i)(hz:i.zero=some z)(JX:z.cells= #[z])(Kl:i.size=1)
 (base:Option Addr) (sLen sCap n:Nat) (olds:List Value) (hold:(Builtin.firstCells 1 sLen (.slice base sLen sCap)).run P w.drew= .ok olds.toArray w.drew) (hg:sCap<sLen+n) (alN:(sLen+n:Int)≤1000000000) (h48:(sLen+n)*i.bytes≤140737488355328) :
 (Builtin.append_ #[t,tn] ty #[.slice base sLen sCap,.int k n]).run P w= .ok (.slice (some ⟨w.heap.size,0,none⟩) (sLen+n) (grownCap w (sLen+n) sCap e))
  (w.drew.alloc (.cells ((olds++replicate n z).toArray++Builtin.zeroCells z.cells (grownCap w (sLen+n) sCap e-(sLen+n))) e)):=by
 have hw:IntKind.i64.wrap (n:Int)=n:=by rw[IntKind.wrap_i64];omega
 have hnb:n*i.bytes≤(sLen+n)*i.bytes:=mul_le_mul_right _ ay;have ah5:¬(281474976710656<(n:Int)*(i.bytes:Int)):=by rw[←Int.natCast_mul];omega
 have aib:¬((n:Int)<0):=ay;have hw0:IntKind.i64.wrap 0=0:=by decide
 have JW:=growslice_fits hg h48;have aio:¬(281474976710656<Builtin.nextslicecap (sLen+n) sCap*i.bytes):=ay;have hnr:¬(sLen+n≤sCap):=ay;have aod:¬(9223372036854775807<((sLen:Int)+(n:Int))):=ay;have hzc:=Al JX n;by_cases h0:n=0
 ·subst h0;simp only[Nat.add_zero] at hnr aio ⊢;simp[Builtin.append_,run_underlying ht,run_underlying htn,sizeOf,typeInfo,zeroValue,hi,hz,asInt,asIntOf,hw0,Kl,aio,hnr,hold,Question.forced,newRow,grownCap,show ¬(9223372036854775807<(sLen:Int)) by omega]
 ·simp[Builtin.append_,run_underlying ht,run_underlying htn,sizeOf,typeInfo,zeroValue,hi,hz,asInt,asIntOf,hw,aib,h0,Kl,ah5,aio,aod,hnr,hzc,hold,Question.forced,newRow,grownCap];congr 2;apply Array.ext';simp[append_assoc]
end
section
variable{Mo:Mode}{P:Program}{K:World}{n:Nat}{Q:fG}{e:Env}{H:List aA}{ty:TypeId}{pos:String}{af:Array Edge}{ops:Array Oper}{rest:List Oper}
theorem WL.GR{d:Nat}{x y:Operand}{T Tn E bytes m q:Nat}{kn k:IntKind}{z v:Value}{cs:List Value}{l:Int}(hT:P.underlying T=some (.slice E))(hTn:P.underlying Tn=some (.int kn))(hE:dX P E 1 bytes z)(JX:z.cells= #[z])(h1:z.oneCell'=true)
 (hx:OV true e x v) (hy:OV true e y (.int k l)) (hl:l=(q:Int)) (hb:(m+q)*bytes≤140737488355328) (hmq:m+q≤1000000000) (hd:blt d n=true)
 (h:∀A cap,(A=none→m+q=0∧cap=0)→m+q≤cap→WL Mo P K n ops rest Q ((d,.slice A (m+q) cap)::e) (bq (.slice A (m+q) cap) E 1 (m+q) (cs++replicate q z)::H)) :
 WL Mo P K n ops (⟨some d,.call ⟨.builtin .append,#[x,y],#[T,Tn]⟩,ty,pos,af,none⟩::rest) Q e (bq v E 1 m cs::H):=by
 refine WL.SS (R:=fun u H'=>∃A cap,u= .slice A (m+q) cap∧(A=none→m+q=0∧cap=0)∧m+q≤cap∧H'=bq (.slice A (m+q) cap) E 1 (m+q) (cs++replicate q z)::H) (fun a w ha hw=> ?_) hd (fun u H' ⟨A,cap,e1,e2,e3,e4⟩=>by subst e1 e4;exact h A cap e2 e3);obtain⟨i,hi,hz,hs,Vg,hzs,h0⟩:=hE;subst hl Vg;have tT:∀v' w',(execOp a.eval ⟨some d,.call ⟨.builtin .append,#[x,y],#[T,Tn]⟩,ty,pos,af,none⟩).run P w= .ok (.value v') w'→w'.ownsRow 0 E 1 v' (m+q) (cs++replicate q z)→w.grownBy w' v.ownBlock →
  (v'.ownBlock=none∨v'.ownBlock=v.ownBlock∨v'.ownBlock=some w.heap.size)→∃u w'' H',(execOp a.eval ⟨some d,.call ⟨.builtin .append,#[x,y],#[T,Tn]⟩,ty,pos,af,none⟩).run P w= .ok (.value u) w''∧Sat K w'' H' ∧
   ∃ A cap,u= .slice A (m+q) cap∧(A=none→m+q=0∧cap=0)∧m+q≤cap∧H'=bq (.slice A (m+q) cap) E 1 (m+q) (cs++replicate q z)::H:=fun v' w' K3 BZ hg Zo=>by
  obtain⟨A,cap,rfl,k1,_,k2⟩:=bq.shape BZ;refine⟨_,w',_,K3,⟨hw.1.grow hg.os hg.tape hg.output hg.size, ?_⟩,A,cap,rfl,k2,k1,rfl⟩;refine hw.2.set (A':=bq (.slice A (m+q) cap) E 1 (m+q) (cs++replicate q z)) hg.size (fun b tY oJ=>hg.block b oJ (fun e=>tY e.symm)) BZ (fun b tY=> ?_);have tX:(Value.slice A (m+q) cap).ownBlock=some b:=tY;rcases Zo with h' | h' | h'
  ·rw[h'] at tX;cases tX
  ·exact .inl (h'.symm.trans tX)
  ·rw[h'] at tX;injection tX with tX
   subst tX;exact .inr ⟨Nat.le_refl _,(BZ.lt _ h').2⟩
 have BZ:w.ownsRow 0 E 1 v m cs:=hw.head;have KO:=hx.ev rfl ha;have Qr:=hy.ev rfl ha;have JI:∀r w',(Builtin.append_ #[T,Tn] ty #[v,.int k q]).run P w= .ok r w'→(execOp a.eval ⟨some d,.call ⟨.builtin .append,#[x,y],#[T,Tn]⟩,ty,pos,af,none⟩).run P w= .ok (.value r) w':=fun r w' hr=>by
  rw[execOp_builtin,builtin_append];simp[KO,Qr,hr]
 have Kk:cs.length=m:=by have :=BZ.1;omega
 have afi:(1000000000:Nat)≤maxLen:=by simp only[maxLen];decide
 have grown:∀(Po:Nat),Po<m+q→∀(row:Option Nat),
  (w.drew.alloc (.cells ((cs++replicate q z).toArray++Builtin.zeroCells z.cells (grownCap w (m+q) Po E-(m+q))) E)).ownsRow 0 E 1 (.slice (some ⟨w.heap.size,0,none⟩) (m+q) (grownCap w (m+q) Po E)) (m+q) (cs++replicate q z) ∧
  w.grownBy (w.drew.alloc (.cells ((cs++replicate q z).toArray++Builtin.zeroCells z.cells (grownCap w (m+q) Po E-(m+q))) E)) row:=by
  intro Po ho row;have hge:=grownCap_ge w (m+q) Po E;have hcm:grownCap w (m+q) Po E≤maxLen:=grownCap_le_maxLen w (m+q) Po E ay;refine⟨⟨by simp[Kk],.inr ⟨w.heap.size,_,_,rfl,zero_le _,heap_alloc_new w.drew _,hge,hcm, ?_, ?_⟩⟩,⟨rfl,rfl,rfl,by simp,fun k hk _=>heap_alloc_old w.drew _ hk⟩⟩
  ·simp only[Array.size_append,size_toArray,size_zeroCells,hzs,length_append,length_replicate,Kk,Nat.mul_one];omega
  ·have hlen:(m+q)*1=(cs++replicate q z).length:=by simp[Kk]
   rw[hlen];simp only[Array.toList_append];exact take_left
 rcases BZ.2 with ⟨rfl,rfl⟩ | ⟨g,cap,cur,rfl,hbg,hg,hnc,hcm,p8,ala⟩
 ·have hx:cs=[]:=eq_nil_of_length_eq_zero Kk;subst hx;by_cases hm:q=0
  ·subst hm;refine tT (.slice none 0 0) w (JI _ w ?_) (by simpa using World.ownsRow_nil w 0 E 1) ⟨rfl,rfl,rfl,Nat.le_refl _,fun _ _ _=>rfl⟩ (.inr (.inl rfl));simp[Builtin.append_,run_underlying hT,run_underlying hTn,sizeOf,typeInfo,hi,asInt,asIntOf,IntKind.wrap_i64,storeCells,hs]
  ·have hr:=uq (P:=P) w T Tn ty E i z k kn hT hTn hi hz JX hs none 0 0 q [] (by simp[Builtin.firstCells]) ay ay (by simpa using hb);have hgr:=grown 0 ay (Value.ownBlock (.slice none 0 0));simp only[Nat.zero_add] at hr hgr;exact tT _ _ (JI _ _ hr) (by simpa using hgr.1) hgr.2 (.inr (.inr rfl))
 ·by_cases wI:m+q≤cap
  ·have Kl:cur.size=cap:=by omega
   have J8:∀j (hj:j<q),w.cell? ⟨g,m+j,none⟩=some (cur[m+j]'ay):=fun j hj=>by simp[World.cell?,hg,show m+j<cur.size by omega]
   have hr:=Eh (P:=P) w T Tn ty E i z k kn hT hTn hi hz JX h1 hs g m cap q wI (fun j hj=>by rw[J8 j hj];rfl) (fun j hj=>by simp[World.frozen?,hg]) ay (by have :=mul_le_mul_right i.bytes (show q≤m+q by omega);omega);obtain⟨e1,e2,e3,e4⟩:=lQ g (replicate q z) m w;have hh:=tu g E (0,0) (replicate q z) m w cur.toList (by simpa using hg);have Pg:=mU cur.toList (replicate q z) m (by simp;omega);refine tT _ _ (JI _ _ hr) ⟨by simp[Kk],.inr ⟨g,cap,(pU cur.toList m (replicate q z)).toArray,rfl,zero_le _,hh,wI,hcm, ?_, ?_⟩⟩ ⟨e1,e2,e3,Nat.le_of_eq e4.symm,fun k hk nk=>lg g k (fun e=>nk (by simp[Value.ownBlock,e])) _ _ _⟩ (.inr (.inl rfl))
   ·simp[Fq];omega
   ·rw[toList_toArray] ;rw[Pg,Nat.mul_one,show cur.toList.take m=cs by rw[←ala,Nat.mul_one],take_left' (by simp[Kk])]
  ·have hold:(Builtin.firstCells 1 m (.slice (some ⟨g,0,none⟩) m cap)).run P w.drew= .ok cs.toArray w.drew:=by
    have hc:=BZ.cells (g:=g) rfl;have :=run_loadCells_list (P:=P) w.drew ⟨g,0,none⟩ cs (fun j v hj=>hc j v hj);rw[Kk] at this
    simpa [Builtin.firstCells] using this
   have hr:=uq (P:=P) w T Tn ty E i z k kn hT hTn hi hz JX hs (some ⟨g,0,none⟩) m cap q cs hold ay ay hb;have hgr:=grown cap ay (Value.ownBlock (.slice (some ⟨g,0,none⟩) m cap));exact tT _ _ (JI _ _ hr) hgr.1 hgr.2 (.inr (.inr rfl))
end
section
variable{Mo:Mode}{P:Program}{K:World}{n:Nat}{e:Env}{H:List aA}{c:Bool}{dst:Option Tmp}{ty:TypeId}{pos:String}{af:Array Edge}{gd:Option (Nat×Bool)}
theorem V.am4{x:Operand}{t:TypeId}{i:Int}(hx:OV c e x (.i i))(h:c=true→ -9223372036854775807≤i∧i≤9223372036854775807):eX Mo P K n c e H ⟨dst,.unOp .neg t x,ty,pos,af,gd⟩ (.i (-i)):=fun hc a w ha _=>by
 show ((do pure (Next.value (←Op.unary .neg (a.eval x)))):Sem Next).run P w=_;rw[hx.ev hc ha];have h1:=h hc;have h2:IntKind.i64.wrap (-i)= -i:=by rw[IntKind.wrap_i64];omega
 simp[Op.unary,Op.intArith,h2]
end
end Go.Sl
namespace Go.Sl
open Go.RowKit List Nat
structure aO(l:List Char)(X Y:Prop):Prop where
 f:Y→X
structure StS(s:String)(X Y:Prop):Prop where
 f:Y→X
theorem StS.o{l:List Char}{X Y:Prop}(h:aO l X Y):StS (String.ofList l) X Y:=⟨h.f⟩
theorem aX{a b:Prop}(x:a)(y:b):a∧b:=⟨x,y⟩
theorem aO.z{X:Prop}:aO [] X X:=⟨id⟩
structure Ix(i:Nat):Prop where
theorem aO.s(k:Nat){l:List Char}{X Z Y:Prop}(h:Z→X)(t:aO l Z Y):aO (Char.ofNat k::l) X Y:=⟨fun y=>h (t.f y)⟩
theorem aO.w(k:Nat){i:Nat}{l:List Char}{X Z Y:Prop}(h:Ix i→Z→X)(t:aO l Z Y):aO (Char.ofNat k::Char.ofNat (i+48)::l) X Y:=⟨fun y=>h ⟨⟩ (t.f y)⟩
theorem aO.m2(k a b:Nat){l:List Char}{X Y:Prop}(t:aO (Char.ofNat a::Char.ofNat b::l) X Y):aO (Char.ofNat k::l) X Y:=⟨t.f⟩
theorem aO.m3(k a b d:Nat){l:List Char}{X Y:Prop}(t:aO (Char.ofNat a::Char.ofNat b::Char.ofNat d::l) X Y):aO (Char.ofNat k::l) X Y:=⟨t.f⟩
theorem aO.m4(k a b d e:Nat){l:List Char}{X Y:Prop}(t:aO (Char.ofNat a::Char.ofNat b::Char.ofNat d::Char.ofNat e::l) X Y):aO (Char.ofNat k::l) X Y:=⟨t.f⟩
theorem aO.m5(k a b d e f:Nat){l:List Char}{X Y:Prop}(t:aO (Char.ofNat a::Char.ofNat b::Char.ofNat d::Char.ofNat e::Char.ofNat f::l) X Y):aO (Char.ofNat k::l) X Y:=⟨t.f⟩
structure gB(l:List Char)(X Y:Prop):Prop where
 f:Y→X
theorem aO.q{l:List Char}{X Y:Prop}(h:gB l X Y):aO (Char.ofNat 126::l) X Y:=⟨h.f⟩
theorem gB.s(k:Nat){l:List Char}{X Z Y:Prop}(h:Z→X)(t:aO l Z Y):gB (Char.ofNat k::l) X Y:=⟨fun y=>h (t.f y)⟩
theorem gB.w(k:Nat){i:Nat}{l:List Char}{X Z Y:Prop}(h:Ix i→Z→X)(t:aO l Z Y):gB (Char.ofNat k::Char.ofNat (i+48)::l) X Y:=⟨fun y=>h ⟨⟩ (t.f y)⟩
theorem gB.m2(k a b:Nat){l:List Char}{X Y:Prop}(t:aO (Char.ofNat a::Char.ofNat b::l) X Y):gB (Char.ofNat k::l) X Y:=⟨t.f⟩
theorem gB.m4(k a b d e:Nat){l:List Char}{X Y:Prop}(t:aO (Char.ofNat a::Char.ofNat b::Char.ofNat d::Char.ofNat e::l) X Y):gB (Char.ofNat k::l) X Y:=⟨t.f⟩
structure iE(l:List Char)(X Y:Prop):Prop where
 f:Y→X
theorem gB.q{l:List Char}{X Y:Prop}(h:iE l X Y):gB (Char.ofNat 126::l) X Y:=⟨h.f⟩
theorem iE.s(k:Nat){l:List Char}{X Z Y:Prop}(h:Z→X)(t:aO l Z Y):iE (Char.ofNat k::l) X Y:=⟨fun y=>h (t.f y)⟩
theorem iE.w(k:Nat){i:Nat}{l:List Char}{X Z Y:Prop}(h:Ix i→Z→X)(t:aO l Z Y):iE (Char.ofNat k::Char.ofNat (i+48)::l) X Y:=⟨fun y=>h ⟨⟩ (t.f y)⟩
structure EB(l:List Char)(X Y:Prop):Prop where
 f:Y→X
theorem iE.q{l:List Char}{X Y:Prop}(h:EB l X Y):iE (Char.ofNat 126::l) X Y:=⟨h.f⟩
theorem EB.s(k:Nat){l:List Char}{X Z Y:Prop}(h:Z→X)(t:aO l Z Y):EB (Char.ofNat k::l) X Y:=⟨fun y=>h (t.f y)⟩
theorem EB.w(k:Nat){i:Nat}{l:List Char}{X Z Y:Prop}(h:Ix i→Z→X)(t:aO l Z Y):EB (Char.ofNat k::Char.ofNat (i+48)::l) X Y:=⟨fun y=>h ⟨⟩ (t.f y)⟩
theorem EB.m2(k a b:Nat){l:List Char}{X Y:Prop}(t:aO (Char.ofNat a::Char.ofNat b::l) X Y):EB (Char.ofNat k::l) X Y:=⟨t.f⟩
class zx(P:Program)(T:Nat)(d:outParam TypeDesc):Prop where
 h:∀w,(underlying T).run P w= .ok d w
class Cb(P:Program)(T:Nat):Prop where
 h:Nf P T
class y9(P:Program)(T:Nat)(s:outParam Nat):Prop where
 h:Ue P T s
class jf(P:Program)(S f:Nat)(off:outParam Nat):Prop where
 h:oP P S f off
class tH(P:Program)(T:Nat)(s:outParam Nat):Prop where
 h:∀w,(sizeOf T).run P w= .ok s w
class Ri(P:Program)(T:Nat)(d:outParam TypeDesc):Prop where
 h:P.underlying T=some d
class ZvT(P:Program)(T:Nat)(z:outParam Value):Prop where
 h:∀w,(zeroValue T).run P w= .ok z w
class RY(P:Program)(T:Nat)(cs:outParam (List Value)):Prop where
 h:∃z,(∀w,(zeroValue T).run P w= .ok z w)∧z.cells.toList=cs
class BdT(P:Program)(T:Nat)(v:outParam Value):Prop where
 h:∀w,(Instr.build T [].toArray).run P w= .ok v w
class ElT(P:Program)(E:Nat)(s b:outParam Nat)(z:outParam Value):Prop where
 h:dX P E s b z
class LB(P:Program)(T:Nat)(m E s:outParam Nat):Prop where
 h:uL P T m E s
class WS(P:Program)(T:Nat)(E s:outParam Nat):Prop where
 h:gI P T E s
section
variable{Mo:Mode}{P:Program}{K:World}{n:Nat}{ops:Array Oper}{Q:fG}{c:Bool}{e:Env}{H F0:List aA}{ty:TypeId}{pos:String}{af:Array Edge}{ds:List Deferred}
theorem WA.tI{fuel:Nat}{listed:Array Bool}{d i:Nat}{op:Op}{v:Value}(ix:Ix i)(hi:ops[i]? =some ⟨some d,op,ty,pos,af,none⟩)(hv:eX Mo P K n true e F0 ⟨some d,op,ty,pos,af,none⟩ v)
 (h:WA Mo P K n F0 ops Q fuel (listed.setIfInBounds i true) ((d,v)::e) H) (hd:blt d n=true:=by rfl) (hF:∀w,Sat K w H→Sat K w F0:=by intro w h;repeat (first | exact h | replace h:=h.tail)) (hs:Region.noSelect ops=true:=by kernel_rfl) (hf:Region.free .any ops listed i=true:=by kernel_rfl)
 (hr:(Region.ready .any ops listed).contains i=true:=by kernel_rfl) (hQ:∀c (p:Mode×Env) H,¬Q p.1 (.panic c) p.2 H:=by exact fun _ _ _ h=>h):WA Mo P K n F0 ops Q (fuel+1) listed e H:=WA.take i hF hi hs hf hr hQ hv hd h
theorem WA.oI{fuel:Nat}{listed:Array Bool}{i:Nat}{o:Oper}(ix:Ix i)(hi:ops[i]? =some o)(h:WL ⟨none,ds⟩ P K n ops [o] (zW (fun Mo=>WA Mo P K n F0 ops Q fuel (listed.setIfInBounds i true)) Q) e H)
 (hF:∀w,Sat K w H→Sat K w F0:=by intro w h;repeat (first | exact h | replace h:=h.tail)) (hr:Region.ready .any ops listed=[i]:=by kernel_rfl):WA ⟨none,ds⟩ P K n F0 ops Q (fuel+1) listed e H:=WA.one hF hr hi h
theorem aG.qe{fn:Func}{u:Value}{t:Tmp}{F:List aA}{r:Option (Option Nat)}(hr:fn.results= #[.tmp t]:=by rfl)(h:look e t=some u:=by rfl)(hs:∀w,Sat K w H→Sat K w F:=by intro w h;repeat (first | exact h | replace h:=h.tail)):aG P K n fn (fun v H'=>v=u∧H'=F) ⟨r,[]⟩ .ret e H:=aG.ret (bI.tmp hr h) hs ⟨rfl,rfl⟩
theorem aG.qv{fn:Func}{u v:Value}{t:Tmp}{F:List aA}{r:Option (Option Nat)}(hv:v=u)(hr:fn.results= #[.tmp t]:=by rfl)(h:look e t=some v:=by rfl)(hs:∀w,Sat K w H→Sat K w F:=by intro w h;repeat (first | exact h | replace h:=h.tail)):aG P K n fn (fun v H'=>v=u∧H'=F) ⟨r,[]⟩ .ret e H:=aG.ret (bI.tmp hr h) hs ⟨hv,rfl⟩
theorem WC.afG{c:Operand}{x y:Code}{p:Prop}[Decidable p](hc:tN e c=some (.bool (decide p)))(ht:p→WC Mo P K n x Q e H)(hf:¬p→WC Mo P K n y Q e H):WC Mo P K n (.cond c x y) Q e H :=
 WC.cond hc (fun h=>ht (of_decide_eq_true h)) fun h=>hf (of_decide_eq_false h)
theorem WC.akM{c:Operand}{x y:Code}{p:Prop}[Decidable p](hc:tN e c=some (.bool (!decide p)))(ht:¬p→WC Mo P K n x Q e H)(hf:p→WC Mo P K n y Q e H):WC Mo P K n (.cond c x y) Q e H :=
 WC.cond hc (fun h=>ht fun k=>by rw[decide_eq_true k] at h;cases h) fun h=>hf (Decidable.byContradiction fun k=>by rw[decide_eq_false k] at h;cases h)
theorem WL.ahz{d T:Nat}{cs:List Value}{rest:List Oper}[hz:RY P T cs](h:∀b,WL Mo P K n ops rest Q ((d,ptr b 0)::e) (ah b T cs::H))(hd:blt d n=true:=by rfl):WL Mo P K n ops (⟨some d,.alloc T,ty,pos,af,none⟩::rest) Q e H :=
 Exists.elim hz.h fun _ q=>WL.alloc q.1 q.2 hd h
end
theorem aj(s:String){X Y:Prop}(h:Y) (t:StS s X Y:=by
 apply StS.o;repeat (first
  | (apply aO.q;first
  | (apply gB.q;first
  | (apply iE.q;first
  | apply EB.m2 115 97 53
  | apply EB.m2 116 113 46
  | (apply EB.s 97;focus (intro hz;exact WL.bG (oj:=_) rfl rfl rfl GC.f (V.aa2 LB.h (OV.g rfl id) (OV.g rfl id) (fun hc=>by clear hz;first | omega | (simp at hc;omega))) rfl hz))
  | (apply EB.s 98;focus (intro hz;exact WA.tK 9 rfl rfl rfl rfl rfl (V.ag4 (OV.p rfl) (OV.p rfl)) hz))
  | (apply EB.w 99;focus (intro ix hz;exact WA.tI ix rfl (V.BL (OV.p rfl) (OV.p rfl)) hz))
  | (apply EB.s 100;focus (intro h;exact WL.store (cs:=[_]) (tH.h (s:=1)) (OV.p rfl) (OV.p rfl) rfl rfl rfl (by clear h;repeat (first | exact dw.here (cs':=[_,_,_]) rfl rfl | apply dw.up)) h))
  | (apply EB.s 101;focus (intro h;exact WL.bG (oj:=_) rfl rfl rfl GC.t (V.lss (OV.g rfl id) (OV.p rfl)) rfl h))
  | (apply EB.s 102;focus (intro h;exact WL.bG (oj:=_) rfl rfl rfl GC.t (V.neq (OV.g rfl id) (OV.p rfl)) rfl h))
  | (apply EB.s 103;focus (intro h;exact WL.box (cs:=[_,_]) (OV.p rfl) rfl rfl h))
  | (apply EB.s 105;focus (intro hz;exact WL.bG (oj:=_) rfl rfl rfl GC.t (V.Dv (OV.g rfl id) (OV.p rfl) (fun hc=>by clear hz;first | omega | (simp at hc;omega))) rfl hz))
  | (apply EB.s 107;focus (intro hz;exact WL.bG (oj:=_) rfl rfl rfl GC.f (V.OD (OV.p rfl) (OV.g rfl id) (fun hc=>by clear hz;first | omega | (simp at hc;omega))) rfl hz))
  | (apply EB.s 108;focus (intro hz;exact WL.val (V.gG (vs:=[_,_,_,_]) (y9.h (s:=4)) (OV.p rfl) rfl (fun _=>by clear hz;repeat (first | exact gD.K4 ⟨rfl,rfl,rfl,rfl,trivial⟩ | apply gD.up))) rfl hz))
  | (apply EB.s 109;focus (intro hz;exact WQ.val (V.load Cb.h (OV.p rfl) (fun hc=>by clear hz;repeat (first | exact Rd.here rfl | apply Rd.up))) rfl hz))
  | (apply EB.s 110;focus (intro hz;exact WL.aaw (s:=s) rfl Ri.h Ri.h Ri.h (OV.p rfl) rfl hz))
  | (apply EB.s 111;focus (intro hz;exact WL.bG (oj:=_) rfl rfl rfl GC.f (V.CV (OV.g rfl id) (OV.p rfl) (fun hc=>by clear hz;first | omega | (simp at hc;omega))) rfl hz))
  | (apply EB.s 112;focus (intro h;exact WL.store (cs:=[_]) (tH.h (s:=1)) (OV.p rfl) (OV.p rfl) rfl rfl rfl (by clear h;repeat (first | exact dw.here (cs':=[_,_]) rfl rfl | apply dw.up)) h))
  | (apply EB.s 113;focus (intro h;exact WL.bG (oj:=_) rfl rfl rfl GC.f (V.geq (OV.g rfl id) (OV.p rfl)) rfl h))
  | (apply EB.s 114;focus (intro h;exact WL.val (V.Ci (OV.p rfl) (OV.p rfl) (fun _=>by clear h;omega)) rfl h))
  )
  | (apply iE.s 97;focus (intro hz;exact WQ.val (V.gtr (OV.p rfl) (OV.p rfl)) rfl hz))
  | (apply iE.s 98;focus (intro hz;exact WL.sub (Sub.refl _) (fun w h=>h.aY 3 [1,2,0] rfl) hz))
  | (apply iE.s 99;focus (intro h;exact WL.store (cs:=[_]) (tH.h (s:=1)) (OV.p rfl) (OV.p rfl) rfl rfl rfl (by clear h;repeat (first | exact dw.here (cs':=[_]) rfl rfl | apply dw.up)) h))
  | (apply iE.s 100;focus (intro h;exact WL.store (cs:=[_]) (tH.h (s:=1)) (OV.p rfl) (OV.p rfl) rfl rfl rfl (by clear h;repeat (first | exact dw.here (cs':=[_,_,_,_,_,_,_,_,_]) rfl rfl | apply dw.up)) h))
  | (apply iE.s 101;focus (intro h;exact WL.bG (oj:=_) rfl rfl rfl GC.t (V.len (t:=0) zx.h (OV.g rfl id)) rfl h))
  | (apply iE.s 105;focus (intro hz;exact WQ.bG (oj:=_) rfl rfl rfl GC.f (V.move (OV.p rfl)) rfl hz))
  | (apply iE.s 106;focus (intro hz;exact WL.bG (oj:=_) rfl rfl rfl GC.f (V.move (OV.g rfl id)) rfl hz))
  | (apply iE.s 107;focus (intro hz;exact WL.bG (oj:=_) rfl rfl rfl GC.f (V.Ct (OV.g rfl id) (OV.g rfl id)) rfl hz))
  | (apply iE.s 108;focus (intro hz;exact WL.sub (Sub.refl _) (fun w h=>h.aY 2 [1,0] rfl) hz))
  | (apply iE.s 109;focus (intro hz;exact WQ.val (V.Ci (OV.p rfl) (OV.p rfl) (fun hc=>by clear hz;first | omega | (simp at hc;omega))) rfl hz))
  | (apply iE.s 110;focus (intro hz;exact WL.bG (oj:=_) rfl rfl rfl GC.f (V.nilCheck (OV.g rfl id)) rfl hz))
  | (apply iE.s 111;focus (intro hz;exact WL.val (V.max (OV.p rfl) (OV.p rfl)) rfl hz))
  | (apply iE.s 112;focus (intro hz;exact WL.sub (Sub.refl _) (fun w h=>h.aY 3 [2,0,1] rfl) hz))
  | (apply iE.w 113;focus (intro ix hz;exact WA.tI ix rfl (V.aa2 LB.h (OV.p rfl) (OV.p rfl) (fun hc=>by clear hz;first | omega | (simp at hc;omega))) hz))
  | (apply iE.w 114;focus (intro ix hz;exact WA.tI ix rfl (V.eql (OV.p rfl) (OV.p rfl)) hz))
  | (apply iE.s 115;focus (intro hz;exact WL.bG (oj:=_) rfl rfl rfl GC.ct (V.fieldAddr jf.h (OV.p rfl)) rfl hz))
  | (apply iE.s 116;focus (intro hz;exact WL.bG (oj:=_) rfl rfl rfl GC.ct (V.load Cb.h (OV.g rfl id) (fun _=>by clear hz;repeat (first | exact Rd.here rfl | apply Rd.up))) rfl hz))
  | (apply iE.s 117;focus (intro h;exact WL.val (V.gG (vs:=[_,_,_]) (y9.h (s:=3)) (OV.p rfl) rfl (fun _=>by clear h;repeat (first | exact gD.K4 ⟨rfl,rfl,rfl,trivial⟩ | apply gD.up))) rfl h))
  | (apply iE.s 118;focus (intro h;exact WL.bG (oj:=_) rfl rfl rfl GC.f (V.neq (OV.g rfl id) (OV.p rfl)) rfl h))
  | (apply iE.s 119;focus (intro hz;exact WQ.val (V.gG (vs:=[_,_,_,_,_]) (y9.h (s:=5)) (OV.p rfl) rfl (fun _=>by clear hz;repeat (first | exact gD.K4 ⟨rfl,rfl,rfl,rfl,rfl,trivial⟩ | apply gD.up))) rfl hz))
  | (apply iE.s 120;focus (intro hz;exact WL.bG (oj:=_) rfl rfl rfl GC.f (V.not (OV.g rfl id)) rfl hz))
  | (apply iE.s 122;focus (intro hz;exact WL.bG (oj:=_) rfl rfl rfl GC.ct (V.move (OV.p rfl)) rfl hz))
  | (apply iE.s 66;focus (intro hz;exact WL.bG (oj:=_) rfl rfl rfl GC.t (V.nilCheck (OV.g rfl id)) rfl hz))
  | (apply iE.s 67;focus (intro hz;exact WL.bG (oj:=_) rfl rfl rfl GC.t (V.lss (OV.g rfl id) (OV.g rfl id)) rfl hz))
  | (apply iE.w 68;focus (intro ix hz;exact WA.tI ix rfl (V.gG (vs:=[_,_,_,_,_]) (y9.h (s:=5)) (OV.p rfl) rfl (fun _=>by clear hz;repeat (first | exact gD.K4 ⟨rfl,rfl,rfl,rfl,rfl,trivial⟩ | apply gD.up))) hz))
  | (apply iE.w 69;focus (intro ix hz;exact WA.tI ix rfl (V.Ci (OV.p rfl) (OV.p rfl) (fun hc=>by clear hz;first | omega | (simp at hc;omega))) hz))
  | (apply iE.s 70;focus (intro hz;exact WQ.bG (oj:=_) rfl rfl rfl GC.t (V.move (OV.p rfl)) rfl hz))
  | (apply iE.s 71;focus (intro hz;exact WL.val (V.index LB.h (OV.p rfl) (OV.p rfl) (fun hc=>by clear hz;first | omega | (simp at hc;omega)) (fun _=>xY (y9.h (s:=2)) (vs:=[_,_]) rfl ⟨rfl,rfl,trivial⟩)) rfl hz))
  | (apply iE.w 79;focus (intro ix hz;exact WA.tI ix rfl (V.ad9 (OV.p rfl) (OV.p rfl) (fun hc=>by clear hz;first | omega | (simp at hc;omega))) hz))
  | (apply iE.s 80;focus (intro hz;exact WQ.val (V.OD (OV.p rfl) (OV.p rfl) (fun hc=>by clear hz;first | omega | (simp at hc;omega))) rfl hz))
  | (apply iE.s 81;focus (intro hz;exact WL.bG (oj:=_) rfl rfl rfl GC.f (V.geq (OV.g rfl id) (OV.g rfl id)) rfl hz))
  | (apply iE.s 82;focus (intro hz;exact WL.val (V.move (OV.p rfl)) rfl hz))
  | (apply iE.s 83;focus (intro hz;exact WL.sub (Sub.refl _) (fun w h=>h.aY 6 [5,0,1,2,3,4] rfl) hz))
  | (apply iE.s 84;focus (intro hz;exact WL.sub (Sub.refl _) (fun w h=>h.aY 4 [3,0,1,2] rfl) hz))
  | (apply iE.s 85;focus (intro hz;exact WL.val (V.aI (v':= .int .i64 (2)) (V.mul (OV.p rfl) (OV.p rfl)) (fun _=>rfl)) rfl hz))
  | (apply iE.s 86;focus (intro hz;exact WL.bG (oj:=_) rfl rfl rfl GC.f (V.ajL Ri.h (OV.g rfl id) (OV.p rfl)) rfl hz))
  | (apply iE.w 87;focus (intro ix hz;exact WA.tI ix rfl (V.aI (v':= .int .i64 (0)) (V.mul (OV.p rfl) (OV.p rfl)) (fun _=>rfl)) hz))
  | (apply iE.w 88;focus (intro ix hz;exact WA.tI ix rfl (V.aI (v':= .int .i64 (2)) (V.mul (OV.p rfl) (OV.p rfl)) (fun _=>rfl)) hz))
  | (apply iE.s 89;focus (intro hz;exact WL.bG (oj:=_) rfl rfl rfl GC.t (V.gG (vs:=[_,_]) (y9.h (s:=2)) (OV.p rfl) rfl (fun _=>by clear hz;repeat (first | exact gD.K4 ⟨rfl,rfl,trivial⟩ | apply gD.up))) rfl hz))
  | (apply iE.s 90;focus (intro h;exact WL.bG (oj:=_) rfl rfl rfl GC.f (V.eql (OV.g rfl id) (OV.p rfl)) rfl h))
  | (apply iE.s 48;focus (intro h;exact WL.box (cs:=[_,_,_]) (OV.p rfl) rfl rfl h))
  | (apply iE.s 52;focus (intro hz;exact WL.bG (oj:=_) rfl rfl rfl GC.t (V.leq (OV.g rfl id) (OV.g rfl id)) rfl hz))
  | (apply iE.s 53;focus (intro hz;exact WL.bG (oj:=_) rfl rfl rfl GC.t (V.CV (OV.g rfl id) (OV.p rfl) (fun hc=>by clear hz;first | omega | (simp at hc;omega))) rfl hz))
  | (apply iE.s 36;focus (intro hz;exact WQ.val (V.BL (OV.p rfl) (OV.g rfl id)) rfl hz))
  | (apply iE.s 38;focus (intro hz;exact WL.val (V.am4 (OV.p rfl) (fun _=>by clear hz;omega)) rfl hz))
  | (apply iE.s 46;focus (intro hz;exact WL.bG (oj:=_) rfl rfl rfl GC.t (V.move (OV.g rfl id)) rfl hz))
  | (apply iE.s 58;focus (intro hz;exact WL.bG (oj:=_) rfl rfl rfl GC.t (V.BL (OV.g rfl id) (OV.g rfl id)) rfl hz))
  | (apply iE.w 60;focus (intro ix hz;exact WA.tI ix rfl (V.len (t:=34) zx.h (OV.p rfl)) hz))
  | (apply iE.w 61;focus (intro ix hz;exact WA.tI ix rfl (V.shl (OV.p rfl) (OV.p rfl) (by clear hz;omega)) hz))
  | (apply iE.s 62;focus (intro hz;exact WQ.val (V.len (t:=34) zx.h (OV.p rfl)) rfl hz))
  | (apply iE.s 63;focus (intro hz;exact WL.val (V.am0 Ri.h (OV.p rfl) (OV.p rfl)) rfl hz))
  | (apply iE.s 64;focus (intro hz;exact WQ.val (V.CV (OV.p rfl) (OV.p rfl) (fun hc=>by clear hz;first | omega | (simp at hc;omega))) rfl hz))
  | (apply iE.s 94;focus (intro hz;exact WL.bG (oj:=_) rfl rfl rfl GC.f (V.gtr (OV.g rfl id) (OV.g rfl id)) rfl hz))
  | (apply iE.s 95;focus (intro hz;exact WL.Z7 Ri.h Ri.h (OV.p rfl) rfl hz))
  | (apply iE.s 124;focus (intro hz;exact WL.bG (oj:=_) rfl rfl rfl GC.f (V.load Cb.h (OV.p rfl) (fun _=>by clear hz;repeat (first | exact Rd.here rfl | apply Rd.up))) rfl hz))
  | (apply iE.s 44;focus (intro hz;exact WL.val (V.makeFunc (us:=[]) (vs:=[_,_,_]) trivial ⟨OV.p rfl,OV.p rfl,OV.p rfl,trivial⟩) rfl hz))
  | (apply iE.s 96;focus (intro hz;exact WL.bG (oj:=_) rfl rfl rfl GC.ct (V.neq (OV.g rfl id) (OV.p rfl)) rfl hz))
  | (apply iE.s 40;focus (intro hz;exact WL.val (V.index LB.h (OV.p rfl) (OV.p rfl) (fun hc=>by clear hz;first | omega | (simp at hc;omega)) (fun _=>lC Cb.h rfl)) rfl hz))
  | (apply iE.s 41;focus (intro hz;exact WL.store (cs:=[_]) (tH.h (s:=1)) (OV.p rfl) (OV.p rfl) rfl rfl rfl (by clear hz;repeat (first | exact dw.here (cs':=[_,_,_,_,_,_,_,_,_,_,_]) rfl rfl | apply dw.up)) hz))
  | (apply iE.s 91;focus (intro hz;exact WL.val (V.Ci (OV.p rfl) (OV.p rfl) (fun _=>by clear hz;dsimp only;omega)) rfl hz))
  | (apply iE.w 93;focus (intro ix hz;exact WA.tI ix rfl (V.Dv (OV.p rfl) (OV.p rfl) (fun _=>by clear hz;omega)) hz))
  )
  | (apply gB.s 68;focus (intro h;exact WC.ret h))
  | (apply gB.s 77;focus (intro h;exact WL.xt rfl rfl rfl h))
  | apply gB.m2 113 99 98
  | (apply gB.s 79;focus (intro hz;exact⟨rfl,hz⟩))
  | apply gB.m4 90 126 77 126 77
  | (apply gB.s 97;focus (intro hz;exact WL.val (V.ajL Ri.h (OV.p rfl) (OV.p rfl)) rfl hz))
  | (apply gB.s 98;focus (intro h;exact WL.bG (oj:=_) rfl rfl rfl GC.f (V.load Cb.h (OV.g rfl id) (fun _=>by clear h;repeat (first | exact Rd.here rfl | apply Rd.up))) rfl h))
  | (apply gB.s 100;focus (intro h;first | exact WC.akM rfl (And.left h) (And.right h) | exact WC.afG rfl (And.left h) (And.right h)))
  | (apply gB.s 101;focus (intro h;exact WL.bG (oj:=_) rfl rfl rfl GC.f (V.fieldAddr jf.h (OV.p rfl)) rfl h))
  | (apply gB.s 103;focus (intro hz;exact WQ.nil hz))
  | (apply gB.s 104;focus (intro h;exact WL.box (cs:=[_]) (OV.p rfl) rfl rfl h))
  | (apply gB.s 105;focus (intro h;exact WL.val (V.geq (OV.p rfl) (OV.p rfl)) rfl h))
  | (apply gB.s 106;focus (intro h;exact WL.store (cs:=[_]) (tH.h (s:=1)) (OV.p rfl) (OV.p rfl) rfl rfl rfl (by clear h;repeat (first | exact dw.here rfl rfl | apply dw.up)) h))
  | (apply gB.s 107;focus (intro hz;exact WC.VL (by clear hz;kernel_rfl) (by clear hz;kernel_rfl) hz))
  | (apply gB.s 108;focus (intro h;exact WL.bG (oj:=_) rfl rfl rfl GC.f (V.gtr (OV.g rfl id) (OV.p rfl)) rfl h))
  | (apply gB.s 109;focus (intro h;exact WQ.val (V.assign (OV.p rfl)) rfl h))
  | (apply gB.s 110;focus (intro h;exact WL.val (V.aa2 LB.h (OV.p rfl) (OV.p rfl) (fun hc=>by clear h;first | omega | (simp at hc;omega))) rfl h))
  | (apply gB.s 112;focus (intro hz;exact WL.val (V.aI (v':= .int .i64 (2)) (V.add (OV.p rfl) (OV.p rfl)) (fun _=>rfl)) rfl hz))
  | (apply gB.s 114;focus (intro hz;exact WL.val (V.FX zx.h zx.h (OV.p rfl)) rfl hz))
  | (apply gB.w 117;focus (intro ix h;exact WA.tI ix rfl (V.extract (OV.p rfl) rfl) h))
  | (apply gB.s 118;focus (intro h;exact WL.val (V.Gs WS.h (OV.p rfl) (OV.p rfl) (fun hc=>by clear h;omega)) rfl h))
  | (apply gB.w 119;focus (intro ix h;exact WA.tI ix rfl (V.assign (OV.p rfl)) h))
  | (apply gB.s 121;focus (intro h;exact WQ.val (V.fieldAddr jf.h (OV.p rfl)) rfl h))
  | (apply gB.s 122;focus (intro h;exact WL.val (V.Gs WS.h (OV.p rfl) (OV.p rfl) (fun hc=>by clear h;first | omega | (simp at hc;omega))) rfl h))
  | (apply gB.s 66;focus (intro h;exact WL.val (V.CV (OV.p rfl) (OV.p rfl) (fun _=>by clear h;omega)) rfl h))
  | (apply gB.s 67;focus (intro hz;exact WL.known (oj:=_) rfl rfl rfl rfl hz))
  | (apply gB.s 69;focus (intro h;exact WL.bG (oj:=_) rfl rfl rfl GC.t (V.eql (OV.g rfl id) (OV.p rfl)) rfl h))
  | (apply gB.s 70;focus (intro h;exact WL.val (V.aI (v':= .int .i64 (1)) (V.add (OV.p rfl) (OV.p rfl)) (fun _=>rfl)) rfl h))
  | (apply gB.s 71;focus (intro h;exact WQ.val (V.load Cb.h (OV.p rfl) (fun _=>by clear h;repeat (first | exact Rd.here rfl | apply Rd.up))) rfl h))
  | (apply gB.s 72;focus (intro h;exact WL.bG (oj:=_) rfl rfl rfl GC.f (V.len (t:=0) zx.h (OV.g rfl id)) rfl h))
  | (apply gB.s 73;focus (intro h;exact WL.val (V.OD (OV.p rfl) (OV.p rfl) (fun hc=>by clear h;first | omega | (simp at hc;omega))) rfl h))
  | (apply gB.s 76;focus (intro h;exact WL.bG (oj:=_) rfl rfl rfl GC.t (V.geq (OV.g rfl id) (OV.p rfl)) rfl h))
  | (apply gB.s 80;focus (intro h;exact WL.val (V.gG (vs:=[_,_]) (y9.h (s:=2)) (OV.p rfl) rfl (fun _=>by clear h;repeat (first | exact gD.K4 ⟨rfl,rfl,trivial⟩ | apply gD.up))) rfl h))
  | (apply gB.s 81;focus (intro h;exact WL.store (cs:=[_,_,_,_,_]) (tH.h (s:=5)) (OV.p rfl) (OV.p rfl) rfl rfl rfl (by clear h;repeat (first | exact dw.here rfl rfl | apply dw.up)) h))
  | (apply gB.s 84;focus (intro hz;exact WC.NS (by clear hz;kernel_rfl) hz))
  | (apply gB.s 85;focus (intro h;exact WL.val (V.gtr (OV.p rfl) (OV.p rfl)) rfl h))
  | (apply gB.s 86;focus (intro h;exact WL.bG (oj:=_) rfl rfl rfl GC.t (V.leq (OV.g rfl id) (OV.p rfl)) rfl h))
  | (apply gB.s 89;focus (intro h;exact WL.bG (oj:=_) rfl rfl rfl GC.f (V.fieldAddr jf.h (OV.g rfl id)) rfl h))
  | (apply gB.s 49;focus (intro hz;exact WC.jq rfl ((by clear hz;simp;omega)) hz))
  | (apply gB.s 51;focus (intro hz;exact WL.val (V.makeFunc (us:=[]) (vs:=[_]) trivial ⟨OV.p rfl,trivial⟩) rfl hz))
  | (apply gB.s 52;focus (intro hz;exact WC.rounds 3 hz))
  | (apply gB.s 53;focus (intro hz;exact WL.sub (Sub.refl _) (fun w h=>h.aY 4 [1,2,3,0] rfl) hz))
  | (apply gB.s 54;focus (intro h;exact WL.store (cs:=[_,_]) (tH.h (s:=2)) (OV.p rfl) (OV.p rfl) rfl rfl rfl (by clear h;repeat (first | exact dw.here (cs':=[_,_]) rfl rfl | apply dw.up)) h))
  | (apply gB.s 55;focus (intro h;exact WL.val (V.ad9 (OV.p rfl) (OV.p rfl) (fun hc=>by clear h;first | omega | (simp at hc;omega))) rfl h))
  | (apply gB.s 38;focus (intro hz;exact WQ.val (V.nilCheck (OV.p rfl)) rfl hz))
  | (apply gB.s 42;focus (intro hz;exact WL.bG (oj:=_) rfl rfl rfl GC.f (V.neq (OV.g rfl id) (OV.g rfl id)) rfl hz))
  | (apply gB.s 43;focus (intro hz;exact WL.val (V.assign (OV.p rfl)) rfl hz))
  | (apply gB.s 46;focus (intro h;exact WL.val (V.leq (OV.p rfl) (OV.p rfl)) rfl h))
  | (apply gB.s 58;focus (intro hz;exact WL.val (V.shr (OV.p rfl) (OV.p rfl) (by clear hz;omega)) rfl hz))
  | (apply gB.s 59;focus (intro h;exact WL.store (cs:=[_,_,_]) (tH.h (s:=3)) (OV.p rfl) (OV.p rfl) rfl rfl rfl (by clear h;repeat (first | exact dw.here (cs':=[_,_,_]) rfl rfl | apply dw.up)) h))
  | (apply gB.s 62;focus (intro hz;exact WQ.val (V.Ip zx.h zx.h (OV.p rfl) (fun _=>wrap_i64 (by clear hz;omega))) rfl hz))
  | (apply gB.s 63;focus (intro h;exact WL.store (cs:=[_]) (tH.h (s:=1)) (OV.p rfl) (OV.p rfl) rfl rfl rfl (by clear h;repeat (first | exact dw.here (cs':=[_,_,_,_,_]) rfl rfl | apply dw.up)) h))
  | (apply gB.s 64;focus (intro h;exact WL.store (cs:=[_,_]) (tH.h (s:=2)) (OV.p rfl) (OV.p rfl) rfl rfl rfl (by clear h;repeat (first | exact dw.here (cs':=[_,_,_,_,_]) rfl rfl | apply dw.up)) h))
  | (apply gB.s 94;focus (intro h;exact WL.bG (oj:=_) rfl rfl rfl GC.t (V.fieldAddr jf.h (OV.g rfl id)) rfl h))
  | (apply gB.s 95;focus (intro h;exact WL.bG (oj:=_) rfl rfl rfl GC.f (V.lss (OV.g rfl id) (OV.p rfl)) rfl h))
  | (apply gB.s 41;focus (intro hz;exact WL.bG (oj:=_) rfl rfl rfl GC.cf (V.move (OV.p rfl)) rfl hz))
  | (apply gB.s 93;focus (intro hz;exact WL.val (V.makeFunc (us:=[]) (vs:=[_,_]) trivial ⟨OV.p rfl,OV.p rfl,trivial⟩) rfl hz))
  )
  | (apply aO.s 98;focus (intro h;exact WL.nil h))
  | (apply aO.s 99;focus (intro h;exact WL.mv rfl rfl h))
  | (apply aO.s 97;focus (intro h;exact WC.sr h))
  | (apply aO.s 109;focus (intro h;exact WL.sg rfl rfl h))
  | apply aO.m2 103 109 98
  | (apply aO.s 78;focus (intro h;exact WC.seq h))
  | apply aO.m2 101 97 99
  | (apply aO.s 113;focus (intro h;exact WC.region h))
  | (apply aO.s 105;focus (intro h;exact WC.skip h))
  | apply aO.m3 100 103 126 68
  | (apply aO.s 117;focus (intro h;exact WC.block h))
  | apply aO.m2 114 78 101
  | apply aO.m2 104 113 99
  | (apply aO.s 55;focus (intro h;exact WL.val (V.fieldAddr jf.h (OV.p rfl)) rfl h))
  | (apply aO.s 69;focus (intro h;exact WC.cond rfl (And.left h) (And.right h)))
  | apply aO.m2 106 103 101
  | apply aO.m2 102 103 114
  | apply aO.m2 41 105 78
  | apply aO.m2 107 98 69
  | (apply aO.s 94;focus (intro h;exact WL.ld Cb.h rfl rfl h))
  | apply aO.m2 66 98 78
  | (apply aO.w 108;focus (intro ix h;exact WA.tI ix rfl (V.move (OV.p rfl)) h))
  | apply aO.m2 72 41 117
  | (apply aO.w 110;focus (intro ix h;exact WA.oI ix rfl h))
  | (apply aO.s 82;focus (intro h;exact WC.exit h))
  | (apply aO.s 111;focus (intro h;exact WL.val (V.len (t:=0) zx.h (OV.p rfl)) rfl h))
  | apply aO.m3 33 99 126 90
  | (apply aO.s 53;focus (intro h;exact WL.val (V.lss (OV.p rfl) (OV.p rfl)) rfl h))
  | apply aO.m2 112 55 94
  | (apply aO.s 44;focus (intro h;exact WL.nc rfl rfl h))
  | (apply aO.s 115;focus (intro h;exact WL.val (V.neq (OV.p rfl) (OV.p rfl)) rfl h))
  | (apply aO.s 46;focus (intro h;exact WL.ad rfl rfl rfl h))
  | apply aO.m2 116 103 78
  | apply aO.m4 59 126 113 126 79
  | apply aO.m2 120 103 97
  | apply aO.m2 122 99 99
  | (apply aO.s 65;focus (intro hz;exact WL.ahz hz))
  | apply aO.m2 67 33 109
  | apply aO.m2 68 109 100
  | (apply aO.s 71;focus (intro h;exact WL.val (V.gG (vs:=[_,_,_,_,_]) (y9.h (s:=5)) (OV.p rfl) rfl (fun _=>by clear h;repeat (first | exact gD.K4 ⟨rfl,rfl,rfl,rfl,rfl,trivial⟩ | apply gD.up))) rfl h))
  | apply aO.m2 73 97 100
  | (apply aO.s 74;focus (intro h;exact WL.val (V.BL (OV.p rfl) (OV.g rfl id)) rfl h))
  | (apply aO.s 75;focus (intro h;exact WL.store (cs:=[_,_,_,_,_]) (tH.h (s:=5)) (OV.p rfl) (OV.p rfl) rfl rfl rfl (by clear h;repeat (first | exact dw.here (cs':=[_,_,_,_,_]) rfl rfl | apply dw.up)) h))
  | apply aO.m2 76 44 55
  | (apply aO.s 77;focus (intro h;exact WA.fin h))
  | (apply aO.s 79;focus (intro h;exact WC.jq rfl (by clear h;first | rfl | (simp;done) | (simp;omega)) h))
  | apply aO.m3 80 126 113 117
  | apply aO.m2 81 104 99
  | (apply aO.w 83;focus (intro ix h;exact WA.tI ix rfl (V.fieldAddr jf.h (OV.p rfl)) h))
  | apply aO.m2 84 98 97
  | apply aO.m5 85 126 126 126 115 66
  | (apply aO.s 86;focus (intro h;exact WL.val (V.Ct (OV.p rfl) (OV.g rfl id)) rfl h))
  | apply aO.m2 87 82 78
  | (apply aO.s 88;focus (intro h;exact WC.afG rfl (And.left h) (And.right h)))
  | (apply aO.s 89;focus (intro h;exact WL.bG (oj:=_) rfl rfl rfl GC.f (V.move (OV.p rfl)) rfl h))
  | apply aO.m2 90 105 101
  | apply aO.m2 48 106 99
  | apply aO.m2 49 72 101
  | (apply aO.s 50;focus (intro h;exact WC.NC rfl (by clear h;first | rfl | (simp;done) | (simp;omega)) h))
  | apply aO.m3 51 98 126 68
  | apply aO.m3 52 103 126 79
  | apply aO.m5 54 126 126 126 116 59
  | (apply aO.s 56;focus (intro h;exact WL.bG (oj:=_) rfl rfl rfl GC.t (V.move (OV.p rfl)) rfl h))
  | (apply aO.s 57;focus (intro h;exact WL.anm (OV.p rfl) rfl h))
  | (apply aO.s 36;focus (intro h;exact aG.qe))
  | (apply aO.s 37;focus (intro h;exact WL.val (V.eql (OV.p rfl) (OV.p rfl)) rfl h))
  | (apply aO.s 38;focus (intro h;exact WL.box (cs:=[_,_,_,_,_]) (OV.p rfl) rfl rfl h))
  | (apply aO.s 42;focus (intro h;exact WL.val (V.not (OV.p rfl)) rfl h))
  | (apply aO.s 43;focus (intro h;exact WQ.val (V.move (OV.p rfl)) rfl h))
  | (apply aO.w 58;focus (intro ix h;exact WA.tI ix rfl (V.load Cb.h (OV.p rfl) (fun _=>by clear h;repeat (first | exact Rd.here rfl | apply Rd.up))) h))
  | (apply aO.s 61;focus (intro h;exact WL.bG (oj:=_) rfl rfl rfl GC.t (V.load Cb.h (OV.g rfl id) (fun _=>by clear h;repeat (first | exact Rd.here rfl | apply Rd.up))) rfl h))
  | (apply aO.s 62;focus (intro h;exact aG.qv h))
  | (apply aO.s 63;focus (intro h;exact WL.bG (oj:=_) rfl rfl rfl GC.t (V.fieldAddr jf.h (OV.p rfl)) rfl h))
  | (apply aO.w 64;focus (intro ix h;exact WA.tI ix rfl (V.nilCheck (OV.p rfl)) h))
  | (apply aO.s 124;focus (intro hz;exact WL.sub (Sub.refl _) (fun w h=>h.p1) hz))
  | (apply aO.s 40;focus (intro h;exact WL.sb rfl rfl rfl h))
  | (apply aO.w 91;focus (intro ix h;exact WA.tI ix rfl (V.Gs WS.h (OV.p rfl) (OV.p rfl) (fun hc=>by clear h;omega)) h))
  | (apply aO.s 93;focus (intro hz;exact WL.val (V.build (vs:=[]) trivial rfl BdT.h) rfl hz))
  )
 exact aO.z):X:=t.f h
end Go.Sl
namespace Go.Proofs.YtcedojacbhnbiaaGreat
open Go.Sl Go.RowKit Tryz List Nat
instance:y9 prog 157 3:=⟨⟨isAgg157,sizeOf157⟩⟩
instance:y9 prog 219 64:=⟨⟨isAgg219,sizeOf219⟩⟩
instance:y9 prog 23 5:=⟨⟨isAgg23,sizeOf23⟩⟩
instance:y9 prog 237 5:=⟨⟨isAgg237,sizeOf237⟩⟩
instance:y9 prog 256 64:=⟨⟨isAgg256,sizeOf256⟩⟩
instance:y9 prog 283 128:=⟨⟨isAgg283,sizeOf283⟩⟩
instance:y9 prog 296 3:=⟨⟨isAgg296,sizeOf296⟩⟩
instance:y9 prog 307 80:=⟨⟨isAgg307,sizeOf307⟩⟩
instance:y9 prog 309 8:=⟨⟨isAgg309,sizeOf309⟩⟩
instance:y9 prog 318 4:=⟨⟨isAgg318,sizeOf318⟩⟩
instance:y9 prog 348 64:=⟨⟨isAgg348,sizeOf348⟩⟩
instance:y9 prog 349 8:=⟨⟨isAgg349,sizeOf349⟩⟩
instance:y9 prog 37 5:=⟨⟨isAgg37,sizeOf37⟩⟩
instance:y9 prog 42 5:=⟨⟨isAgg42,sizeOf42⟩⟩
instance:y9 prog 55 2:=⟨⟨isAgg55,sizeOf55⟩⟩
instance:y9 prog 56 4:=⟨⟨isAgg56,sizeOf56⟩⟩
instance:y9 prog 58 5:=⟨⟨isAgg58,sizeOf58⟩⟩
instance:y9 prog 97 32:=⟨⟨isAgg97,sizeOf97⟩⟩
instance:jf prog 127 0 0:=⟨fun _ _=>by kernel_rfl⟩
instance:jf prog 127 1 1:=⟨fun _ _=>by kernel_rfl⟩
instance:jf prog 127 2 6:=⟨fun _ _=>by kernel_rfl⟩
instance:jf prog 127 3 7:=⟨fun _ _=>by kernel_rfl⟩
instance:jf prog 127 4 8:=⟨fun _ _=>by kernel_rfl⟩
instance:jf prog 127 5 9:=⟨fun _ _=>by kernel_rfl⟩
instance:jf prog 127 6 10:=⟨fun _ _=>by kernel_rfl⟩
instance:jf prog 140 0 0:=⟨fun _ _=>by kernel_rfl⟩
instance:jf prog 140 1 1:=⟨fun _ _=>by kernel_rfl⟩
instance:jf prog 140 2 2:=⟨G9⟩
instance:jf prog 157 0 0:=⟨fun _ _=>by kernel_rfl⟩
instance:jf prog 157 1 1:=⟨fun _ _=>by kernel_rfl⟩
instance:jf prog 157 2 2:=⟨fun _ _=>by kernel_rfl⟩
instance:jf prog 165 0 0:=⟨fun _ _=>by kernel_rfl⟩
instance:jf prog 165 1 5:=⟨fun _ _=>by kernel_rfl⟩
instance:jf prog 165 10 14:=⟨fun _ _=>by kernel_rfl⟩
instance:jf prog 165 2 6:=⟨fun _ _=>by kernel_rfl⟩
instance:jf prog 165 3 7:=⟨fun _ _=>by kernel_rfl⟩
instance:jf prog 165 4 8:=⟨fun _ _=>by kernel_rfl⟩
instance:jf prog 165 5 9:=⟨fun _ _=>by kernel_rfl⟩
instance:jf prog 165 6 10:=⟨fun _ _=>by kernel_rfl⟩
instance:jf prog 165 7 11:=⟨fun _ _=>by kernel_rfl⟩
instance:jf prog 165 8 12:=⟨fun _ _=>by kernel_rfl⟩
instance:jf prog 165 9 13:=⟨fun _ _=>by kernel_rfl⟩
instance:jf prog 169 0 0:=⟨fun _ _=>by kernel_rfl⟩
instance:jf prog 169 1 1:=⟨fun _ _=>by kernel_rfl⟩
instance:jf prog 212 0 0:=⟨fun _ _=>by kernel_rfl⟩
instance:jf prog 219 0 0:=⟨fun _ _=>by kernel_rfl⟩
instance:jf prog 219 1 32:=⟨fun _ _=>by kernel_rfl⟩
instance:jf prog 23 0 0:=⟨fun _ _=>by kernel_rfl⟩
instance:jf prog 23 1 1:=⟨fun _ _=>by kernel_rfl⟩
instance:jf prog 23 2 2:=⟨fun _ _=>by kernel_rfl⟩
instance:jf prog 23 3 3:=⟨fun _ _=>by kernel_rfl⟩
instance:jf prog 23 4 4:=⟨fun _ _=>by kernel_rfl⟩
instance:jf prog 237 0 0:=⟨Wm⟩
instance:jf prog 237 1 1:=⟨fun _ _=>by kernel_rfl⟩
instance:jf prog 237 2 4:=⟨fun _ _=>by kernel_rfl⟩
instance:jf prog 283 0 0:=⟨fun _ _=>by kernel_rfl⟩
instance:jf prog 283 1 32:=⟨fun _ _=>by kernel_rfl⟩
instance:jf prog 283 2 64:=⟨fun _ _=>by kernel_rfl⟩
instance:jf prog 283 3 96:=⟨fun _ _=>by kernel_rfl⟩
instance:jf prog 296 0 0:=⟨fun _ _=>by kernel_rfl⟩
instance:jf prog 296 1 1:=⟨fun _ _=>by kernel_rfl⟩
instance:jf prog 296 2 2:=⟨fun _ _=>by kernel_rfl⟩
instance:jf prog 341 1 0:=⟨fun _ _=>by kernel_rfl⟩
instance:jf prog 343 0 0:=⟨fun _ _=>by kernel_rfl⟩
instance:jf prog 345 1 0:=⟨fun _ _=>by kernel_rfl⟩
instance:jf prog 347 1 0:=⟨fun _ _=>by kernel_rfl⟩
instance:jf prog 347 2 1:=⟨fun _ _=>by kernel_rfl⟩
instance:jf prog 352 2 0:=⟨fun _ _=>by kernel_rfl⟩
instance:jf prog 354 0 0:=⟨fun _ _=>by kernel_rfl⟩
instance:jf prog 354 1 3:=⟨fun _ _=>by kernel_rfl⟩
instance:jf prog 354 2 67:=⟨fun _ _=>by kernel_rfl⟩
instance:jf prog 354 3 75:=⟨fun _ _=>by kernel_rfl⟩
instance:jf prog 354 4 76:=⟨fun _ _=>by kernel_rfl⟩
instance:jf prog 37 0 0:=⟨fun _ _=>by kernel_rfl⟩
instance:jf prog 37 1 1:=⟨fun _ _=>by kernel_rfl⟩
instance:jf prog 37 2 2:=⟨aaW⟩
instance:jf prog 37 3 3:=⟨fun _ _=>by kernel_rfl⟩
instance:jf prog 37 4 4:=⟨fun _ _=>by kernel_rfl⟩
instance:jf prog 370 0 0:=⟨fun _ _=>by kernel_rfl⟩
instance:jf prog 370 1 1:=⟨fun _ _=>by kernel_rfl⟩
instance:jf prog 370 2 2:=⟨fun _ _=>by kernel_rfl⟩
instance:jf prog 42 0 0:=⟨fun _ _=>by kernel_rfl⟩
instance:jf prog 42 1 1:=⟨fun _ _=>by kernel_rfl⟩
instance:jf prog 42 2 2:=⟨fun _ _=>by kernel_rfl⟩
instance:jf prog 42 3 3:=⟨fun _ _=>by kernel_rfl⟩
instance:jf prog 42 4 4:=⟨fun _ _=>by kernel_rfl⟩
instance:jf prog 55 0 0:=⟨fun _ _=>by kernel_rfl⟩
instance:jf prog 55 1 1:=⟨fun _ _=>by kernel_rfl⟩
instance:jf prog 58 0 0:=⟨fun _ _=>by kernel_rfl⟩
instance:jf prog 58 1 1:=⟨fun _ _=>by kernel_rfl⟩
instance:jf prog 99 0 0:=⟨fun _ _=>by kernel_rfl⟩
instance:jf prog 99 1 1:=⟨acF⟩
instance:jf prog 99 2 33:=⟨abp⟩
instance:Ri prog 124 (.slice 3):=⟨underlying124⟩
instance:Ri prog 27 (.pointer (prog.pointee 27)):=⟨underlying27⟩
instance:Ri prog 28 (.pointer (prog.pointee 28)):=⟨underlying28⟩
instance:Ri prog 301 (.pointer (prog.pointee 301)):=⟨underlying301⟩
instance:Ri prog 34 (.slice 5):=⟨underlying34⟩
instance:Ri prog 5 (.int .u8):=⟨underlying5⟩
instance:Ri prog 70 (.pointer (prog.pointee 70)):=⟨underlying70⟩
instance:Ri prog 9 (.string):=⟨underlying9⟩
instance:Cb prog 124:=⟨isAgg124⟩
instance:Cb prog 125:=⟨isAgg125⟩
instance:Cb prog 161:=⟨isAgg161⟩
instance:Cb prog 162:=⟨isAgg162⟩
instance:Cb prog 163:=⟨isAgg163⟩
instance:Cb prog 214:=⟨isAgg214⟩
instance:Cb prog 27:=⟨isAgg27⟩
instance:Cb prog 28:=⟨isAgg28⟩
instance:Cb prog 3:=⟨isAgg3⟩
instance:Cb prog 301:=⟨isAgg301⟩
instance:Cb prog 306:=⟨isAgg306⟩
instance:Cb prog 32:=⟨isAgg32⟩
instance:Cb prog 339:=⟨isAgg339⟩
instance:Cb prog 34:=⟨isAgg34⟩
instance:Cb prog 4:=⟨isAgg4⟩
instance:Cb prog 40:=⟨isAgg40⟩
instance:tH prog 124 1:=⟨sizeOf124⟩
instance:tH prog 125 1:=⟨sizeOf125⟩
instance:tH prog 157 3:=⟨sizeOf157⟩
instance:tH prog 219 64:=⟨sizeOf219⟩
instance:tH prog 23 5:=⟨sizeOf23⟩
instance:tH prog 237 5:=⟨sizeOf237⟩
instance:tH prog 256 64:=⟨sizeOf256⟩
instance:tH prog 283 128:=⟨sizeOf283⟩
instance:tH prog 296 3:=⟨sizeOf296⟩
instance:tH prog 3 1:=⟨sizeOf3⟩
instance:tH prog 306 1:=⟨sizeOf306⟩
instance:tH prog 307 80:=⟨sizeOf307⟩
instance:tH prog 309 8:=⟨sizeOf309⟩
instance:tH prog 318 4:=⟨sizeOf318⟩
instance:tH prog 32 1:=⟨sizeOf32⟩
instance:tH prog 339 1:=⟨sizeOf339⟩
instance:tH prog 34 1:=⟨sizeOf34⟩
instance:tH prog 348 64:=⟨sizeOf348⟩
instance:tH prog 349 8:=⟨sizeOf349⟩
instance:tH prog 35 1:=⟨sizeOf35⟩
instance:tH prog 37 5:=⟨sizeOf37⟩
instance:tH prog 4 1:=⟨sizeOf4⟩
instance:tH prog 40 1:=⟨sizeOf40⟩
instance:tH prog 42 5:=⟨sizeOf42⟩
instance:tH prog 5 1:=⟨sizeOf5⟩
instance:tH prog 55 2:=⟨sizeOf55⟩
instance:tH prog 58 5:=⟨sizeOf58⟩
instance:tH prog 97 32:=⟨sizeOf97⟩
instance:zx prog 124 (.slice 3):=⟨runUnderlying124⟩
instance:zx prog 125 (.slice 124):=⟨runUnderlying125⟩
instance:zx prog 170 (.slice 237):=⟨runUnderlying170⟩
instance:zx prog 206 (.slice 132):=⟨runUnderlying206⟩
instance:zx prog 215 (.slice 214):=⟨runUnderlying215⟩
instance:zx prog 238 (.slice 170):=⟨runUnderlying238⟩
instance:zx prog 24 (.slice 99):=⟨runUnderlying24⟩
instance:zx prog 25 (.slice 9):=⟨runUnderlying25⟩
instance:zx prog 265 (.slice 296):=⟨runUnderlying265⟩
instance:zx prog 3 (.int .i64):=⟨runUnderlying3⟩
instance:zx prog 306 (.int .u64):=⟨runUnderlying306⟩
instance:zx prog 329 (.slice 306):=⟨runUnderlying329⟩
instance:zx prog 330 (.slice 306):=⟨runUnderlying330⟩
instance:zx prog 333 (.slice 219):=⟨runUnderlying333⟩
instance:zx prog 339 (.int .u32):=⟨runUnderlying339⟩
instance:zx prog 34 (.slice 5):=⟨runUnderlying34⟩
instance:zx prog 40 (.slice 140):=⟨runUnderlying40⟩
instance:zx prog 47 (.slice 34):=⟨runUnderlying47⟩
instance:zx prog 5 (.int .u8):=⟨runUnderlying5⟩
instance:RY prog 124 [(.slice none 0 0)]:=⟨⟨_,zeroValue124,rfl⟩⟩
instance:RY prog 140 [(.i 0),(.i 0),(.int .u8 0),(.int .u8 0),(.int .u8 0),(.int .u8 0),(.int .u8 0),(.int .u8 0),(.int .u8 0),(.int .u8 0),(.int .u8 0),(.int .u8 0),(.int .u8 0),(.int .u8 0),(.int .u8 0),(.int .u8 0),(.int .u8 0),(.int .u8 0),(.int .u8 0),(.int .u8 0),(.int .u8 0),(.int .u8 0),(.int .u8 0),(.int .u8 0),(.int .u8 0),(.int .u8 0),(.int .u8 0),(.int .u8 0),(.int .u8 0),(.int .u8 0),(.int .u8 0),(.int .u8 0),(.int .u8 0),(.int .u8 0)]:=⟨⟨_,zeroValue140,rfl⟩⟩
instance:RY prog 157 [(.i 0),(.i 0),(.i 0)]:=⟨⟨_,zeroValue157,rfl⟩⟩
instance:RY prog 23 [(.i 0),(.i 0),(.i 0),(.i 0),(.i 0)]:=⟨⟨_,zeroValue23,rfl⟩⟩
instance:RY prog 237 [(.i 0),(.i 0),(.i 0),(.i 0),(.bool false)]:=⟨⟨_,zeroValue237,rfl⟩⟩
instance:RY prog 269 []:=⟨⟨_,zeroValue269,rfl⟩⟩
instance:RY prog 296 [(.slice none 0 0),(.i 0),(.i 0)]:=⟨⟨_,zeroValue296,rfl⟩⟩
instance:RY prog 32 [(.i 0)]:=⟨⟨_,zeroValue32,rfl⟩⟩
instance:RY prog 34 [(.slice none 0 0)]:=⟨⟨_,zeroValue34,rfl⟩⟩
instance:RY prog 37 [(.i 0),(.i 0),(.i 0),(.slice none 0 0),(.i 0)]:=⟨⟨_,zeroValue37,rfl⟩⟩
instance:RY prog 4 [(.bool false)]:=⟨⟨_,zeroValue4,rfl⟩⟩
instance:RY prog 42 [(.i 0),(.i 0),(.i 0),(.i 0),(.slice none 0 0)]:=⟨⟨_,zeroValue42,rfl⟩⟩
instance:RY prog 55 [(.i 0),(.bool false)]:=⟨⟨_,zeroValue55,rfl⟩⟩
instance:RY prog 58 [(.i 0),(.i 0),(.bool false),(.i 0),(.bool false)]:=⟨⟨_,zeroValue58,rfl⟩⟩
instance:RY prog 97 [(.int .u8 0),(.int .u8 0),(.int .u8 0),(.int .u8 0),(.int .u8 0),(.int .u8 0),(.int .u8 0),(.int .u8 0),(.int .u8 0),(.int .u8 0),(.int .u8 0),(.int .u8 0),(.int .u8 0),(.int .u8 0),(.int .u8 0),(.int .u8 0),(.int .u8 0),(.int .u8 0),(.int .u8 0),(.int .u8 0),(.int .u8 0),(.int .u8 0),(.int .u8 0),(.int .u8 0),(.int .u8 0),(.int .u8 0),(.int .u8 0),(.int .u8 0),(.int .u8 0),(.int .u8 0),(.int .u8 0),(.int .u8 0)]:=⟨⟨_,zeroValue97,rfl⟩⟩
instance:RY prog 99 [(.i 0),(.int .u8 0),(.int .u8 0),(.int .u8 0),(.int .u8 0),(.int .u8 0),(.int .u8 0),(.int .u8 0),(.int .u8 0),(.int .u8 0),(.int .u8 0),(.int .u8 0),(.int .u8 0),(.int .u8 0),(.int .u8 0),(.int .u8 0),(.int .u8 0),(.int .u8 0),(.int .u8 0),(.int .u8 0),(.int .u8 0),(.int .u8 0),(.int .u8 0),(.int .u8 0),(.int .u8 0),(.int .u8 0),(.int .u8 0),(.int .u8 0),(.int .u8 0),(.int .u8 0),(.int .u8 0),(.int .u8 0),(.int .u8 0),(.bool false)]:=⟨⟨_,zeroValue99,rfl⟩⟩
instance:LB prog 122 2 3 1:=⟨⟨runUnderlying122,sizeOf3⟩⟩
instance:LB prog 256 64 5 1:=⟨afW⟩
instance:LB prog 307 80 306 1:=⟨⟨runUnderlying307,sizeOf306⟩⟩
instance:LB prog 309 8 306 1:=⟨Dl⟩
instance:LB prog 318 4 306 1:=⟨nV⟩
instance:LB prog 348 64 339 1:=⟨afU⟩
instance:LB prog 349 8 339 1:=⟨F9⟩
instance:LB prog 56 2 55 2:=⟨⟨runUnderlying56,sizeOf55⟩⟩
instance:LB prog 97 32 5 1:=⟨zT⟩
instance:BdT prog 157 (.agg #[(.i 0),(.i 0),(.i 0)]):=⟨fun w=>by kernel_rfl⟩
instance:BdT prog 23 (.agg #[(.i 0),(.i 0),(.i 0),(.i 0),(.i 0)]):=⟨fun w=>by kernel_rfl⟩
instance:BdT prog 269 (.agg #[]):=⟨fun w=>by kernel_rfl⟩
instance:BdT prog 354 (.agg #[(.int .u32 0),(.int .i32 0),(.int .u32 0),(.int .u32 0),(.int .u32 0),(.int .u32 0),(.int .u32 0),(.int .u32 0),(.int .u32 0),(.int .u32 0),(.int .u32 0),(.int .u32 0),(.int .u32 0),(.int .u32 0),(.int .u32 0),(.int .u32 0),(.int .u32 0),(.int .u32 0),(.int .u32 0),(.int .u32 0),(.int .u32 0),(.int .u32 0),(.int .u32 0),(.int .u32 0),(.int .u32 0),(.int .u32 0),(.int .u32 0),(.int .u32 0),(.int .u32 0),(.int .u32 0),(.int .u32 0),(.int .u32 0),(.int .u32 0),(.int .u32 0),(.int .u32 0),(.int .u32 0),(.int .u32 0),(.int .u32 0),(.int .u32 0),(.int .u32 0),(.int .u32 0),(.int .u32 0),(.int .u32 0),(.int .u32 0),(.int .u32 0),(.int .u32 0),(.int .u32 0),(.int .u32 0),(.int .u32 0),(.int .u32 0),(.int .u32 0),(.int .u32 0),(.int .u32 0),(.int .u32 0),(.int .u32 0),(.int .u32 0),(.int .u32 0),(.int .u32 0),(.int .u32 0),(.int .u32 0),(.int .u32 0),(.int .u32 0),(.int .u32 0),(.int .u32 0),(.int .u32 0),(.int .u32 0),(.int .u32 0),(.int .u32 0),(.int .u32 0),(.int .u32 0),(.int .u32 0),(.int .u32 0),(.int .u32 0),(.int .u32 0),(.int .u32 0),(.slice none 0 0),(.i 0)]):=⟨fun w=>by kernel_rfl⟩
instance:BdT prog 37 (.agg #[(.i 0),(.i 0),(.i 0),(.slice none 0 0),(.i 0)]):=⟨fun w=>by kernel_rfl⟩
instance:BdT prog 42 (.agg #[(.i 0),(.i 0),(.i 0),(.i 0),(.slice none 0 0)]):=⟨fun w=>by kernel_rfl⟩
instance:BdT prog 58 (.agg #[(.i 0),(.i 0),(.bool false),(.i 0),(.bool false)]):=⟨fun w=>by kernel_rfl⟩
instance:ElT prog 3 1 8 (.i 0):=⟨Td⟩
instance:ElT prog 5 1 1 (.int .u8 0):=⟨zo⟩
instance:WS prog 124 3 1:=⟨fZ⟩
instance:WS prog 125 124 1:=⟨⟨runUnderlying125,sizeOf124⟩⟩
instance:WS prog 170 237 5:=⟨Aa⟩
instance:WS prog 215 214 1:=⟨⟨runUnderlying215,sizeOf214⟩⟩
instance:WS prog 238 170 1:=⟨⟨runUnderlying238,sizeOf170⟩⟩
instance:WS prog 265 296 3:=⟨⟨runUnderlying265,sizeOf296⟩⟩
instance:WS prog 329 306 1:=⟨Az⟩
instance:WS prog 330 306 1:=⟨LK⟩
instance:WS prog 34 5 1:=⟨eu⟩
theorem iN(n a:Nat):BitVec.ofInt n (a:Int)=BitVec.ofNat n a:=by grind
theorem fA{a b k:Nat}(ha:a<2^k)(hb:b<2^k):a ^^^ b<2^k:=xor_lt_two_pow ha hb
theorem nN{a b:Nat}(ha:a<4611686018427387904)(hb:b<4611686018427387904):bitsOf .xor .i64 (a:Int) (b:Int)=((a ^^^ b:Nat):Int):=by
 have h:=fA (k:=62) ha hb;unfold bitsOf;dsimp only;rw[iN,iN,BitVec.toNat_xor,BitVec.toNat_ofNat,BitVec.toNat_ofNat];have e1:a%2^IntKind.i64.bits=a:=mod_eq_of_lt (by show a<2^64;omega);have e2:b%2^IntKind.i64.bits=b:=mod_eq_of_lt (by show b<2^64;omega);rw[e1,e2];exact wrap_i64 ay
theorem Xi{a:Nat}(ha:a<4611686018427387904):bitsOf .and .i64 (a:Int) 1=((a%2:Nat):Int):=by
 unfold bitsOf;dsimp only;rw[show (1:Int)=((1:Nat):Int) from rfl,iN,iN,BitVec.toNat_and,BitVec.toNat_ofNat,BitVec.toNat_ofNat];have e1:a%2^IntKind.i64.bits=a:=mod_eq_of_lt (by show a<2^64;omega);have e2:1%2^IntKind.i64.bits=1:=rfl;rw[e1,e2,and_one_is_mod];exact wrap_i64 ay
theorem VW{a:Nat}(ha:a<4611686018427387904):IntKind.i64.wrap ((a:Int)*2^(min (1:Int).toNat IntKind.i64.bits))=((2*a:Nat):Int):=by
 rw[show min (1:Int).toNat IntKind.i64.bits=1 from rfl,wrap_i64 ay];omega
theorem yU{a:Nat}:(a:Int).fdiv (2^(min (1:Int).toNat IntKind.i64.bits))=((a/2:Nat):Int):=by
 rw[show min (1:Int).toNat IntKind.i64.bits=1 from rfl,Int.fdiv_eq_ediv_of_nonneg _ aK];omega
def red(a:Nat):Nat:=if 8192≤a then a ^^^ 8219 else a
def oZ:Nat→Nat→Nat→Nat→Nat
 | 0,out,_,_=>out
 | k+1,out,a,b=>if b=0 then out else oZ k (if b%2=1 then out ^^^ a else out) (red (2*a)) (b/2)
def bA(a b:Nat):Nat:=oZ 13 0 a b
def Ab:Nat→Nat→Nat→Nat→Nat
 | 0,out,_,_=>out
 | k+1,out,a,n=>if n=0 then out else Ab k (if n%2=1 then bA out a else out) (bA a a) (n/2)
def QM(a n:Nat):Nat:=Ab 13 1 a n
def dW(i:Int):Nat:=QM 2 (i%8191).toNat
def OH(a:Nat):Nat:=QM a 8190
theorem vS{a:Nat}(h:a<8192):red (2*a)<8192:=by
 unfold red;split
 ·rename_i h1;obtain⟨c,hc⟩:∃c,2*a=8192+c:=⟨2*a-8192,by omega⟩;have bB:c<8192:=ay;have e1:2*a=8192 ^^^ c:=by
   rw[hc];have :=two_pow_add_eq_or_of_lt (i:=13) (b:=c) bB 1;have e:(8192:Nat) ||| c=8192 ^^^ c:=by
    apply eq_of_testBit_eq;intro i;rw[testBit_or,testBit_xor,show (8192:Nat)=2^13 from rfl,testBit_two_pow];by_cases hi:13=i
    ·subst hi;rw[testBit_lt_two_pow bB];simp
    ·simp[hi]
   rw[←e]
   simpa using this
  rw[e1,Nat.xor_comm 8192 c,Nat.xor_assoc,show (8192:Nat) ^^^ 8219=27 from rfl];exact fA (k:=13) bB aK
 ·omega
theorem Qo:∀(k out a b:Nat),out<8192→a<8192→oZ k out a b<8192
 | 0,_,_,_,h,_=>h
 | k+1,out,a,b,h,h'=>by
  rw[oZ];split
  ·exact h
  ·refine Qo k _ _ _ ?_ (vS h');split
   ·exact fA (k:=13) h h'
   ·exact h
theorem bD{a b:Nat}(ha:a<8192):bA a b<8192:=Qo _ _ _ _ aK ha
theorem PX:∀(k out a n:Nat),out<8192→a<8192→Ab k out a n<8192
 | 0,_,_,_,h,_=>h
 | k+1,out,a,n,h,h'=>by
  rw[Ab];split
  ·exact h
  ·refine PX k _ _ _ ?_ (bD h');split
   ·exact bD h
   ·exact h
theorem OE{a n:Nat}(ha:a<8192):QM a n<8192:=PX _ _ _ _ aK ha
theorem ow(i:Int):dW i<8192:=OE aK
section
variable{K:World}{F:List aA}
theorem Og{a b:Nat}(ha:a<8192)(hb:b<8192):aL prog 339 #[.i (a:Int),.i (b:Int)] K F (.i (bA a b:Nat)):=by
 refine aC.en func339 ntmps339 ?_;refine aj "axtu" ?_;refine WC.loop (σ:=Nat×Nat×Nat×Nat) (fun x=>[(5,.i (x.2.1:Int)),(0,.i (x.2.2.1:Int)),(1,.i (x.2.2.2:Int))]) (fun _=>F) (fun x=>x.2.1<8192∧x.2.2.1<8192∧x.2.2.2<2^x.1∧x.1≤13∧oZ x.1 x.2.1 x.2.2.1 x.2.2.2=bA a b) (fun x=>x.1) (13,0,a,b) ⟨by show 0<8192;decide,ha,hb,Nat.le_refl _,rfl⟩ bM cu ?_;rintro⟨k,o,x,y⟩ ⟨h1,h2,h3,Vq,h4⟩;dsimp only at h1 h2 h3 Vq h4 ⊢;have h13:(2:Nat)^k≤2^13:=Nat.pow_le_pow_right aK Vq;have hy:y<8192:=ay;refine aj "rsb~d" (aX (fun aN=> ?_) fun aN=> ?_)
 ·have Zw:y≠0:=ay;obtain⟨k',rfl⟩:∃k',k=k'+1:=⟨k-1,by rcases eq_zero_or_pos k with h | h;subst h;simp at h3;omega;omega⟩;rw[oZ,if_neg Zw] at h4;have SV:y/2<2^k':=by rw[Nat.pow_succ] at h3;omega
  refine aj "Hr" ?_;refine WL.val (V.aI (v':= .i ((y%2:Nat):Int)) (V.and (ak rfl) (ak rfl)) (fun _=>by rw[Xi ay])) rfl ?_;refine aj "%bX" (aX (fun aR=> ?_) fun aR=> ?_)
  ·rw[if_pos (show y%2=1 by omega)] at h4;refine aj "Q" ?_;refine WL.val (V.aI (v':= .i ((o ^^^ x:Nat):Int)) (V.xor (ak rfl) (ak rfl)) (fun _=>by rw[nN ay ay])) rfl ?_;refine aj "j" ?_;refine WL.val (V.aI (v':= .i ((2*x:Nat):Int)) (V.shl (ak rfl) (ak rfl) aK) (fun _=>by rw[VW ay])) rfl ?_;refine aj "j~ibX" (aX (fun bB=> ?_) fun bB=> ?_)
   ·have hr:red (2*x)=2*x ^^^ 8219:=by unfold red;rw[if_pos ay]
    refine aj "h" ?_;refine WL.val (V.aI (v':= .i ((2*x ^^^ 8219:Nat):Int)) (V.xor (ak rfl) (ak rfl)) (fun _=>by rw[show (8219:Int)=((8219:Nat):Int) from rfl,nN ay ay])) rfl ?_;refine aj "gh" ?_;refine WL.val (V.aI (v':= .i ((y/2:Nat):Int)) (V.shr (ak rfl) (ak rfl) aK) (fun _=>by rw[yU])) rfl ?_;refine aj "4" ?_;have nW:=vS h2;have Hu:o ^^^ x<8192:=fA (k:=13) h1 h2;rw[hr] at h4 nW;first
     | exact⟨(k',o ^^^ x,_,y/2),⟨Hu,nW,SV,by show k'≤13;omega,h4⟩,lt_succ_self _,.cons rfl (.cons rfl (.cons rfl (.nil _))),fun w h=>h⟩
     | exact⟨(k',o,_,y/2),⟨h1,nW,SV,by show k'≤13;omega,h4⟩,lt_succ_self _,.cons rfl (.cons rfl (.cons rfl (.nil _))),fun w h=>h⟩
   ·have hr:red (2*x)=2*x:=by unfold red;rw[if_neg ay]
    refine aj "ih" ?_;refine WL.val (V.aI (v':= .i ((y/2:Nat):Int)) (V.shr (ak rfl) (ak rfl) aK) (fun _=>by rw[yU])) rfl ?_;refine aj "4" ?_;have nW:=vS h2;have Hu:o ^^^ x<8192:=fA (k:=13) h1 h2;rw[hr] at h4 nW;first
     | exact⟨(k',o ^^^ x,_,y/2),⟨Hu,nW,SV,by show k'≤13;omega,h4⟩,lt_succ_self _,.cons rfl (.cons rfl (.cons rfl (.nil _))),fun w h=>h⟩
     | exact⟨(k',o,_,y/2),⟨h1,nW,SV,by show k'≤13;omega,h4⟩,lt_succ_self _,.cons rfl (.cons rfl (.cons rfl (.nil _))),fun w h=>h⟩
  ·rw[if_neg (show ¬y%2=1 by omega)] at h4;refine aj "Z" ?_;refine WL.val (V.aI (v':= .i ((2*x:Nat):Int)) (V.shl (ak rfl) (ak rfl) aK) (fun _=>by rw[VW ay])) rfl ?_;refine aj "j~ibX" (aX (fun bB=> ?_) fun bB=> ?_)
   ·have hr:red (2*x)=2*x ^^^ 8219:=by unfold red;rw[if_pos ay]
    refine aj "h" ?_;refine WL.val (V.aI (v':= .i ((2*x ^^^ 8219:Nat):Int)) (V.xor (ak rfl) (ak rfl)) (fun _=>by rw[show (8219:Int)=((8219:Nat):Int) from rfl,nN ay ay])) rfl ?_;refine aj "gh" ?_;refine WL.val (V.aI (v':= .i ((y/2:Nat):Int)) (V.shr (ak rfl) (ak rfl) aK) (fun _=>by rw[yU])) rfl ?_;refine aj "4" ?_;have nW:=vS h2;have Hu:o ^^^ x<8192:=fA (k:=13) h1 h2;rw[hr] at h4 nW;first
     | exact⟨(k',o ^^^ x,_,y/2),⟨Hu,nW,SV,by show k'≤13;omega,h4⟩,lt_succ_self _,.cons rfl (.cons rfl (.cons rfl (.nil _))),fun w h=>h⟩
     | exact⟨(k',o,_,y/2),⟨h1,nW,SV,by show k'≤13;omega,h4⟩,lt_succ_self _,.cons rfl (.cons rfl (.cons rfl (.nil _))),fun w h=>h⟩
   ·have hr:red (2*x)=2*x:=by unfold red;rw[if_neg ay]
    refine aj "ih" ?_;refine WL.val (V.aI (v':= .i ((y/2:Nat):Int)) (V.shr (ak rfl) (ak rfl) aK) (fun _=>by rw[yU])) rfl ?_;refine aj "4" ?_;have nW:=vS h2;have Hu:o ^^^ x<8192:=fA (k:=13) h1 h2;rw[hr] at h4 nW;first
     | exact⟨(k',o ^^^ x,_,y/2),⟨Hu,nW,SV,by show k'≤13;omega,h4⟩,lt_succ_self _,.cons rfl (.cons rfl (.cons rfl (.nil _))),fun w h=>h⟩
     | exact⟨(k',o,_,y/2),⟨h1,nW,SV,by show k'≤13;omega,h4⟩,lt_succ_self _,.cons rfl (.cons rfl (.cons rfl (.nil _))),fun w h=>h⟩
 ·have Zw:y=0:=ay;refine aj "Red>" ?_;have :o=bA a b:=by
   rw[←h4,Zw];cases k<;>simp[oZ]
  rw[this]
theorem aj1(a:Int):aL prog 338 #[.i a] K F (.bool (decide (0≤a)&&decide (a<8192))):=by
 refine aC.en func338 ntmps338 ?_;exact aj "aj~ic8~~~eVd$" trivial
theorem IE{a:Nat}(h:a<8192):aL prog 338 #[.i (a:Int)] K F (.bool true):=(aj1 (a:Int)).eq (by rw[decide_eq_true (show (0:Int)≤(a:Int) by omega),decide_eq_true (show (a:Int)<8192 by omega)];rfl)
theorem Ny{a b:Nat}(ha:a<8192)(hb:b<8192):aL prog 328 #[.i (a:Int),.i (b:Int)] K F (.tuple #[.i (bA a b:Nat),.i 0]):=by
 refine aC.en func328 ntmps328 ?_;refine aj "amf" ?_;refine WL.t1 call338 rfl (IE ha) rfl ?_;refine aj "*cY" ?_;refine WL.qh (oj:=_) (vs:=[_]) rfl rfl rfl GC.f call338 ⟨OV.g rfl id,trivial⟩ (fun hg=>IE hb) rfl ?_;refine aj "~~xJbOZc" ?_;refine WL.t2 call339 rfl rfl (Og ha hb) rfl ?_;refine aj "D" ?_;exact aG.ret (H':=F) (bI.eY rfl rfl rfl) cu ⟨rfl,rfl⟩
theorem zJ{a b:Nat}(ha:a<8192)(hb:b<8192):aL prog 288 #[.i (a:Int),.i (b:Int)] K F (.i (bA a b:Nat)):=by
 refine aC.en func288 ntmps288 ?_;refine aj "a0" ?_;refine WL.t2 call328 rfl rfl (Ny ha hb) rfl ?_;exact aj "Cjd$" trivial
theorem abR{a b:Nat}(ha:a<8192)(hb:b<8192):aL prog 355 #[.i (a:Int),.i (b:Int)] K F (.i (bA a b:Nat)):=by
 refine aC.en func355 ntmps355 ?_;refine aj "a0" ?_;refine WL.t2 call328 rfl rfl (Ny ha hb) rfl ?_;exact aj "Cjd$" trivial
theorem aaI{a m:Nat}(ha:a<8192)(hm:m<8192):aL prog 326 #[.i (a:Int),.i (m:Int)] K F (.i (QM a m:Nat)):=by
 refine aC.en func326 ntmps326 ?_;refine aj "axtu" ?_;refine WC.loop (σ:=Nat×Nat×Nat×Nat) (fun x=>[(5,.i (x.2.1:Int)),(0,.i (x.2.2.1:Int)),(1,.i (x.2.2.2:Int))]) (fun _=>F) (fun x=>x.2.1<8192∧x.2.2.1<8192∧x.2.2.2<2^x.1∧x.1≤13∧Ab x.1 x.2.1 x.2.2.1 x.2.2.2=QM a m) (fun x=>x.1) (13,1,a,m) ⟨by show 1<8192;decide,ha,hm,Nat.le_refl _,rfl⟩ bM cu ?_;rintro⟨k,o,x,y⟩ ⟨h1,h2,h3,Vq,h4⟩;dsimp only at h1 h2 h3 Vq h4 ⊢;have h13:(2:Nat)^k≤2^13:=Nat.pow_le_pow_right aK Vq;have hy:y<8192:=ay;refine aj "r~UbX" (aX (fun aN=> ?_) fun aN=> ?_)
 ·have Zw:y≠0:=ay;obtain⟨k',rfl⟩:∃k',k=k'+1:=⟨k-1,by rcases eq_zero_or_pos k with h | h;subst h;simp at h3;omega;omega⟩;rw[Ab,if_neg Zw] at h4;have SV:y/2<2^k':=by rw[Nat.pow_succ] at h3;omega
  refine aj "Hr" ?_;refine WL.val (V.aI (v':= .i ((y%2:Nat):Int)) (V.and (ak rfl) (ak rfl)) (fun _=>by rw[Xi ay])) rfl ?_;refine aj "%bX" (aX (fun aR=> ?_) fun aR=> ?_)
  ·rw[if_pos (show y%2=1 by omega)] at h4;refine aj "Q" ?_;refine WL.t2 call339 rfl rfl (Og h1 h2) rfl ?_;refine aj "gQ" ?_;refine WL.t2 call339 rfl rfl (Og h2 h2) rfl ?_;refine aj "gh" ?_;refine WL.val (V.aI (v':= .i ((y/2:Nat):Int)) (V.shr (ak rfl) (ak rfl) aK) (fun _=>by rw[yU])) rfl ?_;refine aj "4" ?_;first
    | exact⟨(k',bA o x,bA x x,y/2),⟨bD h1,bD h2,SV,by show k'≤13;omega,h4⟩,lt_succ_self _,.cons rfl (.cons rfl (.cons rfl (.nil _))),fun w h=>h⟩
    | exact⟨(k',o,bA x x,y/2),⟨h1,bD h2,SV,by show k'≤13;omega,h4⟩,lt_succ_self _,.cons rfl (.cons rfl (.cons rfl (.nil _))),fun w h=>h⟩
  ·rw[if_neg (show ¬y%2=1 by omega)] at h4;refine aj "iQ" ?_;refine WL.t2 call339 rfl rfl (Og h2 h2) rfl ?_;refine aj "gh" ?_;refine WL.val (V.aI (v':= .i ((y/2:Nat):Int)) (V.shr (ak rfl) (ak rfl) aK) (fun _=>by rw[yU])) rfl ?_;refine aj "4" ?_;first
    | exact⟨(k',bA o x,bA x x,y/2),⟨bD h1,bD h2,SV,by show k'≤13;omega,h4⟩,lt_succ_self _,.cons rfl (.cons rfl (.cons rfl (.nil _))),fun w h=>h⟩
    | exact⟨(k',o,bA x x,y/2),⟨h1,bD h2,SV,by show k'≤13;omega,h4⟩,lt_succ_self _,.cons rfl (.cons rfl (.cons rfl (.nil _))),fun w h=>h⟩
 ·have Zw:y=0:=ay;refine aj "Red>" ?_;have :o=QM a m:=by
   rw[←h4,Zw];cases k<;>simp[Ab]
  rw[this]
theorem Zc(i:Int)(hi: -9223372036854775808≤i∧i≤9223372036854775807):aL prog 327 #[.i i] K F (.i (i%8191)):=by
 have hb: -8191<i.tmod 8191∧i.tmod 8191<8191:=by
  rcases Int.le_total 0 i with h | h
  ·rw[Int.tmod_eq_emod_of_nonneg h];omega
  ·have h1:i.tmod 8191= -((-i).tmod 8191):=by rw[Int.neg_tmod,Int.neg_neg]
   rw[Int.tmod_eq_emod_of_nonneg (a:= -i) ay] at h1;omega
 have he:=Int.tmod_def i 8191;refine aC.en func327 ntmps327 ?_;refine aj "af" ?_;refine WL.val (V.rem (ak rfl) (ak rfl) aK) rfl ?_;refine aj "j5bX" (aX (fun aN=> ?_) fun aN=> ?_)
 ·have h0:=aN;refine aj "h.jd" ?_;first
  | (
   refine qR F rfl rfl cu ⟨?_,rfl⟩;have :i.tmod 8191+8191=i%8191:=by rw[he] at h0 ⊢;omega
   rw[this])
  | (
   refine qR F rfl rfl cu ⟨?_,rfl⟩;have :i.tmod 8191=i%8191:=by rw[he] at h0 ⊢;omega
   rw[this])
 ·have h0:=aN;refine aj "Zd" ?_;first
  | (
   refine qR F rfl rfl cu ⟨?_,rfl⟩;have :i.tmod 8191+8191=i%8191:=by rw[he] at h0 ⊢;omega
   rw[this])
  | (
   refine qR F rfl rfl cu ⟨?_,rfl⟩;have :i.tmod 8191=i%8191:=by rw[he] at h0 ⊢;omega
   rw[this])
theorem Vl(i:Int)(hi: -9223372036854775808≤i∧i≤9223372036854775807):aL prog 287 #[.i i] K F (.i (dW i:Nat)):=by
 have e1:i%8191=(((i%8191).toNat:Nat):Int):=ay;refine aC.en func287 ntmps287 ?_;refine aj "aj" ?_;refine WL.t1 call327 rfl (aL.eq (Zc i hi) (by rw[e1])) rfl ?_;refine WL.t2 call326 rfl rfl (aaI (a:=2) (m:=(i%8191).toNat) aK ay) rfl ?_;exact aj "d$" trivial
theorem agX{a:Nat}(ha:a<8192)(h0:a≠0):aL prog 324 #[.i (a:Int)] K F (.tuple #[.i (OH a:Nat),.i 0]):=by
 refine aC.en func324 ntmps324 ?_;refine aj "amtue" ?_;refine WL.t1 call338 rfl (IE ha) rfl ?_;refine aj "*gOe%g" ?_;refine WC.jq rfl ((by simp only[decide_eq_false_iff_not];omega)) ?_;refine aj "Z" ?_;refine WL.t2 call326 rfl rfl (aaI (a:=a) (m:=8190) ha aK) rfl ?_;refine aj "D" ?_;exact aG.ret (H':=F) (bI.eY rfl rfl rfl) cu ⟨rfl,rfl⟩
end
def av(k:IntKind)(xs:List Nat):List Value:=xs.map fun x:Nat=>Value.int k (x:Int)
theorem au(k:IntKind)(xs:List Nat):(av k xs).length=xs.length:=by simp[av]
theorem jG(k:IntKind)(xs:List Nat){i:Nat}(h:i<xs.length):(av k xs)[i]? =some (.int k (xs.getD i 0:Nat)):=by simp[av,getD,h]
theorem kr(k:IntKind)(xs:List Nat)(i x:Nat):(av k xs).set i (.int k (x:Int))=av k (xs.set i x):=by simp[av,map_set]
theorem kE(k:IntKind)(xs:List Nat):∀u∈av k xs,u.oneCell'=true:=by simp[av,Value.oneCell']
theorem d9(k:IntKind)(m x:Nat):av k (replicate m x)=replicate m (.int k (x:Int)):=by simp[av]
theorem dA(k:IntKind)(xs ys:List Nat):av k (xs++ys)=av k xs++av k ys:=by simp[av]
theorem dR(k:IntKind)(xs:List Nat)(n:Nat):(av k xs).take n=av k (xs.take n):=by simp[av]
theorem kT(k:IntKind)(xs:List Nat)(n:Nat):(av k xs).drop n=av k (xs.drop n):=by simp[av]
def aB(b:Nat)(xs:List Nat):Prop:=∀x∈xs,x<b
theorem aB.at_{b:Nat}{xs:List Nat}(h:aB b xs)(hb:0<b)(i:Nat):xs.getD i 0<b:=by
 by_cases hi:i<xs.length
 ·have :=h xs[i] (getElem_mem hi)
  simpa [getD,hi] using this
 ·simp[getD,getElem?_eq_none (Nat.le_of_not_lt hi),hb]
theorem aB.set{b:Nat}{xs:List Nat}(h:aB b xs){i x:Nat}(hx:x<b):aB b (xs.set i x):=fun y hy=>by
 rcases mem_or_eq_of_mem_set hy with h1 | rfl
 ·exact h y h1
 ·exact hx
theorem aB.vg{b n x:Nat}(hx:x<b):aB b (replicate n x):=fun y hy=>by rw[eq_of_mem_replicate hy];exact hx
theorem aB.take{b n:Nat}{xs:List Nat}(h:aB b xs):aB b (xs.take n):=fun y hy=>h y (mem_of_mem_take hy)
theorem aB.append{b:Nat}{xs ys:List Nat}(h:aB b xs)(h':aB b ys):aB b (xs++ys):=fun y hy=>(mem_append.1 hy).elim (h y) (h' y)
theorem _root_.Go.Sl.Seq.jv{K:World}{H:List aA}{A:Option Addr}{m:Nat}{k:IntKind}{xs:List Nat}(h:Seq K H A m 1 (av k xs)){j:Nat}(hj:j<m):Rd K H (A.map (·.add (j*1))) (.int k (xs.getD j 0:Nat)):=by
 have hl:xs.length=m:=by simpa [av] using h.len
 have :=h.rd j _ (jG k xs ay)
 simpa using this
theorem _root_.Go.Sl.Seq.Gq{K:World}{H:List aA}{b T m:Nat}{k:IntKind}{xs:List Nat}(hl:xs.length=m):Seq K (ah b T (av k xs)::H) (some ⟨b,0,none⟩) m 1 (av k xs):=Seq.all (by simp[av,hl])
def aT(xs:List Nat):Nat→Nat
 | 0=>0
 | k+1=>if xs.getD k 0=0 then aT xs k else k+1
theorem iy(xs:List Nat):∀k,aT xs k≤k
 | 0=>Nat.le_refl _
 | k+1=>by
  have :=iy xs k;rw[aT];split<;>omega
def Ak(out p:List Nat)(at_ Kg:Nat):Nat→List Nat
 | 0=>out
 | j+1=>(Ak out p at_ Kg j).set (at_+j) ((Ak out p at_ Kg j).getD (at_+j) 0 ^^^ bA (p.getD j 0) Kg)
theorem uZ(out p:List Nat)(at_ Kg:Nat):∀j,(Ak out p at_ Kg j).length=out.length
 | 0=>rfl
 | j+1=>by rw[Ak,length_set,uZ]
theorem xq{out p:List Nat}{at_ Kg:Nat}(h:aB 8192 out)(hp:aB 8192 p):∀j,aB 8192 (Ak out p at_ Kg j)
 | 0=>h
 | j+1=>by
  have ih:=xq (at_:=at_) (Kg:=Kg) h hp j;rw[Ak];exact ih.set (fA (k:=13) (ih.at_ aK _) (bD (hp.at_ aK _)))
def Dt(ps qs:List Nat):Nat→List Nat
 | 0=>replicate (ps.length+qs.length) 0
 | i+1=>Ak (Dt ps qs i) qs i (ps.getD i 0) qs.length
def iR(ps qs:List Nat):List Nat:=Dt ps qs ps.length
theorem qx(ps qs:List Nat):∀i,(Dt ps qs i).length=ps.length+qs.length
 | 0=>length_replicate
 | i+1=>by rw[Dt,uZ,qx]
theorem yN{ps qs:List Nat}(hq:aB 8192 qs):∀i,aB 8192 (Dt ps qs i)
 | 0=>aB.vg aK
 | i+1=>xq (yN hq i) hq _
section
variable{K:World}{F:List aA}
theorem Yq{A:Option Addr}{m cap:Nat}{xs:List Nat}(hs:Seq K F A m 1 (av .i64 xs))(nO:m≤cap)(hm:m≤1000000):aL prog 354 #[.slice A m cap] K F (.slice A (aT xs m) cap):=by
 refine aC.en func354 ntmps354 ?_;refine aj "atu" ?_;refine WC.loop (σ:=Nat) (fun j=>[(0,.slice A j cap)]) (fun _=>F) (fun j=>j≤m∧aT xs j=aT xs m) (fun j=>j) m ⟨Nat.le_refl _,rfl⟩ bM cu ?_;rintro j ⟨hj,hn⟩;have lJ:0<j→Rd K F (A.map (·.add (((j:Int)-1).toNat*1))) (.i (xs.getD (j-1) 0:Nat)):=fun h=>by
  rw[show ((j:Int)-1).toNat=j-1 by omega];exact hs.jv ay
 refine aj "ro~Uc88~~e~~5" ?_;refine WL.bG (oj:=_) rfl rfl rfl GC.t (V.eD (m:=j) (cap:=cap) fZ (OV.g rfl id) (OV.g rfl id) (fun hc=>by simp at hc;omega) (fun hc=>lJ (by simp at hc;omega))) rfl ?_;refine WL.bG (oj:=_) rfl rfl rfl GC.t (V.load isAgg3 (OV.g rfl id) (fun hc=>lJ (by simp at hc;omega))) rfl ?_;refine aj "~EVk" (aX (fun aN=> ?_) fun aN=> ?_)
 ·simp only[He] at aN;have h0:=aN;refine aj "iuQo(" ?_;refine WL.val (V.aI (v':= .slice A (j-1) cap) (V.slice (l:=0) (h:=j-1) (u:=cap) fZ (ak rfl) OO.none (OO.some (ak rfl) (fun _=>by omega)) OO.none (by simp) (zero_le _) ay (Nat.le_refl _)) (fun _=>by rw[zQ];rfl)) rfl ?_;refine aj "4" ?_;refine⟨j-1,⟨by show j-1≤m;omega, ?_⟩,(by show j-1<j;omega),.cons rfl (.nil _),fun w h=>h⟩;obtain⟨i,rfl⟩:∃i,j=i+1:=⟨j-1,by omega⟩;rw[←hn,aT,if_pos (by have :=h0.2;simp at this ⊢;omega)];rfl
 ·simp only[He] at aN;have h0:=aN;refine aj "Red>" ?_;have :aT xs m=j:=by
   rw[←hn];cases j with
   | zero=>rfl
   | succ i =>
    rw[aT,if_neg];intro hz;rcases h0 with h1 | h1
    ·omega
    ·have h2:¬((xs.getD i 0:Nat):Int)=0:=h1;exact h2 (by rw[hz];rfl)
  rw[this]
structure WO where
 A:Option Addr
 m:Nat
 cap:Nat
 xs:List Nat
abbrev WO.v(p:WO):Value:= .slice p.A p.m p.cap
theorem aej{b:Nat}{ls:List WO}(hls:∀p∈ls,Seq K F p.A p.m 1 (av .i64 p.xs)∧aB 8192 p.xs∧p.m≤1000000)(hR:Seq K F (some ⟨b,0,none⟩) ls.length 1 (ls.map WO.v))(hll:ls.length≤1000) :
 aL prog 345 #[.slice (some ⟨b,0,none⟩) ls.length ls.length] K F (.bool true):=by
 refine aC.en func345 ntmps345 ?_;refine aj "afoP" ?_;refine WC.loop (σ:=Nat) (fun i=>[(9,.slice (some ⟨b,0,none⟩) ls.length ls.length),(10,.i (ls.length:Int)),(11,.i (i:Int))]) (fun _=>F) (fun i=>i≤ls.length) (fun i=>ls.length-i) 0 (zero_le _) bM cu ?_;rintro i hi;refine aj "UX" (aX (fun aN=> ?_) fun aN=> ?_)
 ·refine aj "HN" ?_;obtain⟨p,hp⟩:∃p,ls[i]? =some p:=⟨_,getElem?_eq_getElem ay⟩;obtain⟨rP,hpb,BR⟩:=hls p (mem_of_getElem? hp);have nu:p.xs.length=p.m:=by simpa [av] using rP.len
  have lJ:Rd K F (some ⟨b,0+(i:Int).toNat*1,none⟩) p.v:=by
   have :=hR.rd i p.v (by rw[getElem?_map,hp];rfl);rw[show 0+(i:Int).toNat*1=0+i by omega]
   simpa [jR] using this
  refine aj "q~v" ?_;refine WL.val (V.load isAgg124 (ak rfl) (fun hc=>lJ)) rfl ?_;refine aj "joP" ?_;refine WC.loop (σ:=Nat) (fun j=>[(9,.slice (some ⟨b,0,none⟩) ls.length ls.length),(10,.i (ls.length:Int)),(11,.i (i:Int)),(15,p.v),(16,.i (p.m:Int)),(17,.i (j:Int))]) (fun _=>F) (fun j=>j≤p.m) (fun j=>p.m-j) 0 (zero_le _) bM cu ?_;rintro j hj;refine aj "UX" (aX (fun aR=> ?_) fun aR=> ?_)
  ·refine aj "HN" ?_;have xR:Rd K F (p.A.map (·.add ((j:Int).toNat*1))) (.i (p.xs.getD j 0:Nat)):=by
    rw[show (j:Int).toNat=j by omega];exact rP.jv ay
   refine WC.region ?_;refine WL.val (V.eD fZ (ak rfl) (ak rfl) (fun hc=>by omega) (fun hc=>xR)) rfl ?_;refine WL.val (V.load isAgg3 (ak rfl) (fun hc=>xR)) rfl ?_;refine aj "j" ?_;refine WL.t2 call328 rfl rfl (Ny (b:=0) (hpb.at_ aK j) aK) rfl ?_;refine aj "CjsbOi6" ?_;exact⟨j+1,(by show j+1≤p.m;omega),(by show p.m-(j+1)<p.m-j;omega),.cons rfl bM,fun w h=>h⟩
  ·refine aj "R6" ?_;exact⟨i+1,(by show i+1≤ls.length;omega),(by show ls.length-(i+1)<ls.length-i;omega),.cons rfl bM,fun w h=>h⟩
 ·exact aj "RI$" trivial
theorem aaO{g b5 N cap:Nat}{out:List Nat}{i x:Nat}(hN:out.length=N)(hi:i<N)(ho:aB 8192 out)(hx:x<8192)(h5:Rd K F (some ⟨b5,0,none⟩) (.slice (some ⟨g,0,none⟩) N cap))(nO:N≤1000000) :
 aC prog 353 #[.i (i:Int),.i (x:Int),ptr b5 0] K (ah g 3 (av .i64 out)::F)
  (fun v H'=>H'=ah g 3 (av .i64 (out.set i (out.getD i 0 ^^^ x)))::F):=by
 have hgi:(av .i64 out)[0+(i:Int).toNat*1]? =some (.i (out.getD i 0:Nat)):=by rw[show 0+(i:Int).toNat*1=i by omega];exact jG _ _ ay
 have hb:=ho.at_ aK i;refine aC.en func353 ntmps353 ?_;refine WC.region ?_;refine WL.val (V.load isAgg124 (ak rfl) (fun hc=>h5.up)) rfl ?_;refine aj "c~v" ?_;refine WL.val (V.load isAgg3 (ak rfl) (fun hc=>Rd.here hgi)) rfl ?_;refine WL.mv rfl rfl ?_;refine WL.val (V.aI (v':= .i ((out.getD i 0 ^^^ x:Nat):Int)) (V.xor (ak rfl) (ak rfl)) (fun _=>by rw[nN ay ay])) rfl ?_;refine aj "~v" ?_;refine WL.store (cs:=[_]) sizeOf3 (ak rfl) (ak rfl) rfl rfl rfl (dw.at_ (by rw[au];omega)) ?_;refine WL.nil ?_;refine aG.normal (H':=ah g _ _::F) (bI.none rfl) (fun w h=>Sat.aS h ?_) rfl;rw[show 0+(i:Int).toNat*1=i by omega,kr]
theorem abS{g b5 N cap:Nat}{out:List Nat}{A:Option Addr}{m cap':Nat}{ps:List Nat}{at_ Kg:Nat}(hN:out.length=N)(ho:aB 8192 out)(hs:Seq K F A m 1 (av .i64 ps))(hp:aB 8192 ps)(Zo:at_+m≤N)(J6:Kg<8192)
 (h5:Rd K F (some ⟨b5,0,none⟩) (.slice (some ⟨g,0,none⟩) N cap)) (nO:N≤1000000) :
 aC prog 348 #[.func (.func 353) #[] #[ptr b5 0],.slice A m cap',.i (at_:Int),.i (Kg:Int)] K (ah g 3 (av .i64 out)::F)
  (fun v H'=>H'=ah g 3 (av .i64 (Ak out ps at_ Kg m))::F):=by
 have hl:ps.length=m:=by simpa [av] using hs.len
 refine aC.en func348 ntmps348 ?_;refine aj "eoP" ?_;refine WC.loop (σ:=Nat) (fun j=>[(0,.func (.func 353) #[] #[ptr b5 0]),(2,.i (at_:Int)),(3,.i (Kg:Int)),(10,.slice A m cap'),(11,.i (m:Int)),(12,.i (j:Int))]) (fun j=>ah g 3 (av .i64 (Ak out ps at_ Kg j))::F) (fun j=>j≤m) (fun j=>m-j) 0 (zero_le _) bM cu ?_;rintro j hj;refine aj "UX" (aX (fun aN=> ?_) fun aN=> ?_)
 ·refine aj "HN" ?_;have hjm:j<m:=ay;have xR:Rd K (ah g 3 (av .i64 (Ak out ps at_ Kg j))::F) (A.map (·.add ((j:Int).toNat*1))) (.i (ps.getD j 0:Nat)):=by
   rw[show (j:Int).toNat=j by omega];exact (hs.jv ay).up
  have pY:=xq (at_:=at_) (Kg:=Kg) ho hp j;have hpj:=hp.at_ aK j;refine aj "h" ?_;refine WL.val (V.eD fZ (ak rfl) (ak rfl) (fun hc=>by omega) (fun hc=>xR)) rfl ?_;refine WL.val (V.load isAgg3 (ak rfl) (fun hc=>xR)) rfl ?_;refine aj "mghz" ?_;refine WL.val (V.aI (v':= .i ((at_+j:Nat):Int)) (V.Ci (ak rfl) (ak rfl) (fun _=>by omega)) (fun _=>by simp)) rfl ?_;refine aj "z" ?_;refine WL.t2 call355 rfl rfl (abR hpj J6) rfl ?_;refine WL.nC (first:=[]) (vs:=[_,_]) (captured:=[ptr b5 0]) call353 (ak rfl) ⟨ak rfl,ak rfl,trivial⟩ (aaO (N:=N) (cap:=cap) (by rw[uZ];exact hN) ay pY (bD hpj) h5 nO) rfl ?_;rintro v1 _ rfl;refine aj "b6" ?_;exact⟨j+1,(by show j+1≤m;omega),(by show m-(j+1)<m-j;omega),.cons rfl bM,fun w h=>h⟩
 ·refine WC.exit ?_;obtain rfl:j=m:=by omega
  exact aG.normal (H':=ah g _ _::F) (bI.none rfl) cu rfl
end
def bH(B:Nat):Nat→Nat→List Nat
 | 0,_=>[]
 | k+1,n=>n%B::bH B k (n/B)
def vl(B:Nat):List Nat→Nat
 | []=>0
 | x::xs=>x+B*vl B xs
theorem aH(B:Nat):∀k n,(bH B k n).length=k
 | 0,_=>rfl
 | k+1,n=>by rw[bH,length_cons,aH B k]
theorem bJ{B:Nat}(hB:0<B):∀k n,aB B (bH B k n)
 | 0,_=>fun y hy=>by cases hy
 | k+1,n=>fun y hy=>by
  rcases mem_cons.1 hy with rfl | hy
  ·exact mod_lt _ hB
  ·exact bJ hB k _ y hy
theorem bW(B:Nat):∀k n i,i<k→(bH B k n).getD i 0=n/B^i%B
 | 0,_,i,h=>absurd h (not_lt_zero i)
 | k+1,n,0,_=>by simp[bH]
 | k+1,n,i+1,h=>by
  rw[bH,getD_cons_succ,bW B k _ i ay,Nat.pow_succ,Nat.mul_comm,Nat.div_div_eq_div_mul]
theorem xO(B:Nat):∀k n,vl B (bH B k n)=n%B^k
 | 0,n=>by simp[bH,vl,mod_one]
 | k+1,n=>by rw[bH,vl,xO B k,Nat.pow_succ,Nat.mul_comm (B^k) B,mod_mul]
theorem Uh{B:Nat}:∀ {l:List Nat},aB B l→bH B l.length (vl B l)=l
 | [],_=>rfl
 | x::xs,h=>by
  have hx:x<B:=h x (.head _);have hB:0<B:=Nat.lt_of_le_of_lt (zero_le _) hx;rw[length_cons,bH,vl,add_mul_mod_self_left,mod_eq_of_lt hx,add_mul_div_left _ _ hB,div_eq_of_lt hx,Nat.zero_add,Uh fun y hy=>h y (.tail _ hy)]
theorem nJ{B k:Nat}{l:List Nat}(h:aB B l)(hk:l.length=k):bH B k (vl B l)=l:=by subst hk;exact Uh h
theorem oF(B:Nat):∀k n,bH B k (n%B^k)=bH B k n
 | 0,_=>rfl
 | k+1,n=>by
  rw[bH,bH,Nat.pow_succ,Nat.mul_comm (B^k) B,mod_mul_right_mod,mod_mul_right_div_self,oF B k]
theorem EJ(B:Nat):∀xs ys:List Nat,vl B (xs++ys)=vl B xs+B^xs.length*vl B ys
 | [],ys=>by simp[vl]
 | x::xs,ys=>by
  rw[cons_append,vl,vl,EJ B xs,length_cons,Nat.pow_succ,Nat.mul_add,Nat.mul_comm (B^xs.length) B,Nat.mul_assoc,Nat.add_assoc]
theorem nT{B:Nat}:∀ {l:List Nat},aB B l→vl B l<B^l.length
 | [],_=>by simp[vl]
 | x::xs,h=>by
  have hx:x<B:=h x (.head _);have h1:=nT (l:=xs) fun y hy=>h y (.tail _ hy);rw[vl,length_cons,Nat.pow_succ,Nat.mul_comm _ B]
  calc x+B*vl B xs<B+B*vl B xs:=Nat.add_lt_add_right hx _
   _=B*(vl B xs+1):=by rw[Nat.mul_add,Nat.mul_one,Nat.add_comm]
   _≤B*B^xs.length:=mul_le_mul_left _ h1
theorem Jm(B:Nat):∀k,vl B (replicate k 0)=0
 | 0=>rfl
 | k+1=>by rw[replicate_succ,vl,Jm B k];simp
theorem rH(B:Nat):∀k,bH B k 0=replicate k 0
 | 0=>rfl
 | k+1=>by rw[bH,zero_mod,Nat.zero_div,rH B k,replicate_succ]
theorem Jh(B:Nat):∀(l:List Nat) (i x:Nat),i<l.length→vl B (l.set i x)+l.getD i 0*B^i=vl B l+x*B^i
 | [],i,x,h=>absurd h (not_lt_zero i)
 | y::l,0,x,_=>by simp[vl];omega
 | y::l,i+1,x,h=>by
  have h1:=Jh B l i x (by simpa using h);rw[set_cons_succ,getD_cons_succ,vl,vl,Nat.pow_succ];have h2:B*(vl B (l.set i x)+l.getD i 0*B^i)=B*(vl B l+x*B^i):=by rw[h1]
  rw[Nat.mul_add,Nat.mul_add] at h2;have e1:B*(l.getD i 0*B^i)=l.getD i 0*(B^i*B):=by rw[←Nat.mul_assoc,Nat.mul_comm B,Nat.mul_assoc,Nat.mul_comm B]
  have e2:B*(x*B^i)=x*(B^i*B):=by rw[←Nat.mul_assoc,Nat.mul_comm B,Nat.mul_assoc,Nat.mul_comm B]
  rw[e1,e2] at h2;omega
theorem xC(B:Nat):∀k n,bH B (k+1) n=bH B k n++[n/B^k%B]
 | 0,n=>by simp[bH]
 | k+1,n=>by
  rw[bH,xC B k,bH,cons_append,Nat.pow_succ,Nat.mul_comm (B^k) B,Nat.div_div_eq_div_mul]
theorem zB(B:Nat):∀i k n,bH B (i+k) n=bH B i n++bH B k (n/B^i)
 | 0,k,n=>by simp[bH]
 | i+1,k,n=>by
  rw[show i+1+k=(i+k)+1 by omega,bH,zB B i k,bH,cons_append,Nat.pow_succ,Nat.mul_comm (B^i) B,Nat.div_div_eq_div_mul]
theorem Dz{B i k n:Nat}(h:i≤k):(bH B k n).take i=bH B i n:=by grind [Nat.le.dest,zB,take_left',aH]
theorem OJ{B:Nat}(l:List Nat)(i:Nat)(hi:i≤l.length):vl B l=vl B (l.take i)+B^i*vl B (l.drop i):=by grind [EJ,take_append_drop,length_take,Nat.min_eq_left]
theorem Df{B:Nat}(l:List Nat)(i:Nat)(hi:i<l.length):vl B (l.take (i+1))=vl B (l.take i)+B^i*l.getD i 0:=by
 rw[take_add_one,getElem?_eq_getElem hi,Option.toList_some,EJ,length_take,Nat.min_eq_left (Nat.le_of_lt hi)];simp[vl,getD,hi]
theorem aaS{B:Nat}(hB:0<B)(k n i:Nat)(hi:i<k):(bH B i n++replicate (k-i) 0).set i (n/B^i%B)=bH B (i+1) n++replicate (k-(i+1)) 0:=by
 rw[set_append,aH,if_neg ay,Nat.sub_self,xC,append_assoc];obtain⟨j,hj⟩:∃j,k-i=j+1:=⟨k-i-1,by omega⟩;rw[hj,replicate_succ,set_cons_zero,show k-(i+1)=j by omega];rfl
end Go.Proofs.YtcedojacbhnbiaaGreat
namespace Go.Sl
open Go.RowKit Go.Proofs.YtcedojacbhnbiaaGreat List Nat
section
variable{Mo:Mode}{P:Program}{K:World}{n:Nat}{c:Bool}{e:Env}{H:List aA}{dst:Option Tmp}{ty:TypeId}{pos:String}{af:Array Edge}{gd:Option (Nat×Bool)}{t t':TypeId}{x y:Operand}{i j:Nat}
theorem V.wU(hx:OV c e x (.i ((i:Nat):Int)))(hy:OV c e y (.i ((j:Nat):Int)))(h:c=true→i+j≤9223372036854775807:=by intro hc;first | omega | (simp at hc;omega)):eX Mo P K n c e H ⟨dst,.binOp .add t x y t',ty,pos,af,gd⟩ (.i ((i+j:Nat):Int)):=by grind [V.aI,V.Ci,Int.natCast_add]
theorem V.rV(hx:OV c e x (.i ((i:Nat):Int)))(hy:OV c e y (.i ((j:Nat):Int)))(h:c=true→j≤i∧i≤9223372036854775807:=by intro hc;first | omega | (simp at hc;omega)):eX Mo P K n c e H ⟨dst,.binOp .sub t x y t',ty,pos,af,gd⟩ (.i ((i-j:Nat):Int)) :=
 V.aI (V.CV hx hy (fun hc=>by have :=h hc;omega)) fun hc=>by rw[Int.natCast_sub (h hc).1]
theorem V.Pb(hx:OV c e x (.i ((i:Nat):Int)))(hy:OV c e y (.i ((j:Nat):Int)))(h:c=true→i*j≤9223372036854775807:=by intro hc;first | omega | (simp at hc;omega)):eX Mo P K n c e H ⟨dst,.binOp .mul t x y t',ty,pos,af,gd⟩ (.i ((i*j:Nat):Int)):=by grind [V.aI,V.OD,Int.natCast_mul]
theorem V.Yr(hx:OV c e x (.i ((i:Nat):Int)))(hy:OV c e y (.i ((j:Nat):Int)))(h:c=true→0<j∧i≤9223372036854775807:=by intro hc;first | omega | (simp at hc;omega)):eX Mo P K n c e H ⟨dst,.binOp .quo t x y t',ty,pos,af,gd⟩ (.i ((i/j:Nat):Int)):=by grind [V.aI,V.ad9,Int.natCast_ediv]
theorem V.XB(hx:OV c e x (.i ((i:Nat):Int)))(hy:OV c e y (.i ((j:Nat):Int)))(h:c=true→0<j:=by intro hc;first | omega | (simp at hc;omega)):eX Mo P K n c e H ⟨dst,.binOp .rem t x y t',ty,pos,af,gd⟩ (.i ((i%j:Nat):Int)):=by grind [V.aI,V.Dv,Int.natCast_emod]
def mo(k:IntKind):Nat:=2^k.bits
theorem Dy(m:Nat):(2:Int)^m=((2^m:Nat):Int):=by simp[Int.natCast_pow]
theorem yV{k:IntKind}(hk:k.signed=false)(m:Nat):k.wrap (m:Int)=((m%mo k:Nat):Int):=by
 unfold IntKind.wrap mo;simp only[hk,Bool.false_and,Bool.false_eq_true,if_false];rw[Dy,Int.natCast_emod]
theorem V.RQ{k:IntKind}{M:Nat}(hx:OV c e x (.int k ((i:Nat):Int)))(hy:OV c e y (.int k ((j:Nat):Int)))(hk:k.signed=false:=by rfl)(hM:mo k=M:=by rfl):eX Mo P K n c e H ⟨dst,.binOp .add t x y t',ty,pos,af,gd⟩ (.int k (((i+j)%M:Nat):Int)) :=
 V.aI (V.add hx hy) fun _=>by rw[←Int.natCast_add,yV hk,hM]
theorem V.UW{k:IntKind}{M:Nat}(hx:OV c e x (.int k ((i:Nat):Int)))(hy:OV c e y (.int k ((j:Nat):Int)))(hk:k.signed=false:=by rfl)(hM:mo k=M:=by rfl):eX Mo P K n c e H ⟨dst,.binOp .mul t x y t',ty,pos,af,gd⟩ (.int k (((i*j)%M:Nat):Int)) :=
 V.aI (V.mul hx hy) fun _=>by rw[←Int.natCast_mul,yV hk,hM]
theorem V.ajh{k:IntKind}{M:Nat}(hx:OV c e x (.int k ((i:Nat):Int)))(hy:OV c e y (.int k ((j:Nat):Int)))(hk:k.signed=false:=by rfl)(hM:mo k=M:=by rfl)(h:c=true→j≤i∧i<M:=by intro hc;first | omega | (simp at hc;omega)):eX Mo P K n c e H ⟨dst,.binOp .sub t x y t',ty,pos,af,gd⟩ (.int k ((i-j:Nat):Int)) :=
 V.aI (V.sub hx hy) fun hc=>by rw[←Int.natCast_sub (h hc).1,yV hk,hM,mod_eq_of_lt (by have :=h hc;omega)]
theorem V.Jk{k k':IntKind}{M:Nat}(hx:OV c e x (.int k ((i:Nat):Int)))(hy:OV c e y (.int k' ((j:Nat):Int)))(hk:k.signed=false:=by rfl)(hM:mo k=M:=by rfl):eX Mo P K n c e H ⟨dst,.binOp .shl t x y t',ty,pos,af,gd⟩ (.int k (((i*2^j)%M:Nat):Int)) :=
 V.aI (V.shl hx hy (Int.natCast_nonneg _)) fun _=>by
  rw[Int.toNat_natCast,show ((i:Int)*2^(Min.min j k.bits))=((i*2^(Min.min j k.bits):Nat):Int) by simp[Int.natCast_pow],yV hk,hM];congr 2;rcases Nat.le_total j k.bits with h | h
  ·rw[Nat.min_eq_left h]
  ·rw[Nat.min_eq_right h];obtain⟨q,rfl⟩:=Nat.le.dest h;rw[←hM,Nat.pow_add,←Nat.mul_assoc,Nat.mul_assoc,Nat.mul_comm (2^k.bits),←Nat.mul_assoc];unfold mo;rw[mul_mod_left,mul_mod_left]
theorem aaD(i k:Nat):((i:Nat):Int).fdiv (2^k)=((i/2^k:Nat):Int):=by grind
theorem V.wO{k k':IntKind}(hx:OV c e x (.int k ((i:Nat):Int)))(hy:OV c e y (.int k' ((j:Nat):Int)))(h:c=true→j≤k.bits∨i<2^k.bits:=by intro _;left;simp only[IntKind.bits];omega):eX Mo P K n c e H ⟨dst,.binOp .shr t x y t',ty,pos,af,gd⟩ (.int k ((i/2^j:Nat):Int)) :=
 V.aI (V.shr hx hy (Int.natCast_nonneg _)) fun hc=>by
  rw[Int.toNat_natCast,aaD];congr 2;rcases Nat.le_total j k.bits with h1 | h1
  ·rw[Nat.min_eq_left h1]
  ·rcases h hc with h2 | h2
   ·rw[show j=k.bits by omega,Nat.min_self]
   ·rw[Nat.min_eq_right h1,div_eq_of_lt h2,div_eq_of_lt (Nat.lt_of_lt_of_le h2 (Nat.pow_le_pow_right aK h1))]
theorem VP{op:BinOp}{f:Nat→Nat→Nat}{k:IntKind}{m:Nat}(hi:i<2^m)(hj:j<2^m)(hm:m≤k.bits)(wQ:k.signed=true→m<k.bits)(hf:op= .and∧f=(· &&& ·)∨op= .or∧f=(· ||| ·)∨op= .xor∧f=(· ^^^ ·)):bitsOf op k (i:Int) (j:Int)=((f i j:Nat):Int):=by
 have hp:2^m≤2^k.bits:=Nat.pow_le_pow_right aK hm;have e1:(BitVec.ofInt k.bits (i:Int)).toNat=i:=by rw[BitVec.ofInt_natCast,BitVec.toNat_ofNat,mod_eq_of_lt ay]
 have e2:(BitVec.ofInt k.bits (j:Int)).toNat=j:=by rw[BitVec.ofInt_natCast,BitVec.toNat_ofNat,mod_eq_of_lt ay]
 have hfl:f i j<2^m:=by
  rcases hf with ⟨_,rfl⟩ | ⟨_,rfl⟩ | ⟨_,rfl⟩
  ·exact Nat.lt_of_le_of_lt and_le_left hi
  ·exact or_lt_two_pow hi hj
  ·exact xor_lt_two_pow hi hj
 have hw:k.wrap ((f i j:Nat):Int)=((f i j:Nat):Int):=by
  unfold IntKind.wrap;have h0:((f i j:Nat):Int)%(2^k.bits:Int)=((f i j:Nat):Int):=by
   rw[Dy,←Int.natCast_emod,mod_eq_of_lt ay]
  simp only[h0];cases hs:k.signed with
  | false=>simp
  | true =>
   have h3:2^m≤2^(k.bits-1):=Nat.pow_le_pow_right aK (by have :=wQ hs;omega);have h4:¬((f i j:Nat):Int)≥(2^(k.bits-1):Int):=by
    rw[Dy];omega
   simp[h4]
 unfold bitsOf;rcases hf with ⟨rfl,rfl⟩ | ⟨rfl,rfl⟩ | ⟨rfl,rfl⟩<;>simp only[BitVec.toNat_and,BitVec.toNat_or,BitVec.toNat_xor,e1,e2]<;>exact hw
theorem V.C9{k:IntKind}(m:Nat)(hx:OV c e x (.int k ((i:Nat):Int)))(hy:OV c e y (.int k ((j:Nat):Int)))(h:c=true→i<2^m∧j<2^m:=by intro _;constructor<;>(repeat' (first | assumption | omega | decide | exact Nat.lt_of_lt_of_le (aB.at_ (by assumption) aK _) aK | exact Nat.le_of_lt (Nat.lt_of_lt_of_le (aB.at_ (by assumption) aK _) aK) | exact Nat.lt_of_lt_of_le (aB.at_ (bJ aK _ _) aK _) aK | apply xor_lt_two_pow | apply or_lt_two_pow | refine Nat.lt_of_le_of_lt and_le_left ?_ | exact Nat.lt_of_lt_of_le (mod_lt _ aK) aK | refine Nat.lt_of_le_of_lt (div_le_self _ _) ?_)))(hm:m≤k.bits:=by decide)(wQ:k.signed=true→m<k.bits:=by decide):eX Mo P K n c e H ⟨dst,.binOp .and t x y t',ty,pos,af,gd⟩ (.int k ((i &&& j:Nat):Int)) :=
 V.aI (V.and hx hy) fun hc=>by rw[VP (h hc).1 (h hc).2 hm wQ (.inl ⟨rfl,rfl⟩)]
theorem V.ZG{k:IntKind}(m:Nat)(hx:OV c e x (.int k ((i:Nat):Int)))(hy:OV c e y (.int k ((j:Nat):Int)))(h:c=true→i<2^m∧j<2^m:=by intro _;constructor<;>(repeat' (first | assumption | omega | decide | exact Nat.lt_of_lt_of_le (aB.at_ (by assumption) aK _) aK | exact Nat.le_of_lt (Nat.lt_of_lt_of_le (aB.at_ (by assumption) aK _) aK) | exact Nat.lt_of_lt_of_le (aB.at_ (bJ aK _ _) aK _) aK | apply xor_lt_two_pow | apply or_lt_two_pow | refine Nat.lt_of_le_of_lt and_le_left ?_ | exact Nat.lt_of_lt_of_le (mod_lt _ aK) aK | refine Nat.lt_of_le_of_lt (div_le_self _ _) ?_)))(hm:m≤k.bits:=by decide)(wQ:k.signed=true→m<k.bits:=by decide):eX Mo P K n c e H ⟨dst,.binOp .or t x y t',ty,pos,af,gd⟩ (.int k ((i ||| j:Nat):Int)) :=
 V.aI (V.or hx hy) fun hc=>by rw[VP (h hc).1 (h hc).2 hm wQ (.inr (.inl ⟨rfl,rfl⟩))]
theorem V.rU{k:IntKind}(m:Nat)(hx:OV c e x (.int k ((i:Nat):Int)))(hy:OV c e y (.int k ((j:Nat):Int)))(h:c=true→i<2^m∧j<2^m:=by intro _;constructor<;>(repeat' (first | assumption | omega | decide | exact Nat.lt_of_lt_of_le (aB.at_ (by assumption) aK _) aK | exact Nat.le_of_lt (Nat.lt_of_lt_of_le (aB.at_ (by assumption) aK _) aK) | exact Nat.lt_of_lt_of_le (aB.at_ (bJ aK _ _) aK _) aK | apply xor_lt_two_pow | apply or_lt_two_pow | refine Nat.lt_of_le_of_lt and_le_left ?_ | exact Nat.lt_of_lt_of_le (mod_lt _ aK) aK | refine Nat.lt_of_le_of_lt (div_le_self _ _) ?_)))(hm:m≤k.bits:=by decide)(wQ:k.signed=true→m<k.bits:=by decide):eX Mo P K n c e H ⟨dst,.binOp .xor t x y t',ty,pos,af,gd⟩ (.int k ((i ^^^ j:Nat):Int)) :=
 V.aI (V.xor hx hy) fun hc=>by rw[VP (h hc).1 (h hc).2 hm wQ (.inr (.inr ⟨rfl,rfl⟩))]
theorem K9{i:Nat}(h:i≤9223372036854775807):IntKind.i64.wrap (i:Int)=i:=wrap_i64 ay
theorem kV{k:IntKind}{M i:Nat}(hk:k.signed=false)(hM:mo k=M)(h:i<M):k.wrap (i:Int)=i:=by rw[yV hk,hM,mod_eq_of_lt h]
theorem V.rG{s u:TypeId}{k k':IntKind}{ds:TypeDesc}(hs:∀w,(underlying s).run P w= .ok ds w)(ht:∀w,(underlying u).run P w= .ok (.int k') w)(hx:OV c e x (.int k ((i:Nat):Int)))(h:c=true→k'.wrap (i:Int)=i:=by intro _;first | exact K9 (by (repeat' (first | assumption | omega | decide | exact Nat.lt_of_lt_of_le (aB.at_ (by assumption) aK _) aK | exact Nat.le_of_lt (Nat.lt_of_lt_of_le (aB.at_ (by assumption) aK _) aK) | exact Nat.lt_of_lt_of_le (aB.at_ (bJ aK _ _) aK _) aK | apply xor_lt_two_pow | apply or_lt_two_pow | refine Nat.lt_of_le_of_lt and_le_left ?_ | exact Nat.lt_of_lt_of_le (mod_lt _ aK) aK | refine Nat.lt_of_le_of_lt (div_le_self _ _) ?_))) | exact kV rfl rfl (by (repeat' (first | assumption | omega | decide | exact Nat.lt_of_lt_of_le (aB.at_ (by assumption) aK _) aK | exact Nat.le_of_lt (Nat.lt_of_lt_of_le (aB.at_ (by assumption) aK _) aK) | exact Nat.lt_of_lt_of_le (aB.at_ (bJ aK _ _) aK _) aK | apply xor_lt_two_pow | apply or_lt_two_pow | refine Nat.lt_of_le_of_lt and_le_left ?_ | exact Nat.lt_of_lt_of_le (mod_lt _ aK) aK | refine Nat.lt_of_le_of_lt (div_le_self _ _) ?_)))) :
 eX Mo P K n c e H ⟨dst,.convert s u x,ty,pos,af,gd⟩ (.int k' ((i:Nat):Int)):=V.Ip hs ht hx h
theorem V.I7{s u:TypeId}{k k':IntKind}{M:Nat}{ds:TypeDesc}(hs:∀w,(underlying s).run P w= .ok ds w)(ht:∀w,(underlying u).run P w= .ok (.int k') w)(hx:OV c e x (.int k ((i:Nat):Int)))(hk:k'.signed=false:=by rfl)(hM:mo k'=M:=by rfl) :
 eX Mo P K n c e H ⟨dst,.convert s u x,ty,pos,af,gd⟩ (.int k' ((i%M:Nat):Int)):=V.aI (V.FX hs ht hx) fun _=>by rw[yV hk,hM]
theorem V.I5{k:IntKind}(hx:OV c e x (.int k ((i:Nat):Int)))(hy:OV c e y (.int k ((j:Nat):Int))):eX Mo P K n c e H ⟨dst,.binOp .eql t x y t',ty,pos,af,gd⟩ (.bool (decide (i=j))):=V.aI (V.eql hx hy) fun _=>by congr 1;apply decide_eq_decide.2;omega
theorem V.XY{k:IntKind}(hx:OV c e x (.int k ((i:Nat):Int)))(hy:OV c e y (.int k ((j:Nat):Int))):eX Mo P K n c e H ⟨dst,.binOp .neq t x y t',ty,pos,af,gd⟩ (.bool (!decide (i=j))):=V.aI (V.neq hx hy) fun _=>by congr 2;apply decide_eq_decide.2;omega
theorem V.zP{k:IntKind}(hx:OV c e x (.int k ((i:Nat):Int)))(hy:OV c e y (.int k ((j:Nat):Int))):eX Mo P K n c e H ⟨dst,.binOp .lss t x y t',ty,pos,af,gd⟩ (.bool (decide (i<j))):=V.aI (V.lss hx hy) fun _=>by congr 1;apply decide_eq_decide.2;omega
theorem V.abg{k:IntKind}(hx:OV c e x (.int k ((i:Nat):Int)))(hy:OV c e y (.int k ((j:Nat):Int))):eX Mo P K n c e H ⟨dst,.binOp .gtr t x y t',ty,pos,af,gd⟩ (.bool (decide (j<i))):=V.aI (V.gtr hx hy) fun _=>by congr 1;apply decide_eq_decide.2;omega
theorem V.anJ{k:IntKind}(hx:OV c e x (.int k ((i:Nat):Int)))(hy:OV c e y (.int k ((j:Nat):Int))):eX Mo P K n c e H ⟨dst,.binOp .geq t x y t',ty,pos,af,gd⟩ (.bool (decide (j≤i))):=V.aI (V.geq hx hy) fun _=>by congr 1;apply decide_eq_decide.2;omega
theorem aa3{m i:Nat}(h:i<2^m):(2^m-1) ^^^ i=2^m-1-i:=by
 apply eq_of_testBit_eq;intro q;rw[testBit_xor,testBit_two_pow_sub_one,show 2^m-1-i=2^m-(i+1) by omega,testBit_two_pow_sub_succ h];cases hq:decide (q<m) with
 | true=>simp
 | false =>
  have h2:i.testBit q=false:=testBit_lt_two_pow (Nat.lt_of_lt_of_le h (Nat.pow_le_pow_right aK (by simpa using hq)));simp[h2]
theorem V.ajR{k:IntKind}{M:Nat}(hx:OV c e x (.int k ((i:Nat):Int)))(hk:k.signed=false:=by rfl)(hM:mo k=M:=by rfl)(h:c=true→i<M:=by intro _; (repeat' (first | assumption | omega | decide | exact Nat.lt_of_lt_of_le (aB.at_ (by assumption) aK _) aK | exact Nat.le_of_lt (Nat.lt_of_lt_of_le (aB.at_ (by assumption) aK _) aK) | exact Nat.lt_of_lt_of_le (aB.at_ (bJ aK _ _) aK _) aK | apply xor_lt_two_pow | apply or_lt_two_pow | refine Nat.lt_of_le_of_lt and_le_left ?_ | exact Nat.lt_of_lt_of_le (mod_lt _ aK) aK | refine Nat.lt_of_le_of_lt (div_le_self _ _) ?_))):eX Mo P K n c e H ⟨dst,.unOp .xor t x,ty,pos,af,gd⟩ (.int k ((M-1-i:Nat):Int)):=fun hc a w ha _=>by
 show ((do pure (Next.value (←Op.unary .xor (a.eval x)))):Sem Next).run P w=_;rw[hx.ev hc ha];have hi:=h hc;subst hM;have hm:k.max=((2^k.bits-1:Nat):Int):=by
  unfold IntKind.max;simp only[hk,Bool.false_eq_true,if_false];rw[Dy];have :=Nat.two_pow_pos k.bits;omega
 have h1:=VP (op:= .xor) (f:=(· ^^^ ·)) (k:=k) (m:=k.bits) (i:=2^k.bits-1) (j:=i) (by have :=Nat.two_pow_pos k.bits;omega) hi (Nat.le_refl _) (fun h=>by rw[hk] at h;cases h) (.inr (.inr ⟨rfl,rfl⟩));have h2:(Op.intBits .xor k k.max ((i:Nat):Int)).run P w= .ok (.int k ((mo k-1-i:Nat):Int)) w:=by
  have :(Op.intBits .xor k k.max ((i:Nat):Int)).run P w= .ok (.int k (bitsOf .xor k k.max i)) w:=by simp[Op.intBits,bitsOf]
  rw[this,hm,h1];show Result.ok (Value.int k (((2^k.bits-1) ^^^ i:Nat):Int)) w=_;rw[aa3 hi];rfl
 simp only[Op.unary,hk,Bool.false_eq_true,if_false,Sem.run_bind,h2,Result.andThen_ok,Sem.run_pure]
theorem V.fT{T E m b:Nat}{k:IntKind}(hT:uL P T m E 1)(hx:OV c e x (ptr b 0))(hy:OV c e y (.int k ((j:Nat):Int)))(hb:c=true→j<m:=by intro hc;first | omega | (simp at hc;omega)):eX Mo P K n c e H ⟨dst,.indexAddr T x y,ty,pos,af,gd⟩ (ptr b j) :=
 V.aI (V.aa2 hT hx hy (fun hc=>by have :=hb hc;omega)) fun _=>by simp
theorem V.Lv{T E m cap b:Nat}{k:IntKind}(hT:gI P T E 1)(hx:OV c e x (.slice (some ⟨b,0,none⟩) m cap))(hy:OV c e y (.int k ((j:Nat):Int)))(hb:c=true→j<m:=by intro hc;first | omega | (simp at hc;omega)):eX Mo P K n c e H ⟨dst,.indexAddr T x y,ty,pos,af,gd⟩ (ptr b j) :=
 V.aI (V.Gs hT hx hy (fun hc=>by have :=hb hc;omega)) fun _=>by simp
theorem V.kI{T E m cap:Nat}{A:Option Addr}{k:IntKind}{v:Value}(hT:gI P T E 1)(hx:OV c e x (.slice A m cap))(hy:OV c e y (.int k ((j:Nat):Int)))(hb:c=true→j<m:=by intro hc;first | omega | (simp at hc;omega))(hr:c=true→Rd K H (A.map (·.add j)) v):eX Mo P K n c e H ⟨dst,.indexAddr T x y,ty,pos,af,gd⟩ (sp A j):=by grind [V.aI,V.eD]
theorem V.abE{T E m:Nat}{k k':IntKind}{l:List Nat}(hT:uL P T m E 1)(hE:Nf P E)(hx:OV c e x (.agg (av k' l).toArray))(hy:OV c e y (.int k ((j:Nat):Int)))(hb:c=true→j<m:=by intro hc;first | omega | (simp at hc;omega))(hl:l.length=m:=by first | (simp only[length_set,length_replicate,length_append,Go.Proofs.YtcedojacbhnbiaaGreat.aH,Go.Proofs.YtcedojacbhnbiaaGreat.au, *];done) | rfl | assumption | (simp[length_set,length_replicate,Go.Proofs.YtcedojacbhnbiaaGreat.aH,length_append,Go.Proofs.YtcedojacbhnbiaaGreat.au, *];done) | (simp[length_set,length_replicate,Go.Proofs.YtcedojacbhnbiaaGreat.aH,length_append,Go.Proofs.YtcedojacbhnbiaaGreat.au];omega)):eX Mo P K n c e H ⟨dst,.index T x y,ty,pos,af,gd⟩ (.int k' ((l.getD j 0:Nat):Int)) :=
 fun hc=>V.index (v:= .int k' ((l.getD j 0:Nat):Int)) hT hx hy (fun hc=>by have :=hb hc;omega) (fun hc=>lC hE (by
  have h1:=jG k' l (i:=j) (by have :=hb hc;omega)
  simpa using h1)) hc
theorem Rd.nat{b T o:Nat}{k:IntKind}{l:List Nat}(hj:o<l.length):Rd K (ah b T (av k l)::H) (some ⟨b,o,none⟩) (.int k ((l.getD o 0:Nat):Int)):=Rd.here (jG k l hj)
theorem Rd.ahh{b T o:Nat}{k:IntKind}{l:List Nat}{r:List Value}(hj:o<l.length):Rd K (ah b T (av k l++r)::H) (some ⟨b,o,none⟩) (.int k ((l.getD o 0:Nat):Int)):=by grind [Rd.here,getElem?_append_left,au,jG]
theorem Seq.rF{A:Option Addr}{m:Nat}{k:IntKind}{xs:List Nat}(h:Seq K H A m 1 (av k xs))(hj:j<m):Rd K H (A.map (·.add j)) (.int k (xs.getD j 0:Nat)):=by
 have h1:=h.jv hj
 rwa [Nat.mul_one] at h1
theorem dw.nat{b T o z:Nat}{k:IntKind}{l:List Nat}(ho:o<l.length):dw K (ah b T (av k l)::H) b o [.int k ((z:Nat):Int)] (ah b T (av k (l.set o z))::H):=by
 have h:=dw.at_ (K:=K) (H:=H) (b:=b) (T:=T) (cs:=av k l) (v:= .int k ((z:Nat):Int)) (o:=o) (by rw[au];exact ho)
 rwa [kr] at h
theorem dw.ahh{b T o z:Nat}{k:IntKind}{l:List Nat}{r:List Value}(ho:o<l.length):dw K (ah b T (av k l++r)::H) b o [.int k ((z:Nat):Int)] (ah b T (av k (l.set o z)++r)::H):=by
 have h:=dw.at_ (K:=K) (H:=H) (b:=b) (T:=T) (cs:=av k l++r) (v:= .int k ((z:Nat):Int)) (o:=o) (by rw[length_append,au];omega)
 rwa [set_append,if_pos (by rw[au];exact ho),kr] at h
theorem dw.whole{b T:Nat}{cs vs:List Value}(h:vs.length=cs.length):dw K (ah b T cs::H) b 0 vs (ah b T vs::H):=by
 have h1:=dw.front (K:=K) (H:=H) (b:=b) (T:=T) (cs:=cs) (vs:=vs) ay
 rwa [h,drop_length,append_nil] at h1
theorem V.ji{T s b:Nat}{k:IntKind}{l:List Nat}(hT:Ue P T s)(hx:OV c e x (ptr b 0))(hr:c=true→gD K H b 0 (av k l):=by intro _;repeat (first | exact gD.all | apply gD.up))(hs:l.length=s:=by first | (simp only[length_set,length_replicate,length_append,Go.Proofs.YtcedojacbhnbiaaGreat.aH,Go.Proofs.YtcedojacbhnbiaaGreat.au, *];done) | rfl | assumption | (simp[length_set,length_replicate,Go.Proofs.YtcedojacbhnbiaaGreat.aH,length_append,Go.Proofs.YtcedojacbhnbiaaGreat.au, *];done) | (simp[length_set,length_replicate,Go.Proofs.YtcedojacbhnbiaaGreat.aH,length_append,Go.Proofs.YtcedojacbhnbiaaGreat.au];omega)):eX Mo P K n c e H ⟨dst,.load T x,ty,pos,af,gd⟩ (.agg (av k l).toArray):=by grind [V.gG,au]
def dO(L:List Nat)(o:Nat)(l:List Nat):Prop:=∃r,L.drop o=l++r
theorem dO.hd{l r:List Nat}:dO (l++r) 0 l:=⟨r,rfl⟩
theorem dO.self{l:List Nat}:dO l 0 l:=⟨[],by simp⟩
theorem dO.tl{B q m o:Nat}{r l:List Nat}(h:dO r o l):dO (bH B q m++r) (o+q) l:=by
 obtain⟨s,hs⟩:=h;exact⟨s,by rw[Nat.add_comm,←drop_drop,drop_left' (aH _ _ _),hs]⟩
theorem dO.p0{x:Nat}{r:List Nat}:dO (bH 256 32 x++r) 0 (bH 256 32 x):=dO.hd
theorem dO.p1{x y:Nat}:dO (bH 256 32 x++bH 256 32 y) 32 (bH 256 32 y):=dO.tl (o:=0) dO.self
theorem dO.p2{x y:Nat}{r:List Nat}:dO (bH 256 32 x++(bH 256 32 y++r)) 32 (bH 256 32 y):=dO.tl (o:=0) dO.hd
theorem dO.p3{x y z:Nat}{r:List Nat}:dO (bH 256 32 x++(bH 256 32 y++(bH 256 32 z++r))) 64 (bH 256 32 z):=dO.tl (o:=32) (dO.tl (o:=0) dO.hd)
theorem dO.p4{x y z t:Nat}:dO (bH 256 32 x++(bH 256 32 y++(bH 256 32 z++bH 256 32 t))) 96 (bH 256 32 t):=dO.tl (o:=64) (dO.tl (o:=32) (dO.tl (o:=0) dO.self))
theorem gD.stop{b T o:Nat}{cs l:List Value}(h:gD K (ah b T cs::H) b o l):gD K (ah b T cs::H) b o l:=h
theorem gD.part{b T o:Nat}{k:IntKind}{L l:List Nat}(h:dO L o l):gD K (ah b T (av k L)::H) b o (av k l):=by
 obtain⟨r,h⟩:=h;exact gD.here (by rw[kT,h,dA];exact prefix_append _ _)
theorem V.abf{T s b o:Nat}{k:IntKind}{l:List Nat}(hT:Ue P T s)(hx:OV c e x (ptr b o))(hr:c=true→gD K H b o (av k l):=by intro _;repeat (first | (refine gD.stop ?_;exact gD.part dO.p0) | apply gD.up))(hs:l.length=s:=by exact aH _ _ _):eX Mo P K n c e H ⟨dst,.load T x,ty,pos,af,gd⟩ (.agg (av k l).toArray):=by grind [V.gG,au]
theorem V.abo{T s b o:Nat}{k:IntKind}{l:List Nat}(hT:Ue P T s)(hx:OV c e x (ptr b o))(hr:c=true→gD K H b o (av k l):=by intro _;repeat (first | (refine gD.stop ?_;exact gD.part dO.p1) | apply gD.up))(hs:l.length=s:=by exact aH _ _ _):eX Mo P K n c e H ⟨dst,.load T x,ty,pos,af,gd⟩ (.agg (av k l).toArray):=by grind [V.gG,au]
theorem V.ahI{T s b o:Nat}{k:IntKind}{l:List Nat}(hT:Ue P T s)(hx:OV c e x (ptr b o))(hr:c=true→gD K H b o (av k l):=by intro _;repeat (first | (refine gD.stop ?_;exact gD.part dO.p2) | apply gD.up))(hs:l.length=s:=by exact aH _ _ _):eX Mo P K n c e H ⟨dst,.load T x,ty,pos,af,gd⟩ (.agg (av k l).toArray):=by grind [V.gG,au]
theorem V.ach{T s b o:Nat}{k:IntKind}{l:List Nat}(hT:Ue P T s)(hx:OV c e x (ptr b o))(hr:c=true→gD K H b o (av k l):=by intro _;repeat (first | (refine gD.stop ?_;exact gD.part dO.p3) | apply gD.up))(hs:l.length=s:=by exact aH _ _ _):eX Mo P K n c e H ⟨dst,.load T x,ty,pos,af,gd⟩ (.agg (av k l).toArray):=by grind [V.gG,au]
theorem V.aa1{T s b o:Nat}{k:IntKind}{l:List Nat}(hT:Ue P T s)(hx:OV c e x (ptr b o))(hr:c=true→gD K H b o (av k l):=by intro _;repeat (first | (refine gD.stop ?_;exact gD.part dO.p4) | apply gD.up))(hs:l.length=s:=by exact aH _ _ _):eX Mo P K n c e H ⟨dst,.load T x,ty,pos,af,gd⟩ (.agg (av k l).toArray):=by grind [V.gG,au]
theorem gW(k:IntKind)(l:List Nat):(av k l).all (·.oneCell')=true:=all_eq_true.2 (kE k l)
theorem V.dY{T:Nat}{p:Option Addr}{v:Value}(hT:Nf P T)(hx:OV c e x (.pointer p))(hr:c=true→Rd K H p v:=by intro _;repeat (first | exact Rd.here rfl | exact Rd.nat (by first | omega | (simp[length_set,length_replicate,Go.Proofs.YtcedojacbhnbiaaGreat.aH, *];done) | (simp[length_set,length_replicate,Go.Proofs.YtcedojacbhnbiaaGreat.aH];omega)) | exact Rd.ahh (by first | omega | (simp[length_set,length_replicate,Go.Proofs.YtcedojacbhnbiaaGreat.aH, *];done) | (simp[length_set,length_replicate,Go.Proofs.YtcedojacbhnbiaaGreat.aH];omega)) | exact Seq.rF (by assumption) ay | apply Rd.up)):eX Mo P K n c e H ⟨dst,.load T x,ty,pos,af,gd⟩ v:=V.load hT hx hr
theorem V.akT{T m b o q cap E:Nat}(hT:∀w,(underlying T).run P w= .ok (.array m E) w)(hx:OV c e x (.slice (some ⟨b,o,none⟩) q cap))(h:c=true→m≤q):eX Mo P K n c e H ⟨dst,.sliceToArrayPointer T x,ty,pos,af,gd⟩ (ptr b o):=fun hc a w ha _=>by
 show ((do pure (Next.value (←Instr.arrayAt T (a.eval x)))):Sem Next).run P w=_;rw[hx.ev hc ha];simp[Instr.arrayAt,hT w,Nat.not_lt.2 (h hc)]
theorem V.l7{T:Nat}{k:IntKind}{l:List Nat}{xs:List (Nat×Operand)}{vs:List (Nat×Value)}(dP:Gh c e (xs.map (·.2)) (vs.map (·.2)))(hi:xs.map (·.1)=vs.map (·.1))(hB:∀w,(Instr.build T vs.toArray).run P w= .ok (.agg (av k l).toArray) w) :
 eX Mo P K n c e H ⟨dst,.build T xs.toArray,ty,pos,af,gd⟩ (.agg (av k l).toArray):=V.build dP hi hB
end
section
variable{Mo:Mode}{P:Program}{K:World}{n:Nat}{e:Env}{H:List aA}{ty:TypeId}{pos:String}{af:Array Edge}{Q:fG}{ops:Array Oper}{rest:List Oper}{x y:Operand}
theorem WL.anm{d T:Nat}{cs:List Value}(hx:OV true e x (.agg cs.toArray))(hd:blt d n=true)
 (h:∀b,WL Mo P K n ops rest Q ((d,ptr b 0)::e) (ah b T cs::H)):WL Mo P K n ops (⟨some d,.box T x,ty,pos,af,none⟩::rest) Q e H:=WL.box hx rfl hd h
theorem WL.jP{d T:Nat}{z:Value}(k:IntKind)(m:Nat)(hz:∀w,(zeroValue T).run P w= .ok z w)(hc:z.cells.toList=av k (replicate m 0))(hd:blt d n=true)
 (h:∀b,WL Mo P K n ops rest Q ((d,ptr b 0)::e) (ah b T (av k (replicate m 0))::H)):WL Mo P K n ops (⟨some d,.alloc T,ty,pos,af,none⟩::rest) Q e H:=WL.alloc hz hc hd h
theorem WL.iH{T s b:Nat}{k:IntKind}{l:List Nat}{H':List aA}(hT:∀w,(sizeOf T).run P w= .ok s w)(hx:OV true e x (ptr b 0))(hy:OV true e y (.agg (av k l).toArray))(h:WL Mo P K n ops rest Q e H')(hs:l.length=s:=by first | (simp only[length_set,length_replicate,length_append,Go.Proofs.YtcedojacbhnbiaaGreat.aH,Go.Proofs.YtcedojacbhnbiaaGreat.au, *];done) | rfl | assumption | (simp[length_set,length_replicate,Go.Proofs.YtcedojacbhnbiaaGreat.aH,length_append,Go.Proofs.YtcedojacbhnbiaaGreat.au, *];done) | (simp[length_set,length_replicate,Go.Proofs.YtcedojacbhnbiaaGreat.aH,length_append,Go.Proofs.YtcedojacbhnbiaaGreat.au];omega))
 (hu:dw K H b 0 (av k l) H':=by repeat (first | exact dw.whole (by first | (simp only[length_set,length_replicate,length_append,Go.Proofs.YtcedojacbhnbiaaGreat.aH,Go.Proofs.YtcedojacbhnbiaaGreat.au, *];done) | rfl | (simp[length_set,length_replicate,Go.Proofs.YtcedojacbhnbiaaGreat.aH,Go.Proofs.YtcedojacbhnbiaaGreat.au, *];done) | (simp[length_set,length_replicate,Go.Proofs.YtcedojacbhnbiaaGreat.aH,Go.Proofs.YtcedojacbhnbiaaGreat.au];omega)) | apply dw.up)):WL Mo P K n ops (⟨none,.store T x y,ty,pos,af,none⟩::rest) Q e H :=
 WL.store (cs:=av k l) hT hx hy rfl (by rw[au];exact hs) (gW k l) hu h
theorem WL.fU{T b o z:Nat}{k:IntKind}{H':List aA}(hT:∀w,(sizeOf T).run P w= .ok 1 w)(hx:OV true e x (ptr b o))(hy:OV true e y (.int k ((z:Nat):Int)))
 (h:WL Mo P K n ops rest Q e H') (hu:dw K H b o [.int k ((z:Nat):Int)] H':=by repeat (first | exact dw.nat (by first | omega | (simp[length_set,length_replicate,Go.Proofs.YtcedojacbhnbiaaGreat.aH, *];done) | (simp[length_set,length_replicate,Go.Proofs.YtcedojacbhnbiaaGreat.aH];omega)) | exact dw.ahh (by first | omega | (simp[length_set,length_replicate,Go.Proofs.YtcedojacbhnbiaaGreat.aH, *];done) | (simp[length_set,length_replicate,Go.Proofs.YtcedojacbhnbiaaGreat.aH];omega)) | exact dw.here rfl rfl | apply dw.up)):WL Mo P K n ops (⟨none,.store T x y,ty,pos,af,none⟩::rest) Q e H :=
 WL.store hT hx hy rfl rfl rfl hu h
theorem WL.VH{d:Nat}{T E bytes m:Nat}{k k' k'':IntKind}{l q:Int}(hT:P.underlying T=some (.slice E))(hE:dX P E 1 bytes (.int k 0))(hx:OV true e x (.int k' l))(hy:OV true e y (.int k'' q))
 (h:∀b,WL Mo P K n ops rest Q ((d,.slice (some ⟨b,0,none⟩) m m)::e) (ah b E (av k (replicate m 0))::H))
 (hl:l=(m:Int):=by first | rfl | omega) (hq:q=(m:Int):=by first | rfl | omega) (hb:(bytes:Int)*(m:Int)≤281474976710656:=by omega) (SL:blt 0 bytes=true:=by rfl) (hd:blt d n=true:=by rfl) :
 WL Mo P K n ops (⟨some d,.makeSlice T x y,ty,pos,af,none⟩::rest) Q e H :=
 WL.sK hT hE hx hy hl hq hb SL rfl hd (fun b=>by
  have h1:=h b;rw[d9] at h1;exact h1)
theorem WL.GV{d:Nat}{T E bytes m q cap':Nat}{k:IntKind}{z v:Value}{l news:List Nat}{B:Option Addr}(hT:P.underlying T=some (.slice E))(hE:dX P E 1 bytes z)(hx:OV true e x v)(hy:OV true e y (.slice B q cap'))
 (h:∀A cap,(A=none→m+q=0∧cap=0)→m+q≤cap→WL Mo P K n ops rest Q ((d,.slice A (m+q) cap)::e) (bq (.slice A (m+q) cap) E 1 (m+q) (av k (l++news))::H))
 (hn:Seq K H B q 1 (av k news):=by repeat (first | exact Seq.all rfl | assumption | apply Seq.up)) (hb:(m+q)*bytes≤140737488355328:=by omega) (J6:blt 0 bytes=true:=by rfl) (hd:blt d n=true:=by rfl) :
 WL Mo P K n ops (⟨some d,.call ⟨.builtin .append,#[x,y],#[T,T]⟩,ty,pos,af,none⟩::rest) Q e (bq v E 1 m (av k l)::H) :=
 WL.append hT hE hx hy hn (kE k news) hb J6 hd (fun A cap h1 h2=>by
  have h3:=h A cap h1 h2;rw[dA] at h3;exact h3)
theorem Seq.qc{b T m:Nat}{k:IntKind}{l:List Nat}{K:World}{H:List aA}(hl:l.length=m):Seq K (ah b T (av k l)::H) (some ⟨b,0,none⟩) m 1 (av k l):=by simp_all [Seq.all,au,Nat.mul_one]
theorem Seq.akP{b T m:Nat}{k:IntKind}{l l':List Nat}{K:World}{H:List aA}(hl:l.length=m)(hp:l <+: l'):Seq K (ah b T (av k l')::H) (some ⟨b,0,none⟩) m 1 (av k l):=Seq.here (by rw[au,Nat.mul_one];exact hl) (by rw[drop_zero];exact hp.map _)
theorem R1.cO{b T s:Nat}{k:IntKind}{l:List Nat}{t:Tmp}(hx:look e t=some (ptr b 0))(hT:Ue P T s)(hr:gD K H b 0 (av k l):=by repeat (first | exact gD.all | apply gD.up))(hs:l.length=s:=by first | (simp only[length_set,length_replicate,length_append,Go.Proofs.YtcedojacbhnbiaaGreat.aH,Go.Proofs.YtcedojacbhnbiaaGreat.au, *];done) | rfl | assumption | (simp[length_set,length_replicate,Go.Proofs.YtcedojacbhnbiaaGreat.aH,length_append,Go.Proofs.YtcedojacbhnbiaaGreat.au, *];done) | (simp[length_set,length_replicate,Go.Proofs.YtcedojacbhnbiaaGreat.aH,length_append,Go.Proofs.YtcedojacbhnbiaaGreat.au];omega)):R1 Mo P K n (.cell t T) e H (.agg (av k l).toArray):=by grind [R1.nG,au]
end
theorem bI.three{Mo:Mode}{P:Program}{K:World}{n:Nat}{e:Env}{H:List aA}{fn:Func}{r r' r'':ResultVar}{v v' v'':Value}(hr:fn.results= #[r,r',r''])(h:R1 Mo P K n r e H v)(h':R1 Mo P K n r' e H v')(h'':R1 Mo P K n r'' e H v''):bI Mo P K n fn e H (.tuple #[v,v',v'']):=fun a w ha hw=>by
 rw[Br,hr];simp[h a w ha hw,h' a w ha hw,h'' a w ha hw]
theorem Yk.av{P:Program}{E m:Nat}{k:IntKind}{l l':List Nat}{K:Nat}(hE:Nf P E)(hi:P.underlying E=some (.int k))(hl:l.length=m)(GA:l'.length=m):∀q i,i+q=m→Yk P (K+1) E 1 (av k l).toArray (av k l').toArray (range' i q 1) (decide (l.drop i=l'.drop i))
 | 0,i,h=>by
  rw[drop_of_length_le ay,drop_of_length_le ay];exact Yk.nil
 | q+1,i,h=>by
  have h1:=Yk.av (k:=k) (K:=K) hE hi hl GA q (i+1) ay;rw[range'_succ];have e1:decide (l.drop i=l'.drop i)=(decide ((l.getD i 0:Int)=(l'.getD i 0:Nat))&&decide (l.drop (i+1)=l'.drop (i+1))):=by
   have a1:l.drop i=l.getD i 0::l.drop (i+1):=by rw[drop_eq_getElem_cons ay];simp[getD,show i<l.length by omega]
   have a2:l'.drop i=l'.getD i 0::l'.drop (i+1):=by rw[drop_eq_getElem_cons ay];simp[getD,show i<l'.length by omega]
   rw[a1,a2];simp only[List.cons.injEq,Bool.decide_and];congr 1;apply decide_eq_decide.2;omega
  rw[e1];exact Yk.cons (lC hE (by have :=jG k l (i:=i) ay;simpa using this)) (lC hE (by have :=jG k l' (i:=i) ay;simpa using this)) (iA.int hi) h1
theorem iA.av{P:Program}{t E m K:Nat}{k:IntKind}{l l':List Nat}(hu:P.underlying t=some (.array m E))(hs:∀w,(sizeOf E).run P w= .ok 1 w)(hE:Nf P E)(hi:P.underlying E=some (.int k))(hl:l.length=m)(GA:l'.length=m):iA P (K+2) t (.agg (Go.Proofs.YtcedojacbhnbiaaGreat.av k l).toArray) (.agg (Go.Proofs.YtcedojacbhnbiaaGreat.av k l').toArray) (decide (l=l')) :=
 iA.array hu hs (Yk.av (K:=K) hE hi hl GA m 0 ay)
section
variable{Mo:Mode}{P:Program}{K:World}{n:Nat}{c:Bool}{e:Env}{H:List aA}{dst:Option Tmp}{ty:TypeId}{pos:String}{af:Array Edge}{gd:Option (Nat×Bool)}
def vE(P:Program)(f:FuncId)(args:List Value)(v:Value):Prop:=∀w,(callFunc f args.toArray).run P w= .ok (.value v) w
theorem V.ext{f:FuncId}{xs:List Operand}{vs:List Value}{ats:Array TypeId}{v:Value}(hf:c=true→vE P f vs v)(dP:Gh c e xs vs):eX Mo P K n c e H ⟨dst,.call ⟨.value (.func f),xs.toArray,ats⟩,ty,pos,af,gd⟩ v:=fun hc a w ha _=>by
 rw[execOp_call_go,map_toArray,dP.ev ha hc]
 simpa using hf hc w
end
theorem WC.GN{P:Program}{K:World}{n:Nat}{e:Env}{A:aA}{H:List aA}{Q:fG}{id:Nat}{l:List Oper}{ds:List Deferred}(hm:P.follows .mixedOrders=true)(h:WA ⟨none,ds⟩ P K n H l.toArray Q l.length (Array.replicate l.length false) e (A::H)):WC ⟨none,ds⟩ P K n (.region id l.toArray true) Q e (A::H):=WC.fE H hm h
def ZK:aA where
 jF _:=False
 holds _:=True
 loc _ _ _ _:=trivial
theorem Sat.emp{K w:World}{H:List aA}(h:Sat K w H):Sat K w (ZK::H):=⟨h.1,trivial,fun _ h=>h.elim,fun _ h=>h.elim,h.2⟩
end Go.Sl
namespace Go.Proofs.YtcedojacbhnbiaaGreat
open Go.Sl Go.RowKit Tryz List Nat
theorem jL(x y c:Nat)(hc:c≤1):vE prog 294 [.int .u64 (x:Int),.int .u64 (y:Int),.int .u64 (c:Int)]
 (.tuple #[.int .u64 (((x+y+c)%18446744073709551616:Nat):Int),.int .u64 (((x+y+c)/18446744073709551616:Nat):Int)]):=fun w=>by
 rw[run_callFunc_extern func294 (by kernel_rfl) (by kernel_rfl) (by kernel_rfl) (e:=add64Entry) (by kernel_rfl),run_add64 x y c ay ay ay ay];simp only[Result.andThen];congr 5<;>omega
def BS:Array Value→Sem Value:=fun args=>do
 let (x,y,b) ←Extern.MathBitsCarry.three "Sub64" args
 pure (Extern.MathBitsCarry.pair ((x+Extern.MathBitsCarry.m64-y-b)%Extern.MathBitsCarry.m64) (if x<y+b then 1 else 0))
theorem Zm{P:Program}(x y b:Nat)(hb:b≤1)(w:World) :
 (BS #[.int .u64 x,.int .u64 y,.int .u64 b]).run P w =
  .ok (.tuple #[.int .u64 (((x+18446744073709551616-y-b)%18446744073709551616:Nat):Int),.int .u64 ((if x<y+b then 1 else 0:Nat):Int)]) w:=by
 have :b=0∨b=1:=ay;rcases this with rfl | rfl<;>rfl
theorem Ay(x y b:Nat)(hb:b≤1):vE prog 291 [.int .u64 (x:Int),.int .u64 (y:Int),.int .u64 (b:Int)]
 (.tuple #[.int .u64 (((x+18446744073709551616-y-b)%18446744073709551616:Nat):Int),.int .u64 ((if x<y+b then 1 else 0:Nat):Int)]):=fun w=>by
 rw[run_callFunc_extern func291 (by kernel_rfl) (by kernel_rfl) (by kernel_rfl) (e:=BS) (by kernel_rfl)];have h:=Zm (P:=prog) x y b hb w;show ((BS #[.int .u64 x,.int .u64 y,.int .u64 b]).run prog w).andThen _=_;rw[h];rfl
end Go.Proofs.YtcedojacbhnbiaaGreat
