import Derived.Recover
import Derived.Test.YtcedojacbhnbiaaGreatP6
import Derived.Scope
set_option autoImplicit true
set_option linter.all false
set_option maxHeartbeats 2000000
set_option maxRecDepth 20000
set_option relaxedAutoImplicit true
namespace Go.Sl
open Go Go.RowKit Go.BigFrame List Nat
abbrev F8(bad:Value):List PanicEntry:=[{ v:=bad,recovered:=false }]
def pF(P:Program)(f:FuncId)(args:Array Value)(K:World)(H:List aH)(bad:Value)(post:Value→List aH→Prop)(LD:List aH→Prop):Prop :=
 ∀ w,Sat K w H→Calls P f args w λe a=>∃H',Sat K a H'∧((∃v,e= .returned v∧post v H')∨(e= .panicked (F8 bad)∧LD H'))
theorem pF.mono(h:pF P f args K H bad post LD)(hp:∀v H',post v H'→post' v H')(hq:∀H',LD H'→anW H'):pF P f args K H bad post' anW :=
 λw k=>(h w k).mono λe l ⟨H',d,j⟩=>⟨H',d,j.imp (λ⟨v,a,b⟩=>⟨v,a,hp _ _ b⟩) (λ⟨a,b⟩=>⟨a,hq _ b⟩)⟩
def aaA(P:Program)(K:World)(n:Nat)(fn:Func)(bad:Value)(post:Value→List aH→Prop)(LD:List aH→Prop):iX
 | Mo,.normal,e,H | Mo,.ret,e,H=>Mo.ds=[]∧∃v H',bJ Mo P K n fn e H v∧(∀w,Sat K w H→Sat K w H')∧post v H'
 | Mo,.panic c,e,H=>Mo.ds=[]∧c=F8 bad∧∃H',(∀w,Sat K w H→Sat K w H')∧LD H'
 | _,_,_,_=>False
theorem AX{fn:Func}(hn:fn.ntmps=n)(hl:ble vs.length n=true):eF ⟨none,[]⟩ n (kV 0 vs) { tmps:=vs.toArray++Array.replicate (fn.ntmps-vs.toArray.size) undef,defers:=[] }:=by
 have Dp:vs.length≤n:=by simpa using hl
 refine⟨Z,by simp[hn];omega,λt v b=> ?_⟩;obtain⟨_,a⟩:=nO vs 0 t v b;simp only[Nat.sub_zero] at a;have d:t<vs.length:=by
  rcases Nat.lt_or_ge t vs.length with h | h
  ·exact h
  ·simp[getElem?_eq_none h] at a
 rw[Array.getD_eq_getD_getElem?,Array.getElem?_append_left (by simpa using d)];simp[a]
section
variable{P:Program}{K:World}{n:Nat}{Q:iX}{e:Env}{H:List aH}{bad:Value}{post:Value→List aH→Prop}{LD:List aH→Prop}
theorem aB.Er(hf:P.funcs[f]? =some fn)(hb:fn.body=some c)(hn:fn.ntmps=n)(hl:ble vs.length n=true)
 (h:WC ⟨none,[]⟩ P K n c (aaA P K n fn bad post LD) (kV 0 vs) H):pF P f vs.toArray K H bad post LD:=by
 intro w r;refine calls_of_wp hf hb (wp_mono (h _ w (AX hn hl) r) ?_);rintro x a w ⟨ds,y,B,b,j,k⟩;cases x<;>first
  | (obtain⟨d,v,ou,u,l,m⟩:=k;exact⟨b.defers.trans d,v,u a w b j,ou,l w j,.inl ⟨v,Z,m⟩⟩)
  | (obtain⟨d,rfl,ou,l,m⟩:=k;exact⟨b.defers.trans d,ou,l w j,.inr ⟨Z,m⟩⟩)
  | exact k.elim
theorem aaA.panic(hs:∀w,Sat K w H→Sat K w H')(hp:LD H'):aaA P K n fn bad post LD ⟨r,[]⟩ (.panic (F8 bad)) e H:=⟨Z,Z,H',hs,hp⟩
theorem WL.aaX{d:Nat}{vs:List Value}(hr:∀a w,eF ⟨none,ds⟩ n e a→(execOp a.eval ⟨some d,op,ty,pos,af,none⟩).run P w= .ok (.enter f vs.toArray) w)
 (hF:pF P f vs.toArray K H bad post LD) (hd:blt d n=true) (hp:∀H',LD H'→Q ⟨none,ds⟩ (.panic (F8 bad)) e H') (h:∀v H',post v H'→WL ⟨none,ds⟩ P K n ops rest Q ((d,v)::e) H'):WL ⟨none,ds⟩ P K n ops (⟨some d,op,ty,pos,af,none⟩::rest) Q e H:=λa w b l=>by
 refine kH Z λS r=> ?_;show Oper.wp P _ a w S _;unfold Oper.wp;rw[hr a w b,Oper.upon_enter];refine (hF w l).mono ?_;rintro x m ⟨H',k,⟨v,rfl,j⟩ | ⟨rfl,j⟩⟩
 ·exact r _ _ (h v H' j _ m (b.put d hd v) k)
 ·exact⟨ds,e,H',b,k,hp H' j⟩
theorem WL.jG(hf:bP P f)(gL:Ga true e xs vs)
 (hF:pF P f vs.toArray K H bad post LD) (hd:blt d n=true) (hp:∀H',LD H'→Q ⟨none,ds⟩ (.panic (F8 bad)) e H') (h:∀v H',post v H'→WL ⟨none,ds⟩ P K n ops rest Q ((d,v)::e) H'):WL ⟨none,ds⟩ P K n ops (⟨some d,.call ⟨.value (.func f),xs.toArray,ats⟩,ty,pos,af,none⟩::rest) Q e H :=
 WL.aaX (λa w b=>xS hf (gL.ev b Z)) hF hd hp h
theorem WL.agn(hf:bP P f)(hy:OV true e y (.func (.func f) first.toArray captured.toArray))(gL:Ga true e xs vs)
 (hF:pF P f (first++vs++captured).toArray K H bad post LD) (hd:blt d n=true) (hp:∀H',LD H'→Q ⟨none,ds⟩ (.panic (F8 bad)) e H') (h:∀v H',post v H'→WL ⟨none,ds⟩ P K n ops rest Q ((d,v)::e) H'):WL ⟨none,ds⟩ P K n ops (⟨some d,.call ⟨.value y,xs.toArray,ats⟩,ty,pos,af,none⟩::rest) Q e H :=
 WL.aaX (λa w b=>tO hf (hy.ev Z b) (gL.ev b Z)) hF hd hp h
theorem WL.agf{dst:Option Nat}(hx:OV true e x (.iface t v))
 (h:Q ⟨none,ds⟩ (.panic (F8 (.iface t v))) e H):WL ⟨none,ds⟩ P K n ops (⟨dst,.panic x,ty,pos,af,none⟩::rest) Q e H:=λa w b d=>by
 refine kH Z λS k=> ?_;show Oper.wp P _ a w S _;unfold Oper.wp;have j:(execOp a.eval ⟨dst,.panic x,ty,pos,af,none⟩).run P w= .halt (.panic (.iface t v)) w:=by
  show ((do pure (Next.value (←Instr.panic (a.eval x)))):Sem Next).run P w=_;rw[hx.ev Z b];rfl
 rw[j,Oper.upon_panic];exact⟨ds,e,H,b,d,h⟩
def akl(P:Program)(f:FuncId)(args:Array Value)(K:World)(H:List aH)(bad:Value)(post:List aH→Prop):Prop :=
 ∀ w,Sat K w H→CallsD P f args (.panicking (F8 bad)) w λe a b=>a= .panicking [{ v:=bad,recovered:=true }]∧∃v H',e= .returned v∧Sat K b H'∧post H'
def akb(P:Program)(K:World)(n:Nat)(fn:Func)(bad:Value)(post:Value→List aH→Prop):iX
 | Mo,.normal,e,H | Mo,.ret,e,H=>∃f cap,Mo.ds=[⟨.fn (.func f) cap,#[]⟩]∧bP P f∧∃pd,Fp P f cap K H pd∧∀H',pd H'→∃v ou,bJ Mo P K n fn e H' v∧(∀w,Sat K w H'→Sat K w ou)∧post v ou
 | Mo,.panic c,e,H=>c=F8 bad∧∃f cap,Mo.ds=[⟨.fn (.func f) cap,#[]⟩]∧bP P f∧∃pd,akl P f cap K H bad pd∧∀H',pd H'→∃v ou,bJ Mo P K n fn e H' v∧(∀w,Sat K w H'→Sat K w ou)∧post v ou
 | _,_,_,_=>False
theorem aB.agw(hf:P.funcs[f]? =some fn)(hb:fn.body=some c)(hn:fn.ntmps=n)(hl:ble vs.length n=true)
 (h:WC ⟨none,[]⟩ P K n c (akb P K n fn bad post) (kV 0 vs) H):aB P f vs.toArray K H post:=by
 intro w T;refine calls_of_wp_defers hf hb (wp_mono (h _ w (AX hn hl) T) ?_);rintro x a w ⟨ds,S,r,l,N,I⟩;have u:(∃f cap,ds=[⟨.fn (.func f) cap,#[]⟩]∧bP P f∧∃m,Fp P f cap K r m∧∀b,m b→∃v ou,bJ ⟨none,ds⟩ P K n fn S b v∧(∀w,Sat K w b→Sat K w ou)∧post v ou) →
  Leaves P fn a.tmps (λe d=>∃v r,e= .returned v∧Sat K d r∧post v r) a.defers .returning w:=by
  rintro⟨g,cap,F,M,m,y,C⟩;rw[l.defers.trans F];refine leaves_cons (f:=g) (args:=cap) (by simp) (by show (callFunc g (#[]++cap)).run P w=_;rw[M];simp)<|(y w N).mono ?_;rintro R O d ⟨rfl,v,b,rfl,j,D⟩;obtain⟨k,J,G,L,B⟩:=C b D;exact⟨k,G a d l j,k,J,Z,L d j,B⟩
 cases x<;>first
  | exact u I
  | skip
 case panic c =>
  obtain⟨rfl,g,cap,F,M,m,y,C⟩:=I;show Leaves P fn a.tmps _ a.defers (.panicking (F8 bad)) w;rw[l.defers.trans F];refine leaves_cons (f:=g) (args:=cap) (by simp) (by show (callFunc g (#[]++cap)).run P w=_;rw[M];simp)<|(y w N).mono ?_;rintro R O d ⟨rfl,v,b,rfl,j,D⟩;obtain⟨k,J,G,L,B⟩:=C b D;exact⟨k,G a d l j,k,J,Z,L d j,B⟩
 all_goals exact I.elim
theorem aaZ{o:Oper}(hn:∀a w,next a w→next' a w)(hq:∀e a w,Q1 e a w→Q2 e a w)(hl:¬LetsOut Q1)(r:Result Next)(h:o.upon P a next Q1 r):o.upon P a next' Q2 r:=by
 unfold Oper.upon at h ⊢;split at h<;>first
  | exact hn _ _ h
  | exact hq _ _ _ h
  | exact h.elim
  | exact Rows.mono h (λ_ _ b=>hn _ _ b)
  | (
   refine Calls.mono h (λe d b=> ?_);cases e
   ·exact hn _ _ b
   ·exact hq _ _ _ b
   ·exact absurd b hl)
theorem Fg{ops:Array Oper}{Q1:Exit→Act→World→Prop}{Q2:Exit→Act→List Frame→World→Prop}{cs:List Frame}(hl:¬LetsOut Q1)(hq:∀e a w,Q1 e a w→Q2 e a cs w):∀(l:List Oper) (k:Nat),(∀j,l[j]? =ops[k+j]?)→∀(a:Act) (w:World),wpList P ops Q1 l a w→wpOpsS P ops Q2 (range' k l.length) a cs w
 | [],k,_,a,w,h=>hq _ _ _ h
 | o::l,k,hj,a,w,h=>by
  have h0:ops[k]? =some o:=by simpa using (hj 0).symm
  have d:=Fg (Q2:=Q2) (cs:=cs) hl hq l (k+1) (λj=>by have :=hj (j+1);simpa [Nat.add_assoc,Nat.add_comm 1 j] using this);rw[length_cons,range'_succ,wpOpsS,h0];unfold wpList at h;dsimp only;split
  ·rename_i b;rw[if_pos b] at h;rcases h with h | h
   ·unfold Oper.wp at h;split
    ·rename_i r m;rw[m] at h;exact h.elim
    ·exact aaZ d hq hl _ h
   ·exact absurd h.2 hl
  ·rename_i b;rw[if_neg b] at h;exact d _ _ h
theorem J3{fn:Func}{id d:Nat}{pd:List aH→Prop}(hf:P.funcs[f]? =some fn)(hb:fn.body=some (.seq (.region id (⟨some d,.call ⟨.builtin .recover,#[],#[]⟩,ty,pos,af,none⟩::l).toArray false) c))(hn:fn.ntmps=n)(hl:ble vs.length n=true)(hd:blt d n=true)
 (ahP:∀(c₀:Frame) cs,c₀.mode=u→recoverD (c₀::cs)=some (v0,{ c₀ with mode:=u' }::cs)∨(recoverD (c₀::cs)=none∧v0= .nilIface∧u'=u))
 (h:WL ⟨none,[]⟩ P K n (⟨some d,.call ⟨.builtin .recover,#[],#[]⟩,ty,pos,af,none⟩::l).toArray l (zO (λMo=>WC Mo P K n c (aF P K n fn λv H'=>pd H')) (aF P K n fn λv H'=>pd H')) ((d,v0)::kV 0 vs) H) :
 ∀ w,Sat K w H→CallsD P f vs.toArray u w λe u2 w'=>u2=u'∧∃v H',e= .returned v∧Sat K w' H'∧pd H':=by
 intro w R;refine callsD_of_wpS hf hb λc₀ cs I=> ?_;apply wpS_seq;apply wpS_region;have hs:(⟨some d,.call ⟨.builtin .recover,#[],#[]⟩,ty,pos,af,none⟩::l:List Oper).toArray.size=l.length+1:=by simp
 rw[hs,range_eq_range',range'_succ,wpOpsS];simp only[getElem?_toArray,getElem?_cons_zero,Region.wanted,if_true];have N:∀(a:Act),(execOp a.eval ⟨some d,.call ⟨.builtin .recover,#[],#[]⟩,ty,pos,af,none⟩).run P w= .ok .recover w:=λa=>by rw[execOp_builtin];rfl
 rw[N];have L8:¬LetsOut (lift none K n (zO (λMo=>WC Mo P K n c (aF P K n fn λv H'=>pd H')) (aF P K n fn λv H'=>pd H'))):=by
  rintro⟨a,w,ds,e,H,_,_,r⟩;exact r
 have m:∀(k:List Frame),k= { c₀ with mode:=u' }::cs→wpOpsS P (⟨some d,.call ⟨.builtin .recover,#[],#[]⟩,ty,pos,af,none⟩::l).toArray (Exit.thenS (c.wpS P (bodyPostS P fn c₀ cs (λe u2 w'=>u2=u'∧∃v H',e= .returned v∧Sat K w' H'∧pd H'))) (bodyPostS P fn c₀ cs (λe u2 w'=>u2=u'∧∃v H',e= .returned v∧Sat K w' H'∧pd H'))) (range' 1 l.length) (({ tmps:=vs.toArray++Array.replicate (fn.ntmps-vs.toArray.size) undef,defers:=[] }:Act).put (some d) v0) k w:=by
  rintro k rfl;refine Fg L8 ?_ l 1 (λj=>by simp[Nat.add_comm 1 j]) _ _ (h _ w ((AX hn hl).put d hd v0) R);rintro x a w ⟨ds,S,H',b,y,r⟩;cases x
  case normal =>
   show c.wpS P _ a _ w;refine wpS_of_wp (wp_mono (r a w b y) ?_);rintro x a w ⟨ds,O,ou,M,J,L⟩;cases x<;>first
    | (obtain⟨D,v,G,B,C,F⟩:=L;exact⟨M.defers.trans D,u',Z,v,B a w M J,Z,v,G,Z,C w J,F⟩)
    | exact L.elim
  case ret =>
   obtain⟨D,v,G,B,C,F⟩:=r;exact⟨b.defers.trans D,u',Z,v,B a w b y,Z,v,G,Z,C w y,F⟩
  all_goals exact r.elim
 rcases ahP c₀ cs I with b | ⟨b,rfl,rfl⟩
 ·rw[b];exact m _ Z
 ·rw[b];exact m _ (by subst I;rfl)
def NoP(Q:iX):iX
 | Mo,.panic c,e,H=>False
 | Mo,x,e,H=>Q Mo x e H
theorem WC.noP(h:WC Mo P K n c (NoP Q) e H):WC Mo P K n c Q e H:=WC.mono h λMo x e H a=>by
 cases x<;>first | exact a | exact a.elim
theorem pF.aoK(h:pF P f args K H bad post LD)(hp:∀H',¬LD H'):aB P f args K H post:=λw k=>(h w k).mono λe l ⟨H',d,j⟩=>by
 rcases j with ⟨v,a,b⟩ | ⟨_,b⟩
 ·exact⟨v,H',a,d,b⟩
 ·exact absurd b (hp H')
theorem V.Yu{T:Nat}(hx:OV c e x v)(hI:∀w,(Instr.makeInterface T v).run P w= .ok u w):eX Mo P K n c e H ⟨dst,.makeInterface T x,ty,pos,af,gd⟩ u:=λd a w b h=>by
 show ((do pure (Next.value (←Instr.makeInterface T (a.eval x)))):Sem Next).run P w=_;rw[hx.ev d b];simp[hI w]
theorem V.typeAssert{T S:Nat}(hx:OV c e x v)(hI:∀w,(Instr.typeAssert v S T b).run P w= .ok u w):eX Mo P K n c e H ⟨dst,.typeAssert x S T b,ty,pos,af,gd⟩ u:=λh a w d j=>by
 show ((do pure (Next.value (←Instr.typeAssert (a.eval x) S T b))):Sem Next).run P w=_;rw[hx.ev h d];simp[hI w]
end
end Go.Sl
namespace Go.Proofs.YtcedojacbhnbiaaGreat
open Go.Sl Go.RowKit Tryz List Nat
structure aY where
 (f t0:Int) (g0:Bool) (t1:Int) (g1:Bool)
 deriving DecidableEq
namespace aY
abbrev v(s:aY):Value:= .agg #[.i s.f,.i s.t0,.bool s.g0,.i s.t1,.bool s.g1]
def zero:aY:=⟨0,0,false,0,false⟩
def ok(s:aY):Bool:=(decide (s.f=0)||decide (s.f=1))&&decide (0≤s.t0)&&decide (s.t0≤7)&&decide (0≤s.t1)&&decide (s.t1≤7)
def V3(s:aY):Int:=if s.ok then 0 else 1
def Ol(s:aY)(slot:Int):Int:=if s.ok&&(decide (slot=0)||decide (slot=1)) then 0 else 1
def t(s:aY)(slot:Int):Int:=if slot=0 then s.t0 else s.t1
def g(s:aY)(slot:Int):Bool:=if slot=0 then s.g0 else s.g1
def put(s:aY)(slot first t:Int)(g:Bool):aY:=if slot=0 then ⟨first,t,g,s.t1,s.g1⟩ else ⟨first,s.t0,s.g0,t,g⟩
def may(s:aY)(slot:Int):Bool:=s.g slot||decide (0<s.t slot)
def gM(s:aY)(slot:Int):aY×Int :=
 if s.Ol slot≠0 then (zero,1) else if s.may slot then (s.put slot s.f (if s.g slot then s.t slot else s.t slot-1) (s.g slot),0) else (zero,240)
def install(s:aY)(slot:Int):aY×Int:=if s.Ol slot≠0∨slot=s.f then (zero,1) else (s.put slot slot 7 false,0)
def order(s:aY):List Int:=if s.ok then [s.f,1-s.f].filter s.may else []
def Zf(b:Bool):Int:=if b then 1 else 0
def bytes(s:aY):List Int:=if s.ok then [115,108,111,116,s.f,s.t0,Zf s.g0,s.t1,Zf s.g1] else []
theorem Uf{s:aY}(h:s.Ol slot=0):s.ok=true∧(slot=0∨slot=1):=by grind [Ol]
theorem aaV{s:aY}(h:s.V3=0):s.ok=true:=by grind [V3]
theorem lJ{s:aY}(h:s.ok=true):(s.f=0∨s.f=1)∧0≤s.t0∧s.t0≤7∧0≤s.t1∧s.t1≤7:=by simp[ok] at h;omega
end aY
abbrev sl(t:Int)(g:Bool):Value:= .agg #[.i t,.bool g]
theorem yV(t:Int)(g:Bool)(K:World)(F:List aH):aK prog 128 #[sl t g] K F (.bool (g||decide (0<t))):=by
 refine aB.en func128 ntmps128 ?_;refine aj "a~3" λa=> ?_;exact aj "wkb_@~jId+" trivial
theorem xA(s:aY)(K:World)(F:List aH):aK prog 127 #[s.v] K F (.i s.V3):=by
 refine aB.en func127 ntmps127 ?_;refine aj "a&" λb=> ?_;refine aj "takub,`~~~tSh" (aW (λaL=> ?_) λaL=> ?_)
 ·try simp only[iC] at aL
  refine aj "D:" ?_;congr 1;unfold aY.V3 aY.ok;first | rw[if_pos (by simp;omega)] | rw[if_neg (by simp;omega)]
 ·try simp only[iC] at aL
  refine aj "|aX~~~zR~@V3Ea~~Qv" λa=> ?_;refine aj "~.QkPb_@~jIh" (aW (λbA=> ?_) λbA=> ?_)
  ·try simp only[iC] at bA
   refine aj "D:" ?_;congr 1;unfold aY.V3 aY.ok;first | rw[if_pos (by simp;omega)] | rw[if_neg (by simp;omega)]
  ·try simp only[iC] at bA
   refine aj "qp~T~yV3Ea~~Qv" λa=> ?_;refine aj "~.QkPb_@~jIh" (aW (λmV=> ?_) λmV=> ?_)
   ·try simp only[iC] at mV
    refine aj "D:" ?_;congr 1;unfold aY.V3 aY.ok;first | rw[if_pos (by simp;omega)] | rw[if_neg (by simp;omega)]
   ·try simp only[iC] at mV
    refine aj "qp~w~yV~IKD:" ?_;congr 1;unfold aY.V3 aY.ok;first | rw[if_pos (by simp;omega)] | rw[if_neg (by simp;omega)]
theorem OW(K:World)(F:List aH):aK prog 89 #[] K F aY.zero.v:=by
 refine aB.en func89 ntmps89 ?_;refine aj "av" λa=> ?_;refine aj "Q^C6" ?_;exact aF.ret (H':=F) (bJ.one Z (R1.jQ (vs:=[_,_,_,_,_]) Z ⟨isAgg58,sizeOf58⟩ Z tN)) eO ⟨Z,Z⟩
theorem Fb(s:aY)(slot:Int)(K:World)(F:List aH):aK prog 129 #[s.v,.i slot] K F (.i (s.Ol slot)):=by
 refine aB.en func129 ntmps129 ?_;refine aj "a&" λa=> ?_;refine aj "tay" ?_;refine WL.t1 call127 Z (xA s _ _) Z<|aj "iu%~~f~~1~~N~~~i~~2Ih" (aW (λaL=> ?_) λaL=> ?_)
 ·try simp only[iC] at aL
  refine aj "D:" ?_;congr 1;unfold aY.Ol;cases jh:s.ok<;>simp[aY.V3,jh] at aL ⊢ <;>omega
 ·try simp only[iC] at aL
  refine aj "qD:" ?_;congr 1;unfold aY.Ol;cases jh:s.ok<;>simp[aY.V3,jh] at aL ⊢ <;>omega
theorem Br(s:aY)(slot first t:Int)(g:Bool)(h:slot=0∨slot=1)(K:World)(F:List aH) :
 aK prog 130 #[s.v,.i slot,.i first,sl t g] K F (.tuple #[(s.put slot first t g).v,.i 0]):=by
 rcases h with rfl | rfl
 all_goals
  refine aB.en func130 ntmps130 ?_;refine aj "a&" λb=> ?_;refine aj "~3" λa=> ?_;refine aj "v" λd=> ?_;refine aj "t" ?_;refine WC.dM F (by kernel_rfl)<|aj "n0n14345" ?_;refine WA.two (i:=2) (j:=4) eO (by kernel_rfl) Z Z ?_ ?_
  ·refine aj "~Pcm4~Zc~~B6m7~~d*ayCd" ?_;exact aF.ret (H':=F) (rA Z Z ⟨isAgg58,sizeOf58⟩ Z) eO ⟨Z,Z⟩
  ·refine aj "~Zcm2~Pc~~B6m7~~d*ayCd" ?_;exact aF.ret (H':=F) (rA Z Z ⟨isAgg58,sizeOf58⟩ Z) eO ⟨Z,Z⟩
theorem Yr(s:aY)(slot:Int)(K:World)(F:List aH):aK prog 68 #[s.v,.i slot] K F (.tuple #[(s.gM slot).1.v,.i (s.gM slot).2]):=by
 refine aB.en func68 ntmps68 ?_;refine aj "a&" λj=> ?_;refine aj "v" λd=> ?_;refine aj "tayb" ?_;refine WL.t2 call129 Z Z (Fb s slot _ _) Z<|aj "iuc~h" (aW (λaL=> ?_) λaL=> ?_)
 ·have a:s.gM slot=(aY.zero,1):=by unfold aY.gM;rw[if_pos aL]
  have b:s.Ol slot=1:=by unfold aY.Ol at aL ⊢;split<;>simp_all
  refine aj "a^bCd" ?_;refine aF.ret (H':=F) (rA Z Z ⟨isAgg58,sizeOf58⟩ Z) eO ⟨?_,Z⟩;rw[a,b];rfl
 ·obtain⟨jh,mR⟩:=aY.Uf aL;have hs:=aY.lJ jh;have a:s.gM slot=if s.may slot then (s.put slot s.f (if s.g slot then s.t slot else s.t slot-1) (s.g slot),0) else (aY.zero,240):=by unfold aY.gM;rw[if_neg (by simp[aL])]
  rcases mR with rfl | rfl
  all_goals
   refine aj "TX~G~Pv" λh=> ?_;refine aj "~.Gsa~P" ?_;refine WL.t1 call128 Z (yV _ _ _ _) Z<|aj "9oJ" (aW (λaQ=> ?_) λaQ=> ?_)
   ·simp only[Gd] at aQ;refine aj "a^Cd" ?_;refine aF.ret (H':=F) (rA Z Z ⟨isAgg58,sizeOf58⟩ Z) eO ⟨?_,Z⟩;rw[a];simp[*,aY.may,aY.g,aY.t,aY.put,aY.zero]
   ·simp only[Gd] at aQ;refine aj "ak9oJ" (aW (λbA=> ?_) λbA=> ?_)
    ·simp only[Gd] at bA;simp[bA] at aQ;refine aj "pk)X~~~EQybk~P" ?_;refine WL.t4 call130 Z Z Z Z (Br s _ _ _ _ (by simp) _ _) Z<|aj "~$Cd" ?_;refine aF.ret (H':=F) (rA Z Z ⟨isAgg58,sizeOf58⟩ Z) eO ⟨?_,Z⟩;rw[a];simp[*,aY.may,aY.g,aY.t,aY.put,aY.zero]
    ·simp only[Gd] at bA;refine aj "7ybk~P" ?_;refine WL.t4 call130 Z Z Z Z (Br s _ _ _ _ (by simp) _ _) Z<|aj "~$Cd" ?_;refine aF.ret (H':=F) (rA Z Z ⟨isAgg58,sizeOf58⟩ Z) eO ⟨?_,Z⟩;rw[a];simp[*,aY.may,aY.g,aY.t,aY.put,aY.zero]
theorem ae7(s:aY)(slot:Int)(K:World)(F:List aH):aK prog 176 #[s.v,.i slot] K F (.tuple #[(s.install slot).1.v,.i (s.install slot).2]):=by
 refine aB.en func176 ntmps176 ?_;refine aj "a&" λa=> ?_;refine aj "v" λb=> ?_;refine aj "tayb" ?_;refine WL.t2 call129 Z Z (Fb s slot _ _) Z<|aj "iu%_@" ?_;refine WL.bI (oj:=_) Z Z Z GC.f (V.eql (OV.g Z id) (OV.g Z id)) Z<|aj "Ih" (aW (λaL=> ?_) λaL=> ?_)
 ·simp only[iC] at aL;refine aj "a^Cd" ?_;refine aF.ret (H':=F) (rA Z Z ⟨isAgg58,sizeOf58⟩ Z) eO ⟨?_,Z⟩;unfold aY.install;rw[if_pos aL];rfl
 ·simp only[iC] at aL;obtain⟨jh,mR⟩:=aY.Uf aL.1;refine aj "7yx" ?_;refine WL.val (V.build (vs:=[(0,_)]) ⟨ak Z,trivial⟩ Z (ah5 _)) Z (WL.t4 call130 Z Z Z Z (Br s _ _ _ _ mR _ _) Z ?_);refine aj "~$Cd" ?_;refine aF.ret (H':=F) (rA Z Z ⟨isAgg58,sizeOf58⟩ Z) eO ⟨?_,Z⟩;unfold aY.install;rw[if_neg (by rintro (h | h);exact h aL.1;exact aL.2 h)]
theorem EW(s:aY)(K:World)(F:List aH):aB prog 67 #[s.v] K F (λv H'=>∃A cap,v= .tuple #[.slice A s.order.length cap,.i s.V3]∧H'=aV (.slice A s.order.length cap) 3 1 s.order.length (ints .i64 s.order)::F):=by
 obtain⟨f,k,l,t1,j⟩:=s;dsimp only[aY.v];refine aB.en func67 ntmps67 ?_;refine aj "a&" λr=> ?_;refine aj "ltay" ?_;refine WL.t1 call127 Z (xA ⟨_,_,_,_,_⟩ _ _) Z<|aj "iuh" (aW (λaL=> ?_) λaL=> ?_)
 ·simp only[iC] at aL;refine aj "eF" ?_;refine aF.ret (H':=aV (.slice none 0 0) 3 1 0 []::F) (bJ.eU Z Z Z) (λw h=>Sat.gI (by revert h;exact λh=>by repeat (first | exact h | replace h:=h.tail)) _ _) ⟨none,0, ?_⟩;have a:(aY.mk f k l t1 j).order=[]:=by unfold aY.order;rw[if_neg (by intro h;apply aL;unfold aY.V3;rw[if_pos h])]
  rw[a];exact⟨Z,Z⟩
 ·simp only[iC] at aL;have jh:=aY.aaV aL;have m:=(aY.lJ jh).1;have a:(aY.mk f k l t1 j).order=[f,1-f].filter (aY.mk f k l t1 j).may:=by unfold aY.order;rw[if_pos jh]
  dsimp only at m;rcases m with rfl | rfl
  all_goals
   refine aj "|" ?_;refine WC.sub (Sub.refl _) (λw h=>h.gI 3 1)<|aj "ptakk)" ?_;refine WL.val (V.build (vs:=[(0,_),(1,_)]) ⟨ak Z,ak Z,trivial⟩ Z (Uo _ _)) Z (aj "R~@V3Ea~~~jiX~G~P" ?_);refine WL.t1 call128 Z (yV _ _ _ _) Z<|aj "h" (aW (λbA=> ?_) λbA=> ?_)
   ·refine aj "gb" ?_;refine WL.buildSlice (E:=3) (cs:=[_]) (vs:=[(0,_)]) ⟨ak Z,trivial⟩ Z (dJ _) Z (λVa=>aj "?" ?_);refine WL.append underlying124 Me (ak Z) (ak Z) (by repeat (first | exact Seq.all Z | apply Seq.up)) (by simp[Value.oneCell']) (by first | omega | (simp;omega)) Z Z (λb d agy ag3=>aj "op~T~yV3Ea~~~jiX~G~P" ?_);refine WL.t1 call128 Z (yV _ _ _ _) Z<|aj "h" (aW (λmV=> ?_) λmV=> ?_)
    ·refine aj "gb" ?_;refine WL.buildSlice (E:=3) (cs:=[_]) (vs:=[(0,_)]) ⟨ak Z,trivial⟩ Z (dJ _) Z (λVa=>aj "?" ?_);refine WL.append underlying124 Me (ak Z) (ak Z) (by repeat (first | exact Seq.all Z | apply Seq.up)) (by simp[Value.oneCell']) (by first | omega | (simp;omega)) Z Z (λb d agy ag3=>aj "op~w~yV~IKeF" ?_);simp only[filter,aY.may,aY.g,aY.t,Int.reduceSub,Int.reduceEq,↓reduceIte, *] at a;exact aF.ret (H':=aV _ 3 1 _ _::F) (bJ.eU Z Z Z) (λw h=>by repeat (first | exact h | replace h:=h.oJ)) ⟨_,_,by rw[a,aL];rfl,by rw[a];rfl⟩
    ·refine aj "qp~w~yV~IKeF" ?_;simp only[filter,aY.may,aY.g,aY.t,Int.reduceSub,Int.reduceEq,↓reduceIte, *] at a;exact aF.ret (H':=aV _ 3 1 _ _::F) (bJ.eU Z Z Z) (λw h=>by repeat (first | exact h | replace h:=h.oJ)) ⟨_,_,by rw[a,aL];rfl,by rw[a];rfl⟩
   ·refine aj "qp~T~yV3Ea~~~jiX~G~P" ?_;refine WL.t1 call128 Z (yV _ _ _ _) Z<|aj "h" (aW (λmV=> ?_) λmV=> ?_)
    ·refine aj "gb" ?_;refine WL.buildSlice (E:=3) (cs:=[_]) (vs:=[(0,_)]) ⟨ak Z,trivial⟩ Z (dJ _) Z (λVa=>aj "?" ?_);refine WL.append underlying124 Me (ak Z) (ak Z) (by repeat (first | exact Seq.all Z | apply Seq.up)) (by simp[Value.oneCell']) (by first | omega | (simp;omega)) Z Z (λb d agy ag3=>aj "op~w~yV~IKeF" ?_);simp only[filter,aY.may,aY.g,aY.t,Int.reduceSub,Int.reduceEq,↓reduceIte, *] at a;exact aF.ret (H':=aV _ 3 1 _ _::F) (bJ.eU Z Z Z) (λw h=>by repeat (first | exact h | replace h:=h.oJ)) ⟨_,_,by rw[a,aL];rfl,by rw[a];rfl⟩
    ·refine aj "qp~w~yV~IKeF" ?_;simp only[filter,aY.may,aY.g,aY.t,Int.reduceSub,Int.reduceEq,↓reduceIte, *] at a;exact aF.ret (H':=aV _ 3 1 _ _::F) (bJ.eU Z Z Z) (λw h=>by repeat (first | exact h | replace h:=h.oJ)) ⟨_,_,by rw[a,aL];rfl,by rw[a];rfl⟩
theorem wrap_u8(h:0≤i∧i<256):IntKind.u8.wrap i=i:=by grind [IntKind.wrap,IntKind.signed,IntKind.bits]
theorem EP(s:aY)(K:World)(F:List aH):aB prog 131 #[s.v] K F (λv H'=>(s.ok=true∧∃b,v= .tuple #[.slice (some ⟨b,0,none⟩) 9 9,.i 0]∧H'=ah b 5 (ints .u8 s.bytes)::F)∨(s.ok=false∧v= .tuple #[.slice none 0 0,.i 1]∧H'=F)):=by
 obtain⟨f,j,k,t1,d⟩:=s;dsimp only[aY.v];refine aB.en func131 ntmps131 ?_;refine aj "a&" λr=> ?_;refine aj "ltay" ?_;refine WL.t1 call127 Z (xA ⟨_,_,_,_,_⟩ _ _) Z<|aj "iuh" (aW (λaL=> ?_) λaL=> ?_)
 ·simp only[iC] at aL;refine aj "eF" ?_;have m:(aY.mk f j k t1 d).ok=false:=by
   cases h:(aY.mk f j k t1 d).ok with
   | false=>rfl
   | true=>exact (aL (by unfold aY.V3;rw[if_pos h])).elim
  exact aF.ret (H':=F) (bJ.eU Z Z Z) eO (.inr ⟨m,by unfold aY.V3;rw[if_neg (by simp[m])],Z⟩)
 ·simp only[iC] at aL;have jh:=aY.aaV aL;have hs:=aY.lJ jh;dsimp only at hs;refine aj "7" ?_;refine WL.af0 9 (cs:=[_,_,_,_,_,_,_,_,_]) underlying34 yL (ak Z) (ak Z) Z Z ay Z Z Z Z (λa=>aj "i" ?_);refine WL.adU (news:=[_,_,_,_]) dO (ak Z) Z Z (by repeat (first | exact bT.here (cs':=[_,_,_,_,_,_,_,_,_]) Z Z | apply bT.up)) Z<|aj "cek~m~u~~qGaX~~~zR~@V3Y~~Qv" λl=> ?_;refine aj "l~.ceb" ?_;refine WL.val (V.aG (v':= .i (0)) (V.mul (ak Z) (ak Z)) (λ_=>Z)) Z<|WL.val (V.aG (v':= .i (5)) (V.add (ak Z) (ak Z)) (λ_=>Z)) Z<|aj "k~m~u~~qQkh" (aW (λbA=> ?_) λbA=> ?_)
  ·try simp only[iC] at bA
   refine aj "gb" ?_;refine WL.val (V.aG (v':= .i (0)) (V.mul (ak Z) (ak Z)) (λ_=>Z)) Z<|WL.val (V.aG (v':= .i (6)) (V.add (ak Z) (ak Z)) (λ_=>Z)) Z<|aj "~u~~qcp~T~yV3Y~~Qv" λl=> ?_;refine aj "l~.ceb~~6" ?_;refine WL.val (V.aG (v':= .i (7)) (V.add (ak Z) (ak Z)) (λ_=>Z)) Z<|aj "k~m~u~~qQkh" (aW (λmV=> ?_) λmV=> ?_)
   ·try simp only[iC] at mV
    refine aj "gb~~6" ?_;refine WL.val (V.aG (v':= .i (8)) (V.add (ak Z) (ak Z)) (λ_=>Z)) Z<|aj "~u~~qcp~w~yV~IKeF" ?_;refine aF.ret (H':=ah a _ (ints .u8 (aY.mk f j k t1 d).bytes)::F) (bJ.eU Z Z Z) (λw h=> ?_) (.inl ⟨jh,a,Z,Z⟩);replace h:=h.tail.tail.oJ;refine Sat.aT h ?_;rw[wrap_u8 ay,wrap_u8 ay,wrap_u8 ay];unfold aY.bytes;rw[if_pos jh];simp[oU,ints,aY.Zf, *]
   ·try simp only[iC] at mV
    refine aj "qp~w~yV~IKeF" ?_;refine aF.ret (H':=ah a _ (ints .u8 (aY.mk f j k t1 d).bytes)::F) (bJ.eU Z Z Z) (λw h=> ?_) (.inl ⟨jh,a,Z,Z⟩);replace h:=h.tail.tail.oJ;refine Sat.aT h ?_;rw[wrap_u8 ay,wrap_u8 ay,wrap_u8 ay];unfold aY.bytes;rw[if_pos jh];simp[oU,ints,aY.Zf, *]
  ·try simp only[iC] at bA
   refine aj "qp~T~yV3Y~~Qv" λl=> ?_;refine aj "l~.ceb~~6" ?_;refine WL.val (V.aG (v':= .i (7)) (V.add (ak Z) (ak Z)) (λ_=>Z)) Z<|aj "k~m~u~~qQkh" (aW (λmV=> ?_) λmV=> ?_)
   ·try simp only[iC] at mV
    refine aj "gb~~6" ?_;refine WL.val (V.aG (v':= .i (8)) (V.add (ak Z) (ak Z)) (λ_=>Z)) Z<|aj "~u~~qcp~w~yV~IKeF" ?_;refine aF.ret (H':=ah a _ (ints .u8 (aY.mk f j k t1 d).bytes)::F) (bJ.eU Z Z Z) (λw h=> ?_) (.inl ⟨jh,a,Z,Z⟩);replace h:=h.tail.tail.oJ;refine Sat.aT h ?_;rw[wrap_u8 ay,wrap_u8 ay,wrap_u8 ay];unfold aY.bytes;rw[if_pos jh];simp[oU,ints,aY.Zf, *]
   ·try simp only[iC] at mV
    refine aj "qp~w~yV~IKeF" ?_;refine aF.ret (H':=ah a _ (ints .u8 (aY.mk f j k t1 d).bytes)::F) (bJ.eU Z Z Z) (λw h=> ?_) (.inl ⟨jh,a,Z,Z⟩);replace h:=h.tail.tail.oJ;refine Sat.aT h ?_;rw[wrap_u8 ay,wrap_u8 ay,wrap_u8 ay];unfold aY.bytes;rw[if_pos jh];simp[oU,ints,aY.Zf, *]
namespace aY
def of(xs:List Int):aY:=⟨xs.getD 4 0,xs.getD 5 0,decide (xs.getD 6 0=1),xs.getD 7 0,decide (xs.getD 8 0=1)⟩
theorem fC{s:aY}(h:s.ok=true):s.bytes.length=9:=by unfold bytes;rw[if_pos h];rfl
theorem gJ{s:aY}(h:s.ok=true):bF s.bytes:=by
 have hs:=lJ h;unfold bytes;rw[if_pos h];have a:∀b,0≤Zf b∧Zf b<256:=λb=>by cases b<;>simp[Zf]
 have k:=a s.g0;have j:=a s.g1;intro x d;simp only[mem_cons,not_mem_nil,or_false] at d;omega
def dW(xs:List Int):Bool:=decide (xs.length=9)&&(of xs).ok&&decide ((of xs).bytes=xs)
def parse(xs:List Int):aY×Int:=if dW xs then (of xs,0) else (zero,4)
end aY
theorem Ot(hx:bF xs)(K:World)(F:List aH)(hs:Seq K F A m 1 (ints .u8 xs)) :
 aK prog 88 #[.slice A m cap] K F (.tuple #[(aY.parse xs).1.v,.i (aY.parse xs).2]):=by
 have d:xs.length=m:=by simpa [ints] using hs.len
 refine aB.en func88 ntmps88 ?_;refine aj "av" λl=> ?_;refine aj "fjuh" (aW (λaL=> ?_) λaL=> ?_)
 ·simp only[iC] at aL;refine aj "a^Cd" ?_;refine aF.ret (H':=F) (rA Z Z ⟨isAgg58,sizeOf58⟩ Z) eO ⟨?_,Z⟩;unfold aY.parse;rw[if_neg (by simp[aY.dW];omega)];rfl
 ·simp only[iC] at aL;obtain rfl:m=9:=by omega
  refine aj "|~Xn0" ?_;refine WA.t 1 Z (V.dw dO (ak Z) (ak Z) Jy (λa=>by repeat (first | exact Seq.dD hs (by first | omega | (simp at a;omega)) | apply Rd.up))) ?_;refine WA.t 2 Z (V.load isAgg5 (ak Z) (λa=>by repeat (first | exact Seq.dD hs (by first | omega | (simp at a;omega)) | apply Rd.up))) ?_;refine WA.t 3 Z (V.uy runUnderlying5 runUnderlying3 (ak Z) (λ_=>wrap_i64 (bF.wide hx _))) ?_;refine aj "n4" ?_;refine WA.t 5 Z (V.dw dO (ak Z) (ak Z) Jy (λa=>by repeat (first | exact Seq.dD hs (by first | omega | (simp at a;omega)) | apply Rd.up))) ?_;refine WA.t 6 Z (V.load isAgg5 (ak Z) (λa=>by repeat (first | exact Seq.dD hs (by first | omega | (simp at a;omega)) | apply Rd.up))) ?_;refine WA.t 7 Z (V.uy runUnderlying5 runUnderlying3 (ak Z) (λ_=>wrap_i64 (bF.wide hx _))) ?_;refine aj "n8" ?_;refine WA.t 9 Z (V.dw dO (ak Z) (ak Z) Jy (λa=>by repeat (first | exact Seq.dD hs (by first | omega | (simp at a;omega)) | apply Rd.up))) ?_;refine WA.t 10 Z (V.load isAgg5 (ak Z) (λa=>by repeat (first | exact Seq.dD hs (by first | omega | (simp at a;omega)) | apply Rd.up))) ?_;refine aj "~~C;" ?_;refine WA.t 12 Z (V.build (vs:=[(0,_),(1,_)]) ⟨ak Z,ak Z,trivial⟩ Z (qj _ _)) ?_;refine aj "n=" ?_;refine WA.t 14 Z (V.dw dO (ak Z) (ak Z) Jy (λa=>by repeat (first | exact Seq.dD hs (by first | omega | (simp at a;omega)) | apply Rd.up))) ?_;refine WA.t 15 Z (V.load isAgg5 (ak Z) (λa=>by repeat (first | exact Seq.dD hs (by first | omega | (simp at a;omega)) | apply Rd.up))) ?_;refine WA.t 16 Z (V.uy runUnderlying5 runUnderlying3 (ak Z) (λ_=>wrap_i64 (bF.wide hx _))) ?_;refine aj "nA" ?_;refine WA.t 18 Z (V.dw dO (ak Z) (ak Z) Jy (λa=>by repeat (first | exact Seq.dD hs (by first | omega | (simp at a;omega)) | apply Rd.up))) ?_;refine WA.t 19 Z (V.load isAgg5 (ak Z) (λa=>by repeat (first | exact Seq.dD hs (by first | omega | (simp at a;omega)) | apply Rd.up))) ?_;refine aj "~~CD" ?_;refine WA.t 21 Z (V.build (vs:=[(0,_),(1,_)]) ⟨ak Z,ak Z,trivial⟩ Z (qj _ _)) ?_;refine WA.t 22 Z (V.build (vs:=[(0,_),(1,_)]) ⟨ak Z,ak Z,trivial⟩ Z (Xg _ _ _ _)) ?_;refine WA.t 23 Z (V.build (vs:=[(0,_),(1,_)]) ⟨ak Z,ak Z,trivial⟩ Z (Xw _ _ _ _ _)) ?_;refine aj "mHv" λj=> ?_;refine aj "cmIC*Lay" ?_;refine WL.c1 call131 Z (EP (aY.of xs) _ _) Z ?_;rintro v H' (⟨jh,k,rfl,rfl⟩ | ⟨jh,rfl,rfl⟩);all_goals
   refine aj "Hiu%" ?_;refine WL.bI (oj:=_) Z Z Z GC.f (V.iM underlying34 underlying5 underlying9 (OV.g Z id) (λa=>by first | exact Seq.agZ | exact Seq.allI (aY.fC jh))) Z<|aj "~z" ?_;refine WL.bI (oj:=_) Z Z Z GC.f (V.iM underlying34 underlying5 underlying9 (OV.g Z id) (λa=>by repeat (first | exact Seq.agZ | exact Seq.allI (by simp) | assumption | apply Seq.up))) Z<|WL.bI (oj:=_) Z Z Z GC.f (V.agA (OV.g Z id) (OV.g Z id)) Z<|aj "Ih" (aW (λaQ=> ?_) λaQ=> ?_)
   ·have b:aY.dW xs=false:=by first | (simp[aY.dW,jh];done) | (rw[sZ (aY.gJ jh) hx] at aQ;simp at aQ;simp[aY.dW,aQ])
    refine aj "a^Cd" ?_;refine aF.ret (H':=F) (rA Z Z ⟨isAgg58,sizeOf58⟩ Z) eO ⟨?_,Z⟩;unfold aY.parse;rw[if_neg (by simp[b])];rfl
   ·have h:aY.dW xs=true:=by first | (exfalso;revert aQ;simp;done) | (rw[sZ (aY.gJ jh) hx] at aQ;simp at aQ;simp[aY.dW,jh,d,aQ])
    refine aj "7yCd" ?_;refine aF.ret (H':=F) (rA Z Z ⟨isAgg58,sizeOf58⟩ Z) eO ⟨?_,Z⟩;unfold aY.parse;rw[if_pos h];rfl
def pJ(g:bQ)(h:Hd)(d:List Nat):Nat→List Nat
 | 0=>jP g h
 | p+1=>(d.drop (p*g.room.toNat)).take g.room.toNat++replicate (g.room.toNat-((d.drop (p*g.room.toNat)).take g.room.toNat).length) 0
def gu(S:aD)(b:Int)(pg:Nat→List Nat):Nat→aD×Int
 | 0=>(S,0)
 | k+1=>if (gu S b pg k).2≠0 then gu S b pg k else (gu S b pg k).1.dK b k (pg k)
def dI(S:aD)(num b aS:Int)(d:List Nat):aD×Int :=
 if (S.bB b).2≠0 then S.bB b
 else gu (S.bB b).1 b (pJ S.g ⟨aS,d.length,num⟩ d) ((S.g.bN d.length).toNat+1)
theorem QK(h:(gu S b pg k).2≠0):∀m,gu S b pg (k+m)=gu S b pg k
 | 0=>rfl
 | m+1=>by rw[←Nat.add_assoc,gu,QK h m,if_pos h]
theorem Bg(hd:aA 256 d):∀p,aA 256 (pJ g h d p)
 | 0=>yN g h
 | p+1=>by
  unfold pJ;intro x hx;rcases mem_append.1 hx with hx | hx
  ·exact aA.take (aA.drop hd) x hx
  ·rw[eq_of_mem_replicate hx];decide
theorem rG(hg:g.aU):∀p,(pJ g h d p).length=g.room.toNat
 | 0=>pQ hg h
 | p+1=>by
  unfold pJ;rw[length_append,length_replicate];have :=length_take_le (g.room.toNat) (d.drop (p*g.room.toNat));omega
theorem Sc{g:bQ}(hg:g.aU)(h:m≤k*g.room.toNat):(g.bN m).toNat≤k:=by
 have a:=bQ.kP hg;have b:g.bN m<(k:Int)+1:=by
  unfold bQ.bN;refine Int.ediv_lt_of_lt_mul ay ?_;have :((k*g.room.toNat:Nat):Int)=(k:Int)*g.room:=by rw[Int.natCast_mul];congr 1;omega
  rw[Int.add_mul,Int.one_mul];omega
 omega
theorem WW{g:bQ}(hg:g.aU)(h:k*g.room.toNat<m):k<(g.bN m).toNat:=by
 have a:=bQ.kP hg;have b:(k:Int)+1≤g.bN m:=by
  unfold bQ.bN;refine Int.le_ediv_of_mul_le ay ?_;have :((k*g.room.toNat:Nat):Int)=(k:Int)*g.room:=by rw[Int.natCast_mul];congr 1;omega
  rw[Int.add_mul,Int.one_mul];omega
 omega
theorem PG{T:bZ}{C:Cw}(hC:C.Ok)(hg:C.g=g)(hT:T.Ok g)(hd:Seq K F A m 1 (av .u8 d))(h8:aA 256 d)(Og:m≤cap)(hm:m≤1000000)
 (J7:0≤aS) (EC:Hd.may g ⟨aS,(d.length:Nat),T.next⟩=true):aB prog 64 #[ptr bs 0,.i b,.i aS,.slice A m cap] K (C.A bc::dA bd bc g::T.A bs bd g::F)
 (λv H'=>∃C':Cw,C'.Ok∧C'.g=g∧C'.aC=(dI C.aC T.next b aS d).1∧v= .i (dI C.aC T.next b aS d).2∧H'=C'.A bc::dA bd bc g::T.A bs bd g::F):=by
 have yO:g.aU:=by rw[←hg];exact hC.aU
 have Od:C.aC.g=g:=hg;have RN:=bQ.kP yO;have wF:d.length=m:=by simpa [av] using hd.len
 obtain⟨X,r⟩:∃X,X=dI C.aC T.next b aS d:=⟨_,Z⟩;rw[←r];unfold dI at r;rw[Od,wF] at r;rw[wF] at EC;obtain⟨R,hR⟩:∃R:Nat,g.room=(R:Int):=⟨g.room.toNat,by omega⟩;have j:g.room.toNat=R:=ay;have x4:1≤R∧R≤4096:=ay;refine aB.en func64 ntmps64 ?_;refine aj "afU" ?_;refine WL.val (V.load isAgg70 (ak Z) (λ_=>by repeat (first | exact bZ.FH 0 _ Z | apply Rd.up))) Z<|WL.mv Z Z (WL.c2 call104 Z Z (Ce hC hg b) Z ?_);rintro _ _ ⟨G,RP,EH,rfl,uM,rfl⟩;refine aj "iuc~h" (aW (λh0=> ?_) λh0=> ?_)
 ·rw[if_pos h0] at r;refine aj "ed" ?_;subst r;exact qR (G.A bc::dA bd bc g::T.A bs bd g::F) Z Z cO ⟨G,RP,EH,uM,Z,Z⟩
 ·rw[if_neg (λh=>h ay)] at r;refine aj "TU" ?_;refine WL.val (V.fE (vs:=[.i g.bl,.i g.pg,.i g.se,.i g.sb,.i g.fl]) ⟨isAgg23,sizeOf23⟩ (ak Z) Z (λ_=>by repeat (first | exact bZ.rdg | apply fH.up))) Z<|WL.t1 call122 Z (lW yO) Z<|aj "Ht" ?_;refine WC.dM (G.A bc::dA bd bc g::T.A bs bd g::F) (by kernel_rfl)<|aj "n0~c142" ?_;refine WA.t 3 Z (V.fE (vs:=[.i g.bl,.i g.pg,.i g.se,.i g.sb,.i g.fl]) ⟨isAgg23,sizeOf23⟩ (ak Z) Z (λ_=>by repeat (first | exact bZ.rdg | apply fH.up))) ?_;refine aj "n4n5~~~g6n7~c849" ?_;refine WA.t 10 Z (V.load isAgg3 (ak Z) (λ_=>by repeat (first | exact bZ.FH 8 _ Z | apply Rd.up))) ?_;refine WA.t 11 Z (V.build (vs:=[(0,_),(1,_),(2,_)]) ⟨ak Z,ak Z,ak Z,trivial⟩ Z (u7 _ _ _)) ?_;refine WA.o 12 Z ?_;refine WL.c2 call123 Z Z (Az yO ⟨aS,(m:Nat),T.next⟩ (by show (m:Int)≤_;omega) J7 (by show 0≤T.next;have :=hT.next;omega)) Z ?_;rintro v5 H5 h5;obtain⟨D,B,rfl,rfl⟩:∃D B,v5= .tuple #[.slice D g.room.toNat B,.i 0]∧H5=aV (.slice D g.room.toNat B) 5 1 g.room.toNat (av .u8 (jP g ⟨aS,(m:Nat),T.next⟩))::G.A bc::dA bd bc g::T.A bs bd g::F:=by
   rcases h5 with ⟨_,h⟩ | ⟨h,_⟩
   ·obtain⟨D,B,h⟩:=h;exact⟨D,B,h.1,h.2⟩
   ·rw[EC] at h;cases h
  refine aj "cn=~q>~q?~A@~AA~raos" ?_;obtain⟨a,Dt⟩:∃a,a=pJ g ⟨aS,(m:Nat),T.next⟩ d:=⟨_,Z⟩;obtain⟨N,Y⟩:∃N,N=(g.bN (m:Nat)).toNat:=⟨_,Z⟩;rw[←Dt,←Y] at r;have qY:∀p,aA 256 (a p):=λp=>by rw[Dt];exact Bg h8 p
  have l7:∀p,(a p).length=R:=λp=>by rw[Dt,rG yO p,j]
  have O:∀k,m≤k*R→N≤k:=λk h=>by rw[Y];exact Sc yO (by rw[j];exact h)
  have JO:∀k,k*R<m→k<N:=λk h=>by rw[Y];exact WW yO (by rw[j];exact h)
  rw[j];refine WC.loop (σ:=Cw×Nat×Option Addr×Nat×Option Addr×Nat) (λs=>[(0,ptr bs 0),(1,.i b),(3,.slice s.2.2.1 (m-s.2.1*R) s.2.2.2.1),(10,.i (R:Int)),(12,.slice s.2.2.2.2.1 R s.2.2.2.2.2),(13,.i 0),(14,.i (s.2.1:Int))]) (λs=>aV (.slice s.2.2.2.2.1 R s.2.2.2.2.2) 5 1 R (av .u8 (a s.2.1))::s.1.A bc::dA bd bc g::T.A bs bd g::F) (λs=>s.1.Ok∧s.1.g=g∧s.2.1≤N∧(gu (C.aC.bB b).1 b a s.2.1).2=0∧s.1.aC=(gu (C.aC.bB b).1 b a s.2.1).1∧Seq K F s.2.2.1 (m-s.2.1*R) 1 (av .u8 (d.drop (s.2.1*R)))∧m-s.2.1*R≤s.2.2.2.1) (λs=>N-s.2.1) (G,0,A,cap,D,B) ⟨RP,EH,zero_le _,Z,uM,by simpa using hd,by show m-0*R≤cap;omega⟩ (.cons Z (.cons Z (.cons (look_eq Z (by simp)) (.cons (look_eq Z (by rw[hR])) bC)))) (λw h=>by dsimp only;rw[Dt];exact h) ?_;rintro⟨C2,p,Ad,cd,Aq,cq⟩ ⟨Bz,U1,hpN,hw0,hw1,UN,hcd⟩;dsimp only at Bz U1 hpN hw0 hw1 UN hcd ⊢;have dL:gu (C.aC.bB b).1 b a (p+1)=C2.aC.dK b p (a p):=by rw[gu,if_neg (λh=>h hw0),←hw1]
  refine WC.lG (p:=R≤cq) (λw h=>by
   obtain⟨_,x0,hv,M,_⟩:=aV.shape h.head;injection hv with _ _ U
   rw[U];exact M) (λL=> ?_)
  refine aj "Lsr;c3gU" ?_;refine WL.val (V.load isAgg70 (ak Z) (λ_=>by repeat (first | exact bZ.FH 0 _ Z | apply Rd.up))) Z<|aj "xb~~l" ?_;refine WL.c4 call124 Z Z Z Z (M6 (d:=a p) Bz U1 b p (aV.seq (by rw[au,Nat.mul_one,l7])) (qY p) L ay) Z ?_;rintro _ _ ⟨S,TS,J,rfl,x,rfl⟩;rw[←dL] at x ⊢;refine aj "fu%~p~~$Ih" (aW (λy=> ?_) λy=> ?_)
  ·simp only[Bool.or_eq_true,Bool.or_eq_false_iff,oK] at y;have acM:gu (C.aC.bB b).1 b a (N+1)=gu (C.aC.bB b).1 b a (p+1):=by
    by_cases I:(gu (C.aC.bB b).1 b a (p+1)).2=0
    ·have h3:((m-p*R:Nat):Int)=0:=by rcases y with h | h;exact absurd I h;exact h
     have h4:=O p ay;rw[show p=N by omega]
    ·have :=QK I (N-p);rw[show p+1+(N-p)=N+1 by omega] at this;exact this
   rw[acM] at r;refine aj "ed" ?_;subst r;exact qR (S.A bc::dA bd bc g::T.A bs bd g::F) Z Z (λw h=>h.bg 4 [0,1,3] Z) ⟨S,TS,J,x,Z,Z⟩
  ·simp only[Bool.or_eq_true,Bool.or_eq_false_iff,oK] at y;have I:(gu (C.aC.bB b).1 b a (p+1)).2=0:=by have :=y.1;omega
   have Bw:p*R<m:=by have :=y.2;omega
   have aor:=JO p Bw;obtain⟨q,W⟩:∃q,q=min R (m-p*R):=⟨_,Z⟩;have Zd:=Seq.OH UN (show q≤m-p*R by omega) hcd;rw[kQ,drop_drop] at Zd;have XR:=Seq.take UN (show q≤m-p*R by omega);rw[dU] at XR;have pI:(p+1)*R=p*R+R:=succ_mul _ _;have x3:=Nat.le_mul_of_pos_right p (show 0<R by omega);have amM:a (p+1)=(d.drop (p*R)).take q++replicate (R-q) 0:=by
    rw[Dt];show (d.drop (p*g.room.toNat)).take g.room.toNat++replicate (g.room.toNat-((d.drop (p*g.room.toNat)).take g.room.toNat).length) 0=_;rw[j,length_take,length_drop,wF,←W];have :(d.drop (p*R)).take R=(d.drop (p*R)).take q:=by
     have h9:q=min R (d.drop (p*R)).length:=by rw[length_drop,wF];exact W
     rw[h9,←take_eq_take_min]
    rw[this]
   refine aj "Tbj" ?_;refine WL.val (V.aG (v':= .i (q:Int)) (V.min (ak Z) (ak Z)) (λ_=>by rw[W];refine congrArg (Value.int .i64) ?_;omega)) Z ?_;refine aj "0" ?_;refine WL.val (V.aG (v':= .slice Ad q cd) (V.slice (l:=0) (h:=q) (u:=cd) dO (ak Z) OO.none (OO.some (ak Z) (λ_=>Z)) OO.none (by simp) (zero_le _) ay (Nat.le_refl _)) (λ_=>by rw[Nat.sub_zero,Nat.sub_zero,zK])) Z<|WL.c1 call125 Z (lY (by repeat (first | exact XR | apply Seq.up)) ay) Z ?_;rintro _ _ ⟨A1,c1,rfl,rfl⟩;refine aj "x)" ?_;refine WL.Gx (m:=q) (q:=R-q) underlying34 underlying3 yL Z Z (ak Z) (ak Z) ay ay ay Z (λA5 c5 Zu wQ=>aj "Ob" ?_);refine WL.val (V.slice (l:=q) (h:=m-p*R) (u:=cd) dO (ak Z) (OO.some (ak Z) (λ_=>Z)) OO.none OO.none (by simp) ay ay (Nat.le_refl _)) Z<|aj "OZN" ?_;have e1:q+(R-q)=R:=ay;have e2:m-p*R-q=m-(p+1)*R:=ay;refine⟨(S,p+1,(if cd=q then Ad else Ad.map (·.add (q*1))),cd-q,A5,c5),⟨TS,J,aor,I,x, ?_, ?_⟩,(by show N-(p+1)<N-p;omega),.cons Z (.cons Z (.cons (look_eq Z (by dsimp only;rw[e2])) (.cons Z (.cons (look_eq Z (by dsimp only;rw[e1])) (.cons (look_eq Z (by rw[I])) bC))))),λw h=> ?_⟩
   ·dsimp only;rw[e2] at Zd;have U:d.drop (p*R+q)=d.drop ((p+1)*R):=by
     by_cases x2:R≤m-p*R
     ·rw[show p*R+q=(p+1)*R by omega]
     ·rw[drop_eq_nil_of_le ay,drop_eq_nil_of_le ay]
    rw[U] at Zd;exact Zd
   ·show m-(p+1)*R≤cd-q;omega
   ·dsimp only;rw[amM,dx,eD];rw[e1] at h;exact h.bg 5 [0,1,2,4] Z
theorem bT.all(h:bT K (l++H) b o vs (l'++H)):bT K (bK l::H) b o vs (bK l'::H):=by
 have a:∀(L:List aH) (k:Nat),(∃B∈L++H,B.jA k)→∃B∈bK L::H,B.jA k:=λL k ⟨B,d,j⟩=>by
  rcases mem_append.1 d with d | d
  ·exact⟨bK L,.head _,B,d,j⟩
  ·exact⟨B,.tail _ d,j⟩
 refine⟨λx Y7 k r=> ?_,a l b h.own,λw m=>h.may w (bO.all.1 m),λw m=>bO.all.2 (h.sat w (bO.all.1 m))⟩;rcases mem_cons.1 Y7 with rfl | Y7
 ·obtain⟨A,u,j⟩:=r;exact a l k (h.agY A (mem_append_left _ u) k j)
 ·exact⟨x,.tail _ Y7,r⟩
theorem bT.slA(ho:o<m):bT K (aV (.slice (some ⟨gb,0,none⟩) m cap) E 1 m cs::H) gb o [v] (aV (.slice (some ⟨gb,0,none⟩) m cap) E 1 m (cs.set o v)::H):=by
 have nS:∀w:World,RA w w:=λw=>⟨Z,Z,Z,Nat.le_refl _⟩;refine⟨λD Y7 k y=> ?_,⟨_,.head _,Z⟩,λw a=> ?_,λw a=> ?_⟩
 ·rcases mem_cons.1 Y7 with rfl | h
  ·exact⟨_,.head _,y⟩
  ·exact⟨_,.tail _ h,y⟩
 ·obtain⟨r,⟨j,B,l,u⟩,d⟩:=Sat.nU (K:=w) ⟨nS w,a⟩;exact (bT.at_ (K:=w) (T:=E) (cs:=cs++r) (v:=v) (by rw[length_append];omega)).may w d.2
 ·obtain⟨r,⟨j,B,l,u⟩,d⟩:=Sat.nU (K:=w) ⟨nS w,a⟩;have C:=(bT.at_ (K:=w) (H:=H) (b:=gb) (T:=E) (o:=o) (cs:=cs++r) (v:=v) (by rw[length_append];omega)).sat w d.2;have x:=Sat.BX (K:=w.setCells gb o [v]) (s:=1) (m:=m) (cap:=cap) ⟨nS _,C⟩ (by rw[length_set];exact j) l u;rw[set_append_left _ _ ay,Nat.mul_one,take_left' (by rw[length_set];omega)] at x;exact x.2
theorem bZ.akJ(T:bZ)(x:Int):bT K (T.A bs bd g::F) bs 8 [.i x] (bZ.A bs bd g { T with next:=x }::F):=bT.all (l:=bZ.parts bs bd g T) (l':=bZ.parts bs bd g { T with next:=x }) (bT.here Z Z)
theorem bZ.anJ(T:bZ)(x:Int):bT K (T.A bs bd g::F) bs 9 [.i x] (bZ.A bs bd g { T with at_:=x }::F):=bT.all (l:=bZ.parts bs bd g T) (l':=bZ.parts bs bd g { T with at_:=x }) (bT.here Z Z)
theorem bZ.ant{T:bZ}(hA:T.sA=some ⟨g1,0,none⟩)(hi:i<T.stands.length)(x:Int):bT K (T.A bs bd g::F) g1 i [.i x] (bZ.A bs bd g { T with stands:=T.stands.set i x }::F):=by
 refine bT.all (l:=bZ.parts bs bd g T) (l':=bZ.parts bs bd g { T with stands:=T.stands.set i x }) ?_;obtain⟨stands,k,d,h,fA,j,lF,m⟩:=T;dsimp only at hA hi ⊢;subst hA;unfold bZ.parts bZ.cells bZ.sl;dsimp only;rw[length_set];refine bT.up ?_;have a:=bT.slA (K:=K) (H:=[ah h 124 (fA.map bW.v),bK (fA.map bW.row)]++F) (gb:=g1) (cap:=d) (E:=3) (cs:=ints .i64 stands) (v:= .i x) hi;have b:(ints .i64 stands).set i (.i x)=ints .i64 (stands.set i x):=by unfold ints;rw[map_set]
 rw[b] at a;exact a
theorem bZ.afh{T:bZ}(h0:0<T.stands.length)(h:Sat K w (T.A bs bd g::F)):∃g1,T.sA=some ⟨g1,0,none⟩:=by
 have d:Sat K w (bZ.parts bs bd g T++F):=h.yJ;have b:Sat K w (T.sl::ah bs 127 (T.cells bd g)::ah T.b8 124 (T.fA.map bW.v)::bK (T.fA.map bW.row)::F):=d.p1;cases hA:T.sA with
 | none =>
  unfold bZ.sl at b;rw[hA] at b;have :=(aV.yM b).1;omega
 | some a =>
  unfold bZ.sl at b;rw[hA] at b;obtain⟨g1,rfl⟩:=aV.addr b;exact⟨g1,Z⟩
def St.mark(T:St)(aS:Int):St:=if 0≤T.lF aS then { T with cu:=T.cu.set aS.toNat (T.cu.getD aS.toNat []++[T.lF aS]) } else T
def St.done(T:St)(aS b bl:Int):St:= { T with stands:=T.stands.set aS.toNat b,next:=T.next+1,at_:=(b+1)%bl }
def Eb(aS:Int)(d:List Nat)(S:aD)(T:St)(b:Int):aD×St×Option Int :=
 if (dI S T.next b aS d).2=72 then ((dI S T.next b aS d).1,{ T.forget b with next:=min (T.next+1) 1000000001 },if 1000000000<min (T.next+1) 1000000001 then some 6 else none)
 else if (dI S T.next b aS d).2≠0 then ((dI S T.next b aS d).1,(T.forget b).told (dI S T.next b aS d).2,some (dI S T.next b aS d).2)
 else ((dI S T.next b aS d).1,((T.forget b).mark aS).done aS b S.g.bl,some 0)
def jy(aS:Int)(d:List Nat):List Int→aD→St→aD×St×Option Int
 | [],S,T=>(S,T,none)
 | b::bs,S,T=>if (Eb aS d S T b).2.2=none then jy aS d bs (Eb aS d S T b).1 (Eb aS d S T b).2.1 else Eb aS d S T b
def j4(gd Md:List Int)(J5 bl:Int)(n j:Nat):List Int:=((range' j (n-j)).map λ(i:Nat)=>(J5+(i:Int))%bl).filter λb=>decide (b∈gd∧¬b∈Md)
theorem SV:j4 gd Md J5 bl n n=[]:=by unfold j4;rw[Nat.sub_self];rfl
theorem Tq{n:Nat}(hj:j<n)(h:(J5+(j:Int))%bl∈gd∧¬(J5+(j:Int))%bl∈Md):j4 gd Md J5 bl n j=(J5+(j:Int))%bl::j4 gd Md J5 bl n (j+1):=by
 unfold j4;rw[show n-j=(n-(j+1))+1 by omega,range'_succ,map_cons,filter_cons_of_pos (by simpa using h)]
theorem XB{n:Nat}(hj:j<n)(h:¬((J5+(j:Int))%bl∈gd∧¬(J5+(j:Int))%bl∈Md)):j4 gd Md J5 bl n j=j4 gd Md J5 bl n (j+1):=by
 unfold j4;rw[show n-j=(n-(j+1))+1 by omega,range'_succ,map_cons,filter_cons_of_neg (by simpa using h)]
def bq(S:aD)(T:St)(aS:Int)(d:List Nat):aD×St×Int :=
 if T.ready aS≠0 then (S,T,T.ready aS)
 else if S.g.cap<d.length then (S,T,2)
 else if 1000000000<T.next then (S,T,6)
 else match jy aS d (j4 S.dW T.stands T.at_ S.g.bl S.g.bl.toNat 0) S T with
  | (S',T',some e)=>(S',T',e)
  | (S',T',none)=>(S',T'.told (if S'.om=70 then 70 else 6),if S'.om=70 then 70 else 6)
set_option maxHeartbeats 1000000 in
theorem Da{T:bZ}{C:Cw}(hC:C.Ok)(hg:C.g=g)(hT:T.Ok g)(hd:Seq K F A m 1 (av .u8 d))(h8:aA 256 d)(Og:m≤cap)(hm:m≤1000000)(qZ:∀l∈T.aC.cu,l.length≤1000000) :
 aB prog 16 #[ptr bs 0,.i aS,.slice A m cap] K (C.A bc::dA bd bc g::T.A bs bd g::F)
 (λv H'=>∃(C':Cw) (T':bZ),C'.Ok∧C'.g=g∧T'.Ok g∧C'.aC=(bq C.aC T.aC aS d).1∧T'.aC=(bq C.aC T.aC aS d).2.1∧v= .i (bq C.aC T.aC aS d).2.2∧H'=C'.A bc::dA bd bc g::T'.A bs bd g::F):=by
 have yO:g.aU:=by rw[←hg];exact hC.aU
 have Od:C.aC.g=g:=hg;have uJ:=yO;unfold bQ.aU at uJ;have wF:d.length=m:=by simpa [av] using hd.len
 have FR:=bQ.vL yO;obtain⟨n,hn⟩:∃n:Nat,g.bl=(n:Int):=⟨g.bl.toNat,by omega⟩;have y2:g.bl.toNat=n:=ay;obtain⟨R,O⟩:∃R,R=bq C.aC T.aC aS d:=⟨_,Z⟩;rw[←O];unfold bq at O;rw[Od,wF] at O;obtain⟨L,hL⟩:∃L,L=jy aS d (j4 C.aC.dW T.aC.stands T.aC.at_ g.bl g.bl.toNat 0) C.aC T.aC:=⟨_,Z⟩;rw[←hL] at O;have BG:T.aC.ready aS=0→0≤aS∧aS<T.stands.length:=λh=>by
  unfold St.ready bZ.aC at h;dsimp only at h;split at h
  ·cases h
  ·split at h
   ·cases h
   ·omega
 refine aB.aaG func16 Z ntmps16 Z ?_;simp only[kV,reduceAdd];refine aj "a~k" λG=> ?_;refine aj "~k" λB=> ?_;refine aj "~k" λJ=> ?_;refine aj "v" λM=> ?_;refine aj "GL" ?_;refine WC.sub (H':=T.A bs bd g::C.A bc::dA bd bc g::ah M 32 [.i 0]::ah J 34 [.slice A m cap]::ah B 3 [.i aS]::ah G 28 [ptr bs 0]::F) (Sub.refl _) (λw h=>h.bg 7 [6,4,5,0,1,2,3] Z)<|aj "p<<" ?_;refine WL.t2 call61 Z Z (xk aS) Z<|aj "iuc~h" (aW (λh0=> ?_) λh0=> ?_)
 ·rw[if_pos h0] at O;refine aj "e~+6" ?_;subst O;exact mZ.ret (H':=C.A bc::dA bd bc g::T.A bs bd g::F) (bJ.one Z (R1.JH Z isAgg32 lD)) (λw h=>h.bg 7 [1,2,0] Z) ⟨C,T,hC,hg,hT,Z,Z,Z,Z⟩
 ·have KC:T.aC.ready aS=0:=ay;rw[if_neg (λh=>h KC)] at O;have Oe:=BG KC;refine aj "EL~i~F~~W~F" ?_;refine WQ.call (vs:=[_]) call50 ⟨ak Z,trivial⟩ (X4 yO) Z<|aj "~[~n~d~h" (aW (λaQ=> ?_) λaQ=> ?_)
  ·have h1:=aQ;rw[if_pos ay] at O;refine aj "a~+6" ?_;subst O;exact mZ.ret (H':=C.A bc::dA bd bc g::T.A bs bd g::F) (bJ.one Z (R1.JH Z isAgg32 lD)) (λw h=>h.bg 7 [1,2,0] Z) ⟨C,T,hC,hg,hT,Z,Z,Z,Z⟩
  ·have h1:=aQ;rw[if_neg ay] at O;refine aj "a<U" ?_;refine WL.val (V.load isAgg3 (ak Z) (λ_=>bZ.FH 8 _ Z)) Z<|aj "~Ho~h" (aW (λh2=> ?_) λh2=> ?_)
   ·rw[if_pos (show 1000000000<T.aC.next from by show 1000000000<T.next;omega)] at O;refine aj "a~+6" ?_;subst O;exact mZ.ret (H':=C.A bc::dA bd bc g::T.A bs bd g::F) (bJ.one Z (R1.JH Z isAgg32 lD)) (λw h=>h.bg 7 [1,2,0] Z) ⟨C,T,hC,hg,hT,Z,Z,Z,Z⟩
   ·rw[if_neg (show ¬1000000000<T.aC.next from by show ¬1000000000<T.next;omega)] at O;refine aj "|a<" ?_;refine WL.c1 call62 Z (X6) Z ?_;rintro _ _ ⟨KR,rfl,rfl⟩;refine aj "cs" ?_;obtain⟨I,hI⟩:∃I:Nat→Cw→bZ→Prop,I=λj C' T'=>C'.Ok∧C'.g=g∧T'.Ok g∧T'.stands=T.stands∧T'.at_=T.at_∧T'.next≤1000000000∧(∀l∈T'.aC.cu,l.length≤1000000)∧jy aS d (j4 C.aC.dW T.stands T.at_ g.bl n j) C'.aC T'.aC=L:=⟨_,Z⟩;refine WC.sub (H':=C.A bc::dA bd bc g::T.A bs bd g::ah KR 28 [ptr bs 0]::ah M 32 [.i 0]::ah J 34 [.slice A m cap]::ah B 3 [.i aS]::ah G 28 [ptr bs 0]::F) (Sub.refl _) (λw h=>h.bg 8 [2,3,1,0,4,5,6,7] Z) ?_;refine WC.range (gf:=117) (lb:=[ptr KR 0]) (Done:=λH1=>∃X C' T',I n C' T'∧H1=X::C'.A bc::dA bd bc g::T'.A bs bd g::ah KR 28 [ptr bs 0]::ah M 32 [.i 0]::ah J 34 [.slice A m cap]::ah B 3 [.i aS]::ah G 28 [ptr bs 0]::F) (X:=λc H1=>∃(X:aH) (C':Cw) (T':bZ) (e:Int),c= .ret∧C'.Ok∧C'.g=g∧T'.Ok g∧L=(C'.aC,T'.aC,some e)∧H1=X::C'.A bc::dA bd bc g::T'.A bs bd g::ah KR 28 [ptr bs 0]::ah M 32 [.i e]::ah J 34 [.slice A m cap]::ah B 3 [.i aS]::ah G 28 [ptr bs 0]::F) Z call117 (λr l e1 e2 e3 hA=> ?_) (λD H1 hd=> ?_) (λD c H1 hx=>by
     obtain⟨X,C',T',e,rfl,Zx,N9,Oo,y1,rfl⟩:=hx;rw[y1] at O;dsimp only at O;subst O;refine WC.ret ?_;exact mZ.agu (H':=C'.A bc::dA bd bc g::T'.A bs bd g::F) (X::C'.A bc::dA bd bc g::T'.A bs bd g::ah KR 28 [ptr bs 0]::ah M 32 [.i e]::ah J 34 [.slice A m cap]::ah B 3 [.i aS]::ah G 28 [ptr bs 0]::F) cO (bJ.one Z (R1.JH Z isAgg32 lD)) (λw h=>h.bg 9 [1,2,3] Z) ⟨C',T',Zx,N9,Oo,Z,Z,Z,Z⟩)
    have x2:∀j C' T',I j C' T'→C'.Ok∧C'.g=g∧T'.Ok g∧T'.stands=T.stands∧T'.at_=T.at_:=λj C' T' h=>by rw[hI] at h;exact⟨h.1,h.2.1,h.2.2.1,h.2.2.2.1,h.2.2.2.2.1⟩
    have ZH:I 0 C T:=by
     rw[hI];refine⟨hC,hg,hT,Z,Z,by omega,qZ, ?_⟩;rw[hL,y2];rfl
    suffices Ba:∀j C' T' X,j<n→((T.at_+(j:Int))%g.bl∈C.aC.dW∧¬(T.at_+(j:Int))%g.bl∈T.stands)→I j C' T'→jY prog K none l #[.i ((T.at_+(j:Int))%g.bl)] (r.A l .ready none::jT r.D::X::C'.A bc::dA bd bc g::T'.A bs bd g::ah KR 28 [ptr bs 0]::ah M 32 [.i 0]::ah J 34 [.slice A m cap]::ah B 3 [.i aS]::ah G 28 [ptr bs 0]::F)
     (λb H'=>(b=true∧∃y N,I (j+1) y N∧H'=r.A l .ready none::jT r.D::X::y.A bc::dA bd bc g::N.A bs bd g::ah KR 28 [ptr bs 0]::ah M 32 [.i 0]::ah J 34 [.slice A m cap]::ah B 3 [.i aS]::ah G 28 [ptr bs 0]::F) ∨
      (b=false∧∃(y:Cw) (N:bZ) (e:Int),y.Ok∧y.g=g∧N.Ok g∧L=(y.aC,N.aC,some e)∧H'=r.A l .done (some .ret)::jT r.D::X::y.A bc::dA bd bc g::N.A bs bd g::ah KR 28 [ptr bs 0]::ah M 32 [.i e]::ah J 34 [.slice A m cap]::ah B 3 [.i aS]::ah G 28 [ptr bs 0]::F)) from by
     have h1:=Xt (b1:=KR) (Y1:=r.A l .ready none) (Y2:=jT r.D) hn yO hT.at_ I (λX H'=>∃(y:Cw) (N:bZ) (e:Int),y.Ok∧y.g=g∧N.Ok g∧L=(y.aC,N.aC,some e)∧H'=r.A l .done (some .ret)::jT r.D::X::y.A bc::dA bd bc g::N.A bs bd g::ah KR 28 [ptr bs 0]::ah M 32 [.i e]::ah J 34 [.slice A m cap]::ah B 3 [.i aS]::ah G 28 [ptr bs 0]::F) x2
      (λj C' T' hj uN h=>by
       rw[hI] at h ⊢;exact⟨h.1,h.2.1,h.2.2.1,h.2.2.2.1,h.2.2.2.2.1,h.2.2.2.2.2.1,h.2.2.2.2.2.2.1,by rw[←XB hj uN];exact h.2.2.2.2.2.2.2⟩) Ba Z ZH
     exact h1.mono λv H' ⟨X,h⟩=>by
      rcases h with ⟨C',T',x3,e⟩ | ⟨C',T',e,k1,k2,k3,k4,eH⟩
      ·exact⟨none,_,e,X,C',T',x3,Z⟩
      ·exact⟨some .ret,_,eH,X,C',T',e,Z,k1,k2,k3,k4,Z⟩
    rintro j C' T' X hj afc x5;obtain⟨b,hb⟩:∃b,b=(T.at_+(j:Int))%g.bl:=⟨_,Z⟩;rw[←hb] at afc ⊢;refine jY.mono (CS (n:=115) (args:=[.i b]) (post:=λjj H1=>(jj=none∧∃y N,I (j+1) y N∧H1=jT r.D::X::y.A bc::dA bd bc g::N.A bs bd g::ah KR 28 [ptr bs 0]::ah M 32 [.i 0]::ah J 34 [.slice A m cap]::ah B 3 [.i aS]::ah G 28 [ptr bs 0]::F) ∨
     (jj=some .ret∧∃(y:Cw) (N:bZ) (e:Int),y.Ok∧y.g=g∧N.Ok g∧L=(y.aC,N.aC,some e)∧H1=jT r.D::X::y.A bc::dA bd bc g::N.A bs bd g::ah KR 28 [ptr bs 0]::ah M 32 [.i e]::ah J 34 [.slice A m cap]::ah B 3 [.i aS]::ah G 28 [ptr bs 0]::F)) (by rw[e1];rfl) (by rw[e1];simp) hA ?_) (λb2 H' ⟨jj,H1,oH,y0,eH⟩=>by
     rcases y0 with ⟨rfl,y,N,x3,rfl⟩ | ⟨rfl,y,N,e,k1,k2,k3,k4,rfl⟩
     ·exact .inl ⟨oH,y,N,x3,eH⟩
     ·exact .inr ⟨oH,y,N,e,k1,k2,k3,k4,eH⟩)
    rw[e1,e2];rw[hI] at x5;obtain⟨Zx,N9,Oo,acL,alb,anK,akm,FP⟩:=x5;rw[Tq hj (by rw[←hb];exact afc),←hb] at FP;have y5:0≤b∧b<g.bl:=by
     rw[hb];exact⟨Int.emod_nonneg _ ay,Int.emod_lt_of_pos _ ay⟩
    refine WC.sub (E:=(31,_)::_) (Sub.refl _) cO ?_
    ·skip
     refine aj "po" ?_;refine⟨_,λw h=>h, ?_⟩;rw[e3];refine aj "sa<b~~J" ?_;refine WL.c2 call63 Z Z (Nj Oo b) Z ?_;rintro z1 _ ⟨a,oZ,uM,rfl⟩;have ak1:a.next=T'.next:=congrArg St.next uM;have agi:a.stands=T.stands:=(congrArg St.stands uM).trans acL;have an2:a.at_=T.at_:=(congrArg St.at_ uM).trans alb;have z0:=Oo.next;have aly:∀l∈a.aC.cu,l.length≤1000000:=λl hl=>by
      rw[uM] at hl;obtain⟨l',Dp,rfl⟩:=mem_map.1 hl;exact Nat.le_trans (length_filter_le _ _) (akm l' Dp)
     have z3:=hT.aJ;have EC:Hd.may g ⟨aS,(d.length:Nat),a.next⟩=true:=by
      unfold Hd.may bQ.fits;simp only[Bool.and_eq_true,decide_eq_true_eq];rw[wF,ak1];exact⟨⟨⟨⟨⟨by omega,by omega⟩,by omega⟩,by omega⟩,by omega⟩,by omega⟩
     refine aj "Q<b<<" ?_;refine WL.sub (Sub.refl _) (λw h=>h.bg 6 [4,5,0,1,2,3] Z)<|WL.c4 call64 Z Z Z Z (PG (d:=d) Zx N9 oZ (by repeat (first | exact hd | apply Seq.up)) h8 Og hm Oe.1 EC) Z ?_;rintro _ _ ⟨y,Bz,U1,pI,rfl,rfl⟩;obtain⟨W,hW⟩:∃W,W=dI C'.aC a.next b aS d:=⟨_,Z⟩;rw[←hW] at pI ⊢;have aQ:Eb aS d C'.aC T'.aC b=if W.2=72 then (W.1,{ a.aC with next:=min (a.next+1) 1000000001 },if 1000000000<min (a.next+1) 1000000001 then some 6 else none) else if W.2≠0 then (W.1,a.aC.told W.2,some W.2) else (W.1,(a.aC.mark aS).done aS b g.bl,some 0):=by
      unfold Eb;rw[show C'.aC.g=g from N9,show T'.aC.next=a.next from ak1.symm,←hW,←uM]
     rw[jy,aQ] at FP;refine aj "f;c1" (aW (λh3=> ?_) λh3=> ?_)
     ·rw[if_pos h3] at FP;dsimp only at FP;refine WC.seq<|WC.sub (H':=a.A bs bd g::y.A bc::dA bd bc g::r.A l .busy none::jT r.D::X::ah KR 28 [ptr bs 0]::ah M 32 [.i 0]::ah J 34 [.slice A m cap]::ah B 3 [.i aS]::ah G 28 [ptr bs 0]::F) (Sub.refl _) (λw h=>h.bg 3 [2,0,1] Z)<|WC.Dj (y.A bc::dA bd bc g::r.A l .busy none::jT r.D::X::ah KR 28 [ptr bs 0]::ah M 32 [.i 0]::ah J 34 [.slice A m cap]::ah B 3 [.i aS]::ah G 28 [ptr bs 0]::F) (by kernel_rfl)<|aj "]0]1~c243m4" ?_;refine WL.val (V.load isAgg3 (ak Z) (λ_=>bZ.FH 8 _ Z)) Z<|aj "c~~H5" ?_;refine WA.t 6 Z (V.min (ak Z) (ak Z)) ?_;refine aj "~c748m9" ?_;refine WL.store (cs:=[_]) sizeOf3 (ak Z) (ak Z) Z Z Z (bZ.akJ a (min (a.next+1) 1000000001))<|aj "*La<U" ?_;refine WL.val (V.load isAgg3 (ak Z) (λ_=>bZ.FH 8 _ Z)) Z<|aj "~Hc1" (aW (λmQ=> ?_) λmQ=> ?_)
      ·have h4:1000000000<min (a.next+1) 1000000001∨¬1000000000<min (a.next+1) 1000000001:=Decidable.em _;have h4:1000000000<min (a.next+1) 1000000001:=by have :=mQ;exact this
       rw[if_pos h4,if_neg (λh=>by cases h)] at FP;have BH:bZ.Ok g { a with next:=min (a.next+1) 1000000001 }:=⟨oZ.len,oZ.aJ,by show 1≤min (a.next+1) 1000000001∧min (a.next+1) 1000000001≤1000000001;omega,oZ.at_,oZ.Md⟩;refine aj "a~o6" ?_;exact⟨_,λw h=>h.bg 6 [3,4,5,1,2,0] Z,.inr ⟨Z,y,_,6,Bz,U1,BH,by rw[←FP,pI];rfl,Z⟩⟩
      ·have h4:1000000000<min (a.next+1) 1000000001∨¬1000000000<min (a.next+1) 1000000001:=Decidable.em _;have h4:¬1000000000<min (a.next+1) 1000000001:=by have :=mQ;exact this
       rw[if_neg h4,if_pos Z] at FP;have BH:bZ.Ok g { a with next:=min (a.next+1) 1000000001 }:=⟨oZ.len,oZ.aJ,by show 1≤min (a.next+1) 1000000001∧min (a.next+1) 1000000001≤1000000001;omega,oZ.at_,oZ.Md⟩;refine aj "qK" ?_;refine⟨_,λw h=>h.bg 6 [3,4,5,1,2,0] Z,.inl ⟨Z,y,_, ?_,Z⟩⟩;rw[hI];exact⟨Bz,U1,BH,agi,an2,by show min (a.next+1) 1000000001≤1000000000;omega,aly,by rw[pI];exact FP⟩
     ·rw[if_neg h3] at FP;refine aj "qruc~h" (aW (λwQ=> ?_) λwQ=> ?_)
      ·have h5:=wQ;rw[if_pos h5,if_neg (λh=>by cases h)] at FP;refine aj "a<b~~m" ?_;refine WL.c2 call65 Z Z (qx W.2) Z ?_;rintro _ _ ⟨rfl,rfl⟩;refine aj "~o6" ?_;exact⟨_,λw h=>h.bg 6 [3,4,5,1,2,0] Z,.inr ⟨Z,y,_,W.2,Bz,U1,oZ.told _,by rw[←FP,pI];rfl,Z⟩⟩
      ·have h5:=wQ;rw[if_neg (show ¬(W.2≠0) from λh=>h ay),if_neg (λh=>by cases h)] at FP;refine WC.skip<|WC.join (σ:=bZ) (λ_=>[(3,ptr G 0),(4,ptr B 0),(6,ptr M 0),(8,.i b)])
        (λS=>S.A bs bd g::y.A bc::dA bd bc g::r.A l .busy none::jT r.D::X::ah KR 28 [ptr bs 0]::ah M 32 [.i 0]::ah J 34 [.slice A m cap]::ah B 3 [.i aS]::ah G 28 [ptr bs 0]::F) (λS=>S.Ok g∧S.aC=a.aC.mark aS∧S.stands=a.stands) ?_ ?_
       ·skip
        refine WC.seq ?_;have acC:0≤aS∧aS<a.stands.length:=by rw[agi];exact Oe
        refine WC.Rm (by kernel_rfl) (by kernel_rfl)<|aj "~F~>~t" ?_;refine WQ.val (V.load isAgg124 (ak Z) (λ_=>by repeat (first | exact bZ.FH 6 _ Z | apply Rd.up))) Z<|aj "~F" ?_;refine WQ.val (V.dw eB (ak Z) (ak Z) (λ_=>acC) (λ_=>by repeat (first | exact bZ.rdS acC | apply Rd.up))) Z<|WQ.val (V.load isAgg3 (ak Z) (λ_=>by repeat (first | exact bZ.rdS acC | apply Rd.up))) Z<|aj "~n~de~gh" (aW (λh6=> ?_) λh6=> ?_)
        ·simp only[ge_iff_le,cZ] at h6;have x0:a.aC.mark aS= { a.aC with cu:=a.aC.cu.set aS.toNat (a.aC.cu.getD aS.toNat []++[a.aC.lF aS]) }:=by unfold St.mark;rw[if_pos ay]
         have GQ:=oZ.len;obtain⟨q,hq⟩:∃q,q=a.fA[aS.toNat]'ay:=⟨_,Z⟩;have x4:a.fA[aS.toNat]? =some q:=by rw[hq];exact getElem?_eq_getElem ay
         have x6:(a.fA.map bW.v)[0+aS.toNat*1]? =some q.v:=by rw[show 0+aS.toNat*1=aS.toNat by omega,getElem?_map,x4];rfl
         have y6:q.l.length≤1000000:=aly _ (mem_map.2 ⟨q,by rw[hq];exact getElem_mem _,Z⟩);have aaq:(a.fA.map bW.row)[aS.toNat]'(by rw[length_map];omega)=q.row:=by rw[getElem_map,hq]
         refine WC.sub (H':=aV (.slice q.A q.l.length q.c) 3 1 q.l.length (ints .i64 q.l)::ah a.b8 124 (a.fA.map bW.v)::bK ((a.fA.map bW.row).eraseIdx aS.toNat)::ah bs 127 (a.cells bd g)::a.sl::y.A bc::dA bd bc g::r.A l .busy none::jT r.D::X::ah KR 28 [ptr bs 0]::ah M 32 [.i 0]::ah J 34 [.slice A m cap]::ah B 3 [.i aS]::ah G 28 [ptr bs 0]::F) (Sub.refl _) (λw h=>by
          have h9:Sat K w (bZ.parts bs bd g a++(y.A bc::dA bd bc g::r.A l .busy none::jT r.D::X::ah KR 28 [ptr bs 0]::ah M 32 [.i 0]::ah J 34 [.slice A m cap]::ah B 3 [.i aS]::ah G 28 [ptr bs 0]::F)):=(h.bg 3 [2,0,1] Z).yJ;have RJ:=Sat.FQ (k:=aS.toNat) (by rw[length_map];omega) (h9.bg 4 [3,2,0,1] Z);rw[aaq] at RJ;exact RJ.bg 5 [0,2,1,3,4] Z) ?_
         refine WC.Dj (bK ((a.fA.map bW.row).eraseIdx aS.toNat)::ah bs 127 (a.cells bd g)::a.sl::y.A bc::dA bd bc g::r.A l .busy none::jT r.D::X::ah KR 28 [ptr bs 0]::ah M 32 [.i 0]::ah J 34 [.slice A m cap]::ah B 3 [.i aS]::ah G 28 [ptr bs 0]::F) (by kernel_rfl)<|aj "]0~c142]3]4]5~c647]8]9~e:n<" ?_;refine WA.two (i:=11) (j:=13) eO (by kernel_rfl) Z Z ?_ ?_
         ·refine WL.val (V.load isAgg124 (ak Z) (λ_=>by repeat (first | exact Rd.here x6 | apply Rd.up))) Z ?_;refine aj "cm=" ?_;refine WL.buildSlice (E:=3) (cs:=[_]) (vs:=[(0,_)]) ⟨ak Z,trivial⟩ Z (dJ _) Z (λy3=> ?_);refine aj "cm>?" ?_;refine WL.append (m:=q.l.length) (q:=1) (news:=[.i (a.aC.lF aS)]) underlying124 Me (ak Z) (ak Z) (Seq.all Z) (by intro u hu;rw[mem_singleton.1 hu];rfl) ay Z Z (λU Y Zu wQ=> ?_);refine aj "c~e?m@" ?_;refine WL.store (cs:=[_]) sizeOf124 (ak Z) (ak Z) Z Z Z (bT.up (bT.up (bT.at_ (by rw[length_map];omega)))) ?_;refine aj "*~s" ?_;refine⟨{ a with fA:=a.fA.set aS.toNat ⟨U,Y,q.l++[a.aC.lF aS]⟩ },⟨⟨by show (a.fA.set _ _).length=_;rw[length_set];exact oZ.len,oZ.aJ,oZ.next,oZ.at_,oZ.Md⟩,by
           rw[x0];unfold bZ.aC;dsimp only;rw[map_set];have e1:(a.fA.map bW.l).getD aS.toNat []=q.l:=by
            simp only[getD,getElem?_map,x4,Option.map_some,Option.getD_some]
           rw[e1],Z⟩,.cons Z bC,λw h=> ?_⟩
          have h5:=h.bg 6 [0,3,2,4,5] Z;have e1:aV (.slice U (q.l.length+1) Y) 3 1 (q.l.length+1) (ints .i64 q.l++[.i (a.aC.lF aS)])=bW.row ⟨U,Y,q.l++[a.aC.lF aS]⟩:=by
           unfold bW.row;rw[gY,length_append];rfl
          rw[e1] at h5;have h6:=Sat.Na (l:=a.fA.map bW.row) (k:=aS.toNat) (by rw[length_map];omega) h5;have e2:(a.fA.map bW.v).set (0+aS.toNat*1) (.slice U (q.l.length+1) Y)=(a.fA.set aS.toNat ⟨U,Y,q.l++[a.aC.lF aS]⟩).map bW.v:=by
           rw[show 0+aS.toNat*1=aS.toNat by omega,map_set];show _=(a.fA.map bW.v).set aS.toNat (.slice U (q.l++[a.aC.lF aS]).length Y);rw[length_append];rfl
          rw[e2,←map_set] at h6;exact Sat.all (l:=bZ.parts bs bd g { a with fA:=a.fA.set aS.toNat ⟨U,Y,q.l++[a.aC.lF aS]⟩ }) (by
           unfold bZ.parts bZ.cells bZ.sl;dsimp only;rw[length_set];exact h6.bg 4 [2,3,1,0] Z)
         ·refine WL.buildSlice (E:=3) (cs:=[_]) (vs:=[(0,_)]) ⟨ak Z,trivial⟩ Z (dJ _) Z (λy3=> ?_);refine aj "cm;" ?_;refine WL.val (V.load isAgg124 (ak Z) (λ_=>by repeat (first | exact Rd.here x6 | apply Rd.up))) Z ?_;refine aj "cm>?" ?_;refine WL.append (m:=q.l.length) (q:=1) (news:=[.i (a.aC.lF aS)]) underlying124 Me (ak Z) (ak Z) (Seq.all Z) (by intro u hu;rw[mem_singleton.1 hu];rfl) ay Z Z (λU Y Zu wQ=> ?_);refine aj "c~e?m@" ?_;refine WL.store (cs:=[_]) sizeOf124 (ak Z) (ak Z) Z Z Z (bT.up (bT.up (bT.at_ (by rw[length_map];omega)))) ?_;refine aj "*~s" ?_;refine⟨{ a with fA:=a.fA.set aS.toNat ⟨U,Y,q.l++[a.aC.lF aS]⟩ },⟨⟨by show (a.fA.set _ _).length=_;rw[length_set];exact oZ.len,oZ.aJ,oZ.next,oZ.at_,oZ.Md⟩,by
           rw[x0];unfold bZ.aC;dsimp only;rw[map_set];have e1:(a.fA.map bW.l).getD aS.toNat []=q.l:=by
            simp only[getD,getElem?_map,x4,Option.map_some,Option.getD_some]
           rw[e1],Z⟩,.cons Z bC,λw h=> ?_⟩
          have h5:=h.bg 6 [0,3,2,4,5] Z;have e1:aV (.slice U (q.l.length+1) Y) 3 1 (q.l.length+1) (ints .i64 q.l++[.i (a.aC.lF aS)])=bW.row ⟨U,Y,q.l++[a.aC.lF aS]⟩:=by
           unfold bW.row;rw[gY,length_append];rfl
          rw[e1] at h5;have h6:=Sat.Na (l:=a.fA.map bW.row) (k:=aS.toNat) (by rw[length_map];omega) h5;have e2:(a.fA.map bW.v).set (0+aS.toNat*1) (.slice U (q.l.length+1) Y)=(a.fA.set aS.toNat ⟨U,Y,q.l++[a.aC.lF aS]⟩).map bW.v:=by
           rw[show 0+aS.toNat*1=aS.toNat by omega,map_set];show _=(a.fA.map bW.v).set aS.toNat (.slice U (q.l++[a.aC.lF aS]).length Y);rw[length_append];rfl
          rw[e2,←map_set] at h6;exact Sat.all (l:=bZ.parts bs bd g { a with fA:=a.fA.set aS.toNat ⟨U,Y,q.l++[a.aC.lF aS]⟩ }) (by
           unfold bZ.parts bZ.cells bZ.sl;dsimp only;rw[length_set];exact h6.bg 4 [2,3,1,0] Z)
        ·simp only[ge_iff_le,cZ] at h6;have x0:a.aC.mark aS=a.aC:=by unfold St.mark;rw[if_neg ay]
         refine aj "q~s" ?_;exact⟨a,⟨oZ,x0.symm,Z⟩,.cons Z bC,λw h=>h.bg 3 [2,0,1] Z⟩
       ·skip
        rintro S ⟨abU,x7,y4⟩;rw[←x7] at FP;have arf:0≤aS∧aS<S.stands.length:=by rw[y4,agi];exact Oe
        refine WC.lG (p:=∃g1,S.sA=some ⟨g1,0,none⟩) (λw h=>bZ.afh ay h) (λ⟨g1,x8⟩=> ?_);refine WC.seq<|WC.Dj (y.A bc::dA bd bc g::r.A l .busy none::jT r.D::X::ah KR 28 [ptr bs 0]::ah M 32 [.i 0]::ah J 34 [.slice A m cap]::ah B 3 [.i aS]::ah G 28 [ptr bs 0]::F) (by kernel_rfl)<|aj "]0~c142]4n5m3" ?_;refine WL.val (V.aG (v':= .slice (some ⟨g1,0,none⟩) S.stands.length S.sc) (V.load isAgg124 (ak Z) (λ_=>bZ.FH 6 _ Z)) (λ_=>by rw[x8])) Z<|aj "c~e6m7" ?_;refine WL.store (cs:=[_]) sizeOf3 (ak Z) (ak Z) Z Z Z (bZ.ant x8 ay b)<|aj "*a<U" ?_;refine WL.val (V.load isAgg3 (ak Z) (λ_=>bZ.FH 8 _ Z)) Z ?_;have anC:=abU.next;refine WL.val (V.CX (ak Z) (ak Z) (λ_=>by dsimp only;omega)) Z<|aj "U" ?_;refine WL.store (cs:=[_]) sizeOf3 (ak Z) (ak Z) Z Z Z (bZ.akJ _ _)<|aj "G" ?_;refine WC.Dj (y.A bc::dA bd bc g::r.A l .busy none::jT r.D::X::ah KR 28 [ptr bs 0]::ah M 32 [.i 0]::ah J 34 [.slice A m cap]::ah B 3 [.i aS]::ah G 28 [ptr bs 0]::F) (by kernel_rfl)<|aj "]0n1~~H2]3~c44546m7" ?_;refine WL.val (V.load isAgg3 (ak Z) (λ_=>bZ.FH 1 _ Z)) Z<|WL.nil<|WA.t 8 Z (V.Av (ak Z) (ak Z) (λ_=>by omega)) ?_;refine aj "~c94:m;" ?_;refine WL.store (cs:=[_]) sizeOf3 (ak Z) (ak Z) Z Z Z (bZ.anJ _ _)<|aj "*a~o6" ?_;refine⟨_,λw h=>h.bg 6 [3,4,5,1,2,0] Z,.inr ⟨Z,y,_,0,Bz,U1, ?_, ?_,Z⟩⟩
        ·have anC:=abU.next;have z2:S.next≤1000000000:=by
          have e1:S.aC.next=a.aC.next:=by rw[x7];unfold St.mark;split<;>rfl
          have e2:S.next=a.next:=e1;omega
         have x9:0≤(b+1)%g.bl∧(b+1)%g.bl<g.bl:=⟨Int.emod_nonneg _ ay,Int.emod_lt_of_pos _ ay⟩;refine⟨by show S.fA.length=(S.stands.set _ _).length;rw[length_set];exact abU.len,by show 1≤(S.stands.set _ _).length∧_;rw[length_set];exact abU.aJ,by show 1≤S.next+1∧S.next+1≤1000000001;omega,x9,λx hx=> ?_⟩;rcases mem_or_eq_of_mem_set hx with hx | rfl
         ·exact abU.Md x hx
         ·omega
        ·rw[←FP,pI];unfold St.done bZ.aC;dsimp only;rw[show 0+aS.toNat*1=aS.toNat by omega]
    ·skip
     obtain⟨X,C',T',x2,rfl⟩:=hd;rw[hI] at x2;obtain⟨Zx,N9,Oo,acL,alb,anK,akm,FP⟩:=x2;rw[SV,jy] at FP;rw[←FP] at O;dsimp only at O;refine WC.seq<|WC.sub (H':=C'.A bc::dA bd bc g::T'.A bs bd g::ah M 32 [.i 0]::jT D::ah J 34 [.slice A m cap]::ah B 3 [.i aS]::ah G 28 [ptr bs 0]::F) (Sub.refl _) (λw h=>h.bg 7 [2,3,4,6,0] Z)<|WC.dM (jT D::ah J 34 [.slice A m cap]::ah B 3 [.i aS]::ah G 28 [ptr bs 0]::F) (by kernel_rfl)<|aj "]0]1m2" ?_;refine WL.t1 call66 Z (TP Zx N9) Z<|aj "cm3~~m" ?_;refine WL.c2 call65 Z Z (qx (if C'.aC.om=70 then 70 else 6)) Z ?_;rintro _ _ ⟨rfl,rfl⟩;refine aj "cm4" ?_;refine WL.store (cs:=[_]) sizeOf32 (ak Z) (ak Z) Z Z Z (bT.up (bT.up (bT.up (bT.here Z Z))))<|aj "*~J" ?_;subst O;exact mZ.agu (H':=C'.A bc::dA bd bc g::(T'.told (if C'.aC.om=70 then 70 else 6)).A bs bd g::F) ((T'.told (if C'.aC.om=70 then 70 else 6)).A bs bd g::C'.A bc::dA bd bc g::ah M 32 [.i (if C'.aC.om=70 then 70 else 6)]::ah J 34 [.slice A m cap]::ah B 3 [.i aS]::ah G 28 [ptr bs 0]::F) (λw h=>h.bg 5 [4,0,1,2,3] Z) (bJ.one Z (R1.JH Z isAgg32 lD)) (λw h=>h.bg 7 [1,2,0] Z) ⟨C',T'.told (if C'.aC.om=70 then 70 else 6),Zx,N9,Oo.told _,Z,Z,Z,Z⟩
theorem P6{S:aD}(hg:S.g.aU)(hu:S.up=true):S.om=0:=by
 unfold bQ.aU at hg;have b:¬((0:Int)<0∨S.g.bl≤0∨(0:Int)<0∨S.g.pg≤0∨(decide ((0:Int)≤0)&&decide (0≤S.g.pg))=false):=by
  simp;omega
 have a:S.ahead 0 0 (decide ((0:Int)≤0)&&decide (0≤S.g.pg))=if S.bad 0=true then 73 else 0:=by
  unfold aD.ahead;rw[if_neg (by rw[hu];decide),if_neg b]
 unfold aD.om aD.mX;rw[a];cases S.bad 0<;>rfl
namespace aD
theorem qo{S:aD}(h:S.left=0):S.bE=S:=by
 unfold bE cut;rw[h];obtain⟨a,b,c,d,e,f,g,up,l,k⟩:=S;dsimp only at h;subst h;simp
theorem Mg{S:aD}(h:0≤b∧b<S.g.bl∧0≤p∧p<S.g.pg):S.oG b p=true:=by
 unfold oG block;simp;omega
theorem CB{S:aD}(h:0≤b∧b<S.g.bl):S.block b=true:=by
 unfold block;simp;omega
theorem Cg{S:aD}(hu:S.up=true)(h:0≤b∧b<S.g.bl∧0≤p∧p<S.g.pg)(hm:S.marked b=false):S.ahead b p true=0:=by simp_all [ahead,bad,if_neg,Bool.and_false]
theorem aa1{S:aD}(hg:S.g.aU)(h8:aA 256 d)(hl:d.length=S.room):((bH (fF S.g d)).length:Int)=S.raw:=by
 have a:=zS.of (bl:=S.g.bl) (pg:=S.g.pg) (by rw[←lS hg];exact hg);unfold fF bH;rw[length_map,Ch a.t h8 hl];exact (bQ.uZ hg).symm
theorem Pf{S:aD}(hu:S.up=true)(h:0≤b∧b<S.g.bl∧0≤p∧p<S.g.pg)(hm:S.marked b=false)(hl:d.length=S.room):S.dK b p d=done b (S.program b p (bH (fF S.g d))):=by
 have e:decide (d.length=S.room)=true:=decide_eq_true hl;unfold dK;rw[e,if_neg (by rw[Cg hu h hm];decide)]
theorem DZ{S:aD}(hp:S.aX (b,p)=some (bH xs))(hw:S.bM (b,p)=none):S.kI b p=xs:=by
 unfold kI reads;rw[hp,hw];exact sG xs
theorem TQ{S:aD}(hg:S.g.aU)(hu:S.up=true)(h:0≤b∧b<S.g.bl∧0≤p∧p<S.g.pg)(hm:S.marked b=false)(h8:aA 256 d)(hl:d.length=S.room)(hp:S.aX (b,p)=some (bH (fF S.g d)))(hw:S.bM (b,p)=none) :
 S.bY b p=⟨0,d,0⟩:=by
 have a:=zS.of (bl:=S.g.bl) (pg:=S.g.pg) (by rw[←lS hg];exact hg);unfold bY;rw[if_neg (by rw[Cg hu h hm];decide),DZ hp hw];unfold fF;rw[Yk a.t h8 hl];rfl
theorem XG{raw:List Nat}(h:raw.getD (S*n) 0=255):jf t S n raw=60∨jf t S n raw=61:=by
 unfold jf;rw[h,if_neg aN,if_neg (λh=>h Z)];split
 ·exact .inl Z
 ·exact .inr Z
end aD
theorem WC.scope(hQ:∀M l e H,Q M (.goto l) e H→False)(h:WC ⟨none,ds⟩ P K n c Q e H):WC ⟨none,ds⟩ P K n (.scope c) Q e H:=λa w d k =>
 wp_scope_straight (wp_mono (h a w d k) (λx a w b=>by
  cases x<;>first | exact b | (obtain⟨_,_,_,_,_,j⟩:=b;exact hQ _ _ _ _ j)))
def Vh(slot seg:Int):Bool:=(decide (slot=0)||decide (slot=1))&&decide (-1≤seg)&&decide (seg≤3)
def kZ(slot seg:Int):Int×Int:=if Vh slot seg then (2+5*slot+seg,0) else (0,1)
theorem xR(slot seg:Int)(K:World)(F:List aH):aK prog 23 #[.i slot,.i seg] K F (.tuple #[.i (kZ slot seg).1,.i (kZ slot seg).2]):=by
 obtain⟨X,a⟩:∃X,X=kZ slot seg:=⟨_,Z⟩;rw[←a];unfold kZ Vh at a;refine aB.en func23 ntmps23 ?_;refine aj "alfub!~~~tS%~,I%~~~FIh" (aW (λaL=> ?_) λaL=> ?_)
 ·simp only[Bool.or_eq_true,Bool.or_eq_false_iff,Gi,Bool.not_eq_true',Bool.not_eq_false'] at aL;rw[if_neg (by simp;omega)] at a;refine aj "aF" ?_;subst a;exact aF.ret (H':=F) (bJ.eU Z Z Z) eO ⟨Z,Z⟩
 ·simp only[Bool.or_eq_true,Bool.or_eq_false_iff,Gi,Bool.not_eq_true',Bool.not_eq_false'] at aL;rw[if_pos (by simp;omega)] at a;refine aj "T~EZZbZF" ?_;subst a;refine aF.ret (H':=F) (bJ.eU Z Z Z) eO ⟨?_,Z⟩;dsimp only;rw[show (1+slot*5+1+seg:Int)=2+5*slot+seg by omega]
def lK(S:aD)(T:St):aY×Int×St :=
 if (dZ S T 0).1.err=70 then (aY.zero,70,(dZ S T 0).2)
 else if (dZ S T 0).1.err=0∧(aY.parse (bH (dZ S T 0).1.d)).2=0 then ((aY.parse (bH (dZ S T 0).1.d)).1,0,(dZ S T 0).2)
 else (aY.zero,0,(dZ S T 0).2)
theorem Cw.Ok.wT{C:Cw}(hC:C.Ok)(b:Int)(n0:Nat):∀k,aA 256 (iA C.aC b n0 k).d
 | 0=>λy hy=>by cases hy
 | k+1=>by
  rw[iA];split
  ·exact hC.wT b n0 k
  ·split
   ·exact λy hy=>by cases hy
   ·exact (hC.wT b n0 k).append (hC.rQ _ _).1
theorem Cw.Ok.yj{C:Cw}(hC:C.Ok)(T:St)(aS:Int):aA 256 (dZ C.aC T aS).1.d:=by
 unfold dZ;repeat (split;exact λy a=>by cases a)
 exact (hC.wT _ _ _).take
theorem vB{T:bZ}{C:Cw}(hC:C.Ok)(hg:C.g=g)(hT:T.Ok g)(hl:11≤(T.stands.length:Int)):aB prog 24 #[ptr bs 0] K (C.A bc::dA bd bc g::T.A bs bd g::F)
 (λv H'=>∃T':bZ,T'.Ok g∧T'.aC=(lK C.aC T.aC).2.2∧v= .tuple #[(lK C.aC T.aC).1.v,.i (lK C.aC T.aC).2.1]∧H'=C.A bc::dA bd bc g::T'.A bs bd g::F):=by
 obtain⟨X,a⟩:∃X,X=lK C.aC T.aC:=⟨_,Z⟩;rw[←a];unfold lK at a;have nS:=hC.yj T.aC 0;refine aB.en func24 ntmps24 ?_;refine aj "av" λx=> ?_;refine aj "tse~bo~Ie" ?_;refine WL.sub (Sub.refl _) (λw h=>h.bg 4 [3,1,2,0] Z)<|WL.c1 call87 Z (Ut) Z ?_;rintro _ _ ⟨rfl,rfl⟩;refine WL.sub (Sub.refl _) (λw h=>h.bg 4 [1,2,0,3] Z)<|aj "Po~&T" ?_;refine WL.c2 call26 Z Z (AA hC hg hT 0) Z ?_;rintro _ _ ⟨u,c1,d,oZ,t1,rfl,rfl⟩;obtain⟨R,l⟩:∃R,R=dZ C.aC T.aC 0:=⟨_,Z⟩;rw[←l] at t1 a nS ⊢;refine aj "5~Mllf;h" (aW (λb=> ?_) λb=> ?_)
 ·simp only[iC] at b;rw[if_pos b] at a;refine aj "a^bCd" ?_;subst a;refine aF.ret (H':=C.A bc::dA bd bc g::d.A bs bd g::F) (rA Z Z ⟨isAgg58,sizeOf58⟩ Z) (λw h=>h.bg 5 [1,2,3] Z) ⟨d,oZ,t1,by rw[b];rfl,Z⟩
 ·simp only[iC] at b;rw[if_neg b] at a;refine aj "qr" ?_;refine WL.t1 call88 Z (Ot (xs:=bH R.1.d) (kR nS) _ _ (by rw[←jX];exact aV.seq (by rw[au,Nat.mul_one]))) Z<|aj "5v" λr=> ?_;refine aj "Ci;b!~SSh" (aW (λj=> ?_) λj=> ?_)
  ·simp only[iC] at j;rw[if_pos j] at a;refine aj "ayCd" ?_;subst a;refine aF.ret (H':=C.A bc::dA bd bc g::d.A bs bd g::F) (rA Z Z ⟨isAgg58,sizeOf58⟩ Z) (λw h=>h.bg 6 [2,3,4] Z) ⟨d,oZ,t1,Z,Z⟩
  ·simp only[iC] at j;rw[if_neg ay] at a;refine aj "7" ?_;refine WL.call (vs:=[]) call89 trivial (OW _ _) Z ?_;rintro _ k ⟨rfl,m⟩;subst k;refine aj "Cd" ?_;subst a;refine aF.ret (H':=C.A bc::dA bd bc g::d.A bs bd g::F) (rA Z Z ⟨isAgg58,sizeOf58⟩ Z) (λw h=>h.bg 6 [2,3,4] Z) ⟨d,oZ,t1,Z,Z⟩
abbrev bU(s:aY):List Nat:=iB s.bytes
theorem aaP(S:aD)(T:St):(lK S T).1.ok=true:=by
 unfold lK;split
 ·rfl
 ·split
  ·rename_i h;have b:=h.2;unfold aY.parse at b ⊢;split at b
   ·rename_i a;rw[if_pos a];unfold aY.dW at a;simp only[Bool.and_eq_true] at a;exact a.1.2
   ·cases b
  ·rfl
theorem Ld{T:bZ}{C:Cw}(hC:C.Ok)(hg:C.g=g)(hT:T.Ok g)(hx:x.ok=true)(qZ:∀l∈T.aC.cu,l.length≤1000000):aB prog 69 #[ptr bs 0,x.v] K (C.A bc::dA bd bc g::T.A bs bd g::F)
 (λv H'=>∃(C':Cw) (T':bZ),C'.Ok∧C'.g=g∧T'.Ok g∧C'.aC=(bq C.aC T.aC 0 (bU x)).1∧T'.aC=(bq C.aC T.aC 0 (bU x)).2.1∧v= .i (bq C.aC T.aC 0 (bU x)).2.2∧H'=C'.A bc::dA bd bc g::T'.A bs bd g::F):=by
 have j:=aY.gJ hx;have u:(bU x).length=9:=by unfold bU;rw[gZ,aY.fC hx]
 obtain⟨X,k⟩:∃X,X=bq C.aC T.aC 0 (bU x):=⟨_,Z⟩;rw[←k];refine aB.en func69 ntmps69 ?_;refine aj "a&" λy=> ?_;refine aj "wy" ?_;refine WL.c1 call131 Z (EP x _ _) Z ?_;rintro _ _ (⟨_,B,rfl,rfl⟩ | ⟨uN,rfl,rfl⟩)
 rotate_left
 ·rw[hx] at uN;cases uN
 refine aj "Hfu2Tb" ?_;refine WL.sub (Sub.refl _) (λw h=>h.bg 5 [2,3,4,0] Z)<|WL.c3 call16 Z Z Z (Da hC hg hT (aS:=0) (d:=bU x) (by rw[show av .u8 (bU x)=ints .u8 x.bytes by unfold bU;rw[mJ j]];exact Seq.allI (aY.fC hx)) (iP j) aN aN qZ) Z ?_;rintro _ _ ⟨a,b,RP,r,oZ,m,t1,rfl,rfl⟩;rw[←k] at m t1 ⊢;refine aj "d" ?_;exact qR (a.A bc::dA bd bc g::b.A bs bd g::F) Z Z (λw h=>h.bg 4 [0,1,2] Z) ⟨a,b,RP,r,oZ,m,t1,Z,Z⟩
theorem zG(s:aY)(K:World)(F:List aH):aK prog 25 #[s.v] K F (.bool s.ok):=by
 obtain⟨f,b,h,t1,a⟩:=s;dsimp only[aY.v];refine aB.en func25 ntmps25 ?_;refine aj "a&" λd=> ?_;refine aj "taos~@rPc3YX~GkP%_~~~k~!@~jIh" (aW (λaQ=> ?_) λaQ=> ?_)
 ·try simp only[Gd] at aQ
  refine aj "D:" ?_;congr 1;rw[Bool.eq_iff_iff];simp[aY.ok];omega
 ·try simp only[Gd] at aQ
  refine aj "qg~TfPc3YX~GkP%_~~~k~!@~jIh" (aW (λvY=> ?_) λvY=> ?_)
  ·try simp only[Gd] at vY
   refine aj "D:" ?_;congr 1;rw[Bool.eq_iff_iff];simp[aY.ok];omega
  ·try simp only[Gd] at vY
   refine aj "qg~wfP2Kak;b_@~~$Id:" ?_;congr 1;rw[Bool.eq_iff_iff];simp[aY.ok];omega
theorem xW(s:aY)(jh:s.ok=true)(K:World)(F:List aH):aB prog 109 #[s.v] K F (λv H'=>∃A cap,v= .slice A 9 cap∧H'=aV (.slice A 9 cap) 5 1 9 (ints .u8 s.bytes)::F):=by
 obtain⟨f,k,l,t1,j⟩:=s;have hs:=aY.lJ jh;dsimp only at hs;dsimp only[aY.v];refine aB.en func109 ntmps109 ?_;refine aj "a&" λx=> ?_;refine aj "w" ?_;refine WL.buildSlice (E:=5) (cs:=[_,_,_,_]) (vs:=[(0,_),(1,_),(2,_),(3,_)]) ⟨ak Z,ak Z,ak Z,ak Z,trivial⟩ Z (fJ _ _ _ _) Z (λy=>aj "~~kik~m" ?_);refine WL.buildSlice (E:=5) (cs:=[_]) (vs:=[(0,_)]) ⟨ak Z,trivial⟩ Z (jc _) Z (λm=>WL.D7 underlying34 yL (ak Z) (ak Z) (by repeat (first | exact Seq.agX Z | apply Seq.up)) (by repeat (first | exact Seq.all Z | apply Seq.up)) ay ay ay ay Z Z (λu r akh Xd=>aj "taos~@rPc3EafX~Gkh" (aW (λaQ=> ?_) λaQ=> ?_)))
 ·try simp only[iC] at aQ
  refine aj "pObX~Gk~mb" ?_;refine WL.buildSlice (E:=5) (cs:=[_,_]) (vs:=[(0,_),(1,_)]) ⟨ak Z,ak Z,trivial⟩ Z (mG _ _) Z (λd=>aj "?" ?_);refine WL.append underlying34 yL (ak Z) (ak Z) (by repeat (first | exact Seq.all Z | apply Seq.up)) (by simp[Value.oneCell']) (by first | omega | (simp;omega)) Z Z (λb a YW Zh=>aj "O~TfPc3EafX~Gkh" (aW (λvY=> ?_) λvY=> ?_))
  ·try simp only[iC] at vY
   refine aj "pObX~Gk~mb" ?_;refine WL.buildSlice (E:=5) (cs:=[_,_]) (vs:=[(0,_),(1,_)]) ⟨ak Z,ak Z,trivial⟩ Z (mG _ _) Z (λd=>aj "?" ?_);refine WL.append underlying34 yL (ak Z) (ak Z) (by repeat (first | exact Seq.all Z | apply Seq.up)) (by simp[Value.oneCell']) (by first | omega | (simp;omega)) Z Z (λb a YW Zh=>aj "O~wfP2Ked" ?_);refine qR (aV _ 5 1 9 (ints .u8 (aY.mk f k l t1 j).bytes)::F) Z Z (λw h=> ?_) ⟨_,_,Z,Z⟩;refine Sat.wm (by revert h;exact λh=>by repeat (first | exact h | replace h:=h.oJ)) ?_;rw[wrap_u8 ay,wrap_u8 ay,wrap_u8 ay];unfold aY.bytes;rw[if_pos jh];simp[ints,aY.Zf, *]
  ·try simp only[iC] at vY
   refine aj "qgbX~Gk~mb" ?_;refine WL.buildSlice (E:=5) (cs:=[_,_]) (vs:=[(0,_),(1,_)]) ⟨ak Z,ak Z,trivial⟩ Z (mG _ _) Z (λd=>aj "?" ?_);refine WL.append underlying34 yL (ak Z) (ak Z) (by repeat (first | exact Seq.all Z | apply Seq.up)) (by simp[Value.oneCell']) (by first | omega | (simp;omega)) Z Z (λb a YW Zh=>aj "O~wfP2Ked" ?_);refine qR (aV _ 5 1 9 (ints .u8 (aY.mk f k l t1 j).bytes)::F) Z Z (λw h=> ?_) ⟨_,_,Z,Z⟩;refine Sat.wm (by revert h;exact λh=>by repeat (first | exact h | replace h:=h.oJ)) ?_;rw[wrap_u8 ay,wrap_u8 ay,wrap_u8 ay];unfold aY.bytes;rw[if_pos jh];simp[ints,aY.Zf, *]
 ·try simp only[iC] at aQ
  refine aj "qgbX~Gk~mb" ?_;refine WL.buildSlice (E:=5) (cs:=[_,_]) (vs:=[(0,_),(1,_)]) ⟨ak Z,ak Z,trivial⟩ Z (mG _ _) Z (λd=>aj "?" ?_);refine WL.append underlying34 yL (ak Z) (ak Z) (by repeat (first | exact Seq.all Z | apply Seq.up)) (by simp[Value.oneCell']) (by first | omega | (simp;omega)) Z Z (λb a YW Zh=>aj "O~TfPc3EafX~Gkh" (aW (λvY=> ?_) λvY=> ?_))
  ·try simp only[iC] at vY
   refine aj "pObX~Gk~mb" ?_;refine WL.buildSlice (E:=5) (cs:=[_,_]) (vs:=[(0,_),(1,_)]) ⟨ak Z,ak Z,trivial⟩ Z (mG _ _) Z (λd=>aj "?" ?_);refine WL.append underlying34 yL (ak Z) (ak Z) (by repeat (first | exact Seq.all Z | apply Seq.up)) (by simp[Value.oneCell']) (by first | omega | (simp;omega)) Z Z (λb a YW Zh=>aj "O~wfP2Ked" ?_);refine qR (aV _ 5 1 9 (ints .u8 (aY.mk f k l t1 j).bytes)::F) Z Z (λw h=> ?_) ⟨_,_,Z,Z⟩;refine Sat.wm (by revert h;exact λh=>by repeat (first | exact h | replace h:=h.oJ)) ?_;rw[wrap_u8 ay,wrap_u8 ay,wrap_u8 ay];unfold aY.bytes;rw[if_pos jh];simp[ints,aY.Zf, *]
  ·try simp only[iC] at vY
   refine aj "qgbX~Gk~mb" ?_;refine WL.buildSlice (E:=5) (cs:=[_,_]) (vs:=[(0,_),(1,_)]) ⟨ak Z,ak Z,trivial⟩ Z (mG _ _) Z (λd=>aj "?" ?_);refine WL.append underlying34 yL (ak Z) (ak Z) (by repeat (first | exact Seq.all Z | apply Seq.up)) (by simp[Value.oneCell']) (by first | omega | (simp;omega)) Z Z (λb a YW Zh=>aj "O~wfP2Ked" ?_);refine qR (aV _ 5 1 9 (ints .u8 (aY.mk f k l t1 j).bytes)::F) Z Z (λw h=> ?_) ⟨_,_,Z,Z⟩;refine Sat.wm (by revert h;exact λh=>by repeat (first | exact h | replace h:=h.oJ)) ?_;rw[wrap_u8 ay,wrap_u8 ay,wrap_u8 ay];unfold aY.bytes;rw[if_pos jh];simp[ints,aY.Zf, *]
theorem aY.Wh{s:aY}(h:(s.ok=false∨slot<0)∨1<slot):s.Ol slot=1:=by unfold aY.Ol;grind
theorem aY.GZ{s:aY}(h1:s.ok=true)(h2:slot=0∨slot=1):s.Ol slot=0:=by simp_all [aY.Ol,if_pos]
theorem ae3(s:aY)(slot:Int)(K:World)(F:List aH):aK prog 113 #[s.v,.i slot] K F (.tuple #[(s.install slot).1.v,.i (s.install slot).2]):=by
 refine aB.en func113 ntmps113 ?_;refine aj "a&" λb=> ?_;refine aj "v" λd=> ?_;refine aj "tay" ?_;refine WL.t1 call25 Z (zG s _ _) Z<|aj "9%~,I%~jI%_@" ?_;refine WL.bI (oj:=_) Z Z Z GC.f (V.eql (OV.g Z id) (OV.g Z id)) Z<|aj "Ih" (aW (λaL=> ?_) λaL=> ?_)
 ·simp only[iC] at aL;have a:s.install slot=(aY.zero,1):=by unfold aY.install;rw[if_pos];exact aL.imp (λh=>by rw[aY.Wh h];decide) id
  refine aj "a^Cd" ?_;refine aF.ret (H':=F) (rA Z Z ⟨isAgg58,sizeOf58⟩ Z) eO ⟨?_,Z⟩;rw[a];rfl
 ·simp only[iC] at aL;have jh:=aL.1.1.1;have mR:slot=0∨slot=1:=ay;have a:s.install slot=(s.put slot slot 7 false,0):=by unfold aY.install;rw[if_neg];rintro (h | h);exact h (aY.GZ jh mR);exact aL.2 h
  clear aL;rcases mR with rfl | rfl
  all_goals
   refine aj "TX~Zce" ?_;refine WL.val (V.build (vs:=[(0,_)]) ⟨ak Z,trivial⟩ Z (ah5 _)) Z (aj "X~G~~dQyCd" ?_);refine aF.ret (H':=F) (rA Z Z ⟨isAgg58,sizeOf58⟩ Z) eO ⟨?_,Z⟩;rw[a];rfl
theorem Es(hx:bF xs)(K:World)(F:List aH)(hs:Seq K F A m 1 (ints .u8 xs))(jh:(aY.of xs).ok=true) :
 aK prog 108 #[.slice A m cap] K F (.tuple #[(aY.parse xs).1.v,.bool (aY.dW xs)]):=by
 have l:xs.length=m:=by simpa [ints] using hs.len
 refine aB.en func108 ntmps108 ?_;refine aj "av" λr=> ?_;refine aj "wv" λk=> ?_;refine aj "crjuh" (aW (λaL=> ?_) λaL=> ?_)
 ·simp only[iC] at aL;refine aj "ayCd" ?_;refine aF.ret (H':=F) (rA Z Z ⟨isAgg58,sizeOf58⟩ Z) eO ⟨?_,Z⟩;have b:aY.dW xs=false:=by simp[aY.dW];omega
  unfold aY.parse;rw[if_neg (by simp[b]),b];rfl
 ·simp only[iC] at aL;obtain rfl:m=9:=by omega
  refine aj "T" ?_;refine WL.val (V.dw dO (ak Z) (ak Z) Jy (λa=>by repeat (first | exact Seq.dD hs (by first | omega | (simp at a;omega)) | apply Rd.up))) Z<|WL.val (V.load isAgg5 (ak Z) (λa=>by repeat (first | exact Seq.dD hs (by first | omega | (simp at a;omega)) | apply Rd.up))) Z<|WL.val (V.uy runUnderlying5 runUnderlying3 (ak Z) (λ_=>wrap_i64 (bF.wide hx _))) Z<|aj "X~ZGaos~@rPc3E" ?_;refine WC.dM F (by kernel_rfl)<|aj "n0n1n2~~83" ?_;refine WA.t 4 Z (V.aG (v':= .i (5)) (V.add (ak Z) (ak Z)) (λ_=>Z)) ?_;refine WA.t 5 Z (V.dw dO (ak Z) (ak Z) Jy (λa=>by repeat (first | exact Seq.dD hs (by first | omega | (simp at a;omega)) | apply Rd.up))) ?_;refine WA.t 6 Z (V.load isAgg5 (ak Z) (λa=>by repeat (first | exact Seq.dD hs (by first | omega | (simp at a;omega)) | apply Rd.up))) ?_;refine WA.t 7 Z (V.uy runUnderlying5 runUnderlying3 (ak Z) (λ_=>wrap_i64 (bF.wide hx _))) ?_;refine aj "n8n9~~8:" ?_;refine WA.t 11 Z (V.aG (v':= .i (6)) (V.add (ak Z) (ak Z)) (λ_=>Z)) ?_;refine WA.t 12 Z (V.dw dO (ak Z) (ak Z) Jy (λa=>by repeat (first | exact Seq.dD hs (by first | omega | (simp at a;omega)) | apply Rd.up))) ?_;refine WA.t 13 Z (V.load isAgg5 (ak Z) (λa=>by repeat (first | exact Seq.dD hs (by first | omega | (simp at a;omega)) | apply Rd.up))) ?_;refine aj "~~C>" ?_;refine WA.t 15 Z (V.build (vs:=[(0,_),(1,_)]) ⟨ak Z,ak Z,trivial⟩ Z (qj _ _)) ?_;refine aj "4@~~BAmB~~d*g~TfPc3E" ?_;refine WC.dM F (by kernel_rfl)<|aj "n0n1n2~~93" ?_;refine WA.t 4 Z (V.aG (v':= .i (7)) (V.add (ak Z) (ak Z)) (λ_=>Z)) ?_;refine WA.t 5 Z (V.dw dO (ak Z) (ak Z) Jy (λa=>by repeat (first | exact Seq.dD hs (by first | omega | (simp at a;omega)) | apply Rd.up))) ?_;refine WA.t 6 Z (V.load isAgg5 (ak Z) (λa=>by repeat (first | exact Seq.dD hs (by first | omega | (simp at a;omega)) | apply Rd.up))) ?_;refine WA.t 7 Z (V.uy runUnderlying5 runUnderlying3 (ak Z) (λ_=>wrap_i64 (bF.wide hx _))) ?_;refine aj "n8n9~~9:" ?_;refine WA.t 11 Z (V.aG (v':= .i (8)) (V.add (ak Z) (ak Z)) (λ_=>Z)) ?_;refine WA.t 12 Z (V.dw dO (ak Z) (ak Z) Jy (λa=>by repeat (first | exact Seq.dD hs (by first | omega | (simp at a;omega)) | apply Rd.up))) ?_;refine WA.t 13 Z (V.load isAgg5 (ak Z) (λa=>by repeat (first | exact Seq.dD hs (by first | omega | (simp at a;omega)) | apply Rd.up))) ?_;refine aj "~~C>" ?_;refine WA.t 15 Z (V.build (vs:=[(0,_),(1,_)]) ⟨ak Z,ak Z,trivial⟩ Z (qj _ _)) ?_;refine aj "4@~~BAmB~~d*g~wfP2WL~X~)0m1" ?_;refine WL.t1 call25 Z ((by have :=zG (aY.of xs) K;rw[jh] at this;exact this _)) Z<|WL.nil (WA.t 2 Z (V.not (ak Z)) ?_);refine aj "n3" ?_;refine WA.tK 4 Z Z Z Z Z (V.fE (vs:=[_,_,_,_,_]) ⟨isAgg58,sizeOf58⟩ (ak Z) Z (λ_=>tN)) ?_;refine WA.tK 7 Z Z Z Z Z (V.move (ak Z)) ?_;refine WA.two (i:=5) (j:=8) cO (by kernel_rfl) Z Z ?_ ?_
  ·refine aj "~O" ?_;refine WL.c1 call109 Z (xW (aY.of xs) jh _ _) Z ?_;rintro _ _ ⟨h,d,rfl,rfl⟩;refine WL.nil<|WA.two (i:=6) (j:=8) eO (by kernel_rfl) Z Z ?_ ?_
   ·refine aj "~O" ?_;refine WL.val (V.iM underlying34 underlying5 underlying9 (ak Z) (λa=>aV.seq (cs:=ints .u8 (aY.of xs).bytes) (by simp[ints,aY.fC jh]))) Z<|aj "cm8~O" ?_;refine WL.val (V.iM underlying34 underlying5 underlying9 (ak Z) (λa=>by repeat (first | exact hs | apply Seq.up))) Z<|aj "c~~~l~~~m:~rJ" (aW (λbA=> ?_) λbA=> ?_)
    ·rw[sZ (aY.gJ jh) hx] at bA;simp at bA;refine aj "a^Cd" ?_;refine aF.ret (H':=F) (rA Z Z ⟨isAgg58,sizeOf58⟩ Z) eO ⟨?_,Z⟩;have b:aY.dW xs=false:=by simp[aY.dW, *]
     unfold aY.parse;rw[if_neg (by simp[b]),b];rfl
    ·rw[sZ (aY.gJ jh) hx] at bA;simp at bA;refine aj "7yCd" ?_;refine aF.ret (H':=F) (rA Z Z ⟨isAgg58,sizeOf58⟩ Z) eO ⟨?_,Z⟩;have b:aY.dW xs=true:=by simp[aY.dW, *]
     unfold aY.parse;rw[if_pos b,b];rfl
   ·refine aj "~O" ?_;refine WL.val (V.iM underlying34 underlying5 underlying9 (ak Z) (λa=>by repeat (first | exact hs | apply Seq.up))) Z<|aj "cm6~O" ?_;refine WL.val (V.iM underlying34 underlying5 underlying9 (ak Z) (λa=>aV.seq (cs:=ints .u8 (aY.of xs).bytes) (by simp[ints,aY.fC jh]))) Z<|aj "c~~~l~~~m:~rJ" (aW (λmV=> ?_) λmV=> ?_)
    ·rw[sZ (aY.gJ jh) hx] at mV;simp at mV;refine aj "a^Cd" ?_;refine aF.ret (H':=F) (rA Z Z ⟨isAgg58,sizeOf58⟩ Z) eO ⟨?_,Z⟩;have b:aY.dW xs=false:=by simp[aY.dW, *]
     unfold aY.parse;rw[if_neg (by simp[b]),b];rfl
    ·rw[sZ (aY.gJ jh) hx] at mV;simp at mV;refine aj "7yCd" ?_;refine aF.ret (H':=F) (rA Z Z ⟨isAgg58,sizeOf58⟩ Z) eO ⟨?_,Z⟩;have b:aY.dW xs=true:=by simp[aY.dW, *]
     unfold aY.parse;rw[if_pos b,b];rfl
  ·refine aj "~O" ?_;refine WL.val (V.iM underlying34 underlying5 underlying9 (ak Z) (λa=>by repeat (first | exact hs | apply Seq.up))) Z<|aj "cm5~O" ?_;refine WL.c1 call109 Z (xW (aY.of xs) jh _ _) Z ?_;rintro _ _ ⟨h,d,rfl,rfl⟩;refine aj "cm6~O" ?_;refine WL.val (V.iM underlying34 underlying5 underlying9 (ak Z) (λa=>aV.seq (cs:=ints .u8 (aY.of xs).bytes) (by simp[ints,aY.fC jh]))) Z<|aj "c~~~l~~~m:~rJ" (aW (λO6=> ?_) λO6=> ?_)
   ·rw[sZ (aY.gJ jh) hx] at O6;simp at O6;refine aj "a^Cd" ?_;refine aF.ret (H':=F) (rA Z Z ⟨isAgg58,sizeOf58⟩ Z) eO ⟨?_,Z⟩;have b:aY.dW xs=false:=by simp[aY.dW, *]
    unfold aY.parse;rw[if_neg (by simp[b]),b];rfl
   ·rw[sZ (aY.gJ jh) hx] at O6;simp at O6;refine aj "7yCd" ?_;refine aF.ret (H':=F) (rA Z Z ⟨isAgg58,sizeOf58⟩ Z) eO ⟨?_,Z⟩;have b:aY.dW xs=true:=by simp[aY.dW, *]
    unfold aY.parse;rw[if_pos b,b];rfl
theorem F3(hx:bF xs)(K:World)(F:List aH)(hs:Seq K F A m 1 (ints .u8 xs))(jh:(aY.of xs).ok=false) :
 aK prog 108 #[.slice A m cap] K F (.tuple #[(aY.parse xs).1.v,.bool (aY.dW xs)]):=by
 have d:xs.length=m:=by simpa [ints] using hs.len
 have b:aY.dW xs=false:=by simp[aY.dW,jh]
 refine aB.en func108 ntmps108 ?_;refine aj "av" λh=> ?_;refine aj "wv" λj=> ?_;refine aj "crjuh" (aW (λaL=> ?_) λaL=> ?_)
 ·simp only[iC] at aL;refine aj "ayCd" ?_;refine aF.ret (H':=F) (rA Z Z ⟨isAgg58,sizeOf58⟩ Z) eO ⟨?_,Z⟩;unfold aY.parse;rw[if_neg (by simp[b]),b];rfl
 ·simp only[iC] at aL;obtain rfl:m=9:=by omega
  refine aj "T" ?_;refine WL.val (V.dw dO (ak Z) (ak Z) Jy (λa=>by repeat (first | exact Seq.dD hs (by first | omega | (simp at a;omega)) | apply Rd.up))) Z<|WL.val (V.load isAgg5 (ak Z) (λa=>by repeat (first | exact Seq.dD hs (by first | omega | (simp at a;omega)) | apply Rd.up))) Z<|WL.val (V.uy runUnderlying5 runUnderlying3 (ak Z) (λ_=>wrap_i64 (bF.wide hx _))) Z<|aj "X~ZGaos~@rPc3E" ?_;refine WC.dM F (by kernel_rfl)<|aj "n0n1n2~~83" ?_;refine WA.t 4 Z (V.aG (v':= .i (5)) (V.add (ak Z) (ak Z)) (λ_=>Z)) ?_;refine WA.t 5 Z (V.dw dO (ak Z) (ak Z) Jy (λa=>by repeat (first | exact Seq.dD hs (by first | omega | (simp at a;omega)) | apply Rd.up))) ?_;refine WA.t 6 Z (V.load isAgg5 (ak Z) (λa=>by repeat (first | exact Seq.dD hs (by first | omega | (simp at a;omega)) | apply Rd.up))) ?_;refine WA.t 7 Z (V.uy runUnderlying5 runUnderlying3 (ak Z) (λ_=>wrap_i64 (bF.wide hx _))) ?_;refine aj "n8n9~~8:" ?_;refine WA.t 11 Z (V.aG (v':= .i (6)) (V.add (ak Z) (ak Z)) (λ_=>Z)) ?_;refine WA.t 12 Z (V.dw dO (ak Z) (ak Z) Jy (λa=>by repeat (first | exact Seq.dD hs (by first | omega | (simp at a;omega)) | apply Rd.up))) ?_;refine WA.t 13 Z (V.load isAgg5 (ak Z) (λa=>by repeat (first | exact Seq.dD hs (by first | omega | (simp at a;omega)) | apply Rd.up))) ?_;refine aj "~~C>" ?_;refine WA.t 15 Z (V.build (vs:=[(0,_),(1,_)]) ⟨ak Z,ak Z,trivial⟩ Z (qj _ _)) ?_;refine aj "4@~~BAmB~~d*g~TfPc3E" ?_;refine WC.dM F (by kernel_rfl)<|aj "n0n1n2~~93" ?_;refine WA.t 4 Z (V.aG (v':= .i (7)) (V.add (ak Z) (ak Z)) (λ_=>Z)) ?_;refine WA.t 5 Z (V.dw dO (ak Z) (ak Z) Jy (λa=>by repeat (first | exact Seq.dD hs (by first | omega | (simp at a;omega)) | apply Rd.up))) ?_;refine WA.t 6 Z (V.load isAgg5 (ak Z) (λa=>by repeat (first | exact Seq.dD hs (by first | omega | (simp at a;omega)) | apply Rd.up))) ?_;refine WA.t 7 Z (V.uy runUnderlying5 runUnderlying3 (ak Z) (λ_=>wrap_i64 (bF.wide hx _))) ?_;refine aj "n8n9~~9:" ?_;refine WA.t 11 Z (V.aG (v':= .i (8)) (V.add (ak Z) (ak Z)) (λ_=>Z)) ?_;refine WA.t 12 Z (V.dw dO (ak Z) (ak Z) Jy (λa=>by repeat (first | exact Seq.dD hs (by first | omega | (simp at a;omega)) | apply Rd.up))) ?_;refine WA.t 13 Z (V.load isAgg5 (ak Z) (λa=>by repeat (first | exact Seq.dD hs (by first | omega | (simp at a;omega)) | apply Rd.up))) ?_;refine aj "~~C>" ?_;refine WA.t 15 Z (V.build (vs:=[(0,_),(1,_)]) ⟨ak Z,ak Z,trivial⟩ Z (qj _ _)) ?_;refine aj "4@~~BAmB~~d*g~wfP2WL~X~)0m1" ?_;refine WL.t1 call25 Z ((by have :=zG (aY.of xs) K;rw[jh] at this;exact this _)) Z<|WL.nil (WA.t 2 Z (V.not (ak Z)) ?_);refine aj "n3" ?_;refine WA.tF 4 Z Z Z Z Z ?_;refine WA.tF 5 Z Z Z Z Z ?_;refine WA.tF 6 Z Z Z Z Z ?_;refine WA.tF 7 Z Z Z Z Z ?_;refine WA.tF 8 Z Z Z Z Z ?_;refine WA.tF 9 Z Z Z Z Z ?_;refine WA.t 10 Z (V.aas (ak Z) (ak Z)) ?_;refine aj "~r3a^Cd" ?_;refine aF.ret (H':=F) (rA Z Z ⟨isAgg58,sizeOf58⟩ Z) eO ⟨?_,Z⟩;unfold aY.parse;rw[if_neg (by simp[b]),b];rfl
theorem QW(hx:bF xs)(K:World)(F:List aH)(hs:Seq K F A m 1 (ints .u8 xs)) :
 aK prog 108 #[.slice A m cap] K F (.tuple #[(aY.parse xs).1.v,.bool (aY.dW xs)]):=by
 cases jh:(aY.of xs).ok with
 | true=>exact Es hx K F hs jh
 | false=>exact F3 hx K F hs jh
theorem Pt:∀ {l m:List Nat},l.Nodup→(∀x∈l,x∈m)→l.length≤m.length
 | [],m,_,_=>zero_le _
 | a::l,m,hn,hs=>by
  have pq:=nodup_cons.1 hn;have b:=hs a (.head _);have j:=Pt (l:=l) (m:=m.erase a) pq.2 (λx d=>(mem_erase_of_ne (λh:x=a=>pq.1 (by rw[←h];exact d))).2 (hs x (.tail _ d)));rw[length_erase_of_mem b] at j;have k:0<m.length:=length_pos_of_mem b;rw[length_cons];omega
def bQ.kX(g:bQ):Nat:=g.sb.toNat+aR g.fl.toNat
namespace aD
def Zr(S:aD)(k:Int×Int):Prop:=S.bM k=none
theorem Pk{g:bQ}(hg:g.aU):g.raw=((g.se.toNat*g.kX+1:Nat):Int):=bQ.uZ hg
theorem KU{S:aD}(hg:S.g.aU)(hu:S.up=true)(h:0≤b∧b<S.g.bl∧0≤p∧p<S.g.pg)(hm:S.marked b=false)(h8:aA 256 d)(hl:d.length=S.room)
 (hp:S.aX (b,p)=some (bH (fF S.g d))) (hw:S.Zr (b,p)):∃N:Nat,(S.bM (b,p)=none→N=0)∧S.bY b p=⟨0,d,N⟩∧S.oW b p=0:=by
 have a:=zS.of (bl:=S.g.bl) (pg:=S.g.pg) (by rw[←lS hg];exact hg);refine⟨0,λ_=>Z,TQ hg hu h hm h8 hl hp hw, ?_⟩;unfold oW;rw[DZ hp hw];exact Fv a.t h8 hl
def zL(S:aD)(k:Int×Int):Prop:=∀xs,S.aX k=some xs→∃ys,xs=bH ys∧ys.getD (S.g.se.toNat*S.g.kX) 0=255
theorem Jt{S:aD}(hg:S.g.aU)(ht:S.zL (b,p))(hw:S.Zr (b,p)):S.oW b p≠0:=by
 have d:∀a:List Nat,a.getD (S.g.se.toNat*S.g.kX) 0=255→jf S.g.fl.toNat S.g.se.toNat (S.g.sb.toNat+aR S.g.fl.toNat) a≠0:=λa j=>by
  rcases XG (t:=S.g.fl.toNat) (S:=S.g.se.toNat) (n:=S.g.sb.toNat+aR S.g.fl.toNat) j with h | h<;>rw[h]<;>decide
 cases hp:S.aX (b,p) with
 | some xs =>
  obtain⟨a,rfl,j⟩:=ht xs hp;unfold oW;rw[DZ hp hw];exact d a j
 | none =>
  have k:S.reads b p=replicate S.g.raw.toNat 255:=by
   unfold reads;rw[hp,show S.bM (b,p)=none from hw];rfl
  unfold oW kI;rw[k];refine d _ ?_;unfold iB;rw[map_replicate,Pk hg,Int.toNat_natCast];simp[getD,getElem?_replicate]
theorem Uv{S:aD}(hg:S.g.aU)(ht:S.zL (b,p))(hw:S.Zr (b,p)):(S.bY b p).err≠0:=by
 have a:=Jt hg ht hw;unfold oW at a;unfold bY;split
 ·rename_i h;exact h
 ·show ((gK _ _ _ _).err:Int)≠0;unfold gK;rw[if_pos a];show ((jf _ _ _ _:Nat):Int)≠0;omega
end aD
end Go.Proofs.YtcedojacbhnbiaaGreat
