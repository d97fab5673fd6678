import Derived.Test.YtcedojacbhnbiaaGreatP5
import Derived.Test.YtcedojacbhnbiaaGreatP3
set_option autoImplicit true
set_option linter.all false
set_option maxHeartbeats 2000000
set_option maxRecDepth 20000
set_option relaxedAutoImplicit true
namespace Go.Proofs.YtcedojacbhnbiaaGreat
open Go.Sl Go.RowKit Tryz List Nat
structure Hd where
 (aS len num:Int)
 deriving DecidableEq
abbrev Hd.v(h:Hd):Value:= .agg #[.i h.aS,.i h.len,.i h.num]
def bQ.cap(g:bQ):Int:=(g.pg-1)*g.room
def bQ.bN(g:bQ)(n:Int):Int:=(n+g.room-1)/g.room
def bQ.fits(g:bQ)(n:Int):Bool:=decide (0≤n)&&decide (n≤g.cap)
def Hd.may(g:bQ)(h:Hd):Bool:=g.fits h.len&&decide (0≤h.aS)&&decide (h.aS<64)&&decide (1≤h.num)&&decide (h.num≤1000000000)
def MN(n:Int):List Nat:=[n.toNat%256,n.toNat/256%256,n.toNat/65536%256,n.toNat/16777216%256]
def jP(g:bQ)(h:Hd):List Nat:=[99,97,115,101]++MN h.aS++MN h.len++MN h.num++replicate (g.room.toNat-16) 0
def AB(d:List Nat)(i:Nat):Int:=((d.getD i 0+256*d.getD (i+1) 0+65536*d.getD (i+2) 0+16777216*d.getD (i+3) 0:Nat):Int)
def DN(d:List Nat):Hd:=⟨AB d 4,AB d 8,AB d 12⟩
def jr(g:bQ)(d:List Nat):Option Hd:=if (DN d).may g&&decide (jP g (DN d)=d) then some (DN d) else none
theorem DF(n:Int):aA 256 (MN n):=λx a=>by
 unfold MN at a;simp only[mem_cons,not_mem_nil,or_false] at a;rcases a with rfl | rfl | rfl | rfl<;>exact mod_lt _ aN
theorem yN(g:bQ)(h:Hd):aA 256 (jP g h):=by
 unfold jP;refine aA.append (aA.append (aA.append (aA.append ?_ (DF _)) (DF _)) (DF _)) (aA.wJ aN);intro x a;simp only[mem_cons,not_mem_nil,or_false] at a;omega
theorem pQ(hg:g.aU)(h:Hd):(jP g h).length=g.room.toNat:=by
 unfold jP MN;unfold bQ.aU at hg;simp only[length_append,length_cons,length_nil,length_replicate];have :16≤g.room:=by unfold bQ.room;omega
 omega
theorem bQ.kP{g:bQ}(hg:g.aU):16≤g.room∧g.room≤4096:=by
 unfold bQ.aU at hg;have :=bQ.Bd (a:=g.se) (b:=g.sb) (A:=8) (B:=512) ay ay ay ay;unfold bQ.room;omega
theorem bQ.vL{g:bQ}(hg:g.aU):16≤g.cap∧g.cap≤258048:=by
 have d:=bQ.kP hg;unfold bQ.aU at hg;have h:=bQ.Bd (a:=g.pg-1) (b:=g.room) (A:=63) (B:=4096) ay ay ay ay;have e:1*g.room≤(g.pg-1)*g.room:=Int.mul_le_mul_of_nonneg_right ay ay;unfold bQ.cap;omega
theorem NT(h0:0≤n)(h:n<4294967296)(p q:List Nat):AB (p++(MN n++q)) p.length=n:=by
 unfold AB MN;have e:∀i,(p++([n.toNat%256,n.toNat/256%256,n.toNat/65536%256,n.toNat/16777216%256]++q)).getD (p.length+i) 0=([n.toNat%256,n.toNat/256%256,n.toNat/65536%256,n.toNat/16777216%256]++q).getD i 0:=λi=>by
  simp[getD,getElem?_append_right]
 have a:=e 0;rw[Nat.add_zero] at a;rw[a,e 1,e 2,e 3];simp only[cons_append,getD_cons_zero,getD_cons_succ];omega
theorem Nr(hm:h.may g=true)(hg:g.aU):DN (jP g h)=h:=by
 have e:=bQ.vL hg;unfold Hd.may bQ.fits at hm;simp only[Bool.and_eq_true,decide_eq_true_eq] at hm;unfold DN jP;have a:=NT (n:=h.aS) ay ay [99,97,115,101] (MN h.len++(MN h.num++replicate (g.room.toNat-16) 0));have d:=NT (n:=h.len) ay ay ([99,97,115,101]++MN h.aS) (MN h.num++replicate (g.room.toNat-16) 0);have b:=NT (n:=h.num) ay ay ([99,97,115,101]++MN h.aS++MN h.len) (replicate (g.room.toNat-16) 0);simp only[←append_assoc] at a d b;rw[show ([99,97,115,101]:List Nat).length=4 from Z] at a;rw[show (([99,97,115,101]:List Nat)++MN h.aS).length=8 from Z] at d;rw[show (([99,97,115,101]:List Nat)++MN h.aS++MN h.len).length=12 from Z] at b;rw[a,d,b]
theorem yI(hm:h.may g=true)(hg:g.aU):jr g (jP g h)=some h:=by
 unfold jr;rw[Nr hm hg,hm,decide_eq_true Z];rfl
theorem lW{g:bQ}(hg:g.aU):aK prog 122 #[g.v] K F (.tuple #[.i g.room,.i 0]):=(Ii g).eq (by rw[show g.may=true from decide_eq_true hg];rfl)
theorem QE{g:bQ}(hg:g.aU):aK prog 110 #[g.v] K F (.tuple #[.i g.cap,.i 0]):=by
 have b:=bQ.vL hg;have uJ:=hg;unfold bQ.aU at uJ;have a:max (g.pg-1) 0=g.pg-1:=ay;refine aB.en func110 ntmps110 ?_;refine aj "a&" λd=> ?_;refine aj "lwy" ?_;refine WL.t1 call122 Z (lW hg) Z<|aj "Hwk)~~xb" ?_;refine WL.val (V.aG (v':= .i g.cap) (V.MK (ak Z) (ak Z) (λ_=>by rw[a];unfold bQ.cap at b;omega)) (λ_=>by rw[a];rfl)) Z<|aj "bF" ?_;exact aF.ret (H':=F) (bJ.eU Z Z Z) (λw h=>h.drop 1) ⟨Z,Z⟩
theorem AL{g:bQ}(hg:g.aU)(hn:n≤1099511627776):aK prog 92 #[g.v,.i n] K F (.tuple (if g.fits n then #[.i (g.bN n),.i 0] else #[.i 0,.i 1])):=by
 have m:=bQ.vL hg;have l:=bQ.kP hg;refine aB.en func92 ntmps92 ?_;refine aj "a&" λr=> ?_;refine aj "lwy" ?_;refine WL.t1 call110 Z (QE hg) Z<|aj "Hfu%~,I%~z" ?_;refine WL.bI (oj:=_) Z Z Z GC.f (V.gtr (OV.g Z id) (OV.g Z id)) Z<|aj "Ih" (aW (λk=> ?_) λk=> ?_)
 ·have j:g.fits n= !(!decide ((0:Int)=0)||decide (n<0)||decide (g.cap<n)):=by
   unfold bQ.fits;by_cases d:0≤n<;>by_cases e:n≤g.cap<;>simp[d,e]<;>omega
  have a:=j;rw[k] at a;rw[a];refine aj "aF" ?_;exact aF.ret (H':=F) (bJ.eU Z Z Z) (λw h=>h.drop 1) ⟨Z,Z⟩
 ·have j:g.fits n= !(!decide ((0:Int)=0)||decide (n<0)||decide (g.cap<n)):=by
   unfold bQ.fits;by_cases d:0≤n<;>by_cases e:n≤g.cap<;>simp[d,e]<;>omega
  have a:=j;rw[k] at a;rw[a];have b:=a;unfold bQ.fits at b;simp only[Bool.not_false,Bool.and_eq_true,decide_eq_true_eq] at b;refine aj "7y" ?_;refine WL.t1 call122 Z (lW hg) Z<|aj "H0Z)b~:F" ?_;exact aF.ret (H':=F) (bJ.eU Z Z Z) (λw h=>h.drop 1) ⟨Z,Z⟩
theorem acg(hg:g.aU)(h:Hd)(hn:h.len≤1099511627776):aK prog 189 #[g.v,h.v] K F (.bool (h.may g)):=by
 obtain⟨e,a⟩:∃e:Int,e=if g.fits h.len then 0 else 1:=⟨_,Z⟩
 obtain⟨b,d⟩:∃b:Int,b=if g.fits h.len then g.bN h.len else 0:=⟨_,Z⟩
 refine aB.en func189 ntmps189 ?_;refine aj "a&" λj=> ?_;refine aj "~~%" λk=> ?_;refine aj "wyk" ?_;refine WL.t2 call92 Z Z (aK.eq (v':= .tuple #[.i b,.i e]) (AL hg hn) (by rw[d,a];cases g.fits h.len<;>rfl)) Z<|aj "Hi;b,`~USb,`~~~sSb,`~USb,`~RSd:" ?_;unfold Hd.may;congr 1;cases hf:g.fits h.len with
 | true=>rw[hf] at a;rw[a];rfl
 | false=>rw[hf] at a;rw[a];rfl
def J8(n:Int):List Value:=[.int .u8 (IntKind.u8.wrap n),.int .u8 (IntKind.u8.wrap (n.fdiv (2^(min (8:Int).toNat IntKind.i64.bits)))),.int .u8 (IntKind.u8.wrap (n.fdiv (2^(min (16:Int).toNat IntKind.i64.bits)))),.int .u8 (IntKind.u8.wrap (n.fdiv (2^(min (24:Int).toNat IntKind.i64.bits))))]
theorem Vx(n:Int):IntKind.u8.wrap n=n%256:=by grind [IntKind.wrap,IntKind.bits,IntKind.signed]
theorem D5(h:0≤n):J8 n=av .u8 (MN n):=by
 unfold J8 MN av;rw[Vx,Vx,Vx,Vx,show (2:Int)^(min (8:Int).toNat IntKind.i64.bits)=256 from Z,show (2:Int)^(min (16:Int).toNat IntKind.i64.bits)=65536 from Z,show (2:Int)^(min (24:Int).toNat IntKind.i64.bits)=16777216 from Z,
  Int.fdiv_eq_ediv_of_nonneg _ aN,Int.fdiv_eq_ediv_of_nonneg _ aN,Int.fdiv_eq_ediv_of_nonneg _ aN]
 simp only[map_cons,map_nil];congr 1
 ·congr 1;omega
 congr 1
 ·congr 1;omega
 congr 1
 ·congr 1;omega
 congr 1;congr 1;omega
theorem Ry(n:Int):∀u∈J8 n,u.oneCell'=true:=by unfold J8;simp[Value.oneCell']
theorem aaE(hs:Seq K F A 4 1 cs)(hq:Seq K F B 3 1 [.i x,.i y,.i z]) :
 aB prog 190 #[.slice A 4 4,.slice B 3 3] K F (λv H'=>∃A' c',v= .slice A' 16 c'∧H'=aV (.slice A' 16 c') 5 1 16 (cs++J8 x++J8 y++J8 z)::F):=by
 have mR:=hs.len;have rd:∀(i:Nat) v,[Value.int .i64 x,.i y,.i z][i]? =some v→Rd K F (B.map (·.add (i*1))) v:=λi v d=>by rw[Nat.mul_one];exact hq.rd i v d
 refine aB.en func190 ntmps190 ?_;refine aj "afjR" ?_;refine WC.rounds 4 (aj "V3Ea" ?_);refine WL.val (V.dw eB (ak Z) (ak Z) (λ_=>by decide) (λ_=>by first | exact rd 0 _ Z | exact Rd.up (rd 1 _ Z) | exact Rd.up (Rd.up (rd 1 _ Z)) | exact Rd.up (Rd.up (rd 2 _ Z)) | exact Rd.up (Rd.up (Rd.up (rd 2 _ Z))) | exact Rd.up (Rd.up (Rd.up (Rd.up (rd 2 _ Z)))))) Z<|WL.val (V.load isAgg3 (ak Z) (λ_=>by first | exact rd 0 _ Z | exact Rd.up (rd 1 _ Z) | exact Rd.up (Rd.up (rd 1 _ Z)) | exact Rd.up (Rd.up (rd 2 _ Z)) | exact Rd.up (Rd.up (Rd.up (rd 2 _ Z))) | exact Rd.up (Rd.up (Rd.up (Rd.up (rd 2 _ Z)))))) Z<|aj "Ob~mb~6~mb~6~mb~6~m" ?_;refine WL.buildSlice (E:=5) (cs:=[_,_,_,_]) (vs:=[(0,_),(1,_),(2,_),(3,_)]) ⟨ak Z,ak Z,ak Z,ak Z,trivial⟩ Z (fJ _ _ _ _) Z (λa=>WL.D7 (m:=4) (q:=4) (cs:=cs) (news:=J8 x) underlying34 yL (ak Z) (ak Z) (by repeat (first | exact hs | apply Seq.up)) (Seq.all Z) aN aN aN aN Z Z (λk c1 UM aQ=>aj "op~T~yV3Ea" ?_));refine WL.val (V.dw eB (ak Z) (ak Z) (λ_=>by decide) (λ_=>by first | exact rd 0 _ Z | exact Rd.up (rd 1 _ Z) | exact Rd.up (Rd.up (rd 1 _ Z)) | exact Rd.up (Rd.up (rd 2 _ Z)) | exact Rd.up (Rd.up (Rd.up (rd 2 _ Z))) | exact Rd.up (Rd.up (Rd.up (Rd.up (rd 2 _ Z)))))) Z<|WL.val (V.load isAgg3 (ak Z) (λ_=>by first | exact rd 0 _ Z | exact Rd.up (rd 1 _ Z) | exact Rd.up (Rd.up (rd 1 _ Z)) | exact Rd.up (Rd.up (rd 2 _ Z)) | exact Rd.up (Rd.up (Rd.up (rd 2 _ Z))) | exact Rd.up (Rd.up (Rd.up (Rd.up (rd 2 _ Z)))))) Z<|aj "Ob~mb~6~mb~6~mb~6~m" ?_;refine WL.buildSlice (E:=5) (cs:=[_,_,_,_]) (vs:=[(0,_),(1,_),(2,_),(3,_)]) ⟨ak Z,ak Z,ak Z,ak Z,trivial⟩ Z (fJ _ _ _ _) Z (λa=>aj "~9" ?_);refine WL.append (m:=8) (q:=4) (news:=J8 y) underlying34 yL (ak Z) (ak Z) (Seq.all Z) (Ry _) aN Z Z (λj c2 RU bA=>aj "op~w~yV3Ea" ?_);refine WL.val (V.dw eB (ak Z) (ak Z) (λ_=>by decide) (λ_=>by first | exact rd 0 _ Z | exact Rd.up (rd 1 _ Z) | exact Rd.up (Rd.up (rd 1 _ Z)) | exact Rd.up (Rd.up (rd 2 _ Z)) | exact Rd.up (Rd.up (Rd.up (rd 2 _ Z))) | exact Rd.up (Rd.up (Rd.up (Rd.up (rd 2 _ Z)))))) Z<|WL.val (V.load isAgg3 (ak Z) (λ_=>by first | exact rd 0 _ Z | exact Rd.up (rd 1 _ Z) | exact Rd.up (Rd.up (rd 1 _ Z)) | exact Rd.up (Rd.up (rd 2 _ Z)) | exact Rd.up (Rd.up (Rd.up (rd 2 _ Z))) | exact Rd.up (Rd.up (Rd.up (Rd.up (rd 2 _ Z)))))) Z<|aj "Ob~mb~6~mb~6~mb~6~m" ?_;refine WL.buildSlice (E:=5) (cs:=[_,_,_,_]) (vs:=[(0,_),(1,_),(2,_),(3,_)]) ⟨ak Z,ak Z,ak Z,ak Z,trivial⟩ Z (fJ _ _ _ _) Z (λa=>aj "~9" ?_);refine WL.append (m:=12) (q:=4) (news:=J8 z) underlying34 yL (ak Z) (ak Z) (Seq.all Z) (Ry _) aN Z Z (λb c3 e eu=>aj "op~~|~yV~IKed" ?_);exact qR (aV (.slice b 16 c3) _ 1 16 _::F) Z Z (λw h=>h.bg 4 [0] Z) ⟨b,c3,Z,Z⟩
end Go.Proofs.YtcedojacbhnbiaaGreat
namespace Go.Sl
open Go.RowKit List Nat
theorem WQ.Sg{dj:Nat}{oj:Oper}
 (hj:ops[j]? =some oj) (EG:oj.dst=some dj) (hl:look e dj=some gv) (hG:GC gv want c) (hf:bP P f) (hy:OV c e y (.func (.func f) first.toArray captured.toArray)) (gL:Ga c e xs vs) (hF:c=true→aK P f (first++vs++captured).toArray K H v) (hd:blt d n=true)
 (h:WQ Mo P K n ops rest R ((d,cv c v)::e) H):WQ Mo P K n ops (⟨some d,.call ⟨.value y,xs.toArray,ats⟩,ty,pos,af,some (j,want)⟩::rest) R e H:=λa b=>by
 refine wpQuiet_step λS k=> ?_;rw[Region.jv (o:=⟨some d,.call ⟨.value y,xs.toArray,ats⟩,ty,pos,af,some (j,want)⟩) Z hj EG hl b hG];cases c with
 | false=>exact k _ (h _ (b.put d hd _))
 | true =>
  simp only[if_true];refine⟨v,λw l=> ?_,k _ (h _ (b.put d hd v))⟩;unfold Oper.quietAt;rw[tO hf (hy.ev Z b) (gL.ev b Z)];exact⟨Z,(hF Z).call l⟩
theorem WQ.ny
 (hf:bP P f) (hy:OV true e y (.func (.func f) first.toArray captured.toArray)) (gL:Ga true e xs vs) (hF:aK P f (first++vs++captured).toArray K H v) (hd:blt d n=true)
 (h:WQ Mo P K n ops rest R ((d,v)::e) H):WQ Mo P K n ops (⟨some d,.call ⟨.value y,xs.toArray,ats⟩,ty,pos,af,none⟩::rest) R e H:=λa b=>by
 refine wpQuiet_step λS k=> ?_;simp only[Region.wanted,if_true];refine⟨v,λw j=> ?_,k _ (h _ (b.put d hd v))⟩;unfold Oper.quietAt;rw[tO hf (hy.ev Z b) (gL.ev b Z)];exact⟨Z,hF.call j⟩
theorem O9:∀(vs cs r:List Value) (o:Nat),o+vs.length≤cs.length→oU (cs++r) o vs=oU cs o vs++r
 | [],_,_,_,_=>rfl
 | v::vs,cs,r,o,h=>by
  rw[length_cons] at h;show oU ((cs++r).set o v) (o+1) vs=oU (cs.set o v) (o+1) vs++r;rw[set_append_left _ _ ay];exact O9 vs (cs.set o v) r (o+1) (by rw[length_set];omega)
end Go.Sl
namespace Go.Proofs.YtcedojacbhnbiaaGreat
open Go.Sl Go.RowKit Tryz List Nat
structure Fd where
 block:Int
 hd:Hd
 whole:Bool
 deriving DecidableEq
abbrev Fd.cells(x:Fd):List Value:=[.i x.block,.i x.hd.aS,.i x.hd.len,.i x.hd.num,.bool x.whole]
abbrev Fd.v(x:Fd):Value:= .agg #[.i x.block,.i x.hd.aS,.i x.hd.len,.i x.hd.num,.bool x.whole]
theorem Fd.len(x:Fd):x.cells.length=5:=rfl
def JF:Fd:=⟨0,⟨0,0,0⟩,false⟩
abbrev dF(l:List Fd):List Value:=l.flatMap Fd.cells
theorem gT(l:List Fd):(dF l).length=l.length*5:=rW Fd.len l
theorem Lh(hj:j<l.length):fH K (ah b T (dF l++r)::H) b (j*5) (l.getD j JF).cells:=λi v d=>by
 have e:l[j]? =some (l.getD j JF):=by simp[getD,hj]
 have a:=JK (s:=5) Fd.len l j i _ v e d;refine Rd.here ?_;rw[getElem?_append_left (List.getElem?_eq_some_iff.1 a).1];exact a
theorem YA(hj:j<l.length)(y:Fd):oU (dF l++r) (j*5) y.cells=dF (l.set j y)++r:=by
 have a:l[j]? =some (l.getD j JF):=by simp[getD,hj]
 rw[O9 _ _ _ _ (by rw[gT,Fd.len];omega),ab6 (s:=5) Fd.len l j _ y a]
theorem zi(hj:j<l.length)(ho:o=j*5):bT K (ah b T (dF l++r)::H) b o y.cells (ah b T (dF (l.set j y)++r)::H) :=
 bT.here (ble_eq_true_of_le (by rw[ho,length_append,gT,Fd.len];omega)) (by rw[ho];exact YA hj y)
theorem DC(y:Fd):y.cells.all (·.oneCell')=true:=rfl
section
variable(lt:Fd→Fd→Bool)
def bub(ys:List Fd):Nat→List Fd
 | 0=>ys
 | j+1=>if lt (ys.getD (j+1) JF) (ys.getD j JF) then bub ((ys.set (j+1) (ys.getD j JF)).set j (ys.getD (j+1) JF)) j else ys
def adF(ys:List Fd):Nat→List Fd
 | 0=>ys
 | i+1=>bub lt (adF ys i) i
def wX:List Fd→Fd→List Fd
 | [],x=>[x]
 | y::q,x=>if lt x y then y::wX q x else x::y::q
def eP(ys:List Fd):List Fd:=(ys.foldl (wX lt) []).reverse
end
theorem Jl:∀(j:Nat) (ys:List Fd),(bub lt ys j).length=ys.length
 | 0,_=>rfl
 | j+1,ys=>by
  rw[bub];split
  ·rw[Jl j];simp
  ·rfl
theorem sj(ys:List Fd):∀i,(adF lt ys i).length=ys.length
 | 0=>rfl
 | i+1=>by rw[adF,Jl,sj]
theorem VW:∀(q:List Fd) (x:Fd) (r:List Fd),bub lt (q.reverse++x::r) q.length=(wX lt q x).reverse++r
 | [],x,r=>rfl
 | y::q,x,r=>by
  rw[length_cons,bub,wX];have hq:q.reverse.length=q.length:=length_reverse;have b:((y::q).reverse++x::r).getD (q.length+1) JF=x:=by
   rw[reverse_cons,append_assoc,getD,getElem?_append_right ay,hq];simp
  have a:((y::q).reverse++x::r).getD q.length JF=y:=by
   rw[reverse_cons,append_assoc,getD,getElem?_append_right ay,hq];simp
  rw[b,a];split
  ·have d:(((y::q).reverse++x::r).set (q.length+1) y).set q.length x=q.reverse++x::(y::r):=by
    rw[reverse_cons,append_assoc,set_append_right _ _ ay,set_append_right _ _ ay,hq];simp
   rw[d,VW q x (y::r),reverse_cons,append_assoc];rfl
  ·rw[reverse_cons,reverse_cons];simp
theorem Px(ys:List Fd):∀i,i≤ys.length→adF lt ys i=((ys.take i).foldl (wX lt) []).reverse++ys.drop i∧((ys.take i).foldl (wX lt) []).length=i
 | 0,_=>⟨by simp[adF],Z⟩
 | i+1,h=>by
  obtain⟨ih,il⟩:=Px ys i ay;have a:∀(q:List Fd) (x:Fd),(wX lt q x).length=q.length+1:=λq x=>by
   induction q with
   | nil=>rfl
   | cons y q ih=>rw[wX];split<;>simp[ih]
  have d:ys.take (i+1)=ys.take i++[ys[i]'ay]:=by rw[take_add_one,getElem?_eq_getElem ay];rfl
  have hd:ys.drop i=ys[i]'ay::ys.drop (i+1):=drop_eq_getElem_cons ay;have b:=VW (lt:=lt) ((ys.take i).foldl (wX lt) []) (ys[i]'ay) (ys.drop (i+1));rw[il,←hd] at b;rw[adF,ih,b,d,foldl_append];exact⟨Z,by show (wX lt _ _).length=_;rw[a,il]⟩
theorem KE(ys:List Fd):adF lt ys ys.length=eP lt ys:=by
 rw[(Px ys ys.length (Nat.le_refl _)).1,take_length,drop_length,append_nil];rfl
theorem iO(ys:List Fd):(eP lt ys).length=ys.length:=by rw[←KE,sj]
theorem Et:∀(q:List Fd) (x:Fd),Perm (wX lt q x) (x::q)
 | [],x=>Perm.refl _
 | y::q,x=>by
  rw[wX];split
  ·exact (Perm.cons y (Et q x)).trans (Perm.swap x y q)
  ·exact Perm.refl _
theorem Ji:∀(ys q:List Fd),Perm (ys.foldl (wX lt) q) (ys++q)
 | [],q=>Perm.refl _
 | x::ys,q=>by
  rw[foldl_cons];refine (Ji ys (wX lt q x)).trans ((Perm.append_left ys (Et q x)).trans ?_);exact perm_middle
theorem Ja(ys:List Fd):Perm (eP lt ys) ys:=by grind [eP,reverse_perm,Ji]
theorem zk:x∈eP lt ys↔x∈ys:=(Ja ys).mem_iff
theorem EU(htr:∀a b c,lt a b=false→lt b c=false→lt a c=false)(has:∀a b,lt a b=true→lt b a=false):∀(q:List Fd) (x:Fd),q.Pairwise (λa b=>lt a b=false)→(wX lt q x).Pairwise (λa b=>lt a b=false)
 | [],x,_=>pairwise_singleton _ _
 | y::q,x,h=>by
  have hp:=pairwise_cons.1 h;rw[wX];by_cases e:lt x y=true
  ·rw[if_pos e];refine pairwise_cons.2 ⟨λz d=> ?_,EU htr has q x hp.2⟩;rcases mem_cons.1 ((Et q x).mem_iff.1 d) with rfl | d
   ·exact has _ _ e
   ·exact hp.1 z d
  ·rw[if_neg e];have Wz:lt x y=false:=by simpa using e
   refine pairwise_cons.2 ⟨λz d=> ?_,h⟩;rcases mem_cons.1 d with rfl | d
   ·exact Wz
   ·exact htr _ _ _ Wz (hp.1 z d)
theorem BJ(htr:∀a b c,lt a b=false→lt b c=false→lt a c=false)(has:∀a b,lt a b=true→lt b a=false):∀(ys q:List Fd),q.Pairwise (λa b=>lt a b=false)→(ys.foldl (wX lt) q).Pairwise (λa b=>lt a b=false)
 | [],_,h=>h
 | x::ys,q,h=>BJ htr has ys _ (EU htr has q x h)
theorem Ns(htr:∀a b c,lt a b=false→lt b c=false→lt a c=false)(has:∀a b,lt a b=true→lt b a=false)(ys:List Fd):(eP lt ys).Pairwise (λa b=>lt b a=false):=by grind [eP,BJ,Pairwise.nil]
def FI(f:Nat)(c:Fd→Fd→Int):Prop:=bP prog f∧∀(K:World) (F:List aH) (x y:Fd),aK prog f #[x.v,y.v] K F (.i (c x y))
theorem F6(hf:FI f c)(hm:ys.length=m)(hb:m≤1000000) :
 aB prog 265 #[.slice (some ⟨b,0,none⟩) m cap,.i 0,.i (m:Int),.func (.func f) #[] #[]] K (ah b 237 (dF ys++r)::F)
  (λv H'=>H'=ah b 237 (dF (eP (λx y=>decide (c x y<0)) ys)++r)::F):=by
 obtain⟨lt,o7⟩:∃lt:Fd→Fd→Bool,lt=λx y=>decide (c x y<0):=⟨_,Z⟩;rw[←o7];refine aB.en func265 ntmps265 ?_;refine aj "eZos" ?_;refine WC.loop (σ:=Nat) (λi=>[(0,.slice (some ⟨b,0,none⟩) m cap),(1,.i 0),(2,.i (m:Int)),(3,.func (.func f) #[] #[]),(8,.i (i:Int))]) (λi=>ah b 237 (dF (adF lt ys i)++r)::F) (λi=>1≤i∧(i=1∨i≤m)) (λi=>m+1-i) 1 ⟨Nat.le_refl _,.inl Z⟩ bC cO ?_;rintro i ⟨I,J⟩;refine aj "rbPc1" (aW (λaL=> ?_) λaL=> ?_)
 ·have G:i<m:=ay;refine aj "Yos" ?_;refine WC.loop (σ:=Nat×List Fd) (λs=>[(0,.slice (some ⟨b,0,none⟩) m cap),(1,.i 0),(2,.i (m:Int)),(3,.func (.func f) #[] #[]),(8,.i (i:Int)),(9,.i (s.1:Int))]) (λs=>ah b 237 (dF s.2++r)::F) (λs=>s.1≤i∧s.2.length=m∧bub lt s.2 s.1=adF lt ys (i+1)) (λs=>s.1) (i,adF lt ys i) ⟨Nat.le_refl _,by rw[sj,hm],Z⟩ bC cO ?_;rintro⟨j,zs⟩ ⟨hji,hzl,hzb⟩;dsimp only at hji hzl hzb ⊢;obtain⟨d,n⟩:∃d,d=zs.getD j JF:=⟨_,Z⟩;obtain⟨a,Z9⟩:∃a,a=zs.getD (j-1) JF:=⟨_,Z⟩;have l:fH K (ah b 237 (dF zs++r)::F) b (0+(j:Int).toNat*5) d.cells:=by
   rw[show 0+(j:Int).toNat*5=j*5 by omega,n];exact Lh ay
  have C:j≠0→fH K (ah b 237 (dF zs++r)::F) b (0+((j:Int)-1).toNat*5) a.cells:=λH=>by
   rw[show 0+((j:Int)-1).toNat*5=(j-1)*5 by omega,Z9];exact Lh ay
  refine aj "LL~i$$~[$~~y~~y~~y" ?_;refine WQ.bI (oj:=_) Z Z Z GC.t (V.FW zX (OV.g Z id) (OV.g Z id) (λD=>by omega)) Z<|WQ.bI (oj:=_) Z Z Z GC.t (V.fE (vs:=d.cells) ⟨isAgg237,sizeOf237⟩ (OV.g Z id) Z (λ_=>l)) Z<|aj "~~y~~y" ?_;refine WQ.bI (oj:=_) Z Z Z GC.t (V.Eo (OV.g Z id) (ak Z) Jy) Z<|WQ.bI (oj:=_) Z Z Z GC.t (V.FW zX (OV.g Z id) (OV.g Z id) (λD=>by simp at D;omega)) Z<|WQ.bI (oj:=_) Z Z Z GC.t (V.fE (vs:=a.cells) ⟨isAgg237,sizeOf237⟩ (OV.g Z id) Z (λD=>C (by simp at D;omega))) Z<|WQ.Sg (oj:=_) (first:=[]) (vs:=[_,_]) (captured:=[]) Z Z Z GC.t hf.1 (OV.g Z id) ⟨OV.g Z id,OV.g Z id,trivial⟩ (λ_=>hf.2 _ _ d a) Z<|WQ.bI (oj:=_) Z Z Z GC.t (V.lss (OV.g Z id) (ak Z)) Z<|aj "~~I~dJ" (aW (λu=> ?_) λu=> ?_)
  ·simp only[Gi] at u;obtain⟨e,rfl⟩:∃e,j=e+1:=⟨j-1,by omega⟩;rw[Nat.add_sub_cancel] at Z9;have agv:lt d a=true:=by rw[o7];exact decide_eq_true u.2
   rw[bub,←n,←Z9,if_pos agv] at hzb;have ak4:=C ay;refine aj "E" ?_;refine WC.dM F (by kernel_rfl)<|aj "n0n1n2n3" ?_;refine WA.t 4 Z (V.Eo (ak Z) (ak Z) Jy) ?_;refine aj "n5n6" ?_;refine WA.t 7 Z (V.Eo (ak Z) (ak Z) Jy) ?_;refine aj "~e8n:n;~e<" ?_;refine WA.two (i:=9) (j:=13) eO (by kernel_rfl) Z Z ?_ ?_
   ·refine WL.val (V.fE (vs:=a.cells) ⟨isAgg237,sizeOf237⟩ (ak Z) Z (λ_=>ak4)) Z<|aj "cm=" ?_;refine WL.val (V.fE (vs:=d.cells) ⟨isAgg237,sizeOf237⟩ (ak Z) Z (λ_=>l)) Z<|aj "c~e>m?" ?_;refine WL.store (cs:=a.cells) sizeOf237 (ak Z) (ak Z) Z Z Z (zi (j:=e+1) (y:=a) ay ay)<|aj "c~e@mA" ?_;refine WL.store (cs:=d.cells) sizeOf237 (ak Z) (ak Z) Z Z Z (zi (j:=e) (y:=d) (by rw[length_set];omega) ay)<|aj "*g)N" ?_;exact⟨(e,(zs.set (e+1) a).set e d),⟨by show e≤i;omega,by show ((zs.set _ _).set _ _).length=m;simp[hzl],hzb⟩,lt_succ_self _,.cons Z bC,λw h=>h⟩
   ·refine WL.val (V.fE (vs:=d.cells) ⟨isAgg237,sizeOf237⟩ (ak Z) Z (λ_=>l)) Z<|aj "cm9" ?_;refine WL.val (V.fE (vs:=a.cells) ⟨isAgg237,sizeOf237⟩ (ak Z) Z (λ_=>ak4)) Z<|aj "c~e>m?" ?_;refine WL.store (cs:=a.cells) sizeOf237 (ak Z) (ak Z) Z Z Z (zi (j:=e+1) (y:=a) ay ay)<|aj "c~e@mA" ?_;refine WL.store (cs:=d.cells) sizeOf237 (ak Z) (ak Z) Z Z Z (zi (j:=e) (y:=d) (by rw[length_set];omega) ay)<|aj "*g)N" ?_;exact⟨(e,(zs.set (e+1) a).set e d),⟨by show e≤i;omega,by show ((zs.set _ _).set _ _).length=m;simp[hzl],hzb⟩,lt_succ_self _,.cons Z bC,λw h=>h⟩
  ·simp only[Gi] at u;have acN:adF lt ys (i+1)=zs:=by
    rw[←hzb];cases j with
    | zero=>rfl
    | succ e =>
     rw[Nat.add_sub_cancel] at Z9;have agv:lt d a=false:=by
      rw[o7];rcases u with h | h
      ·omega
      ·exact decide_eq_false h
     rw[bub,←n,←Z9,if_neg (by rw[agv];decide)]
   refine aj "KgZN" ?_;exact⟨i+1,⟨by show 1≤i+1;omega,.inr G⟩,(by show m+1-(i+1)<m+1-i;omega),.cons Z bC,λw h=>Sat.aT h (by rw[acN])⟩
 ·refine WC.exit ?_;have sW:adF lt ys i=eP lt ys:=by
   rw[←KE,hm];rcases eq_zero_or_pos m with H | H
   ·have :ys=[]:=eq_nil_of_length_eq_zero ay;subst this;have B:∀k,adF lt [] k=[]:=λk=>eq_nil_of_length_eq_zero (by rw[sj];rfl);rw[B,B]
   ·obtain rfl:i=m:=by omega
    rfl
  exact aF.normal (H':=ah b _ _::F) (bJ.none Z) (λw h=>Sat.aT h (by rw[sW])) Z
def uw(x y:Int):Int:=if x<y then-1 else if y<x then 1 else 0
def orI(a b:Int):Int:=if a≠0 then a else b
def qK(x y:Fd):Int:=orI (uw x.hd.num y.hd.num) (uw y.block x.block)
def aaz(x y:Fd):Int:=orI (uw x.hd.num y.hd.num) (uw x.block y.block)
def Kr(x y:Fd):Int:=uw x.hd.num y.hd.num
theorem LX(x:Int):aK prog 228 #[.i x] K F (.bool false):=by
 refine aB.en func228 ntmps228 ?_;refine aj "a0ud" ?_;exact qR F Z Z cO ⟨by simp,Z⟩
theorem l9(x y:Int):aK prog 167 #[.i x,.i y] K F (.i (uw x y)):=by
 refine aB.en func167 ntmps167 ?_;refine aj "ai" ?_;refine WL.t1 call228 Z (LX _) Z<|aj "i" ?_;refine WL.t1 call228 Z (LX _) Z<|aj "f2qr2qrbPc1" (aW (λa=> ?_) λa=> ?_)
 ·refine aj "D" ?_;exact qR F Z Z cO ⟨by unfold uw;rw[if_pos a],Z⟩
 ·refine aj "qrb~Hc1" (aW (λb=> ?_) λb=> ?_)
  ·refine aj "D" ?_;exact qR F Z Z cO ⟨by unfold uw;rw[if_neg a,if_pos ay],Z⟩
  ·refine aj "qD" ?_;exact qR F Z Z cO ⟨by unfold uw;rw[if_neg a,if_neg ay],Z⟩
theorem V7(hq:Seq K F B 2 1 [.i x,.i y]):aK prog 170 #[.slice B 2 cap] K F (.i (orI x y)):=by
 have rd:∀(i:Nat) v,[Value.int .i64 x,.i y][i]? =some v→Rd K F (B.map (·.add (i*1))) v:=λi v b=>by rw[Nat.mul_one];exact hq.rd i v b
 refine aB.en func170 ntmps170 ?_;refine aj "awfjR~@V3Ea" ?_;refine WL.val (V.dw eB (ak Z) (ak Z) (λ_=>by decide) (λ_=>by first | exact rd 0 _ Z | exact rd 1 _ Z)) Z<|WL.val (V.load isAgg3 (ak Z) (λ_=>by first | exact rd 0 _ Z | exact rd 1 _ Z)) Z<|aj "0uc~h" (aW (λa=> ?_) λa=> ?_)
 ·refine aj "ed" ?_;exact qR F Z Z cO ⟨by unfold orI;rw[if_pos a],Z⟩
 ·refine aj "qp~T~yV3Ea" ?_;refine WL.val (V.dw eB (ak Z) (ak Z) (λ_=>by decide) (λ_=>by first | exact rd 0 _ Z | exact rd 1 _ Z)) Z<|WL.val (V.load isAgg3 (ak Z) (λ_=>by first | exact rd 0 _ Z | exact rd 1 _ Z)) Z<|aj "0uc~h" (aW (λa=> ?_) λa=> ?_)
  ·refine aj "ed:" ?_;unfold orI;rw[if_neg ay]
  ·refine aj "qp~w~yV~IKed:" ?_;unfold orI;rw[if_neg ay];congr 1;omega
theorem yg:FI 164 qK:=⟨call164,λK F x y=>by
 refine aB.en func164 ntmps164 ?_;refine aj "a&" λb=> ?_;refine aj "&" λd=> ?_;refine aj "t~X4041]24344]547]849]:m6" ?_;refine WL.t2 call167 Z Z (l9 _ _) Z<|aj "cm;" ?_;refine WL.t2 call167 Z Z (l9 _ _) Z<|aj "cm<" ?_;refine WL.buildSlice (E:=3) (cs:=[_,_]) (vs:=[(0,_),(1,_)]) ⟨ak Z,ak Z,trivial⟩ Z (p9 _ _) Z (λa=>aj "cm=" ?_);exact WL.t1 call170 Z (V7 (Seq.all Z)) Z<|aj "c~A>~r~J+" trivial
 ⟩
theorem Yq:FI 169 aaz:=⟨call169,λK F x y=>by
 refine aB.en func169 ntmps169 ?_;refine aj "a&" λb=> ?_;refine aj "&" λd=> ?_;refine aj "t~X4041]24344]547]849]:m6" ?_;refine WL.t2 call167 Z Z (l9 _ _) Z<|aj "cm;" ?_;refine WL.t2 call167 Z Z (l9 _ _) Z<|aj "cm<" ?_;refine WL.buildSlice (E:=3) (cs:=[_,_]) (vs:=[(0,_),(1,_)]) ⟨ak Z,ak Z,trivial⟩ Z (p9 _ _) Z (λa=>aj "cm=" ?_);exact WL.t1 call170 Z (V7 (Seq.all Z)) Z<|aj "c~A>~r~J+" trivial
 ⟩
theorem abK:FI 166 Kr:=⟨call166,λK F x y=>by
 refine aB.en func166 ntmps166 ?_;refine aj "a&" λa=> ?_;refine aj "&" λb=> ?_;refine aj "wXkXk" ?_;exact WL.t2 call167 Z Z (l9 _ _) Z<|aj "d+" trivial
 ⟩
abbrev jU(c:Fd→Fd→Int):Fd→Fd→Bool:=λx y=>decide (c x y<0)
theorem J4{f:Nat}:aB prog 265 #[.slice none 0 0,.i 0,.i 0,.func (.func f) #[] #[]] K F (λv H'=>H'=F):=by
 refine aB.en func265 ntmps265 ?_;refine aj "eZos" ?_;refine WC.rounds 1 (aj "rbP2K" ?_);exact aF.normal (H':=F) (bJ.none Z) cO Z
theorem CV{f m:Nat}(ao6:aB prog 265 #[S,.i 0,.i (m:Int),.func (.func f) #[] #[]] K F (λv H'=>H'=H2))(hm:m<20) :
 aB prog 229 #[S,.i (m:Int),.func (.func f) #[] #[]] K F (λv H'=>H'=H2):=by
 refine aB.en func229 ntmps229 ?_;refine aj "ailts" ?_;refine WC.rounds 1 (aj "rb~^2Kexb" ?_);refine WL.c4 call265 Z Z Z Z (ao6) Z ?_;rintro v a b;subst b;refine aj "cs" ?_;refine WC.rounds 1 (aj "rbP2K" ?_);exact aF.normal (H':=a) (bJ.none Z) cO Z
theorem AV(hf:FI f c)(hm:ys.length=m)(h20:m<20) :
 aB prog 168 #[.slice A m cap,.func (.func f) #[] #[]] K (aV (.slice A m cap) 237 5 m (dF ys)::F)
  (λv H'=>∀w,Sat K w H'→Sat K w (aV (.slice A m cap) 237 5 m (dF (eP (jU c) ys))::F)):=by
 cases A with
 | none =>
  refine aB.lG (p:=m=0∧cap=0) (λw d=>⟨(aV.yM d).1,(aV.yM d).2.1⟩) (λe=> ?_);obtain⟨G,u⟩:=e;subst u;have C:ys=[]:=eq_nil_of_length_eq_zero ay;subst C;obtain rfl:m=0:=by omega
  have dL:=CV (K:=K) (F:=aV (.slice none 0 0) 237 5 0 (dF [])::F) (f:=f) (m:=0) (S:= .slice none 0 0) J4 aN;refine aB.en func168 ntmps168 ?_;refine aj "gbjb" ?_;refine WL.c3 call229 Z Z Z (dL) Z ?_;rintro v x e;subst e;exact WL.nil<|aF.normal (H':=aV (.slice none 0 0) 237 5 0 (dF [])::F) (bJ.none Z) cO cO
 | some a =>
  refine aB.lG (p:=∃g,a=⟨g,0,none⟩) (λw d=>aV.addr d) (λ⟨g,B⟩=> ?_);subst B;refine aB.ex (λw d=>Sat.nU d) (λr n=> ?_);obtain⟨y,H,D,l⟩:=n;have dL:=CV (F6 (K:=K) (F:=F) hf (b:=g) (m:=m) (cap:=cap) (ys:=ys) (r:=r) hm ay) h20;refine aB.en func168 ntmps168 ?_;refine aj "gbjb" ?_;refine WL.c3 call229 Z Z Z (dL) Z ?_;rintro v x e;subst e;refine WL.nil<|aF.normal (H':=ah g 237 (dF (eP (jU c) ys)++r)::F) (bJ.none Z) cO (λw h=> ?_);have j:(dF (eP (jU c) ys)).length=m*5:=by rw[gT,iO,hm]
  have asi:(dF ys).length=m*5:=by rw[gT,hm]
  have k:=Sat.BX (m:=m) (cap:=cap) (s:=5) h (by rw[length_append] at y ⊢;omega) D l;rw[take_left' j] at k;exact k
structure bX where
 A:Option Addr
 c:Nat
 l:List Fd
abbrev bX.v(x:bX):Value:= .slice x.A x.l.length x.c
def bX.row(x:bX):aH:=aV (.slice x.A x.l.length x.c) 237 5 x.l.length (dF x.l)
def nE(aS:Nat)(x:Fd):Bool:=x.whole&&decide (x.hd.aS=(aS:Int))
def ji(aJ:Nat)(fs:List Fd):List (List Fd):=(List.range aJ).map λaS=>fs.filter (nE aS)
theorem Ct(aJ:Nat)(fs:List Fd):(ji aJ fs).length=aJ:=by simp[ji]
theorem KN{aJ:Nat}(hl:aS<aJ)(hx:x.whole=true)(uI:x.hd.aS=(aS:Int)):ji aJ (fs++[x])=(ji aJ fs).set aS (fs.filter (nE aS)++[x]):=by
 apply ext_getElem
 ·simp[ji]
 ·intro i b a;rw[getElem_set];simp only[ji,getElem_map,getElem_range,filter_append];by_cases h:aS=i
  ·subst h;rw[if_pos Z];congr 1;rw[filter_cons,if_pos (by unfold nE;rw[hx,uI];simp)];rfl
  ·rw[if_neg h,filter_cons,if_neg (by unfold nE;rw[hx,uI];simp;omega)];simp
theorem SF(h:∀aS,aS<aJ→nE aS x=false):ji aJ (fs++[x])=ji aJ fs:=by simp_all [ji,map_congr_left,filter_append,filter_cons,if_neg,mem_range]
def bX.sort(c:Fd→Fd→Int)(x:bX):bX:= { x with l:=eP (jU c) x.l }
theorem bX.agz(c:Fd→Fd→Int)(x:bX):(x.sort c).v=x.v:=by
 show Value.slice x.A (eP (jU c) x.l).length x.c=_;rw[iO]
def fr0:bX:=⟨none,0,[]⟩
def ow(c:Fd→Fd→Int)(rs:List bX):Nat→List bX
 | 0=>rs
 | j+1=>(ow c rs j).set j ((rs.getD j fr0).sort c)
theorem qd(c:Fd→Fd→Int)(rs:List bX):∀j,(ow c rs j).length=rs.length
 | 0=>rfl
 | j+1=>by rw[ow,length_set,qd]
theorem zf(c:Fd→Fd→Int)(rs:List bX):∀j,j≤rs.length→∀i,(ow c rs j)[i]? =if i<j then (rs[i]?).map (bX.sort c) else rs[i]?
 | 0,_,i=>by simp[ow]
 | j+1,hj,i=>by
  rw[ow,getElem?_set,qd,zf c rs j ay];by_cases h:j=i
  ·subst h;rw[if_pos Z,if_pos ay,if_pos ay];simp[getD,show j<rs.length by omega]
  ·rw[if_neg h];by_cases h2:i<j
   ·rw[if_pos h2,if_pos ay]
   ·rw[if_neg h2,if_neg ay]
theorem adQ(c:Fd→Fd→Int)(rs:List bX)(j:Nat)(hj:j≤rs.length):(ow c rs j).map bX.v=rs.map bX.v:=by
 apply ext_getElem?;intro i;rw[getElem?_map,getElem?_map,zf c rs j hj];split
 ·rw[Option.map_map];congr 1;funext x;exact bX.agz c x
 ·rfl
theorem adP(c:Fd→Fd→Int)(rs:List bX):(ow c rs rs.length).map bX.l=(rs.map bX.l).map (eP (jU c)):=by
 apply ext_getElem?;intro i;rw[getElem?_map,getElem?_map,getElem?_map,zf c rs _ (Nat.le_refl _)];by_cases h:i<rs.length
 ·rw[if_pos h,Option.map_map,Option.map_map];rfl
 ·rw[if_neg h,getElem?_eq_none ay];rfl
theorem uW(l:List Fd)(x:Fd):dF (l++[x])=dF l++x.cells:=by simp[dF]
theorem CP(hs:Seq K F A n 5 (dF fs))(hx:fs[k]? =some x)(hj:x.cells[j]? =some v):Rd K F (A.map (·.add (k*5+j))) v :=
 hs.rd _ _ (JK (s:=5) Fd.len fs k j x v hx hj)
def Uh(f:Nat)(c:Fd→Fd→Int)(ys:List Fd):Prop:=∀(K:World) (F:List aH) (A:Option Addr) (cap:Nat),aB prog 168 #[.slice A ys.length cap,.func (.func f) #[] #[]] K (aV (.slice A ys.length cap) 237 5 ys.length (dF ys)::F)
 (λv a=>∀w,Sat K w a→Sat K w (aV (.slice A ys.length cap) 237 5 ys.length (dF (eP (jU c) ys))::F))
theorem zP(hf:FI f c)(hl:1≤aJ∧aJ≤64)(hs:Seq K F A n 5 (dF fs))(hn:fs.length=n)(h20:n<1000)(UU:∀aS,aS<aJ→Uh f c (fs.filter (nE aS))) :
 aB prog 163 #[.i (aJ:Int),.slice A n cap,.func (.func f) #[] #[]] K F
  (λv H'=>∃bo:Nat,∃rs:List bX,rs.length=aJ∧rs.map bX.l=(ji aJ fs).map (eP (jU c))∧v= .tuple #[.slice (some ⟨bo,0,none⟩) aJ aJ,.i 0]∧H'=ah bo 170 (rs.map bX.v)::bK (rs.map bX.row)::F):=by
 refine aB.en func163 ntmps163 ?_;refine aj "alfP%~jIc~&T" ?_;refine WL.nM (m:=aJ) underlying238 akR (ak Z) (ak Z) Z Z ay Z Z Z (λbo=> ?_);refine aj "fjR" ?_;refine WC.loop (σ:=Nat×List bX) (λs=>[(0,.i (aJ:Int)),(2,.func (.func f) #[] #[]),(8,.slice (some ⟨bo,0,none⟩) aJ aJ),(22,.slice A n cap),(23,.i (n:Int)),(24,.i (s.1:Int))]) (λs=>ah bo 170 (s.2.map bX.v)::bK (s.2.map bX.row)::F) (λs=>s.1≤n∧s.2.length=aJ∧s.2.map bX.l=ji aJ (fs.take s.1)) (λs=>n-s.1) (0,replicate aJ fr0) ⟨zero_le _,length_replicate,by
  rw[map_replicate];apply ext_getElem
  ·simp[ji]
  ·intro i U G;simp[ji,fr0]⟩ bC (λw h=>by
  dsimp only;rw[map_replicate,map_replicate];have T:∀m,∀H,Sat K w H→Sat K w (replicate m fr0.row++H):=λm=>by
   induction m with
   | zero=>intro H h;exact h
   | succ m ih=>intro H h;exact Sat.gI (ih H h) _ _
  have U:Sat K w (replicate aJ fr0.row++(ah bo 170 (replicate aJ fr0.v)::F)):=T aJ _ h;exact (Sat.all U).p1) ?_
 rintro⟨k,rs⟩ ⟨hk,pG,tu⟩;dsimp only at hk pG tu ⊢;refine aj "V1" (aW (λaQ=> ?_) λaQ=> ?_)
 ·obtain⟨x,X⟩:∃x,fs[k]? =some x:=⟨_,getElem?_eq_getElem ay⟩;have UW:∀(j:Nat) v,x.cells[j]? =some v→Rd K F (A.map (·.add (k*5+j))) v:=λj v P=>CP hs X P;have Du:fs.take (k+1)=fs.take k++[x]:=by rw[take_add_one,X];rfl
  have Bv:(k:Int).toNat=k:=ay;refine aj "Ea" ?_;refine WL.val (V.aG (v':=sp A (k*5)) (V.dw zX (ak Z) (ak Z) (λhc=>by omega) (λhc=>by rw[Bv];repeat (first | exact UW 0 _ Z | apply Rd.up))) (λ_=>by rw[Bv])) Z<|WL.val (V.tX (vs:=x.cells) ⟨isAgg237,sizeOf237⟩ (ak Z) Z aN (λ_ j v P=>by repeat (first | exact UW j v P | apply Rd.up))) Z<|aj "v" λN=> ?_;refine aj "CQXkwkb!~USb!!~~vSh" (aW (λG=> ?_) λG=> ?_)
  ·simp only[Gi] at G;obtain⟨a,y⟩:∃a:Nat,x.hd.aS=(a:Int):=⟨x.hd.aS.toNat,by omega⟩;have I:a<aJ:=ay;obtain⟨r,O⟩:∃r,r=rs[a]'ay:=⟨_,Z⟩;have RZ:rs[a]? =some r:=by rw[O];exact getElem?_eq_getElem ay
   have acQ:r.l=(fs.take k).filter (nE a):=by
    have e:(rs.map bX.l)[a]? =some r.l:=by rw[getElem?_map,RZ];rfl
    rw[tu] at e;simp only[ji,getElem?_map,getElem?_range I,Option.map_some] at e;injection e with e
    exact e.symm
   have RN:r.l.length≤1000:=by rw[acQ];exact Nat.le_trans (length_filter_le _ _) (by rw[length_take];omega)
   have acy:(rs.map bX.row)[a]'(by rw[length_map];omega)=r.row:=by rw[getElem_map,O]
   have B:(rs.map bX.v)[0+x.hd.aS.toNat*1]? =some r.v:=by rw[y,show 0+((a:Nat):Int).toNat*1=a by omega,getElem?_map,RZ];rfl
   refine WC.sub (H':=aV (.slice r.A r.l.length r.c) 237 5 r.l.length (dF r.l)::ah bo 170 (rs.map bX.v)::bK ((rs.map bX.row).eraseIdx a)::ah N 237 x.cells::F) (Sub.refl _) (λw h=>by
    have M:=Sat.FQ (k:=a) (by rw[length_map];omega) (h.bg 3 [2,1,0] Z);rw[acy] at M;exact M.bg 4 [0,2,1,3] Z) ?_
   refine WC.dM (bK ((rs.map bX.row).eraseIdx a)::ah N 237 x.cells::F) (by kernel_rfl)<|aj "n0n1n2n3~e4~)6" ?_;refine WA.two (i:=5) (j:=7) eO (by kernel_rfl) Z Z ?_ ?_
   ·refine WL.val (V.load isAgg170 (ak Z) (λ_=>by repeat (first | exact Rd.here B | apply Rd.up))) Z<|aj "cm7" ?_;refine WL.buildSlice (E:=237) (cs:=[_,_,_,_,_]) (vs:=[(0,_)]) ⟨ak Z,trivial⟩ Z (Bj _ _ _ _ _) Z (λS=>aj "cm8?" ?_);refine WL.append (m:=r.l.length) (q:=1) (news:=x.cells) underlying170 aa6 (ak Z) (ak Z) (Seq.all Z) (λu Q=>by simpa using all_eq_true.1 (DC x) u Q) ay Z Z (λb d Zu wQ=>aj "c~e9m:" ?_);refine WL.store (cs:=[_]) sizeOf170 (ak Z) (ak Z) Z Z Z (bT.up (bT.up (bT.at_ (by rw[length_map];omega))))<|aj "*8" ?_;refine⟨(k+1,rs.set a ⟨b,d,r.l++[x]⟩),⟨by show k+1≤n;omega,by show (rs.set _ _).length=aJ;rw[length_set];exact pG, ?_⟩,(by show n-(k+1)<n-k;omega),.cons Z bC,λw h=> ?_⟩
    ·show (rs.set a _).map bX.l=_;rw[Du,KN I G.1.1 y,map_set,tu,←acQ]
    ·have C:=h.bg 5 [0,3,2] Z;have J:aV (.slice b (r.l.length+1) d) 237 5 (r.l.length+1) (dF r.l++x.cells)=bX.row ⟨b,d,r.l++[x]⟩:=by
      unfold bX.row;rw[uW,length_append];rfl
     rw[J] at C;have D:=Sat.Na (l:=rs.map bX.row) (k:=a) (by rw[length_map];omega) C;have R:(rs.map bX.v).set (0+x.hd.aS.toNat*1) (.slice b (r.l.length+1) d)=(rs.set a ⟨b,d,r.l++[x]⟩).map bX.v:=by
      rw[y,show 0+((a:Nat):Int).toNat*1=a by omega,map_set];show _=(rs.map bX.v).set a (.slice b (r.l++[x]).length d);rw[length_append];rfl
     rw[R,←map_set] at D;exact D.p1
   ·refine WL.buildSlice (E:=237) (cs:=[_,_,_,_,_]) (vs:=[(0,_)]) ⟨ak Z,trivial⟩ Z (Bj _ _ _ _ _) Z (λS=>aj "cm5" ?_);refine WL.val (V.load isAgg170 (ak Z) (λ_=>by repeat (first | exact Rd.here B | apply Rd.up))) Z<|aj "cm8?" ?_;refine WL.append (m:=r.l.length) (q:=1) (news:=x.cells) underlying170 aa6 (ak Z) (ak Z) (Seq.all Z) (λu Q=>by simpa using all_eq_true.1 (DC x) u Q) ay Z Z (λb d Zu wQ=>aj "c~e9m:" ?_);refine WL.store (cs:=[_]) sizeOf170 (ak Z) (ak Z) Z Z Z (bT.up (bT.up (bT.at_ (by rw[length_map];omega))))<|aj "*8" ?_;refine⟨(k+1,rs.set a ⟨b,d,r.l++[x]⟩),⟨by show k+1≤n;omega,by show (rs.set _ _).length=aJ;rw[length_set];exact pG, ?_⟩,(by show n-(k+1)<n-k;omega),.cons Z bC,λw h=> ?_⟩
    ·show (rs.set a _).map bX.l=_;rw[Du,KN I G.1.1 y,map_set,tu,←acQ]
    ·have C:=h.bg 5 [0,3,2] Z;have J:aV (.slice b (r.l.length+1) d) 237 5 (r.l.length+1) (dF r.l++x.cells)=bX.row ⟨b,d,r.l++[x]⟩:=by
      unfold bX.row;rw[uW,length_append];rfl
     rw[J] at C;have D:=Sat.Na (l:=rs.map bX.row) (k:=a) (by rw[length_map];omega) C;have R:(rs.map bX.v).set (0+x.hd.aS.toNat*1) (.slice b (r.l.length+1) d)=(rs.set a ⟨b,d,r.l++[x]⟩).map bX.v:=by
      rw[y,show 0+((a:Nat):Int).toNat*1=a by omega,map_set];show _=(rs.map bX.v).set a (.slice b (r.l++[x]).length d);rw[length_append];rfl
     rw[R,←map_set] at D;exact D.p1
  ·simp only[Gi] at G;have abe:∀aS,aS<aJ→nE aS x=false:=λaS x0=>by
    unfold nE;rcases G with (h | h) | h
    ·rw[h];rfl
    ·rw[decide_eq_false (show ¬x.hd.aS=(aS:Int) by omega),Bool.and_false]
    ·rw[decide_eq_false (show ¬x.hd.aS=(aS:Int) by omega),Bool.and_false]
   refine aj "q8" ?_;refine⟨(k+1,rs),⟨by show k+1≤n;omega,pG, ?_⟩,(by show n-(k+1)<n-k;omega),.cons Z bC,λw h=>h.drop 1⟩;show rs.map bX.l=_;rw[Du,SF abe,tu]
 ·refine aj "WL" ?_;obtain rfl:k=n:=by omega
  rw[take_of_length_le ay] at tu;refine aj "gjR" ?_;refine WC.loop (σ:=Nat) (λj=>[(2,.func (.func f) #[] #[]),(8,.slice (some ⟨bo,0,none⟩) aJ aJ),(53,.slice (some ⟨bo,0,none⟩) aJ aJ),(54,.i (aJ:Int)),(55,.i (j:Int))]) (λj=>ah bo 170 (rs.map bX.v)::bK ((ow c rs j).map bX.row)::F) (λj=>j≤aJ) (λj=>aJ-j) 0 (zero_le _) bC cO ?_;rintro j P;refine aj "V1" (aW (λeu=> ?_) λeu=> ?_)
  ·have BF:j<aJ:=ay;obtain⟨r,O⟩:∃r,r=rs[j]'ay:=⟨_,Z⟩;have RZ:rs[j]? =some r:=by rw[O];exact getElem?_eq_getElem ay
   have mR:=qd c rs j;have L:(ow c rs j)[j]? =some r:=by rw[zf c rs j ay,if_neg (Nat.lt_irrefl _)];exact RZ
   have acy:((ow c rs j).map bX.row)[j]'(by rw[length_map];omega)=r.row:=by
    rw[getElem_map];congr 1;rw[getElem?_eq_getElem ay] at L;injection L
   have B:(rs.map bX.v)[0+((j:Nat):Int).toNat*1]? =some r.v:=by rw[show 0+((j:Nat):Int).toNat*1=j by omega,getElem?_map,RZ];rfl
   have RN:Uh f c r.l:=by
    have e:(rs.map bX.l)[j]? =some r.l:=by rw[getElem?_map,RZ];rfl
    rw[tu] at e;simp only[ji,getElem?_map,getElem?_range BF,Option.map_some] at e;injection e with e
    rw[←e];exact UU j BF
   refine aj "Ea~x" ?_;refine WL.val (V.load isAgg170 (ak Z) (λ_=>Rd.here B)) Z ?_;refine aj "o" ?_;refine WC.sub (H':=aV (.slice r.A r.l.length r.c) 237 5 r.l.length (dF r.l)::bK (((ow c rs j).map bX.row).eraseIdx j)::ah bo 170 (rs.map bX.v)::F) (Sub.refl _) (λw h=>by
    have M:=Sat.FQ (k:=j) (by rw[length_map];omega) h.p1;rw[acy] at M;exact M) ?_
   refine aj "gb" ?_;refine WL.c2 call168 Z Z (RN _ _ _ _) Z ?_;rintro v0 H0 Y;refine aj "c8" ?_;refine⟨j+1,BF,(by show aJ-(j+1)<aJ-j;omega),.cons Z bC,λw h=> ?_⟩;have C:=Y w h;have J:aV (.slice r.A r.l.length r.c) 237 5 r.l.length (dF (eP (jU c) r.l))=(r.sort c).row:=by
    unfold bX.row bX.sort;rw[iO]
   rw[J] at C;have D:=Sat.Na (l:=(ow c rs j).map bX.row) (k:=j) (by rw[length_map];omega) C;have e3:rs.getD j fr0=r:=by simp[getD,RZ]
   rw[←map_set] at D;dsimp only;rw[ow,e3];exact D.p1
  ·refine aj "KeF" ?_;obtain rfl:j=aJ:=by omega
   refine aF.ret (H':=ah bo 170 ((ow c rs j).map bX.v)::bK ((ow c rs j).map bX.row)::F) (bJ.eU Z Z Z) (λw h=>by rw[adQ c rs j ay];exact h) ⟨bo,ow c rs j,by rw[qd,pG], ?_,Z,Z⟩;have W:=adP c rs;rw[pG] at W;rw[W,tu]
theorem MJ(hf:FI f c){aJ:Nat}(hl:1≤aJ∧aJ≤64)(hs:Seq K F A n 5 (dF fs))(hn:fs.length=n)(h20:n<20) :
 aB prog 163 #[.i (aJ:Int),.slice A n cap,.func (.func f) #[] #[]] K F
  (λv H'=>∃bo:Nat,∃rs:List bX,rs.length=aJ∧rs.map bX.l=(ji aJ fs).map (eP (jU c))∧v= .tuple #[.slice (some ⟨bo,0,none⟩) aJ aJ,.i 0]∧H'=ah bo 170 (rs.map bX.v)::bK (rs.map bX.row)::F) :=
 zP hf hl hs hn ay (λaS _ _ _ _ _=>AV hf Z (Nat.lt_of_le_of_lt (length_filter_le _ _) ay))
theorem uf{a:Nat}(ha:a<2^n)(hb:b*2^n<4611686018427387904)(ha2:a<4611686018427387904):bitsOf .or .i64 (a:Int) ((b*2^n:Nat):Int)=((a+b*2^n:Nat):Int):=by
 have j:a+b*2^n<9223372036854775808:=ay;unfold bitsOf;dsimp only;rw[iG,iG,BitVec.toNat_or,BitVec.toNat_ofNat,BitVec.toNat_ofNat];have e:a%2^IntKind.i64.bits=a:=mod_eq_of_lt (by show a<2^64;omega);have d:b*2^n%2^IntKind.i64.bits=b*2^n:=mod_eq_of_lt (by show b*2^n<2^64;omega);rw[e,d];have h:a ||| b*2^n=a+b*2^n:=by
  have :=two_pow_add_eq_or_of_lt ha b;rw[Nat.mul_comm b,Nat.or_comm,←this,Nat.add_comm]
 rw[h];exact wrap_i64 ay
theorem zq{x n:Nat}(hn:n≤24)(hx:x<256):IntKind.i64.wrap ((x:Int)*2^(min (n:Int).toNat IntKind.i64.bits))=((x*2^n:Nat):Int):=by
 have a:min (n:Int).toNat IntKind.i64.bits=n:=by rw[Int.toNat_natCast];exact Nat.min_eq_left (by show n≤64;omega)
 have b:x*2^n≤255*2^24:=Nat.mul_le_mul ay (Nat.pow_le_pow_right aN hn);rw[a,show (x:Int)*2^n=((x*2^n:Nat):Int) by rw[Int.natCast_mul,Int.natCast_pow];rfl];exact wrap_i64 ay
theorem um(hg:g.aU)(hp:jr g d=some h):d.length=g.room.toNat∧h.may g=true∧d=jP g h:=by
 unfold jr at hp;split at hp
 ·rename_i a;injection hp with hp
  subst hp;simp only[Bool.and_eq_true,decide_eq_true_eq] at a;exact⟨by rw[←a.2,pQ hg],a.1,a.2.symm⟩
 ·cases hp
theorem Az(hg:g.aU)(h:Hd)(hn:h.len≤1099511627776)(hl:0≤h.aS)(hk:0≤h.num) :
 aB prog 123 #[g.v,h.v] K F (λv H'=>(h.may g=true∧∃A' c',v= .tuple #[.slice A' g.room.toNat c',.i 0]∧H'=aV (.slice A' g.room.toNat c') 5 1 g.room.toNat (av .u8 (jP g h))::F) ∨
  (h.may g=false∧v= .tuple #[.slice none 0 0,.i 1]∧H'=F)):=by
 have n:=bQ.kP hg;refine aB.en func123 ntmps123 ?_;refine aj "a&" λx=> ?_;refine aj "~~%" λr=> ?_;refine aj "ltay~~D" ?_;refine WL.t2 call189 Z Z (acg hg h hn) Z<|aj "9h" (aW (λa=> ?_) λa=> ?_)
 ·simp only[Bool.not_eq_true',Bool.not_eq_false'] at a;refine aj "aF" ?_;exact aF.ret (H':=F) (bJ.eU Z Z Z) (λw h=>h.drop 2) (.inr ⟨a,Z,Z⟩)
 ·simp only[Bool.not_eq_true',Bool.not_eq_false'] at a;have JG:=a;unfold Hd.may bQ.fits at JG;simp only[Bool.and_eq_true,decide_eq_true_eq] at JG;refine aj "7y" ?_;refine WL.t1 call122 Z (lW hg) Z<|aj "Hw" ?_;refine WL.buildSlice (E:=5) (cs:=[_,_,_,_]) (vs:=[(0,_),(1,_),(2,_),(3,_)]) ⟨ak Z,ak Z,ak Z,ak Z,trivial⟩ Z (fJ _ _ _ _) Z (λl=>aj "~~kkkk" ?_);refine WL.buildSlice (E:=3) (cs:=[_,_,_]) (vs:=[(0,_),(1,_),(2,_)]) ⟨ak Z,ak Z,ak Z,trivial⟩ Z (Hl _ _ _) Z (λj=>WL.c2 call190 Z Z (aaE (cs:=[.int .u8 99,.int .u8 97,.int .u8 115,.int .u8 101]) (by repeat (first | exact Seq.agX Z | apply Seq.up)) (Seq.all Z)) Z ?_);rintro _ _ ⟨u,c1,rfl,rfl⟩;refine aj "0)" ?_;refine WL.Gx (m:=16) (q:=g.room.toNat-16) underlying34 underlying3 yL Z Z (ak Z) (ak Z) ay ay ay Z (λb c2 RU bA=>aj "F" ?_);have e:16+(g.room.toNat-16)=g.room.toNat:=ay;refine aF.ret (H':=aV (.slice b g.room.toNat c2) 5 1 g.room.toNat (av .u8 (jP g h))::F) (bJ.eU Z (look_eq Z (by rw[e])) Z) (λw k=> ?_) (.inl ⟨a,b,c2,Z,Z⟩);have d:=k.bg 5 [0] Z;rw[e,D5 hl,D5 JG.1.1.1.1.1,D5 hk] at d;unfold jP;rw[dx,dx,dx,dx,eD];exact d
theorem mP(hs:Seq K F A m 1 (av .u8 d))(h8:aA 256 d)(hb:Rd K F (some ⟨b,0,none⟩) (.slice A m cap))(hi:i+3<m)(hm:m≤1000000) :
 aK prog 157 #[.i (i:Int),ptr b 0] K F (.i (AB d i)):=by
 have O:d.length=m:=by simpa [av] using hs.len
 obtain⟨h,u⟩:∃x,x=d.getD i 0:=⟨_,Z⟩;obtain⟨x1,y⟩:∃x,x=d.getD (i+1) 0:=⟨_,Z⟩;obtain⟨e,r⟩:∃x,x=d.getD (i+2) 0:=⟨_,Z⟩;obtain⟨l,B⟩:∃x,x=d.getD (i+3) 0:=⟨_,Z⟩;have P:h<256:=by rw[u];exact h8.at_ aN _
 have J:x1<256:=by rw[y];exact h8.at_ aN _
 have N:e<256:=by rw[r];exact h8.at_ aN _
 have I:l<256:=by rw[B];exact h8.at_ aN _
 have rd:∀(k:Nat) (j:Int) x,j=(i+k:Nat)→k≤3→x=d.getD (i+k) 0→Rd K F (A.map (·.add (j.toNat*1))) (.int .u8 (x:Int)):=λk j x M Q L=>by
  rw[M,L,Int.toNat_natCast];exact hs.jo ay
 have D:=rd 0 (i:Int) h ay ay u;have C:=rd 1 ((i:Int)+1) x1 ay ay y;have G:=rd 2 ((i:Int)+2) e ay ay r;have H:=rd 3 ((i:Int)+3) l ay ay B;have U0:AB d i=((h+x1*2^8+e*2^16+l*2^24:Nat):Int):=by unfold AB;rw[←u,←y,←r,←B];omega
 rw[U0];refine aB.en func157 ntmps157 ?_;refine aj "at~i" ?_;refine WQ.val (V.load isAgg34 (ak Z) (λ_=>hb)) Z<|aj "$" ?_;refine WQ.val (V.dw dO (ak Z) (ak Z) (λa=>by omega) (λa=>D)) Z<|WQ.val (V.load isAgg5 (ak Z) (λa=>D)) Z<|aj "~]" ?_;refine WQ.val (V.load isAgg34 (ak Z) (λ_=>hb)) Z<|aj "$~~u" ?_;refine WQ.val (V.dw dO (ak Z) (ak Z) (λa=>by omega) (λa=>C)) Z<|WQ.val (V.load isAgg5 (ak Z) (λa=>C)) Z<|aj "~]" ?_;refine WQ.val (V.aG (v':= .i ((x1*2^8:Nat):Int)) (V.shl (ak Z) (ak Z) ay) (λ_=>congrArg _ (zq (n:=8) aN J))) Z<|WQ.val (V.aG (v':= .i ((h+x1*2^8:Nat):Int)) (V.or (ak Z) (ak Z)) (λ_=>congrArg _ (uf (n:=8) ay ay ay))) Z<|WQ.val (V.load isAgg34 (ak Z) (λ_=>hb)) Z<|aj "$~~u" ?_;refine WQ.val (V.dw dO (ak Z) (ak Z) (λa=>by omega) (λa=>G)) Z<|WQ.val (V.load isAgg5 (ak Z) (λa=>G)) Z<|aj "~]" ?_;refine WQ.val (V.aG (v':= .i ((e*2^16:Nat):Int)) (V.shl (ak Z) (ak Z) ay) (λ_=>congrArg _ (zq (n:=16) aN N))) Z<|WQ.val (V.aG (v':= .i ((h+x1*2^8+e*2^16:Nat):Int)) (V.or (ak Z) (ak Z)) (λ_=>congrArg _ (uf (n:=16) ay ay ay))) Z<|WQ.val (V.load isAgg34 (ak Z) (λ_=>hb)) Z<|aj "$~~u" ?_;refine WQ.val (V.dw dO (ak Z) (ak Z) (λa=>by omega) (λa=>H)) Z<|WQ.val (V.load isAgg5 (ak Z) (λa=>H)) Z<|aj "~]" ?_;exact WQ.val (V.aG (v':= .i ((l*2^24:Nat):Int)) (V.shl (ak Z) (ak Z) ay) (λ_=>congrArg _ (zq (n:=24) aN I))) Z<|WQ.val (V.aG (v':= .i ((h+x1*2^8+e*2^16+l*2^24:Nat):Int)) (V.or (ak Z) (ak Z)) (λ_=>congrArg _ (uf (n:=24) ay ay ay))) Z<|aj "~n~d~J+" trivial
theorem RG(hs:Seq K F A m 1 (av .u8 d))(hq:Seq K F B q 1 (av .u8 e))(hd:aA 256 d)(he:aA 256 e) :
 aK prog 158 #[.slice A m cap,.slice B q cap'] K F (.bool (decide (d=e))):=by
 refine aB.en func158 ntmps158 ?_;refine aj "ai" ?_;refine WL.val (V.iM (xs:=bH d) underlying34 underlying5 underlying9 (ak Z) (λ_=>by rw[←jX];exact hs)) Z<|WL.mv Z Z<|WL.val (V.iM (xs:=bH e) underlying34 underlying5 underlying9 (ak Z) (λ_=>by rw[←jX];exact hq)) Z<|WL.val (V.ajB (ak Z) (ak Z)) Z (aj "d:" ?_);rw[sZ (kR hd) (kR he)];congr 1;apply decide_eq_decide.2;exact⟨λh=>by rw[←sG d,h,sG],λh=>by rw[h]⟩
def gQ(g:bQ)(d:List Nat):Hd:=(jr g d).getD ⟨0,0,0⟩
def iR(g:bQ)(d:List Nat):Int:=match jr g d with | some _=>0 | none=>if d.length=g.room.toNat then 4 else 1
theorem IK(hg:g.aU)(hs:Seq K F A m 1 (av .u8 d))(h8:aA 256 d)(hm:m≤1000000) :
 aK prog 91 #[g.v,.slice A m cap] K F (.tuple #[(gQ g d).v,.i (iR g d)]):=by
 have R:d.length=m:=by simpa [av] using hs.len
 have Y:=bQ.kP hg;by_cases N:(m:Int)=g.room
 rotate_left
 ·have B:jr g d=none:=by
   cases hp:jr g d with
   | none=>rfl
   | some h=>have :=(um hg hp).1;omega
  have l:gQ g d=⟨0,0,0⟩:=by unfold gQ;rw[B];rfl
  have k:iR g d=1:=by unfold iR;rw[B];exact if_neg ay
  rw[l,k];refine aB.en func91 ntmps91 ?_;refine aj "a&" λM=> ?_;refine aj "~k" λj=> ?_;refine aj "v" λO=> ?_;refine aj "wy" ?_;refine WL.t1 call122 Z (lW hg) Z<|aj "Hfub~~,~p~z~QIc" ?_;refine WC.MI Z ((by simp;omega))<|aj "a^~|d" ?_;exact aF.ret (H':=F) (bJ.two Z (R1.jQ (vs:=[_,_,_]) Z ⟨isAgg157,sizeOf157⟩ Z adS) (R1.tmp Z)) (λw h=>h.drop 3) ⟨Z,Z⟩
 obtain⟨h,L⟩:∃h,h=DN d:=⟨_,Z⟩;have I:∀i,0≤AB d i∧AB d i<4294967296:=λi=>by
  have X:=h8.at_ aN i;have x1:=h8.at_ aN (i+1);have U:=h8.at_ aN (i+2);have W:=h8.at_ aN (i+3);unfold AB;omega
 have n:h=⟨AB d 4,AB d 8,AB d 12⟩:=L;have y:0≤h.aS:=by rw[n];exact (I 4).1
 have r:0≤h.num:=by rw[n];exact (I 12).1
 have x:h.len≤1099511627776:=by rw[n];have :=(I 8).2;show AB d 8≤_;omega
 cases Oj:h.may g with
 | false =>
  have B:jr g d=none:=by unfold jr;rw[←L,Oj];rfl
  have l:gQ g d=⟨0,0,0⟩:=by unfold gQ;rw[B];rfl
  have k:iR g d=4:=by unfold iR;rw[B];exact if_pos ay
  rw[l,k];have JC:∀(K:World) (F:List aH),aK prog 123 #[g.v,h.v] K F (.tuple #[.slice none 0 0,.i 1]):=λK F=>(Az hg h x y r).mono (λv H' G=>by
   rcases G with ⟨a,_⟩ | ⟨_,H,P⟩
   ·rw[Oj] at a;cases a
   ·exact⟨H,P⟩)
  rw[n] at JC;refine aB.en func91 ntmps91 ?_;refine aj "a&" λM=> ?_;refine aj "~k" λj=> ?_;refine aj "v" λO=> ?_;refine aj "wy" ?_;refine WL.t1 call122 Z (lW hg) Z<|aj "Hfub~~,~p~z~QIc~&7~2i" ?_;refine WL.ny (first:=[]) (vs:=[_]) (captured:=[ptr j 0]) call157 (ak Z) ⟨ak Z,trivial⟩ (mP (i:=4) (by repeat (first | exact hs | apply Seq.up)) h8 lD ay hm) Z ?_;rintro _ _ ⟨rfl,rfl⟩;refine WL.mv Z Z<|WL.ny (first:=[]) (vs:=[_]) (captured:=[ptr j 0]) call157 (ak Z) ⟨ak Z,trivial⟩ (mP (i:=8) (by repeat (first | exact hs | apply Seq.up)) h8 lD ay hm) Z ?_;rintro _ _ ⟨rfl,rfl⟩;refine WL.mv Z Z<|WL.ny (first:=[]) (vs:=[_]) (captured:=[ptr j 0]) call157 (ak Z) ⟨ak Z,trivial⟩ (mP (i:=12) (by repeat (first | exact hs | apply Seq.up)) h8 lD ay hm) Z ?_;rintro _ _ ⟨rfl,rfl⟩;refine WL.val (V.build (vs:=[(0,_),(1,_),(2,_)]) ⟨ak Z,ak Z,ak Z,trivial⟩ Z (u7 _ _ _)) Z<|aj "v" λQ=> ?_;refine aj "~|Gay~~D" ?_;refine WL.t2 call123 Z Z (JC _ _) Z<|aj "Hiub" ?_;refine WL.BK (oj:=_) Z Z Z Z Z (λd hd=>by injection hd with hd;subst hd;rfl)<|WL.BK (oj:=_) Z Z Z Z Z (λd hd=>by injection hd with hd;subst hd;rfl)<|WL.BK (oj:=_) Z Z Z Z Z (λd hd=>by injection hd with hd;subst hd;rfl)<|WL.BK (oj:=_) Z Z Z Z Z (λd hd=>by injection hd with hd;subst hd;rfl)<|WL.val (V.aas (ak Z) (ak Z)) Z (aj "c3a^~|d" ?_);exact aF.ret (H':=F) (bJ.two Z (R1.jQ (vs:=[_,_,_]) Z ⟨isAgg157,sizeOf157⟩ Z adS) (R1.tmp Z)) (λw h=>h.drop 4) ⟨Z,Z⟩
 | true =>
  have JC:∀(K:World) (F:List aH),aB prog 123 #[g.v,h.v] K F (λv H'=>∃A' c',v= .tuple #[.slice A' g.room.toNat c',.i 0]∧H'=aV (.slice A' g.room.toNat c') 5 1 g.room.toNat (av .u8 (jP g h))::F):=λK F=>(Az hg h x y r).mono (λv H' G=>by
   rcases G with ⟨_,H⟩ | ⟨a,_⟩
   ·exact H
   ·rw[Oj] at a;cases a)
  have b:jr g d=if jP g h=d then some h else none:=by
   unfold jr;rw[←L,Oj,Bool.true_and];by_cases C:jP g h=d
   ·rw[decide_eq_true C,if_pos Z,if_pos C]
   ·rw[decide_eq_false C,if_neg Bool.false_ne_true,if_neg C]
  have BI:=pQ hg h;have u:=yN g h;obtain⟨J,D⟩:∃J,J=jP g h:=⟨_,Z⟩;rw[←D] at BI u b JC;rw[n] at JC;refine aB.en func91 ntmps91 ?_;refine aj "a&" λM=> ?_;refine aj "~k" λj=> ?_;refine aj "v" λO=> ?_;refine aj "wy" ?_;refine WL.t1 call122 Z (lW hg) Z<|aj "Hfub~~,~p~z~QIc~&7~2i" ?_;refine WL.ny (first:=[]) (vs:=[_]) (captured:=[ptr j 0]) call157 (ak Z) ⟨ak Z,trivial⟩ (mP (i:=4) (by repeat (first | exact hs | apply Seq.up)) h8 lD ay hm) Z ?_;rintro _ _ ⟨rfl,rfl⟩;refine WL.mv Z Z<|WL.ny (first:=[]) (vs:=[_]) (captured:=[ptr j 0]) call157 (ak Z) ⟨ak Z,trivial⟩ (mP (i:=8) (by repeat (first | exact hs | apply Seq.up)) h8 lD ay hm) Z ?_;rintro _ _ ⟨rfl,rfl⟩;refine WL.mv Z Z<|WL.ny (first:=[]) (vs:=[_]) (captured:=[ptr j 0]) call157 (ak Z) ⟨ak Z,trivial⟩ (mP (i:=12) (by repeat (first | exact hs | apply Seq.up)) h8 lD ay hm) Z ?_;rintro _ _ ⟨rfl,rfl⟩;refine WL.val (V.build (vs:=[(0,_),(1,_),(2,_)]) ⟨ak Z,ak Z,ak Z,trivial⟩ Z (u7 _ _ _)) Z<|aj "v" λQ=> ?_;refine aj "~|Gay~~D" ?_;refine WL.c2 call123 Z Z (JC _ _) Z ?_;rintro _ _ ⟨T,S,rfl,rfl⟩;refine aj "Hiub~Ob~O<~O" ?_;refine WL.t2 call158 Z Z (RG (d:=J) (e:=d) (by repeat (first | exact aV.seq (by rw[au,BI,Nat.mul_one]) | apply Seq.up)) (by repeat (first | exact hs | apply Seq.up)) u h8) Z<|aj "~O9" ?_;refine WL.val (V.DY (ak Z) (ak Z)) Z<|aj "h" (aW (λa=> ?_) λa=> ?_)
  ·simp at a;have l:gQ g d=⟨0,0,0⟩:=by unfold gQ;rw[b,if_neg a];rfl
   have k:iR g d=4:=by unfold iR;rw[b,if_neg a];exact if_pos ay
   refine aj "a^~|d" ?_;rw[l,k];exact aF.ret (H':=F) (bJ.two Z (R1.jQ (vs:=[_,_,_]) Z ⟨isAgg157,sizeOf157⟩ Z adS) (R1.tmp Z)) (λw h=>h.bg 5 [] Z) ⟨Z,Z⟩
  ·simp at a;have l:gQ g d=h:=by unfold gQ;rw[b,if_pos a];rfl
   have k:iR g d=0:=by unfold iR;rw[b,if_pos a]
   refine aj "7~~D~|d" ?_;rw[l,k,n];exact aF.ret (H':=F) (bJ.two Z (R1.jQ (vs:=[_,_,_]) Z ⟨isAgg157,sizeOf157⟩ Z adS) (R1.tmp Z)) (λw h=>h.bg 5 [] Z) ⟨Z,Z⟩
namespace aD
def ko(S:aD)(b:Int):Option Fd :=
 if (S.bY b 0).err≠0 then none
 else match jr S.g (S.bY b 0).d with
  | none=>none
  | some h=>some ⟨b,h,(S.mX b (1+S.g.bN h.len)).1⟩
def dV(S:aD):List Fd:=S.dW.filterMap S.ko
def om(S:aD):Int:=(S.mX 0 0).2
theorem qB(S:aD):∀k x,x∈S.fM k→0≤x∧x<(k:Int)∧S.up=true∧S.bad x=false
 | 0,x,h=>by simp[fM] at h
 | k+1,x,h=>by
  rw[fM] at h;split at h
  ·rename_i hg;rcases mem_append.1 h with h | h
   ·have :=qB S k x h;exact⟨this.1,by omega,this.2.2⟩
   ·have :=mem_singleton.1 h;subst this;simp only[Bool.and_eq_true,Bool.not_eq_true'] at hg;exact⟨by omega,by omega,hg⟩
  ·have :=qB S k x h;exact⟨this.1,by omega,this.2.2⟩
end aD
theorem C8:∀(l:List (Option (LL×Nat))) (d:List Nat) (n:Nat),aA 256 d→(∀o∈l,∀p k,o=some (p,k)→aA 256 p.1)→aA 256 (lV l d n).d
 | [],d,n,h,_=>h
 | none::l,d,n,h,_=>λx hx=>by simp[lV] at hx
 |
  some (p,k)::l,d,n,h,hl=>by
  rw[lV];exact C8 l _ _ (h.append (hl _ (.head _) p k Z)) (λo ho=>hl o (.tail _ ho))
theorem Db(h:aA 256 p.1):∀k,aA 256 (fU t c L p k).1.1
 | 0=>h
 | k+1=>by
  have ih:=Db (c:=c) (L:=L) (t:=t) h k;rw[fU];split
  ·show aA 256 (xY t _ k).1;unfold xY;split
   ·exact yF ih _
   ·exact ih
  ·exact ih
theorem Uz(h:aA 256 d)(hd:tZ t d m=some (p,k)):aA 256 p.1:=by grind [tZ,Db]
theorem Ov(h:aA 256 raw):aA 256 (gK t S B raw).d:=by
 unfold gK;split
 ·intro x a;simp at a
 ·refine C8 _ _ _ (λx a=>by simp at a) (λo d p k b=> ?_);obtain⟨j,_,rfl⟩:=mem_map.1 d;unfold FY at b;exact Uz (aA.take (aA.drop h)) b
theorem X3(ht:t≤8)(hS:S≤8)(hB:B≤512):(gK t S B raw).d.length≤S*B:=by
 unfold gK;split
 ·exact zero_le _
 ·have b:∀(l:List (Option (LL×Nat))) (d:List Nat) (n:Nat),(∀o∈l,∀p k,o=some (p,k)→p.1.length≤B)→(lV l d n).d.length≤d.length+l.length*B:=λl=>by
   induction l with
   | nil=>intro d n _;show d.length≤_;omega
   | cons o l ih =>
    intro d n h;cases o with
    | none=>exact zero_le _
    | some r =>
     obtain⟨p,k⟩:=r;rw[lV];have a:=ih (d++p.1) (max n k) (λo m=>h o (.tail _ m));have e:=h _ (.head _) p k Z;rw[length_append] at a;rw[length_cons,succ_mul];omega
  have :=b ((List.range S).map (FY t B (B+aR t) raw)) [] 0 (λo m p k u=>by
   obtain⟨j,_,rfl⟩:=mem_map.1 m;unfold FY at u;have a:(F4 B (B+aR t) raw j).length≤B:=by unfold F4;rw[length_take];omega
   have e:=(Vu t (F4 B (B+aR t) raw j) (Xf B (B+aR t) raw j) ay ht).1;rw[u] at e;exact Nat.le_trans e a)
  rw[length_map,length_range] at this
  simpa using this
theorem Cw.Ok.rQ{C:Cw}(hC:C.Ok)(b p:Int):aA 256 (C.aC.bY b p).d∧(C.aC.bY b p).d.length≤4096:=by
 have h:=hC.aU;unfold bQ.aU at h;unfold aD.bY;split
 ·exact⟨λx d=>by simp at d,zero_le _⟩
 ·refine⟨Ov (hC.uO b p).2.1, ?_⟩;have a:=X3 (t:=C.aC.g.fl.toNat) (S:=C.aC.g.se.toNat) (B:=C.aC.g.sb.toNat) (raw:=C.aC.kI b p) (by show C.g.fl.toNat≤8;omega) (by show C.g.se.toNat≤8;omega) (by show C.g.sb.toNat≤512;omega);have e:C.aC.g.se.toNat*C.aC.g.sb.toNat≤8*512:=Nat.mul_le_mul (by show C.g.se.toNat≤8;omega) (by show C.g.sb.toNat≤512;omega);exact Nat.le_trans a e
theorem QT{C:Cw}(hC:C.Ok)(hg:C.g=g)(h12:g.bl≤19)(he:C.aC.om=0):aB prog 99 #[ptr bd 0] K (C.A bc::dA bd bc g::F)
 (λv H'=>∃A' c',v= .tuple #[.slice A' C.aC.dV.length c',.i 0]∧H'=C.A bc::dA bd bc g::aV (.slice A' C.aC.dV.length c') 237 5 C.aC.dV.length (dF C.aC.dV)::F):=by
 have yO:g.aU:=by rw[←hg];exact hC.aU
 have uJ:=yO;unfold bQ.aU at uJ;obtain⟨a,L9⟩:∃a,a=C.aC.dW:=⟨_,Z⟩;have Y:a.length≤19:=by
  have :=aD.jK C.aC C.aC.g.bl.toNat;have P:C.aC.g.bl.toNat≤19:=by rw[show C.aC.g=C.g from Z,hg];omega
  rw[L9];unfold aD.dW;omega
 have alg:C.aC.dV=a.filterMap C.aC.ko:=by rw[L9];rfl
 refine aB.en func99 ntmps99 ?_;refine aj "alf~b2T" ?_;refine WL.t1 call100 Z (kg) Z<|aj "v" λR=> ?_;refine aj "Ccr~~l" ?_;refine WL.c3 call126 Z Z Z (vN hC hg 0 0 aN) Z ?_;rintro _ _ ⟨rfl,rfl⟩;refine aj "Hiuc" ?_;refine WC.ni Z ((by simp;exact he))<|aj "7f" ?_;refine WL.c1 call118 Z (ER hC hg) Z ?_;rintro _ _ ⟨B,J,rfl,rfl⟩;rw[←L9];refine aj "jR" ?_;refine WC.loop (σ:=Nat×Option Addr×Nat) (λs=>[(0,ptr bd 0),(4,ptr R 0),(7,.slice s.2.1 (((a.take s.1).filterMap C.aC.ko).length) s.2.2),(31,.slice B a.length J),(32,.i (a.length:Int)),(33,.i (s.1:Int))]) (λs=>C.A bc::dA bd bc g::aV (.slice s.2.1 (((a.take s.1).filterMap C.aC.ko).length) s.2.2) 237 5 (((a.take s.1).filterMap C.aC.ko).length) (dF ((a.take s.1).filterMap C.aC.ko))::aV (.slice B a.length J) 3 1 a.length (ints .i64 a)::ah R 23 [.i g.bl,.i g.pg,.i g.se,.i g.sb,.i g.fl]::F) (λs=>s.1≤a.length) (λs=>a.length-s.1) (0,none,0) (zero_le _) bC (λw h=>(Sat.gI h 237 5).bg 5 [2,3,0,1,4] Z) ?_;rintro⟨k,Ao,co⟩ hk;dsimp only at hk ⊢;obtain⟨x,y⟩:∃x,x=(a.take k).filterMap C.aC.ko:=⟨_,Z⟩;have x2:x.length≤19:=by rw[y];exact Nat.le_trans (length_filterMap_le _ _) (by rw[length_take];omega)
 rw[←y];refine aj "V1" (aW (λbA=> ?_) λbA=> ?_)
 ·have l:k<a.length:=ay;obtain⟨b,M⟩:∃b,b=a.getD k 0:=⟨_,Z⟩;have Du:a.take (k+1)=a.take k++[b]:=by rw[take_add_one,getElem?_eq_getElem l,M];simp[getD,l]
  have RS:(a.take (k+1)).filterMap C.aC.ko=x++(C.aC.ko b).toList:=by rw[Du,filterMap_append,←y];cases e:C.aC.ko b<;>simp[e]
  have RZ:∀ {X:List aH},Rd K (aV (.slice B a.length J) 3 1 a.length (ints .i64 a)::X) (B.map (·.add ((k:Int).toNat*1))) (.i b):=λ{X}=>by
   have U:Seq K (aV (.slice B a.length J) 3 1 a.length (ints .i64 a)::X) B a.length 1 (ints .i64 a):=aV.seq (by rw[bR,Nat.mul_one]);have P:=Seq.dD U (j:=(k:Int)) ay;rw[M]
   rwa [show (k:Int).toNat=k by omega] at P ⊢
  have x3:=aD.qB C.aC C.aC.g.bl.toNat b (by show b∈C.aC.dW;rw[←L9,M];simp only[getD,getElem?_eq_getElem l];exact getElem_mem _);refine aj "Ea" ?_;refine WL.val (V.dw eB (ak Z) (ak Z) (λO=>by omega) (λO=>by repeat (first | exact RZ | apply Rd.up))) Z<|WL.val (V.load isAgg3 (ak Z) (λO=>by repeat (first | exact RZ | apply Rd.up))) Z<|aj "0" ?_;refine WL.c3 call90 Z Z Z (xB hC hg b 0) Z ?_;rintro _ _ ⟨Ad,cd,rfl,rfl⟩;obtain⟨G,S⟩:∃G,G=C.aC.bY b 0:=⟨_,Z⟩;have D:=hC.rQ b 0;have e:C.aC.ko b=if G.err≠0 then none else match jr g G.d with
   | none=>none
   | some h=>some ⟨b,h,(C.aC.mX b (1+g.bN h.len)).1⟩:=by unfold aD.ko;rw[←S,show C.aC.g=g from hg]
  rw[←S] at D ⊢;refine aj "~~l5~Mllfuc~h" (aW (λN=> ?_) λN=> ?_)
  ·rw[if_pos N] at e;rw[e] at RS;refine aj "K8" ?_;refine⟨(k+1,Ao,co),l,(by show a.length-(k+1)<a.length-k;omega),.cons Z (.cons Z (.cons (look_eq Z (by dsimp only;rw[RS];simp)) bC)),λw h=> ?_⟩;dsimp only;rw[RS,Option.toList_none,append_nil];first
    | exact h.bg 6 [0,1,3,4,5] Z
    | exact h.bg 7 [1,2,4,5,6] Z
  ·rw[if_neg (λh=>h ay)] at e;obtain⟨H,ZF⟩:∃H,H=iR g G.d:=⟨_,Z⟩;obtain⟨n,r⟩:∃n,n=gQ g G.d:=⟨_,Z⟩;have qY:(H≠0∧C.aC.ko b=none)∨(H=0∧n.may g=true∧C.aC.ko b=some ⟨b,n,(C.aC.mX b (1+g.bN n.len)).1⟩):=by
    unfold iR at ZF;unfold gQ at r;cases hp:jr g G.d with
    | none =>
     rw[hp] at e ZF;exact .inl ⟨by rw[ZF];dsimp only;split<;>decide,e⟩
    | some h =>
     rw[hp] at e ZF r;have anF:n=h:=r;subst anF;exact .inr ⟨ZF,(um yO hp).2.1,e⟩
   refine aj "7yb" ?_;refine WL.t2 call91 Z Z (aK.eq (v':= .tuple #[n.v,.i H]) (IK (d:=G.d) yO (by repeat (first | exact aV.seq (by rw[au,Nat.mul_one]) | apply Seq.up)) D.1 ay) (by rw[r,ZF])) Z<|aj "5v" λx0=> ?_;refine aj "~|fuc~h" (aW (λQ=> ?_) λQ=> ?_)
   ·rcases qY with ⟨_,Zd⟩ | ⟨L,_⟩
    rotate_left
    ·exact absurd L Q
    rw[Zd] at RS;refine aj "K8" ?_;refine⟨(k+1,Ao,co),l,(by show a.length-(k+1)<a.length-k;omega),.cons Z (.cons Z (.cons (look_eq Z (by dsimp only;rw[RS];simp)) bC)),λw h=> ?_⟩;dsimp only;rw[RS,Option.toList_none,append_nil];first
     | exact h.bg 6 [0,1,3,4,5] Z
     | exact h.bg 7 [1,2,4,5,6] Z
   ·rcases qY with ⟨L,_⟩ | ⟨_,Oj,RF⟩
    ·exact absurd ay L
    rw[RF] at RS;have JG:=Oj;unfold Hd.may at JG;simp only[Bool.and_eq_true,decide_eq_true_eq] at JG;have JD:=JG.1.1.1.1;have I:=JD;unfold bQ.fits at I;simp only[Bool.and_eq_true,decide_eq_true_eq] at I;have FR:=bQ.vL yO;have RN:=bQ.kP yO;have JO:0≤g.bN n.len∧g.bN n.len≤1000000:=by
     unfold bQ.bN;exact⟨Int.ediv_nonneg ay ay,Int.le_trans (Int.ediv_le_self _ ay) ay⟩
    refine aj "7yk" ?_;refine WL.t2 call92 Z Z (aK.eq (v':= .tuple #[.i (g.bN n.len),.i 0]) (AL yO ay) (by rw[JD];rfl)) Z<|aj "HixZ~~l" ?_;refine WL.c3 call126 Z Z Z (vN hC hg b (1+g.bN n.len) ay) Z ?_;rintro _ _ ⟨rfl,rfl⟩;refine aj "HOb~~Db" ?_;refine WL.val (V.build (vs:=[(0,_),(1,_),(2,_)]) ⟨ak Z,ak Z,ak Z,trivial⟩ Z (NW _ _ _ _ _)) Z<|WL.buildSlice (E:=237) (cs:=[_,_,_,_,_]) (vs:=[(0,_)]) ⟨ak Z,trivial⟩ Z (Bj _ _ _ _ _) Z (λW=>aj "~~J" ?_);refine WL.append (m:=x.length) (q:=1) (news:=Fd.cells ⟨b,n,(C.aC.mX b (1+g.bN n.len)).1⟩) underlying170 aa6 (ak Z) (ak Z) (Seq.all Z) (λu T=>by simpa using all_eq_true.1 (DC _) u T) ay Z Z (λA5 c5 Zu wQ=>aj "o8" ?_);refine⟨(k+1,A5,c5),l,(by show a.length-(k+1)<a.length-k;omega),.cons Z (.cons Z (.cons (look_eq Z (by dsimp only;rw[RS,length_append];rfl)) bC)),λw h=> ?_⟩;dsimp only;rw[RS,length_append,Option.toList_some,uW];exact h.bg 8 [2,3,0,6,7] Z
 ·refine aj "KeF" ?_;obtain rfl:k=a.length:=by omega
  have acM:x=C.aC.dV:=by rw[y,take_of_length_le (Nat.le_refl _),alg]
  rw[←acM];exact aF.ret (H':=C.A bc::dA bd bc g::aV (.slice Ao x.length co) 237 5 x.length (dF x)::F) (bJ.eU Z Z Z) (λw h=>h.bg 5 [0,1,2] Z) ⟨Ao,co,Z,Z⟩
def xD(c:Fd→Fd→Int)(fs:List Fd):Nat→Fd
 | 0=>fs.getD 0 JF
 | i+1=>if 0<c (fs.getD (i+1) JF) (xD c fs i) then fs.getD (i+1) JF else xD c fs i
def wG(l:List Fd):Int:=match l.getLast? with | none=> -1 | some x=>x.block
def kT(aJ:Nat)(fs:List Fd):List Int:=(ji aJ fs).map λl=>wG (eP (jU qK) l)
def pE(fs:List Fd):Int:=if fs.length=0 then 1 else (xD Kr fs (fs.length-1)).hd.num+1
def qy(aJ:Nat)(fs:List Fd):List (List Int):=(ji aJ fs).map λl=>(eP (jU aaz) (eP (jU qK) l).dropLast).map Fd.block
theorem mY(aJ:Nat)(fs:List Fd):(kT aJ fs).length=aJ:=by grind [kT,length_map,Ct]
theorem sN(aJ:Nat)(fs:List Fd):(qy aJ fs).length=aJ:=by grind [qy,length_map,Ct]
structure bW where
 A:Option Addr
 c:Nat
 l:List Int
abbrev bW.v(x:bW):Value:= .slice x.A x.l.length x.c
def bW.row(x:bW):aH:=aV (.slice x.A x.l.length x.c) 3 1 x.l.length (ints .i64 x.l)
def ir0:bW:=⟨none,0,[]⟩
theorem Rd.xM(hA:A∈l)(h:Rd K [A] p v):Rd K (bK l::H) p v:=λw a=>h w (a.amR hA)
theorem bX.rd{r:bX}{v:Value}(hi:r.l[i]? =some x)(hj:x.cells[j]? =some v):Rd K [r.row] (r.A.map (·.add (i*5+j))) v:=by
 have h:Seq K [r.row] r.A r.l.length 5 (dF r.l):=aV.seq (gT _);exact CP h hi hj
theorem XT(hf:FI f c)(hs:Seq K F A n 5 (dF fs))(hn:fs.length=n)(h0:0<n)(hn2:n≤1000000) :
 aK prog 165 #[.slice A n cap,.func (.func f) #[] #[]] K F (xD c fs (n-1)).v:=by
 have UW:∀ {X:List aH} (k:Nat),k<n→(∀w,Sat K w X→Sat K w F)→∀(j:Nat) v,(fs.getD k JF).cells[j]? =some v→Rd K X (A.map (·.add (k*5+j))) v:=λk H u j v b=>by
  have l:fs[k]? =some (fs.getD k JF):=by simp[getD,show k<fs.length by omega]
  exact CP (hs.sat u) l b
 have nD:∀ {X:aH} {Y:List aH},(∀w,Sat K w Y→Sat K w F)→∀w,Sat K w (X::Y)→Sat K w F:=λh w D=>h w D.tail;refine aB.en func165 ntmps165 ?_;refine aj "av" λC=> ?_;refine aj "crjPc" ?_;refine WC.ni Z ((decide_eq_false ay)) (aj "T" ?_);refine WL.val (V.aG (v':=sp A (0*5)) (V.dw zX (ak Z) (ak Z) (λe=>by omega) (λe=>by rw[show ((0:Int)).toNat=0 from Z];exact UW 0 h0 (by repeat (first | exact cO | apply nD)) 0 _ Z)) (λ_=>Z)) Z<|WL.val (V.tX (vs:=(fs.getD 0 JF).cells) ⟨isAgg237,sizeOf237⟩ (ak Z) Z aN (λ_ j v b=>by exact UW 0 h0 (by repeat (first | exact cO | apply nD)) j v b)) Z<|aj "v" λB=> ?_;refine aj "CGaos" ?_;refine WC.loop (σ:=Nat) (λi=>[(0,.slice A n cap),(1,.func (.func f) #[] #[]),(4,ptr C 0),(5,ptr B 0),(6,.i ((i+1:Nat):Int))]) (λi=>ah B 237 (xD c fs i).cells::ah C 237 [.i 0,.i 0,.i 0,.i 0,.bool false]::F) (λi=>i<n) (λi=>n-i) 0 h0 bC cO ?_;rintro i G;obtain⟨m,r⟩:∃m,m=xD c fs i:=⟨_,Z⟩;rw[←r];refine aj "rbjPc1" (aW (λaQ=> ?_) λaQ=> ?_)
 ·have d:i+1<n:=ay;obtain⟨x,l⟩:∃x,x=fs.getD (i+1) JF:=⟨_,Z⟩;have Bv:(((i+1:Nat):Int)).toNat=i+1:=ay;have a:∀ {X:List aH},(∀w,Sat K w X→Sat K w F)→∀(j:Nat) v,x.cells[j]? =some v→Rd K X (A.map (·.add ((i+1)*5+j))) v:=λu j v b=>UW (i+1) d u j v (by rw[←l];exact b);have dL:xD c fs (i+1)=if 0<c x m then x else m:=by rw[xD,←l,←r]
  refine aj "EL~i$$$" ?_;refine WQ.val (V.aG (v':=sp A ((i+1)*5)) (V.dw zX (ak Z) (ak Z) (λe=>by omega) (λe=>by rw[Bv];exact a (by repeat (first | exact cO | apply nD)) 0 _ Z)) (λ_=>by rw[Bv])) Z<|WQ.val (V.tX (vs:=x.cells) ⟨isAgg237,sizeOf237⟩ (ak Z) Z aN (λ_ j v b=>by exact a (by repeat (first | exact cO | apply nD)) j v b)) Z<|aj "~~F" ?_;refine WQ.ny (first:=[]) (vs:=[_,_]) (captured:=[]) hf.1 (ak Z) ⟨ak Z,ak Z,trivial⟩ (hf.2 _ _ x m) Z<|aj "~[~d1" (aW (λy=> ?_) λy=> ?_)
  ·rw[if_pos y] at dL;refine aj "gb" ?_;refine WL.val (V.aG (v':=sp A ((i+1)*5)) (V.dw zX (ak Z) (ak Z) (λe=>by omega) (λe=>by rw[Bv];exact a (by repeat (first | exact cO | apply nD)) 0 _ Z)) (λ_=>by rw[Bv])) Z<|WL.val (V.tX (vs:=x.cells) ⟨isAgg237,sizeOf237⟩ (ak Z) Z aN (λ_ j v b=>by exact a (by repeat (first | exact cO | apply nD)) j v b)) Z<|WL.store (cs:=x.cells) sizeOf237 (ak Z) (ak Z) Z Z Z (by repeat (first | exact bT.here (cs':=[_,_,_,_,_]) Z Z | apply bT.up))<|aj "cgZN" ?_;refine⟨i+1,d,(by show n-(i+1)<n-i;omega),.cons Z bC,λw h=> ?_⟩;dsimp only;rw[dL];exact h
  ·rw[if_neg ay] at dL;refine aj "qgZN" ?_;refine⟨i+1,d,(by show n-(i+1)<n-i;omega),.cons Z bC,λw h=> ?_⟩;dsimp only;rw[dL];exact h
 ·refine aj "Kay~L6" ?_;obtain rfl:i=n-1:=by omega
  rw[←r];exact aF.normal (H':=F) (bJ.one Z (R1.jQ (vs:=[_,_,_,_,_]) Z ⟨isAgg237,sizeOf237⟩ Z tN)) (λw h=>h.drop 2) ⟨Z,Z⟩
theorem Mk(hl:1≤aJ∧aJ≤64)(hs:Seq K F A n 5 (dF fs))(hn:fs.length=n)(h20:n<1000)(UU:∀aS,aS<aJ→Uh 164 qK (fs.filter (nE aS)))(NC:∀x∈fs,x.hd.num≤1000000001∧0≤x.hd.num) :
 aB prog 101 #[.i (aJ:Int),.slice A n cap] K F
  (λv H'=>∃A' c',v= .tuple #[.slice A' aJ c',.i (pE fs),.i 0]∧H'=aV (.slice A' aJ c') 3 1 aJ (ints .i64 (kT aJ fs))::F):=by
 obtain⟨pk,e⟩:∃pk,pk=kT aJ fs:=⟨_,Z⟩;have l7:pk.length=aJ:=by rw[e];exact mY _ _
 refine aB.en func101 ntmps101 ?_;refine aj "all0" ?_;refine WL.c3 call163 Z Z Z (zP yg hl hs hn h20 UU) Z ?_;rintro _ _ ⟨M,a,pG,tu,rfl,rfl⟩;have H:∀j r,a[j]? =some r→pk.getD j 0=wG r.l∧j<aJ:=λj r C=>by
  have l:(a.map bX.l)[j]? =some r.l:=by rw[getElem?_map,C];rfl
  have BF:j<aJ:=by rw[←pG];exact (List.getElem?_eq_some_iff.1 C).1
  refine⟨?_,BF⟩;rw[tu] at l;simp only[getElem?_map,ji,getElem?_range BF,Option.map_some] at l;injection l with l
  rw[e];unfold kT;simp only[getD,getElem?_map,ji,getElem?_range BF,Option.map_some,Option.getD_some];rw[l]
 refine aj "Hfu27fjR" ?_;refine WC.loop (σ:=Nat×Option Addr×Nat) (λs=>[(1,.slice A n cap),(9,.slice s.2.1 s.1 s.2.2),(22,.slice (some ⟨M,0,none⟩) aJ aJ),(23,.i (aJ:Int)),(24,.i (s.1:Int))]) (λs=>aV (.slice s.2.1 s.1 s.2.2) 3 1 s.1 (ints .i64 (pk.take s.1))::ah M 170 (a.map bX.v)::bK (a.map bX.row)::F) (λs=>s.1≤aJ) (λs=>aJ-s.1) (0,none,0) (zero_le _) bC (λw h=>Sat.gI h _ _) ?_;rintro⟨j,Ao,co⟩ C;dsimp only at C ⊢;refine aj "V1" (aW (λaQ=> ?_) λaQ=> ?_)
 ·have BF:j<aJ:=ay;obtain⟨r,B⟩:∃r,a[j]? =some r:=⟨_,getElem?_eq_getElem ay⟩;have G:(a.map bX.v)[0+((j:Nat):Int).toNat*1]? =some r.v:=by rw[show 0+((j:Nat):Int).toNat*1=j by omega,getElem?_map,B];rfl
  have uH:r.row∈a.map bX.row:=mem_map.2 ⟨r,mem_of_getElem? B,Z⟩;have Du:pk.take (j+1)=pk.take j++[wG r.l]:=by rw[take_add_one,getElem?_eq_getElem ay,←(H j r B).1];simp[getD,show j<pk.length by omega]
  refine aj "Ea~x" ?_;refine WL.val (V.load isAgg170 (ak Z) (λ_=>by repeat (first | exact Rd.here G | apply Rd.up))) Z<|aj "ij;c1" (aW (λP=> ?_) λP=> ?_)
  ·have L6:wG r.l= -1:=by
    have :r.l=[]:=eq_nil_of_length_eq_zero ay;unfold wG;rw[this];rfl
   refine aj "g" ?_;refine WL.buildSlice (E:=3) (cs:=[_]) (vs:=[(0,_)]) ⟨ak Z,trivial⟩ Z (dJ _) Z (λS=>aj "?" ?_);refine WL.append (m:=j) (q:=1) (news:=[.i (-1)]) underlying124 Me (ak Z) (ak Z) (Seq.all Z) (by intro u D;rw[mem_singleton.1 D];rfl) ay Z Z (λI J Zu wQ=>aj "o8" ?_);refine⟨(j+1,I,J),BF,(by show aJ-(j+1)<aJ-j;omega),.cons Z bC,λw h=> ?_⟩;dsimp only;rw[Du,L6,gY];exact h.bg 2 [0] Z
  ·obtain⟨x,L⟩:∃x,r.l[r.l.length-1]? =some x:=⟨_,getElem?_eq_getElem ay⟩;have L6:wG r.l=x.block:=by unfold wG;rw[getLast?_eq_getElem?,L]
   have b:∀(i:Nat) v,x.cells[i]? =some v→∀ {X:List aH},Rd K (bK (a.map bX.row)::X) (r.A.map (·.add ((r.l.length-1)*5+i))) v:=λi v R X=>Rd.xM uH (bX.rd L R);have y:((r.l.length:Int)-1).toNat=r.l.length-1:=ay;have ang:r.l.length≤1000000:=by
    have d:(a.map bX.l)[j]? =some r.l:=by rw[getElem?_map,B];rfl
    rw[tu] at d;simp only[ji,getElem?_map,getElem?_range BF,Option.map_some] at d;injection d with d
    rw[←d,iO];exact Nat.le_trans (length_filter_le _ _) ay
   refine aj "gxj)" ?_;refine WL.val (V.aG (v':=sp r.A ((r.l.length-1)*5)) (V.dw zX (ak Z) (ak Z) (λO=>by omega) (λO=>by rw[y];repeat (first | exact b 0 _ Z | apply Rd.up))) (λ_=>by rw[y])) Z<|WL.val (V.uY (k':=(r.l.length-1)*5) Vv (ak Z) (λ_=>by repeat (first | exact b 0 _ Z | apply Rd.up))) Z<|WL.val (V.load isAgg3 (ak Z) (λ_=>by repeat (first | exact b 0 _ Z | apply Rd.up))) Z<|WL.buildSlice (E:=3) (cs:=[_]) (vs:=[(0,_)]) ⟨ak Z,trivial⟩ Z (dJ _) Z (λQ=>aj "?" ?_);refine WL.append (m:=j) (q:=1) (news:=[.i x.block]) underlying124 Me (ak Z) (ak Z) (Seq.all Z) (by intro u D;rw[mem_singleton.1 D];rfl) ay Z Z (λI J Zu wQ=>aj "o8" ?_);refine⟨(j+1,I,J),BF,(by show aJ-(j+1)<aJ-j;omega),.cons Z bC,λw h=> ?_⟩;dsimp only;rw[Du,L6,gY];exact h.bg 2 [0] Z
 ·refine aj "WL" ?_;obtain rfl:j=aJ:=by omega
  rw[take_of_length_le ay,e];refine WC.sub (Sub.refl _) (λw h=>h.bg 3 [0] Z)<|aj "gj;c1" (aW (λd=> ?_) λd=> ?_)
  ·have Zk:pE fs=1:=by unfold pE;rw[if_pos ay]
   refine aj "elF" ?_;rw[Zk];exact aF.ret (H':=aV (.slice Ao j co) 3 1 j (ints .i64 (kT j fs))::F) (bJ.Bl Z Z Z Z) cO ⟨Ao,co,Z,Z⟩
  ·have Zk:pE fs=(xD Kr fs (n-1)).hd.num+1:=by unfold pE;rw[if_neg ay,hn]
   have uH:∀k,k<n→xD Kr fs k∈fs:=λk=>by
    induction k with
    | zero=>intro T;show fs.getD 0 JF∈fs;simp only[getD,getElem?_eq_getElem (show 0<fs.length by omega)];exact getElem_mem _
    | succ k ih =>
     intro T;rw[xD];split
     ·simp only[getD,getElem?_eq_getElem (show k+1<fs.length by omega)];exact getElem_mem _
     ·exact ih ay
   have JG:=NC _ (uH (n-1) ay);refine aj "T" ?_;refine WL.t2 call165 Z Z (XT abK (by repeat (first | exact hs | apply Seq.up)) hn ay ay) Z<|aj "v" λN=> ?_;refine aj "CG~i$~t~t~F~~u~n~n~n~d~J" ?_;rw[Zk];exact aF.ret (H':=aV (.slice Ao j co) 3 1 j (ints .i64 (kT j fs))::F) (bJ.Bl Z Z Z Z) (λw h=>h.drop 1) ⟨Ao,co,Z,Z⟩
theorem Qr{aJ:Nat}(hl:1≤aJ∧aJ≤64)(hs:Seq K F A n 5 (dF fs))(hn:fs.length=n)(h20:n<20)(NC:∀x∈fs,x.hd.num≤1000000001∧0≤x.hd.num) :
 aB prog 101 #[.i (aJ:Int),.slice A n cap] K F
  (λv H'=>∃A' c',v= .tuple #[.slice A' aJ c',.i (pE fs),.i 0]∧H'=aV (.slice A' aJ c') 3 1 aJ (ints .i64 (kT aJ fs))::F) :=
 Mk hl hs hn ay (λaS _ _ _ _ _=>AV yg Z (Nat.lt_of_le_of_lt (length_filter_le _ _) ay)) NC
theorem abI(hm:l.length=m)(h0:0<m):∀w,Sat K w (aV (.slice A m cap) 237 5 m (dF l)::F)→Sat K w (aV (.slice A (m-1) cap) 237 5 (m-1) (dF l.dropLast)::F):=λw h=>by
 cases A with
 | none=>have :=(aV.yM h).1;omega
 | some a =>
  obtain⟨g,rfl⟩:=aV.addr h;obtain⟨r,⟨d,x,y,n⟩,u⟩:=Sat.nU h;have b:=Sat.BX (m:=m-1) (cap:=cap) (s:=5) u d ay n;have pq:l≠[]:=λe=>by rw[e] at hm;simp at hm;omega
  have k:dF l=dF l.dropLast++(l.getLast pq).cells:=by
   conv=>lhs;rw[←dropLast_concat_getLast pq]
   exact uW _ _
  have j:(dF l++r).take ((m-1)*5)=dF l.dropLast:=by
   rw[k,append_assoc,take_left'];rw[gT,length_dropLast,hm]
  rw[j] at b;exact b
theorem Mx{aJ:Nat}(hl:1≤aJ∧aJ≤64)(hs:Seq K F A n 5 (dF fs))(hn:fs.length=n)(h20:n<20) :
 aB prog 102 #[.i (aJ:Int),.slice A n cap] K F
  (λv H'=>∃b8:Nat,∃fA:List bW,fA.length=aJ∧fA.map bW.l=qy aJ fs∧v= .tuple #[.slice (some ⟨b8,0,none⟩) aJ aJ,.i 0]∧H'=ah b8 124 (fA.map bW.v)::bK (fA.map bW.row)::F):=by
 obtain⟨e,dL⟩:∃e,e=qy aJ fs:=⟨_,Z⟩;have qU:e.length=aJ:=by rw[dL];exact sN _ _
 rw[←dL];refine aB.en func102 ntmps102 ?_;refine aj "al0" ?_;refine WL.c3 call163 Z Z Z (MJ yg hl hs hn h20) Z ?_;rintro _ _ ⟨B,a,pG,tu,rfl,rfl⟩;have x4:∀j r,a[j]? =some r→e.getD j []=(eP (jU aaz) r.l.dropLast).map Fd.block∧j<aJ∧r.l.length≤19:=λj r U=>by
  have D:(a.map bX.l)[j]? =some r.l:=by rw[getElem?_map,U];rfl
  have BF:j<aJ:=by rw[←pG];exact (List.getElem?_eq_some_iff.1 U).1
  rw[tu] at D;simp only[getElem?_map,ji,getElem?_range BF,Option.map_some] at D;injection D with D
  refine⟨?_,BF, ?_⟩
  ·rw[dL];unfold qy;simp only[getD,getElem?_map,ji,getElem?_range BF,Option.map_some,Option.getD_some];rw[D]
  ·rw[←D,iO];exact Nat.le_trans (length_filter_le _ _) ay
 refine aj "Hfu2T" ?_;refine WL.nM (m:=aJ) underlying125 akd (ak Z) (ak Z) Z Z ay Z Z Z (λb8=> ?_);refine aj "fjR" ?_;refine WC.loop (σ:=Nat×List bW) (λs=>[(8,.slice (some ⟨b8,0,none⟩) aJ aJ),(24,.slice (some ⟨B,0,none⟩) aJ aJ),(25,.i (aJ:Int)),(26,.i (s.1:Int))]) (λs=>ah b8 124 (s.2.map bW.v)::bK (s.2.map bW.row)::ah B 170 (a.map bX.v)::bK ((a.drop s.1).map bX.row)::F) (λs=>s.1≤aJ∧s.2.length=aJ∧s.2.map bW.l=e.take s.1++replicate (aJ-s.1) []) (λs=>aJ-s.1) (0,replicate aJ ir0) ⟨zero_le _,length_replicate,by
  rw[map_replicate];rfl⟩ bC (λw h=>by
  dsimp only;rw[map_replicate,map_replicate];have x5:∀m,∀H,Sat K w H→Sat K w (replicate m ir0.row++H):=λm=>by
   induction m with
   | zero=>intro H h;exact h
   | succ m ih=>intro H h;exact Sat.gI (ih H h) _ _
  have D:Sat K w (replicate aJ ir0.row++(ah b8 124 (replicate aJ ir0.v)::ah B 170 (a.map bX.v)::bK (a.map bX.row)::F)):=x5 aJ _ h;exact (Sat.all D).p1) ?_
 rintro⟨j,fA⟩ ⟨U,GQ,ZA⟩;dsimp only at U GQ ZA ⊢;refine aj "V1" (aW (λaQ=> ?_) λaQ=> ?_)
 ·have BF:j<aJ:=ay;obtain⟨r,hr⟩:∃r,r=a[j]'ay:=⟨_,Z⟩;have RZ:a[j]? =some r:=by rw[hr];exact getElem?_eq_getElem ay
  obtain⟨O,_,ang⟩:=x4 j r RZ;have x0:(a.map bX.v)[0+((j:Nat):Int).toNat*1]? =some r.v:=by rw[show 0+((j:Nat):Int).toNat*1=j by omega,getElem?_map,RZ];rfl
  have JI:a.drop j=r::a.drop (j+1):=by rw[hr];exact drop_eq_getElem_cons ay
  have Du:e.take (j+1)=e.take j++[e.getD j []]:=by rw[take_add_one,getElem?_eq_getElem ay];simp[getD,show j<e.length by omega]
  have ahU:replicate (aJ-j) ([]:List Int)=[]::replicate (aJ-(j+1)) []:=by rw[show aJ-j=(aJ-(j+1))+1 by omega,replicate_succ]
  have aef:(e.take j).length=j:=by rw[length_take];omega
  refine aj "Y~x" ?_;refine WL.val (V.load isAgg170 (ak Z) (λ_=>by repeat (first | exact Rd.here x0 | apply Rd.up))) Z<|aj "lfj;c1" (aW (λh2=> ?_) λh2=> ?_)
  ·have RB:r.l=[]:=eq_nil_of_length_eq_zero ay;have I:e.getD j []=[]:=by rw[O,RB];rfl
   refine aj "K8" ?_;refine⟨(j+1,fA),⟨BF,GQ, ?_⟩,(by show aJ-(j+1)<aJ-j;omega),.cons Z bC,λw h=> ?_⟩
   ·show fA.map bW.l=_;rw[ZA,Du,I,ahU,append_assoc];rfl
   ·rw[JI,map_cons] at h;have J:=Sat.FQ (k:=0) (by simp) (h.bg 4 [3,0,1,2] Z);have C:Sat K w (r.row::bK ((a.drop (j+1)).map bX.row)::ah b8 124 (fA.map bW.v)::bK (fA.map bW.row)::ah B 170 (a.map bX.v)::F):=J;exact C.bg 5 [2,3,4,1] Z
  ·have afv:0<r.l.length:=ay;obtain⟨b,G⟩:∃b,b=eP (jU aaz) r.l.dropLast:=⟨_,Z⟩;have anN:b.length=r.l.length-1:=by rw[G,iO,length_dropLast]
   have I:e.getD j []=b.map Fd.block:=by rw[O,G]
   refine WC.sub (H':=aV (.slice r.A (r.l.length-1) r.c) 237 5 (r.l.length-1) (dF r.l.dropLast)::ah b8 124 (fA.map bW.v)::bK (fA.map bW.row)::ah B 170 (a.map bX.v)::bK ((a.drop (j+1)).map bX.row)::F) (Sub.refl _) (λw h=>by
    rw[JI,map_cons] at h;have J:=Sat.FQ (k:=0) (by simp) (h.bg 4 [3,0,1,2] Z);have C:Sat K w (r.row::bK ((a.drop (j+1)).map bX.row)::ah b8 124 (fA.map bW.v)::bK (fA.map bW.row)::ah B 170 (a.map bX.v)::F):=J;exact (abI (l:=r.l) Z afv w C).bg 5 [0,2,3,4,1] Z) ?_
   refine aj "|" ?_;refine WC.lG (p:=r.l.length-1≤r.c) (λw h=>by
    obtain⟨_,x6,hv,x2,_⟩:=aV.shape h.head;injection hv with _ _ e3
    rw[e3];exact x2) (λJJ=> ?_)
   refine aj "gbj)" ?_;refine WL.val (V.aG (v':= .slice r.A (r.l.length-1) r.c) (V.slice (l:=0) (h:=r.l.length-1) (u:=r.c) zX (ak Z) OO.none (OO.some (ak Z) (λ_=>by omega)) OO.none (by simp) (zero_le _) JJ (Nat.le_refl _)) (λ_=>by rw[Nat.sub_zero,Nat.sub_zero,zK])) Z<|aj "i" ?_;refine WL.c2 call168 Z Z (AV Yq (by rw[length_dropLast]) ay) Z ?_;rintro v0 H0 h0;refine WL.sub (H':=aV (.slice r.A (r.l.length-1) r.c) 237 5 (r.l.length-1) (dF b)::ah b8 124 (fA.map bW.v)::bK (fA.map bW.row)::ah B 170 (a.map bX.v)::bK ((a.drop (j+1)).map bX.row)::F) (Sub.refl _) (λw h=>by rw[G];exact h0 w h)<|aj "G" ?_;have x8:(fA.map bW.l)[j]? =some []:=by rw[ZA,getElem?_append_right ay,aef,Nat.sub_self,ahU];rfl
   have aoh:∀ {X:List aH} (k:Nat) (x:Fd),b[k]? =some x→∀i v,x.cells[i]? =some v→Rd K (aV (.slice r.A (r.l.length-1) r.c) 237 5 (r.l.length-1) (dF b)::X) (r.A.map (·.add (k*5+i))) v:=λ{X} k x hk i v R=>by
    have h9:Seq K (aV (.slice r.A (r.l.length-1) r.c) 237 5 (r.l.length-1) (dF b)::X) r.A (r.l.length-1) 5 (dF b):=aV.seq (by rw[gT,anN]);exact CP h9 hk R
   refine aj "gjR" ?_;refine WC.loop (σ:=Nat×List bW) (λs=>[(8,.slice (some ⟨b8,0,none⟩) aJ aJ),(9,.i (j:Int)),(24,.slice (some ⟨B,0,none⟩) aJ aJ),(25,.i (aJ:Int)),(26,.i (j:Int)),(41,.slice r.A (r.l.length-1) r.c),(42,.i ((r.l.length-1:Nat):Int)),(43,.i (s.1:Int))]) (λs=>aV (.slice r.A (r.l.length-1) r.c) 237 5 (r.l.length-1) (dF b)::ah b8 124 (s.2.map bW.v)::bK (s.2.map bW.row)::ah B 170 (a.map bX.v)::bK ((a.drop (j+1)).map bX.row)::F) (λs=>s.1≤r.l.length-1∧s.2.length=aJ∧s.2.map bW.l=e.take j++((b.take s.1).map Fd.block::replicate (aJ-(j+1)) [])) (λs=>r.l.length-1-s.1) (0,fA) ⟨zero_le _,GQ,by rw[ZA,ahU];rfl⟩ bC cO ?_;rintro⟨k,GD⟩ ⟨hk,Ki,U7⟩;dsimp only at hk Ki U7 ⊢;refine aj "V1" (aW (λeu=> ?_) λeu=> ?_)
   ·have vX:k<r.l.length-1:=ay;obtain⟨x,hx⟩:∃x,b[k]? =some x:=⟨_,getElem?_eq_getElem ay⟩;have Q:=λ{X:List aH} i v R=>aoh (X:=X) k x hx i v R;have Bv:(k:Int).toNat=k:=ay;have S:b.take (k+1)=b.take k++[x]:=by rw[take_add_one,hx];rfl
    obtain⟨q,hq⟩:∃q,q=GD[j]'ay:=⟨_,Z⟩;have P:GD[j]? =some q:=by rw[hq];exact getElem?_eq_getElem ay
    have agE:q.l=(b.take k).map Fd.block:=by
     have T:(GD.map bW.l)[j]? =some q.l:=by rw[getElem?_map,P];rfl
     rw[U7,getElem?_append_right ay,aef,Nat.sub_self] at T;injection T with T
     exact T.symm
    have x7:q.l.length≤20:=by rw[agE,length_map,length_take];omega
    have aaq:(GD.map bW.row)[j]'(by rw[length_map];omega)=q.row:=by rw[getElem_map,hq]
    have N:(GD.map bW.v)[0+(j:Int).toNat*1]? =some q.v:=by rw[show 0+((j:Nat):Int).toNat*1=j by omega,getElem?_map,P];rfl
    refine aj "Ea" ?_;refine WL.val (V.aG (v':=sp r.A (k*5)) (V.dw zX (ak Z) (ak Z) (λhc=>by omega) (λhc=>by rw[Bv];repeat (first | exact Q 0 _ Z | apply Rd.up))) (λ_=>by rw[Bv])) Z ?_;refine WL.val (V.tX (vs:=x.cells) ⟨isAgg237,sizeOf237⟩ (ak Z) Z aN (λ_ i v R=>by repeat (first | exact Q i v R | apply Rd.up))) Z ?_;refine aj "v" λL=> ?_;refine aj "Cc" ?_;refine WC.sub (H':=aV (.slice q.A q.l.length q.c) 3 1 q.l.length (ints .i64 q.l)::ah b8 124 (GD.map bW.v)::bK ((GD.map bW.row).eraseIdx j)::ah L 237 x.cells::aV (.slice r.A (r.l.length-1) r.c) 237 5 (r.l.length-1) (dF b)::ah B 170 (a.map bX.v)::bK ((a.drop (j+1)).map bX.row)::F) (Sub.refl _) (λw h=>by
     have J:=Sat.FQ (k:=j) (by rw[length_map];omega) (h.bg 4 [3,2,0,1] Z);rw[aaq] at J;exact J.bg 5 [0,2,1,3,4] Z) ?_
    refine WC.dM (bK ((GD.map bW.row).eraseIdx j)::ah L 237 x.cells::aV (.slice r.A (r.l.length-1) r.c) 237 5 (r.l.length-1) (dF b)::ah B 170 (a.map bX.v)::bK ((a.drop (j+1)).map bX.row)::F) (by kernel_rfl)<|aj "n0n1n2n3~e446]7" ?_;refine WA.two (i:=5) (j:=8) eO (by kernel_rfl) Z Z ?_ ?_
    ·refine WL.val (V.load isAgg124 (ak Z) (λ_=>by repeat (first | exact Rd.here N | apply Rd.up))) Z<|aj "cm8" ?_;refine WL.buildSlice (E:=3) (cs:=[_]) (vs:=[(0,_)]) ⟨ak Z,trivial⟩ Z (dJ _) Z (λx3=>aj "cm9?" ?_);refine WL.append (m:=q.l.length) (q:=1) (news:=[.i x.block]) underlying124 Me (ak Z) (ak Z) (Seq.all Z) (by intro u Y;rw[mem_singleton.1 Y];rfl) ay Z Z (λd y Zu wQ=> ?_);refine aj "c~e:m;" ?_;refine WL.store (cs:=[_]) sizeOf124 (ak Z) (ak Z) Z Z Z (bT.up (bT.up (bT.at_ (by rw[length_map];omega))))<|aj "*8" ?_;refine⟨(k+1,GD.set j ⟨d,y,q.l++[x.block]⟩),⟨vX,by show (GD.set _ _).length=aJ;rw[length_set];exact Ki, ?_⟩,(by show r.l.length-1-(k+1)<r.l.length-1-k;omega),.cons Z bC,λw h=> ?_⟩
     ·show (GD.set j _).map bW.l=_;rw[map_set,U7,set_append_right _ _ ay,aef,Nat.sub_self,set_cons_zero,S,map_append,←agE];rfl
     ·have C:=h.bg 5 [0,3,2,4] Z;have W:aV (.slice d (q.l.length+1) y) 3 1 (q.l.length+1) (ints .i64 q.l++[.i x.block])=bW.row ⟨d,y,q.l++[x.block]⟩:=by
       unfold bW.row;rw[gY,length_append];rfl
      rw[W] at C;have M:=Sat.Na (l:=GD.map bW.row) (k:=j) (by rw[length_map];omega) C;have e2:(GD.map bW.v).set (0+(j:Int).toNat*1) (.slice d (q.l.length+1) y)=(GD.set j ⟨d,y,q.l++[x.block]⟩).map bW.v:=by
       rw[show 0+((j:Nat):Int).toNat*1=j by omega,map_set];show _=(GD.map bW.v).set j (.slice d (q.l++[x.block]).length y);rw[length_append];rfl
      rw[e2,←map_set] at M;exact M.bg 4 [3,1,0] Z
    ·refine WL.buildSlice (E:=3) (cs:=[_]) (vs:=[(0,_)]) ⟨ak Z,trivial⟩ Z (dJ _) Z (λx3=>aj "cm5" ?_);refine WL.val (V.load isAgg124 (ak Z) (λ_=>by repeat (first | exact Rd.here N | apply Rd.up))) Z<|aj "cm9?" ?_;refine WL.append (m:=q.l.length) (q:=1) (news:=[.i x.block]) underlying124 Me (ak Z) (ak Z) (Seq.all Z) (by intro u Y;rw[mem_singleton.1 Y];rfl) ay Z Z (λd y Zu wQ=> ?_);refine aj "c~e:m;" ?_;refine WL.store (cs:=[_]) sizeOf124 (ak Z) (ak Z) Z Z Z (bT.up (bT.up (bT.at_ (by rw[length_map];omega))))<|aj "*8" ?_;refine⟨(k+1,GD.set j ⟨d,y,q.l++[x.block]⟩),⟨vX,by show (GD.set _ _).length=aJ;rw[length_set];exact Ki, ?_⟩,(by show r.l.length-1-(k+1)<r.l.length-1-k;omega),.cons Z bC,λw h=> ?_⟩
     ·show (GD.set j _).map bW.l=_;rw[map_set,U7,set_append_right _ _ ay,aef,Nat.sub_self,set_cons_zero,S,map_append,←agE];rfl
     ·have C:=h.bg 5 [0,3,2,4] Z;have W:aV (.slice d (q.l.length+1) y) 3 1 (q.l.length+1) (ints .i64 q.l++[.i x.block])=bW.row ⟨d,y,q.l++[x.block]⟩:=by
       unfold bW.row;rw[gY,length_append];rfl
      rw[W] at C;have M:=Sat.Na (l:=GD.map bW.row) (k:=j) (by rw[length_map];omega) C;have e2:(GD.map bW.v).set (0+(j:Int).toNat*1) (.slice d (q.l.length+1) y)=(GD.set j ⟨d,y,q.l++[x.block]⟩).map bW.v:=by
       rw[show 0+((j:Nat):Int).toNat*1=j by omega,map_set];show _=(GD.map bW.v).set j (.slice d (q.l++[x.block]).length y);rw[length_append];rfl
      rw[e2,←map_set] at M;exact M.bg 4 [3,1,0] Z
   ·refine aj "K8" ?_;refine⟨(j+1,GD),⟨BF,Ki, ?_⟩,(by show aJ-(j+1)<aJ-j;omega),.cons Z bC,λw h=>h.bg 1 [] Z⟩;obtain rfl:k=r.l.length-1:=by omega
    show GD.map bW.l=_;rw[U7,Du,I,take_of_length_le (l:=b) ay,append_assoc];rfl
 ·refine aj "KeF" ?_;obtain rfl:j=aJ:=by omega
  refine aF.ret (H':=ah b8 124 (fA.map bW.v)::bK (fA.map bW.row)::F) (bJ.eU Z Z Z) (λw h=>h.bg 4 [0,1] Z) ⟨b8,fA,GQ, ?_,Z,Z⟩;rw[ZA,take_of_length_le ay,Nat.sub_self,replicate_zero,append_nil]
structure St where
 stands:List Int
 cu:List (List Int)
 (next at_:Int)
 dead:Bool
def oh(S:aD)(aJ:Nat):St:=⟨kT aJ S.dV,qy aJ S.dV,pE S.dV,0,false⟩
namespace St
def ready(T:St)(aS:Int):Int:=if T.dead then 70 else if aS<0∨(T.stands.length:Int)≤aS then 1 else 0
def told(T:St)(e:Int):St:= { T with dead:=T.dead||decide (e=70) }
def lF(T:St)(aS:Int):Int:=T.stands.getD aS.toNat 0
end St
structure bZ where
 stands:List Int
 sA:Option Addr
 sc:Nat
 b8:Nat
 fA:List bW
 (next at_:Int)
 dead:Bool
namespace bZ
def aC(T:bZ):St:=⟨T.stands,T.fA.map bW.l,T.next,T.at_,T.dead⟩
abbrev cells(T:bZ)(bd:Nat)(g:bQ):List Value:=[ptr bd 0,.i g.bl,.i g.pg,.i g.se,.i g.sb,.i g.fl,.slice T.sA T.stands.length T.sc,.slice (some ⟨T.b8,0,none⟩) T.fA.length T.fA.length,.i T.next,.i T.at_,.bool T.dead]
abbrev sl(T:bZ):aH:=aV (.slice T.sA T.stands.length T.sc) 3 1 T.stands.length (ints .i64 T.stands)
abbrev parts(bs bd:Nat)(g:bQ)(T:bZ):List aH:=[ah bs 127 (T.cells bd g),T.sl,ah T.b8 124 (T.fA.map bW.v),bK (T.fA.map bW.row)]
def A(bs bd:Nat)(g:bQ)(T:bZ):aH:=bK (parts bs bd g T)
structure Ok(g:bQ)(T:bZ):Prop where
 len:T.fA.length=T.stands.length
 aJ:1≤T.stands.length∧T.stands.length≤64
 next:1≤T.next∧T.next≤1000000001
 at_:0≤T.at_∧T.at_<g.bl
 Md:∀b∈T.stands,-1≤b∧b<g.bl
end bZ
theorem Seq.xM(hA:A∈l)(h:Seq K [A] B m s vs):Seq K (bK l::H) B m s vs:=⟨h.len,λi v a=>Rd.xM hA (h.rd i v a)⟩
theorem bZ.FH:fH K (bZ.A bs bd g T::F) bs 0 (T.cells bd g):=λi v a=>by
 show Rd K (bK (bZ.parts bs bd g T)::F) _ v;refine Rd.xM (A:=ah bs 127 (T.cells bd g)) (.head _) (Rd.here ?_);rw[Nat.zero_add];exact a
theorem bZ.rdg:fH K (bZ.A bs bd g T::F) bs 1 [.i g.bl,.i g.pg,.i g.se,.i g.sb,.i g.fl]:=λi v a=>by
 have b:∀k v,(T.cells bd g)[k]? =some v→Rd K (bZ.A bs bd g T::F) (some ⟨bs,k,none⟩) v:=λk v d=>by
  have :=bZ.FH (K:=K) (F:=F) (bs:=bs) (bd:=bd) (g:=g) (T:=T) k v d
  rwa [Nat.zero_add] at this
 match i,a with
 | 0,a=>exact b 1 v a
 | 1,a=>exact b 2 v a
 | 2,a=>exact b 3 v a
 | 3,a=>exact b 4 v a
 | 4,a=>exact b 5 v a
theorem bZ.aks:Seq K (bZ.A bs bd g T::F) T.sA T.stands.length 1 (ints .i64 T.stands) :=
 Seq.xM (A:=T.sl) (l:=bZ.parts bs bd g T) (.tail _ (.head _)) (aV.seq (by rw[bR,Nat.mul_one]))
theorem bZ.rdS(h:0≤aS∧aS<T.stands.length):Rd K (bZ.A bs bd g T::F) (T.sA.map (·.add (aS.toNat*1))) (.i (T.aC.lF aS)):=Seq.dD bZ.aks h
theorem aB.afd(h:aB prog f args K (bZ.parts bs bd g T++F) post):aB prog f args K (bZ.A bs bd g T::F) post:=h.sat λw a=>a.yJ
theorem aav(h:∀x∈fs,0≤x.block∧x.block<B)(hB:0<B):∀b∈kT aJ fs,-1≤b∧b<B:=λb d=>by
 unfold kT at d;obtain⟨l,a,rfl⟩:=mem_map.1 d;unfold ji at a;obtain⟨aS,_,rfl⟩:=mem_map.1 a;unfold wG;cases hx:(eP (jU qK) (fs.filter (nE aS))).getLast? with
 | none=>exact⟨by decide,by dsimp only;omega⟩
 | some x =>
  have e:=zk.1 (mem_of_getLast? hx);have :=h x (mem_filter.1 e).1;exact⟨by dsimp only;omega,this.2⟩
theorem xq{S:aD}(hg:S.g.aU)(h:S.ko b=some x):x.block=b∧x.hd.may S.g=true:=by
 unfold aD.ko at h;split at h
 ·cases h
 ·split at h
  ·cases h
  ·rename_i a;injection h with h
   subst h;exact⟨Z,(um hg a).2.1⟩
theorem FL{S:aD}(hg:S.g.aU):∀x∈S.dV,(0≤x.block∧x.block<S.g.bl)∧x.hd.may S.g=true:=λx a=>by
 unfold aD.dV at a;obtain⟨b,h,hs⟩:=mem_filterMap.1 a;obtain⟨e,d⟩:=xq hg hs;have j:=aD.qB S _ b h;unfold bQ.aU at hg;exact⟨by rw[e];omega,d⟩
theorem Hd.Ud{h:Hd}(hm:h.may g=true):1≤h.num∧h.num≤1000000000:=by simp_all [Hd.may,Bool.and_eq_true,decide_eq_true_eq]
theorem Qw(h0:0<fs.length):∀k,k<fs.length→xD c fs k∈fs
 | 0,_=>by show fs.getD 0 JF∈fs;simp only[getD,getElem?_eq_getElem h0];exact getElem_mem _
 | k+1,hk=>by
  rw[xD];split
  ·simp only[getD,getElem?_eq_getElem hk];exact getElem_mem _
  ·exact Qw h0 k ay
theorem O7(h:∀x∈fs,1≤x.hd.num∧x.hd.num≤1000000000):1≤pE fs∧pE fs≤1000000001:=by grind [pE,Qw]
theorem Te{C:Cw}(hC:C.Ok)(hg:C.g=g){aJ:Nat}(hl:1≤aJ∧aJ≤64)(h19:g.bl≤19)(he:C.aC.om=0):aB prog 31 #[ptr bd 0,.i (aJ:Int)] K (C.A bc::dA bd bc g::F)
 (λv H'=>∃bs:Nat,∃T:bZ,T.Ok g∧T.aC=oh C.aC aJ∧v= .tuple #[ptr bs 0,.i 0]∧H'=C.A bc::dA bd bc g::T.A bs bd g::F):=by
 have yO:g.aU:=by rw[←hg];exact hC.aU
 have uJ:=yO;unfold bQ.aU at uJ;have Zo:=FL (S:=C.aC) hC.aU;have d:C.aC.dV.length≤19:=by
  have j:=aD.jK C.aC C.aC.g.bl.toNat;have k:C.aC.g.bl.toNat≤19:=by rw[show C.aC.g=C.g from Z,hg];omega
  unfold aD.dV;refine Nat.le_trans (length_filterMap_le _ _) ?_;unfold aD.dW;omega
 obtain⟨fs,a⟩:∃fs,fs=C.aC.dV:=⟨_,Z⟩;have Zk:=O7 (fs:=fs) (λx b=>Hd.Ud (Zo x (by rw[←a];exact b)).2);refine aB.en func31 ntmps31 ?_;refine aj "alf~b2qrP%~jIc~&T" ?_;refine WL.c1 call99 Z (QT hC hg h19 he) Z ?_;rintro _ _ ⟨u,cf,rfl,rfl⟩;rw[←a] at d Zo ⊢;refine aj "Hfu2Tb" ?_;refine WL.t1 call100 Z (kg) Z<|WL.val (V.build (vs:=[(0,_),(1,_)]) ⟨ak Z,ak Z,trivial⟩ Z (Tp _ _ _ _ _ _)) Z<|WL.box (cs:=[_,_,_,_,_,_,_,_,_,_,_]) (ak Z) Z Z (λVa=>aj "ixb" ?_);refine WL.c2 call101 Z Z (Qr (fs:=fs) hl (by repeat (first | exact aV.seq (gT _) | apply Seq.up)) Z ay (λx b=>by have :=Hd.Ud (Zo x b).2;omega)) Z ?_;rintro _ _ ⟨r,m,rfl,rfl⟩;refine aj "5~MU~~`U~~`cex" ?_;refine WL.c2 call102 Z Z (Mx (fs:=fs) hl (by repeat (first | exact aV.seq (gT _) | apply Seq.up)) Z ay) Z ?_;rintro _ _ ⟨n,fA,GQ,ZA,rfl,rfl⟩;refine aj "5U~~`ceF" ?_;obtain⟨T,e⟩:∃T:bZ,T=⟨kT aJ fs,r,m,n,fA,pE fs,0,false⟩:=⟨_,Z⟩;have l7:=mY aJ fs;refine aF.ret (H':=C.A bc::dA bd bc g::T.A Va bd g::F) (bJ.eU Z Z Z) (λw h=> ?_) ⟨Va,T, ?_, ?_,Z,Z⟩
 ·have j:=h.bg 7 [3,2,0,1,4,5] Z;have k:=Sat.all (l:=bZ.parts Va bd g T) (H:=C.A bc::dA bd bc g::F) (K:=K) (w:=w) (by
   unfold bZ.parts bZ.cells bZ.sl;rw[e];dsimp only;rw[l7,GQ];exact j)
  exact k.bg 3 [1,2,0] Z
 ·rw[e];refine⟨by show fA.length=(kT aJ fs).length;omega,by show 1≤(kT aJ fs).length∧(kT aJ fs).length≤64;omega,by show 1≤pE fs∧pE fs≤1000000001;omega,by show (0:Int)≤0∧0<g.bl;omega, ?_⟩;exact aav (λx b=>by have :=(Zo x b).1;rw[show C.aC.g=C.g from Z,hg] at this;exact this) ay
 ·rw[e];unfold bZ.aC oh;rw[←a,ZA]
theorem Ut{T:bZ}:aK prog 87 #[ptr bs 0] K (T.A bs bd g::F) (.i (T.stands.length:Int)):=by
 refine aB.en func87 ntmps87 ?_;refine aj "af~b2TU" ?_;refine WL.val (V.load isAgg124 (ak Z) (λ_=>bZ.FH 6 _ Z)) Z<|aj "jd" ?_;exact qR (T.A bs bd g::F) Z Z cO ⟨Z,Z⟩
theorem X4{T:bZ}(hg:g.aU):aK prog 50 #[ptr bs 0] K (T.A bs bd g::F) (.i g.cap):=by
 refine aB.en func50 ntmps50 ?_;refine aj "af~b2TU" ?_;refine WL.val (V.fE (vs:=[.i g.bl,.i g.pg,.i g.se,.i g.sb,.i g.fl]) ⟨isAgg23,sizeOf23⟩ (ak Z) Z (λ_=>bZ.rdg)) Z<|WL.t1 call110 Z (QE hg) Z<|aj "Hid" ?_;exact qR (T.A bs bd g::F) Z Z cO ⟨Z,Z⟩
theorem xk{T:bZ}(aS:Int):aK prog 61 #[ptr bs 0,.i aS] K (T.A bs bd g::F) (.i (T.aC.ready aS)):=by
 obtain⟨X,a⟩:∃X,X=T.aC.ready aS:=⟨_,Z⟩;rw[←a];unfold St.ready bZ.aC at a;dsimp only at a;refine aB.en func61 ntmps61 ?_;refine aj "atse~bo~IeU" ?_;refine WL.val (V.load isAgg4 (ak Z) (λ_=>bZ.FH 10 _ Z)) Z<|aj "oJ" (aW (λd=> ?_) λd=> ?_)
 ·rw[d] at a;refine aj "D" ?_;exact qR (T.A bs bd g::F) Z Z cO ⟨by rw[a];rfl,Z⟩
 ·rw[d] at a;rw[if_neg Bool.false_ne_true] at a;refine aj "eP%~z~~w~!" ?_;refine WL.bI (oj:=_) Z Z Z GC.f (V.load isAgg124 (OV.g Z id) (λ_=>bZ.FH 6 _ Z)) Z<|aj "~p~~XIoJ" (aW (λb=> ?_) λb=> ?_)
  ·simp only[Bool.or_eq_true,Bool.or_eq_false_iff,cZ] at b;rw[if_pos b] at a;refine aj "D" ?_;exact qR (T.A bs bd g::F) Z Z cO ⟨by rw[a],Z⟩
  ·simp only[Bool.or_eq_true,Bool.or_eq_false_iff,cZ] at b;rw[if_neg (by rintro (h | h);exact b.1 h;exact b.2 h)] at a;refine aj "qD" ?_;exact qR (T.A bs bd g::F) Z Z cO ⟨by rw[a],Z⟩
def bZ.told(T:bZ)(e:Int):bZ:= { T with dead:=T.dead||decide (e=70) }
theorem bZ.Ok.told{T:bZ}(h:T.Ok g)(e:Int):(T.told e).Ok g:=⟨h.len,h.aJ,h.next,h.at_,h.Md⟩
theorem qx{T:bZ}(e:Int):aB prog 65 #[ptr bs 0,.i e] K (T.A bs bd g::F) (λv H'=>v= .i e∧H'=(T.told e).A bs bd g::F):=by
 refine aB.afd ?_;dsimp only[bZ.parts,cons_append,nil_append];refine aB.en func65 ntmps65 ?_;refine aj "a0[k%~~$IU~oced" ?_;exact qR ((T.told e).A bs bd g::F) Z Z (λw h=>Sat.all (l:=bZ.parts bs bd g (T.told e)) h) ⟨Z,Z⟩
theorem TP{T:bZ}{C:Cw}(hC:C.Ok)(hg:C.g=g):aK prog 66 #[ptr bs 0] K (C.A bc::dA bd bc g::T.A bs bd g::F) (.i (if C.aC.om=70 then 70 else 6)):=by
 refine aB.en func66 ntmps66 ?_;refine aj "afU" ?_;refine WL.val (V.load isAgg70 (ak Z) (λ_=>Rd.up (Rd.up (bZ.FH 0 _ Z)))) Z<|WL.t3 call126 Z Z Z (vN hC hg 0 0 aN) Z<|aj "Hi;c1" (aW (λa=> ?_) λa=> ?_)
 ·refine aj "ed" ?_;exact qR (C.A bc::dA bd bc g::T.A bs bd g::F) Z Z cO ⟨by rw[if_pos (show C.aC.om=70 from a)];exact congrArg _ a,Z⟩
 ·refine aj "qD" ?_;exact qR (C.A bc::dA bd bc g::T.A bs bd g::F) Z Z cO ⟨by rw[if_neg (show ¬C.aC.om=70 from a)],Z⟩
theorem ZV(hd:tZ t d m=some (p,k)):p.1.length=d.length:=by grind [tZ,ug]
theorem SQ(hr:raw.length=kI S B t)(he:(gK t S B raw).err=0):(gK t S B raw).d.length=S*B:=by
 unfold gK at he ⊢;split at he
 ·rename_i h;exact absurd he h
 ·rename_i h;rw[if_neg h];have a:∀(l:List (Option (LL×Nat))) (d:List Nat) (n:Nat),(∀o∈l,∀p k,o=some (p,k)→p.1.length=B)→(lV l d n).err=0→(lV l d n).d.length=d.length+l.length*B:=λl=>by
   induction l with
   | nil=>intro d n _ _;show d.length=_;simp
   | cons o l ih =>
    intro d n h he;cases o with
    | none=>exact absurd he (by show ¬(50=0);decide)
    | some r =>
     obtain⟨p,k⟩:=r;rw[lV] at he ⊢;have u:=ih (d++p.1) (max n k) (λo b=>h o (.tail _ b)) he;have y:=h _ (.head _) p k Z;rw[length_append] at u;rw[length_cons,succ_mul];omega
  have :=a ((List.range S).map (FY t B (B+aR t) raw)) [] 0 (λo b p k m=>by
   obtain⟨j,e,rfl⟩:=mem_map.1 b;have e:=mem_range.1 e;unfold FY at m;rw[ZV m];unfold F4;have x:(j+1)*(B+aR t)≤S*(B+aR t):=mul_le_mul_right _ e;rw[succ_mul] at x;rw[length_take,length_drop,hr];unfold kI;omega) he
  rw[length_map,length_range] at this
  simpa using this
theorem Cw.Ok.Si{C:Cw}(hC:C.Ok)(he:(C.aC.bY b p).err=0):(C.aC.bY b p).d.length=C.g.room.toNat:=by
 have a:=hC.aU;unfold aD.bY at he ⊢;split at he
 ·rename_i h;exact absurd he h
 ·rename_i h;rw[if_neg h];have e:(gK C.aC.g.fl.toNat C.aC.g.se.toNat C.aC.g.sb.toNat (C.aC.kI b p)).err=0:=by
   have Za:((gK C.aC.g.fl.toNat C.aC.g.se.toNat C.aC.g.sb.toNat (C.aC.kI b p)).err:Int)=0:=he;omega
  have d:=SQ (by rw[(hC.uO b p).2.2,bQ.uZ a,Int.toNat_natCast];rfl) e;show (gK _ _ _ _).d.length=_;rw[d,bQ.Jv a,Int.toNat_natCast];rfl
theorem bQ.Ll{g:bQ}(hg:g.aU)(h:g.fits n=true):0≤g.bN n∧g.bN n≤g.pg-1∧n≤g.bN n*g.room∧(n≤0→g.bN n=0):=by
 have k:=bQ.kP hg;have uJ:=hg;unfold bQ.aU at uJ;unfold bQ.fits at h;simp only[Bool.and_eq_true,decide_eq_true_eq] at h;have b:=Int.emod_add_mul_ediv (n+g.room-1) g.room;have l:=Int.emod_lt_of_pos (n+g.room-1) (show 0<g.room by omega);have r:=Int.emod_nonneg (n+g.room-1) (show g.room≠0 by omega);have a:g.bN n=(n+g.room-1)/g.room:=rfl;rw[←a,Int.mul_comm] at b;have d:0≤g.bN n:=by rw[a];exact Int.ediv_nonneg ay ay
 refine⟨d, ?_,by omega,λj=> ?_⟩
 ·have u:g.bN n*g.room≤g.cap+g.room-1:=by omega
  have m:g.cap+g.room=g.pg*g.room:=by unfold bQ.cap;rw[Int.sub_mul,Int.one_mul];omega
  have e:g.bN n*g.room<g.pg*g.room:=ay;have :=Int.lt_of_mul_lt_mul_right e ay;omega
 ·have :n=0:=by omega
  rw[a,this];exact Int.ediv_eq_zero_of_lt ay ay
def iA(S:aD)(b:Int)(n0:Nat):Nat→aD.Got
 | 0=>⟨0,[],n0⟩
 | k+1=>if (iA S b n0 k).err≠0 then iA S b n0 k
  else if (S.bY b (1+(k:Int))).err≠0 then ⟨(S.bY b (1+(k:Int))).err,[],0⟩
  else ⟨0,(iA S b n0 k).d++(S.bY b (1+(k:Int))).d,max (iA S b n0 k).n (S.bY b (1+(k:Int))).n⟩
theorem KX(h:(iA S b n0 k).err≠0):∀m,iA S b n0 (k+m)=iA S b n0 k
 | 0=>rfl
 | m+1=>by rw[←Nat.add_assoc,iA,KX h m,if_pos h]
def dZ(S:aD)(T:St)(aS:Int):aD.Got×St :=
 if T.ready aS≠0 then (⟨T.ready aS,[],0⟩,T)
 else if T.lF aS<0 then (⟨5,[],0⟩,T)
 else if (S.bY (T.lF aS) 0).err≠0 then (⟨(S.bY (T.lF aS) 0).err,[],0⟩,T.told (S.bY (T.lF aS) 0).err)
 else if iR S.g (S.bY (T.lF aS) 0).d≠0 then (⟨iR S.g (S.bY (T.lF aS) 0).d,[],0⟩,T)
 else if (iA S (T.lF aS) (S.bY (T.lF aS) 0).n (S.g.bN (gQ S.g (S.bY (T.lF aS) 0).d).len).toNat).err≠0 then
  (⟨(iA S (T.lF aS) (S.bY (T.lF aS) 0).n (S.g.bN (gQ S.g (S.bY (T.lF aS) 0).d).len).toNat).err,[],0⟩,T.told (iA S (T.lF aS) (S.bY (T.lF aS) 0).n (S.g.bN (gQ S.g (S.bY (T.lF aS) 0).d).len).toNat).err)
 else (⟨0,(iA S (T.lF aS) (S.bY (T.lF aS) 0).n (S.g.bN (gQ S.g (S.bY (T.lF aS) 0).d).len).toNat).d.take (gQ S.g (S.bY (T.lF aS) 0).d).len.toNat,(iA S (T.lF aS) (S.bY (T.lF aS) 0).n (S.g.bN (gQ S.g (S.bY (T.lF aS) 0).d).len).toNat).n⟩,T)
theorem ad8(hn:n≤m):∀w,Sat K w (aV (.slice A m cap) E 1 m cs::F)→Sat K w (aV (.slice A n cap) E 1 n (cs.take n)::F):=λw h=>by
 cases A with
 | none =>
  obtain⟨b,d,j⟩:=aV.yM h;obtain rfl:n=0:=by omega
  subst b d j;exact h
 | some a =>
  obtain⟨g,rfl⟩:=aV.addr h;obtain⟨r,⟨b,d,j,k⟩,l⟩:=Sat.nU h;have e:=Sat.BX (m:=n) (cap:=cap) (s:=1) l b ay k;rw[Nat.mul_one,take_append_of_le_length ay] at e;exact e
theorem QV(hg:g.aU)(h:iR g d=0):(gQ g d).may g=true∧jr g d=some (gQ g d):=by
 unfold iR at h;unfold gQ;cases hp:jr g d with
 | none=>rw[hp] at h;dsimp only at h;split at h<;>cases h
 | some x=>exact⟨(um hg hp).2.1,Z⟩
theorem AA{T:bZ}{C:Cw}(hC:C.Ok)(hg:C.g=g)(hT:T.Ok g)(aS:Int):aB prog 26 #[ptr bs 0,.i aS] K (C.A bc::dA bd bc g::T.A bs bd g::F)
 (λv H'=>∃(A':Option Addr) (c':Nat) (T':bZ),T'.Ok g∧T'.aC=(dZ C.aC T.aC aS).2∧v= .tuple #[.slice A' (dZ C.aC T.aC aS).1.d.length c',.i ((dZ C.aC T.aC aS).1.n:Nat),.i (dZ C.aC T.aC aS).1.err] ∧
  H'=aV (.slice A' (dZ C.aC T.aC aS).1.d.length c') 5 1 (dZ C.aC T.aC aS).1.d.length (av .u8 (dZ C.aC T.aC aS).1.d)::C.A bc::dA bd bc g::T'.A bs bd g::F):=by
 have yO:g.aU:=by rw[←hg];exact hC.aU
 have Od:C.aC.g=g:=hg;have RN:=bQ.kP yO;have uJ:=yO;unfold bQ.aU at uJ;obtain⟨X,a⟩:∃X,X=dZ C.aC T.aC aS:=⟨_,Z⟩;rw[←a];unfold dZ at a;rw[Od] at a;have BG:T.aC.ready aS=0→0≤aS∧aS<T.stands.length:=λh=>by
  unfold St.ready bZ.aC at h;dsimp only at h;split at h
  ·cases h
  ·split at h
   ·cases h
   ·omega
 refine aB.en func26 ntmps26 ?_;refine aj "allfb~~m" ?_;refine WL.c2 call61 Z Z (xk aS) Z ?_;rintro _ _ ⟨rfl,rfl⟩;refine aj "~~liuc~h" (aW (λh0=> ?_) λh0=> ?_)
 ·rw[if_pos h0] at a;refine aj "elF" ?_;subst a;exact aF.ret (H':=aV (.slice none 0 0) 5 1 0 []::C.A bc::dA bd bc g::T.A bs bd g::F) (bJ.Bl Z Z Z Z) (λw h=>Sat.gI h _ _) ⟨none,0,T,hT,Z,Z,Z⟩
 ·have KC:T.aC.ready aS=0:=ay;rw[if_neg (λh=>h KC)] at a;have Oe:=BG KC;obtain⟨b,hb⟩:∃b,b=T.aC.lF aS:=⟨_,Z⟩;rw[←hb] at a;have tu:∀ {X Y:aH},Rd K (X::Y::T.A bs bd g::F) (T.sA.map (·.add (aS.toNat*1))) (.i b):=λ{X Y}=>by rw[hb];exact Rd.up (Rd.up (bZ.rdS Oe))
  refine aj "TU" ?_;refine WL.val (V.load isAgg124 (ak Z) (λ_=>Rd.up (Rd.up (bZ.FH 6 _ Z)))) Z<|WL.mv Z Z<|WL.val (V.dw eB (ak Z) (ak Z) (λ_=>Oe) (λ_=>tu)) Z<|WL.val (V.load isAgg3 (ak Z) (λ_=>tu)) Z<|aj "fPc1" (aW (λh1=> ?_) λh1=> ?_)
  ·rw[if_pos h1] at a;refine aj "alF" ?_;subst a;exact aF.ret (H':=aV (.slice none 0 0) 5 1 0 []::C.A bc::dA bd bc g::T.A bs bd g::F) (bJ.Bl Z Z Z Z) (λw h=>Sat.gI h _ _) ⟨none,0,T,hT,Z,Z,Z⟩
  ·rw[if_neg h1] at a;refine aj "TU" ?_;refine WL.val (V.load isAgg70 (ak Z) (λ_=>Rd.up (Rd.up (bZ.FH 0 _ Z)))) Z<|WL.mv Z Z (WL.c3 call90 Z Z Z (xB hC hg b 0) Z ?_);rintro _ _ ⟨Ad,cd,rfl,rfl⟩;obtain⟨G,hG⟩:∃G,G=C.aC.bY b 0:=⟨_,Z⟩;have H:=hC.rQ b 0;rw[←hG] at H a ⊢;refine aj "5~Mllfuc~h" (aW (λh2=> ?_) λh2=> ?_)
   ·rw[if_pos h2] at a;refine aj "eb" ?_;refine WL.sub (Sub.refl _) (λw h=>h.bg 4 [3,1,2] Z)<|WL.c2 call65 Z Z (qx G.err) Z ?_;rintro _ _ ⟨rfl,rfl⟩;refine aj "lF" ?_;subst a;exact aF.ret (H':=aV (.slice none 0 0) 5 1 0 []::C.A bc::dA bd bc g::(T.told G.err).A bs bd g::F) (bJ.Bl Z Z Z Z) (λw h=>Sat.gI (h.bg 3 [1,2,0] Z) _ _) ⟨none,0,T.told G.err,hT.told _,Z,Z,Z⟩
   ·rw[if_neg (λh=>h ay)] at a;obtain⟨Q,ZF⟩:∃Q,Q=iR g G.d:=⟨_,Z⟩;obtain⟨e,B⟩:∃e,e=gQ g G.d:=⟨_,Z⟩;rw[←ZF,←B] at a;refine aj "TU" ?_;refine WL.val (V.fE (vs:=[.i g.bl,.i g.pg,.i g.se,.i g.sb,.i g.fl]) ⟨isAgg23,sizeOf23⟩ (ak Z) Z (λ_=>fH.up (fH.up (fH.up bZ.rdg)))) Z<|WL.mv Z Z<|WL.t2 call91 Z Z (aK.eq (v':= .tuple #[e.v,.i Q]) (IK (d:=G.d) yO (aV.seq (by rw[au,Nat.mul_one])) H.1 ay) (by rw[B,ZF])) Z<|aj "5v" λx=> ?_;refine aj "~|fuc~h" (aW (λh3=> ?_) λh3=> ?_)
    ·rw[if_pos h3] at a;refine aj "elF" ?_;subst a;exact aF.ret (H':=aV (.slice none 0 0) 5 1 0 []::C.A bc::dA bd bc g::T.A bs bd g::F) (bJ.Bl Z Z Z Z) (λw h=>Sat.gI (h.bg 5 [2,3,4] Z) _ _) ⟨none,0,T,hT,Z,Z,Z⟩
    ·have O:Q=0:=ay;rw[if_neg (λh=>h O)] at a;have Oj:e.may g=true:=by rw[B];exact (QV yO (by rw[←ZF];exact O)).1
     have JG:=Oj;unfold Hd.may at JG;simp only[Bool.and_eq_true,decide_eq_true_eq] at JG;have JD:=JG.1.1.1.1;have I:=JD;unfold bQ.fits at I;simp only[Bool.and_eq_true,decide_eq_true_eq] at I;have FR:=bQ.vL yO;have D:=bQ.Ll yO JD;obtain⟨N,hN⟩:∃N:Nat,g.bN e.len=(N:Int):=⟨(g.bN e.len).toNat,by omega⟩;rw[hN,Int.toNat_natCast] at a;rw[hN] at D;obtain⟨n,y⟩:∃n:Nat,e.len=(n:Int):=⟨e.len.toNat,by omega⟩;refine aj "7t~i$~>~t" ?_;refine WQ.val (V.fE (vs:=[.i g.bl,.i g.pg,.i g.se,.i g.sb,.i g.fl]) ⟨isAgg23,sizeOf23⟩ (ak Z) Z (λ_=>by repeat (first | exact bZ.rdg | apply fH.up))) Z<|aj "~t~F" ?_;refine WQ.call (vs:=[_,_]) call92 ⟨ak Z,ak Z,trivial⟩ (aK.eq (v':= .tuple #[.i (N:Int),.i 0]) (AL yO ay) (by rw[JD,hN];rfl)) Z<|aj "$" ?_;refine WQ.val (V.extract (ak Z) Z) Z (WQ.val (V.extract (ak Z) Z) Z (aj "~n~n~dLL" ?_));refine WC.sub (H':=C.A bc::dA bd bc g::T.A bs bd g::aV (.slice none 0 0) 5 1 0 []::ah x 157 [.i e.aS,.i e.len,.i e.num]::F) (Sub.refl _) (λw h=>(Sat.gI (h.bg 5 [0,2,3,4] Z) 5 1).bg 5 [2,3,4,0,1] Z) ?_;have JQ:∀k,k≤N→(iA C.aC b G.n k).err=0→(iA C.aC b G.n k).d.length=k*g.room.toNat:=λk=>by
      induction k with
      | zero=>intro _ _;show ([]:List Nat).length=_;simp
      | succ k ih =>
       intro hk M;rw[iA] at M ⊢;split at M
       ·rename_i h;exact absurd M h
       ·rename_i h;rw[if_neg h];split at M
        ·rename_i h';exact absurd M h'
        ·rename_i h';rw[if_neg h'];have h4:=hC.Si (b:=b) (p:=1+(k:Int)) ay;show ((iA C.aC b G.n k).d++(C.aC.bY b (1+(k:Int))).d).length=_;rw[length_append,ih ay ay,h4,hg,succ_mul]
     refine aj "gR" ?_;refine WC.loop (σ:=Nat×Option Addr×Nat) (λs=>[(0,ptr bs 0),(8,.i b),(10,.i ((iA C.aC b G.n s.1).n:Nat)),(12,ptr x 0),(13,.slice s.2.1 (iA C.aC b G.n s.1).d.length s.2.2),(72,.i (N:Int)),(73,.i (s.1:Int))]) (λs=>C.A bc::dA bd bc g::T.A bs bd g::aV (.slice s.2.1 (iA C.aC b G.n s.1).d.length s.2.2) 5 1 (iA C.aC b G.n s.1).d.length (av .u8 (iA C.aC b G.n s.1).d)::ah x 157 [.i e.aS,.i e.len,.i e.num]::F) (λs=>s.1≤N∧(iA C.aC b G.n s.1).err=0) (λs=>N-s.1) (0,none,0) ⟨zero_le _,Z⟩ bC cO ?_;rintro⟨k,Ao,co⟩ ⟨hk,YX⟩;dsimp only at hk YX ⊢;obtain⟨r,hr⟩:∃r,r=iA C.aC b G.n k:=⟨_,Z⟩;have pG:=JQ k hk YX;rw[←hr] at YX pG ⊢;have x4:k*g.room.toNat≤63*4096:=Nat.mul_le_mul ay ay;refine aj "V1" (aW (λmQ=> ?_) λmQ=> ?_)
     ·have vX:k<N:=ay;have dL:iA C.aC b G.n (k+1)=if (C.aC.bY b (1+(k:Int))).err≠0 then ⟨(C.aC.bY b (1+(k:Int))).err,[],0⟩ else ⟨0,r.d++(C.aC.bY b (1+(k:Int))).d,max r.n (C.aC.bY b (1+(k:Int))).n⟩:=by rw[iA,←hr,if_neg (λh=>h YX)]
      refine aj "YiU" ?_;refine WL.val (V.load isAgg70 (ak Z) (λ_=>Rd.up (Rd.up (bZ.FH 0 _ Z)))) Z<|aj "xZ" ?_;refine WL.c3 call90 Z Z Z (xB hC hg b (1+(k:Int))) Z ?_;rintro _ _ ⟨A2,c2,rfl,rfl⟩;have anU:=hC.rQ b (1+(k:Int));obtain⟨j,W⟩:∃j,j=C.aC.bY b (1+(k:Int)):=⟨_,Z⟩;rw[←W] at dL anU ⊢;refine aj "5~Mllfuc~h" (aW (λwQ=> ?_) λwQ=> ?_)
      ·have P:=wQ;rw[if_pos P] at dL;have x0:iA C.aC b G.n N=⟨j.err,[],0⟩:=by
        have :=KX (S:=C.aC) (b:=b) (n0:=G.n) (k:=k+1) (by rw[dL];exact P) (N-(k+1));rw[show k+1+(N-(k+1))=N by omega,dL] at this;exact this
       rw[x0,if_pos P] at a;refine aj "eb" ?_;refine WL.sub (Sub.refl _) (λw h=>h.bg 6 [3,1,2] Z)<|WL.c2 call65 Z Z (qx j.err) Z ?_;rintro _ _ ⟨rfl,rfl⟩;refine aj "lF" ?_;subst a;exact aF.ret (H':=aV (.slice none 0 0) 5 1 0 []::C.A bc::dA bd bc g::(T.told j.err).A bs bd g::F) (bJ.Bl Z Z Z Z) (λw h=>Sat.gI (h.bg 3 [1,2,0] Z) _ _) ⟨none,0,T.told j.err,hT.told _,Z,Z,Z⟩
      ·have P:=wQ;rw[if_neg (λh=>h ay)] at dL;refine aj "Tb" ?_;refine WL.sub (Sub.refl _) (λw h=>h.bg 5 [4,0,1,2,3] Z)<|WL.append (m:=r.d.length) (q:=j.d.length) (news:=av .u8 j.d) underlying34 yL (ak Z) (ak Z) (aV.seq (by rw[au,Nat.mul_one])) (jB .u8 j.d) ay Z Z (λA5 c5 Zu wQ=>aj "Ob~~xo8" ?_);refine⟨(k+1,A5,c5),⟨vX,by rw[dL]⟩,(by show N-(k+1)<N-k;omega),.cons Z (.cons Z (.cons (look_eq Z (by dsimp only;rw[dL];dsimp only;refine congrArg (Value.int .i64) ?_;omega)) (.cons Z (.cons (look_eq Z (by dsimp only;rw[dL];dsimp only;rw[length_append])) bC)))),λw h=> ?_⟩;dsimp only;rw[dL];dsimp only;rw[length_append,dx];exact h.bg 6 [2,3,4,0,5] Z
     ·refine aj "W" ?_;obtain rfl:k=N:=by omega
      rw[←hr,if_neg (λh=>h YX)] at a;have U:n≤r.d.length:=by
       have h6:=D.2.2.1;rw[y] at h6;have h7:((k*g.room.toNat:Nat):Int)=(k:Int)*g.room:=by rw[Int.natCast_mul];congr 1;omega
       omega
      have J:X.1.d=r.d.take n:=by rw[a,y];rfl
      have L:X.1.d.length=n:=by rw[J,length_take];omega
      refine WC.lG (p:=r.d.length≤co) (λw h=>by
       have R:=h.bg 4 [3] Z;obtain⟨_,x3,hv,x2,_⟩:=aV.shape R.head;injection hv with _ _ e3
       rw[e3];exact x2) (λJJ=> ?_)
      refine aj "gk" ?_;refine WL.val (V.aG (v':= .slice Ao n co) (V.slice (l:=0) (h:=n) (u:=co) dO (ak Z) OO.none (OO.some (ak Z) (λ_=>y)) OO.none (by simp) (zero_le _) ay (Nat.le_refl _)) (λ_=>by rw[Nat.sub_zero,Nat.sub_zero,zK])) Z<|aj "blF" ?_;refine aF.ret (H':=aV (.slice Ao X.1.d.length co) 5 1 X.1.d.length (av .u8 X.1.d)::C.A bc::dA bd bc g::T.A bs bd g::F) (bJ.Bl Z Z Z Z) (λw h=> ?_) ⟨Ao,co,T,hT,by rw[a],by rw[L,a],Z⟩;have R:=ad8 U w (h.bg 5 [3,0,1,2] Z);rw[dU,←J] at R;rw[L];exact R
def YN(b:Int)(xs:List Int):Int:=if b∈xs then (xs.idxOf b:Int) else-1
theorem ag9{xs:List Int}(h:i<xs.length)(hp:b∉xs.take i)(he:b=xs.getD i 0):YN b xs=(i:Int):=by
 have Kz:xs.getD i 0=xs[i]:=by simp[getD,h]
 rw[Kz] at he;have a:xs=xs.take i++b::xs.drop (i+1):=by
  rw[he,←drop_eq_getElem_cons h,take_append_drop]
 have d:b∈xs:=by rw[he];exact getElem_mem _
 unfold YN;rw[if_pos d];have :xs.idxOf b=i:=by
  rw[a,idxOf_append,if_neg hp,idxOf_cons_self,length_take];omega
 rw[this]
theorem aae:decide (YN b xs≥0)=decide (b∈xs):=by unfold YN;grind
theorem R6(hs:Seq K F A m 1 (ints .i64 xs))(hm:m≤1000000)(b:Int) :
 aK prog 187 #[.slice A m cap,.i b] K F (.i (YN b xs)):=by
 have l:xs.length=m:=by simpa [ints] using hs.len
 refine aB.en func187 ntmps187 ?_;refine aj "afjR" ?_;refine WC.loop (σ:=Nat) (λi=>[(0,.slice A m cap),(1,.i b),(7,.i (m:Int)),(8,.i (i:Int))]) (λi=>F) (λi=>i≤m∧b∉xs.take i) (λi=>m-i) 0 ⟨zero_le _,by simp⟩ bC cO ?_;rintro i ⟨k,d⟩;refine aj "V1" (aW (λaL=> ?_) λaL=> ?_)
 ·have j:i<m:=ay;have Bv:(i:Int).toNat=i:=ay;have Kz:xs.getD i 0=xs[i]'ay:=by simp[getD,show i<xs.length by omega]
  refine aj "Yix" ?_;refine WL.val (V.dw eB (ak Z) (ak Z) (λe=>by omega) (λe=>Seq.dD hs ay)) Z<|WL.val (V.load isAgg3 (ak Z) (λe=>Seq.dD hs ay)) Z<|aj ";h" (aW (λa=> ?_) λa=> ?_)
  ·simp only[cZ,Bv] at a;refine aj "ed" ?_;exact qR F Z Z cO ⟨by rw[ag9 ay d a],Z⟩
  ·simp only[cZ,Bv] at a;refine aj "q8" ?_;refine⟨i+1,⟨by show i+1≤m;omega, ?_⟩,(by show m-(i+1)<m-i;omega),.cons Z bC,λw h=>h⟩;rw[take_add_one,getElem?_eq_getElem ay,←Kz];simp only[Option.toList,mem_append,mem_singleton];rintro (h | h)
   ·exact d h
   ·exact a h
 ·refine aj "KD" ?_;obtain rfl:i=m:=by omega
  rw[take_of_length_le ay] at d;exact qR F Z Z cO ⟨by unfold YN;rw[if_neg d],Z⟩
theorem zU(hs:Seq K F A m 1 (ints .i64 xs))(hm:m≤1000000)(b:Int) :
 aK prog 119 #[.slice A m cap,.i b] K F (.bool (decide (b∈xs))):=by
 refine aB.en func119 ntmps119 ?_;refine aj "a0" ?_;refine WL.t2 call187 Z Z (R6 hs hm b) Z<|aj "~gd" ?_;exact qR F Z Z cO ⟨by rw[aae],Z⟩
theorem Xn(hb:Rd K F (some ⟨b3,0,none⟩) (.i b))(x:Int):aK prog 121 ([Value.int .i64 x]++[ptr b3 0]).toArray K F (.bool (decide (x=b))):=by
 simp only[cons_append,nil_append];refine aB.en func121 ntmps121 ?_;refine aj "ai" ?_;exact WL.val (V.load isAgg3 (ak Z) (λa=>hb)) Z<|aj ";d+" trivial
def gX(b:Int)(l:List Int):List Int:=l.filter λx=> !decide (x=b)
def St.forget(T:St)(b:Int):St:= { T with cu:=T.cu.map (gX b) }
theorem Nj{T:bZ}(hT:T.Ok g)(b:Int):aB prog 63 #[ptr bs 0,.i b] K (T.A bs bd g::F)
 (λv H'=>∃T':bZ,T'.Ok g∧T'.aC=T.aC.forget b∧H'=T'.A bs bd g::F):=by
 have arS:T.fA.length≤64:=by rw[hT.len];exact hT.aJ.2
 refine aB.afd ?_;dsimp only[bZ.parts,cons_append,nil_append];refine aB.en func63 ntmps63 ?_;refine aj "a~k" λa=> ?_;refine aj "ce[kjR" ?_;refine WC.loop (σ:=Nat×List bW) (λs=>[(0,ptr bs 0),(3,ptr a 0),(9,.slice (some ⟨T.b8,0,none⟩) T.fA.length T.fA.length),(10,.i (T.fA.length:Int)),(11,.i (s.1:Int))]) (λs=>ah T.b8 124 (s.2.map bW.v)::bK (s.2.map bW.row)::ah a 3 [.i b]::ah bs 127 (T.cells bd g)::T.sl::F) (λs=>s.1≤T.fA.length∧s.2.length=T.fA.length∧s.2.map bW.l=(T.fA.take s.1).map (λr=>gX b r.l)++(T.fA.drop s.1).map bW.l) (λs=>T.fA.length-s.1) (0,T.fA) ⟨zero_le _,Z,by simp⟩ bC (λw h=>h.bg 5 [3,4,0,1,2] Z) ?_;rintro⟨j,fA⟩ ⟨hj,GQ,ZA⟩;dsimp only at hj GQ ZA ⊢;have JM:(T.cells bd g)[7]? =some (.slice (some ⟨T.b8,0,none⟩) T.fA.length T.fA.length):=rfl;refine aj "V1" (aW (λaL=> ?_) λaL=> ?_)
 ·have Wx:j<T.fA.length:=ay;obtain⟨r,m⟩:∃r,r=fA[j]'ay:=⟨_,Z⟩;have RZ:fA[j]? =some r:=by rw[m];exact getElem?_eq_getElem ay
  have e:(fA.map bW.v)[0+((j:Nat):Int).toNat*1]? =some r.v:=by rw[show 0+((j:Nat):Int).toNat*1=j by omega,getElem?_map,RZ];rfl
  have acy:(fA.map bW.row)[j]'(by rw[length_map];omega)=r.row:=by rw[getElem_map,m]
  have pG:r.l=(T.fA[j]'ay).l:=by
   have d:(fA.map bW.l)[j]? =some r.l:=by rw[getElem?_map,RZ];rfl
   rw[ZA,getElem?_append_right (by rw[length_map,length_take];omega),length_map,length_take,show j-min j T.fA.length=0 by omega,getElem?_map,getElem?_drop,Nat.add_zero,getElem?_eq_getElem ay] at d;injection d with d
   exact d.symm
  refine aj "Y~x" ?_;refine WL.val (V.load isAgg124 (ak Z) (λ_=>Rd.here e)) Z ?_;refine aj "lo" ?_;refine WC.sub (H':=aV (.slice r.A r.l.length r.c) 3 1 r.l.length (ints .i64 r.l)::ah T.b8 124 (fA.map bW.v)::bK ((fA.map bW.row).eraseIdx j)::ah a 3 [.i b]::ah bs 127 (T.cells bd g)::T.sl::F) (Sub.refl _) (λw h=>by
   have n:=Sat.FQ (k:=j) (by rw[length_map];omega) (h.bg 2 [1,0] Z);rw[acy] at n;exact n.bg 3 [0,2,1] Z) ?_
  refine WC.dM (bK ((fA.map bW.row).eraseIdx j)::ah a 3 [.i b]::ah bs 127 (T.cells bd g)::T.sl::F) (by kernel_rfl)<|aj "n0~c142" ?_;refine WA.t 3 Z (V.load isAgg125 (ak Z) (λ_=>by repeat (first | exact Rd.here JM | apply Rd.up))) ?_;refine aj "n4n5" ?_;refine WA.t 6 Z (V.makeFunc (us:=[]) (vs:=[_]) trivial ⟨ak Z,trivial⟩) ?_;refine WA.o 7 Z ?_;refine WL.c2 call120 Z Z (Tk (xs:=r.l) (p:=λx=>decide (x=b)) (O1:=[ptr a 0]) call121 (λx _ X=>Xn lD x)) Z ?_;rintro _ _ ⟨q,C,rfl,rfl⟩;refine aj "c~e8m9" ?_;refine WL.store (cs:=[_]) sizeOf124 (ak Z) (ak Z) Z Z Z (bT.up (bT.at_ (by rw[length_map];omega)))<|aj "*8" ?_;refine⟨(j+1,fA.set j ⟨r.A,r.c,gX b r.l⟩),⟨Wx,by show (fA.set _ _).length=T.fA.length;rw[length_set];exact GQ, ?_⟩,(by show T.fA.length-(j+1)<T.fA.length-j;omega),.cons Z bC,λw h=> ?_⟩
  ·show (fA.set j _).map bW.l=(T.fA.take (j+1)).map (λr=>gX b r.l)++(T.fA.drop (j+1)).map bW.l;rw[map_set,ZA,set_append_right _ _ (by rw[length_map,length_take];omega),length_map,length_take,show j-min j T.fA.length=0 by omega,drop_eq_getElem_cons (show j<T.fA.length by omega),map_cons,set_cons_zero,take_add_one,getElem?_eq_getElem ay,map_append,append_assoc];show _++gX b r.l::_=_++([gX b (T.fA[j]'ay).l]++_);rw[pG];rfl
  ·subst C;have B:aV (.slice r.A (r.l.filter λx=> !decide (x=b)).length r.c) 3 1 (r.l.filter λx=> !decide (x=b)).length (ints .i64 (r.l.filter λx=> !decide (x=b)))=bW.row ⟨r.A,r.c,gX b r.l⟩:=rfl;rw[B] at h;have u:=Sat.Na (l:=fA.map bW.row) (k:=j) (by rw[length_map];omega) (h.bg 3 [0,2,1] Z);have y:(fA.map bW.v).set (0+(j:Int).toNat*1) (.slice r.A (r.l.filter λx=> !decide (x=b)).length r.c)=(fA.set j ⟨r.A,r.c,gX b r.l⟩).map bW.v:=by
    rw[show 0+((j:Nat):Int).toNat*1=j by omega,map_set];rfl
   rw[y,←map_set] at u;exact u.p1
 ·refine WC.exit ?_;obtain rfl:j=T.fA.length:=by omega
  obtain⟨T',Oo⟩:∃T':bZ,T'= { T with fA:=fA }:=⟨_,Z⟩;refine aF.normal (H':=T'.A bs bd g::F) (bJ.none Z) (λw h=> ?_) ⟨T', ?_, ?_,Z⟩
  ·refine Sat.all (l:=bZ.parts bs bd g T') (H:=F) ?_;rw[Oo];unfold bZ.parts bZ.cells;dsimp only;rw[GQ];exact h.bg 5 [3,4,0,1] Z
  ·rw[Oo];exact⟨by show fA.length=T.stands.length;rw[GQ,hT.len],hT.aJ,hT.next,hT.at_,hT.Md⟩
  ·rw[Oo];unfold bZ.aC St.forget;dsimp only;rw[ZA,take_of_length_le ay,drop_eq_nil_of_le ay];simp
theorem X6:aB prog 62 #[ptr bs 0] K F (λv H'=>∃b1,v= .func (.func 117) #[] #[ptr b1 0]∧H'=ah b1 28 [ptr bs 0]::F):=by
 refine aB.en func62 ntmps62 ?_;refine aj "a~k" λb1=> ?_;refine aj "w~2d" ?_;exact qR (ah b1 _ _::F) Z Z cO ⟨b1,Z,Z⟩
theorem Xt{n:Nat}(hn:g.bl=(n:Int))(yO:g.aU)(Zb:0≤J5∧J5<g.bl)(I:Nat→Cw→bZ→Prop)(Stop:aH→List aH→Prop)
 (hI:∀j C T,I j C T→C.Ok∧C.g=g∧T.Ok g∧T.stands=Md∧T.at_=J5)
 (abe:∀j C T,j<n→¬((J5+(j:Int))%g.bl∈gd∧¬(J5+(j:Int))%g.bl∈Md)→I j C T→I (j+1) C T)
 (
  Ba:∀j C T X,j<n→((J5+(j:Int))%g.bl∈gd∧¬(J5+(j:Int))%g.bl∈Md)→I j C T→jY prog K none l #[.i ((J5+(j:Int))%g.bl)] (Y1::Y2::X::C.A bc::dA bd bc g::T.A bs bd g::ah b1 28 [ptr bs 0]::F)
   (λb H'=>(b=true∧∃C' T',I (j+1) C' T'∧H'=Y1::Y2::X::C'.A bc::dA bd bc g::T'.A bs bd g::ah b1 28 [ptr bs 0]::F)∨(b=false∧Stop X H')))
  (L9:gd=C0.aC.dW) (h0:I 0 C0 T0) :
 aB prog 117 #[.func (.yield l) #[] #[],ptr b1 0] K (Y1::Y2::C0.A bc::dA bd bc g::T0.A bs bd g::ah b1 28 [ptr bs 0]::F)
  (λv H'=>∃X,(∃C T,I n C T∧H'=Y1::Y2::X::C.A bc::dA bd bc g::T.A bs bd g::ah b1 28 [ptr bs 0]::F)∨Stop X H'):=by
 have uJ:=yO;unfold bQ.aU at uJ;obtain⟨G,akK,S,aho,ari⟩:=hI _ _ _ h0;have O:gd.length≤256:=by
  have d:=aD.jK C0.aC C0.aC.g.bl.toNat;have a:C0.aC.g.bl.toNat≤256:=by rw[show C0.aC.g=C0.g from Z,akK];omega
  rw[L9];unfold aD.dW;omega
 refine aB.aaR func117 Z ntmps117 Z ?_;simp only[kV,reduceAdd];refine aj "a<U" ?_;refine WL.val (V.load isAgg70 (ak Z) (λ_=>by repeat (first | exact bZ.FH 0 _ Z | apply Rd.up))) Z<|WL.sub (Sub.refl _) (λw h=>h.bg 6 [2,3,0,1,4,5] Z)<|WL.c1 call118 Z (ER G akK) Z ?_;rintro _ _ ⟨y,M,rfl,rfl⟩;rw[←L9];refine aj "w<UX" ?_;refine WL.val (V.load isAgg3 (ak Z) (λ_=>by repeat (first | exact bZ.FH 1 _ Z | apply Rd.up))) Z<|aj "R" ?_;obtain⟨X,L⟩:∃X,X=aV (.slice y gd.length M) 3 1 gd.length (ints .i64 gd):=⟨_,Z⟩;rw[←L];have Oi:∀ {H:List aH},Seq K (X::H) y gd.length 1 (ints .i64 gd):=λ{H}=>by rw[L];exact aV.seq (by rw[bR,Nat.mul_one])
 refine WC.loop (σ:=Nat×Cw×bZ) (λs=>[(0,.func (.yield l) #[] #[]),(1,ptr b1 0),(3,.slice y gd.length M),(15,.i (n:Int)),(16,.i (s.1:Int))]) (λs=>Y1::Y2::X::s.2.1.A bc::dA bd bc g::s.2.2.A bs bd g::ah b1 28 [ptr bs 0]::F) (λs=>s.1≤n∧I s.1 s.2.1 s.2.2) (λs=>n-s.1) (0,C0,T0) ⟨zero_le _,h0⟩ (.cons Z (.cons Z (.cons Z (.cons (look_eq Z (by rw[hn])) bC)))) (λw h=>h.bg 7 [3,4,0,1,2,5,6] Z) ?_;rintro⟨j,C,T⟩ ⟨hj,hIj⟩;dsimp only at hj hIj ⊢;obtain⟨U,Q,R,dL,Zb⟩:=hI _ _ _ hIj;refine aj "V1" (aW (λaL=> ?_) λaL=> ?_)
 ·have Wx:j<n:=ay;obtain⟨b,J⟩:∃b,b=(J5+(j:Int))%g.bl:=⟨_,Z⟩;have m:=Ba j C T X Wx;have k:=abe j C T Wx;rw[←J] at m k;refine aj "Yt" ?_;refine WC.Rm (by kernel_rfl) (by kernel_rfl)<|aj "~~~w~>~t" ?_;refine WQ.val (V.aG (v':= .i J5) (V.load isAgg3 (ak Z) (λ_=>by repeat (first | exact bZ.FH 9 _ Z | apply Rd.up))) (λ_=>by rw[Zb])) Z<|aj "$~~u~~~w~>~t~t" ?_;refine WQ.val (V.load isAgg3 (ak Z) (λ_=>by repeat (first | exact bZ.FH 1 _ Z | apply Rd.up))) Z<|WQ.val (V.aG (v':= .i b) (V.Av (ak Z) (ak Z) (λ_=>by omega)) (λ_=>by rw[J])) Z<|aj "~n~drb" ?_;refine WL.t2 call119 Z Z (zU (by repeat (first | exact Oi | apply Seq.up)) ay b) Z<|aj "9b" ?_;refine WL.bI (oj:=_) Z Z Z GC.f (V.load isAgg28 (ak Z) (λP=>by repeat (first | exact Rd.here Z | apply Rd.up))) Z<|aj "~~w~!" ?_;refine WL.bI (oj:=_) Z Z Z GC.f (V.load isAgg124 (OV.g Z id) (λP=>by repeat (first | exact bZ.FH 6 _ Z | apply Rd.up))) Z<|aj "~z" ?_;refine WL.nL (oj:=_) (vs:=[_,_]) Z Z Z GC.f call119 ⟨OV.g Z id,OV.g Z id,trivial⟩ (λY=>zU (by repeat (first | exact bZ.aks | apply Seq.up)) (by have :=R.aJ;omega) b) Z<|aj "Ih" (aW (λd=> ?_) λd=> ?_)
  ·rw[dL] at d;refine aj "K8" ?_;exact⟨(j+1,C,T),⟨Wx,k (λhn=>by simp only[Bool.or_eq_true,Bool.not_eq_true',cZ] at d;rcases d with h | h;exact h hn.1;exact hn.2 h) hIj⟩,(by show n-(j+1)<n-j;omega),.cons Z bC,λw h=>h⟩
  ·rw[dL] at d;refine aj "Tb" ?_;refine WL.afm (r:=none) (l:=l) (vs:=[_]) (ak Z) ⟨ak Z,trivial⟩ (m (by simpa using d) hIj) Z ?_;rintro W D N;refine aj "9h" (aW (λa=> ?_) λa=> ?_)
   ·simp only[Bool.not_eq_true',Bool.not_eq_false'] at a;have alH:Stop X D:=by
     rcases N with ⟨e,_⟩ | ⟨_,e⟩
     ·rw[e] at a;cases a
     ·exact e
    exact WC.ret<|aF.ret (H':=D) (bJ.none Z) cO ⟨X,.inr alH⟩
   ·simp only[Bool.not_eq_true',Bool.not_eq_false'] at a;obtain⟨u,x,B,rfl⟩:∃u x,I (j+1) u x∧D=Y1::Y2::X::u.A bc::dA bd bc g::x.A bs bd g::ah b1 28 [ptr bs 0]::F:=by
     rcases N with ⟨_,e⟩ | ⟨e,_⟩
     ·exact e
     ·rw[e] at a;cases a
    refine aj "q8" ?_;exact⟨(j+1,u,x),⟨Wx,B⟩,(by show n-(j+1)<n-j;omega),.cons Z bC,λw h=>h⟩
 ·refine WC.exit ?_;obtain rfl:j=n:=by omega
  exact aF.normal (H':=Y1::Y2::X::C.A bc::dA bd bc g::T.A bs bd g::ah b1 28 [ptr bs 0]::F) (bJ.none Z) cO ⟨X,.inl ⟨C,T,hIj,Z⟩⟩
end Go.Proofs.YtcedojacbhnbiaaGreat
