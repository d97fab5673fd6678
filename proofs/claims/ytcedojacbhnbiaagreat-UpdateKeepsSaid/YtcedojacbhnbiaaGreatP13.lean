import Derived.Test.YtcedojacbhnbiaaGreatP12
import Derived.Test.YtcedojacbhnbiaaGreatP7
set_option autoImplicit true
set_option linter.all false
set_option maxHeartbeats 2000000
set_option maxRecDepth 20000
set_option relaxedAutoImplicit true
namespace Go.Proofs.YtcedojacbhnbiaaGreat
open Go.Sl Go.RowKit Tryz List Nat
structure yP where
 load:Int
 bytes:Int
 bG:List Nat
structure sI where
 ver:Int
 sec:Int
 key:Int
 yS:Int
 gH:List yP
def sI.zero:sI:=⟨0,0,0,0,[]⟩
def sP(l:List Nat):Nat:=vl 256 (l.take 4)
def EN:Nat→List Nat→Option (List yP×List Nat)
 | 0,r=>some ([],r)
 | n+1,r=>if r.length<40 then none else (EN n (r.drop 40)).map fun p=>(⟨sP r,sP (r.drop 4),(r.drop 8).take 32⟩::p.1,p.2)
def Cy(n:Int):Bool:=decide (0≤n)&&decide (n≤2147483647)
def Q9:Int→List yP→Bool
 | _,[]=>true
 | e,s::l=>[s.load,s.bytes].all Cy&&(decide (s.bytes≤1048576)&&decide (e≤s.load)&&decide (s.load+s.bytes≤2147483647))&&Q9 (s.load+s.bytes) l
def sI.ok(m:sI):Bool:=[m.ver,m.sec,m.key,m.yS].all Cy&&decide (m.gH.length≤8)&&Q9 0 m.gH
def VB(b:List Nat):Option (List yP×List Nat)→Option sI
 | some (l,[])=>if (sI.mk (sP (b.drop 4)) (sP (b.drop 8)) (sP (b.drop 12)) (sP (b.drop 16)) l).ok then some ⟨sP (b.drop 4),sP (b.drop 8),sP (b.drop 12),sP (b.drop 16),l⟩ else none
 | _=>none
def iL(b:List Nat):Option sI :=
 if b.length<24∨b.take 4≠[109,97,110,105]∨8<sP (b.drop 20) then none else VB b (EN (sP (b.drop 20)) (b.drop 24))
structure Ky where
 num:Int
 bytes:List Nat
 rev:Bool
structure Ky.Ok(k:Ky):Prop where
 len:k.bytes.length=32
 small:aA 256 k.bytes
def Ky.cells(k:Ky):List Value:= .i k.num::(av .u8 k.bytes++[.bool k.rev])
theorem Ky.dB{k:Ky}(h:k.Ok):k.cells.length=34:=by simp[Ky.cells,au,h.len]
def Jm:Int→List Ky→Bool
 | _,[]=>true
 | l,k::r=> !(decide (k.num≤l)||decide (2147483647<k.num))&&Jm k.num r
def j6(r:List Ky):Bool:=Jm (-1) r&&decide (r.length≤8)
def findF(r:List Ky)(n:Int):Option Ky:=r.find? fun k=>k.num==n
def q9(r:List Ky)(n:Int):List Nat×Int :=
 if j6 r then match findF r n with | some k=>if k.rev then (replicate 32 0,190) else (k.bytes,0) | none=>(replicate 32 0,190) else (replicate 32 0,1)
theorem adO(h:∀k∈r,k.Ok)(n:Int):(q9 r n).1.length=32∧aA 256 (q9 r n).1:=by
 have hz:(replicate 32 0:List Nat).length=32∧aA 256 (replicate 32 0):=⟨rfl,aA.wJ aN⟩;unfold q9;split
 ·split
  ·rename_i k hk;split
   ·exact hz
   ·have h1:=h k (mem_of_find?_eq_some hk);exact⟨h1.len,h1.small⟩
  ·exact hz
 ·exact hz
def IX(r:List Ky)(aO:Int)(bd sg:List Nat):Option sI→sI×Int
 | none=>(.zero,4)
 | some m =>
  if (q9 r m.key).2≠0 then (.zero,(q9 r m.key).2) else
  if kE (vl 256 (q9 r m.key).1) bd (vl 256 (sg.take 32)) (vl 256 (sg.drop 32))=false then (.zero,191) else
  if m.sec<aO then (.zero,230) else (m,0)
def eT(r:List Ky)(aO:Int)(b:List Nat):sI×Int :=
 if j6 r=false then (.zero,1) else
 if b.length<64 then (.zero,4) else IX r aO (b.take (b.length-64)) (b.drop (b.length-64)) (iL (b.take (b.length-64)))
theorem Xx(h:(eT r aO b).2=0):aO≤(eT r aO b).1.sec:=by
 unfold eT at h ⊢;split at h
 ·cases h
 rename_i h1;rw[if_neg h1];split at h
 ·cases h
 rename_i h2;rw[if_neg h2];revert h;cases iL (b.take (b.length-64)) with
 | none=>intro h;cases h
 | some m =>
  intro h;rw[IX] at h ⊢;split at h
  ·rename_i h3;exact absurd h h3
  rename_i h3;rw[if_neg h3];split at h
  ·cases h
  rename_i h4;rw[if_neg h4];split at h
  ·cases h
  rename_i h5;rw[if_neg h5];exact Int.not_lt.1 h5
abbrev Gc:Value:= .iface 269 (.agg #[])
theorem YR(w:World):(Instr.makeInterface 269 (.agg #[])).run prog w= .ok Gc w:=by simp[Instr.makeInterface,runUnderlying269]
theorem aht(w:World):(Instr.typeAssert Gc 20 269 true).run prog w= .ok (.tuple #[.agg #[],.bool true]) w:=by simp_all [Instr.typeAssert,runUnderlying269]
theorem aeA(w:World):(Instr.typeAssert .nilIface 20 269 true).run prog w= .ok (.tuple #[.agg #[],.bool false]) w:=by simp[Instr.typeAssert,runUnderlying269,zeroValue269]
theorem qF(b:Bool):pF prog 138 #[.bool b] K F Gc (fun v H'=>b=true∧v= .tuple #[]∧H'=F) (fun H'=>b=false∧H'=F):=by
 refine aB.Er func138 rfl ntmps138 rfl ?_;simp only[kV,reduceAdd];refine aj "e*i" (aW (fun h0=> ?_) fun h0=> ?_)
 ·skip
  simp only[Bool.not_eq_true',Bool.not_eq_false'] at h0;refine aj "p@" ?_;refine WL.val (V.Yu (ak rfl) YR) rfl ?_;exact WL.agf (ak rfl) ⟨rfl,rfl,_,fun w h=>h,h0,rfl⟩
 ·skip
  simp only[Bool.not_eq_true',Bool.not_eq_false'] at h0;refine WC.skip ?_;exact⟨rfl,_,F,(bJ.none rfl),cO,h0,rfl,rfl⟩
theorem IL(hm:m≤1000000)(hs:Seq K F A m 1 (ints .i64 xs)):pF prog 195 #[.slice A m cap] K F Gc (fun v H'=>xs.all Cy=true∧v= .tuple #[]∧H'=F) (fun H'=>xs.all Cy=false∧H'=F):=by
 have hlen:xs.length=m:=by have :=hs.len;rwa [bR,Nat.mul_one] at this
 refine aB.Er func195 rfl ntmps195 rfl ?_;simp only[kV,reduceAdd];refine aj "ekN" ?_;refine WC.loop (σ:=Nat) (fun i=>[(4,.slice A m cap),(5,.i (m:Int)),(6,.i (i:Int))]) (fun _=>F) (fun i=>i≤m∧(xs.drop i).all Cy=xs.all Cy) (fun i=>m-i) 0 ⟨zero_le _,rfl⟩ bC cO ?_;rintro i ⟨hi,hq⟩;refine aj "TH" (aW (fun h0=> ?_) fun h0=> ?_)
 ·simp only[cZ] at h0;obtain⟨x,hx⟩:∃x,xs[i]? =some x:=⟨_,getElem?_eq_getElem ay⟩;have kr:Rd K F (A.map (·.add ((i:Int).toNat*1))) (.i x):=by rw[Int.toNat_natCast,Nat.mul_one];exact hs.rd i _ (by unfold ints;rw[getElem?_map,hx];rfl)
  rw[show xs.drop i=x::xs.drop (i+1) from (List.getElem?_eq_some_iff.1 hx).2 ▸ drop_eq_getElem_cons _,all_cons] at hq;refine aj "Ia" ?_;refine WL.val (V.dw eB (ak rfl) (ak rfl) (fun _=>by omega) (fun _=>kr)) rfl ?_;refine WL.val (V.load isAgg3 (ak rfl) (fun _=>kr)) rfl ?_;refine aj "gh~ic!~PQ" ?_;refine WL.jG (vs:=[_]) call138 ⟨ak rfl,trivial⟩ (qF _) rfl ?_ ?_
  ·rintro _ ⟨hb,rfl⟩;refine⟨rfl,rfl,_,fun w h=>h, ?_,rfl⟩;rw[←hq,show Cy x=false from hb];rfl
  rintro _ _ ⟨hb,rfl,rfl⟩;refine aj "b7" ?_;exact⟨i+1,⟨by omega,by rw[←hq,show Cy x=true from hb];rfl⟩,(by show m-(i+1)<m-i;omega),.cons rfl bC,fun w h=>h⟩
 ·simp only[cZ] at h0;refine WC.exit ?_;exact⟨rfl,_,F,(bJ.none rfl),cO,by rw[←hq,drop_of_length_le ay];rfl,rfl,rfl⟩
theorem V5(hI:∀w,(Instr.typeAssert v0 20 269 true).run prog w= .ok (.tuple #[.agg #[],.bool ok]) w)
 (ahP:∀(c₀:Frame) cs,c₀.mode=u→recoverD (c₀::cs)=some (v0,{ c₀ with mode:=u' }::cs)∨(recoverD (c₀::cs)=none∧v0= .nilIface∧u'=u)) :
 ∀ w,Sat K w (ah b 4 [.bool x]::F)→CallsD prog 194 #[ptr b 0] u w fun e u2 w'=>u2=u'∧∃v H',e= .returned v∧Sat K w' H'∧H'=ah b 4 [.bool (if ok then false else x)]::F:=by
 refine J3 (pd:=fun H'=>H'=ah b 4 [.bool (if ok then false else x)]::F) func194 rfl ntmps194 rfl rfl ahP ?_;simp only[kV,reduceAdd];refine WL.val (V.typeAssert (ak rfl) hI) rfl ?_;refine aj "6w" fun b1=> ?_;refine WL.store (cs:=[]) sizeOf269 (ak rfl) (ak rfl) rfl rfl rfl (bT.here rfl rfl) ?_;refine aj "ji" (aW (fun h=> ?_) fun h=> ?_)
 ·refine WC.region ?_;refine aj "~pb" ?_;exact aF.normal (H':=ah b 4 [.bool (if ok then false else x)]::F) (bJ.none rfl) (fun w h'=>by rw[if_pos h];exact h'.tail) rfl
 ·refine WC.skip ?_;exact aF.normal (H':=ah b 4 [.bool (if ok then false else x)]::F) (bJ.none rfl) (fun w h'=>by rw[if_neg (by rw[h];decide)];exact h'.tail) rfl
theorem LA{g:Nat}{cap:List Value}{post LD:List aH→Prop}(hg:bP prog g)(hf:∀C,pF prog g cap.toArray K (C::H) Gc (fun v H'=>∃H2,H'=C::H2∧post H2) (fun H'=>∃H2,H'=C::H2∧LD H2)) :
 aB prog 136 #[.func (.func g) #[] cap.toArray] K H (fun v H'=>(v= .bool true∧post H')∨(v= .bool false∧LD H')):=by
 refine aB.agw (bad:=Gc) func136 rfl ntmps136 rfl ?_;simp only[kV,reduceAdd];refine aj "aw" fun b2=> ?_;refine aj "R~U" ?_;refine WL.defer (ak rfl) (aj "be" ?_);refine WL.agn (first:=[]) (captured:=cap) (vs:=[]) hg (ak rfl) trivial (by simpa using hf _) rfl ?_ ?_
 ·rintro _ ⟨H2,rfl,hp⟩;exact⟨rfl,_,_,rfl,call194,fun H'=>H'=ah b2 4 [.bool false]::H2,V5 (x:=false) aht (u:= .panicking (F8 Gc)) (u':= .panicking [{ v:=Gc,recovered:=true }]) (fun c₀ cs hu=> .inl (by simp[recoverD,hu,F8])),fun H' hH=>by
   subst hH;exact⟨.bool false,H2,bJ.one rfl (R1.JH rfl isAgg4 (Rd.here rfl)),fun w h=>h.tail,.inr ⟨rfl,hp⟩⟩⟩
 rintro _ _ ⟨H2,rfl,hp⟩;refine aj "R~%2" ?_;exact⟨_,_,rfl,call194,fun H'=>H'=ah b2 4 [.bool true]::H2,V5 (x:=true) aeA (u:= .returning) (u':= .returning) (fun c₀ cs hu=> .inr ⟨by simp[recoverD,hu],rfl,rfl⟩),fun H' hH=>by
  subst hH;exact⟨.bool true,H2,bJ.one rfl (R1.JH rfl isAgg4 (Rd.here rfl)),fun w h=>h.tail,.inl ⟨rfl,hp⟩⟩⟩
def OJ(A:Option Addr)(c n:Nat):Option Addr:=if c=n then A else A.map (·.add (n*1))
theorem Seq.OJ{K:World}{F:List aH}{A:Option Addr}{m c n:Nat}{l:List Nat}(hs:Seq K F A m 1 (av .u8 l))(hn:n≤m)(hc:m≤c):Seq K F (OJ A c n) (m-n) 1 (av .u8 (l.drop n)):=by
 have hl:l.length=m:=by have :=hs.len;rwa [au,Nat.mul_one] at this
 have h:=Seq.rD hs (l:=n) (h:=m) (u:=c) hn (Nat.le_refl _) hc;rw[take_of_length_le (by rw[length_drop];omega)] at h;exact h
theorem iJ{n:Nat}(hc:m≤c):pF prog 139 #[ptr br 0,.i (n:Int)] K (ah br 212 [.slice A m c]::F) Gc
 (fun v H'=>n≤m∧v= .slice A n c∧H'=ah br 212 [.slice (OJ A c n) (m-n) (c-n)]::F) (fun H'=>m<n∧H'=F):=by
 refine aB.Er func139 rfl ntmps139 rfl ?_;simp only[kV,reduceAdd];refine aj "aYS" ?_;refine WL.val (V.load (v:= .slice A m c) isAgg34 (ak rfl) (fun _=>Rd.here rfl)) rfl ?_;refine aj "k~>" ?_;refine WL.jG (vs:=[_]) call138 ⟨ak rfl,trivial⟩ (qF _) rfl ?_ ?_
 ·rintro _ ⟨hb,rfl⟩;exact⟨rfl,rfl,_,fun w h=>h.tail,by simpa using hb,rfl⟩
 rintro _ _ ⟨hb,rfl,rfl⟩;have wE:n≤m:=by simpa using hb
 refine aj "beS" ?_;refine WL.val (V.load (v:= .slice A m c) isAgg34 (ak rfl) (fun _=>Rd.here rfl)) rfl ?_;refine WL.mv rfl rfl ?_;refine WL.val (V.aG (v':= .slice A n c) (V.slice (m:=m) (cap:=c) (l:=0) (h:=n) (u:=c) dO (ak rfl) OO.none (OO.some (ak rfl) (fun _=>rfl)) OO.none (by simp) ay ay ay) (fun _=>by rw[zK,Nat.sub_zero,Nat.sub_zero])) rfl ?_;refine aj "YS" ?_;refine WL.val (V.load (v:= .slice A m c) isAgg34 (ak rfl) (fun _=>Rd.here rfl)) rfl ?_;refine WL.mv rfl rfl ?_;refine WL.val (V.slice (m:=m) (cap:=c) (l:=n) (h:=m) (u:=c) dO (ak rfl) (OO.some (ak rfl) (fun _=>rfl)) OO.none OO.none (by simp) ay ay ay) rfl ?_;refine aj "S" ?_;refine WL.store (cs:=[.slice (OJ A c n) (m-n) (c-n)]) sizeOf34 (ak rfl) (ak rfl) rfl rfl rfl (bT.here rfl rfl) ?_;refine aj "bed" ?_;exact⟨rfl,_,ah br 212 [.slice (OJ A c n) (m-n) (c-n)]::F,(bJ.tmp rfl rfl),cO,wE,rfl,rfl⟩
theorem agH(h:4≤l.length):sP l=l.getD 0 0+l.getD 1 0*2^8+l.getD 2 0*2^16+l.getD 3 0*2^24:=by
 match l,h with
 | a::b::c::d::l,_=>simp[sP,vl];omega
theorem iV(hs:Seq K F A m 1 (av .u8 l))(h8:aA 256 l)(hc:m≤c):pF prog 140 #[ptr br 0] K (ah br 212 [.slice A m c]::F) Gc
 (fun v H'=>4≤m∧v= .i ((sP l:Nat):Int)∧H'=ah br 212 [.slice (OJ A c 4) (m-4) (c-4)]::F) (fun H'=>m<4∧H'=F):=by
 have hlen:l.length=m:=by have :=hs.len;rwa [au,Nat.mul_one] at this
 refine aB.Er func140 rfl ntmps140 rfl ?_;simp only[kV,reduceAdd];refine aj "aj" ?_;refine WL.jG (vs:=[_,_]) call139 ⟨ak rfl,ak rfl,trivial⟩ (iJ (n:=4) hc) rfl ?_ ?_
 ·rintro _ ⟨hb,rfl⟩;exact⟨rfl,rfl,_,fun w h=>h,hb,rfl⟩
 rintro _ _ ⟨hb,rfl,rfl⟩;obtain⟨x0,e0⟩:∃x,x=l.getD 0 0:=⟨_,rfl⟩;obtain⟨x1,e1⟩:∃x,x=l.getD 1 0:=⟨_,rfl⟩;obtain⟨x2,e2⟩:∃x,x=l.getD 2 0:=⟨_,rfl⟩;obtain⟨x3,e3⟩:∃x,x=l.getD 3 0:=⟨_,rfl⟩;have b0:x0<256:=by rw[e0];exact h8.at_ aN _
 have b1:x1<256:=by rw[e1];exact h8.at_ aN _
 have b2:x2<256:=by rw[e2];exact h8.at_ aN _
 have b3:x3<256:=by rw[e3];exact h8.at_ aN _
 have rd:∀(k:Nat) x,k≤3→x=l.getD k 0→Rd K (ah br 212 [.slice (OJ A c 4) (m-4) (c-4)]::F) (A.map (·.add ((k:Int).toNat*1))) (.int .u8 (x:Int)):=fun k x hk hx=>by
  rw[hx,Int.toNat_natCast];exact (hs.jo ay).up
 have r0:=rd 0 x0 ay e0;have r1:=rd 1 x1 ay e1;have r2:=rd 2 x2 ay e2;have r3:=rd 3 x3 ay e3;have U0:sP l=x0+x1*2^8+x2*2^16+x3*2^24:=by rw[agH ay,e0,e1,e2,e3]
 rw[U0];refine aj "u~k&" ?_;refine WQ.val (V.dw dO (ak rfl) (ak rfl) (fun hc=>by omega) (fun hc=>r0)) rfl ?_;refine WQ.val (V.load isAgg5 (ak rfl) (fun hc=>r0)) rfl ?_;refine aj "~|&" ?_;refine WQ.val (V.dw dO (ak rfl) (ak rfl) (fun hc=>by omega) (fun hc=>r1)) rfl ?_;refine WQ.val (V.load isAgg5 (ak rfl) (fun hc=>r1)) rfl ?_;refine aj "~|" ?_;refine WQ.val (V.aG (v':= .i ((x1*2^8:Nat):Int)) (V.shl (ak rfl) (ak rfl) ay) (fun _=>congrArg _ (zq (n:=8) aN b1))) rfl ?_;refine WQ.val (V.aG (v':= .i ((x0+x1*2^8:Nat):Int)) (V.or (ak rfl) (ak rfl)) (fun _=>congrArg _ (uf (n:=8) ay ay ay))) rfl ?_;refine aj "&" ?_;refine WQ.val (V.dw dO (ak rfl) (ak rfl) (fun hc=>by omega) (fun hc=>r2)) rfl ?_;refine WQ.val (V.load isAgg5 (ak rfl) (fun hc=>r2)) rfl ?_;refine aj "~|" ?_;refine WQ.val (V.aG (v':= .i ((x2*2^16:Nat):Int)) (V.shl (ak rfl) (ak rfl) ay) (fun _=>congrArg _ (zq (n:=16) aN b2))) rfl ?_;refine WQ.val (V.aG (v':= .i ((x0+x1*2^8+x2*2^16:Nat):Int)) (V.or (ak rfl) (ak rfl)) (fun _=>congrArg _ (uf (n:=16) ay ay ay))) rfl ?_;refine aj "&" ?_;refine WQ.val (V.dw dO (ak rfl) (ak rfl) (fun hc=>by omega) (fun hc=>r3)) rfl ?_;refine WQ.val (V.load isAgg5 (ak rfl) (fun hc=>r3)) rfl ?_;refine aj "~|" ?_;refine WQ.val (V.aG (v':= .i ((x3*2^24:Nat):Int)) (V.shl (ak rfl) (ak rfl) ay) (fun _=>congrArg _ (zq (n:=24) aN b3))) rfl ?_;refine WQ.val (V.aG (v':= .i ((x0+x1*2^8+x2*2^16+x3*2^24:Nat):Int)) (V.or (ak rfl) (ak rfl)) (fun _=>congrArg _ (uf (n:=24) ay ay ay))) rfl ?_;refine aj "~n~f~C" ?_;exact⟨rfl,_,ah br 212 [.slice (OJ A c 4) (m-4) (c-4)]::F,(bJ.tmp rfl rfl),cO,hb,rfl,rfl⟩
def yP.cells(s:yP):List Value:= .i s.load:: .i s.bytes::av .u8 s.bG
structure yP.Ok(s:yP):Prop where
 len:s.bG.length=32
 small:aA 256 s.bG
theorem yP.dB{s:yP}(h:s.Ok):s.cells.length=34:=by simp[yP.cells,au,h.len]
theorem yP.one(s:yP):s.cells.all (·.oneCell')=true:=by
 simp only[yP.cells,all_cons,gP,Bool.and_true];rfl
structure JR(K:World)(F:List aH)(A:Option Addr)(m:Nat)(l:List yP):Prop where
 seq:Seq K F A m 34 (l.flatMap yP.cells)
 len:l.length=m
 ok:∀s∈l,s.Ok
theorem JR.up{K:World}{F:List aH}{A:Option Addr}{m:Nat}{l:List yP}{C:aH}(h:JR K F A m l):JR K (C::F) A m l:=⟨h.seq.up,h.len,h.ok⟩
theorem rY{α:Type}{f:α→List Value}:∀(l:List α) (hf:∀x∈l,(f x).length=s) (k i:Nat) (x:α) (v:Value),l[k]? =some x→(f x)[i]? =some v→(l.flatMap f)[k*s+i]? =some v
 | [],_,k,i,x,v,h,_=>by simp at h
 | y::l,hf,0,i,x,v,h,hi=>by
  simp only[getElem?_cons_zero,Option.some.injEq] at h;subst h;rw[flatMap_cons,Nat.zero_mul,Nat.zero_add,getElem?_append_left (List.getElem?_eq_some_iff.1 hi).1];exact hi
 | y::l,hf,k+1,i,x,v,h,hi=>by
  have ih:=rY l (fun z hz=>hf z (.tail _ hz)) k i x v (by simpa using h) hi;have hy:=hf y (.head _);rw[flatMap_cons,getElem?_append_right (by rw[hy,succ_mul];omega),hy,←ih];congr 1;rw[succ_mul];omega
theorem JR.rd(h:JR K F A m r)(hk:r[i]? =some k):∀j v,k.cells[j]? =some v→Rd K F (A.map (·.add (i*34+j))) v:=fun j v hj =>
 h.seq.rd _ _ (rY r (fun x hx=>yP.dB (h.ok x hx)) i j k v hk hj)
theorem adK:∀(cs:List Value) (h:cs.length=34) (w:World),(Instr.buildSlice 40 1 [(0,.agg cs.toArray)].toArray).run prog w= .ok (.slice (some ⟨w.heap.size,0,none⟩) 1 1) (w.alloc (.cells cs.toArray 140))
 | v00::v01::v02::v03::v04::v05::v06::v07::v08::v09::v10::v11::v12::v13::v14::v15::v16::v17::v18::v19::v20::v21::v22::v23::v24::v25::v26::v27::v28::v29::v30::v31::v32::v33::[],_,w=>X5 v00 v01 v02 v03 v04 v05 v06 v07 v08 v09 v10 v11 v12 v13 v14 v15 v16 v17 v18 v19 v20 v21 v22 v23 v24 v25 v26 v27 v28 v29 v30 v31 v32 v33 w
theorem Xz{M:sI}(hs:JR K F A m M.gH)(hm:m≤1000000):pF prog 141 #[.agg #[.i M.ver,.i M.sec,.i M.key,.i M.yS,.slice A m cap]] K F Gc (fun v H'=>M.ok=true∧v= .tuple #[]∧H'=F) (fun H'=>M.ok=false∧H'=F):=by
 have hlen:=hs.len;obtain⟨R,hR⟩:∃R,R=Q9 0 M.gH:=⟨_,rfl⟩;rw[sI.ok,hlen,←hR];refine aB.Er func141 rfl ntmps141 rfl ?_;simp only[kV,reduceAdd];refine aj "a%" fun b1=> ?_;refine aj "Roooo" ?_;refine WL.buildSlice (E:=3) (cs:=[_,_,_,_]) (vs:=[(0,_),(1,_),(2,_),(3,_)]) ⟨ak rfl,ak rfl,ak rfl,ak rfl,trivial⟩ rfl (D8 _ _ _ _) rfl (fun b13=> ?_);refine WL.jG (vs:=[_]) call195 ⟨ak rfl,trivial⟩ (IL (xs:=[M.ver,M.sec,M.key,M.yS]) aN (Seq.all rfl)) rfl ?_ ?_
 ·rintro _ ⟨hb,rfl⟩;exact⟨rfl,rfl,F,fun w h=>h.bg 2 [] rfl,by rw[hb];rfl,rfl⟩
 rintro _ _ ⟨BG,rfl,rfl⟩;rw[BG];refine aj "Rok~>" ?_;refine WL.jG (vs:=[_]) call138 ⟨ak rfl,trivial⟩ (qF _) rfl ?_ ?_
 ·rintro _ ⟨hb,rfl⟩;exact⟨rfl,rfl,F,fun w h=>h.bg 2 [] rfl,by rw[show decide (m≤8)=false by simp at hb ⊢;omega];rfl,rfl⟩
 rintro _ _ ⟨hb8,rfl,rfl⟩;rw[show decide (m≤8)=true by simp at hb8 ⊢;omega];refine aj "RvokN" ?_;refine WC.loop (σ:=Nat×Int) (fun s=>[(2,.i s.2),(21,.slice A m cap),(22,.i (m:Int)),(23,.i (s.1:Int))]) (fun _=>F) (fun s=>s.1≤m∧Q9 s.2 (M.gH.drop s.1)=R) (fun s=>m-s.1) (0,0) ⟨zero_le _,hR.symm⟩ bC (fun w h=>h.bg 2 [] rfl) ?_;rintro⟨i,e⟩ ⟨hi,hq⟩;dsimp only at hi hq ⊢;refine aj "TH" (aW (fun h0=> ?_) fun h0=> ?_)
 ·simp only[cZ] at h0;obtain⟨s,ZJ⟩:∃s,M.gH[i]? =some s:=⟨_,getElem?_eq_getElem ay⟩;have UU:=hs.ok s (mem_of_getElem? ZJ);have mR:=yP.dB UU;rw[show M.gH.drop i=s::M.gH.drop (i+1) from (List.getElem?_eq_some_iff.1 ZJ).2 ▸ drop_eq_getElem_cons _,Q9] at hq;refine aj "Ia" ?_;refine WL.val (V.dw (v:= .i s.load) akq (ak rfl) (ak rfl) (fun _=>by omega) (fun _=>by rw[Int.toNat_natCast];exact hs.rd ZJ 0 _ rfl)) rfl ?_;rw[Int.toNat_natCast];refine WL.val (V.tX (vs:=s.cells) ⟨isAgg140,sizeOf140⟩ (ak rfl) mR aN (fun _=>hs.rd ZJ)) rfl ?_;refine aj "w" fun b4=> ?_;refine WL.store (cs:=s.cells) sizeOf140 (ak rfl) (ak rfl) rfl mR (yP.one s) (bT.whole (by rw[mR];rfl)) ?_;refine aj "Roo" ?_;refine WL.buildSlice (E:=3) (cs:=[_,_]) (vs:=[(0,_),(1,_)]) ⟨ak rfl,ak rfl,trivial⟩ rfl (p9 _ _) rfl (fun b31=> ?_);refine WL.jG (vs:=[_]) call195 ⟨ak rfl,trivial⟩ (IL (xs:=[s.load,s.bytes]) aN (Seq.all rfl)) rfl ?_ ?_
  ·rintro _ ⟨hb,rfl⟩;rw[hb] at hq;exact⟨rfl,rfl,F,fun w h=>h.bg 2 [] rfl,by rw[←hq];rfl,rfl⟩
  rintro _ _ ⟨aeW,rfl,rfl⟩;rw[aeW] at hq;have hbd:(0≤s.load∧s.load≤2147483647)∧0≤s.bytes∧s.bytes≤2147483647:=by simpa [Cy] using aeW
  refine aj "Ro~>c^_!" ?_;refine WL.bI (oj:=_) rfl rfl rfl GC.t (V.geq (OV.g rfl id) (OV.g rfl id)) rfl (aj "Qc^_^_" ?_);refine WL.bI (oj:=_) rfl rfl rfl GC.t (V.CX (OV.g rfl id) (OV.g rfl id) Jy) rfl (aj "~PQ" ?_);refine WL.jG (vs:=[_]) call138 ⟨ak rfl,trivial⟩ (qF _) rfl ?_ ?_
  ·rintro _ ⟨hb,rfl⟩;rw[hb] at hq;exact⟨rfl,rfl,F,fun w h=>h.bg 2 [] rfl,by rw[←hq];rfl,rfl⟩
  rintro _ _ ⟨hb,rfl,rfl⟩;rw[hb] at hq;refine aj "bpoo$g7" ?_;exact⟨(i+1,s.load+s.bytes),⟨by show i+1≤m;omega,by rw[←hq];rfl⟩,(by show m-(i+1)<m-i;omega),.cons rfl bC,fun w h=>h.bg 2 [] rfl⟩
 ·simp only[cZ] at h0;refine WC.exit ?_;exact⟨rfl,_,F,bJ.none rfl,fun w h=>h,by rw[←hq,drop_of_length_le ay];rfl,rfl,rfl⟩
end Go.Proofs.YtcedojacbhnbiaaGreat
namespace Go.Sl
open Go Go.RowKit Go.Proofs.YtcedojacbhnbiaaGreat List Nat
theorem WL.Sg{dj:Nat}{oj:Oper}
 (hj:ops[j]? =some oj) (EG:oj.dst=some dj) (hl:look e dj=some gv) (hG:GC gv want c) (hf:bP P f) (hy:OV c e y (.func (.func f) first.toArray captured.toArray)) (gL:Ga c e xs vs) (hF:c=true→aK P f (first++vs++captured).toArray K H v) (hd:blt d n=true)
 (h:WL Mo P K n ops rest Q ((d,cv c v)::e) H):WL Mo P K n ops (⟨some d,.call ⟨.value y,xs.toArray,ats⟩,ty,pos,af,some (j,want)⟩::rest) Q e H:=fun a w ha hw=>by
 have GK:=Region.jv (o:=⟨some d,.call ⟨.value y,xs.toArray,ats⟩,ty,pos,af,some (j,want)⟩) rfl hj EG hl ha hG;cases c with
 | false=>exact qg GK (h _ w (ha.put d hd _) hw)
 | true =>
  refine uP GK fun R hR=>DX (tO hf (hy.ev rfl ha) (gL.ev ha rfl)) (((hF rfl).call hw).mono ?_);rintro _ w' ⟨rfl,h2⟩;exact⟨v,rfl,hR _ _ (h _ w' (ha.put d hd v) h2)⟩
end Go.Sl
namespace Go.Proofs.YtcedojacbhnbiaaGreat
open Go.Sl Go.RowKit Tryz List Nat
structure Ring(K:World)(F:List aH)(A:Option Addr)(m:Nat)(r:List Ky):Prop where
 seq:Seq K F A m 34 (r.flatMap Ky.cells)
 len:r.length=m
 ok:∀k∈r,k.Ok
 bd:m≤1000000
theorem Ring.up{K:World}{F:List aH}{A:Option Addr}{m:Nat}{r:List Ky}{C:aH}(h:Ring K F A m r):Ring K (C::F) A m r:=⟨h.seq.up,h.len,h.ok,h.bd⟩
theorem Ring.rd(h:Ring K F A m r)(hk:r[i]? =some k):∀j v,k.cells[j]? =some v→Rd K F (A.map (·.add (i*34+j))) v:=fun j v hj =>
 h.seq.rd _ _ (rY r (fun x hx=>Ky.dB (h.ok x hx)) i j k v hk hj)
theorem Ky.acD{k:Ky}(h:k.Ok):k.cells[33]? =some (.bool k.rev):=by
 show (av .u8 k.bytes++[Value.bool k.rev])[32]? =_;rw[getElem?_append_right (by rw[au,h.len];exact Nat.le_refl _),au,h.len];rfl
theorem Ky.acw{k:Ky}(h:k.Ok):av .u8 k.bytes <+: k.cells.drop 1:=⟨[.bool k.rev],rfl⟩
theorem Ky.aeG{k:Ky}(hj:(av .u8 k.bytes)[j]? =some v):k.cells[1+j]? =some v:=by
 rw[Nat.add_comm];show (av .u8 k.bytes++[Value.bool k.rev])[j]? =some v;rw[getElem?_append_left (List.getElem?_eq_some_iff.1 hj).1,hj]
theorem Ky.one(k:Ky):k.cells.all (·.oneCell')=true:=by
 simp only[Ky.cells,all_cons,all_append,all_nil,gP,Bool.and_true];rfl
theorem Np:∀(r:List Ky) (l:Int),Jm l r=true→∀k∈r,l<k.num∧k.num≤2147483647
 | [],_,_,k,hk=>by cases hk
 | k0::r,l,h,k,hk=>by
  simp only[Jm,Bool.and_eq_true,Bool.not_eq_true',Bool.or_eq_false_iff,decide_eq_false_iff_not] at h;rcases mem_cons.1 hk with rfl | hk
  ·omega
  ·have :=Np r k0.num h.2 k hk;omega
theorem Lj:∀(r:List Ky) (l:Int),Jm l r=true→∀(i j:Nat) (k k':Ky),r[i]? =some k→r[j]? =some k'→i<j→k.num<k'.num
 | [],_,_,i,j,k,k',hk,_,_=>by simp at hk
 | k0::r,l,h,i,j,k,k',hk,Gg,ZI=>by
  simp only[Jm,Bool.and_eq_true,Bool.not_eq_true',Bool.or_eq_false_iff,decide_eq_false_iff_not] at h;obtain⟨j,rfl⟩:∃j',j=j'+1:=⟨j-1,by omega⟩;rw[getElem?_cons_succ] at Gg
  match i with
  | 0 =>
   rw[getElem?_cons_zero,Option.some.injEq] at hk;subst hk;exact (Np r _ h.2 k' (mem_of_getElem? Gg)).1
  | i+1=>exact Lj r _ h.2 i j k k' (by rwa [getElem?_cons_succ] at hk) Gg ay
theorem YK(h:j6 r=true)(k:Ky)(hk:k∈r):0≤k.num∧k.num≤2147483647:=by
 unfold j6 at h;simp only[Bool.and_eq_true] at h;have :=Np r _ h.1 k hk;omega
theorem OZ(hr:Ring K F A m ring):aK prog 134 #[.slice A m cap] K F (.bool (j6 ring)):=by
 have hlen:=hr.len;have hbd:=hr.bd;obtain⟨R,hR⟩:∃R,R=Jm (-1) ring:=⟨_,rfl⟩;rw[j6,←hR,hlen];refine aB.en func134 ntmps134 ?_;refine aj "avfkN" ?_;refine WC.loop (σ:=Nat×Int) (fun s=>[(0,.slice A m cap),(3,.i s.2),(6,.slice A m cap),(7,.i (m:Int)),(8,.i (s.1:Int))]) (fun s=>F) (fun s=>s.1≤m∧Jm s.2 (ring.drop s.1)=R) (fun s=>m-s.1) (0,-1) ⟨zero_le _,hR.symm⟩ bC cO ?_;rintro⟨i,last⟩ ⟨hi,hq⟩;dsimp only at hi hq ⊢;refine aj "TH" (aW (fun h0=> ?_) fun h0=> ?_)
 ·simp only[cZ] at h0;obtain⟨k,hk⟩:∃k,ring[i]? =some k:=⟨_,getElem?_eq_getElem ay⟩;have Zm:=hr.ok k (mem_of_getElem? hk);have vX:=Ky.dB Zm;rw[show ring.drop i=k::ring.drop (i+1) from (List.getElem?_eq_some_iff.1 hk).2 ▸ drop_eq_getElem_cons _,Jm] at hq;refine aj "Ia" ?_;refine WL.val (V.dw (v:= .i k.num) TH (ak rfl) (ak rfl) (fun _=>by omega) (fun _=>by rw[Int.toNat_natCast];exact hr.rd hk 0 _ rfl)) rfl ?_;rw[Int.toNat_natCast];refine WL.val (V.tX (vs:=k.cells) ⟨isAgg99,sizeOf99⟩ (ak rfl) vX aN (fun _=>hr.rd hk)) rfl ?_;refine aj "w" fun b5=> ?_;refine WL.store (cs:=k.cells) sizeOf99 (ak rfl) (ak rfl) rfl vX (Ky.one k) (bT.whole (by rw[vX];rfl)) ?_;refine aj "Fa8" ?_;refine WL.val (V.load (v:= .i k.num) isAgg3 (ak rfl) (fun _=>Rd.here rfl)) rfl ?_;refine aj "c~>c~g" ?_;refine WL.bI (oj:=_) rfl rfl rfl GC.f (V.load (v:= .i k.num) isAgg3 (OV.g rfl id) (fun _=>Rd.here rfl)) rfl ?_;refine aj "~mLi" (aW (fun h1=> ?_) fun h1=> ?_)
  ·have N7:R=false:=by rw[←hq,show (decide (k.num≤last)||decide (2147483647<k.num))=true from by simpa using h1];rfl
   refine aj "G" ?_;exact qR F rfl rfl eO ⟨by rw[N7];rfl,rfl⟩
  ·have N7:Jm k.num (ring.drop (i+1))=R:=by rw[←hq,show (decide (k.num≤last)||decide (2147483647<k.num))=false from by simpa using h1];rfl
   refine aj "qp8" ?_;refine WL.val (V.load (v:= .i k.num) isAgg3 (ak rfl) (fun _=>Rd.here rfl)) rfl ?_;refine aj "g7" ?_;exact⟨(i+1,k.num),⟨by show i+1≤m;omega,N7⟩,(by show m-(i+1)<m-i;omega),.cons rfl bC,fun w h=>h.tail⟩
 ·simp only[cZ] at h0;refine aj "W" ?_;obtain rfl:i=m:=by omega
  rw[drop_of_length_le ay] at hq;rw[←hq];refine aj "hk~>d" ?_;exact qR F rfl rfl cO ⟨by simp[Jm];omega,rfl⟩
theorem aah{x:Nat}(hq:q≤1000000):aB prog 135 #[v,.i (x:Int)] K (aV v 5 1 q (av .u8 l)::F) (fun u H'=>∃A' c' l',u= .slice A' (q+4) c'∧H'=aV (.slice A' (q+4) c') 5 1 (q+4) (av .u8 l')::F):=by
 refine aB.en func135 ntmps135 ?_;refine aj "aY" ?_;refine WL.val (V.G6 (i:=x) (M:=256) runUnderlying3 runUnderlying5 (ak rfl)) rfl (aP "c~~|~Yc~~,~Yc" ?_);refine WL.val (V.wK (j:=24) (ak rfl) (ak rfl)) rfl (aP "~Y" ?_);refine WL.buildSlice (E:=5) (cs:=av .u8 [_,_,_,_]) (vs:=[(0,_),(1,_),(2,_),(3,_)]) ⟨ak rfl,ak rfl,ak rfl,ak rfl,trivial⟩ rfl (fJ _ _ _ _) rfl (fun b17=> ?_);refine aP "?~4" fun A18 c18 asM ahv=> ?_;refine aj "d" ?_;exact qR (aV (.slice A18 (q+4) c18) 5 1 (q+4) (av .u8 _)::F) rfl rfl (fun w h=>h.bg 2 [0] rfl) ⟨A18,c18,_,rfl,rfl⟩
theorem YD{x:Nat}(hs:Seq K F A 4 1 (av .u8 l)):aB prog 135 #[.slice A 4 4,.i (x:Int)] K F (fun u H'=>∃A' c' l',u= .slice A' 8 c'∧H'=aV (.slice A' 8 c') 5 1 8 (av .u8 l')::F):=by
 refine aB.en func135 ntmps135 ?_;refine aj "aY" ?_;refine WL.val (V.G6 (i:=x) (M:=256) runUnderlying3 runUnderlying5 (ak rfl)) rfl (aP "c~~|~Yc~~,~Yc" ?_);refine WL.val (V.wK (j:=24) (ak rfl) (ak rfl)) rfl (aP "~Y" ?_);refine WL.buildSlice (E:=5) (cs:=av .u8 [_,_,_,_]) (vs:=[(0,_),(1,_),(2,_),(3,_)]) ⟨ak rfl,ak rfl,ak rfl,ak rfl,trivial⟩ rfl (fJ _ _ _ _) rfl (fun b17=> ?_);refine WL.U6 (m:=4) (l:=l) (news:=[_,_,_,_]) underlying34 yL (ak rfl) (ak rfl) hs.up (Seq.all rfl) aN aN rfl rfl (fun A18 c18 ahv=> ?_);refine aj "d" ?_;exact qR (aV (.slice A18 8 c18) 5 1 8 (av .u8 _)::F) rfl rfl (fun w h=>h.bg 2 [0] rfl) ⟨A18,c18,_,rfl,rfl⟩
theorem Uy(hr:Ring K F A m ring):aB prog 76 #[.slice A m cap] K F (fun v H'=>∃A' m' c' E,v= .tuple #[.slice A' m' c',.i (if j6 ring then 0 else 1)]∧H'=E::F):=by
 have hlen:=hr.len;have hbd:=hr.bd;refine aB.en func76 ntmps76 ?_;refine aj "alf" ?_;refine WL.t1 call134 rfl (OZ hr) rfl ?_;refine aj "*i" (aW (fun h0=> ?_) fun h0=> ?_)
 ·have Kv:j6 ring=false:=by simpa using h0
  refine aj "aC" ?_;exact aF.ret (H':=bK []::F) (bJ.eU rfl rfl rfl) (fun w h=>Sat.all (l:=[]) h) ⟨none,0,0,_,by rw[Kv];rfl,rfl⟩
 ·have Kv:j6 ring=true:=by simpa using h0
  have hm8:m≤8:=by
   have h1:=Kv;unfold j6 at h1;simp only[Bool.and_eq_true,decide_eq_true_eq] at h1;omega
  refine aj "9" ?_;refine WL.buildSlice (E:=5) (cs:=av .u8 [_,_,_,_]) (vs:=[(0,_),(1,_),(2,_),(3,_)]) ⟨ak rfl,ak rfl,ak rfl,ak rfl,trivial⟩ rfl (fJ _ _ _ _) rfl (fun b10=> ?_);refine aj "~~uck" ?_;refine WL.c2 call135 rfl rfl (YD (l:=[114,105,110,103]) (x:=m) (Seq.agX rfl)) rfl ?_;rintro _ _ ⟨A14,c14,l14,rfl,rfl⟩;refine WL.sub (Sub.refl _) (fun w h=>h.bg 2 [0] rfl) ?_;refine aj "fkN" ?_;refine WC.loop (σ:=Nat×Nat×Option Addr×Nat×List Nat) (fun s=>[(0,.slice A m cap),(4,.slice s.2.2.1 s.2.1 s.2.2.2.1),(15,.slice A m cap),(16,.i (m:Int)),(17,.i (s.1:Int))]) (fun s=>aV (.slice s.2.2.1 s.2.1 s.2.2.2.1) 5 1 s.2.1 (av .u8 s.2.2.2.2)::F) (fun s=>s.1≤m∧s.2.1≤8+37*s.1) (fun s=>m-s.1) (0,8,A14,c14,l14) ⟨zero_le _,Nat.le_refl _⟩ bC cO ?_;rintro⟨i,q,A4,c4,l4⟩ ⟨hi,hq⟩;dsimp only at hi hq ⊢;refine aP "a~jFH" (aW (fun h1=> ?_) fun h1=> ?_)
  ·simp only[cZ] at h1;obtain⟨k,hk⟩:∃k,ring[i]? =some k:=⟨_,getElem?_eq_getElem ay⟩;have hkm:=mem_of_getElem? hk;have Zm:=hr.ok k hkm;have vX:=Ky.dB Zm;have hkn:=YK Kv k hkm;obtain⟨x,hx⟩:∃x:Nat,k.num=(x:Int):=⟨k.num.toNat,by omega⟩;refine aj "Ia" ?_;refine WL.val (V.dw (v:= .i k.num) TH (ak rfl) (ak rfl) (fun _=>by omega) (fun _=>by rw[Int.toNat_natCast];exact (hr.rd hk 0 _ rfl).up)) rfl ?_;rw[Int.toNat_natCast];refine WL.val (V.tX (vs:=k.cells) ⟨isAgg99,sizeOf99⟩ (ak rfl) vX aN (fun _ i v hi=>(hr.rd hk i v hi).up)) rfl ?_;refine aj "w" fun b6=> ?_;refine WL.store (cs:=k.cells) sizeOf99 (ak rfl) (ak rfl) rfl vX (Ky.one k) (bT.whole (by rw[vX];rfl)) ?_;refine aj "be8" ?_;refine WL.val (V.load (v:= .i (x:Int)) isAgg3 (ak rfl) (fun _=>by rw[←hx];exact Rd.here rfl)) rfl ?_;refine aj "?" ?_;refine WL.c2 call135 rfl rfl (aah (x:=x) ay) rfl ?_;rintro _ _ ⟨A24,c24,l24,rfl,rfl⟩;refine aj "j8" ?_;refine WL.val (V.aG (v':= .slice (some ⟨b6,1,none⟩) 32 32) (V.qM (l:=0) (h:=32) (u:=32) (m:=32) zJ (ak rfl) OO.none OO.none OO.none (by simp) aN aN aN) (fun _=>by simp)) rfl ?_;refine WL.Gn (l:=l24) (news:=k.bytes) underlying34 yL (ak rfl) (ak rfl) (fun A28 c28 asn as2=> ?_) (Seq.here (m:=32) (s:=1) (by rw[au,Zm.len]) (Ky.acw Zm));refine aj "v8" ?_;refine WL.val (V.load (v:= .bool k.rev) isAgg4 (ak rfl) (fun _=>(Rd.here (Ky.acD Zm)).up)) rfl ?_;refine aj "i" (aW (fun bA=> ?_) fun bA=> ?_)
   ·try simp only[iC] at bA
    refine aj "h" ?_;refine WL.buildSlice (E:=5) (cs:=av .u8 [_]) (vs:=[(0,_)]) ⟨ak rfl,trivial⟩ rfl (jc _) rfl (fun b32=> ?_);refine aP "?~4" fun A33 c33 ar8 arH=> ?_;refine aP "gp>=" ?_;exact⟨(i+1,_,_,_,_),⟨h1,by dsimp only;omega⟩,(by show m-(i+1)<m-i;omega),.cons rfl bC,fun w h=>h.bg 3 [0] rfl⟩
   ·try simp only[iC] at bA
    refine aj "h" ?_;refine WL.buildSlice (E:=5) (cs:=av .u8 [_]) (vs:=[(0,_)]) ⟨ak rfl,trivial⟩ rfl (jc _) rfl (fun b35=> ?_);refine aP "?~4" fun A36 c36 am1 ane=> ?_;refine aP "gp>=" ?_;exact⟨(i+1,_,_,_,_),⟨h1,by dsimp only;omega⟩,(by show m-(i+1)<m-i;omega),.cons rfl bC,fun w h=>h.bg 3 [0] rfl⟩
  ·simp only[cZ] at h1;refine aj "KeC" ?_;exact aF.ret (H':=aV _ 5 1 _ _::F) (bJ.eU rfl rfl rfl) cO ⟨_,_,_,_,by rw[Kv];rfl,rfl⟩
theorem Vw(k:Ky)(n:Int)(hk:k.Ok):aK prog 197 #[.agg k.cells.toArray,.i n] K F (.i (uw k.num n)):=by
 have vX:=Ky.dB hk;refine aB.en func197 ntmps197 ?_;refine WC.sr ?_;refine WL.box (cs:=k.cells) (ak rfl) rfl rfl (fun b2=> ?_);refine aj "v8" ?_;refine WL.val (V.load (v:= .i k.num) isAgg3 (ak rfl) (fun _=>Rd.here rfl)) rfl ?_;refine WL.mv rfl rfl (WL.t2 call167 rfl rfl (l9 _ _) rfl ?_);exact aj "d." trivial
def Ul(r:List Ky)(n:Int)(i:Nat):Bool:=match r[i]? with | some k=>decide (k.num=n) | none=>false
theorem Qq(n:Int)(hr:Ring K F A m ring)(hm:m≤8)(Dm:∀(i j:Nat) (k k':Ky),ring[i]? =some k→ring[j]? =some k'→i<j→k.num<k'.num) :
 aB prog 196 #[.slice A m cap,.i n,.func (.func 197) #[] #[]] K F (fun v H'=>H'=F∧∃i:Nat,v= .tuple #[.i (i:Int),.bool (Ul ring n i)]∧(∀j k,j<i→ring[j]? =some k→k.num<n)∧(∀j k,i≤j→ring[j]? =some k→n≤k.num)):=by
 have hlen:=hr.len;have hbd:=hr.bd;refine aB.en func196 ntmps196 ?_;refine aj "aljkjlut" ?_;refine WC.loop (σ:=Nat×Nat) (fun s=>[(0,.slice A m cap),(1,.i n),(2,.func (.func 197) #[] #[]),(8,.i ((m:Nat):Int)),(9,.i ((s.1:Nat):Int)),(10,.i ((s.2:Nat):Int))]) (fun s=>F) (fun s=>s.1≤s.2∧s.2≤m∧(∀j k,j<s.1→ring[j]? =some k→k.num<n)∧(∀j k,s.2≤j→ring[j]? =some k→n≤k.num)) (fun s=>s.2-s.1) (0,m) ⟨zero_le _,Nat.le_refl _,fun j k hj=>absurd hj (not_lt_zero j),fun j k hj hk=>by rw[getElem?_eq_none (by dsimp only at hj;omega)] at hk;cases hk⟩ bC cO ?_;rintro⟨lo,hi⟩ ⟨hlh,hhm,L8,hhi⟩;dsimp only at hlh hhm L8 hhi ⊢;refine aP "rc~ji" (aW (fun h0=> ?_) fun h0=> ?_)
 ·simp only[cZ] at h0;have aoO:lo≤(lo+hi)/2^1∧(lo+hi)/2^1<hi:=by rw[show (2:Nat)^1=2 by rfl];omega
  obtain⟨md,hmd⟩:∃md,md=(lo+hi)/2^1:=⟨_,rfl⟩;rw[←hmd] at aoO;obtain⟨k,hk⟩:∃k,ring[md]? =some k:=⟨_,getElem?_eq_getElem ay⟩;have Zm:=hr.ok k (mem_of_getElem? hk);have vX:=Ky.dB Zm;refine aP "qtec~S" ?_;refine WL.val (V.qQ (i:=lo+hi) runUnderlying3 runUnderlying232 (ak rfl) (fun _=>kN (M:=18446744073709551616) rfl rfl ay)) rfl ?_;refine aP "~~I" ?_;rw[←hmd];refine WL.val (V.qQ (i:=md) runUnderlying232 runUnderlying3 (ak rfl) (fun _=>KJ ay)) rfl ?_;refine aj "jz" ?_;refine WL.val (V.dw (v:= .i k.num) TH (ak rfl) (ak rfl) (fun _=>by omega) (fun _=>by rw[Int.toNat_natCast];exact (hr.rd hk 0 _ rfl))) rfl ?_;rw[Int.toNat_natCast];refine WL.val (V.tX (vs:=k.cells) ⟨isAgg99,sizeOf99⟩ (ak rfl) vX aN (fun _=>hr.rd hk)) rfl ?_;refine WL.mv rfl rfl (WL.ny (first:=[]) (vs:=[_,_]) (captured:=[]) call197 (ak rfl) ⟨ak rfl,ak rfl,trivial⟩ (Vw k n Zm) rfl ?_);rintro _ _ ⟨rfl,rfl⟩;refine aj "4i" (aW (fun h1=> ?_) fun h1=> ?_)
  ·simp only[cZ] at h1;have N7:k.num<n:=by unfold uw at h1;split at h1;assumption;split at h1<;>omega
   refine aP "h>X" ?_;exact⟨(md+1,hi),⟨by show md+1≤hi;omega,hhm,fun j k' hj Gg=>by
    dsimp only at hj;rcases Nat.lt_or_ge j md with h | h
    ·have :=Dm j md k' k Gg hk h;omega
    ·obtain rfl:j=md:=by omega
     rw[hk] at Gg;cases Gg;exact N7,hhi⟩,(by show hi-(md+1)<hi-lo;omega),.cons rfl bC,fun w h=>h⟩
  ·simp only[cZ] at h1;have N7:n≤k.num:=by unfold uw at h1;split at h1;omega;omega
   refine aj "hX" ?_;exact⟨(lo,md),⟨by show lo≤md;omega,by show md≤m;omega,L8,fun j k' hj Gg=>by
    dsimp only at hj;rcases Nat.lt_or_ge md j with h | h
    ·have :=Dm md j k k' hk Gg h;omega
    ·obtain rfl:j=md:=by omega
     rw[hk] at Gg;cases Gg;exact N7⟩,(by show md-lo<hi-lo;omega),.cons rfl bC,fun w h=>h⟩
 ·simp only[cZ] at h0;refine aj "W" ?_;obtain rfl:lo=hi:=by omega
  obtain⟨k,hk,vX⟩:∃k:Ky,(lo<m→ring[lo]? =some k)∧k.cells.length=34:=by
   rcases Nat.lt_or_ge lo m with h | h
   ·exact⟨ring[lo]'ay,fun _=>getElem?_eq_getElem ay,Ky.dB (hr.ok _ (getElem_mem _))⟩
   ·exact⟨⟨0,replicate 32 0,false⟩,fun h'=>by omega,by simp[Ky.cells,au]⟩
  have sW:Ul ring n lo=(decide (lo<m)&&decide (uw k.num n=0)):=by
   unfold Ul;rcases Nat.lt_or_ge lo m with h | h
   ·rw[hk h];dsimp only;rw[decide_eq_true h,Bool.true_and];congr 1;unfold uw;apply propext;constructor
    ·intro e;rw[if_neg ay,if_neg ay]
    ·intro e;split at e;cases e;split at e;cases e;omega
   ·rw[getElem?_eq_none ay,decide_eq_false ay];rfl
  refine aP "hz~jc!!!" ?_;refine WL.bI (oj:=_) rfl rfl rfl GC.t (V.dw (v:= .i k.num) TH (OV.g rfl id) (OV.g rfl id) (fun hc=>by simp at hc;omega) (fun hc=>by rw[Int.toNat_natCast];exact (hr.rd (hk (by simp at hc;omega)) 0 _ rfl))) rfl ?_;refine WL.bI (oj:=_) rfl rfl rfl GC.t (V.tX (vs:=k.cells) (k:=lo*34) ⟨isAgg99,sizeOf99⟩ (OV.g rfl id) vX aN (fun hc=>hr.rd (hk (by simp at hc;omega)))) rfl ?_;refine aj "!" ?_;refine WL.Sg (oj:=_) (first:=[]) (vs:=[_,_]) (captured:=[]) rfl rfl rfl GC.t call197 (OV.g rfl id) ⟨OV.g rfl id,OV.g rfl id,trivial⟩ (fun hc=>Vw k n (hr.ok k (mem_of_getElem? (hk (by simp at hc;omega))))) rfl ?_;refine aj "~NQC" ?_;exact aF.ret (H':=F) (bJ.eU rfl rfl rfl) cO ⟨rfl,lo,by
   rw[sW],L8,hhi⟩
theorem adu(r:List Ky)(n:Int)(i:Nat)(Dm:∀(i j:Nat) (k k':Ky),r[i]? =some k→r[j]? =some k'→i<j→k.num<k'.num)(h1:∀(j:Nat) (k:Ky),j<i→r[j]? =some k→k.num<n)(h2:∀(j:Nat) (k:Ky),i≤j→r[j]? =some k→n≤k.num) :
 (Ul r n i=true→r[i]? =findF r n∧(findF r n).isSome=true)∧(Ul r n i=false→findF r n=none):=by
 have key:∀k,findF r n=some k→∃j,r[j]? =some k∧k.num=n:=fun k hk=>by
  unfold findF at hk;obtain⟨j,hj⟩:=getElem?_of_mem (mem_of_find?_eq_some hk);exact⟨j,hj,by simpa using find?_some hk⟩
 have none_:findF r n=none→∀(j:Nat) (k:Ky),r[j]? =some k→k.num≠n:=fun hk j k hj=>by
  unfold findF at hk;have :=find?_eq_none.1 hk k (mem_of_getElem? hj)
  simpa using this
 constructor
 ·intro h;unfold Ul at h;cases hi:r[i]? with
  | none=>rw[hi] at h;cases h
  | some k =>
   rw[hi] at h;have hkn:k.num=n:=by simpa using h
   cases hf:findF r n with
   | none=>exact absurd hkn (none_ hf i k hi)
   | some k' =>
    obtain⟨j,hj,Wx⟩:=key k' hf;rcases Nat.lt_trichotomy i j with h3 | rfl | h3
    ·have :=Dm i j k k' hi hj h3;omega
    ·rw[hi] at hj;exact⟨hj,rfl⟩
    ·have :=Dm j i k' k hj hi h3;omega
 ·intro h;unfold Ul at h;cases hf:findF r n with
  | none=>rfl
  | some k' =>
   obtain⟨j,hj,Wx⟩:=key k' hf;exfalso;rcases Nat.lt_or_ge j i with h3 | h3
   ·have :=h1 j k' h3 hj;omega
   ·rcases Nat.eq_or_lt_of_le h3 with rfl | h4
    ·rw[hj] at h;simp[Wx] at h
    ·cases hi:r[i]? with
     | none=>rw[List.getElem?_eq_none_iff] at hi;have :=(List.getElem?_eq_some_iff.1 hj).1;omega
     | some k =>
      have h5:=Dm i j k k' hi hj h4;have h6:=h2 i k (Nat.le_refl _) hi;omega
def qP(r:List Ky)(n:Int):Int:=if j6 r then (if (findF r n).isSome then 0 else 190) else 1
theorem SG(n:Int)(hr:Ring K F A m ring):aB prog 142 #[.slice A m cap,.i n] K F (fun v H'=>H'=F∧∃i:Nat,v= .tuple #[.i (i:Int),.i (qP ring n)]∧(qP ring n=0→ring[i]? =findF ring n∧(findF ring n).isSome=true)):=by
 have hlen:=hr.len;refine aB.en func142 ntmps142 ?_;refine aj "alf" ?_;refine WL.t1 call134 rfl (OZ hr) rfl ?_;refine aj "*i" (aW (fun h0=> ?_) fun h0=> ?_)
 ·skip
  have Kv:j6 ring=false:=by simpa using h0
  refine aj "aC" ?_;exact aF.ret (H':=F) (bJ.eU rfl rfl rfl) cO ⟨rfl,0,by unfold qP;rw[if_neg (by rw[Kv];decide)];rfl,fun h=>by unfold qP at h;rw[if_neg (by rw[Kv];decide)] at h;cases h⟩
 ·skip
  have Kv:j6 ring=true:=by simpa using h0
  have JG:=Kv;unfold j6 at JG;simp only[Bool.and_eq_true,decide_eq_true_eq] at JG;have Dm:=Lj _ _ JG.1;refine aj "Uc" ?_;refine WL.c3 call196 rfl rfl rfl (Qq n hr ay Dm) rfl ?_;rintro _ H0 ⟨hH,i,rfl,uM,pI⟩;subst H0;have hfa:=adu ring n i Dm uM pI;refine aj "Df*i" (aW (fun h1=> ?_) fun h1=> ?_)
  ·skip
   have N7:=hfa.2 (by simpa using h1);refine aj "aC" ?_;exact aF.ret (H':=F) (bJ.eU rfl rfl rfl) cO ⟨rfl,0,by unfold qP;rw[if_pos Kv,N7];rfl,fun h=>by unfold qP at h;rw[if_pos Kv,N7] at h;cases h⟩
  ·skip
   have N7:=hfa.1 (by simpa using h1);refine aj "UC" ?_;exact aF.ret (H':=F) (bJ.eU rfl rfl rfl) cO ⟨rfl,i,by unfold qP;rw[if_pos Kv,if_pos N7.2],fun _=>N7⟩
theorem Xl(n:Int)(hr:Ring K F A m ring):aK prog 82 #[.slice A m cap,.i n] K F (.tuple #[.agg (av .u8 (q9 ring n).1).toArray,.i (q9 ring n).2]):=by
 have hlen:=hr.len;have hbd:=hr.bd;refine aB.en func82 ntmps82 ?_;refine aP "ax" fun b4=> ?_;refine aj "Y" ?_;refine WL.c2 call142 rfl rfl (SG n hr.up) rfl ?_;rintro _ H0 ⟨hH,i,rfl,hp⟩;subst H0;refine aj "DutesgH" (aW (fun h0=> ?_) fun h0=> ?_)
 ·simp only[oK] at h0;refine WC.sr (WL.val (V.lX (k:= .u8) (l:=replicate 32 0) (vs:=[]) trivial rfl (PV )) rfl (aP "cyd" ?_));exact aF.ret (H':=F) (bJ.two rfl (R1.dh (l:=replicate 32 0) rfl ⟨isAgg97,sizeOf97⟩) (R1.tmp rfl)) eO ⟨by
   have :q9 ring n=(replicate 32 0,qP ring n):=by
    unfold q9 qP at *
    split
    ·rename_i h1;rw[if_pos h1] at h0;split
     ·rename_i k hk;rw[hk] at h0;exact absurd rfl h0
     ·rename_i hk;rw[hk];rfl
    ·rfl
   rw[this],rfl⟩
 ·simp only[oK] at h0;have Kv:qP ring n=0:=ay;obtain⟨UZ,RV⟩:=hp Kv;obtain⟨k,hk⟩:=Option.isSome_iff_exists.1 RV;rw[hk] at UZ;have Zm:=hr.ok k (mem_of_getElem? UZ);have vX:=Zm.len;have him:i<m:=by have :=(List.getElem?_eq_some_iff.1 UZ).1;omega
  have jh:j6 ring=true:=by unfold qP at Kv;split at Kv;assumption;cases Kv
  have hkf:q9 ring n=if k.rev then (replicate 32 0,190) else (k.bytes,0):=by unfold q9;rw[if_pos jh,hk]
  rw[hkf];refine aj "ec" ?_;refine WL.val (V.dw (v:= .i k.num) TH (ak rfl) (ak rfl) (fun _=>by omega) (fun _=>by rw[Int.toNat_natCast];exact (hr.rd UZ 0 _ rfl).up)) rfl ?_;rw[Int.toNat_natCast];refine WL.val (V.uY (k':=i*34) (v:= .i k.num) Uq (ak rfl) (fun _=>(hr.rd UZ 0 _ rfl).up)) rfl ?_;refine WL.val (V.load (v:= .bool k.rev) isAgg4 (ak rfl) (fun _=>(hr.rd UZ 33 _ (Ky.acD Zm)).up)) rfl ?_;refine aj "gH" (aW (fun h1=> ?_) fun h1=> ?_)
  ·skip
   rw[h1];refine WC.sr (WL.val (V.lX (k:= .u8) (l:=replicate 32 0) (vs:=[]) trivial rfl (PV )) rfl (aP "yd" ?_));exact aF.ret (H':=F) (bJ.two rfl (R1.dh (l:=replicate 32 0) rfl ⟨isAgg97,sizeOf97⟩) (R1.tmp rfl)) eO ⟨rfl,rfl⟩
  ·skip
   rw[h1];refine aj "Uc" ?_;refine WL.val (V.dw (v:= .i k.num) TH (ak rfl) (ak rfl) (fun _=>by omega) (fun _=>by rw[Int.toNat_natCast];exact (hr.rd UZ 0 _ rfl).up)) rfl ?_;rw[Int.toNat_natCast];refine WL.val (V.uY (k':=i*34) (v:= .i k.num) abW (ak rfl) (fun _=>(hr.rd UZ 0 _ rfl).up)) rfl ?_;refine WL.val (V.tX (vs:=av .u8 k.bytes) ⟨isAgg97,sizeOf97⟩ (ak rfl) (by rw[au,Zm.len]) aN (fun _ j v hj=>by rw[Nat.add_assoc];exact (hr.rd UZ _ _ (Ky.aeG hj)).up)) rfl ?_;refine aP "yd" ?_;exact aF.ret (H':=F) (bJ.two rfl (R1.dh (l:=k.bytes) rfl ⟨isAgg97,sizeOf97⟩) (R1.tmp rfl)) eO ⟨rfl,rfl⟩
theorem rV{α:Type}{f:α→List Value}:∀(l:List α) (hf:∀x∈l,(f x).length=s),(l.flatMap f).length=l.length*s
 | [],_=>by simp
 | y::l,hf=>by rw[flatMap_cons,length_append,hf y (.head _),rV l (fun z hz=>hf z (.tail _ hz)),length_cons,succ_mul,Nat.add_comm]
theorem abg(h8:aA 256 l):((strOfNums (bH l)).toList==(⟨#[109,97,110,105]⟩:ByteArray).toList)=decide (l=[109,97,110,105]):=by
 have h2:aA 256 [109,97,110,105]:=by unfold aA;decide
 rw[show (⟨#[109,97,110,105]⟩:ByteArray)=strOfNums (bH [109,97,110,105]) from rfl,sZ (kR h8) (kR h2)];apply decide_eq_decide.2;constructor
 ·intro h;have :=congrArg (List.map Int.toNat) h
  simpa [bH,map_map,Function.comp_def] using this
 ·intro h;rw[h]
theorem aA.K8(h:aA 256 l):aA 256 (l.drop 4):=fun x hx=>h x (mem_of_mem_drop hx)
abbrev sI.cells(M:sI)(A:Option Addr)(c:Nat):List Value:=[.i M.ver,.i M.sec,.i M.key,.i M.yS,.slice A M.gH.length c]
theorem U4(hs:Seq K F A m 1 (av .u8 b))(h8:aA 256 b)(hc:m≤c)(C:aH) :
 pF prog 137 #[ptr bb 0,ptr bm 0] K (C::ah bb 34 [.slice A m c]::ah bm 42 [.i 0,.i 0,.i 0,.i 0,.slice none 0 0]::F) Gc
  (fun v H'=>∃H2,H'=C::H2∧∃M A' c' E,iL b=some M∧(∀H,JR K (E::H) A' M.gH.length M.gH)∧H2=ah bm 42 (M.cells A' c')::E::F)
  (fun H'=>∃H2,H'=C::H2∧iL b=none∧H2=F):=by
 have hlen:b.length=m:=by have :=hs.len;rwa [au,Nat.mul_one] at this
 have Mf:m<24→iL b=none:=fun h=>by unfold iL;rw[if_pos (.inl ay)]
 refine aB.Er func137 rfl ntmps137 rfl ?_;simp only[kV,reduceAdd];refine WC.sr ?_;refine WL.val (V.load (v:= .slice A m c) isAgg34 (ak rfl) (fun _=>(Rd.here rfl).up)) rfl ?_;refine WL.val (V.build (vs:=[(0,_)]) ⟨ak rfl,trivial⟩ rfl (aby _ _ _)) rfl ?_;refine aj "~h" fun b9=> ?_;refine aj "j" ?_;refine WL.jG (vs:=[_,_]) call139 ⟨ak rfl,ak rfl,trivial⟩ (iJ (n:=4) hc) rfl ?_ ?_
 ·rintro _ ⟨hb,rfl⟩;exact⟨rfl,rfl,C::F,fun w h=>h.bg 3 [0] rfl,F,rfl,Mf ay,rfl⟩
 rintro _ _ ⟨h4,rfl,rfl⟩;have ht:=hs.take h4;rw[dU] at ht;have sV:=Seq.OJ hs h4 hc;have Dw:m-4≤c-4:=Nat.sub_le_sub_right hc 4;have qX:aA 256 (b.drop 4):=fun x hx=>h8 x (mem_of_mem_drop hx);refine WL.val (V.iM (xs:=bH (b.take 4)) underlying34 underlying5 underlying9 (ak rfl) (fun _=>by rw[←jX];exact ht.up.up.up.up)) rfl ?_;refine WL.val (V.ajB (ak rfl) (ak rfl)) rfl ?_;rw[abg (fun x hx=>h8 x (mem_of_mem_take hx))];refine WL.jG (vs:=[_]) call138 ⟨ak rfl,trivial⟩ (qF _) rfl ?_ ?_
 ·rintro _ ⟨hb,rfl⟩;exact⟨rfl,rfl,C::F,fun w h=>h.bg 4 [1] rfl,F,rfl,by unfold iL;rw[if_pos (.inr (.inl (by simpa using hb)))],rfl⟩
 rintro _ _ ⟨aog,rfl,rfl⟩;refine aj "Fa8888" ?_;refine WL.buildSlice (E:=214) (cs:=[_,_,_,_]) (vs:=[(0,_),(1,_),(2,_),(3,_)]) ⟨ak rfl,ak rfl,ak rfl,ak rfl,trivial⟩ rfl (Ee _ _ _ _) rfl (fun b19=> ?_);refine aj "k~!N" ?_;refine WC.rounds 5 (aj "T5Ia~E<gP" ?_);refine WL.jG (vs:=[_]) call140 ⟨ak rfl,trivial⟩ (iV sV.up.up.up.up qX Dw) rfl ?_ ?_
 ·rintro _ ⟨hb,rfl⟩;exact⟨rfl,rfl,C::F,fun w h=>h.bg 4 [1] rfl,F,rfl,Mf ay,rfl⟩
 rintro _ _ ⟨h4,rfl,rfl⟩;replace sV:=Seq.OJ sV h4 Dw;replace Dw:=Nat.sub_le_sub_right Dw 4;simp only[drop_drop,reduceAdd] at sV;replace qX:=aA.K8 qX;simp only[drop_drop,reduceAdd] at qX;refine aj "`~pbp~Q~sT5Ia~E<gP" ?_;refine WL.jG (vs:=[_]) call140 ⟨ak rfl,trivial⟩ (iV sV.up.up.up.up qX Dw) rfl ?_ ?_
 ·rintro _ ⟨hb,rfl⟩;exact⟨rfl,rfl,C::F,fun w h=>h.bg 4 [1] rfl,F,rfl,Mf ay,rfl⟩
 rintro _ _ ⟨h4,rfl,rfl⟩;replace sV:=Seq.OJ sV h4 Dw;replace Dw:=Nat.sub_le_sub_right Dw 4;simp only[drop_drop,reduceAdd] at sV;replace qX:=aA.K8 qX;simp only[drop_drop,reduceAdd] at qX;refine aj "`~pbp~t~sT5Ia~E<gP" ?_;refine WL.jG (vs:=[_]) call140 ⟨ak rfl,trivial⟩ (iV sV.up.up.up.up qX Dw) rfl ?_ ?_
 ·rintro _ ⟨hb,rfl⟩;exact⟨rfl,rfl,C::F,fun w h=>h.bg 4 [1] rfl,F,rfl,Mf ay,rfl⟩
 rintro _ _ ⟨h4,rfl,rfl⟩;replace sV:=Seq.OJ sV h4 Dw;replace Dw:=Nat.sub_le_sub_right Dw 4;simp only[drop_drop,reduceAdd] at sV;replace qX:=aA.K8 qX;simp only[drop_drop,reduceAdd] at qX;refine aj "`~pbp" ?_;refine WL.val (V.aG (v':= .i (3)) (V.add (ak rfl) (ak rfl)) (fun _=>rfl)) rfl ?_;refine aj "~sT5Ia~E<gP" ?_;refine WL.jG (vs:=[_]) call140 ⟨ak rfl,trivial⟩ (iV sV.up.up.up.up qX Dw) rfl ?_ ?_
 ·rintro _ ⟨hb,rfl⟩;exact⟨rfl,rfl,C::F,fun w h=>h.bg 4 [1] rfl,F,rfl,Mf ay,rfl⟩
 rintro _ _ ⟨h4,rfl,rfl⟩;replace sV:=Seq.OJ sV h4 Dw;replace Dw:=Nat.sub_le_sub_right Dw 4;simp only[drop_drop,reduceAdd] at sV;replace qX:=aA.K8 qX;simp only[drop_drop,reduceAdd] at qX;refine aj "`~pbp" ?_;refine WL.val (V.aG (v':= .i (4)) (V.add (ak rfl) (ak rfl)) (fun _=>rfl)) rfl ?_;refine aj "~sT~BKe" ?_;refine WL.jG (vs:=[_]) call140 ⟨ak rfl,trivial⟩ (iV sV.up.up.up.up qX Dw) rfl ?_ ?_
 ·rintro _ ⟨hb,rfl⟩;exact⟨rfl,rfl,C::F,fun w h=>h.bg 4 [1] rfl,F,rfl,Mf ay,rfl⟩
 rintro _ _ ⟨h4,rfl,rfl⟩;replace sV:=Seq.OJ sV h4 Dw;replace Dw:=Nat.sub_le_sub_right Dw 4;simp only[drop_drop,reduceAdd] at sV;replace qX:=aA.K8 qX;simp only[drop_drop,reduceAdd] at qX;obtain⟨n,hn⟩:∃n,n=sP (b.drop 20):=⟨_,rfl⟩;rw[←hn];refine aj "j~>" ?_;refine WL.jG (vs:=[_]) call138 ⟨ak rfl,trivial⟩ (qF _) rfl ?_ ?_
 ·rintro _ ⟨hb,rfl⟩;exact⟨rfl,rfl,C::F,fun w h=>h.bg 5 [2] rfl,F,rfl,by unfold iL;rw[if_pos (.inr (.inr (by simp at hb;omega)))],rfl⟩
 rintro _ _ ⟨hn8,rfl,rfl⟩;have arX:n≤8:=by simp at hn8;omega
 obtain⟨X,hX⟩:∃X,X=EN n (b.drop 24):=⟨_,rfl⟩;have hmX:iL b=VB b X:=by
  unfold iL;rw[if_neg (by rintro (h | h | h);omega;exact h (by simpa using aog);omega),←hn,hX]
 have hXn:X=none→iL b=none:=fun h=>by rw[hmX,h];rfl
 refine aj "brN" ?_;refine WC.loop (σ:=Nat×(Option Addr×Nat×Nat)×List Nat×List yP×(Option Addr×Nat)) (fun s=>[(1,ptr bm 0),(2,ptr b9 0),(35,.i (n:Int)),(36,.i (s.1:Int))])
  (fun s=>ah b9 212 [.slice s.2.1.1 s.2.1.2.1 s.2.1.2.2]::C::ah bm 42 [.i ((sP (b.drop 4):Nat):Int),.i ((sP (b.drop 8):Nat):Int),.i ((sP (b.drop 12):Nat):Int),.i ((sP (b.drop 16):Nat):Int),.slice s.2.2.2.2.1 s.1 s.2.2.2.2.2]::aV (.slice s.2.2.2.2.1 s.1 s.2.2.2.2.2) 140 34 s.1 (s.2.2.2.1.flatMap yP.cells)::F)
  (fun s=>s.1≤n∧Sl.Seq K F s.2.1.1 s.2.1.2.1 1 (av .u8 s.2.2.1)∧s.2.1.2.1≤s.2.1.2.2∧s.2.2.2.1.length=s.1∧(∀x∈s.2.2.2.1,x.Ok)∧aA 256 s.2.2.1∧X=(EN (n-s.1) s.2.2.1).map (fun p=>(s.2.2.2.1++p.1,p.2))) (fun s=>n-s.1)
  (0,(_,_,_),b.drop 24,[],(none,0)) ⟨zero_le _,sV,Dw,rfl,fun x hx=>by (cases hx),qX,by dsimp only;rw[hX,Nat.sub_zero];cases EN n (b.drop 24)<;>rfl⟩ bC (fun w h=>((h.bg 5 [0,2,4] rfl).gI 140 34).bg 4 [1,2,3,0] rfl) ?_
 rintro⟨i,⟨Ar,mr,cr⟩,rest,acc,⟨As,ca⟩⟩ ⟨hi,Wv,JJ,hal,hao,tu,wu⟩;dsimp only at hi Wv JJ hal hao tu wu ⊢;have pG:rest.length=mr:=by have :=Wv.len;rwa [au,Nat.mul_one] at this
 refine aj "TH" (aW (fun h1=> ?_) fun h1=> ?_)
 ·simp only[cZ] at h1;rw[show n-i=n-(i+1)+1 by omega,EN] at wu;have h40:mr<40→iL b=none:=fun h=>hXn (by rw[wu,if_pos ay];rfl);refine aj "Iaw" fun b6=> ?_;refine aj "be~!" ?_;refine WL.jG (vs:=[_]) call140 ⟨ak rfl,trivial⟩ (iV Wv.up.up.up.up tu JJ) rfl ?_ ?_
  ·rintro _ ⟨hb,rfl⟩;exact⟨rfl,rfl,C::F,fun w h=>h.bg 4 [1] rfl,F,rfl,h40 ay,rfl⟩
  rintro _ _ ⟨h4,rfl,rfl⟩;have Dq:=Seq.OJ Wv h4 JJ;refine WL.mv rfl rfl ?_;refine WL.jG (vs:=[_]) call140 ⟨ak rfl,trivial⟩ (iV Dq.up.up.up.up (aA.K8 tu) (Nat.sub_le_sub_right JJ 4)) rfl ?_ ?_
  ·rintro _ ⟨hb,rfl⟩;exact⟨rfl,rfl,C::F,fun w h=>h.bg 4 [1] rfl,F,rfl,h40 ay,rfl⟩
  rintro _ _ ⟨h4',rfl,rfl⟩;have EB:=Seq.OJ Dq h4' (Nat.sub_le_sub_right JJ 4);rw[drop_drop] at EB;refine aj "8" ?_;refine WL.store (cs:=[_]) sizeOf3 (ak rfl) (ak rfl) rfl rfl rfl (by repeat (first | exact bT.here (cs':=[_,_,_,_,_,_,_,_,_,_,_,_,_,_,_,_,_,_,_,_,_,_,_,_,_,_,_,_,_,_,_,_,_,_]) rfl rfl | apply bT.up)) ?_;refine aj "8~pF" ?_;have M7:mr-4-4≤cr-4-4:=Nat.sub_le_sub_right (Nat.sub_le_sub_right JJ 4) 4;rcases Nat.lt_or_ge (mr-4-4) 32 with h32 | h32
  ·refine WC.MO (by kernel_rfl) ?_;refine WA.two (i:=0) (j:=2) cO (by kernel_rfl) rfl rfl ?_ ?_
   ·refine WL.val (V.fieldAddr Mj (ak rfl)) rfl (WL.nil ?_);refine WA.two (i:=1) (j:=2) cO (by kernel_rfl) rfl rfl ?_ ?_
    ·refine WL.val (V.aG (v':= .slice (some ⟨b6,2,none⟩) 32 32) (V.qM (l:=0) (h:=32) (u:=32) (m:=32) zJ (ak rfl) OO.none OO.none OO.none (by simp) aN aN aN) (fun _=>by simp)) rfl (WL.nil ?_);refine WA.o 2 rfl ?_;refine WL.mv rfl rfl (WL.nil ?_);refine WA.o 3 rfl ?_;exact WL.jG (vs:=[_,_]) call139 ⟨ak rfl,ak rfl,trivial⟩ (iJ (n:=32) M7) rfl (fun H' hp=>by obtain⟨_,rfl⟩:=hp;exact⟨rfl,rfl,C::F,fun w h=>h.bg 4 [1] rfl,F,rfl,h40 ay,rfl⟩) (fun v H' hp=>absurd hp.1 ay)
    ·refine WL.mv rfl rfl (WL.nil ?_);refine WA.two (i:=1) (j:=3) cO (by kernel_rfl) rfl rfl ?_ ?_
     ·refine WL.val (V.aG (v':= .slice (some ⟨b6,2,none⟩) 32 32) (V.qM (l:=0) (h:=32) (u:=32) (m:=32) zJ (ak rfl) OO.none OO.none OO.none (by simp) aN aN aN) (fun _=>by simp)) rfl (WL.nil ?_);refine WA.o 3 rfl ?_;exact WL.jG (vs:=[_,_]) call139 ⟨ak rfl,ak rfl,trivial⟩ (iJ (n:=32) M7) rfl (fun H' hp=>by obtain⟨_,rfl⟩:=hp;exact⟨rfl,rfl,C::F,fun w h=>h.bg 4 [1] rfl,F,rfl,h40 ay,rfl⟩) (fun v H' hp=>absurd hp.1 ay)
     ·exact WL.jG (vs:=[_,_]) call139 ⟨ak rfl,ak rfl,trivial⟩ (iJ (n:=32) M7) rfl (fun H' hp=>by obtain⟨_,rfl⟩:=hp;exact⟨rfl,rfl,C::F,fun w h=>h.bg 4 [1] rfl,F,rfl,h40 ay,rfl⟩) (fun v H' hp=>absurd hp.1 ay)
   ·refine WL.mv rfl rfl (WL.nil ?_);refine WA.two (i:=0) (j:=3) cO (by kernel_rfl) rfl rfl ?_ ?_
    ·refine WL.val (V.fieldAddr Mj (ak rfl)) rfl (WL.nil ?_);refine WA.two (i:=1) (j:=3) cO (by kernel_rfl) rfl rfl ?_ ?_
     ·refine WL.val (V.aG (v':= .slice (some ⟨b6,2,none⟩) 32 32) (V.qM (l:=0) (h:=32) (u:=32) (m:=32) zJ (ak rfl) OO.none OO.none OO.none (by simp) aN aN aN) (fun _=>by simp)) rfl (WL.nil ?_);refine WA.o 3 rfl ?_;exact WL.jG (vs:=[_,_]) call139 ⟨ak rfl,ak rfl,trivial⟩ (iJ (n:=32) M7) rfl (fun H' hp=>by obtain⟨_,rfl⟩:=hp;exact⟨rfl,rfl,C::F,fun w h=>h.bg 4 [1] rfl,F,rfl,h40 ay,rfl⟩) (fun v H' hp=>absurd hp.1 ay)
     ·exact WL.jG (vs:=[_,_]) call139 ⟨ak rfl,ak rfl,trivial⟩ (iJ (n:=32) M7) rfl (fun H' hp=>by obtain⟨_,rfl⟩:=hp;exact⟨rfl,rfl,C::F,fun w h=>h.bg 4 [1] rfl,F,rfl,h40 ay,rfl⟩) (fun v H' hp=>absurd hp.1 ay)
    ·exact WL.jG (vs:=[_,_]) call139 ⟨ak rfl,ak rfl,trivial⟩ (iJ (n:=32) M7) rfl (fun H' hp=>by obtain⟨_,rfl⟩:=hp;exact⟨rfl,rfl,C::F,fun w h=>h.bg 4 [1] rfl,F,rfl,h40 ay,rfl⟩) (fun v H' hp=>absurd hp.1 ay)
  refine WC.noP ?_;refine WC.dM (C::ah bm 42 [.i ((sP (b.drop 4):Nat):Int),.i ((sP (b.drop 8):Nat):Int),.i ((sP (b.drop 12):Nat):Int),.i ((sP (b.drop 16):Nat):Int),.slice As i ca]::aV (.slice As i ca) 140 34 i (acc.flatMap yP.cells)::F) (by kernel_rfl) ?_;refine aj "00" ?_;refine WA.t 1 rfl (V.aG (v':= .slice (some ⟨b6,2,none⟩) 32 32) (V.qM (l:=0) (h:=32) (u:=32) (m:=32) zJ (ak rfl) OO.none OO.none OO.none (by simp) aN aN aN) (fun _=>by simp)) ?_;refine aj "m2n3" ?_;refine WL.c2 call139 rfl rfl ((iJ (n:=32) M7).aoK (fun H' hp=>absurd hp.1 ay)) rfl ?_;rintro _ _ ⟨_,rfl,rfl⟩;have ht2:=EB.take h32;rw[dU] at ht2;have Mc:=Seq.OJ EB h32 M7;rw[drop_drop] at Mc;obtain⟨s,UN⟩:∃s,s=yP.mk ((sP rest:Nat):Int) ((sP (rest.drop 4):Nat):Int) ((rest.drop 8).take 32):=⟨_,rfl⟩;have UU:s.Ok:=by rw[UN];exact⟨by show ((rest.drop 8).take 32).length=32;rw[length_take,length_drop];omega,fun x hx=>tu x (mem_of_mem_drop (mem_of_mem_take hx))⟩
  have mR:=yP.dB UU;have agk:((rest.drop 8).take 32).length=32:=by rw[length_take,length_drop];omega
  refine aj "bn4" ?_;refine WL.agd (q:=32) (news:=av .u8 ((rest.drop 8).take 32)) (H':=ah b9 212 [.slice _ _ _]::ah b6 140 s.cells::C::ah bm 42 [.i ((sP (b.drop 4):Nat):Int),.i ((sP (b.drop 8):Nat):Int),.i ((sP (b.drop 12):Nat):Int),.i ((sP (b.drop 16):Nat):Int),.slice As i ca]::aV (.slice As i ca) 140 34 i (acc.flatMap yP.cells)::F) dO (ak rfl) (ak rfl) ht2.up.up.up.up.up (Nat.le_refl _) (jB _ _) (bT.up (bT.here (by rw[au,agk];rfl) (by rw[mD _ _ _ (by rw[au,agk];exact le_of_ble_eq_true rfl),au,agk,UN];simp[yP.cells,oU]))) rfl ?_;refine aj "bOp8" ?_;refine WL.val (V.load (v:= .slice As i ca) isAgg40 (ak rfl) (fun _=>lD)) rfl ?_;refine WL.val (V.fE (vs:=s.cells) ⟨isAgg140,sizeOf140⟩ (ak rfl) mR (fun _=>fH.up (fH.all))) rfl ?_;refine WL.buildSlice (E:=140) (cs:=s.cells) (vs:=[(0,.agg s.cells.toArray)]) ⟨ak rfl,trivial⟩ rfl (adK s.cells mR) rfl (fun b52=> ?_);refine aj "~~T" ?_;refine WL.append (m:=i) (q:=1) (news:=s.cells) underlying40 aj1 (ak rfl) (ak rfl) (Seq.all (by rw[mR])) (by simpa using yP.one s) ay rfl rfl (fun A53 c53 aq2 ar4=> ?_);refine aj "8~pb7" ?_;refine⟨(i+1,(_,_,_),rest.drop 40,acc++[s],(A53,c53)),⟨by show i+1≤n;omega,Mc,Nat.sub_le_sub_right M7 32,by simp[hal],fun x hx=> ?_,fun x hx=>tu x (mem_of_mem_drop hx), ?_⟩,(by show n-(i+1)<n-i;omega),.cons rfl bC,fun w h=> ?_⟩
  ·rcases mem_append.1 hx with h | h
   ·exact hao x h
   ·rw[mem_singleton.1 h];exact UU
  ·rw[if_neg ay] at wu;rw[wu,←UN];cases EN (n-(i+1)) (rest.drop 40) with
   | none=>rfl
   | some p=>simp
  ·have h2:=h.bg 6 [2,4,5,0] rfl;simp only[flatMap_append,flatMap_cons,flatMap_nil,append_nil];exact h2
 ·simp only[cZ] at h1;refine aj "W" ?_;obtain rfl:i=n:=by omega
  rw[Nat.sub_self,EN] at wu;have hX2:X=some (acc,rest):=by rw[wu];simp
  subst hal;refine aj "hS" ?_;refine WL.val (V.load (v:= .slice Ar mr cr) isAgg34 (ak rfl) (fun _=>Rd.here rfl)) rfl ?_;refine aj "k:" ?_;refine WL.jG (vs:=[_]) call138 ⟨ak rfl,trivial⟩ (qF _) rfl ?_ ?_
  ·rintro _ ⟨hb,rfl⟩;exact⟨rfl,rfl,C::F,fun w h=>h.bg 4 [1] rfl,F,rfl,by
    rw[hmX,hX2];cases rest with
    | nil=>simp at pG;subst pG;simp at hb
    | cons _ _=>rfl,rfl⟩
  rintro _ _ ⟨hb,rfl,rfl⟩;have KC:rest=[]:=eq_nil_of_length_eq_zero (by simp at hb;omega);rw[hX2,KC,VB] at hmX;refine aj "bpB" ?_;refine WL.jG (vs:=[_]) call141 ⟨ak rfl,trivial⟩ (Xz (M:=⟨(sP (b.drop 4):Nat),(sP (b.drop 8):Nat),(sP (b.drop 12):Nat),(sP (b.drop 16):Nat),acc⟩) (A:=As) (m:=acc.length) ⟨(aV.seq (by rw[rV acc (fun x hx=>yP.dB (hao x hx))])).up.up.up,rfl,hao⟩ ay) rfl ?_ ?_
  ·rintro _ ⟨hb,rfl⟩;exact⟨rfl,rfl,C::F,fun w h=>h.bg 4 [1] rfl,F,rfl,by rw[hmX,if_neg (by rw[hb];decide)],rfl⟩
  rintro _ _ ⟨hb,rfl,rfl⟩;rw[if_pos hb] at hmX;refine WL.nil ?_;exact⟨rfl,_,C::ah bm 42 (sI.cells ⟨(sP (b.drop 4):Nat),(sP (b.drop 8):Nat),(sP (b.drop 12):Nat),(sP (b.drop 16):Nat),acc⟩ As ca)::aV (.slice As acc.length ca) 140 34 acc.length (acc.flatMap yP.cells)::F,bJ.none rfl,fun w h=>h.bg 4 [1,2,3] rfl,_,rfl,⟨(sP (b.drop 4):Nat),(sP (b.drop 8):Nat),(sP (b.drop 12):Nat),(sP (b.drop 16):Nat),acc⟩,As,ca,aV (.slice As acc.length ca) 140 34 acc.length (acc.flatMap yP.cells),hmX,fun H=>⟨by show Sl.Seq K _ As acc.length 34 _;exact aV.seq (by rw[rV acc (fun x hx=>yP.dB (hao x hx))]),rfl,hao⟩,rfl⟩
theorem aV.room(h:Sat K w (aV (.slice A m cap) E s m cs::H)):m≤cap:=by
 obtain⟨A',cap',h1,h2,_⟩:=aV.shape h.head;injection h1 with _ _ h3
 omega
theorem Um(hs:Seq K F A m 1 (av .u8 b))(h8:aA 256 b)(hc:m≤c)(hM:iL b=none) :
 aK prog 80 #[.slice A m c] K F (.tuple #[.agg (sI.zero.cells none 0).toArray,.i 4]):=by
 refine aB.en func80 ntmps80 ?_;refine aj "a~h" fun b1=> ?_;refine aj "w" fun b2=> ?_;refine aj "vw" fun b4=> ?_;refine aj "R~~d~~h" ?_;refine WL.c1 call136 rfl (LA (cap:=[ptr b1 0,ptr b4 0]) call137 (fun C=>U4 hs.up h8 hc C)) rfl ?_;rintro _ _ (⟨rfl,M,A',c',E,h1,h2,rfl⟩ | ⟨rfl,h1,rfl⟩)
 ·rw[hM] at h1;cases h1
 refine aj "f*b5a@Ed" ?_;exact aF.ret (H':=F) (rA rfl rfl ⟨isAgg42,sizeOf42⟩ rfl) (fun w h=>h.tail) ⟨rfl,rfl⟩
theorem TY(hs:Seq K F A m 1 (av .u8 b))(h8:aA 256 b)(hc:m≤c)(hM:iL b=some M) :
 aB prog 80 #[.slice A m c] K F (fun v H'=>∃A' c' E,v= .tuple #[.agg (M.cells A' c').toArray,.i 0]∧(∀H,JR K (E::H) A' M.gH.length M.gH)∧H'=E::F):=by
 refine aB.en func80 ntmps80 ?_;refine aj "a~h" fun b1=> ?_;refine aj "w" fun b2=> ?_;refine aj "vw" fun b4=> ?_;refine aj "R~~d~~h" ?_;refine WL.c1 call136 rfl (LA (cap:=[ptr b1 0,ptr b4 0]) call137 (fun C=>U4 hs.up h8 hc C)) rfl ?_;rintro _ _ (⟨rfl,M',A',c',E,h1,h2,rfl⟩ | ⟨rfl,h1,rfl⟩)
 rotate_left
 ·rw[hM] at h1;cases h1
 rw[hM,Option.some.injEq] at h1;subst h1;refine aj "f*39BEd" ?_;exact aF.ret (H':=E::F) (bJ.two rfl (R1.jQ (vs:=M.cells A' c') rfl ⟨isAgg42,sizeOf42⟩ rfl tN) (R1.tmp rfl)) (fun w h=>h.bg 3 [1] rfl) ⟨A',c',E,rfl,h2,rfl⟩
def I7(b:List Nat):Int:=if (iL b).isSome then 0 else 4
theorem Xy(hs:Seq K F A m 1 (av .u8 b))(h8:aA 256 b)(hc:m≤c) :
 aB prog 80 #[.slice A m c] K F (fun v H'=>∃A' c' E,v= .tuple #[.agg (((iL b).getD .zero).cells A' c').toArray,.i (I7 b)]∧(∀H,JR K (E::H) A' ((iL b).getD .zero).gH.length ((iL b).getD .zero).gH)∧H'=E::F):=by
 unfold I7;cases hM:iL b with
 | none =>
  intro w hw;refine (Um hs h8 hc hM w hw).mono ?_;rintro e w' ⟨v,H',h1,h2,rfl,rfl⟩;exact⟨_,bK []::H',h1,Sat.all (l:=[]) h2,none,0,bK [],rfl,fun H=>⟨⟨rfl,fun i v hi=>by simp[sI.zero] at hi⟩,rfl,fun s hs=>by cases hs⟩,rfl⟩
 | some M=>exact TY hs h8 hc hM
theorem WU(hs:Seq K F A m 1 (av .u8 b))(hm:m≤1000000)(hc:m≤c) :
 aB prog 78 #[.slice A m c] K F (fun v H'=>(m<64∧v= .tuple #[.slice none 0 0,.slice none 0 0,.i 4]∧H'=F) ∨
  (64≤m∧∃A1 c1 A2 c2,(m-64≤c1∧64≤c2)∧v= .tuple #[.slice A1 (m-64) c1,.slice A2 64 c2,.i 0]∧H'=aV (.slice A1 (m-64) c1) 5 1 (m-64) (av .u8 (b.take (m-64)))::aV (.slice A2 64 c2) 5 1 64 (av .u8 (b.drop (m-64)))::F)):=by
 have hlen:b.length=m:=by have :=hs.len;rwa [au,Nat.mul_one] at this
 refine aB.en func78 ntmps78 ?_;refine aj "alljk[f4i" (aW (fun h0=> ?_) fun h0=> ?_)
 ·simp only[cZ] at h0;refine aj "alC" ?_;exact aF.ret (H':=F) (bJ.Bl rfl rfl rfl rfl) cO (.inl ⟨by omega,rfl,rfl⟩)
 ·simp only[cZ] at h0;have Wt:64≤m:=ay;have uM:=hs.take (show m-64≤m by omega);rw[dU] at uM;have pI:=Seq.rD hs (l:=m-64) (h:=m) (u:=c) ay (Nat.le_refl _) hc;rw[take_of_length_le (by rw[length_drop];omega),show m-(m-64)=64 by omega] at pI;refine aj ",~Zm0m1" ?_;refine WA.t 2 rfl (V.aG (v':= .slice A (m-64) c) (V.slice (m:=m) (cap:=c) (l:=0) (h:=m-64) (u:=c) dO (ak rfl) OO.none (OO.some (ak rfl) (fun _=>by omega)) OO.none (by simp) ay ay ay) (fun _=>by rw[zK,Nat.sub_zero,Nat.sub_zero])) ?_;refine aj "m4m5" ?_;refine WA.t 6 rfl (V.aG (v':= .slice (if c=m-64 then A else A.map (·.add ((m-64)*1))) 64 (c-(m-64))) (V.slice (m:=m) (cap:=c) (l:=m-64) (h:=m) (u:=c) dO (ak rfl) (OO.some (ak rfl) (fun _=>by omega)) OO.none OO.none (by simp) ay ay ay) (fun _=>by congr 1;omega)) ?_;refine WA.o 3 rfl ?_;refine WL.c1 call125 rfl (lY (by repeat (first | exact uM | apply Seq.up)) ay) rfl ?_;rintro _ _ ⟨A1,c1,rfl,rfl⟩;refine WL.lG (fun w h=>aV.room h) (fun aQ=> ?_);refine aj "bn7" ?_;refine WL.c1 call125 rfl (lY (by repeat (first | exact pI | apply Seq.up)) ay) rfl ?_;rintro _ _ ⟨A2,c2,rfl,rfl⟩;refine WL.lG (fun w h=>aV.room h) (fun bA=> ?_);refine aj "b~u8~u9~u:O~C" ?_;exact aF.ret (H':=aV (.slice A1 (m-64) c1) 5 1 (m-64) (av .u8 (b.take (m-64)))::aV (.slice A2 64 c2) 5 1 64 (av .u8 (b.drop (m-64)))::F) (bJ.Bl rfl rfl rfl rfl) (fun w h=>h.bg 2 [1,0] rfl) (.inr ⟨Wt,A1,c1,A2,c2,⟨aQ,bA⟩,rfl,rfl⟩)
def Lp(P:Program)(K:World):List (Nat×List Value)→List aH→(Int→List aH→Prop)→Prop
 | [],H,post=>post 0 H
 | q::l,H,post=>bP P q.1∧∀C,aB P q.1 q.2.toArray K (C::H) (fun v H'=>∃(e:Int) (H2:List aH),v= .int .i64 e∧(∀w,Sat K w H'→Sat K w (C::H2))∧((e≠0∧post e H2)∨(e=0∧Lp P K l H2 post)))
theorem QL(hl:l.length=m)(hm:m≤1000)(h:Lp prog K l H post) :
 aB prog 74 #[.slice (some ⟨b,0,none⟩) m m] K (ah b 132 (l.map fun q=> .func (.func q.1) #[] q.2.toArray)::H) (fun v H'=>∃(e:Int) (H2:List aH),v= .i e∧post e H2∧H'=ah b 132 (l.map fun q=> .func (.func q.1) #[] q.2.toArray)::H2):=by
 obtain⟨C,hC⟩:∃C,C=ah b 132 (l.map fun q=> .func (.func q.1) #[] q.2.toArray):=⟨_,rfl⟩;rw[←hC];refine aB.en func74 ntmps74 ?_;refine aj "afkN" ?_;refine WC.loop (σ:=Nat×List aH) (fun s=>[(6,.slice (some ⟨b,0,none⟩) m m),(7,.i (m:Int)),(8,.i (s.1:Int))]) (fun s=>C::s.2) (fun s=>s.1≤m∧Lp prog K (l.drop s.1) s.2 post) (fun s=>m-s.1) (0,H) ⟨zero_le _,h⟩ bC cO ?_;rintro⟨i,G⟩ ⟨hi,hq⟩;dsimp only at hi hq ⊢;refine aj "TH" (aW (fun h0=> ?_) fun h0=> ?_)
 ·simp only[cZ] at h0;obtain⟨q,Dn⟩:∃q,l[i]? =some q:=⟨_,getElem?_eq_getElem ay⟩;have kr:Rd K (C::G) (some ⟨b,i,none⟩) (.func (.func q.1) #[] q.2.toArray):=by rw[hC];exact Rd.here (by rw[getElem?_map,Dn];rfl)
  rw[show l.drop i=q::l.drop (i+1) from (List.getElem?_eq_some_iff.1 Dn).2 ▸ drop_eq_getElem_cons _,Lp] at hq;refine aj "Ia" ?_;refine WL.val (V.aG (v':=ptr b i) (V.FW aj0 (ak rfl) (ak rfl) (fun _=>by omega)) (fun _=>by simp[ptr])) rfl ?_;refine WL.val (V.load isAgg132 (ak rfl) (fun _=>kr)) rfl ?_;refine aj "j" ?_;refine WL.ny (first:=[]) (captured:=q.2) (vs:=[]) hq.1 (ak rfl) trivial (hq.2 C) rfl ?_;rintro _ _ ⟨e,H2,rfl,amO,wI⟩;refine WL.sub (Sub.refl _) amO ?_;refine aj "jsi" (aW (fun h1=> ?_) fun h1=> ?_)
  ·simp only[oK] at h1;obtain⟨_,ak2⟩:=wI.resolve_right (fun h=>h1 h.1);refine aj "ed" ?_;exact qR (C::H2) rfl rfl cO ⟨e,H2,rfl,ak2,rfl⟩
  ·simp only[oK] at h1;obtain⟨_,Wm⟩:=wI.resolve_left (fun h=>h.1 ay);refine aj "q7" ?_;exact⟨(i+1,H2),⟨by show i+1≤m;omega,Wm⟩,(by show m-(i+1)<m-i;omega),.cons rfl bC,fun w h=>h⟩
 ·simp only[cZ] at h0;refine aj "W" ?_;rw[drop_of_length_le ay,Lp] at hq;refine aj "pd" ?_;exact qR (C::G) rfl rfl cO ⟨0,G,rfl,hq,rfl⟩
theorem afY(kr:Rd K F (some ⟨b,0,none⟩) (.slice A m c))(hr:Ring K F A m ring):aB prog 75 #[ptr b 0] K F (fun v H'=>∃E,v= .i (if j6 ring then 0 else 1)∧H'=E::F):=by
 refine aB.en func75 ntmps75 ?_;refine aj "av" ?_;refine WL.val (V.load (v:= .slice A m c) isAgg24 (ak rfl) (fun _=>kr)) rfl ?_;refine WL.c1 call76 rfl (Uy hr) rfl ?_;rintro _ _ ⟨A',m',c',E,rfl,rfl⟩;refine aj "6jd" ?_;exact qR (E::F) rfl rfl cO ⟨E,rfl,rfl⟩
theorem afW(kr:Rd K F (some ⟨b,0,none⟩) (.slice S q cs))(hs:Seq K F S q 1 (av .u8 sd))(hq:q≤1000000)(hc:q≤cs) :
 aB prog 77 #[ptr b 0,ptr b1 0,ptr b2 0] K (ah b1 34 [x]::ah b2 34 [y]::F) (fun v H'=>(q<64∧v= .i 4∧H'=ah b1 34 [.slice none 0 0]::ah b2 34 [.slice none 0 0]::F) ∨
  (64≤q∧∃A1 c1 A2 c2,(q-64≤c1∧64≤c2)∧v= .i 0∧H'=ah b1 34 [.slice A1 (q-64) c1]::ah b2 34 [.slice A2 64 c2]::aV (.slice A1 (q-64) c1) 5 1 (q-64) (av .u8 (sd.take (q-64)))::aV (.slice A2 64 c2) 5 1 64 (av .u8 (sd.drop (q-64)))::F)):=by
 refine aB.en func77 ntmps77 ?_;refine aj "av" ?_;refine WL.val (V.load (v:= .slice S q cs) isAgg34 (ak rfl) (fun _=>kr.up.up)) rfl ?_;refine WL.c1 call78 rfl (WU (b:=sd) hs.up.up hq hc) rfl ?_;rintro _ _ (⟨Wt,rfl,rfl⟩ | ⟨Wt,A1,c1,A2,c2,Dw,rfl,rfl⟩);all_goals
  refine aj "6~M~p~pjd" ?_;first
  | exact qR (ah b1 34 [.slice none 0 0]::ah b2 34 [.slice none 0 0]::F) rfl rfl cO (.inl ⟨Wt,rfl,rfl⟩)
  | exact aF.ret (H':=ah b1 34 [.slice A1 (q-64) c1]::ah b2 34 [.slice A2 64 c2]::aV (.slice A1 (q-64) c1) 5 1 (q-64) (av .u8 (sd.take (q-64)))::aV (.slice A2 64 c2) 5 1 64 (av .u8 (sd.drop (q-64)))::F) (bJ.tmp rfl rfl) (fun w h=>h.bg 4 [2,3,0,1] rfl) (.inr ⟨Wt,A1,c1,A2,c2,Dw,rfl,rfl⟩)
theorem ahi{x1:Int}(kr:Rd K F (some ⟨b,0,none⟩) (.slice A m c))(hs:Seq K F A m 1 (av .u8 bd))(h8:aA 256 bd)(hc:m≤c) :
 aB prog 79 #[ptr b 0,ptr bm 0] K (ah bm 42 [.i x0,.i x1,.i x2,.i x3,x4]::F) (fun v H'=>∃A' c' E,v= .i (I7 bd)∧(∀H,JR K (E::H) A' ((iL bd).getD .zero).gH.length ((iL bd).getD .zero).gH)∧H'=ah bm 42 (((iL bd).getD .zero).cells A' c')::E::F):=by
 refine aB.en func79 ntmps79 ?_;refine aj "av" ?_;refine WL.val (V.load (v:= .slice A m c) isAgg34 (ak rfl) (fun _=>kr.up)) rfl ?_;refine WL.c1 call80 rfl (Xy (b:=bd) hs.up h8 hc) rfl ?_;rintro _ _ ⟨A',c',E,rfl,hE,rfl⟩;obtain⟨M,hM⟩:∃M,M=(iL bd).getD .zero:=⟨_,rfl⟩;rw[←hM] at hE ⊢;refine aj "6~Kjd" ?_;exact qR (ah bm 42 (M.cells A' c')::E::F) rfl rfl (fun w h=>h.bg 2 [1,0] rfl) ⟨A',c',E,rfl,hE,rfl⟩
theorem ahn(hz:z.length=32)(kr:Rd K F (some ⟨b,0,none⟩) (.slice A m c))(hkn:Rd K F (some ⟨bm,2,none⟩) (.i n))(hr:Ring K F A m ring) :
 aB prog 81 #[ptr b 0,ptr bm 0,ptr bk 0] K (ah bk 97 (av .u8 z)::F) (fun v H'=>v= .i (q9 ring n).2∧H'=ah bk 97 (av .u8 (q9 ring n).1)::F):=by
 have vX:(q9 ring n).1.length=32:=by
  unfold q9;split
  ·split
   ·rename_i k hk;split
    ·rfl
    ·exact (hr.ok k (mem_of_find?_eq_some hk)).len
   ·rfl
  ·rfl
 obtain⟨Y,hY⟩:∃Y,Y=q9 ring n:=⟨_,rfl⟩;rw[←hY] at vX ⊢;refine aB.en func81 ntmps81 ?_;refine aj "av" ?_;refine WL.val (V.load (v:= .slice A m c) isAgg24 (ak rfl) (fun _=>kr.up)) rfl ?_;refine aj "8" ?_;refine WL.val (V.load (v:= .i n) isAgg3 (ak rfl) (fun _=>hkn.up)) rfl ?_;refine WL.t2 call82 rfl rfl ((Xl n hr.up).eq (v':= .tuple #[.agg (av .u8 Y.1).toArray,.i Y.2]) (by rw[hY])) rfl ?_;refine aP "6yjd" ?_;exact qR (ah bk 97 (av .u8 Y.1)::F) rfl rfl cO ⟨rfl,rfl⟩
theorem af2(hk:key.length=32)(hk8:aA 256 key)(hrk:fH K F bk 0 (av .u8 key))(RN:Rd K F (some ⟨bb,0,none⟩) (.slice A q cq))(tu:Rd K F (some ⟨bs,0,none⟩) (.slice A2 64 cs))
 (hb:Seq K F A q 1 (av .u8 bd)) (hb8:aA 256 bd) (hq:q≤1000000) (hs:Seq K F A2 64 1 (av .u8 sg)) (hs8:aA 256 sg) (qX:64≤cs) :
 aK prog 83 #[ptr bk 0,ptr bb 0,ptr bs 0] K F (.i (if kE (vl 256 key) bd (vl 256 (sg.take 32)) (vl 256 (sg.drop 32)) then 0 else 191)):=by
 have agt:vl 256 key<256^32:=hk ▸ nH hk8;have hek:o8 (vl 256 key)= .agg (av .u8 key).toArray:=by unfold o8;rw[ng hk8 hk]
 obtain⟨X,hX⟩:∃X,X=Ub (vl 256 key) bd (vl 256 (sg.take 32)) (vl 256 (sg.drop 32)):=⟨_,rfl⟩;have hXv:=hX ▸ aem (pub:=vl 256 key) (msg:=bd) (r:=vl 256 (sg.take 32)) (s:=vl 256 (sg.drop 32));obtain⟨vf,hV⟩:∃vf,vf=kE (vl 256 key) bd (vl 256 (sg.take 32)) (vl 256 (sg.drop 32)):=⟨_,rfl⟩;rw[←hV] at hXv ⊢;refine aB.en func83 ntmps83 ?_;refine aj "aua" ?_;refine WL.val (V.fE (vs:=av .u8 key) ⟨isAgg97,sizeOf97⟩ (ak rfl) (by rw[au,hk]) (fun _=>hrk)) rfl ?_;refine WL.val (V.load (v:= .slice A q cq) isAgg34 (ak rfl) (fun _=>RN)) rfl ?_;refine WL.val (V.load (v:= .slice A2 64 cs) isAgg34 (ak rfl) (fun _=>tu)) rfl ?_;refine WL.t3 call84 rfl rfl rfl (by have h:=WK (cap:=cq) (cap2:=cs) agt hb hb8 ay hs hs8 qX;rw[hek,←hX] at h;exact h) rfl ?_;refine aj "si" (aW (fun h1=> ?_) fun h1=> ?_)
 ·simp only[oK] at h1;have h2:vf=false:=Bool.eq_false_iff.2 fun h=>h1 (by rw[hXv.2 h];rfl);refine aj "G" ?_;exact qR F rfl rfl cO ⟨by rw[h2];rfl,rfl⟩
 ·simp only[oK] at h1;have h2:vf=true:=hXv.1 ay;refine aj "qG" ?_;exact qR F rfl rfl cO ⟨by rw[h2];rfl,rfl⟩
theorem agQ(hrm:Rd K F (some ⟨bm,1,none⟩) (.i s))(hrf:Rd K F (some ⟨bf,0,none⟩) (.i f)) :
 aK prog 85 #[ptr bm 0,ptr bf 0] K F (.i (if s<f then 230 else 0)):=by
 refine aB.en func85 ntmps85 ?_;refine aj "aua8" ?_;refine WL.val (V.load (v:= .i s) isAgg3 (ak rfl) (fun _=>hrm)) rfl ?_;refine WL.val (V.load (v:= .i f) isAgg3 (ak rfl) (fun _=>hrf)) rfl ?_;refine aj "4i" (aW (fun h1=> ?_) fun h1=> ?_)
 ·simp only[cZ] at h1;refine aj "G" ?_;exact qR F rfl rfl cO ⟨by rw[if_pos h1],rfl⟩
 ·simp only[cZ] at h1;refine aj "qG" ?_;exact qR F rfl rfl cO ⟨by rw[if_neg h1],rfl⟩
def Dl(K:World)(b6 b8:Nat)(R:sI×Int)(F:List aH)(e:Int)(H2:List aH):Prop :=
 e=R.2∧∃x0 x1 x2 x3 A' n' c' E,H2=ah b6 42 [.i 0,.i 0,.i 0,.i 0,.slice none 0 0]::ah b8 42 [.i x0,.i x1,.i x2,.i x3,.slice A' n' c']::E::F∧(e≠0→R.1= .zero)∧(e=0→R.1.ver=x0∧R.1.sec=x1∧R.1.key=x2∧R.1.yS=x3∧R.1.gH.length=n'∧∀H,JR K (E::H) A' n' R.1.gH)
theorem Dl.err{x1:Int}(hR:R=(.zero,e))(he:e≠0):Dl K b6 b8 R F e (ah b6 42 [.i 0,.i 0,.i 0,.i 0,.slice none 0 0]::ah b8 42 [.i x0,.i x1,.i x2,.i x3,.slice A' n' c']::E::F) :=
 ⟨by rw[hR],x0,x1,x2,x3,A',n',c',E,rfl,fun _=>by rw[hR],fun h=>absurd h he⟩
theorem YG(hr:Ring K F A m ring)(hs:Seq K F S q 1 (av .u8 sd))(h8:aA 256 sd)(hq:q≤1000000)(hc:q≤cs) :
 Lp prog K [(75,[ptr b3 0]),(77,[ptr b5 0,ptr b9 0,ptr b10 0]),(79,[ptr b9 0,ptr b8 0]),(81,[ptr b3 0,ptr b8 0,ptr b11 0]),(83,[ptr b11 0,ptr b9 0,ptr b10 0]),(85,[ptr b8 0,ptr b4 0])]
  (ah b11 97 (av .u8 (replicate 32 0))::ah b10 34 [.slice none 0 0]::ah b9 34 [.slice none 0 0]::ah b8 42 [.i 0,.i 0,.i 0,.i 0,.slice none 0 0]::ah b6 42 [.i 0,.i 0,.i 0,.i 0,.slice none 0 0]::ah b5 34 [.slice S q cs]::ah b4 3 [.i aO]::ah b3 24 [.slice A m c]::F) (Dl K b6 b8 (eT ring aO sd) F):=by
 have mR:sd.length=q:=by have :=hs.len;rwa [au,Nat.mul_one] at this
 refine⟨call75,fun C=>(afY (A:=A) (m:=m) (c:=c) (ring:=ring) lD (by repeat (first | exact hr | apply Ring.up))).mono ?_⟩;rintro _ _ ⟨E1,rfl,rfl⟩;cases h1:j6 ring with
 | false=>exact⟨_,ah b6 42 [.int .i64 0,.int .i64 0,.int .i64 0,.int .i64 0,.slice none 0 0]::ah b8 42 [.int .i64 0,.int .i64 0,.int .i64 0,.int .i64 0,.slice none 0 0]::ah b3 24 [.slice A m c]::F,rfl,fun w h=>h.bg 10 [1,6,5,9] rfl,.inl ⟨by decide,Dl.err (by unfold eT;rw[if_pos h1];rfl) aN⟩⟩
 | true =>
 refine⟨_,ah b11 97 (av .u8 (replicate 32 0))::ah b10 34 [.slice none 0 0]::ah b9 34 [.slice none 0 0]::ah b8 42 [.i 0,.i 0,.i 0,.i 0,.slice none 0 0]::ah b6 42 [.i 0,.i 0,.i 0,.i 0,.slice none 0 0]::ah b5 34 [.slice S q cs]::ah b4 3 [.i aO]::ah b3 24 [.slice A m c]::F,rfl,fun w h=>h.tail,.inr ⟨rfl, ?_⟩⟩;refine⟨call77,fun C=>aB.mono (aB.sat (afW (F:=C::ah b11 97 (av .u8 (replicate 32 0))::ah b8 42 [.i 0,.i 0,.i 0,.i 0,.slice none 0 0]::ah b6 42 [.i 0,.i 0,.i 0,.i 0,.slice none 0 0]::ah b5 34 [.slice S q cs]::ah b4 3 [.i aO]::ah b3 24 [.slice A m c]::F) (b:=b5) (b1:=b9) (b2:=b10) (x:= .slice none 0 0) (y:= .slice none 0 0) (S:=S) (cs:=cs) (sd:=sd) lD hs.up.up.up.up.up.up.up hq hc) (fun w h=>h.bg 9 [3,2,0,1,4,5,6,7,8] rfl)) ?_⟩;rintro _ _ (⟨Wt,rfl,rfl⟩ | ⟨Wt,A1,c1,A2,c2,⟨aQ,bA⟩,rfl,rfl⟩)
 ·exact⟨_,ah b6 42 [.i 0,.i 0,.i 0,.i 0,.slice none 0 0]::ah b8 42 [.i 0,.i 0,.i 0,.i 0,.slice none 0 0]::ah b3 24 [.slice A m c]::F,rfl,fun w h=>h.bg 9 [2,5,4,8] rfl,.inl ⟨by decide,Dl.err (by unfold eT;rw[if_neg (by rw[h1];decide),if_pos ay]) aN⟩⟩
 refine⟨_,ah b9 34 [.slice A1 (q-64) c1]::ah b10 34 [.slice A2 64 c2]::aV (.slice A1 (q-64) c1) 5 1 (q-64) (av .u8 (sd.take (q-64)))::aV (.slice A2 64 c2) 5 1 64 (av .u8 (sd.drop (q-64)))::ah b11 97 (av .u8 (replicate 32 0))::ah b8 42 [.i 0,.i 0,.i 0,.i 0,.slice none 0 0]::ah b6 42 [.i 0,.i 0,.i 0,.i 0,.slice none 0 0]::ah b4 3 [.i aO]::ah b3 24 [.slice A m c]::F,rfl,fun w h=>h.bg 11 [4,0,1,2,3,5,6,7,9,10] rfl,.inr ⟨rfl, ?_⟩⟩;have RY:(sd.take (q-64)).length=q-64:=by rw[length_take];omega
 have hl2:(sd.drop (q-64)).length=64:=by rw[length_drop];omega
 have hq1:∀H,Sl.Seq K (aV (.slice A1 (q-64) c1) 5 1 (q-64) (av .u8 (sd.take (q-64)))::H) A1 (q-64) 1 (av .u8 (sd.take (q-64))):=fun H=>aV.seq (by rw[au,RY,Nat.mul_one]);have GL:∀H,Sl.Seq K (aV (.slice A2 64 c2) 5 1 64 (av .u8 (sd.drop (q-64)))::H) A2 64 1 (av .u8 (sd.drop (q-64))):=fun H=>aV.seq (by rw[au,hl2]);have h81:aA 256 (sd.take (q-64)):=fun x hx=>h8 x (mem_of_mem_take hx);have h82:aA 256 (sd.drop (q-64)):=fun x hx=>h8 x (mem_of_mem_drop hx);refine⟨call79,fun C=>aB.mono (aB.sat (ahi (F:=C::ah b9 34 [.slice A1 (q-64) c1]::ah b10 34 [.slice A2 64 c2]::aV (.slice A1 (q-64) c1) 5 1 (q-64) (av .u8 (sd.take (q-64)))::aV (.slice A2 64 c2) 5 1 64 (av .u8 (sd.drop (q-64)))::ah b11 97 (av .u8 (replicate 32 0))::ah b6 42 [.i 0,.i 0,.i 0,.i 0,.slice none 0 0]::ah b4 3 [.i aO]::ah b3 24 [.slice A m c]::F) (b:=b9) (bm:=b8) (x0:=0) (x1:=0) (x2:=0) (x3:=0) (x4:= .slice none 0 0) (A:=A1) (m:=q-64) (c:=c1) (bd:=sd.take (q-64)) (Rd.here rfl).up (hq1 _).up.up.up h81 aQ) (fun w h=>h.bg 10 [6,0,1,2,3,4,5,7,8,9] rfl)) ?_⟩;rintro _ _ ⟨A',c',E3,rfl,hE,rfl⟩;have wD:eT ring aO sd=IX ring aO (sd.take (q-64)) (sd.drop (q-64)) (iL (sd.take (q-64))):=by
  unfold eT;rw[if_neg (by rw[h1];decide),if_neg ay,mR]
 cases hM:iL (sd.take (q-64)) with
 | none =>
  rw[hM] at wD;exact⟨_,ah b6 42 [.i 0,.i 0,.i 0,.i 0,.slice none 0 0]::ah b8 42 (sI.zero.cells A' c')::E3::F,rfl,fun w h=>h.bg 11 [2,8,0,1] rfl,.inl ⟨by unfold I7;rw[hM];decide,Dl.err (by rw[wD];unfold I7;rw[hM];rfl) (by unfold I7;rw[hM];decide)⟩⟩
 | some M =>
 rw[hM,IX] at wD;rw[hM] at hE;refine⟨_,ah b11 97 (av .u8 (replicate 32 0))::ah b8 42 (M.cells A' c')::E3::ah b9 34 [.slice A1 (q-64) c1]::ah b10 34 [.slice A2 64 c2]::aV (.slice A1 (q-64) c1) 5 1 (q-64) (av .u8 (sd.take (q-64)))::aV (.slice A2 64 c2) 5 1 64 (av .u8 (sd.drop (q-64)))::ah b6 42 [.i 0,.i 0,.i 0,.i 0,.slice none 0 0]::ah b4 3 [.i aO]::ah b3 24 [.slice A m c]::F,rfl,fun w h=>h.bg 11 [2,7,0,1,3,4,5,6,8,9,10] rfl,.inr ⟨by unfold I7;rw[hM];rfl, ?_⟩⟩;have vX:(q9 ring M.key).1.length=32∧aA 256 (q9 ring M.key).1:=adO hr.ok _;refine⟨call81,fun C=>aB.mono (aB.sat (ahn (F:=C::ah b8 42 (M.cells A' c')::E3::ah b9 34 [.slice A1 (q-64) c1]::ah b10 34 [.slice A2 64 c2]::aV (.slice A1 (q-64) c1) 5 1 (q-64) (av .u8 (sd.take (q-64)))::aV (.slice A2 64 c2) 5 1 64 (av .u8 (sd.drop (q-64)))::ah b6 42 [.i 0,.i 0,.i 0,.i 0,.slice none 0 0]::ah b4 3 [.i aO]::ah b3 24 [.slice A m c]::F) (b:=b3) (bm:=b8) (bk:=b11) (n:=M.key) (z:=replicate 32 0) (A:=A) (m:=m) (c:=c) (ring:=ring) rfl lD (Rd.here rfl).up hr.up.up.up.up.up.up.up.up.up.up) (fun w h=>h.bg 2 [1,0] rfl)) ?_⟩;rintro _ _ ⟨rfl,rfl⟩;obtain⟨kf,hkf⟩:∃kf,kf=q9 ring M.key:=⟨_,rfl⟩;rw[←hkf] at vX wD ⊢;by_cases hk0:kf.2=0
 rotate_left
 ·exact⟨_,ah b6 42 [.i 0,.i 0,.i 0,.i 0,.slice none 0 0]::ah b8 42 (M.cells A' c')::E3::F,rfl,fun w h=>h.bg 11 [1,8,2,3] rfl,.inl ⟨hk0,Dl.err (by rw[wD,if_pos hk0]) hk0⟩⟩
 rw[if_neg (fun h=>h hk0)] at wD;refine⟨_,ah b11 97 (av .u8 kf.1)::ah b8 42 (M.cells A' c')::E3::ah b9 34 [.slice A1 (q-64) c1]::ah b10 34 [.slice A2 64 c2]::aV (.slice A1 (q-64) c1) 5 1 (q-64) (av .u8 (sd.take (q-64)))::aV (.slice A2 64 c2) 5 1 64 (av .u8 (sd.drop (q-64)))::ah b6 42 [.i 0,.i 0,.i 0,.i 0,.slice none 0 0]::ah b4 3 [.i aO]::F,rfl,fun w h=>h.bg 11 [1,0,2,3,4,5,6,7,8,9] rfl,.inr ⟨hk0, ?_⟩⟩;refine⟨call83,fun C=>(af2 (F:=C::ah b11 97 (av .u8 kf.1)::ah b8 42 (M.cells A' c')::E3::ah b9 34 [.slice A1 (q-64) c1]::ah b10 34 [.slice A2 64 c2]::aV (.slice A1 (q-64) c1) 5 1 (q-64) (av .u8 (sd.take (q-64)))::aV (.slice A2 64 c2) 5 1 64 (av .u8 (sd.drop (q-64)))::ah b6 42 [.i 0,.i 0,.i 0,.i 0,.slice none 0 0]::ah b4 3 [.i aO]::F) (bk:=b11) (bb:=b9) (bs:=b10) (A:=A1) (q:=q-64) (cq:=c1) (A2:=A2) (cs:=c2) (key:=kf.1) (bd:=sd.take (q-64)) (sg:=sd.drop (q-64)) vX.1 vX.2 (fH.up fH.all) lD lD (hq1 _).up.up.up.up.up.up h81 ay (GL _).up.up.up.up.up.up.up h82 bA).mono ?_⟩;rintro _ _ ⟨rfl,rfl⟩;obtain⟨vf,hvf⟩:∃vf,vf=kE (vl 256 kf.1) (sd.take (q-64)) (vl 256 ((sd.drop (q-64)).take 32)) (vl 256 ((sd.drop (q-64)).drop 32)):=⟨_,rfl⟩;rw[←hvf] at wD ⊢;cases vf with
 | false=>exact⟨_,ah b6 42 [.int .i64 0,.int .i64 0,.int .i64 0,.int .i64 0,.slice none 0 0]::ah b8 42 (M.cells A' c')::E3::F,rfl,fun w h=>h.bg 10 [0,8,2,3] rfl,.inl ⟨by decide,Dl.err (by rw[wD,if_pos rfl];rfl) aN⟩⟩
 | true =>
 rw[if_neg aN] at wD;refine⟨_,ah b8 42 (M.cells A' c')::E3::ah b6 42 [.i 0,.i 0,.i 0,.i 0,.slice none 0 0]::ah b4 3 [.i aO]::F,rfl,fun w h=>h.bg 10 [0,2,3,8,9] rfl,.inr ⟨rfl, ?_⟩⟩;refine⟨call85,fun C=>(agQ (F:=C::ah b8 42 (M.cells A' c')::E3::ah b6 42 [.i 0,.i 0,.i 0,.i 0,.slice none 0 0]::ah b4 3 [.i aO]::F) (bm:=b8) (bf:=b4) (s:=M.sec) (f:=aO) (Rd.here rfl).up (Rd.here rfl).up.up.up.up).mono ?_⟩;rintro _ _ ⟨rfl,rfl⟩;by_cases Zo:M.sec<aO
 ·exact⟨_,ah b6 42 [.i 0,.i 0,.i 0,.i 0,.slice none 0 0]::ah b8 42 (M.cells A' c')::E3::F,rfl,fun w h=>h.bg 5 [0,3,1,2] rfl,.inl ⟨by rw[if_pos Zo];decide,Dl.err (by rw[wD,if_pos Zo,if_pos Zo]) (by rw[if_pos Zo];decide)⟩⟩
 ·rw[if_neg Zo] at wD;exact⟨_,ah b6 42 [.i 0,.i 0,.i 0,.i 0,.slice none 0 0]::ah b8 42 (M.cells A' c')::E3::F,rfl,fun w h=>h.bg 5 [0,3,1,2] rfl,.inr ⟨by rw[if_neg Zo],by rw[wD];exact⟨rfl,M.ver,M.sec,M.key,M.yS,A',M.gH.length,c',E3,rfl,fun h=>absurd rfl h,fun _=>⟨rfl,rfl,rfl,rfl,rfl,hE⟩⟩⟩⟩
theorem ahj(c1 c2 c3 c4 c5 c6:Array Value)(w:World):(Instr.buildSlice 206 6 [(0,.func (.func 75) #[] c1),(1,.func (.func 77) #[] c2),(2,.func (.func 79) #[] c3),(3,.func (.func 81) #[] c4),(4,.func (.func 83) #[] c5),(5,.func (.func 85) #[] c6)].toArray).run prog w= .ok (.slice (some ⟨w.heap.size,0,none⟩) 6 6) (w.alloc (.cells [.func (.func 75) #[] c1,.func (.func 77) #[] c2,.func (.func 79) #[] c3,.func (.func 81) #[] c4,.func (.func 83) #[] c5,.func (.func 85) #[] c6].toArray 132)):=by kernel_rfl
theorem AO(hr:Ring K F A m ring)(hs:Seq K F S q 1 (av .u8 sd))(h8:aA 256 sd)(hq:q≤1000000)(hc:q≤cs) :
 aB prog 20 #[.slice A m c,.i aO,.slice S q cs] K F (fun v H'=>∃A' c' E,v= .tuple #[.agg ((eT ring aO sd).1.cells A' c').toArray,.i (eT ring aO sd).2]∧(∀H,JR K (E::H) A' (eT ring aO sd).1.gH.length (eT ring aO sd).1.gH)∧H'=E::F):=by
 obtain⟨R,hR⟩:∃R,R=eT ring aO sd:=⟨_,rfl⟩;rw[←hR];refine aB.en func20 ntmps20 ?_;refine aj "a~h" fun b3=> ?_;refine aj "~h" fun b4=> ?_;refine aj "~h" fun b5=> ?_;refine aj "w" fun b6=> ?_;refine aj "vw" fun b8=> ?_;refine aj "Rw" fun b9=> ?_;refine aj "w" fun b10=> ?_;refine aj "Rw" fun b11=> ?_;refine aj "R~U~~~c~~d~~~c~~~c~~d" ?_;refine WL.buildSlice (E:=132) (cs:=[_,_,_,_,_,_]) (vs:=[(0,_),(1,_),(2,_),(3,_),(4,_),(5,_)]) ⟨ak rfl,ak rfl,ak rfl,ak rfl,ak rfl,ak rfl,trivial⟩ rfl (ahj _ _ _ _ _ _) rfl (fun b19=> ?_);refine WL.c1 call74 rfl (QL (m:=6) rfl aN (YG hr hs h8 hq hc)) rfl ?_;rw[←hR];rintro _ _ ⟨e,H2,rfl,⟨he,x0,x1,x2,x3,A',n',c',E,rfl,hz,jh⟩,rfl⟩;subst he;refine aj "fsi" (aW (fun h0=> ?_) fun h0=> ?_)
 ·simp only[oK] at h0;refine aj "a@cEd" ?_;exact aF.ret (H':=bK []::F) (rA rfl rfl ⟨isAgg42,sizeOf42⟩ rfl) (fun w h=>Sat.all (l:=[]) (h.bg 4 [] rfl)) ⟨none,0,bK [],by rw[hz h0];rfl,fun H=>by rw[hz h0];exact⟨⟨rfl,fun i v hi=>by simp[sI.zero] at hi⟩,rfl,fun s hs=>by cases hs⟩,rfl⟩
 ·simp only[oK] at h0;refine aj "," ?_;have Kv:R.2=0:=ay;obtain⟨rfl,rfl,rfl,rfl,rfl,aoT⟩:=jh Kv;refine aj "pBEd" ?_;exact aF.ret (H':=E::F) (bJ.two rfl (R1.jQ (vs:=R.1.cells A' c') rfl ⟨isAgg42,sizeOf42⟩ rfl tN) (R1.tmp rfl)) (fun w h=>h.bg 4 [3] rfl) ⟨A',c',E,by rw[Kv],aoT,rfl⟩
structure La where
 slot:Int
 yS:Int
 sec:Int
 jS:List (Int×List Nat)
def La.zero:La:=⟨0,0,0,[]⟩
abbrev La.cells(l:La)(A:Option Addr)(c:Nat)(err:Int):List Value:=[.i l.slot,.i l.yS,.i l.sec,.slice A l.jS.length c,.i err]
def EO:List yP→List (List Nat)→Bool
 | s::l,d::ds=> !(!decide ((d.length:Int)=s.bytes)|| !decide (sum256 d=s.bG))&&EO l ds
 | _,_=>true
theorem Xi(d:List (List Nat)):EO [] d=true:=by cases d<;>rfl
def yC(l:List yP)(ds:List (List Nat)):List (Int×List Nat):=(l.zip ds).map fun p=>(p.1.load,p.2)
def kW(r:List Ky)(aO:Int)(sd:List Nat)(ds:List (List Nat)):La×Int :=
 if (eT r aO sd).2≠0 then (.zero,(eT r aO sd).2) else
 if ds.length≠(eT r aO sd).1.gH.length then (.zero,231) else
 if EO (eT r aO sd).1.gH ds then (⟨0,(eT r aO sd).1.yS,(eT r aO sd).1.sec,yC (eT r aO sd).1.gH ds⟩,0) else (.zero,231)
abbrev VA(p:Int×Bs):List Value:=[.i p.1,p.2.v]
def clA(p:Int×Bs):aH:=aV p.2.v 5 1 p.2.m (av .u8 p.2.l)
structure kD(K:World)(F:List aH)(A:Option Addr)(ps:List (Int×Bs)):Prop where
 seq:Seq K F A ps.length 2 (ps.flatMap VA)
 ok:∀p∈ps,Seq K F p.2.A p.2.m 1 (av .u8 p.2.l)
structure ajm(K:World)(F:List aH)(D:Option Addr)(k:Nat)(ds:List Bs):Prop where
 seq:Seq K F D k 1 (ds.map Bs.v)
 ok:∀p∈ds,Seq K F p.A p.m 1 (av .u8 p.l)∧aA 256 p.l∧p.m≤1000000
theorem ajm.up{K:World}{F:List aH}{D:Option Addr}{k:Nat}{ds:List Bs}{C:aH}(h:ajm K F D k ds):ajm K (C::F) D k ds:=⟨h.seq.up,fun p hp=>⟨(h.ok p hp).1.up,(h.ok p hp).2⟩⟩
theorem uz(hA:C∈l)(h:Seq K [C] B m s vs):Seq K (bK l::H) B m s vs:=⟨h.len,fun i v hi=>Rd.xM hA (h.rd i v hi)⟩
theorem FB(hr:Ring K F A m ring)(hs:Seq K F S q 1 (av .u8 sd))(h8:aA 256 sd)(hq:q≤1000000)(hc:q≤cs)(hd:ajm K F D k ds)(hk:k≤1000000) :
 aB prog 105 #[.slice A m c,.i aO,.slice S q cs,.slice D k kd] K F (fun v H'=>∃A' c' ps E,v= .tuple #[.agg ((kW ring aO sd (ds.map Bs.l)).1.cells A' c' 0).toArray,.i (kW ring aO sd (ds.map Bs.l)).2]∧(kW ring aO sd (ds.map Bs.l)).1.jS=ps.map (fun p=>(p.1,p.2.l))∧(∀H,kD K (E::H) A' ps)∧H'=E::F):=by
 have vX:ds.length=k:=by have :=hd.seq.len;rwa [length_map,Nat.mul_one] at this
 obtain⟨R,hR⟩:∃R,R=eT ring aO sd:=⟨_,rfl⟩;obtain⟨X,hX⟩:∃X,X=kW ring aO sd (ds.map Bs.l):=⟨_,rfl⟩;have hz:∀e,X=(.zero,e)→∃A' c' ps E,Value.tuple #[.agg (La.zero.cells none 0 0).toArray,.i e]= .tuple #[.agg (X.1.cells A' c' 0).toArray,.i X.2]∧X.1.jS=ps.map (fun p:Int×Bs=>(p.1,p.2.l))∧(∀H,kD K (E::H) A' ps)∧bK []::F=E::F:=fun e he=>⟨none,0,[],bK [],by rw[he],by rw[he];rfl,fun H=>⟨⟨rfl,fun i v hi=>by simp at hi⟩,fun p hp=>by cases hp⟩,rfl⟩;unfold kW at hX;rw[←hR] at hX;have hX':=hX;unfold kW;rw[←hR,←hX];refine aB.en func105 ntmps105 ?_;refine aj "aw" fun b8=> ?_;refine aj "jz" ?_;refine WL.c3 call20 rfl rfl rfl (AO (aO:=aO) hr.up hs.up h8 hq hc) rfl ?_;rintro _ _ ⟨As,ca,E,rfl,hE,rfl⟩;rw[←hR] at hE ⊢;refine aj "6w" fun b10=> ?_;refine aj "Efsi" (aW (fun h0=> ?_) fun h0=> ?_)
 ·simp only[oK] at h0;rw[if_pos h0] at hX;refine aj "a@cEd" ?_;exact aF.ret (H':=bK []::F) (rA rfl rfl ⟨isAgg37,sizeOf37⟩ rfl) (fun w h=>Sat.all (l:=[]) (h.bg 3 [] rfl)) (hz _ hX)
 ·simp only[oK] at h0;rw[if_neg (fun h=>h h0)] at hX;refine aj "qrkoksi" (aW (fun h1=> ?_) fun h1=> ?_)
  ·simp only[oK] at h1;rw[if_pos (by rw[length_map];omega)] at hX;refine aj "a@Ed" ?_;exact aF.ret (H':=bK []::F) (rA rfl rfl ⟨isAgg37,sizeOf37⟩ rfl) (fun w h=>Sat.all (l:=[]) (h.bg 3 [] rfl)) (hz _ hX)
  ·simp only[oK] at h1;rw[if_neg (by rw[length_map];omega)] at hX;refine aj "9oo" ?_;refine WL.val (V.build (vs:=[(1,_),(2,_)]) ⟨ak rfl,ak rfl,trivial⟩ rfl (WX _ _)) rfl ?_;refine aj "w" fun b12=> ?_;refine aj "EFaokN" ?_;obtain⟨n,hn⟩:∃n,n=R.1.gH.length:=⟨_,rfl⟩;rw[←hn] at h1 ⊢;have hkn:k=n:=ay;obtain⟨FV,hFV⟩:∃FV,FV=EO R.1.gH (ds.map Bs.l):=⟨_,rfl⟩;rw[←hFV] at hX;have hlen:(yC R.1.gH (ds.map Bs.l)).length=n:=by unfold yC;rw[length_map,length_zip,length_map];omega
   have hE':∀H,JR K (E::H) As n R.1.gH:=by rw[hn];exact hE
   refine WC.loop (σ:=Nat×Option Addr×Nat×List (Int×Bs)) (fun s=>[(3,.slice D k kd),(8,ptr b8 0),(12,ptr b12 0),(39,.slice As n ca),(40,.i (n:Int)),(41,.i (s.1:Int))])
    (fun s=>ah b12 37 [.i 0,.i R.1.yS,.i R.1.sec,.slice s.2.1 s.1 s.2.2.1,.i 0]::aV (.slice s.2.1 s.1 s.2.2.1) 118 2 s.1 (s.2.2.2.flatMap VA)::bK (s.2.2.2.reverse.map clA)::E::ah b8 37 [.i 0,.i 0,.i 0,.slice none 0 0,.i 0]::F)
    (fun s=>s.1≤n∧s.2.2.2.length=s.1∧s.2.2.2.map (fun p=>(p.1,p.2.l))=(yC R.1.gH (ds.map Bs.l)).take s.1∧(∀p∈s.2.2.2,p.2.l.length=p.2.m)∧EO (R.1.gH.drop s.1) ((ds.map Bs.l).drop s.1)=FV) (fun s=>n-s.1)
    (0,none,0,[]) ⟨zero_le _,rfl,rfl,fun p hp=>by (cases hp),hFV.symm⟩ bC (fun w h=>((Sat.all (l:=[]) (h.bg 4 [0,2,3] rfl)).gI 118 2).bg 4 [2,0,1,3] rfl) ?_
   rintro⟨i,A',c',ps⟩ ⟨hi,l7,Bw,hpw,hq3⟩;dsimp only at hi l7 Bw hpw hq3 ⊢;refine aj "TH" (aW (fun h2=> ?_) fun h2=> ?_)
   ·simp only[cZ] at h2;obtain⟨s,ZJ⟩:∃s,R.1.gH[i]? =some s:=⟨_,getElem?_eq_getElem ay⟩;obtain⟨p,hpi⟩:∃p,ds[i]? =some p:=⟨_,getElem?_eq_getElem ay⟩;have UU:=(hE' []).ok s (mem_of_getElem? ZJ);have mR:=yP.dB UU;obtain⟨qY,V4,asT⟩:=hd.ok p (mem_of_getElem? hpi);have adj:p.l.length=p.m:=by have :=qY.len;rwa [au,Nat.mul_one] at this
    have hdi:Rd K F (D.map (·.add ((i:Int).toNat*1))) p.v:=by rw[Int.toNat_natCast,Nat.mul_one];exact hd.seq.rd i _ (by rw[getElem?_map,hpi];rfl)
    have uX:(ds.map Bs.l)[i]? =some p.l:=by rw[getElem?_map,hpi];rfl
    have JD:(!(!decide ((p.m:Int)=s.bytes)|| !decide (sum256 p.l=s.bG))&&EO (R.1.gH.drop (i+1)) ((ds.map Bs.l).drop (i+1)))=FV:=by
     rw[←hq3,show R.1.gH.drop i=s::R.1.gH.drop (i+1) from (List.getElem?_eq_some_iff.1 ZJ).2 ▸ drop_eq_getElem_cons _,show (ds.map Bs.l).drop i=p.l::(ds.map Bs.l).drop (i+1) from (List.getElem?_eq_some_iff.1 uX).2 ▸ drop_eq_getElem_cons _,EO,adj]
    have Zw:(yC R.1.gH (ds.map Bs.l))[i]? =some (s.load,p.l):=by unfold yC;rw[getElem?_map,(getElem?_zip_eq_some (z:=(s,p.l))).2 ⟨ZJ,uX⟩];rfl
    obtain⟨dg,hdg⟩:∃dg,dg=sum256 p.l:=⟨_,rfl⟩;have anE:dg.length=32:=by rw[hdg];exact JB _
    rw[←hdg] at JD;refine aj "1" ?_;refine WL.val (V.dw (v:= .i s.load) akq (ak rfl) (ak rfl) (fun _=>by omega) (fun _=>by rw[Int.toNat_natCast];exact ((hE' _).rd ZJ 0 _ rfl).up.up.up)) rfl ?_;rw[Int.toNat_natCast];refine WL.val (V.tX (vs:=s.cells) ⟨isAgg140,sizeOf140⟩ (ak rfl) mR aN (fun _ j v hj=>((hE' _).rd ZJ j v hj).up.up.up)) rfl ?_;refine aj "w" fun b14=> ?_;refine WL.sg rfl rfl ?_;refine WL.store (cs:=s.cells) sizeOf140 (ak rfl) (ak rfl) rfl mR (yP.one s) (bT.whole (by rw[mR];rfl)) ?_;refine aj "FM~k&&" ?_;refine WQ.val (V.dw (v:=p.v) adb (ak rfl) (ak rfl) (fun _=>by omega) (fun _=>by repeat (first | exact hdi | apply Rd.up))) rfl ?_;refine WQ.val (V.load (v:=p.v) isAgg34 (ak rfl) (fun _=>by repeat (first | exact hdi | apply Rd.up))) rfl ?_;refine aj "~~Q~y" ?_;refine WQ.val (V.load (v:= .i s.bytes) isAgg3 (ak rfl) (fun _=>Rd.here rfl)) rfl ?_;refine WQ.val (V.neq (ak rfl) (ak rfl)) rfl (aj "&~~w~~w" ?_);refine WQ.bI (oj:=_) rfl rfl rfl GC.f (V.dw (v:=p.v) adb (OV.g rfl id) (OV.g rfl id) (fun _=>by omega) (fun _=>by repeat (first | exact hdi | apply Rd.up))) rfl ?_;refine WQ.bI (oj:=_) rfl rfl rfl GC.f (V.load (v:=p.v) isAgg34 (OV.g rfl id) (fun _=>by repeat (first | exact hdi | apply Rd.up))) rfl ?_;refine WQ.nL (oj:=_) (vs:=[_]) rfl rfl rfl GC.f call174 ⟨OV.g rfl id,trivial⟩ (fun hg=>(T9 (m:=p.m) (cap:=p.cap) (A:=p.A) (data:=p.l) (by repeat (first | exact qY | apply Seq.up)) V4 ay).eq (v':= .agg (av .u8 dg).toArray) (by rw[hdg])) rfl ?_;refine aj "~~~d" ?_;refine WQ.bI (oj:=_) rfl rfl rfl GC.f (V.fE (vs:=av .u8 s.bG) ⟨isAgg97,sizeOf97⟩ (OV.g rfl id) (by rw[au,UU.len]) (fun _=>fH.here (prefix_rfl))) rfl ?_;refine WQ.bI (oj:=_) rfl rfl rfl GC.f (V.Qc (by kernel_rfl) (OV.g rfl id) (OV.g rfl id) (iW.av underlying97 sizeOf5 isAgg5 underlying5 anE UU.len)) rfl ?_;refine aj "~~W~fH" (aW (fun h3=> ?_) fun h3=> ?_)
    ·have UR:FV=false:=by rw[←JD,show (!decide ((p.m:Int)=s.bytes)|| !decide (dg=s.bG))=true from by simpa using h3];rfl
     rw[UR,if_neg aN] at hX;refine aj "a@~Kd" ?_;exact aF.ret (H':=bK []::F) (rA rfl rfl ⟨isAgg37,sizeOf37⟩ rfl) (fun w h=>Sat.all (l:=[]) (h.bg 6 [] rfl)) (hz _ hX)
    ·have UR:EO (R.1.gH.drop (i+1)) ((ds.map Bs.l).drop (i+1))=FV:=by rw[←JD,show (!decide ((p.m:Int)=s.bytes)|| !decide (dg=s.bG))=false from by simpa using h3];rfl
     refine WC.skip ?_;refine WC.sub (Sub.refl _) (fun w h=>h.bg 4 [1,2,3,0] rfl) ?_;refine WC.dM (ah b14 140 s.cells::E::ah b8 37 [.i 0,.i 0,.i 0,.slice none 0 0,.i 0]::F) (by kernel_rfl) ?_;refine aj "0002" ?_;refine WA.t 3 rfl (V.load (v:= .i s.load) isAgg3 (ak rfl) (fun _=>Rd.here rfl)) ?_;refine aj "m4m5" ?_;refine WA.t 6 rfl (V.dw (v:=p.v) adb (ak rfl) (ak rfl) (fun _=>by omega) (fun _=>by repeat (first | exact hdi | apply Rd.up))) ?_;refine WA.t 7 rfl (V.load (v:=p.v) isAgg34 (ak rfl) (fun _=>by repeat (first | exact hdi | apply Rd.up))) ?_;refine WA.two (i:=1) (j:=8) eO (by kernel_rfl) rfl rfl ?_ ?_
     ·refine WL.val (V.load (v:= .slice A' i c') isAgg35 (ak rfl) (fun _=>lD)) rfl ?_;refine aj "bn8" ?_;refine WL.c1 call125 rfl (lY (by repeat (first | exact qY | apply Seq.up)) ay) rfl ?_;rintro _ _ ⟨A73,c73,rfl,rfl⟩;refine WL.nil (WA.t 9 rfl (V.build (vs:=[(0,_),(1,_)]) ⟨ak rfl,ak rfl,trivial⟩ rfl (Iu _ _ _ _)) ?_);refine WA.o 10 rfl ?_;refine WL.buildSlice (E:=118) (cs:=[_,_]) (vs:=[(0,_)]) ⟨ak rfl,trivial⟩ rfl (El _ _) rfl (fun b75=> ?_);refine aj "bn;~~1" ?_;refine WL.append (m:=i) (q:=1) (news:=VA (s.load,⟨A73,p.m,c73,p.l⟩)) underlying35 ace (ak rfl) (ak rfl) (Seq.all rfl) (by intro u hu;simp only[VA,mem_cons,not_mem_nil,or_false] at hu;rcases hu with rfl | rfl<;>rfl) ay rfl rfl (fun A76 c76 ai6 ajn=> ?_);refine aj "b0<n=~pbO7" ?_;refine⟨(i+1,A76,c76,ps++[(s.load,⟨A73,p.m,c73,p.l⟩)]),⟨by show i+1≤n;omega,by simp[l7], ?_,fun p' BA=> ?_,UR⟩,(by show n-(i+1)<n-i;omega),.cons rfl bC,fun w h=> ?_⟩
      ·rw[map_append,Bw,take_add_one,Zw];rfl
      ·rcases mem_append.1 BA with h' | h'
       ·exact hpw p' h'
       ·rw[mem_singleton.1 h'];exact adj
      ·have h2:=((h.bg 8 [2,4,3,0,6,7] rfl).Bc).bg 5 [1,2,0,3,4] rfl;simp only[flatMap_append,flatMap_cons,flatMap_nil,append_nil,reverse_append,reverse_cons,reverse_nil,nil_append,cons_append,map_cons];exact h2
     ·refine WL.c1 call125 rfl (lY (by repeat (first | exact qY | apply Seq.up)) ay) rfl ?_;rintro _ _ ⟨A73,c73,rfl,rfl⟩;refine WL.nil (WA.t 9 rfl (V.build (vs:=[(0,_),(1,_)]) ⟨ak rfl,ak rfl,trivial⟩ rfl (Iu _ _ _ _)) ?_);refine WA.two (i:=1) (j:=10) eO (by kernel_rfl) rfl rfl ?_ ?_
      ·refine WL.val (V.load (v:= .slice A' i c') isAgg35 (ak rfl) (fun _=>lD)) rfl ?_;refine aj "bn:" ?_;refine WL.buildSlice (E:=118) (cs:=[_,_]) (vs:=[(0,_)]) ⟨ak rfl,trivial⟩ rfl (El _ _) rfl (fun b75=> ?_);refine aj "bn;~~1" ?_;refine WL.append (m:=i) (q:=1) (news:=VA (s.load,⟨A73,p.m,c73,p.l⟩)) underlying35 ace (ak rfl) (ak rfl) (Seq.all rfl) (by intro u hu;simp only[VA,mem_cons,not_mem_nil,or_false] at hu;rcases hu with rfl | rfl<;>rfl) ay rfl rfl (fun A76 c76 ai6 ajn=> ?_);refine aj "b0<n=~pbO7" ?_;refine⟨(i+1,A76,c76,ps++[(s.load,⟨A73,p.m,c73,p.l⟩)]),⟨by show i+1≤n;omega,by simp[l7], ?_,fun p' BA=> ?_,UR⟩,(by show n-(i+1)<n-i;omega),.cons rfl bC,fun w h=> ?_⟩
       ·rw[map_append,Bw,take_add_one,Zw];rfl
       ·rcases mem_append.1 BA with h' | h'
        ·exact hpw p' h'
        ·rw[mem_singleton.1 h'];exact adj
       ·have h2:=((h.bg 8 [2,4,3,0,6,7] rfl).Bc).bg 5 [1,2,0,3,4] rfl;simp only[flatMap_append,flatMap_cons,flatMap_nil,append_nil,reverse_append,reverse_cons,reverse_nil,nil_append,cons_append,map_cons];exact h2
      ·refine WL.buildSlice (E:=118) (cs:=[_,_]) (vs:=[(0,_)]) ⟨ak rfl,trivial⟩ rfl (El _ _) rfl (fun b75=> ?_);refine aj "bn1" ?_;refine WL.val (V.load (v:= .slice A' i c') isAgg35 (ak rfl) (fun _=>lD)) rfl ?_;refine aj "bn;~~1" ?_;refine WL.append (m:=i) (q:=1) (news:=VA (s.load,⟨A73,p.m,c73,p.l⟩)) underlying35 ace (ak rfl) (ak rfl) (Seq.all rfl) (by intro u hu;simp only[VA,mem_cons,not_mem_nil,or_false] at hu;rcases hu with rfl | rfl<;>rfl) ay rfl rfl (fun A76 c76 ai6 ajn=> ?_);refine aj "b0<n=~pbO7" ?_;refine⟨(i+1,A76,c76,ps++[(s.load,⟨A73,p.m,c73,p.l⟩)]),⟨by show i+1≤n;omega,by simp[l7], ?_,fun p' BA=> ?_,UR⟩,(by show n-(i+1)<n-i;omega),.cons rfl bC,fun w h=> ?_⟩
       ·rw[map_append,Bw,take_add_one,Zw];rfl
       ·rcases mem_append.1 BA with h' | h'
        ·exact hpw p' h'
        ·rw[mem_singleton.1 h'];exact adj
       ·have h2:=((h.bg 8 [2,4,3,0,6,7] rfl).Bc).bg 5 [1,2,0,3,4] rfl;simp only[flatMap_append,flatMap_cons,flatMap_nil,append_nil,reverse_append,reverse_cons,reverse_nil,nil_append,cons_append,map_cons];exact h2
   ·simp only[cZ] at h2;refine aj "W" ?_;obtain rfl:i=n:=by omega
    rw[drop_of_length_le ay,Xi] at hq3;rw[←hq3,if_pos rfl] at hX;rw[take_of_length_le ay] at Bw;refine aj "pB~Kd" ?_;exact aF.ret (H':=bK [aV (.slice A' i c') 118 2 i (ps.flatMap VA),bK (ps.reverse.map clA)]::F) (rA rfl rfl ⟨isAgg37,sizeOf37⟩ rfl) (fun w h=>Sat.all (l:=[_,_]) (h.bg 5 [1,2] rfl)) ⟨A',c',ps,_,by rw[hX];show _=Value.tuple #[.agg #[_,_,_,.slice A' (yC _ _).length c',_],_];rw[hlen],by rw[hX];exact Bw.symm,fun H=>⟨by rw[l7];exact uz (.head _) (aV.seq (by rw[rV (s:=2) (f:=VA) ps (fun x _=>rfl),l7])),fun p hp=>uz (.tail _ (.head _)) (uz (C:=clA p) (mem_map.2 ⟨p,mem_reverse.2 hp,rfl⟩) (aV.seq (by rw[au,hpw p hp,Nat.mul_one])))⟩,rfl⟩
theorem _root_.Go.Sl.aK.perm{P:Program}{K:World}{F F':List aH}{f:FuncId}{args:Array Value}{u:Value}(h:aK P f args K F' u)(h1:∀w,Sat K w F→Sat K w F')(h2:∀w,Sat K w F'→Sat K w F):aK P f args K F u :=
 aB.afS (aB.sat h h1) fun v H' ⟨e1,e2⟩=>⟨F,by rw[e2];exact h2,e1,rfl⟩
theorem _root_.Go.Sl.aK.mem{P:Program}{K:World}{A:aH}{H:List aH}{f:FuncId}{args:Array Value}{u:Value}(h:∀F,aK P f args K (A::F) u)(hm:A∈H):aK P f args K H u:=by
 obtain⟨s,t,rfl⟩:=List.append_of_mem hm;exact aK.perm (h (s++t)) (fun w hw=>Sat.afD perm_middle hw) (fun w hw=>Sat.afD perm_middle.symm hw)
theorem E5{α:Type}{f:α→List Value}{s:Nat}:∀(l:List α) (hf:∀x∈l,(f x).length=s) (k i:Nat) (x y:α) (v:Value),l[k]? =some x→i<s→f y=(f x).set i v→(l.flatMap f).set (k*s+i) v=(l.set k y).flatMap f
 | [],_,k,i,x,y,v,h,_,_=>by simp at h
 | z::l,hf,0,i,x,y,v,h,hi,hy=>by
  simp only[getElem?_cons_zero,Option.some.injEq] at h;subst h;rw[set_cons_zero,flatMap_cons,flatMap_cons,Nat.zero_mul,Nat.zero_add,set_append,if_pos (by rw[hf z (.head _)];exact hi),hy]
 | z::l,hf,k+1,i,x,y,v,h,hi,hy=>by
  have ih:=E5 l (fun z hz=>hf z (.tail _ hz)) k i x y v (by simpa using h) hi hy;have hz:=hf z (.head _);rw[set_cons_succ,flatMap_cons,flatMap_cons,set_append,if_neg (by rw[hz,succ_mul];omega),hz,←ih];congr 2;rw[succ_mul];omega
theorem bT.slS{K:World}{H:List aH}{gb o m s cap E:Nat}{cs:List Value}{v:Value}(ho:o<m*s):bT K (aV (.slice (some ⟨gb,0,none⟩) m cap) E s m cs::H) gb o [v] (aV (.slice (some ⟨gb,0,none⟩) m cap) E s m (cs.set o v)::H):=by
 have nS:∀w:World,RA w w:=fun w=>⟨rfl,rfl,rfl,Nat.le_refl _⟩;refine⟨fun B' Y7 k hk=> ?_,⟨_,.head _,rfl⟩,fun w hw=> ?_,fun w hw=> ?_⟩
 ·rcases mem_cons.1 Y7 with rfl | h
  ·exact⟨_,.head _,hk⟩
  ·exact⟨_,.tail _ h,hk⟩
 ·obtain⟨r,⟨h1,h2,h3,h4⟩,h5⟩:=Sat.nU (K:=w) ⟨nS w,hw⟩;exact (bT.at_ (K:=w) (T:=E) (cs:=cs++r) (v:=v) (by rw[length_append];omega)).may w h5.2
 ·obtain⟨r,⟨h1,h2,h3,h4⟩,h5⟩:=Sat.nU (K:=w) ⟨nS w,hw⟩;have h6:=(bT.at_ (K:=w) (H:=H) (b:=gb) (T:=E) (o:=o) (cs:=cs++r) (v:=v) (by rw[length_append];omega)).sat w h5.2;have h7:=Sat.BX (K:=w.setCells gb o [v]) (s:=s) (m:=m) (cap:=cap) ⟨nS _,h6⟩ (by rw[length_set];exact h1) h3 h4;rw[set_append_left _ _ ay,take_left' (by rw[length_set];omega)] at h7;exact h7.2
theorem bT.slL{K:World}{H:List aH}{gb o m s cap E:Nat}{cs vs:List Value}(ho:o+vs.length≤m*s):bT K (aV (.slice (some ⟨gb,0,none⟩) m cap) E s m cs::H) gb o vs (aV (.slice (some ⟨gb,0,none⟩) m cap) E s m (cs.take o++vs++cs.drop (o+vs.length))::H):=by
 have nS:∀w:World,RA w w:=fun w=>⟨rfl,rfl,rfl,Nat.le_refl _⟩;refine⟨fun B' Y7 k hk=> ?_,⟨_,.head _,rfl⟩,fun w hw=> ?_,fun w hw=> ?_⟩
 ·rcases mem_cons.1 Y7 with rfl | h
  ·exact⟨_,.head _,hk⟩
  ·exact⟨_,.tail _ h,hk⟩
 ·obtain⟨r,⟨h1,h2,h3,h4⟩,h5⟩:=Sat.nU (K:=w) ⟨nS w,hw⟩;exact (bT.row (K:=w) (T:=E) (cs:=cs++r) (vs:=vs) (by rw[length_append];omega)).may w h5.2
 ·obtain⟨r,⟨h1,h2,h3,h4⟩,h5⟩:=Sat.nU (K:=w) ⟨nS w,hw⟩;have h6:=(bT.row (K:=w) (H:=H) (b:=gb) (T:=E) (o:=o) (cs:=cs++r) (vs:=vs) (by rw[length_append];omega)).sat w h5.2;have e:(cs++r).take o++vs++(cs++r).drop (o+vs.length)=(cs.take o++vs++cs.drop (o+vs.length))++r:=by
   rw[take_append_of_le_length ay,drop_append_of_le_length ay,append_assoc];simp[append_assoc]
  rw[e] at h6;have hl:(cs.take o++vs++cs.drop (o+vs.length)).length=m*s:=by
   rw[length_append,length_append,length_take,length_drop];omega
  have h7:=Sat.BX (K:=w.setCells gb o vs) (s:=s) (m:=m) (cap:=cap) ⟨nS _,h6⟩ (by rw[length_append,hl];rw[length_append] at h1;omega) h3 h4;rw[take_left' hl] at h7;exact h7.2
theorem ac0{α:Type}{f:α→List Value}{s:Nat}:∀(l:List α) (hf:∀x∈l,(f x).length=s) (k i:Nat) (x y:α) (vs:List Value),l[k]? =some x→i+vs.length≤s→f y=(f x).take i++vs++(f x).drop (i+vs.length)→(l.flatMap f).take (k*s+i)++vs++(l.flatMap f).drop (k*s+i+vs.length)=(l.set k y).flatMap f
 | [],_,k,i,x,y,vs,h,_,_=>by simp at h
 | z::l,hf,0,i,x,y,vs,h,hi,hy=>by
  simp only[getElem?_cons_zero,Option.some.injEq] at h;subst h;have hz:=hf z (.head _);rw[set_cons_zero,flatMap_cons,flatMap_cons,Nat.zero_mul,Nat.zero_add,take_append_of_le_length ay,drop_append_of_le_length ay,hy];simp[append_assoc]
 | z::l,hf,k+1,i,x,y,vs,h,hi,hy=>by
  have ih:=ac0 l (fun z hz=>hf z (.tail _ hz)) k i x y vs (by simpa using h) hi hy;have hz:=hf z (.head _);have e1:(k+1)*s+i=(f z).length+(k*s+i):=by rw[hz,succ_mul];omega
  rw[set_cons_succ,flatMap_cons,flatMap_cons,e1,Nat.add_assoc,List.take_length_add_append,List.drop_length_add_append,←ih];simp[append_assoc]
section
variable{K:World}{F:List aH}{A:Option Addr}{n cap:Nat}
theorem af7:aB prog 177 #[.slice A n cap] K F (fun v H'=>∃b1,v= .func (.func 234) #[] #[ptr b1 0]∧H'=ah b1 47 [.slice A n cap]::F):=by
 refine aB.en func177 ntmps177 ?_;refine aj "a~h" fun b1=> ?_;refine aj "v~Ud" ?_;exact qR (ah b1 _ _::F) rfl rfl cO ⟨b1,rfl,rfl⟩
theorem afO{σ:Type}{l b1:Nat}{Y1 Y2:aH}{cs:Nat→Value}(G:σ→List aH)(I:Nat→σ→Prop)(Stop:List aH→Prop)(hn:n≤1000000)
 (hb:∀s,Rd K (Y1::Y2::G s) (some ⟨b1,0,none⟩) (.slice A n cap)) (UW:∀j s,j<n→Rd K (Y1::Y2::G s) (A.map (·.add (j*1))) (cs j))
 (Ba:∀j s,j<n→I (j+1) s→jY prog K none l #[.i (j:Int),cs j] (Y1::Y2::G s) (fun b H'=>(b=true∧∃s',I j s'∧H'=Y1::Y2::G s')∨(b=false∧Stop H'))) {s0:σ} (h0:I n s0) :
 aB prog 234 #[.func (.yield l) #[] #[],ptr b1 0] K (Y1::Y2::G s0) (fun v H'=>(∃s,I 0 s∧H'=Y1::Y2::G s)∨Stop H'):=by
 refine aB.aaR func234 rfl ntmps234 rfl ?_;simp only[kV,reduceAdd];refine WC.sr ?_;refine WL.val (V.load isAgg47 (ak rfl) (fun hc=>hb s0)) rfl ?_;refine aj "k~xgt" ?_;refine WC.loop (σ:=Nat×σ) (fun s=>[(0,.func (.yield l) #[] #[]),(1,ptr b1 0),(3,.i ((s.1:Int)-1))]) (fun s=>Y1::Y2::G s.2) (fun s=>s.1≤n∧I s.1 s.2) (fun s=>s.1) (n,s0) ⟨Nat.le_refl _,h0⟩ bC cO ?_;rintro⟨i,s⟩ ⟨hi,hIi⟩;dsimp only at hi hIi ⊢;refine aj "r~ii" (aW (fun aL=> ?_) fun aL=> ?_)
 ·simp only[ge_iff_le,cZ] at aL;have Kv:=aL;obtain⟨j,rfl⟩:∃j,i=j+1:=⟨i-1,by omega⟩;have Wx:j<n:=ay;have hro:=Ba j s Wx hIi;rw[show ((j+1:Nat):Int)-1=(j:Int) by omega];refine aj "1c" ?_;refine WL.val (V.load isAgg47 (ak rfl) (fun hc=>hb s)) rfl ?_;refine WL.mv rfl rfl ?_;refine WL.val (V.dw adb (ak rfl) (ak rfl) (fun _=>by omega) (fun _=>by rw[Int.toNat_natCast];exact UW j s Wx)) rfl ?_;refine WL.val (V.load isAgg34 (ak rfl) (fun _=>by rw[Int.toNat_natCast];exact UW j s Wx)) rfl ?_;refine WL.afm (r:=none) (l:=l) (vs:=[_,_]) (ak rfl) ⟨ak rfl,ak rfl,trivial⟩ hro rfl ?_;rintro yb YH hy;refine aj "*i" (aW (fun h2=> ?_) fun h2=> ?_)
  ·skip
   simp only[Bool.not_eq_true',Bool.not_eq_false'] at h2;have alH:Stop YH:=by
    rcases hy with ⟨h3,_⟩ | ⟨_,h3⟩
    ·rw[h3] at h2;cases h2
    ·exact h3
   refine WC.ret ?_;exact aF.ret (H':=YH) (bJ.none rfl) cO (.inr alH)
  ·skip
   simp only[Bool.not_eq_true',Bool.not_eq_false'] at h2;obtain⟨s2,hI2,rfl⟩:∃s2,I j s2∧YH=Y1::Y2::G s2:=by
    rcases hy with ⟨_,h3⟩ | ⟨h3,_⟩
    ·exact h3
    ·rw[h3] at h2;cases h2
   refine aj "qh~xX" ?_;exact⟨(j,s2),⟨Nat.le_of_lt Wx,hI2⟩,lt_succ_self j,.cons rfl bC,fun w h=>h⟩
 ·simp only[ge_iff_le,cZ] at aL;have Kv:=aL;refine WC.exit ?_;obtain rfl:i=0:=by omega
  exact aF.normal (H':=Y1::Y2::G s) (bJ.none rfl) cO (.inl ⟨s,hIi,rfl⟩)
theorem afR:aB prog 112 #[.slice A n cap] K F (fun v H'=>∃b1,v= .func (.func 178) #[] #[ptr b1 0]∧H'=ah b1 183 [.slice A n cap]::F):=by
 refine aB.en func112 ntmps112 ?_;refine aj "a~h" fun b1=> ?_;refine aj "v~Ud" ?_;exact qR (ah b1 _ _::F) rfl rfl cO ⟨b1,rfl,rfl⟩
theorem ag2{σ:Type}{l b1:Nat}{Y1 Y2:aH}{cs:Nat→List Value}(G:σ→List aH)(I:Nat→σ→Prop)(Stop:List aH→Prop)(hn:n≤1000000)
 (hb:∀s,Rd K (Y1::Y2::G s) (some ⟨b1,0,none⟩) (.slice A n cap)) (JM:∀j,(cs j).length=2) (UW:∀j s,j<n→∀q v,(cs j)[q]? =some v→Rd K (Y1::Y2::G s) (A.map (·.add (j*2+q))) v)
 (Ba:∀j s,j<n→I (j+1) s→jY prog K none l #[.i (j:Int),.agg (cs j).toArray] (Y1::Y2::G s) (fun b H'=>(b=true∧∃s',I j s'∧H'=Y1::Y2::G s')∨(b=false∧Stop H'))) {s0:σ} (h0:I n s0) :
 aB prog 178 #[.func (.yield l) #[] #[],ptr b1 0] K (Y1::Y2::G s0) (fun v H'=>(∃s,I 0 s∧H'=Y1::Y2::G s)∨Stop H'):=by
 refine aB.aaR func178 rfl ntmps178 rfl ?_;simp only[kV,reduceAdd];refine WC.sr ?_;refine WL.val (V.load isAgg183 (ak rfl) (fun hc=>hb s0)) rfl ?_;refine aj "k~xgt" ?_;refine WC.loop (σ:=Nat×σ) (fun s=>[(0,.func (.yield l) #[] #[]),(1,ptr b1 0),(3,.i ((s.1:Int)-1))]) (fun s=>Y1::Y2::G s.2) (fun s=>s.1≤n∧I s.1 s.2) (fun s=>s.1) (n,s0) ⟨Nat.le_refl _,h0⟩ bC cO ?_;rintro⟨i,s⟩ ⟨hi,hIi⟩;dsimp only at hi hIi ⊢;refine aj "r~ii" (aW (fun aL=> ?_) fun aL=> ?_)
 ·simp only[ge_iff_le,cZ] at aL;have Kv:=aL;obtain⟨j,rfl⟩:∃j,i=j+1:=⟨i-1,by omega⟩;have Wx:j<n:=ay;have hro:=Ba j s Wx hIi;rw[show ((j+1:Nat):Int)-1=(j:Int) by omega];refine aj "1c" ?_;refine WL.val (V.load isAgg183 (ak rfl) (fun hc=>hb s)) rfl ?_;refine WL.mv rfl rfl ?_;refine WL.val (V.aG (v':=sp A (j*2)) (V.dw ak8 (ak rfl) (ak rfl) (fun _=>by omega) (fun _=>by rw[Int.toNat_natCast];exact UW j s Wx 0 _ (getElem?_eq_getElem (show 0<(cs j).length by rw[JM];decide)))) (fun _=>by rw[Int.toNat_natCast])) rfl ?_;refine WL.val (V.tX (vs:=cs j) ⟨isAgg190,sizeOf190⟩ (ak rfl) (JM j) aN (fun _ q v hq=>UW j s Wx q v hq)) rfl ?_;refine WL.afm (r:=none) (l:=l) (vs:=[_,_]) (ak rfl) ⟨ak rfl,ak rfl,trivial⟩ hro rfl ?_;rintro yb YH hy;refine aj "*i" (aW (fun h2=> ?_) fun h2=> ?_)
  ·skip
   simp only[Bool.not_eq_true',Bool.not_eq_false'] at h2;have alH:Stop YH:=by
    rcases hy with ⟨h3,_⟩ | ⟨_,h3⟩
    ·rw[h3] at h2;cases h2
    ·exact h3
   refine WC.ret ?_;exact aF.ret (H':=YH) (bJ.none rfl) cO (.inr alH)
  ·skip
   simp only[Bool.not_eq_true',Bool.not_eq_false'] at h2;obtain⟨s2,hI2,rfl⟩:∃s2,I j s2∧YH=Y1::Y2::G s2:=by
    rcases hy with ⟨_,h3⟩ | ⟨h3,_⟩
    ·exact h3
    ·rw[h3] at h2;cases h2
   refine aj "qh~xX" ?_;exact⟨(j,s2),⟨Nat.le_of_lt Wx,hI2⟩,lt_succ_self j,.cons rfl bC,fun w h=>h⟩
 ·simp only[ge_iff_le,cZ] at aL;have Kv:=aL;refine WC.exit ?_;obtain rfl:i=0:=by omega
  exact aF.normal (H':=Y1::Y2::G s) (bJ.none rfl) cO (.inl ⟨s,hIi,rfl⟩)
end
theorem K3(hg:S.g.aU)(T:St)(aS:Int):(dZ S T aS).1.d.length≤1000000:=by
 have FR:=bQ.vL hg;unfold dZ;repeat (split;exact zero_le _)
 rename_i h1 _;show (List.take _ _).length≤_;rw[length_take];refine Nat.le_trans (Nat.min_le_left _ _) ?_;have h2:iR S.g (S.bY (T.lF aS) 0).d=0:=by
  rcases Decidable.em (iR S.g (S.bY (T.lF aS) 0).d=0) with h | h
  ·exact h
  ·exact absurd h h1
 unfold gQ;cases hp:jr S.g (S.bY (T.lF aS) 0).d with
 | none =>
  rw[iR,hp] at h2;dsimp only at h2;split at h2<;>cases h2
 | some h =>
  have h3:=(um hg hp).2.1;unfold Hd.may bQ.fits at h3;simp only[Bool.and_eq_true,decide_eq_true_eq] at h3;show h.len.toNat≤_;omega
theorem UG(h:iL b=some M):M.gH.length≤8:=by
 unfold iL at h;split at h
 ·cases h
 ·unfold VB at h;split at h
  ·split at h
   ·rename_i h1;injection h with h
    subst h;unfold sI.ok at h1;simp only[Bool.and_eq_true,decide_eq_true_eq] at h1;exact h1.1.2
   ·cases h
  ·cases h
theorem TD(r:List Ky)(aO:Int)(b:List Nat):(eT r aO b).1.gH.length≤8:=by
 unfold eT;split
 ·exact zero_le _
 split
 ·exact zero_le _
 cases hM:iL (b.take (b.length-64)) with
 | none=>exact zero_le _
 | some M =>
  rw[IX];repeat (split;exact zero_le _)
  exact UG hM
def jV(S:aD)(slot:Int):Nat→Nat→St→List (List Nat)×Int×St
 | 0,_,T=>([],0,T)
 | n+1,i,T=>if (kZ slot (i:Int)).2≠0 then ([],(kZ slot (i:Int)).2,T) else
  if (dZ S T (kZ slot (i:Int)).1).1.err≠0 then ([],(dZ S T (kZ slot (i:Int)).1).1.err,(dZ S T (kZ slot (i:Int)).1).2) else
  ((dZ S T (kZ slot (i:Int)).1).1.d::(jV S slot n (i+1) (dZ S T (kZ slot (i:Int)).1).2).1,(jV S slot n (i+1) (dZ S T (kZ slot (i:Int)).1).2).2)
def PX(S:aD)(ring:List Ky)(aO slot:Int)(G:aD.Got×St):La×Int×St :=
 if G.1.err≠0 then (.zero,G.1.err,G.2) else
 if (eT ring aO G.1.d).2≠0 then (.zero,(eT ring aO G.1.d).2,G.2) else
 if (jV S slot (eT ring aO G.1.d).1.gH.length 0 G.2).2.1≠0 then (.zero,(jV S slot (eT ring aO G.1.d).1.gH.length 0 G.2).2) else
 ({ (kW ring aO G.1.d (jV S slot (eT ring aO G.1.d).1.gH.length 0 G.2).1).1 with slot:=slot },(kW ring aO G.1.d (jV S slot (eT ring aO G.1.d).1.gH.length 0 G.2).1).2,(jV S slot (eT ring aO G.1.d).1.gH.length 0 G.2).2.2)
def jE(S:aD)(T:St)(ring:List Ky)(aO slot:Int):La×Int×St:=PX S ring aO slot (dZ S T (kZ slot (-1)).1)
def bsA(p:Bs):aH:=aV p.v 5 1 p.m (av .u8 p.l)
theorem XW{T:bZ}{C:Cw}(hC:C.Ok)(hg:C.g=g)(hT:T.Ok g)(hr:Ring K F A m ring):aB prog 70 #[ptr bs 0,.slice A m c,.i aO,.i slot] K (C.A bc::dA bd bc g::T.A bs bd g::F)
 (fun v H'=>∃(T':bZ) (A':Option Addr) (c':Nat) (ps:List (Int×Bs)) (E:aH),T'.Ok g∧T'.aC=(jE C.aC T.aC ring aO slot).2.2∧v= .tuple #[.agg ((jE C.aC T.aC ring aO slot).1.cells A' c' 0).toArray,.i (jE C.aC T.aC ring aO slot).2.1] ∧
  (jE C.aC T.aC ring aO slot).1.jS=ps.map (fun p=>(p.1,p.2.l))∧(∀H,kD K (E::H) A' ps)∧H'=C.A bc::dA bd bc g::T'.A bs bd g::E::F):=by
 obtain⟨X,hX⟩:∃X,X=jE C.aC T.aC ring aO slot:=⟨_,rfl⟩;obtain⟨G,hG⟩:∃G,G=(dZ C.aC T.aC (kZ slot (-1)).1):=⟨_,rfl⟩;have hz:∀(e:Int) (T':bZ),T'.Ok g→X=(.zero,e,T'.aC)→∃(T2:bZ) (A':Option Addr) (c':Nat) (ps:List (Int×Bs)) (E:aH),T2.Ok g∧T2.aC=X.2.2∧Value.tuple #[.agg (La.zero.cells none 0 0).toArray,.i e]= .tuple #[.agg (X.1.cells A' c' 0).toArray,.i X.2.1]∧X.1.jS=ps.map (fun p:Int×Bs=>(p.1,p.2.l))∧(∀H,kD K (E::H) A' ps)∧C.A bc::dA bd bc g::T'.A bs bd g::bK []::F=C.A bc::dA bd bc g::T2.A bs bd g::E::F :=
  fun e T' Oo he=>⟨T',none,0,[],bK [],Oo,by rw[he],by rw[he],by rw[he];rfl,fun H=>⟨⟨rfl,fun i v hi=>by simp at hi⟩,fun p hp=>by cases hp⟩,rfl⟩
 have yO:C.aC.g.aU:=hC.aU;have nS:aA 256 G.1.d:=by rw[hG];exact hC.yj _ _
 have hgl:G.1.d.length≤1000000:=by rw[hG];exact K3 yO _ _
 rw[←hX];unfold jE at hX;rw[←hG] at hX;obtain⟨h,hh⟩:∃h,h=eT ring aO G.1.d:=⟨_,rfl⟩;unfold PX at hX;rw[←hh] at hX;refine aB.en func70 ntmps70 ?_;refine aj "aw" fun b8=> ?_;refine aj "j" ?_;refine WL.t2 call23 rfl rfl (xR slot (-1) _ _) rfl ?_;refine aj "DY~1" ?_;refine WL.c2 call26 rfl rfl (AA hC hg hT _) rfl ?_;rintro _ _ ⟨A1,c1,T1,oZ,t1,rfl,rfl⟩;rw[←hG] at t1 ⊢;refine WL.lG (fun w h=>aV.room h) (fun afI=> ?_);refine aj "6~Mllfsi" (aW (fun h0=> ?_) fun h0=> ?_)
 ·simp only[oK] at h0;rw[if_pos h0] at hX;refine aj "a@cEd" ?_;exact aF.ret (H':=C.A bc::dA bd bc g::T1.A bs bd g::bK []::F) (rA rfl rfl ⟨isAgg37,sizeOf37⟩ rfl) (fun w h=>(Sat.all (l:=[]) (h.bg 5 [1,2,3] rfl)).bg 4 [1,2,3,0] rfl) (hz _ T1 oZ (by rw[hX,t1]))
 ·simp only[oK] at h0;rw[if_neg (fun h=>h h0)] at hX;refine aj "Uz" ?_;refine WL.c3 call20 rfl rfl rfl (AO (aO:=aO) (ring:=ring) (sd:=G.1.d) hr.up.up.up.up.up (aV.seq (by rw[au,Nat.mul_one])) nS hgl afI) rfl ?_;rintro _ _ ⟨As,ca,E1,rfl,hE,rfl⟩;rw[←hh] at hE ⊢;refine aj "6w" fun b15=> ?_;refine aj "Efsi" (aW (fun h1=> ?_) fun h1=> ?_)
  ·simp only[oK] at h1;rw[if_pos h1] at hX;refine aj "a@cEd" ?_;exact aF.ret (H':=C.A bc::dA bd bc g::T1.A bs bd g::bK []::F) (rA rfl rfl ⟨isAgg37,sizeOf37⟩ rfl) (fun w h=>(Sat.all (l:=[]) (h.bg 7 [3,4,5] rfl)).bg 4 [1,2,3,0] rfl) (hz _ T1 oZ (by rw[hX,t1]))
  ·simp only[oK] at h1;rw[if_neg (fun h=>h h1)] at hX;refine aj "9uaokN" ?_;obtain⟨n,hn⟩:∃n,n=h.1.gH.length:=⟨_,rfl⟩;rw[←hn] at hX ⊢;have hn8:n≤8:=by rw[hn,hh];exact TD _ _ _
   obtain⟨Q0,hQ0⟩:∃Q0,Q0=jV C.aC slot n 0 G.2:=⟨_,rfl⟩;rw[←hQ0] at hX;refine WC.loop (σ:=Nat×bZ×Option Addr×Nat×List Bs) (fun s=>[(0,ptr bs 0),(1,.slice A m c),(2,.i aO),(3,.i slot),(8,ptr b8 0),(12,.slice A1 G.1.d.length c1),(16,.slice s.2.2.1 s.1 s.2.2.2.1),(52,.i (n:Int)),(53,.i (s.1:Int))])
    (fun s=>C.A bc::dA bd bc g::s.2.1.A bs bd g::aV (.slice s.2.2.1 s.1 s.2.2.2.1) 34 1 s.1 (s.2.2.2.2.map Bs.v)::bK (s.2.2.2.2.reverse.map bsA)::E1::aV (.slice A1 G.1.d.length c1) 5 1 G.1.d.length (av .u8 G.1.d)::ah b8 37 [.i 0,.i 0,.i 0,.slice none 0 0,.i 0]::F)
    (fun s=>s.1≤n∧s.2.1.Ok g∧s.2.2.2.2.length=s.1∧(∀p∈s.2.2.2.2,aA 256 p.l∧p.l.length=p.m∧p.m≤1000000)∧Q0=(s.2.2.2.2.map Bs.l++(jV C.aC slot (n-s.1) s.1 s.2.1.aC).1,(jV C.aC slot (n-s.1) s.1 s.2.1.aC).2)) (fun s=>n-s.1)
    (0,T1,none,0,[]) ⟨zero_le _,oZ,rfl,fun p hp=>by (cases hp),by dsimp only;rw[hQ0,Nat.sub_zero,t1];rfl⟩ bC (fun w h=>((Sat.all (l:=[]) (h.bg 7 [3,4,5,1,2,6] rfl)).gI 34 1).bg 8 [2,3,4,0,1,5,6,7] rfl) ?_
   rintro⟨i,Tc,A16,c16,ds⟩ ⟨hi,hTc,wF,hdo,Dn⟩;dsimp only at hi hTc wF hdo Dn ⊢;refine aj "TH" (aW (fun h2=> ?_) fun h2=> ?_)
   ·simp only[cZ] at h2;rw[show n-i=n-(i+1)+1 by omega,jV] at Dn;obtain⟨L,hL⟩:∃L,L=kZ slot (i:Int):=⟨_,rfl⟩;rw[←hL] at Dn;obtain⟨J,hJ⟩:∃J,J=dZ C.aC Tc.aC L.1:=⟨_,rfl⟩;rw[←hJ] at Dn;have hjm:aA 256 J.1.d:=by rw[hJ];exact hC.yj _ _
    have BF:J.1.d.length≤1000000:=by rw[hJ];exact K3 yO _ _
    refine aj "1Y" ?_;refine WL.t2 call23 rfl rfl ((xR slot (i:Int) _ _).eq (v':= .tuple #[.i L.1,.i L.2]) (by rw[hL])) rfl ?_;refine aj "Dfsi" (aW (fun h3=> ?_) fun h3=> ?_)
    ·simp only[oK] at h3;rw[if_pos h3] at Dn;rw[Dn,if_pos h3] at hX;refine aj "a@c~Kd" ?_;exact aF.ret (H':=C.A bc::dA bd bc g::Tc.A bs bd g::bK []::F) (rA rfl rfl ⟨isAgg37,sizeOf37⟩ rfl) (fun w h=>(Sat.all (l:=[]) (h.bg 8 [0,1,2] rfl)).bg 4 [1,2,3,0] rfl) (hz _ Tc hTc hX)
    ·simp only[oK] at h3;rw[if_neg (fun h=>h h3)] at Dn;refine aj "Uc" ?_;refine WL.c2 call26 rfl rfl (AA hC hg hTc _) rfl ?_;rintro _ _ ⟨A2,c2,T2,BH,t2,rfl,rfl⟩;rw[←hJ] at t2 ⊢;refine aj "6~Mllfsi" (aW (fun h4=> ?_) fun h4=> ?_)
     ·simp only[oK] at h4;rw[if_pos h4] at Dn;rw[Dn,if_pos h4] at hX;refine aj "a@c~Kd" ?_;exact aF.ret (H':=C.A bc::dA bd bc g::T2.A bs bd g::bK []::F) (rA rfl rfl ⟨isAgg37,sizeOf37⟩ rfl) (fun w h=>(Sat.all (l:=[]) (h.bg 9 [1,2,3] rfl)).bg 4 [1,2,3,0] rfl) (hz _ T2 BH (by rw[hX,t2]))
     ·simp only[oK] at h4;rw[if_neg (fun h=>h h4)] at Dn;refine aj "qP" ?_;refine WL.buildSlice (E:=34) (cs:=[_]) (vs:=[(0,_)]) ⟨ak rfl,trivial⟩ rfl (Lv _ _ _) rfl (fun b79=> ?_);refine aj "~~T" ?_;refine WL.append (m:=i) (q:=1) (news:=[Bs.v ⟨A2,J.1.d.length,c2,J.1.d⟩]) underlying47 aiF (ak rfl) (ak rfl) (Seq.all rfl) (by intro u hu;rw[mem_singleton.1 hu];rfl) ay rfl rfl (fun A80 c80 amZ anG=> ?_);refine aj "g7" ?_;refine⟨(i+1,T2,A80,c80,ds++[⟨A2,J.1.d.length,c2,J.1.d⟩]),⟨by show i+1≤n;omega,BH,by simp[wF],fun p' BA=> ?_, ?_⟩,(by show n-(i+1)<n-i;omega),.cons rfl bC,fun w h=> ?_⟩
      ·rcases mem_append.1 BA with h' | h'
       ·exact hdo p' h'
       ·rw[mem_singleton.1 h'];exact⟨hjm,rfl,BF⟩
      ·dsimp only;rw[Dn,t2];simp
      ·have h2:=((h.bg 10 [2,6,3,4,5,0,7,8,9] rfl).Bc).bg 8 [1,2,3,4,0,5,6,7] rfl;simp only[map_append,map_cons,map_nil,reverse_append,reverse_cons,reverse_nil,nil_append,cons_append];exact h2
   ·simp only[cZ] at h2;refine aj "W" ?_;obtain rfl:i=n:=by omega
    rw[Nat.sub_self,jV,append_nil] at Dn;rw[Dn,if_neg (fun h=>h rfl)] at hX;obtain⟨Y,hY⟩:∃Y,Y=kW ring aO G.1.d (ds.map Bs.l):=⟨_,rfl⟩;rw[←hY] at hX;refine aj "hzc" ?_;refine WL.c4 call105 rfl rfl rfl rfl (FB (aO:=aO) (ring:=ring) (sd:=G.1.d) (ds:=ds) hr.up.up.up.up.up.up.up.up (aV.seq (by rw[au,Nat.mul_one])).up.up.up.up.up.up nS hgl afI ⟨(aV.seq (by rw[length_map,wF,Nat.mul_one])).up.up.up,fun p hp=>⟨(uz (C:=bsA p) (mem_map.2 ⟨p,mem_reverse.2 hp,rfl⟩) (aV.seq (by rw[au,(hdo p hp).2.1,Nat.mul_one]))).up.up.up.up,(hdo p hp).1,(hdo p hp).2.2⟩⟩ ay) rfl ?_;rintro _ _ ⟨A',c',ps,E2,rfl,l7,hE2,rfl⟩;rw[←hY] at l7 ⊢;refine aj "6w" fun QB=> ?_;refine aj "Ej8~&RBc~Kd" ?_;exact aF.ret (H':=C.A bc::dA bd bc g::Tc.A bs bd g::E2::F) (rA rfl rfl ⟨isAgg37,sizeOf37⟩ rfl) (fun w h=>h.bg 10 [2,3,4,1] rfl) ⟨Tc,A',c',ps,E2,hTc,by rw[hX],by rw[hX],by rw[hX];exact l7,hE2,rfl⟩
end Go.Proofs.YtcedojacbhnbiaaGreat
