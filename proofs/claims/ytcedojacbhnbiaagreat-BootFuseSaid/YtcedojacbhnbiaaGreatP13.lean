import Derived.Test.YtcedojacbhnbiaaGreatP12
import Derived.Test.YtcedojacbhnbiaaGreatP9
set_option linter.unusedSimpArgs false
set_option linter.unusedVariables false
set_option maxHeartbeats 2000000
set_option maxRecDepth 20000
namespace Go.Proofs.YtcedojacbhnbiaaGreat
open Go.Sl Go.RowKit Tryz List Nat
structure wT where
 load:Int
 bytes:Int
 bH:List Nat
structure qE where
 ver:Int
 sec:Int
 key:Int
 BU:Int
 iI:List wT
def qE.zero:qE:=⟨0,0,0,0,[]⟩
def sW(l:List Nat):Nat:=vl 256 (l.take 4)
def Fj:Nat→List Nat→Option (List wT×List Nat)
 | 0,r=>some ([],r)
 | n+1,r=>if r.length<40 then none else (Fj n (r.drop 40)).map fun p=>(⟨sW r,sW (r.drop 4),(r.drop 8).take 32⟩::p.1,p.2)
def DK(n:Int):Bool:=decide (0≤n)&&decide (n≤2147483647)
def Sr:Int→List wT→Bool
 | _,[]=>true
 | e,s::l=>[s.load,s.bytes].all DK&&(decide (s.bytes≤1048576)&&decide (e≤s.load)&&decide (s.load+s.bytes≤2147483647))&&Sr (s.load+s.bytes) l
def qE.ok(m:qE):Bool:=[m.ver,m.sec,m.key,m.BU].all DK&&decide (m.iI.length≤8)&&Sr 0 m.iI
def VF(b:List Nat):Option (List wT×List Nat)→Option qE
 | some (l,[])=>if (qE.mk (sW (b.drop 4)) (sW (b.drop 8)) (sW (b.drop 12)) (sW (b.drop 16)) l).ok then some ⟨sW (b.drop 4),sW (b.drop 8),sW (b.drop 12),sW (b.drop 16),l⟩ else none
 | _=>none
def je(b:List Nat):Option qE :=
 if b.length<24∨b.take 4≠[109,97,110,105]∨8<sW (b.drop 20) then none else VF b (Fj (sW (b.drop 20)) (b.drop 24))
structure Ky where
 num:Int
 bytes:List Nat
 rev:Bool
structure Ky.Ok(k:Ky):Prop where
 len:k.bytes.length=32
 small:aB 256 k.bytes
def Ky.cells(k:Ky):List Value:= .i k.num::(av .u8 k.bytes++[.bool k.rev])
theorem Ky.dS{k:Ky}(h:k.Ok):k.cells.length=34:=by simp[Ky.cells,au,h.len]
def JN:Int→List Ky→Bool
 | _,[]=>true
 | l,k::r=> !(decide (k.num≤l)||decide (2147483647<k.num))&&JN k.num r
def kL(r:List Ky):Bool:=JN (-1) r&&decide (r.length≤8)
def findF(r:List Ky)(n:Int):Option Ky:=r.find? fun k=>k.num==n
def uO(r:List Ky)(n:Int):List Nat×Int :=
 if kL r then match findF r n with | some k=>if k.rev then (replicate 32 0,190) else (k.bytes,0) | none=>(replicate 32 0,190) else (replicate 32 0,1)
theorem aeT{r:List Ky}(h:∀k∈r,k.Ok)(n:Int):(uO r n).1.length=32∧aB 256 (uO r n).1:=by
 have hz:(replicate 32 0:List Nat).length=32∧aB 256 (replicate 32 0):=⟨rfl,aB.vg aK⟩;unfold uO;split
 ·split
  ·rename_i k hk;split
   ·exact hz
   ·have h1:=h k (mem_of_find?_eq_some hk);exact⟨h1.len,h1.small⟩
  ·exact hz
 ·exact hz
def Qt(r:List Ky)(aQ:Int)(bd sg:List Nat):Option qE→qE×Int
 | none=>(.zero,4)
 | some m =>
  if (uO r m.key).2≠0 then (.zero,(uO r m.key).2) else
  if lu (vl 256 (uO r m.key).1) bd (vl 256 (sg.take 32)) (vl 256 (sg.drop 32))=false then (.zero,191) else
  if m.sec<aQ then (.zero,230) else (m,0)
def iw(r:List Ky)(aQ:Int)(b:List Nat):qE×Int :=
 if kL r=false then (.zero,1) else
 if b.length<64 then (.zero,4) else Qt r aQ (b.take (b.length-64)) (b.drop (b.length-64)) (je (b.take (b.length-64)))
theorem Ym{r:List Ky}{aQ:Int}{b:List Nat}(h:(iw r aQ b).2=0):aQ≤(iw r aQ b).1.sec:=by
 unfold iw at h ⊢;split at h
 ·cases h
 rename_i h1;rw[if_neg h1];split at h
 ·cases h
 rename_i h2;rw[if_neg h2];revert h;cases je (b.take (b.length-64)) with
 | none=>intro h;cases h
 | some m =>
  intro h;rw[Qt] at h ⊢;split at h
  ·rename_i h3;exact absurd h h3
  rename_i h3;rw[if_neg h3];split at h
  ·cases h
  rename_i h4;rw[if_neg h4];split at h
  ·cases h
  rename_i h5;rw[if_neg h5];exact Int.not_lt.1 h5
abbrev Gt:Value:= .iface 269 (.agg #[])
theorem Xy(w:World):(Instr.makeInterface 269 (.agg #[])).run prog w= .ok Gt w:=by simp[Instr.makeInterface,runUnderlying269]
theorem ahP(w:World):(Instr.typeAssert Gt 20 269 true).run prog w= .ok (.tuple #[.agg #[],.bool true]) w:=by simp_all [Instr.typeAssert,runUnderlying269]
theorem aex(w:World):(Instr.typeAssert .nilIface 20 269 true).run prog w= .ok (.tuple #[.agg #[],.bool false]) w:=by simp[Instr.typeAssert,runUnderlying269,zeroValue269]
section
variable{K:World}{F:List aA}
theorem qX(b:Bool):qd prog 138 #[.bool b] K F Gt (fun v H'=>b=true∧v= .tuple #[]∧H'=F) (fun H'=>b=false∧H'=F):=by
 refine aC.Er func138 rfl ntmps138 rfl ?_;simp only[lH,reduceAdd];refine aj "e*k" (aX (fun aN=> ?_) fun aN=> ?_)
 ·skip
  have h0:=aN;simp only[Bool.not_eq_true',Bool.not_eq_false'] at h0;refine aj "q]" ?_;refine WL.val (V.XG (ak rfl) Xy) rfl ?_;exact WL.ahR (ak rfl) ⟨rfl,rfl,_,fun w h=>h,h0,rfl⟩
 ·skip
  have h0:=aN;simp only[Bool.not_eq_true',Bool.not_eq_false'] at h0;refine WC.skip ?_;exact⟨rfl,_,F,(bI.none rfl),cu,h0,rfl,rfl⟩
theorem H7{A:Option Addr}{m cap:Nat}{xs:List Int}(hm:m≤1000000)(hs:Seq K F A m 1 (ints .i64 xs)):qd prog 195 #[.slice A m cap] K F Gt (fun v H'=>xs.all DK=true∧v= .tuple #[]∧H'=F) (fun H'=>xs.all DK=false∧H'=F):=by
 have hlen:xs.length=m:=by have :=hs.len;rwa [bY,Nat.mul_one] at this
 refine aC.Er func195 rfl ntmps195 rfl ?_;simp only[lH,reduceAdd];refine aj "eoP" ?_;refine WC.loop (σ:=Nat) (fun i=>[(4,.slice A m cap),(5,.i (m:Int)),(6,.i (i:Int))]) (fun _=>F) (fun i=>i≤m∧(xs.drop i).all DK=xs.all DK) (fun i=>m-i) 0 ⟨zero_le _,rfl⟩ bM cu ?_;rintro i ⟨hi,hq⟩;refine aj "UE" (aX (fun aN=> ?_) fun aN=> ?_)
 ·simp only[dh] at aN;have h0:=aN;obtain⟨x,hx⟩:∃x,xs[i]? =some x:=⟨_,getElem?_eq_getElem ay⟩;have lJ:Rd K F (A.map (·.add ((i:Int).toNat*1))) (.i x):=by rw[Int.toNat_natCast,Nat.mul_one];exact hs.rd i _ (by unfold ints;rw[getElem?_map,hx];rfl)
  rw[show xs.drop i=x::xs.drop (i+1) from (List.getElem?_eq_some_iff.1 hx).2 ▸ drop_eq_getElem_cons _,all_cons] at hq;refine aj "Ha" ?_;refine WL.val (V.eD fZ (ak rfl) (ak rfl) (fun _=>by omega) (fun _=>lJ)) rfl ?_;refine WL.val (V.load isAgg3 (ak rfl) (fun _=>lJ)) rfl ?_;refine aj "gh~ic8~VV" ?_;refine WL.jJ (vs:=[_]) call138 ⟨ak rfl,trivial⟩ (qX _) rfl ?_ ?_
  ·rintro _ ⟨hb,rfl⟩;refine⟨rfl,rfl,_,fun w h=>h, ?_,rfl⟩;rw[←hq,show DK x=false from hb];rfl
  rintro _ _ ⟨hb,rfl,rfl⟩;refine aj "b6" ?_;exact⟨i+1,⟨by omega,by rw[←hq,show DK x=true from hb];rfl⟩,(by show m-(i+1)<m-i;omega),.cons rfl bM,fun w h=>h⟩
 ·simp only[dh] at aN;have h0:=aN;refine WC.exit ?_;exact⟨rfl,_,F,(bI.none rfl),cu,by rw[←hq,drop_of_length_le ay];rfl,rfl,rfl⟩
theorem V6{b:Nat}{x ok:Bool}{u u':FrameMode}{v0:Value}(hI:∀w,(Instr.typeAssert v0 20 269 true).run prog w= .ok (.tuple #[.agg #[],.bool ok]) w)
 (ahS:∀(c₀:Frame) cs,c₀.mode=u→recoverD (c₀::cs)=some (v0,{ c₀ with mode:=u' }::cs)∨(recoverD (c₀::cs)=none∧v0= .nilIface∧u'=u)) :
 ∀ w,Sat K w (ah b 4 [.bool x]::F)→CallsD prog 194 #[ptr b 0] u w fun e u2 w'=>u2=u'∧∃v H',e= .returned v∧Sat K w' H'∧H'=ah b 4 [.bool (if ok then false else x)]::F:=by
 refine KA (pd:=fun H'=>H'=ah b 4 [.bool (if ok then false else x)]::F) func194 rfl ntmps194 rfl rfl ahS ?_;simp only[lH,reduceAdd];refine WL.val (V.typeAssert (ak rfl) hI) rfl ?_;refine aj "!A" fun b1=> ?_;refine WL.store (cs:=[]) sizeOf269 (ak rfl) (ak rfl) rfl rfl rfl (dw.here rfl rfl) ?_;refine aj "jk" (aX (fun h=> ?_) fun h=> ?_)
 ·refine WC.region ?_;refine aj "~jb" ?_;exact aG.normal (H':=ah b 4 [.bool (if ok then false else x)]::F) (bI.none rfl) (fun w h'=>by rw[if_pos h];exact h'.tail) rfl
 ·refine WC.skip ?_;exact aG.normal (H':=ah b 4 [.bool (if ok then false else x)]::F) (bI.none rfl) (fun w h'=>by rw[if_neg (by rw[h];decide)];exact h'.tail) rfl
theorem Mf{g:Nat}{cap:List Value}{H:List aA}{post Kc:List aA→Prop}(hg:bT prog g)(hf:∀C,qd prog g cap.toArray K (C::H) Gt (fun v H'=>∃H2,H'=C::H2∧post H2) (fun H'=>∃H2,H'=C::H2∧Kc H2)) :
 aC prog 136 #[.func (.func g) #[] cap.toArray] K H (fun v H'=>(v= .bool true∧post H')∨(v= .bool false∧Kc H')):=by
 refine aC.ahL (bad:=Gt) func136 rfl ntmps136 rfl ?_;simp only[lH,reduceAdd];refine aj "aA" fun b2=> ?_;refine aj "T~3" ?_;refine WL.defer (ak rfl) (aj "be" ?_);refine WL.agS (first:=[]) (captured:=cap) (vs:=[]) hg (ak rfl) trivial (by simpa using hf _) rfl ?_ ?_
 ·rintro _ ⟨H2,rfl,hp⟩;exact⟨rfl,_,_,rfl,call194,fun H'=>H'=ah b2 4 [.bool false]::H2,V6 (x:=false) ahP (u:= .panicking (Gj Gt)) (u':= .panicking [{ v:=Gt,recovered:=true }]) (fun c₀ cs hu=> .inl (by simp[recoverD,hu,Gj])),fun H' hH=>by
   subst hH;exact⟨.bool false,H2,bI.one rfl (R1.JY rfl isAgg4 (Rd.here rfl)),fun w h=>h.tail,.inr ⟨rfl,hp⟩⟩⟩
 rintro _ _ ⟨H2,rfl,hp⟩;refine aj "T~~c3" ?_;exact⟨_,_,rfl,call194,fun H'=>H'=ah b2 4 [.bool true]::H2,V6 (x:=true) aex (u:= .returning) (u':= .returning) (fun c₀ cs hu=> .inr ⟨by simp[recoverD,hu],rfl,rfl⟩),fun H' hH=>by
  subst hH;exact⟨.bool true,H2,bI.one rfl (R1.JY rfl isAgg4 (Rd.here rfl)),fun w h=>h.tail,.inl ⟨rfl,hp⟩⟩⟩
def PY(A:Option Addr)(c n:Nat):Option Addr:=if c=n then A else A.map (·.add (n*1))
theorem Seq.PY{A:Option Addr}{m c n:Nat}{l:List Nat}(hs:Seq K F A m 1 (av .u8 l))(hn:n≤m)(hc:m≤c):Seq K F (PY A c n) (m-n) 1 (av .u8 (l.drop n)):=by
 have hl:l.length=m:=by have :=hs.len;rwa [au,Nat.mul_one] at this
 have h:=Seq.rV hs (l:=n) (h:=m) (u:=c) hn (Nat.le_refl _) hc;rw[take_of_length_le (by rw[length_drop];omega)] at h;exact h
theorem iU{br c m n:Nat}{A:Option Addr}(hc:m≤c):qd prog 139 #[ptr br 0,.i (n:Int)] K (ah br 212 [.slice A m c]::F) Gt
 (fun v H'=>n≤m∧v= .slice A n c∧H'=ah br 212 [.slice (PY A c n) (m-n) (c-n)]::F) (fun H'=>m<n∧H'=F):=by
 refine aC.Er func139 rfl ntmps139 rfl ?_;simp only[lH,reduceAdd];refine aj "a0L" ?_;refine WL.val (V.load (v:= .slice A m c) isAgg34 (ak rfl) (fun _=>Rd.here rfl)) rfl ?_;refine aj "o~." ?_;refine WL.jJ (vs:=[_]) call138 ⟨ak rfl,trivial⟩ (qX _) rfl ?_ ?_
 ·rintro _ ⟨hb,rfl⟩;exact⟨rfl,rfl,_,fun w h=>h.tail,by simpa using hb,rfl⟩
 rintro _ _ ⟨hb,rfl,rfl⟩;have tY:n≤m:=by simpa using hb
 refine aj "beL" ?_;refine WL.val (V.load (v:= .slice A m c) isAgg34 (ak rfl) (fun _=>Rd.here rfl)) rfl ?_;refine WL.mv rfl rfl ?_;refine WL.val (V.aI (v':= .slice A n c) (V.slice (m:=m) (cap:=c) (l:=0) (h:=n) (u:=c) eu (ak rfl) OO.none (OO.some (ak rfl) (fun _=>rfl)) OO.none (by simp) ay ay ay) (fun _=>by rw[zQ,Nat.sub_zero,Nat.sub_zero])) rfl ?_;refine aj "0L" ?_;refine WL.val (V.load (v:= .slice A m c) isAgg34 (ak rfl) (fun _=>Rd.here rfl)) rfl ?_;refine WL.mv rfl rfl ?_;refine WL.val (V.slice (m:=m) (cap:=c) (l:=n) (h:=m) (u:=c) eu (ak rfl) (OO.some (ak rfl) (fun _=>rfl)) OO.none OO.none (by simp) ay ay ay) rfl ?_;refine aj "L" ?_;refine WL.store (cs:=[.slice (PY A c n) (m-n) (c-n)]) sizeOf34 (ak rfl) (ak rfl) rfl rfl rfl (dw.here rfl rfl) ?_;refine aj "bed" ?_;exact⟨rfl,_,ah br 212 [.slice (PY A c n) (m-n) (c-n)]::F,(bI.tmp rfl rfl),cu,tY,rfl,rfl⟩
theorem aho{l:List Nat}(h:4≤l.length):sW l=l.getD 0 0+l.getD 1 0*2^8+l.getD 2 0*2^16+l.getD 3 0*2^24:=by
 match l,h with
 | a::b::c::d::l,_=>simp[sW,vl];omega
theorem iY{br c m:Nat}{A:Option Addr}{l:List Nat}(hs:Seq K F A m 1 (av .u8 l))(h8:aB 256 l)(hc:m≤c):qd prog 140 #[ptr br 0] K (ah br 212 [.slice A m c]::F) Gt
 (fun v H'=>4≤m∧v= .i ((sW l:Nat):Int)∧H'=ah br 212 [.slice (PY A c 4) (m-4) (c-4)]::F) (fun H'=>m<4∧H'=F):=by
 have hlen:l.length=m:=by have :=hs.len;rwa [au,Nat.mul_one] at this
 refine aC.Er func140 rfl ntmps140 rfl ?_;simp only[lH,reduceAdd];refine aj "aj" ?_;refine WL.jJ (vs:=[_,_]) call139 ⟨ak rfl,ak rfl,trivial⟩ (iU (n:=4) hc) rfl ?_ ?_
 ·rintro _ ⟨hb,rfl⟩;exact⟨rfl,rfl,_,fun w h=>h,hb,rfl⟩
 rintro _ _ ⟨hb,rfl,rfl⟩;obtain⟨x0,e0⟩:∃x,x=l.getD 0 0:=⟨_,rfl⟩;obtain⟨x1,e1⟩:∃x,x=l.getD 1 0:=⟨_,rfl⟩;obtain⟨x2,e2⟩:∃x,x=l.getD 2 0:=⟨_,rfl⟩;obtain⟨x3,e3⟩:∃x,x=l.getD 3 0:=⟨_,rfl⟩;have b0:x0<256:=by rw[e0];exact h8.at_ aK _
 have b1:x1<256:=by rw[e1];exact h8.at_ aK _
 have b2:x2<256:=by rw[e2];exact h8.at_ aK _
 have b3:x3<256:=by rw[e3];exact h8.at_ aK _
 have rd:∀(k:Nat) x,k≤3→x=l.getD k 0→Rd K (ah br 212 [.slice (PY A c 4) (m-4) (c-4)]::F) (A.map (·.add ((k:Int).toNat*1))) (.int .u8 (x:Int)):=fun k x hk hx=>by
  rw[hx,Int.toNat_natCast];exact (hs.jv ay).up
 have r0:=rd 0 x0 ay e0;have r1:=rd 1 x1 ay e1;have r2:=rd 2 x2 ay e2;have r3:=rd 3 x3 ay e3;have O4:sW l=x0+x1*2^8+x2*2^16+x3*2^24:=by rw[aho ay,e0,e1,e2,e3]
 rw[O4];refine aj "t~k+" ?_;refine WQ.val (V.eD eu (ak rfl) (ak rfl) (fun hc=>by omega) (fun hc=>r0)) rfl ?_;refine WQ.val (V.load isAgg5 (ak rfl) (fun hc=>r0)) rfl ?_;refine aj "~>+" ?_;refine WQ.val (V.eD eu (ak rfl) (ak rfl) (fun hc=>by omega) (fun hc=>r1)) rfl ?_;refine WQ.val (V.load isAgg5 (ak rfl) (fun hc=>r1)) rfl ?_;refine aj "~>" ?_;refine WQ.val (V.aI (v':= .i ((x1*2^8:Nat):Int)) (V.shl (ak rfl) (ak rfl) ay) (fun _=>congrArg _ (yX (n:=8) aK b1))) rfl ?_;refine WQ.val (V.aI (v':= .i ((x0+x1*2^8:Nat):Int)) (V.or (ak rfl) (ak rfl)) (fun _=>congrArg _ (um (n:=8) ay ay ay))) rfl ?_;refine aj "+" ?_;refine WQ.val (V.eD eu (ak rfl) (ak rfl) (fun hc=>by omega) (fun hc=>r2)) rfl ?_;refine WQ.val (V.load isAgg5 (ak rfl) (fun hc=>r2)) rfl ?_;refine aj "~>" ?_;refine WQ.val (V.aI (v':= .i ((x2*2^16:Nat):Int)) (V.shl (ak rfl) (ak rfl) ay) (fun _=>congrArg _ (yX (n:=16) aK b2))) rfl ?_;refine WQ.val (V.aI (v':= .i ((x0+x1*2^8+x2*2^16:Nat):Int)) (V.or (ak rfl) (ak rfl)) (fun _=>congrArg _ (um (n:=16) ay ay ay))) rfl ?_;refine aj "+" ?_;refine WQ.val (V.eD eu (ak rfl) (ak rfl) (fun hc=>by omega) (fun hc=>r3)) rfl ?_;refine WQ.val (V.load isAgg5 (ak rfl) (fun hc=>r3)) rfl ?_;refine aj "~>" ?_;refine WQ.val (V.aI (v':= .i ((x3*2^24:Nat):Int)) (V.shl (ak rfl) (ak rfl) ay) (fun _=>congrArg _ (yX (n:=24) aK b3))) rfl ?_;refine WQ.val (V.aI (v':= .i ((x0+x1*2^8+x2*2^16+x3*2^24:Nat):Int)) (V.or (ak rfl) (ak rfl)) (fun _=>congrArg _ (um (n:=24) ay ay ay))) rfl ?_;refine aj "~m~g~D" ?_;exact⟨rfl,_,ah br 212 [.slice (PY A c 4) (m-4) (c-4)]::F,(bI.tmp rfl rfl),cu,hb,rfl,rfl⟩
end
def wT.cells(s:wT):List Value:= .i s.load:: .i s.bytes::av .u8 s.bH
structure wT.Ok(s:wT):Prop where
 len:s.bH.length=32
 small:aB 256 s.bH
theorem wT.dS{s:wT}(h:s.Ok):s.cells.length=34:=by simp[wT.cells,au,h.len]
theorem wT.one(s:wT):s.cells.all (·.oneCell')=true:=by
 simp only[wT.cells,all_cons,gW,Bool.and_true];rfl
structure Kq(K:World)(F:List aA)(A:Option Addr)(m:Nat)(l:List wT):Prop where
 seq:Seq K F A m 34 (l.flatMap wT.cells)
 len:l.length=m
 ok:∀s∈l,s.Ok
theorem xF{s:Nat}{α:Type}{f:α→List Value}:∀(l:List α) (hf:∀x∈l,(f x).length=s) (k i:Nat) (x:α) (v:Value),l[k]? =some x→(f x)[i]? =some v→(l.flatMap f)[k*s+i]? =some v
 | [],_,k,i,x,v,h,_=>by simp at h
 | y::l,hf,0,i,x,v,h,hi=>by
  simp only[getElem?_cons_zero,Option.some.injEq] at h;subst h;rw[flatMap_cons,Nat.zero_mul,Nat.zero_add,getElem?_append_left (List.getElem?_eq_some_iff.1 hi).1];exact hi
 | y::l,hf,k+1,i,x,v,h,hi=>by
  have ih:=xF l (fun z hz=>hf z (.tail _ hz)) k i x v (by simpa using h) hi;have hy:=hf y (.head _);rw[flatMap_cons,getElem?_append_right (by rw[hy,succ_mul];omega),hy,←ih];congr 1;rw[succ_mul];omega
theorem Kq.rd{K:World}{F:List aA}{A:Option Addr}{m:Nat}{r:List wT}(h:Kq K F A m r){i:Nat}{k:wT}(hk:r[i]? =some k):∀j v,k.cells[j]? =some v→Rd K F (A.map (·.add (i*34+j))) v:=fun j v hj =>
 h.seq.rd _ _ (xF r (fun x hx=>wT.dS (h.ok x hx)) i j k v hk hj)
theorem aeR:∀(cs:List Value) (h:cs.length=34) (w:World),(Instr.buildSlice 40 1 [(0,.agg cs.toArray)].toArray).run prog w= .ok (.slice (some ⟨w.heap.size,0,none⟩) 1 1) (w.alloc (.cells cs.toArray 140))
 | v00::v01::v02::v03::v04::v05::v06::v07::v08::v09::v10::v11::v12::v13::v14::v15::v16::v17::v18::v19::v20::v21::v22::v23::v24::v25::v26::v27::v28::v29::v30::v31::v32::v33::[],_,w=>Y4 v00 v01 v02 v03 v04 v05 v06 v07 v08 v09 v10 v11 v12 v13 v14 v15 v16 v17 v18 v19 v20 v21 v22 v23 v24 v25 v26 v27 v28 v29 v30 v31 v32 v33 w
section
variable{K:World}{F:List aA}{A:Option Addr}{m cap:Nat}
theorem YQ{M:qE}(hs:Kq K F A m M.iI)(hm:m≤1000000):qd prog 141 #[.agg #[.i M.ver,.i M.sec,.i M.key,.i M.BU,.slice A m cap]] K F Gt (fun v H'=>M.ok=true∧v= .tuple #[]∧H'=F) (fun H'=>M.ok=false∧H'=F):=by
 have hlen:=hs.len;obtain⟨R,hR⟩:∃R,R=Sr 0 M.iI:=⟨_,rfl⟩;rw[qE.ok,hlen,←hR];refine aC.Er func141 rfl ntmps141 rfl ?_;simp only[lH,reduceAdd];refine aj "a&" fun b1=> ?_;refine aj "Tpppp" ?_;refine WL.buildSlice (E:=3) (cs:=[_,_,_,_]) (vs:=[(0,_),(1,_),(2,_),(3,_)]) ⟨ak rfl,ak rfl,ak rfl,ak rfl,trivial⟩ rfl (Ed _ _ _ _) rfl (fun b13=> ?_);refine WL.jJ (vs:=[_]) call195 ⟨ak rfl,trivial⟩ (H7 (xs:=[M.ver,M.sec,M.key,M.BU]) aK (Seq.all rfl)) rfl ?_ ?_
 ·rintro _ ⟨hb,rfl⟩;exact⟨rfl,rfl,F,fun w h=>h.aY 2 [] rfl,by rw[hb];rfl,rfl⟩
 rintro _ _ ⟨EX,rfl,rfl⟩;rw[EX];refine aj "Tpo~." ?_;refine WL.jJ (vs:=[_]) call138 ⟨ak rfl,trivial⟩ (qX _) rfl ?_ ?_
 ·rintro _ ⟨hb,rfl⟩;exact⟨rfl,rfl,F,fun w h=>h.aY 2 [] rfl,by rw[show decide (m≤8)=false by simp at hb ⊢;omega];rfl,rfl⟩
 rintro _ _ ⟨hb8,rfl,rfl⟩;rw[show decide (m≤8)=true by simp at hb8 ⊢;omega];refine aj "TxpoP" ?_;refine WC.loop (σ:=Nat×Int) (fun s=>[(2,.i s.2),(21,.slice A m cap),(22,.i (m:Int)),(23,.i (s.1:Int))]) (fun _=>F) (fun s=>s.1≤m∧Sr s.2 (M.iI.drop s.1)=R) (fun s=>m-s.1) (0,0) ⟨zero_le _,hR.symm⟩ bM (fun w h=>h.aY 2 [] rfl) ?_;rintro⟨i,e⟩ ⟨hi,hq⟩;dsimp only at hi hq ⊢;refine aj "UE" (aX (fun aN=> ?_) fun aN=> ?_)
 ·simp only[dh] at aN;have h0:=aN;obtain⟨s,ZM⟩:∃s,M.iI[i]? =some s:=⟨_,getElem?_eq_getElem ay⟩;have Vs:=hs.ok s (mem_of_getElem? ZM);have rQ:=wT.dS Vs;rw[show M.iI.drop i=s::M.iI.drop (i+1) from (List.getElem?_eq_some_iff.1 ZM).2 ▸ drop_eq_getElem_cons _,Sr] at hq;refine aj "Ha" ?_;refine WL.val (V.eD (v:= .i s.load) ajW (ak rfl) (ak rfl) (fun _=>by omega) (fun _=>by rw[Int.toNat_natCast];exact hs.rd ZM 0 _ rfl)) rfl ?_;rw[Int.toNat_natCast];refine WL.val (V.wH (vs:=s.cells) ⟨isAgg140,sizeOf140⟩ (ak rfl) rQ aK (fun _=>hs.rd ZM)) rfl ?_;refine aj "A" fun b4=> ?_;refine WL.store (cs:=s.cells) sizeOf140 (ak rfl) (ak rfl) rfl rQ (wT.one s) (dw.whole (by rw[rQ];rfl)) ?_;refine aj "Tpp" ?_;refine WL.buildSlice (E:=3) (cs:=[_,_]) (vs:=[(0,_),(1,_)]) ⟨ak rfl,ak rfl,trivial⟩ rfl (qC _ _) rfl (fun b31=> ?_);refine WL.jJ (vs:=[_]) call195 ⟨ak rfl,trivial⟩ (H7 (xs:=[s.load,s.bytes]) aK (Seq.all rfl)) rfl ?_ ?_
  ·rintro _ ⟨hb,rfl⟩;rw[hb] at hq;exact⟨rfl,rfl,F,fun w h=>h.aY 2 [] rfl,by rw[←hq];rfl,rfl⟩
  rintro _ _ ⟨alj,rfl,rfl⟩;rw[alj] at hq;have hbd:(0≤s.load∧s.load≤2147483647)∧0≤s.bytes∧s.bytes≤2147483647:=by simpa [DK] using alj
  refine aj "Tp~.c?=8" ?_;refine WL.bG (oj:=_) rfl rfl rfl GC.t (V.geq (OV.g rfl id) (OV.g rfl id)) rfl (aj "Vc?=?=" ?_);refine WL.bG (oj:=_) rfl rfl rfl GC.t (V.Ci (OV.g rfl id) (OV.g rfl id) Yc) rfl (aj "~VV" ?_);refine WL.jJ (vs:=[_]) call138 ⟨ak rfl,trivial⟩ (qX _) rfl ?_ ?_
  ·rintro _ ⟨hb,rfl⟩;rw[hb] at hq;exact⟨rfl,rfl,F,fun w h=>h.aY 2 [] rfl,by rw[←hq];rfl,rfl⟩
  rintro _ _ ⟨hb,rfl,rfl⟩;rw[hb] at hq;refine aj "bqpp.g6" ?_;exact⟨(i+1,s.load+s.bytes),⟨by show i+1≤m;omega,by rw[←hq];rfl⟩,(by show m-(i+1)<m-i;omega),.cons rfl bM,fun w h=>h.aY 2 [] rfl⟩
 ·simp only[dh] at aN;have h0:=aN;refine WC.exit ?_;exact⟨rfl,_,F,bI.none rfl,fun w h=>h,by rw[←hq,drop_of_length_le ay];rfl,rfl,rfl⟩
end
end Go.Proofs.YtcedojacbhnbiaaGreat
namespace Go.Sl
open Go Go.RowKit Go.Proofs.YtcedojacbhnbiaaGreat List Nat
section
variable{Mo:Mode}{P:Program}{K:World}{n:Nat}{Q:fG}{e:Env}{H:List aA}{ty:TypeId}{pos:String}{af:Array Edge}{ops:Array Oper}{rest:List Oper}
theorem WL.TU{d j dj:Nat}{want:Bool}{oj:Oper}{f:FuncId}{y:Operand}{first captured:List Value}{xs:List Operand}{vs:List Value}{ats:Array TypeId}{v gv:Value}{c:Bool}
 (hj:ops[j]? =some oj) (Gz:oj.dst=some dj) (hl:look e dj=some gv) (hG:GC gv want c) (hf:bT P f) (hy:OV c e y (.func (.func f) first.toArray captured.toArray)) (dP:Gh c e xs vs) (hF:c=true→aL P f (first++vs++captured).toArray K H v) (hd:blt d n=true)
 (h:WL Mo P K n ops rest Q ((d,cv c v)::e) H):WL Mo P K n ops (⟨some d,.call ⟨.value y,xs.toArray,ats⟩,ty,pos,af,some (j,want)⟩::rest) Q e H:=fun a w ha hw=>by
 have Ht:=Region.jy (o:=⟨some d,.call ⟨.value y,xs.toArray,ats⟩,ty,pos,af,some (j,want)⟩) rfl hj Gz hl ha hG;cases c with
 | false=>exact qB Ht (h _ w (ha.put d hd _) hw)
 | true =>
  refine vD Ht fun R hR=>D9 (uo hf (hy.ev rfl ha) (dP.ev ha rfl)) (((hF rfl).call hw).mono ?_);rintro _ w' ⟨rfl,h2⟩;exact⟨v,rfl,hR _ _ (h _ w' (ha.put d hd v) h2)⟩
end
end Go.Sl
namespace Go.Proofs.YtcedojacbhnbiaaGreat
open Go.Sl Go.RowKit Tryz List Nat
structure Ring(K:World)(F:List aA)(A:Option Addr)(m:Nat)(r:List Ky):Prop where
 seq:Seq K F A m 34 (r.flatMap Ky.cells)
 len:r.length=m
 ok:∀k∈r,k.Ok
 bd:m≤1000000
theorem Ring.up{K:World}{F:List aA}{A:Option Addr}{m:Nat}{r:List Ky}{C:aA}(h:Ring K F A m r):Ring K (C::F) A m r:=⟨h.seq.up,h.len,h.ok,h.bd⟩
theorem Ring.rd{K:World}{F:List aA}{A:Option Addr}{m:Nat}{r:List Ky}(h:Ring K F A m r){i:Nat}{k:Ky}(hk:r[i]? =some k):∀j v,k.cells[j]? =some v→Rd K F (A.map (·.add (i*34+j))) v:=fun j v hj =>
 h.seq.rd _ _ (xF r (fun x hx=>Ky.dS (h.ok x hx)) i j k v hk hj)
theorem Ky.adb{k:Ky}(h:k.Ok):k.cells[33]? =some (.bool k.rev):=by
 show (av .u8 k.bytes++[Value.bool k.rev])[32]? =_;rw[getElem?_append_right (by rw[au,h.len];exact Nat.le_refl _),au,h.len];rfl
theorem Ky.acR{k:Ky}(h:k.Ok):av .u8 k.bytes <+: k.cells.drop 1:=⟨[.bool k.rev],rfl⟩
theorem Ky.afb{k:Ky}{j:Nat}{v:Value}(hj:(av .u8 k.bytes)[j]? =some v):k.cells[1+j]? =some v:=by
 rw[Nat.add_comm];show (av .u8 k.bytes++[Value.bool k.rev])[j]? =some v;rw[getElem?_append_left (List.getElem?_eq_some_iff.1 hj).1,hj]
theorem Ky.one(k:Ky):k.cells.all (·.oneCell')=true:=by
 simp only[Ky.cells,all_cons,all_append,all_nil,gW,Bool.and_true];rfl
theorem NI:∀(r:List Ky) (l:Int),JN l r=true→∀k∈r,l<k.num∧k.num≤2147483647
 | [],_,_,k,hk=>by cases hk
 | k0::r,l,h,k,hk=>by
  simp only[JN,Bool.and_eq_true,Bool.not_eq_true',Bool.or_eq_false_iff,decide_eq_false_iff_not] at h;rcases mem_cons.1 hk with rfl | hk
  ·omega
  ·have :=NI r k0.num h.2 k hk;omega
theorem K8:∀(r:List Ky) (l:Int),JN l r=true→∀(i j:Nat) (k k':Ky),r[i]? =some k→r[j]? =some k'→i<j→k.num<k'.num
 | [],_,_,i,j,k,k',hk,_,_=>by simp at hk
 | k0::r,l,h,i,j,k,k',hk,yS,Xj=>by
  simp only[JN,Bool.and_eq_true,Bool.not_eq_true',Bool.or_eq_false_iff,decide_eq_false_iff_not] at h;obtain⟨j,rfl⟩:∃j',j=j'+1:=⟨j-1,by omega⟩;rw[getElem?_cons_succ] at yS
  match i with
  | 0 =>
   rw[getElem?_cons_zero,Option.some.injEq] at hk;subst hk;exact (NI r _ h.2 k' (mem_of_getElem? yS)).1
  | i+1=>exact K8 r _ h.2 i j k k' (by rwa [getElem?_cons_succ] at hk) yS ay
theorem YJ{r:List Ky}(h:kL r=true)(k:Ky)(hk:k∈r):0≤k.num∧k.num≤2147483647:=by
 unfold kL at h;simp only[Bool.and_eq_true] at h;have :=NI r _ h.1 k hk;omega
section
variable{K:World}{F:List aA}{A:Option Addr}{m cap:Nat}{ring:List Ky}
theorem QY(hr:Ring K F A m ring):aL prog 134 #[.slice A m cap] K F (.bool (kL ring)):=by
 have hlen:=hr.len;have hbd:=hr.bd;obtain⟨R,hR⟩:∃R,R=JN (-1) ring:=⟨_,rfl⟩;rw[kL,←hR,hlen];refine aC.en func134 ntmps134 ?_;refine aj "axfoP" ?_;refine WC.loop (σ:=Nat×Int) (fun s=>[(0,.slice A m cap),(3,.i s.2),(6,.slice A m cap),(7,.i (m:Int)),(8,.i (s.1:Int))]) (fun s=>F) (fun s=>s.1≤m∧JN s.2 (ring.drop s.1)=R) (fun s=>m-s.1) (0,-1) ⟨zero_le _,hR.symm⟩ bM cu ?_;rintro⟨i,last⟩ ⟨hi,hq⟩;dsimp only at hi hq ⊢;refine aj "UE" (aX (fun aN=> ?_) fun aN=> ?_)
 ·simp only[dh] at aN;have h0:=aN;obtain⟨k,hk⟩:∃k,ring[i]? =some k:=⟨_,getElem?_eq_getElem ay⟩;have Zq:=hr.ok k (mem_of_getElem? hk);have wR:=Ky.dS Zq;rw[show ring.drop i=k::ring.drop (i+1) from (List.getElem?_eq_some_iff.1 hk).2 ▸ drop_eq_getElem_cons _,JN] at hq;refine aj "Ha" ?_;refine WL.val (V.eD (v:= .i k.num) Yz (ak rfl) (ak rfl) (fun _=>by omega) (fun _=>by rw[Int.toNat_natCast];exact hr.rd hk 0 _ rfl)) rfl ?_;rw[Int.toNat_natCast];refine WL.val (V.wH (vs:=k.cells) ⟨isAgg99,sizeOf99⟩ (ak rfl) wR aK (fun _=>hr.rd hk)) rfl ?_;refine aj "A" fun b5=> ?_;refine WL.store (cs:=k.cells) sizeOf99 (ak rfl) (ak rfl) rfl wR (Ky.one k) (dw.whole (by rw[wR];rfl)) ?_;refine aj "Ba7" ?_;refine WL.val (V.load (v:= .i k.num) isAgg3 (ak rfl) (fun _=>Rd.here rfl)) rfl ?_;refine aj "c~.c~e" ?_;refine WL.bG (oj:=_) rfl rfl rfl GC.f (V.load (v:= .i k.num) isAgg3 (OV.g rfl id) (fun _=>Rd.here rfl)) rfl ?_;refine aj "~lJk" (aX (fun aR=> ?_) fun aR=> ?_)
  ·have h1:=aR;have KU:R=false:=by rw[←hq,show (decide (k.num≤last)||decide (2147483647<k.num))=true from by simpa using h1];rfl
   refine aj "I" ?_;exact qR F rfl rfl gy ⟨by rw[KU];rfl,rfl⟩
  ·have h1:=aR;have KU:JN k.num (ring.drop (i+1))=R:=by rw[←hq,show (decide (k.num≤last)||decide (2147483647<k.num))=false from by simpa using h1];rfl
   refine aj "iq7" ?_;refine WL.val (V.load (v:= .i k.num) isAgg3 (ak rfl) (fun _=>Rd.here rfl)) rfl ?_;refine aj "g6" ?_;exact⟨(i+1,k.num),⟨by show i+1≤m;omega,KU⟩,(by show m-(i+1)<m-i;omega),.cons rfl bM,fun w h=>h.tail⟩
 ·simp only[dh] at aN;have h0:=aN;refine aj "W" ?_;obtain rfl:i=m:=by omega
  rw[drop_of_length_le ay] at hq;rw[←hq];refine aj "ho~.d" ?_;exact qR F rfl rfl cu ⟨by simp[JN];omega,rfl⟩
theorem abJ{v:Value}{q x:Nat}{l:List Nat}(hq:q≤1000000):aC prog 135 #[v,.i (x:Int)] K (bq v 5 1 q (av .u8 l)::F) (fun u H'=>∃A' c' l',u= .slice A' (q+4) c'∧H'=bq (.slice A' (q+4) c') 5 1 (q+4) (av .u8 l')::F):=by
 refine aC.en func135 ntmps135 ?_;refine aj "a0" ?_;refine WL.val (V.I7 (i:=x) (M:=256) runUnderlying3 runUnderlying5 (ak rfl)) rfl (aP "c~~8~Sc~~9~Sc" ?_);refine WL.val (V.wO (j:=24) (ak rfl) (ak rfl)) rfl (aP "~S" ?_);refine WL.buildSlice (E:=5) (cs:=av .u8 [_,_,_,_]) (vs:=[(0,_),(1,_),(2,_),(3,_)]) ⟨ak rfl,ak rfl,ak rfl,ak rfl,trivial⟩ rfl (gK _ _ _ _) rfl (fun b17=> ?_);refine aP "|~X" fun A18 c18 arP ah8=> ?_;refine aj "d" ?_;exact qR (bq (.slice A18 (q+4) c18) 5 1 (q+4) (av .u8 _)::F) rfl rfl (fun w h=>h.aY 2 [0] rfl) ⟨A18,c18,_,rfl,rfl⟩
theorem Yt{A:Option Addr}{x:Nat}{l:List Nat}(hs:Seq K F A 4 1 (av .u8 l)):aC prog 135 #[.slice A 4 4,.i (x:Int)] K F (fun u H'=>∃A' c' l',u= .slice A' 8 c'∧H'=bq (.slice A' 8 c') 5 1 8 (av .u8 l')::F):=by
 refine aC.en func135 ntmps135 ?_;refine aj "a0" ?_;refine WL.val (V.I7 (i:=x) (M:=256) runUnderlying3 runUnderlying5 (ak rfl)) rfl (aP "c~~8~Sc~~9~Sc" ?_);refine WL.val (V.wO (j:=24) (ak rfl) (ak rfl)) rfl (aP "~S" ?_);refine WL.buildSlice (E:=5) (cs:=av .u8 [_,_,_,_]) (vs:=[(0,_),(1,_),(2,_),(3,_)]) ⟨ak rfl,ak rfl,ak rfl,ak rfl,trivial⟩ rfl (gK _ _ _ _) rfl (fun b17=> ?_);refine WL.WG (m:=4) (l:=l) (news:=[_,_,_,_]) underlying34 zo (ak rfl) (ak rfl) hs.up (Seq.all rfl) aK aK rfl rfl (fun A18 c18 ah8=> ?_);refine aj "d" ?_;exact qR (bq (.slice A18 8 c18) 5 1 8 (av .u8 _)::F) rfl rfl (fun w h=>h.aY 2 [0] rfl) ⟨A18,c18,_,rfl,rfl⟩
theorem UR(hr:Ring K F A m ring):aC prog 76 #[.slice A m cap] K F (fun v H'=>∃A' m' c' E,v= .tuple #[.slice A' m' c',.i (if kL ring then 0 else 1)]∧H'=E::F):=by
 have hlen:=hr.len;have hbd:=hr.bd;refine aC.en func76 ntmps76 ?_;refine aj "amf" ?_;refine WL.t1 call134 rfl (QY hr) rfl ?_;refine aj "*k" (aX (fun aN=> ?_) fun aN=> ?_)
 ·have h0:=aN;have KW:kL ring=false:=by simpa using h0
  refine aj "aD" ?_;exact aG.ret (H':=bN []::F) (bI.eY rfl rfl rfl) (fun w h=>Sat.all (l:=[]) h) ⟨none,0,0,_,by rw[KW];rfl,rfl⟩
 ·have h0:=aN;have KW:kL ring=true:=by simpa using h0
  have hm8:m≤8:=by
   have h1:=KW;unfold kL at h1;simp only[Bool.and_eq_true,decide_eq_true_eq] at h1;omega
  refine aj "ia" ?_;refine WL.buildSlice (E:=5) (cs:=av .u8 [_,_,_,_]) (vs:=[(0,_),(1,_),(2,_),(3,_)]) ⟨ak rfl,ak rfl,ak rfl,ak rfl,trivial⟩ rfl (gK _ _ _ _) rfl (fun b10=> ?_);refine aj "~~_co" ?_;refine WL.c2 call135 rfl rfl (Yt (l:=[114,105,110,103]) (x:=m) (Seq.akW rfl)) rfl ?_;rintro _ _ ⟨A14,c14,l14,rfl,rfl⟩;refine WL.sub (Sub.refl _) (fun w h=>h.aY 2 [0] rfl) ?_;refine aj "foP" ?_;refine WC.loop (σ:=Nat×Nat×Option Addr×Nat×List Nat) (fun s=>[(0,.slice A m cap),(4,.slice s.2.2.1 s.2.1 s.2.2.2.1),(15,.slice A m cap),(16,.i (m:Int)),(17,.i (s.1:Int))]) (fun s=>bq (.slice s.2.2.1 s.2.1 s.2.2.2.1) 5 1 s.2.1 (av .u8 s.2.2.2.2)::F) (fun s=>s.1≤m∧s.2.1≤8+37*s.1) (fun s=>m-s.1) (0,8,A14,c14,l14) ⟨zero_le _,Nat.le_refl _⟩ bM cu ?_;rintro⟨i,q,A4,c4,l4⟩ ⟨hi,hq⟩;dsimp only at hi hq ⊢;refine aP "a~fBE" (aX (fun aR=> ?_) fun aR=> ?_)
  ·simp only[dh] at aR;have h1:=aR;obtain⟨k,hk⟩:∃k,ring[i]? =some k:=⟨_,getElem?_eq_getElem ay⟩;have hkm:=mem_of_getElem? hk;have Zq:=hr.ok k hkm;have wR:=Ky.dS Zq;have hkn:=YJ KW k hkm;obtain⟨x,hx⟩:∃x:Nat,k.num=(x:Int):=⟨k.num.toNat,by omega⟩;refine aj "Ha" ?_;refine WL.val (V.eD (v:= .i k.num) Yz (ak rfl) (ak rfl) (fun _=>by omega) (fun _=>by rw[Int.toNat_natCast];exact (hr.rd hk 0 _ rfl).up)) rfl ?_;rw[Int.toNat_natCast];refine WL.val (V.wH (vs:=k.cells) ⟨isAgg99,sizeOf99⟩ (ak rfl) wR aK (fun _ i v hi=>(hr.rd hk i v hi).up)) rfl ?_;refine aj "A" fun b6=> ?_;refine WL.store (cs:=k.cells) sizeOf99 (ak rfl) (ak rfl) rfl wR (Ky.one k) (dw.whole (by rw[wR];rfl)) ?_;refine aj "be7" ?_;refine WL.val (V.load (v:= .i (x:Int)) isAgg3 (ak rfl) (fun _=>by rw[←hx];exact Rd.here rfl)) rfl ?_;refine aj "|" ?_;refine WL.c2 call135 rfl rfl (abJ (x:=x) ay) rfl ?_;rintro _ _ ⟨A24,c24,l24,rfl,rfl⟩;refine aj "j7" ?_;refine WL.val (V.aI (v':= .slice (some ⟨b6,1,none⟩) 32 32) (V.qQ (l:=0) (h:=32) (u:=32) (m:=32) zT (ak rfl) OO.none OO.none OO.none (by simp) aK aK aK) (fun _=>by simp)) rfl ?_;refine WL.GV (l:=l24) (news:=k.bytes) underlying34 zo (ak rfl) (ak rfl) (fun A28 c28 ar3 asE=> ?_) (Seq.here (m:=32) (s:=1) (by rw[au,Zq.len]) (Ky.acR Zq));refine aj "x7" ?_;refine WL.val (V.load (v:= .bool k.rev) isAgg4 (ak rfl) (fun _=>(Rd.here (Ky.adb Zq)).up)) rfl ?_;refine aj "k" (aX (fun bB=> ?_) fun bB=> ?_)
   ·try simp only[lX] at bB
    refine aj "h" ?_;refine WL.buildSlice (E:=5) (cs:=av .u8 [_]) (vs:=[(0,_)]) ⟨ak rfl,trivial⟩ rfl (jM _) rfl (fun b32=> ?_);refine aP "|~X" fun A33 c33 ard ar6=> ?_;refine aP "gq<;" ?_;exact⟨(i+1,_,_,_,_),⟨h1,by dsimp only;omega⟩,(by show m-(i+1)<m-i;omega),.cons rfl bM,fun w h=>h.aY 3 [0] rfl⟩
   ·try simp only[lX] at bB
    refine aj "h" ?_;refine WL.buildSlice (E:=5) (cs:=av .u8 [_]) (vs:=[(0,_)]) ⟨ak rfl,trivial⟩ rfl (jM _) rfl (fun b35=> ?_);refine aP "|~X" fun A36 c36 anc amS=> ?_;refine aP "gq<;" ?_;exact⟨(i+1,_,_,_,_),⟨h1,by dsimp only;omega⟩,(by show m-(i+1)<m-i;omega),.cons rfl bM,fun w h=>h.aY 3 [0] rfl⟩
  ·simp only[dh] at aR;have h1:=aR;refine aj "ReD" ?_;exact aG.ret (H':=bq _ 5 1 _ _::F) (bI.eY rfl rfl rfl) cu ⟨_,_,_,_,by rw[KW];rfl,rfl⟩
theorem Wi(k:Ky)(n:Int)(hk:k.Ok):aL prog 197 #[.agg k.cells.toArray,.i n] K F (.i (uy k.num n)):=by
 have wR:=Ky.dS hk;refine aC.en func197 ntmps197 ?_;refine WC.sr ?_;refine WL.box (cs:=k.cells) (ak rfl) rfl rfl (fun b2=> ?_);refine aj "x7" ?_;refine WL.val (V.load (v:= .i k.num) isAgg3 (ak rfl) (fun _=>Rd.here rfl)) rfl ?_;refine WL.mv rfl rfl (WL.t2 call167 rfl rfl (mI _ _) rfl ?_);exact aj "d$" trivial
def UK(r:List Ky)(n:Int)(i:Nat):Bool:=match r[i]? with | some k=>decide (k.num=n) | none=>false
theorem RS(n:Int)(hr:Ring K F A m ring)(hm:m≤8)(yQ:∀(i j:Nat) (k k':Ky),ring[i]? =some k→ring[j]? =some k'→i<j→k.num<k'.num) :
 aC prog 196 #[.slice A m cap,.i n,.func (.func 197) #[] #[]] K F (fun v H'=>H'=F∧∃i:Nat,v= .tuple #[.i (i:Int),.bool (UK ring n i)]∧(∀j k,j<i→ring[j]? =some k→k.num<n)∧(∀j k,i≤j→ring[j]? =some k→n≤k.num)):=by
 have hlen:=hr.len;have hbd:=hr.bd;refine aC.en func196 ntmps196 ?_;refine aj "amjojmtu" ?_;refine WC.loop (σ:=Nat×Nat) (fun s=>[(0,.slice A m cap),(1,.i n),(2,.func (.func 197) #[] #[]),(8,.i ((m:Nat):Int)),(9,.i ((s.1:Nat):Int)),(10,.i ((s.2:Nat):Int))]) (fun s=>F) (fun s=>s.1≤s.2∧s.2≤m∧(∀j k,j<s.1→ring[j]? =some k→k.num<n)∧(∀j k,s.2≤j→ring[j]? =some k→n≤k.num)) (fun s=>s.2-s.1) (0,m) ⟨zero_le _,Nat.le_refl _,fun j k hj=>absurd hj (not_lt_zero j),fun j k hj hk=>by rw[getElem?_eq_none (by dsimp only at hj;omega)] at hk;cases hk⟩ bM cu ?_;rintro⟨lo,hi⟩ ⟨hlh,hhm,GD,hhi⟩;dsimp only at hlh hhm GD hhi ⊢;refine aP "rc~fk" (aX (fun aN=> ?_) fun aN=> ?_)
 ·simp only[dh] at aN;have h0:=aN;have aoe:lo≤(lo+hi)/2^1∧(lo+hi)/2^1<hi:=by rw[show (2:Nat)^1=2 by rfl];omega
  obtain⟨md,hmd⟩:∃md,md=(lo+hi)/2^1:=⟨_,rfl⟩;rw[←hmd] at aoe;obtain⟨k,hk⟩:∃k,ring[md]? =some k:=⟨_,getElem?_eq_getElem ay⟩;have Zq:=hr.ok k (mem_of_getElem? hk);have wR:=Ky.dS Zq;refine aP "iuec~K" ?_;refine WL.val (V.rG (i:=lo+hi) runUnderlying3 runUnderlying232 (ak rfl) (fun _=>kV (M:=18446744073709551616) rfl rfl ay)) rfl ?_;refine aP "~~A" ?_;rw[←hmd];refine WL.val (V.rG (i:=md) runUnderlying232 runUnderlying3 (ak rfl) (fun _=>K9 ay)) rfl ?_;refine aj "jz" ?_;refine WL.val (V.eD (v:= .i k.num) Yz (ak rfl) (ak rfl) (fun _=>by omega) (fun _=>by rw[Int.toNat_natCast];exact (hr.rd hk 0 _ rfl))) rfl ?_;rw[Int.toNat_natCast];refine WL.val (V.wH (vs:=k.cells) ⟨isAgg99,sizeOf99⟩ (ak rfl) wR aK (fun _=>hr.rd hk)) rfl ?_;refine WL.mv rfl rfl (WL.nC (first:=[]) (vs:=[_,_]) (captured:=[]) call197 (ak rfl) ⟨ak rfl,ak rfl,trivial⟩ (Wi k n Zq) rfl ?_);rintro _ _ ⟨rfl,rfl⟩;refine aj "5k" (aX (fun aR=> ?_) fun aR=> ?_)
  ·simp only[dh] at aR;have h1:=aR;have KU:k.num<n:=by unfold uy at h1;split at h1;assumption;split at h1<;>omega
   refine aP "h<4" ?_;first
    | exact⟨(md+1,hi),⟨by show md+1≤hi;omega,hhm,fun j k' hj yS=>by
     dsimp only at hj;rcases Nat.lt_or_ge j md with h | h
     ·have :=yQ j md k' k yS hk h;omega
     ·obtain rfl:j=md:=by omega
      rw[hk] at yS;cases yS;exact KU,hhi⟩,(by show hi-(md+1)<hi-lo;omega),.cons rfl (.cons rfl (.cons rfl (.cons rfl (.cons rfl (.cons rfl (.nil _)))))),fun w h=>h⟩
    | exact⟨(lo,md),⟨by show lo≤md;omega,by show md≤m;omega,GD,fun j k' hj yS=>by
     dsimp only at hj;rcases Nat.lt_or_ge md j with h | h
     ·have :=yQ md j k k' hk yS h;omega
     ·obtain rfl:j=md:=by omega
      rw[hk] at yS;cases yS;exact KU⟩,(by show md-lo<hi-lo;omega),.cons rfl (.cons rfl (.cons rfl (.cons rfl (.cons rfl (.cons rfl (.nil _)))))),fun w h=>h⟩
  ·simp only[dh] at aR;have h1:=aR;have KU:n≤k.num:=by unfold uy at h1;split at h1;omega;omega
   refine aj "h4" ?_;first
    | exact⟨(md+1,hi),⟨by show md+1≤hi;omega,hhm,fun j k' hj yS=>by
     dsimp only at hj;rcases Nat.lt_or_ge j md with h | h
     ·have :=yQ j md k' k yS hk h;omega
     ·obtain rfl:j=md:=by omega
      rw[hk] at yS;cases yS;exact KU,hhi⟩,(by show hi-(md+1)<hi-lo;omega),.cons rfl (.cons rfl (.cons rfl (.cons rfl (.cons rfl (.cons rfl (.nil _)))))),fun w h=>h⟩
    | exact⟨(lo,md),⟨by show lo≤md;omega,by show md≤m;omega,GD,fun j k' hj yS=>by
     dsimp only at hj;rcases Nat.lt_or_ge md j with h | h
     ·have :=yQ md j k k' hk yS h;omega
     ·obtain rfl:j=md:=by omega
      rw[hk] at yS;cases yS;exact KU⟩,(by show md-lo<hi-lo;omega),.cons rfl (.cons rfl (.cons rfl (.cons rfl (.cons rfl (.cons rfl (.nil _)))))),fun w h=>h⟩
 ·simp only[dh] at aN;have h0:=aN;refine aj "W" ?_;obtain rfl:lo=hi:=by omega
  obtain⟨k,hk,wR⟩:∃k:Ky,(lo<m→ring[lo]? =some k)∧k.cells.length=34:=by
   rcases Nat.lt_or_ge lo m with h | h
   ·exact⟨ring[lo]'ay,fun _=>getElem?_eq_getElem ay,Ky.dS (hr.ok _ (getElem_mem _))⟩
   ·exact⟨⟨0,replicate 32 0,false⟩,fun h'=>by omega,by simp[Ky.cells,au]⟩
  have tT:UK ring n lo=(decide (lo<m)&&decide (uy k.num n=0)):=by
   unfold UK;rcases Nat.lt_or_ge lo m with h | h
   ·rw[hk h];dsimp only;rw[decide_eq_true h,Bool.true_and];congr 1;unfold uy;apply propext;constructor
    ·intro e;rw[if_neg ay,if_neg ay]
    ·intro e;split at e;cases e;split at e;cases e;omega
   ·rw[getElem?_eq_none ay,decide_eq_false ay];rfl
  refine aP "hz~fc888" ?_;refine WL.bG (oj:=_) rfl rfl rfl GC.t (V.eD (v:= .i k.num) Yz (OV.g rfl id) (OV.g rfl id) (fun hc=>by simp at hc;omega) (fun hc=>by rw[Int.toNat_natCast];exact (hr.rd (hk (by simp at hc;omega)) 0 _ rfl))) rfl ?_;refine WL.bG (oj:=_) rfl rfl rfl GC.t (V.wH (vs:=k.cells) (k:=lo*34) ⟨isAgg99,sizeOf99⟩ (OV.g rfl id) wR aK (fun hc=>hr.rd (hk (by simp at hc;omega)))) rfl ?_;refine aj "8" ?_;refine WL.TU (oj:=_) (first:=[]) (vs:=[_,_]) (captured:=[]) rfl rfl rfl GC.t call197 (OV.g rfl id) ⟨OV.g rfl id,OV.g rfl id,trivial⟩ (fun hc=>Wi k n (hr.ok k (mem_of_getElem? (hk (by simp at hc;omega))))) rfl ?_;refine aj "~EVD" ?_;exact aG.ret (H':=F) (bI.eY rfl rfl rfl) cu ⟨rfl,lo,by
   rw[tT],GD,hhi⟩
theorem aem(r:List Ky)(n:Int)(i:Nat)(yQ:∀(i j:Nat) (k k':Ky),r[i]? =some k→r[j]? =some k'→i<j→k.num<k'.num)(h1:∀(j:Nat) (k:Ky),j<i→r[j]? =some k→k.num<n)(h2:∀(j:Nat) (k:Ky),i≤j→r[j]? =some k→n≤k.num) :
 (UK r n i=true→r[i]? =findF r n∧(findF r n).isSome=true)∧(UK r n i=false→findF r n=none):=by
 have key:∀k,findF r n=some k→∃j,r[j]? =some k∧k.num=n:=fun k hk=>by
  unfold findF at hk;obtain⟨j,hj⟩:=getElem?_of_mem (mem_of_find?_eq_some hk);exact⟨j,hj,by simpa using find?_some hk⟩
 have none_:findF r n=none→∀(j:Nat) (k:Ky),r[j]? =some k→k.num≠n:=fun hk j k hj=>by
  unfold findF at hk;have :=find?_eq_none.1 hk k (mem_of_getElem? hj)
  simpa using this
 constructor
 ·intro h;unfold UK at h;cases hi:r[i]? with
  | none=>rw[hi] at h;cases h
  | some k =>
   rw[hi] at h;have hkn:k.num=n:=by simpa using h
   cases hf:findF r n with
   | none=>exact absurd hkn (none_ hf i k hi)
   | some k' =>
    obtain⟨j,hj,Gy⟩:=key k' hf;rcases Nat.lt_trichotomy i j with h3 | rfl | h3
    ·have :=yQ i j k k' hi hj h3;omega
    ·rw[hi] at hj;exact⟨hj,rfl⟩
    ·have :=yQ j i k' k hj hi h3;omega
 ·intro h;unfold UK at h;cases hf:findF r n with
  | none=>rfl
  | some k' =>
   obtain⟨j,hj,Gy⟩:=key k' hf;exfalso;rcases Nat.lt_or_ge j i with h3 | h3
   ·have :=h1 j k' h3 hj;omega
   ·rcases Nat.eq_or_lt_of_le h3 with rfl | h4
    ·rw[hj] at h;simp[Gy] at h
    ·cases hi:r[i]? with
     | none=>rw[List.getElem?_eq_none_iff] at hi;have :=(List.getElem?_eq_some_iff.1 hj).1;omega
     | some k =>
      have h5:=yQ i j k k' hi hj h4;have h6:=h2 i k (Nat.le_refl _) hi;omega
def rC(r:List Ky)(n:Int):Int:=if kL r then (if (findF r n).isSome then 0 else 190) else 1
theorem UD(n:Int)(hr:Ring K F A m ring):aC prog 142 #[.slice A m cap,.i n] K F (fun v H'=>H'=F∧∃i:Nat,v= .tuple #[.i (i:Int),.i (rC ring n)]∧(rC ring n=0→ring[i]? =findF ring n∧(findF ring n).isSome=true)):=by
 have hlen:=hr.len;refine aC.en func142 ntmps142 ?_;refine aj "amf" ?_;refine WL.t1 call134 rfl (QY hr) rfl ?_;refine aj "*k" (aX (fun aN=> ?_) fun aN=> ?_)
 ·skip
  have h0:=aN;have KW:kL ring=false:=by simpa using h0
  refine aj "aD" ?_;exact aG.ret (H':=F) (bI.eY rfl rfl rfl) cu ⟨rfl,0,by unfold rC;rw[if_neg (by rw[KW];decide)];rfl,fun h=>by unfold rC at h;rw[if_neg (by rw[KW];decide)] at h;cases h⟩
 ·skip
  have h0:=aN;have KW:kL ring=true:=by simpa using h0
  have J5:=KW;unfold kL at J5;simp only[Bool.and_eq_true,decide_eq_true_eq] at J5;have yQ:=K8 _ _ J5.1;refine aj "Zc" ?_;refine WL.c3 call196 rfl rfl rfl (RS n hr ay yQ) rfl ?_;rintro _ H0 ⟨hH,i,rfl,yR,rJ⟩;subst H0;have hfa:=aem ring n i yQ yR rJ;refine aj "Cf*k" (aX (fun aR=> ?_) fun aR=> ?_)
  ·skip
   have h1:=aR;have KU:=hfa.2 (by simpa using h1);refine aj "aD" ?_;exact aG.ret (H':=F) (bI.eY rfl rfl rfl) cu ⟨rfl,0,by unfold rC;rw[if_pos KW,KU];rfl,fun h=>by unfold rC at h;rw[if_pos KW,KU] at h;cases h⟩
  ·skip
   have h1:=aR;have KU:=hfa.1 (by simpa using h1);refine aj "ZD" ?_;exact aG.ret (H':=F) (bI.eY rfl rfl rfl) cu ⟨rfl,i,by unfold rC;rw[if_pos KW,if_pos KU.2],fun _=>KU⟩
theorem XE(n:Int)(hr:Ring K F A m ring):aL prog 82 #[.slice A m cap,.i n] K F (.tuple #[.agg (av .u8 (uO ring n).1).toArray,.i (uO ring n).2]):=by
 have hlen:=hr.len;have hbd:=hr.bd;refine aC.en func82 ntmps82 ?_;refine aP "aw" fun b4=> ?_;refine aj "0" ?_;refine WL.c2 call142 rfl rfl (UD n hr.up) rfl ?_;rintro _ H0 ⟨hH,i,rfl,hp⟩;subst H0;refine aj "CtuesgE" (aX (fun aN=> ?_) fun aN=> ?_)
 ·simp only[oD] at aN;have h0:=aN;refine WC.sr (WL.val (V.l7 (k:= .u8) (l:=replicate 32 0) (vs:=[]) trivial rfl (RL )) rfl (aP "cvd" ?_));exact aG.ret (H':=F) (bI.two rfl (R1.cO (l:=replicate 32 0) rfl ⟨isAgg97,sizeOf97⟩) (R1.tmp rfl)) gy ⟨by
   have :uO ring n=(replicate 32 0,rC ring n):=by
    unfold uO rC at *
    split
    ·rename_i h1;rw[if_pos h1] at h0;split
     ·rename_i k hk;rw[hk] at h0;exact absurd rfl h0
     ·rename_i hk;rw[hk];rfl
    ·rfl
   rw[this],rfl⟩
 ·simp only[oD] at aN;have h0:=aN;have KW:rC ring n=0:=ay;obtain⟨SH,Pt⟩:=hp KW;obtain⟨k,hk⟩:=Option.isSome_iff_exists.1 Pt;rw[hk] at SH;have Zq:=hr.ok k (mem_of_getElem? SH);have wR:=Zq.len;have him:i<m:=by have :=(List.getElem?_eq_some_iff.1 SH).1;omega
  have oK:kL ring=true:=by unfold rC at KW;split at KW;assumption;cases KW
  have hkf:uO ring n=if k.rev then (replicate 32 0,190) else (k.bytes,0):=by unfold uO;rw[if_pos oK,hk]
  rw[hkf];refine aj "ec" ?_;refine WL.val (V.eD (v:= .i k.num) Yz (ak rfl) (ak rfl) (fun _=>by omega) (fun _=>by rw[Int.toNat_natCast];exact (hr.rd SH 0 _ rfl).up)) rfl ?_;rw[Int.toNat_natCast];refine WL.val (V.Tq (k':=i*34) (v:= .i k.num) abp (ak rfl) (fun _=>(hr.rd SH 0 _ rfl).up)) rfl ?_;refine WL.val (V.load (v:= .bool k.rev) isAgg4 (ak rfl) (fun _=>(hr.rd SH 33 _ (Ky.adb Zq)).up)) rfl ?_;refine aj "gE" (aX (fun aR=> ?_) fun aR=> ?_)
  ·skip
   have h1:=aR;rw[h1];refine WC.sr (WL.val (V.l7 (k:= .u8) (l:=replicate 32 0) (vs:=[]) trivial rfl (RL )) rfl (aP "vd" ?_));exact aG.ret (H':=F) (bI.two rfl (R1.cO (l:=replicate 32 0) rfl ⟨isAgg97,sizeOf97⟩) (R1.tmp rfl)) gy ⟨rfl,rfl⟩
  ·skip
   have h1:=aR;rw[h1];refine aj "Zc" ?_;refine WL.val (V.eD (v:= .i k.num) Yz (ak rfl) (ak rfl) (fun _=>by omega) (fun _=>by rw[Int.toNat_natCast];exact (hr.rd SH 0 _ rfl).up)) rfl ?_;rw[Int.toNat_natCast];refine WL.val (V.Tq (k':=i*34) (v:= .i k.num) acF (ak rfl) (fun _=>(hr.rd SH 0 _ rfl).up)) rfl ?_;refine WL.val (V.wH (vs:=av .u8 k.bytes) ⟨isAgg97,sizeOf97⟩ (ak rfl) (by rw[au,Zq.len]) aK (fun _ j v hj=>by rw[Nat.add_assoc];exact (hr.rd SH _ _ (Ky.afb hj)).up)) rfl ?_;refine aP "vd" ?_;exact aG.ret (H':=F) (bI.two rfl (R1.cO (l:=k.bytes) rfl ⟨isAgg97,sizeOf97⟩) (R1.tmp rfl)) gy ⟨rfl,rfl⟩
end
theorem sH{s:Nat}{α:Type}{f:α→List Value}:∀(l:List α) (hf:∀x∈l,(f x).length=s),(l.flatMap f).length=l.length*s
 | [],_=>by simp
 | y::l,hf=>by rw[flatMap_cons,length_append,hf y (.head _),sH l (fun z hz=>hf z (.tail _ hz)),length_cons,succ_mul,Nat.add_comm]
theorem acw{l:List Nat}(h8:aB 256 l):((strOfNums (bF l)).toList==(⟨#[109,97,110,105]⟩:ByteArray).toList)=decide (l=[109,97,110,105]):=by
 have h2:aB 256 [109,97,110,105]:=by unfold aB;decide
 rw[show (⟨#[109,97,110,105]⟩:ByteArray)=strOfNums (bF [109,97,110,105]) from rfl,OW (kR h8) (kR h2)];apply decide_eq_decide.2;constructor
 ·intro h;have :=congrArg (List.map Int.toNat) h
  simpa [bF,map_map,Function.comp_def] using this
 ·intro h;rw[h]
theorem aB.Li{l:List Nat}(h:aB 256 l):aB 256 (l.drop 4):=fun x hx=>h x (mem_of_mem_drop hx)
abbrev qE.cells(M:qE)(A:Option Addr)(c:Nat):List Value:=[.i M.ver,.i M.sec,.i M.key,.i M.BU,.slice A M.iI.length c]
section
variable{K:World}{F:List aA}{A:Option Addr}{m c:Nat}
theorem V3{bb bm:Nat}{b:List Nat}(hs:Seq K F A m 1 (av .u8 b))(h8:aB 256 b)(hc:m≤c)(C:aA) :
 qd prog 137 #[ptr bb 0,ptr bm 0] K (C::ah bb 34 [.slice A m c]::ah bm 42 [.i 0,.i 0,.i 0,.i 0,.slice none 0 0]::F) Gt
  (fun v H'=>∃H2,H'=C::H2∧∃M A' c' E,je b=some M∧(∀H,Kq K (E::H) A' M.iI.length M.iI)∧H2=ah bm 42 (M.cells A' c')::E::F)
  (fun H'=>∃H2,H'=C::H2∧je b=none∧H2=F):=by
 have hlen:b.length=m:=by have :=hs.len;rwa [au,Nat.mul_one] at this
 have MP:m<24→je b=none:=fun h=>by unfold je;rw[if_pos (.inl ay)]
 refine aC.Er func137 rfl ntmps137 rfl ?_;simp only[lH,reduceAdd];refine WC.sr ?_;refine WL.val (V.load (v:= .slice A m c) isAgg34 (ak rfl) (fun _=>(Rd.here rfl).up)) rfl ?_;refine WL.val (V.build (vs:=[(0,_)]) ⟨ak rfl,trivial⟩ rfl (acp _ _ _)) rfl ?_;refine aj "~h" fun b9=> ?_;refine aj "j" ?_;refine WL.jJ (vs:=[_,_]) call139 ⟨ak rfl,ak rfl,trivial⟩ (iU (n:=4) hc) rfl ?_ ?_
 ·rintro _ ⟨hb,rfl⟩;exact⟨rfl,rfl,C::F,fun w h=>h.aY 3 [0] rfl,F,rfl,MP ay,rfl⟩
 rintro _ _ ⟨h4,rfl,rfl⟩;have ht:=hs.take h4;rw[dR] at ht;have tQ:=Seq.PY hs h4 hc;have Cc:m-4≤c-4:=Nat.sub_le_sub_right hc 4;have p8:aB 256 (b.drop 4):=fun x hx=>h8 x (mem_of_mem_drop hx);refine WL.val (V.ug (xs:=bF (b.take 4)) underlying34 underlying5 underlying9 (ak rfl) (fun _=>by rw[←mO];exact ht.up.up.up.up)) rfl ?_;refine WL.val (V.aji (ak rfl) (ak rfl)) rfl ?_;rw[acw (fun x hx=>h8 x (mem_of_mem_take hx))];refine WL.jJ (vs:=[_]) call138 ⟨ak rfl,trivial⟩ (qX _) rfl ?_ ?_
 ·rintro _ ⟨hb,rfl⟩;exact⟨rfl,rfl,C::F,fun w h=>h.aY 4 [1] rfl,F,rfl,by unfold je;rw[if_pos (.inr (.inl (by simpa using hb)))],rfl⟩
 rintro _ _ ⟨anB,rfl,rfl⟩;refine aj "Ba7777" ?_;refine WL.buildSlice (E:=214) (cs:=[_,_,_,_]) (vs:=[(0,_),(1,_),(2,_),(3,_)]) ⟨ak rfl,ak rfl,ak rfl,ak rfl,trivial⟩ rfl (Ez _ _ _ _) rfl (fun b19=> ?_);refine aj "o~~lP" ?_;refine WC.rounds 5 (aj "U2Ha~z^gQ" ?_);refine WL.jJ (vs:=[_]) call140 ⟨ak rfl,trivial⟩ (iY tQ.up.up.up.up p8 Cc) rfl ?_ ?_
 ·rintro _ ⟨hb,rfl⟩;exact⟨rfl,rfl,C::F,fun w h=>h.aY 4 [1] rfl,F,rfl,MP ay,rfl⟩
 rintro _ _ ⟨h4,rfl,rfl⟩;replace tQ:=Seq.PY tQ h4 Cc;replace Cc:=Nat.sub_le_sub_right Cc 4;simp only[drop_drop,reduceAdd] at tQ;replace p8:=aB.Li p8;simp only[drop_drop,reduceAdd] at p8;refine aj ",~jbq~F~qU2Ha~z^gQ" ?_;refine WL.jJ (vs:=[_]) call140 ⟨ak rfl,trivial⟩ (iY tQ.up.up.up.up p8 Cc) rfl ?_ ?_
 ·rintro _ ⟨hb,rfl⟩;exact⟨rfl,rfl,C::F,fun w h=>h.aY 4 [1] rfl,F,rfl,MP ay,rfl⟩
 rintro _ _ ⟨h4,rfl,rfl⟩;replace tQ:=Seq.PY tQ h4 Cc;replace Cc:=Nat.sub_le_sub_right Cc 4;simp only[drop_drop,reduceAdd] at tQ;replace p8:=aB.Li p8;simp only[drop_drop,reduceAdd] at p8;refine aj ",~jbq~p~qU2Ha~z^gQ" ?_;refine WL.jJ (vs:=[_]) call140 ⟨ak rfl,trivial⟩ (iY tQ.up.up.up.up p8 Cc) rfl ?_ ?_
 ·rintro _ ⟨hb,rfl⟩;exact⟨rfl,rfl,C::F,fun w h=>h.aY 4 [1] rfl,F,rfl,MP ay,rfl⟩
 rintro _ _ ⟨h4,rfl,rfl⟩;replace tQ:=Seq.PY tQ h4 Cc;replace Cc:=Nat.sub_le_sub_right Cc 4;simp only[drop_drop,reduceAdd] at tQ;replace p8:=aB.Li p8;simp only[drop_drop,reduceAdd] at p8;refine aj ",~jbq" ?_;refine WL.val (V.aI (v':= .i (3)) (V.add (ak rfl) (ak rfl)) (fun _=>rfl)) rfl ?_;refine aj "~qU2Ha~z^gQ" ?_;refine WL.jJ (vs:=[_]) call140 ⟨ak rfl,trivial⟩ (iY tQ.up.up.up.up p8 Cc) rfl ?_ ?_
 ·rintro _ ⟨hb,rfl⟩;exact⟨rfl,rfl,C::F,fun w h=>h.aY 4 [1] rfl,F,rfl,MP ay,rfl⟩
 rintro _ _ ⟨h4,rfl,rfl⟩;replace tQ:=Seq.PY tQ h4 Cc;replace Cc:=Nat.sub_le_sub_right Cc 4;simp only[drop_drop,reduceAdd] at tQ;replace p8:=aB.Li p8;simp only[drop_drop,reduceAdd] at p8;refine aj ",~jbq" ?_;refine WL.val (V.aI (v':= .i (4)) (V.add (ak rfl) (ak rfl)) (fun _=>rfl)) rfl ?_;refine aj "~qUORe" ?_;refine WL.jJ (vs:=[_]) call140 ⟨ak rfl,trivial⟩ (iY tQ.up.up.up.up p8 Cc) rfl ?_ ?_
 ·rintro _ ⟨hb,rfl⟩;exact⟨rfl,rfl,C::F,fun w h=>h.aY 4 [1] rfl,F,rfl,MP ay,rfl⟩
 rintro _ _ ⟨h4,rfl,rfl⟩;replace tQ:=Seq.PY tQ h4 Cc;replace Cc:=Nat.sub_le_sub_right Cc 4;simp only[drop_drop,reduceAdd] at tQ;replace p8:=aB.Li p8;simp only[drop_drop,reduceAdd] at p8;obtain⟨n,hn⟩:∃n,n=sW (b.drop 20):=⟨_,rfl⟩;rw[←hn];refine aj "j~." ?_;refine WL.jJ (vs:=[_]) call138 ⟨ak rfl,trivial⟩ (qX _) rfl ?_ ?_
 ·rintro _ ⟨hb,rfl⟩;exact⟨rfl,rfl,C::F,fun w h=>h.aY 5 [2] rfl,F,rfl,by unfold je;rw[if_pos (.inr (.inr (by simp at hb;omega)))],rfl⟩
 rintro _ _ ⟨hn8,rfl,rfl⟩;have arz:n≤8:=by simp at hn8;omega
 obtain⟨X,hX⟩:∃X,X=Fj n (b.drop 24):=⟨_,rfl⟩;have hmX:je b=VF b X:=by
  unfold je;rw[if_neg (by rintro (h | h | h);omega;exact h (by simpa using anB);omega),←hn,hX]
 have hXn:X=none→je b=none:=fun h=>by rw[hmX,h];rfl
 refine aj "brP" ?_;refine WC.loop (σ:=Nat×(Option Addr×Nat×Nat)×List Nat×List wT×(Option Addr×Nat)) (fun s=>[(1,ptr bm 0),(2,ptr b9 0),(35,.i (n:Int)),(36,.i (s.1:Int))])
  (fun s=>ah b9 212 [.slice s.2.1.1 s.2.1.2.1 s.2.1.2.2]::C::ah bm 42 [.i ((sW (b.drop 4):Nat):Int),.i ((sW (b.drop 8):Nat):Int),.i ((sW (b.drop 12):Nat):Int),.i ((sW (b.drop 16):Nat):Int),.slice s.2.2.2.2.1 s.1 s.2.2.2.2.2]::bq (.slice s.2.2.2.2.1 s.1 s.2.2.2.2.2) 140 34 s.1 (s.2.2.2.1.flatMap wT.cells)::F)
  (fun s=>s.1≤n∧Sl.Seq K F s.2.1.1 s.2.1.2.1 1 (av .u8 s.2.2.1)∧s.2.1.2.1≤s.2.1.2.2∧s.2.2.2.1.length=s.1∧(∀x∈s.2.2.2.1,x.Ok)∧aB 256 s.2.2.1∧X=(Fj (n-s.1) s.2.2.1).map (fun p=>(s.2.2.2.1++p.1,p.2))) (fun s=>n-s.1)
  (0,(_,_,_),b.drop 24,[],(none,0)) ⟨zero_le _,tQ,Cc,rfl,fun x hx=>by (cases hx),p8,by dsimp only;rw[hX,Nat.sub_zero];cases Fj n (b.drop 24)<;>rfl⟩ bM (fun w h=>((h.aY 5 [0,2,4] rfl).iG 140 34).aY 4 [1,2,3,0] rfl) ?_
 rintro⟨i,⟨Ar,mr,cr⟩,rest,acc,⟨As,ca⟩⟩ ⟨hi,WX,Ka,hal,hao,wV,Jo⟩;dsimp only at hi WX Ka hal hao wV Jo ⊢;have nW:rest.length=mr:=by have :=WX.len;rwa [au,Nat.mul_one] at this
 refine aj "UE" (aX (fun aR=> ?_) fun aR=> ?_)
 ·simp only[dh] at aR;have h1:=aR;rw[show n-i=n-(i+1)+1 by omega,Fj] at Jo;have h40:mr<40→je b=none:=fun h=>hXn (by rw[Jo,if_pos ay];rfl);refine aj "HaA" fun b6=> ?_;refine aj "be~~l" ?_;refine WL.jJ (vs:=[_]) call140 ⟨ak rfl,trivial⟩ (iY WX.up.up.up.up wV Ka) rfl ?_ ?_
  ·rintro _ ⟨hb,rfl⟩;exact⟨rfl,rfl,C::F,fun w h=>h.aY 4 [1] rfl,F,rfl,h40 ay,rfl⟩
  rintro _ _ ⟨h4,rfl,rfl⟩;have DX:=Seq.PY WX h4 Ka;refine WL.mv rfl rfl ?_;refine WL.jJ (vs:=[_]) call140 ⟨ak rfl,trivial⟩ (iY DX.up.up.up.up (aB.Li wV) (Nat.sub_le_sub_right Ka 4)) rfl ?_ ?_
  ·rintro _ ⟨hb,rfl⟩;exact⟨rfl,rfl,C::F,fun w h=>h.aY 4 [1] rfl,F,rfl,h40 ay,rfl⟩
  rintro _ _ ⟨h4',rfl,rfl⟩;have ET:=Seq.PY DX h4' (Nat.sub_le_sub_right Ka 4);rw[drop_drop] at ET;refine aj "7" ?_;refine WL.store (cs:=[_]) sizeOf3 (ak rfl) (ak rfl) rfl rfl rfl (by repeat (first | exact dw.here (cs':=[_,_,_,_,_,_,_,_,_,_,_,_,_,_,_,_,_,_,_,_,_,_,_,_,_,_,_,_,_,_,_,_,_,_]) rfl rfl | apply dw.up)) ?_;refine aj "7~jB" ?_;have N8:mr-4-4≤cr-4-4:=Nat.sub_le_sub_right (Nat.sub_le_sub_right Ka 4) 4;rcases Nat.lt_or_ge (mr-4-4) 32 with h32 | h32
  ·refine WC.NS (by kernel_rfl) ?_;refine WA.two (i:=0) (j:=2) cu (by kernel_rfl) rfl rfl ?_ ?_
   ·refine WL.val (V.fieldAddr G9 (ak rfl)) rfl (WL.nil ?_);refine WA.two (i:=1) (j:=2) cu (by kernel_rfl) rfl rfl ?_ ?_
    ·refine WL.val (V.aI (v':= .slice (some ⟨b6,2,none⟩) 32 32) (V.qQ (l:=0) (h:=32) (u:=32) (m:=32) zT (ak rfl) OO.none OO.none OO.none (by simp) aK aK aK) (fun _=>by simp)) rfl (WL.nil ?_);refine WA.o 2 rfl ?_;refine WL.mv rfl rfl (WL.nil ?_);refine WA.o 3 rfl ?_;exact WL.jJ (vs:=[_,_]) call139 ⟨ak rfl,ak rfl,trivial⟩ (iU (n:=32) N8) rfl (fun H' hp=>by obtain⟨_,rfl⟩:=hp;exact⟨rfl,rfl,C::F,fun w h=>h.aY 4 [1] rfl,F,rfl,h40 ay,rfl⟩) (fun v H' hp=>absurd hp.1 ay)
    ·refine WL.mv rfl rfl (WL.nil ?_);refine WA.two (i:=1) (j:=3) cu (by kernel_rfl) rfl rfl ?_ ?_
     ·refine WL.val (V.aI (v':= .slice (some ⟨b6,2,none⟩) 32 32) (V.qQ (l:=0) (h:=32) (u:=32) (m:=32) zT (ak rfl) OO.none OO.none OO.none (by simp) aK aK aK) (fun _=>by simp)) rfl (WL.nil ?_);refine WA.o 3 rfl ?_;exact WL.jJ (vs:=[_,_]) call139 ⟨ak rfl,ak rfl,trivial⟩ (iU (n:=32) N8) rfl (fun H' hp=>by obtain⟨_,rfl⟩:=hp;exact⟨rfl,rfl,C::F,fun w h=>h.aY 4 [1] rfl,F,rfl,h40 ay,rfl⟩) (fun v H' hp=>absurd hp.1 ay)
     ·exact WL.jJ (vs:=[_,_]) call139 ⟨ak rfl,ak rfl,trivial⟩ (iU (n:=32) N8) rfl (fun H' hp=>by obtain⟨_,rfl⟩:=hp;exact⟨rfl,rfl,C::F,fun w h=>h.aY 4 [1] rfl,F,rfl,h40 ay,rfl⟩) (fun v H' hp=>absurd hp.1 ay)
   ·refine WL.mv rfl rfl (WL.nil ?_);refine WA.two (i:=0) (j:=3) cu (by kernel_rfl) rfl rfl ?_ ?_
    ·refine WL.val (V.fieldAddr G9 (ak rfl)) rfl (WL.nil ?_);refine WA.two (i:=1) (j:=3) cu (by kernel_rfl) rfl rfl ?_ ?_
     ·refine WL.val (V.aI (v':= .slice (some ⟨b6,2,none⟩) 32 32) (V.qQ (l:=0) (h:=32) (u:=32) (m:=32) zT (ak rfl) OO.none OO.none OO.none (by simp) aK aK aK) (fun _=>by simp)) rfl (WL.nil ?_);refine WA.o 3 rfl ?_;exact WL.jJ (vs:=[_,_]) call139 ⟨ak rfl,ak rfl,trivial⟩ (iU (n:=32) N8) rfl (fun H' hp=>by obtain⟨_,rfl⟩:=hp;exact⟨rfl,rfl,C::F,fun w h=>h.aY 4 [1] rfl,F,rfl,h40 ay,rfl⟩) (fun v H' hp=>absurd hp.1 ay)
     ·exact WL.jJ (vs:=[_,_]) call139 ⟨ak rfl,ak rfl,trivial⟩ (iU (n:=32) N8) rfl (fun H' hp=>by obtain⟨_,rfl⟩:=hp;exact⟨rfl,rfl,C::F,fun w h=>h.aY 4 [1] rfl,F,rfl,h40 ay,rfl⟩) (fun v H' hp=>absurd hp.1 ay)
    ·exact WL.jJ (vs:=[_,_]) call139 ⟨ak rfl,ak rfl,trivial⟩ (iU (n:=32) N8) rfl (fun H' hp=>by obtain⟨_,rfl⟩:=hp;exact⟨rfl,rfl,C::F,fun w h=>h.aY 4 [1] rfl,F,rfl,h40 ay,rfl⟩) (fun v H' hp=>absurd hp.1 ay)
  refine WC.noP ?_;refine WC.fE (C::ah bm 42 [.i ((sW (b.drop 4):Nat):Int),.i ((sW (b.drop 8):Nat):Int),.i ((sW (b.drop 12):Nat):Int),.i ((sW (b.drop 16):Nat):Int),.slice As i ca]::bq (.slice As i ca) 140 34 i (acc.flatMap wT.cells)::F) (by kernel_rfl) ?_;refine aj "S0" ?_;refine WA.t 1 rfl (V.aI (v':= .slice (some ⟨b6,2,none⟩) 32 32) (V.qQ (l:=0) (h:=32) (u:=32) (m:=32) zT (ak rfl) OO.none OO.none OO.none (by simp) aK aK aK) (fun _=>by simp)) ?_;refine aj "l2n3" ?_;refine WL.c2 call139 rfl rfl ((iU (n:=32) N8).an1 (fun H' hp=>absurd hp.1 ay)) rfl ?_;rintro _ _ ⟨_,rfl,rfl⟩;have ht2:=ET.take h32;rw[dR] at ht2;have KX:=Seq.PY ET h32 N8;rw[drop_drop] at KX;obtain⟨s,O1⟩:∃s,s=wT.mk ((sW rest:Nat):Int) ((sW (rest.drop 4):Nat):Int) ((rest.drop 8).take 32):=⟨_,rfl⟩;have Vs:s.Ok:=by rw[O1];exact⟨by show ((rest.drop 8).take 32).length=32;rw[length_take,length_drop];omega,fun x hx=>wV x (mem_of_mem_drop (mem_of_mem_take hx))⟩
  have rQ:=wT.dS Vs;have agY:((rest.drop 8).take 32).length=32:=by rw[length_take,length_drop];omega
  refine aj "bn4" ?_;refine WL.ahr (q:=32) (news:=av .u8 ((rest.drop 8).take 32)) (H':=ah b9 212 [.slice _ _ _]::ah b6 140 s.cells::C::ah bm 42 [.i ((sW (b.drop 4):Nat):Int),.i ((sW (b.drop 8):Nat):Int),.i ((sW (b.drop 12):Nat):Int),.i ((sW (b.drop 16):Nat):Int),.slice As i ca]::bq (.slice As i ca) 140 34 i (acc.flatMap wT.cells)::F) eu (ak rfl) (ak rfl) ht2.up.up.up.up.up (Nat.le_refl _) (kE _ _) (dw.up (dw.here (by rw[au,agY];rfl) (by rw[mU _ _ _ (by rw[au,agY];exact le_of_ble_eq_true rfl),au,agY,O1];simp[wT.cells,pU]))) rfl ?_;refine aj "bMq7" ?_;refine WL.val (V.load (v:= .slice As i ca) isAgg40 (ak rfl) (fun _=>nS)) rfl ?_;refine WL.val (V.gG (vs:=s.cells) ⟨isAgg140,sizeOf140⟩ (ak rfl) rQ (fun _=>gD.up (gD.all))) rfl ?_;refine WL.buildSlice (E:=140) (cs:=s.cells) (vs:=[(0,.agg s.cells.toArray)]) ⟨ak rfl,trivial⟩ rfl (aeR s.cells rQ) rfl (fun b52=> ?_);refine aj "~~S" ?_;refine WL.append (m:=i) (q:=1) (news:=s.cells) underlying40 ajN (ak rfl) (ak rfl) (Seq.all (by rw[rQ])) (by simpa using wT.one s) ay rfl rfl (fun A53 c53 aqK arR=> ?_);refine aj "7~jb6" ?_;refine⟨(i+1,(_,_,_),rest.drop 40,acc++[s],(A53,c53)),⟨by show i+1≤n;omega,KX,Nat.sub_le_sub_right N8 32,by simp[hal],fun x hx=> ?_,fun x hx=>wV x (mem_of_mem_drop hx), ?_⟩,(by show n-(i+1)<n-i;omega),.cons rfl bM,fun w h=> ?_⟩
  ·rcases mem_append.1 hx with h | h
   ·exact hao x h
   ·rw[mem_singleton.1 h];exact Vs
  ·rw[if_neg ay] at Jo;rw[Jo,←O1];cases Fj (n-(i+1)) (rest.drop 40) with
   | none=>rfl
   | some p=>simp
  ·have h2:=h.aY 6 [2,4,5,0] rfl;simp only[flatMap_append,flatMap_cons,flatMap_nil,append_nil];exact h2
 ·simp only[dh] at aR;have h1:=aR;refine aj "W" ?_;obtain rfl:i=n:=by omega
  rw[Nat.sub_self,Fj] at Jo;have hX2:X=some (acc,rest):=by rw[Jo];simp
  subst hal;refine aj "hL" ?_;refine WL.val (V.load (v:= .slice Ar mr cr) isAgg34 (ak rfl) (fun _=>Rd.here rfl)) rfl ?_;refine aj "o%" ?_;refine WL.jJ (vs:=[_]) call138 ⟨ak rfl,trivial⟩ (qX _) rfl ?_ ?_
  ·rintro _ ⟨hb,rfl⟩;exact⟨rfl,rfl,C::F,fun w h=>h.aY 4 [1] rfl,F,rfl,by
    rw[hmX,hX2];cases rest with
    | nil=>simp at nW;subst nW;simp at hb
    | cons _ _=>rfl,rfl⟩
  rintro _ _ ⟨hb,rfl,rfl⟩;have Zy:rest=[]:=eq_nil_of_length_eq_zero (by simp at hb;omega);rw[hX2,Zy,VF] at hmX;refine aj "bqG" ?_;refine WL.jJ (vs:=[_]) call141 ⟨ak rfl,trivial⟩ (YQ (M:=⟨(sW (b.drop 4):Nat),(sW (b.drop 8):Nat),(sW (b.drop 12):Nat),(sW (b.drop 16):Nat),acc⟩) (A:=As) (m:=acc.length) ⟨(bq.seq (by rw[sH acc (fun x hx=>wT.dS (hao x hx))])).up.up.up,rfl,hao⟩ ay) rfl ?_ ?_
  ·rintro _ ⟨hb,rfl⟩;exact⟨rfl,rfl,C::F,fun w h=>h.aY 4 [1] rfl,F,rfl,by rw[hmX,if_neg (by rw[hb];decide)],rfl⟩
  rintro _ _ ⟨hb,rfl,rfl⟩;rw[if_pos hb] at hmX;refine WL.nil ?_;exact⟨rfl,_,C::ah bm 42 (qE.cells ⟨(sW (b.drop 4):Nat),(sW (b.drop 8):Nat),(sW (b.drop 12):Nat),(sW (b.drop 16):Nat),acc⟩ As ca)::bq (.slice As acc.length ca) 140 34 acc.length (acc.flatMap wT.cells)::F,bI.none rfl,fun w h=>h.aY 4 [1,2,3] rfl,_,rfl,⟨(sW (b.drop 4):Nat),(sW (b.drop 8):Nat),(sW (b.drop 12):Nat),(sW (b.drop 16):Nat),acc⟩,As,ca,bq (.slice As acc.length ca) 140 34 acc.length (acc.flatMap wT.cells),hmX,fun H=>⟨by show Sl.Seq K _ As acc.length 34 _;exact bq.seq (by rw[sH acc (fun x hx=>wT.dS (hao x hx))]),rfl,hao⟩,rfl⟩
end
theorem bq.room{K w:World}{H:List aA}{A:Option Addr}{m cap E s:Nat}{cs:List Value}(h:Sat K w (bq (.slice A m cap) E s m cs::H)):m≤cap:=by
 obtain⟨A',cap',h1,h2,_⟩:=bq.shape h.head;injection h1 with _ _ h3
 omega
section
variable{K:World}{F:List aA}{A:Option Addr}{m c:Nat}{b:List Nat}
theorem Uw(hs:Seq K F A m 1 (av .u8 b))(h8:aB 256 b)(hc:m≤c)(hM:je b=none) :
 aL prog 80 #[.slice A m c] K F (.tuple #[.agg (qE.zero.cells none 0).toArray,.i 4]):=by
 refine aC.en func80 ntmps80 ?_;refine aj "a~h" fun b1=> ?_;refine aj "A" fun b2=> ?_;refine aj "xA" fun b4=> ?_;refine aj "T~]~~p" ?_;refine WL.c1 call136 rfl (Mf (cap:=[ptr b1 0,ptr b4 0]) call137 (fun C=>V3 hs.up h8 hc C)) rfl ?_;rintro _ _ (⟨rfl,M,A',c',E,h1,h2,rfl⟩ | ⟨rfl,h1,rfl⟩)
 ·rw[hM] at h1;cases h1
 refine aj "f*b2a]Kd" ?_;exact aG.ret (H':=F) (FR rfl rfl ⟨isAgg42,sizeOf42⟩ rfl) (fun w h=>h.tail) ⟨rfl,rfl⟩
theorem UC{M:qE}(hs:Seq K F A m 1 (av .u8 b))(h8:aB 256 b)(hc:m≤c)(hM:je b=some M) :
 aC prog 80 #[.slice A m c] K F (fun v H'=>∃A' c' E,v= .tuple #[.agg (M.cells A' c').toArray,.i 0]∧(∀H,Kq K (E::H) A' M.iI.length M.iI)∧H'=E::F):=by
 refine aC.en func80 ntmps80 ?_;refine aj "a~h" fun b1=> ?_;refine aj "A" fun b2=> ?_;refine aj "xA" fun b4=> ?_;refine aj "T~]~~p" ?_;refine WL.c1 call136 rfl (Mf (cap:=[ptr b1 0,ptr b4 0]) call137 (fun C=>V3 hs.up h8 hc C)) rfl ?_;rintro _ _ (⟨rfl,M',A',c',E,h1,h2,rfl⟩ | ⟨rfl,h1,rfl⟩)
 rotate_left
 ·rw[hM] at h1;cases h1
 rw[hM,Option.some.injEq] at h1;subst h1;refine aj "f*bOiaGKd" ?_;exact aG.ret (H':=E::F) (bI.two rfl (R1.nG (vs:=M.cells A' c') rfl ⟨isAgg42,sizeOf42⟩ rfl Bn) (R1.tmp rfl)) (fun w h=>h.aY 3 [1] rfl) ⟨A',c',E,rfl,h2,rfl⟩
def Hz(b:List Nat):Int:=if (je b).isSome then 0 else 4
theorem Yb(hs:Seq K F A m 1 (av .u8 b))(h8:aB 256 b)(hc:m≤c) :
 aC prog 80 #[.slice A m c] K F (fun v H'=>∃A' c' E,v= .tuple #[.agg (((je b).getD .zero).cells A' c').toArray,.i (Hz b)]∧(∀H,Kq K (E::H) A' ((je b).getD .zero).iI.length ((je b).getD .zero).iI)∧H'=E::F):=by
 unfold Hz;cases hM:je b with
 | none =>
  intro w hw;refine (Uw hs h8 hc hM w hw).mono ?_;rintro e w' ⟨v,H',h1,h2,rfl,rfl⟩;exact⟨_,bN []::H',h1,Sat.all (l:=[]) h2,none,0,bN [],rfl,fun H=>⟨⟨rfl,fun i v hi=>by simp[qE.zero] at hi⟩,rfl,fun s hs=>by cases hs⟩,rfl⟩
 | some M=>exact UC hs h8 hc hM
theorem XC(hs:Seq K F A m 1 (av .u8 b))(hm:m≤1000000)(hc:m≤c) :
 aC prog 78 #[.slice A m c] K F (fun v H'=>(m<64∧v= .tuple #[.slice none 0 0,.slice none 0 0,.i 4]∧H'=F) ∨
  (64≤m∧∃A1 c1 A2 c2,(m-64≤c1∧64≤c2)∧v= .tuple #[.slice A1 (m-64) c1,.slice A2 64 c2,.i 0]∧H'=bq (.slice A1 (m-64) c1) 5 1 (m-64) (av .u8 (b.take (m-64)))::bq (.slice A2 64 c2) 5 1 64 (av .u8 (b.drop (m-64)))::F)):=by
 have hlen:b.length=m:=by have :=hs.len;rwa [au,Nat.mul_one] at this
 refine aC.en func78 ntmps78 ?_;refine aj "ammjo(f5k" (aX (fun aN=> ?_) fun aN=> ?_)
 ·simp only[dh] at aN;have h0:=aN;refine aj "amD" ?_;exact aG.ret (H':=F) (bI.zR rfl rfl rfl rfl) cu (.inl ⟨by omega,rfl,rfl⟩)
 ·simp only[dh] at aN;have h0:=aN;have Vx:64≤m:=ay;have yR:=hs.take (show m-64≤m by omega);rw[dR] at yR;have rJ:=Seq.rV hs (l:=m-64) (h:=m) (u:=c) ay (Nat.le_refl _) hc;rw[take_of_length_le (by rw[length_drop];omega),show m-(m-64)=64 by omega] at rJ;refine aj ")~Tl0l1" ?_;refine WA.t 2 rfl (V.aI (v':= .slice A (m-64) c) (V.slice (m:=m) (cap:=c) (l:=0) (h:=m-64) (u:=c) eu (ak rfl) OO.none (OO.some (ak rfl) (fun _=>by omega)) OO.none (by simp) ay ay ay) (fun _=>by rw[zQ,Nat.sub_zero,Nat.sub_zero])) ?_;refine aj "l4l5" ?_;refine WA.t 6 rfl (V.aI (v':= .slice (if c=m-64 then A else A.map (·.add ((m-64)*1))) 64 (c-(m-64))) (V.slice (m:=m) (cap:=c) (l:=m-64) (h:=m) (u:=c) eu (ak rfl) (OO.some (ak rfl) (fun _=>by omega)) OO.none OO.none (by simp) ay ay ay) (fun _=>by congr 1;omega)) ?_;refine WA.o 3 rfl ?_;refine WL.c1 call125 rfl (l9 (by repeat (first | exact yR | apply Seq.up)) ay) rfl ?_;rintro _ _ ⟨A1,c1,rfl,rfl⟩;refine WL.nQ (fun w h=>bq.room h) (fun aR=> ?_);refine aj "bn7" ?_;refine WL.c1 call125 rfl (l9 (by repeat (first | exact rJ | apply Seq.up)) ay) rfl ?_;rintro _ _ ⟨A2,c2,rfl,rfl⟩;refine WL.nQ (fun w h=>bq.room h) (fun bB=> ?_);refine aj "b~w8~w9~w:M~D" ?_;first
  | exact aG.ret (H':=bq (.slice A1 (m-64) c1) 5 1 (m-64) (av .u8 (b.take (m-64)))::bq (.slice A2 64 c2) 5 1 64 (av .u8 (b.drop (m-64)))::F) (bI.zR rfl rfl rfl rfl) (fun w h=>h.aY 2 [1,0] rfl) (.inr ⟨Vx,A1,c1,A2,c2,⟨aR,bB⟩,rfl,rfl⟩)
  | exact aG.ret (H':=bq (.slice A1 (m-64) c1) 5 1 (m-64) (av .u8 (b.take (m-64)))::bq (.slice A2 64 c2) 5 1 64 (av .u8 (b.drop (m-64)))::F) (bI.zR rfl rfl rfl rfl) cu (.inr ⟨Vx,A1,c1,A2,c2,⟨aR,bB⟩,rfl,rfl⟩)
end
def Lr(P:Program)(K:World):List (Nat×List Value)→List aA→(Int→List aA→Prop)→Prop
 | [],H,post=>post 0 H
 | q::l,H,post=>bT P q.1∧∀C,aC P q.1 q.2.toArray K (C::H) (fun v H'=>∃(e:Int) (H2:List aA),v= .int .i64 e∧(∀w,Sat K w H'→Sat K w (C::H2))∧((e≠0∧post e H2)∨(e=0∧Lr P K l H2 post)))
section
variable{K:World}{F:List aA}
theorem RU{l:List (Nat×List Value)}{b m:Nat}{post:Int→List aA→Prop}{H:List aA}(hl:l.length=m)(hm:m≤1000)(h:Lr prog K l H post) :
 aC prog 74 #[.slice (some ⟨b,0,none⟩) m m] K (ah b 132 (l.map fun q=> .func (.func q.1) #[] q.2.toArray)::H) (fun v H'=>∃(e:Int) (H2:List aA),v= .i e∧post e H2∧H'=ah b 132 (l.map fun q=> .func (.func q.1) #[] q.2.toArray)::H2):=by
 obtain⟨C,hC⟩:∃C,C=ah b 132 (l.map fun q=> .func (.func q.1) #[] q.2.toArray):=⟨_,rfl⟩;rw[←hC];refine aC.en func74 ntmps74 ?_;refine aj "afoP" ?_;refine WC.loop (σ:=Nat×List aA) (fun s=>[(6,.slice (some ⟨b,0,none⟩) m m),(7,.i (m:Int)),(8,.i (s.1:Int))]) (fun s=>C::s.2) (fun s=>s.1≤m∧Lr prog K (l.drop s.1) s.2 post) (fun s=>m-s.1) (0,H) ⟨zero_le _,h⟩ bM cu ?_;rintro⟨i,G⟩ ⟨hi,hq⟩;dsimp only at hi hq ⊢;refine aj "UE" (aX (fun aN=> ?_) fun aN=> ?_)
 ·simp only[dh] at aN;have h0:=aN;obtain⟨q,S9⟩:∃q,l[i]? =some q:=⟨_,getElem?_eq_getElem ay⟩;have lJ:Rd K (C::G) (some ⟨b,i,none⟩) (.func (.func q.1) #[] q.2.toArray):=by rw[hC];exact Rd.here (by rw[getElem?_map,S9];rfl)
  rw[show l.drop i=q::l.drop (i+1) from (List.getElem?_eq_some_iff.1 S9).2 ▸ drop_eq_getElem_cons _,Lr] at hq;refine aj "Ha" ?_;refine WL.val (V.aI (v':=ptr b i) (V.Gs akc (ak rfl) (ak rfl) (fun _=>by omega)) (fun _=>by simp[ptr])) rfl ?_;refine WL.val (V.load isAgg132 (ak rfl) (fun _=>lJ)) rfl ?_;refine aj "j" ?_;refine WL.nC (first:=[]) (captured:=q.2) (vs:=[]) hq.1 (ak rfl) trivial (hq.2 C) rfl ?_;rintro _ _ ⟨e,H2,rfl,amT,wL⟩;refine WL.sub (Sub.refl _) amT ?_;refine aj "jsk" (aX (fun aR=> ?_) fun aR=> ?_)
  ·simp only[oD] at aR;have h1:=aR;obtain⟨_,ak5⟩:=wL.resolve_right (fun h=>h1 h.1);refine aj "ed" ?_;exact qR (C::H2) rfl rfl cu ⟨e,H2,rfl,ak5,rfl⟩
  ·simp only[oD] at aR;have h1:=aR;obtain⟨_,Xd⟩:=wL.resolve_left (fun h=>h.1 ay);refine aj "i6" ?_;exact⟨(i+1,H2),⟨by show i+1≤m;omega,Xd⟩,(by show m-(i+1)<m-i;omega),.cons rfl bM,fun w h=>h⟩
 ·simp only[dh] at aN;have h0:=aN;refine aj "W" ?_;rw[drop_of_length_le ay,Lr] at hq;refine aj "qd" ?_;exact qR (C::G) rfl rfl cu ⟨0,G,rfl,hq,rfl⟩
variable{A:Option Addr}{m c:Nat}{ring:List Ky}
theorem agt{b:Nat}(lJ:Rd K F (some ⟨b,0,none⟩) (.slice A m c))(hr:Ring K F A m ring):aC prog 75 #[ptr b 0] K F (fun v H'=>∃E,v= .i (if kL ring then 0 else 1)∧H'=E::F):=by
 refine aC.en func75 ntmps75 ?_;refine aj "ax" ?_;refine WL.val (V.load (v:= .slice A m c) isAgg24 (ak rfl) (fun _=>lJ)) rfl ?_;refine WL.c1 call76 rfl (UR hr) rfl ?_;rintro _ _ ⟨A',m',c',E,rfl,rfl⟩;refine aj "!jd" ?_;exact qR (E::F) rfl rfl cu ⟨E,rfl,rfl⟩
theorem agH{b b1 b2 q cs:Nat}{S:Option Addr}{x y:Value}{sd:List Nat}(lJ:Rd K F (some ⟨b,0,none⟩) (.slice S q cs))(hs:Seq K F S q 1 (av .u8 sd))(hq:q≤1000000)(hc:q≤cs) :
 aC prog 77 #[ptr b 0,ptr b1 0,ptr b2 0] K (ah b1 34 [x]::ah b2 34 [y]::F) (fun v H'=>(q<64∧v= .i 4∧H'=ah b1 34 [.slice none 0 0]::ah b2 34 [.slice none 0 0]::F) ∨
  (64≤q∧∃A1 c1 A2 c2,(q-64≤c1∧64≤c2)∧v= .i 0∧H'=ah b1 34 [.slice A1 (q-64) c1]::ah b2 34 [.slice A2 64 c2]::bq (.slice A1 (q-64) c1) 5 1 (q-64) (av .u8 (sd.take (q-64)))::bq (.slice A2 64 c2) 5 1 64 (av .u8 (sd.drop (q-64)))::F)):=by
 refine aC.en func77 ntmps77 ?_;refine aj "ax" ?_;refine WL.val (V.load (v:= .slice S q cs) isAgg34 (ak rfl) (fun _=>lJ.up.up)) rfl ?_;refine WL.c1 call78 rfl (XC (b:=sd) hs.up.up hq hc) rfl ?_;rintro _ _ (⟨Vx,rfl,rfl⟩ | ⟨Vx,A1,c1,A2,c2,Cc,rfl,rfl⟩);all_goals
  refine aj "!~M~j~jjd" ?_;first
  | exact qR (ah b1 34 [.slice none 0 0]::ah b2 34 [.slice none 0 0]::F) rfl rfl cu (.inl ⟨Vx,rfl,rfl⟩)
  | exact aG.ret (H':=ah b1 34 [.slice A1 (q-64) c1]::ah b2 34 [.slice A2 64 c2]::bq (.slice A1 (q-64) c1) 5 1 (q-64) (av .u8 (sd.take (q-64)))::bq (.slice A2 64 c2) 5 1 64 (av .u8 (sd.drop (q-64)))::F) (bI.tmp rfl rfl) (fun w h=>h.aY 4 [2,3,0,1] rfl) (.inr ⟨Vx,A1,c1,A2,c2,Cc,rfl,rfl⟩)
theorem agE{b bm:Nat}{x0 x1 x2 x3:Int}{x4:Value}{bd:List Nat}(lJ:Rd K F (some ⟨b,0,none⟩) (.slice A m c))(hs:Seq K F A m 1 (av .u8 bd))(h8:aB 256 bd)(hc:m≤c) :
 aC prog 79 #[ptr b 0,ptr bm 0] K (ah bm 42 [.i x0,.i x1,.i x2,.i x3,x4]::F) (fun v H'=>∃A' c' E,v= .i (Hz bd)∧(∀H,Kq K (E::H) A' ((je bd).getD .zero).iI.length ((je bd).getD .zero).iI)∧H'=ah bm 42 (((je bd).getD .zero).cells A' c')::E::F):=by
 refine aC.en func79 ntmps79 ?_;refine aj "ax" ?_;refine WL.val (V.load (v:= .slice A m c) isAgg34 (ak rfl) (fun _=>lJ.up)) rfl ?_;refine WL.c1 call80 rfl (Yb (b:=bd) hs.up h8 hc) rfl ?_;rintro _ _ ⟨A',c',E,rfl,hE,rfl⟩;obtain⟨M,hM⟩:∃M,M=(je bd).getD .zero:=⟨_,rfl⟩;rw[←hM] at hE ⊢;refine aj "!~Qjd" ?_;exact qR (ah bm 42 (M.cells A' c')::E::F) rfl rfl (fun w h=>h.aY 2 [1,0] rfl) ⟨A',c',E,rfl,hE,rfl⟩
theorem agz{b bm bk:Nat}{n:Int}{z:List Nat}(hz:z.length=32)(lJ:Rd K F (some ⟨b,0,none⟩) (.slice A m c))(hkn:Rd K F (some ⟨bm,2,none⟩) (.i n))(hr:Ring K F A m ring) :
 aC prog 81 #[ptr b 0,ptr bm 0,ptr bk 0] K (ah bk 97 (av .u8 z)::F) (fun v H'=>v= .i (uO ring n).2∧H'=ah bk 97 (av .u8 (uO ring n).1)::F):=by
 have wR:(uO ring n).1.length=32:=by
  unfold uO;split
  ·split
   ·rename_i k hk;split
    ·rfl
    ·exact (hr.ok k (mem_of_find?_eq_some hk)).len
   ·rfl
  ·rfl
 obtain⟨Y,hY⟩:∃Y,Y=uO ring n:=⟨_,rfl⟩;rw[←hY] at wR ⊢;refine aC.en func81 ntmps81 ?_;refine aj "ax" ?_;refine WL.val (V.load (v:= .slice A m c) isAgg24 (ak rfl) (fun _=>lJ.up)) rfl ?_;refine aj "7" ?_;refine WL.val (V.load (v:= .i n) isAgg3 (ak rfl) (fun _=>hkn.up)) rfl ?_;refine WL.t2 call82 rfl rfl ((XE n hr.up).eq (v':= .tuple #[.agg (av .u8 Y.1).toArray,.i Y.2]) (by rw[hY])) rfl ?_;refine aP "!vjd" ?_;exact qR (ah bk 97 (av .u8 Y.1)::F) rfl rfl cu ⟨rfl,rfl⟩
theorem agO{bk bb bs q cq cs:Nat}{A2:Option Addr}{key bd sg:List Nat}(hk:key.length=32)(hk8:aB 256 key)(hrk:gD K F bk 0 (av .u8 key))(SF:Rd K F (some ⟨bb,0,none⟩) (.slice A q cq))(wV:Rd K F (some ⟨bs,0,none⟩) (.slice A2 64 cs))
 (hb:Seq K F A q 1 (av .u8 bd)) (hb8:aB 256 bd) (hq:q≤1000000) (hs:Seq K F A2 64 1 (av .u8 sg)) (hs8:aB 256 sg) (p8:64≤cs) :
 aL prog 83 #[ptr bk 0,ptr bb 0,ptr bs 0] K F (.i (if lu (vl 256 key) bd (vl 256 (sg.take 32)) (vl 256 (sg.drop 32)) then 0 else 191)):=by
 have ahl:vl 256 key<256^32:=hk ▸ nT hk8;have hek:p9 (vl 256 key)= .agg (av .u8 key).toArray:=by unfold p9;rw[nJ hk8 hk]
 obtain⟨X,hX⟩:∃X,X=Ur (vl 256 key) bd (vl 256 (sg.take 32)) (vl 256 (sg.drop 32)):=⟨_,rfl⟩;have hXv:=hX ▸ adU (pub:=vl 256 key) (msg:=bd) (r:=vl 256 (sg.take 32)) (s:=vl 256 (sg.drop 32));obtain⟨vf,hV⟩:∃vf,vf=lu (vl 256 key) bd (vl 256 (sg.take 32)) (vl 256 (sg.drop 32)):=⟨_,rfl⟩;rw[←hV] at hXv ⊢;refine aC.en func83 ntmps83 ?_;refine aj "ata" ?_;refine WL.val (V.gG (vs:=av .u8 key) ⟨isAgg97,sizeOf97⟩ (ak rfl) (by rw[au,hk]) (fun _=>hrk)) rfl ?_;refine WL.val (V.load (v:= .slice A q cq) isAgg34 (ak rfl) (fun _=>SF)) rfl ?_;refine WL.val (V.load (v:= .slice A2 64 cs) isAgg34 (ak rfl) (fun _=>wV)) rfl ?_;refine WL.t3 call84 rfl rfl rfl (by have h:=Xv (cap:=cq) (cap2:=cs) ahl hb hb8 ay hs hs8 p8;rw[hek,←hX] at h;exact h) rfl ?_;refine aj "sk" (aX (fun aN=> ?_) fun aN=> ?_)
 ·simp only[oD] at aN;have h1:=aN;have h2:vf=false:=Bool.eq_false_iff.2 fun h=>h1 (by rw[hXv.2 h];rfl);refine aj "I" ?_;exact qR F rfl rfl cu ⟨by rw[h2];rfl,rfl⟩
 ·simp only[oD] at aN;have h1:=aN;have h2:vf=true:=hXv.1 ay;refine aj "iI" ?_;exact qR F rfl rfl cu ⟨by rw[h2];rfl,rfl⟩
theorem ahn{bm bf:Nat}{s f:Int}(Ta:Rd K F (some ⟨bm,1,none⟩) (.i s))(hrf:Rd K F (some ⟨bf,0,none⟩) (.i f)) :
 aL prog 85 #[ptr bm 0,ptr bf 0] K F (.i (if s<f then 230 else 0)):=by
 refine aC.en func85 ntmps85 ?_;refine aj "ata7" ?_;refine WL.val (V.load (v:= .i s) isAgg3 (ak rfl) (fun _=>Ta)) rfl ?_;refine WL.val (V.load (v:= .i f) isAgg3 (ak rfl) (fun _=>hrf)) rfl ?_;refine aj "5k" (aX (fun aN=> ?_) fun aN=> ?_)
 ·simp only[dh] at aN;have h1:=aN;refine aj "I" ?_;exact qR F rfl rfl cu ⟨by rw[if_pos h1],rfl⟩
 ·simp only[dh] at aN;have h1:=aN;refine aj "iI" ?_;exact qR F rfl rfl cu ⟨by rw[if_neg h1],rfl⟩
end
def DL(K:World)(b6 b8:Nat)(R:qE×Int)(F:List aA)(e:Int)(H2:List aA):Prop :=
 e=R.2∧∃x0 x1 x2 x3 A' n' c' E,H2=ah b6 42 [.i 0,.i 0,.i 0,.i 0,.slice none 0 0]::ah b8 42 [.i x0,.i x1,.i x2,.i x3,.slice A' n' c']::E::F∧(e≠0→R.1= .zero)∧(e=0→R.1.ver=x0∧R.1.sec=x1∧R.1.key=x2∧R.1.BU=x3∧R.1.iI.length=n'∧∀H,Kq K (E::H) A' n' R.1.iI)
theorem DL.err{K:World}{b6 b8:Nat}{R:qE×Int}{F:List aA}{e x0 x1 x2 x3:Int}{A':Option Addr}{n' c':Nat}{E:aA}(hR:R=(.zero,e))(he:e≠0):DL K b6 b8 R F e (ah b6 42 [.i 0,.i 0,.i 0,.i 0,.slice none 0 0]::ah b8 42 [.i x0,.i x1,.i x2,.i x3,.slice A' n' c']::E::F) :=
 ⟨by rw[hR],x0,x1,x2,x3,A',n',c',E,rfl,fun _=>by rw[hR],fun h=>absurd h he⟩
section
variable{K:World}{F:List aA}{A S:Option Addr}{m c q cs:Nat}{ring:List Ky}{sd:List Nat}{aQ:Int}
theorem Xl{b3 b4 b5 b6 b8 b9 b10 b11:Nat}(hr:Ring K F A m ring)(hs:Seq K F S q 1 (av .u8 sd))(h8:aB 256 sd)(hq:q≤1000000)(hc:q≤cs) :
 Lr prog K [(75,[ptr b3 0]),(77,[ptr b5 0,ptr b9 0,ptr b10 0]),(79,[ptr b9 0,ptr b8 0]),(81,[ptr b3 0,ptr b8 0,ptr b11 0]),(83,[ptr b11 0,ptr b9 0,ptr b10 0]),(85,[ptr b8 0,ptr b4 0])]
  (ah b11 97 (av .u8 (replicate 32 0))::ah b10 34 [.slice none 0 0]::ah b9 34 [.slice none 0 0]::ah b8 42 [.i 0,.i 0,.i 0,.i 0,.slice none 0 0]::ah b6 42 [.i 0,.i 0,.i 0,.i 0,.slice none 0 0]::ah b5 34 [.slice S q cs]::ah b4 3 [.i aQ]::ah b3 24 [.slice A m c]::F) (DL K b6 b8 (iw ring aQ sd) F):=by
 have rQ:sd.length=q:=by have :=hs.len;rwa [au,Nat.mul_one] at this
 refine⟨call75,fun C=>(agt (A:=A) (m:=m) (c:=c) (ring:=ring) nS (by repeat (first | exact hr | apply Ring.up))).mono ?_⟩;rintro _ _ ⟨E1,rfl,rfl⟩;cases h1:kL ring with
 | false=>exact⟨_,ah b6 42 [.int .i64 0,.int .i64 0,.int .i64 0,.int .i64 0,.slice none 0 0]::ah b8 42 [.int .i64 0,.int .i64 0,.int .i64 0,.int .i64 0,.slice none 0 0]::ah b3 24 [.slice A m c]::F,rfl,fun w h=>h.aY 10 [1,6,5,9] rfl,.inl ⟨by decide,DL.err (by unfold iw;rw[if_pos h1];rfl) aK⟩⟩
 | true =>
 refine⟨_,ah b11 97 (av .u8 (replicate 32 0))::ah b10 34 [.slice none 0 0]::ah b9 34 [.slice none 0 0]::ah b8 42 [.i 0,.i 0,.i 0,.i 0,.slice none 0 0]::ah b6 42 [.i 0,.i 0,.i 0,.i 0,.slice none 0 0]::ah b5 34 [.slice S q cs]::ah b4 3 [.i aQ]::ah b3 24 [.slice A m c]::F,rfl,fun w h=>h.tail,.inr ⟨rfl, ?_⟩⟩;refine⟨call77,fun C=>aC.mono (aC.sat (agH (F:=C::ah b11 97 (av .u8 (replicate 32 0))::ah b8 42 [.i 0,.i 0,.i 0,.i 0,.slice none 0 0]::ah b6 42 [.i 0,.i 0,.i 0,.i 0,.slice none 0 0]::ah b5 34 [.slice S q cs]::ah b4 3 [.i aQ]::ah b3 24 [.slice A m c]::F) (b:=b5) (b1:=b9) (b2:=b10) (x:= .slice none 0 0) (y:= .slice none 0 0) (S:=S) (cs:=cs) (sd:=sd) nS hs.up.up.up.up.up.up.up hq hc) (fun w h=>h.aY 9 [3,2,0,1,4,5,6,7,8] rfl)) ?_⟩;rintro _ _ (⟨Vx,rfl,rfl⟩ | ⟨Vx,A1,c1,A2,c2,⟨aR,bB⟩,rfl,rfl⟩)
 ·exact⟨_,ah b6 42 [.i 0,.i 0,.i 0,.i 0,.slice none 0 0]::ah b8 42 [.i 0,.i 0,.i 0,.i 0,.slice none 0 0]::ah b3 24 [.slice A m c]::F,rfl,fun w h=>h.aY 9 [2,5,4,8] rfl,.inl ⟨by decide,DL.err (by unfold iw;rw[if_neg (by rw[h1];decide),if_pos ay]) aK⟩⟩
 refine⟨_,ah b9 34 [.slice A1 (q-64) c1]::ah b10 34 [.slice A2 64 c2]::bq (.slice A1 (q-64) c1) 5 1 (q-64) (av .u8 (sd.take (q-64)))::bq (.slice A2 64 c2) 5 1 64 (av .u8 (sd.drop (q-64)))::ah b11 97 (av .u8 (replicate 32 0))::ah b8 42 [.i 0,.i 0,.i 0,.i 0,.slice none 0 0]::ah b6 42 [.i 0,.i 0,.i 0,.i 0,.slice none 0 0]::ah b4 3 [.i aQ]::ah b3 24 [.slice A m c]::F,rfl,fun w h=>h.aY 11 [4,0,1,2,3,5,6,7,9,10] rfl,.inr ⟨rfl, ?_⟩⟩;have KY:(sd.take (q-64)).length=q-64:=by rw[length_take];omega
 have hl2:(sd.drop (q-64)).length=64:=by rw[length_drop];omega
 have hq1:∀H,Sl.Seq K (bq (.slice A1 (q-64) c1) 5 1 (q-64) (av .u8 (sd.take (q-64)))::H) A1 (q-64) 1 (av .u8 (sd.take (q-64))):=fun H=>bq.seq (by rw[au,KY,Nat.mul_one]);have Hq:∀H,Sl.Seq K (bq (.slice A2 64 c2) 5 1 64 (av .u8 (sd.drop (q-64)))::H) A2 64 1 (av .u8 (sd.drop (q-64))):=fun H=>bq.seq (by rw[au,hl2]);have h81:aB 256 (sd.take (q-64)):=fun x hx=>h8 x (mem_of_mem_take hx);have h82:aB 256 (sd.drop (q-64)):=fun x hx=>h8 x (mem_of_mem_drop hx);refine⟨call79,fun C=>aC.mono (aC.sat (agE (F:=C::ah b9 34 [.slice A1 (q-64) c1]::ah b10 34 [.slice A2 64 c2]::bq (.slice A1 (q-64) c1) 5 1 (q-64) (av .u8 (sd.take (q-64)))::bq (.slice A2 64 c2) 5 1 64 (av .u8 (sd.drop (q-64)))::ah b11 97 (av .u8 (replicate 32 0))::ah b6 42 [.i 0,.i 0,.i 0,.i 0,.slice none 0 0]::ah b4 3 [.i aQ]::ah b3 24 [.slice A m c]::F) (b:=b9) (bm:=b8) (x0:=0) (x1:=0) (x2:=0) (x3:=0) (x4:= .slice none 0 0) (A:=A1) (m:=q-64) (c:=c1) (bd:=sd.take (q-64)) (Rd.here rfl).up (hq1 _).up.up.up h81 aR) (fun w h=>h.aY 10 [6,0,1,2,3,4,5,7,8,9] rfl)) ?_⟩;rintro _ _ ⟨A',c',E3,rfl,hE,rfl⟩;have wJ:iw ring aQ sd=Qt ring aQ (sd.take (q-64)) (sd.drop (q-64)) (je (sd.take (q-64))):=by
  unfold iw;rw[if_neg (by rw[h1];decide),if_neg ay,rQ]
 cases hM:je (sd.take (q-64)) with
 | none =>
  rw[hM] at wJ;exact⟨_,ah b6 42 [.i 0,.i 0,.i 0,.i 0,.slice none 0 0]::ah b8 42 (qE.zero.cells A' c')::E3::F,rfl,fun w h=>h.aY 11 [2,8,0,1] rfl,.inl ⟨by unfold Hz;rw[hM];decide,DL.err (by rw[wJ];unfold Hz;rw[hM];rfl) (by unfold Hz;rw[hM];decide)⟩⟩
 | some M =>
 rw[hM,Qt] at wJ;rw[hM] at hE;refine⟨_,ah b11 97 (av .u8 (replicate 32 0))::ah b8 42 (M.cells A' c')::E3::ah b9 34 [.slice A1 (q-64) c1]::ah b10 34 [.slice A2 64 c2]::bq (.slice A1 (q-64) c1) 5 1 (q-64) (av .u8 (sd.take (q-64)))::bq (.slice A2 64 c2) 5 1 64 (av .u8 (sd.drop (q-64)))::ah b6 42 [.i 0,.i 0,.i 0,.i 0,.slice none 0 0]::ah b4 3 [.i aQ]::ah b3 24 [.slice A m c]::F,rfl,fun w h=>h.aY 11 [2,7,0,1,3,4,5,6,8,9,10] rfl,.inr ⟨by unfold Hz;rw[hM];rfl, ?_⟩⟩;have wR:(uO ring M.key).1.length=32∧aB 256 (uO ring M.key).1:=aeT hr.ok _;refine⟨call81,fun C=>aC.mono (aC.sat (agz (F:=C::ah b8 42 (M.cells A' c')::E3::ah b9 34 [.slice A1 (q-64) c1]::ah b10 34 [.slice A2 64 c2]::bq (.slice A1 (q-64) c1) 5 1 (q-64) (av .u8 (sd.take (q-64)))::bq (.slice A2 64 c2) 5 1 64 (av .u8 (sd.drop (q-64)))::ah b6 42 [.i 0,.i 0,.i 0,.i 0,.slice none 0 0]::ah b4 3 [.i aQ]::ah b3 24 [.slice A m c]::F) (b:=b3) (bm:=b8) (bk:=b11) (n:=M.key) (z:=replicate 32 0) (A:=A) (m:=m) (c:=c) (ring:=ring) rfl nS (Rd.here rfl).up hr.up.up.up.up.up.up.up.up.up.up) (fun w h=>h.aY 2 [1,0] rfl)) ?_⟩;rintro _ _ ⟨rfl,rfl⟩;obtain⟨kf,hkf⟩:∃kf,kf=uO ring M.key:=⟨_,rfl⟩;rw[←hkf] at wR wJ ⊢;by_cases hk0:kf.2=0
 rotate_left
 ·exact⟨_,ah b6 42 [.i 0,.i 0,.i 0,.i 0,.slice none 0 0]::ah b8 42 (M.cells A' c')::E3::F,rfl,fun w h=>h.aY 11 [1,8,2,3] rfl,.inl ⟨hk0,DL.err (by rw[wJ,if_pos hk0]) hk0⟩⟩
 rw[if_neg (fun h=>h hk0)] at wJ;refine⟨_,ah b11 97 (av .u8 kf.1)::ah b8 42 (M.cells A' c')::E3::ah b9 34 [.slice A1 (q-64) c1]::ah b10 34 [.slice A2 64 c2]::bq (.slice A1 (q-64) c1) 5 1 (q-64) (av .u8 (sd.take (q-64)))::bq (.slice A2 64 c2) 5 1 64 (av .u8 (sd.drop (q-64)))::ah b6 42 [.i 0,.i 0,.i 0,.i 0,.slice none 0 0]::ah b4 3 [.i aQ]::F,rfl,fun w h=>h.aY 11 [1,0,2,3,4,5,6,7,8,9] rfl,.inr ⟨hk0, ?_⟩⟩;refine⟨call83,fun C=>(agO (F:=C::ah b11 97 (av .u8 kf.1)::ah b8 42 (M.cells A' c')::E3::ah b9 34 [.slice A1 (q-64) c1]::ah b10 34 [.slice A2 64 c2]::bq (.slice A1 (q-64) c1) 5 1 (q-64) (av .u8 (sd.take (q-64)))::bq (.slice A2 64 c2) 5 1 64 (av .u8 (sd.drop (q-64)))::ah b6 42 [.i 0,.i 0,.i 0,.i 0,.slice none 0 0]::ah b4 3 [.i aQ]::F) (bk:=b11) (bb:=b9) (bs:=b10) (A:=A1) (q:=q-64) (cq:=c1) (A2:=A2) (cs:=c2) (key:=kf.1) (bd:=sd.take (q-64)) (sg:=sd.drop (q-64)) wR.1 wR.2 (gD.up gD.all) nS nS (hq1 _).up.up.up.up.up.up h81 ay (Hq _).up.up.up.up.up.up.up h82 bB).mono ?_⟩;rintro _ _ ⟨rfl,rfl⟩;obtain⟨vf,hvf⟩:∃vf,vf=lu (vl 256 kf.1) (sd.take (q-64)) (vl 256 ((sd.drop (q-64)).take 32)) (vl 256 ((sd.drop (q-64)).drop 32)):=⟨_,rfl⟩;rw[←hvf] at wJ ⊢;cases vf with
 | false=>exact⟨_,ah b6 42 [.int .i64 0,.int .i64 0,.int .i64 0,.int .i64 0,.slice none 0 0]::ah b8 42 (M.cells A' c')::E3::F,rfl,fun w h=>h.aY 10 [0,8,2,3] rfl,.inl ⟨by decide,DL.err (by rw[wJ,if_pos rfl];rfl) aK⟩⟩
 | true =>
 rw[if_neg aK] at wJ;refine⟨_,ah b8 42 (M.cells A' c')::E3::ah b6 42 [.i 0,.i 0,.i 0,.i 0,.slice none 0 0]::ah b4 3 [.i aQ]::F,rfl,fun w h=>h.aY 10 [0,2,3,8,9] rfl,.inr ⟨rfl, ?_⟩⟩;refine⟨call85,fun C=>(ahn (F:=C::ah b8 42 (M.cells A' c')::E3::ah b6 42 [.i 0,.i 0,.i 0,.i 0,.slice none 0 0]::ah b4 3 [.i aQ]::F) (bm:=b8) (bf:=b4) (s:=M.sec) (f:=aQ) (Rd.here rfl).up (Rd.here rfl).up.up.up.up).mono ?_⟩;rintro _ _ ⟨rfl,rfl⟩;by_cases ZB:M.sec<aQ
 ·exact⟨_,ah b6 42 [.i 0,.i 0,.i 0,.i 0,.slice none 0 0]::ah b8 42 (M.cells A' c')::E3::F,rfl,fun w h=>h.aY 5 [0,3,1,2] rfl,.inl ⟨by rw[if_pos ZB];decide,DL.err (by rw[wJ,if_pos ZB,if_pos ZB]) (by rw[if_pos ZB];decide)⟩⟩
 ·rw[if_neg ZB] at wJ;exact⟨_,ah b6 42 [.i 0,.i 0,.i 0,.i 0,.slice none 0 0]::ah b8 42 (M.cells A' c')::E3::F,rfl,fun w h=>h.aY 5 [0,3,1,2] rfl,.inr ⟨by rw[if_neg ZB],by rw[wJ];exact⟨rfl,M.ver,M.sec,M.key,M.BU,A',M.iI.length,c',E3,rfl,fun h=>absurd rfl h,fun _=>⟨rfl,rfl,rfl,rfl,rfl,hE⟩⟩⟩⟩
theorem ahA(c1 c2 c3 c4 c5 c6:Array Value)(w:World):(Instr.buildSlice 206 6 [(0,.func (.func 75) #[] c1),(1,.func (.func 77) #[] c2),(2,.func (.func 79) #[] c3),(3,.func (.func 81) #[] c4),(4,.func (.func 83) #[] c5),(5,.func (.func 85) #[] c6)].toArray).run prog w= .ok (.slice (some ⟨w.heap.size,0,none⟩) 6 6) (w.alloc (.cells [.func (.func 75) #[] c1,.func (.func 77) #[] c2,.func (.func 79) #[] c3,.func (.func 81) #[] c4,.func (.func 83) #[] c5,.func (.func 85) #[] c6].toArray 132)):=by kernel_rfl
theorem Jg(hr:Ring K F A m ring)(hs:Seq K F S q 1 (av .u8 sd))(h8:aB 256 sd)(hq:q≤1000000)(hc:q≤cs) :
 aC prog 20 #[.slice A m c,.i aQ,.slice S q cs] K F (fun v H'=>∃A' c' E,v= .tuple #[.agg ((iw ring aQ sd).1.cells A' c').toArray,.i (iw ring aQ sd).2]∧(∀H,Kq K (E::H) A' (iw ring aQ sd).1.iI.length (iw ring aQ sd).1.iI)∧H'=E::F):=by
 obtain⟨R,hR⟩:∃R,R=iw ring aQ sd:=⟨_,rfl⟩;rw[←hR];refine aC.en func20 ntmps20 ?_;refine aj "a~h" fun b3=> ?_;refine aj "~h" fun b4=> ?_;refine aj "~h" fun b5=> ?_;refine aj "A" fun b6=> ?_;refine aj "xA" fun b8=> ?_;refine aj "TA" fun b9=> ?_;refine aj "A" fun b10=> ?_;refine aj "TA" fun b11=> ?_;refine aj "T~3~~,~]~~,~~,~]" ?_;refine WL.buildSlice (E:=132) (cs:=[_,_,_,_,_,_]) (vs:=[(0,_),(1,_),(2,_),(3,_),(4,_),(5,_)]) ⟨ak rfl,ak rfl,ak rfl,ak rfl,ak rfl,ak rfl,trivial⟩ rfl (ahA _ _ _ _ _ _) rfl (fun b19=> ?_);refine WL.c1 call74 rfl (RU (m:=6) rfl aK (Xl hr hs h8 hq hc)) rfl ?_;rw[←hR];rintro _ _ ⟨e,H2,rfl,⟨he,x0,x1,x2,x3,A',n',c',E,rfl,hz,oK⟩,rfl⟩;subst he;refine aj "fsk" (aX (fun aN=> ?_) fun aN=> ?_)
 ·simp only[oD] at aN;have h0:=aN;refine aj "a]cKd" ?_;exact aG.ret (H':=bN []::F) (FR rfl rfl ⟨isAgg42,sizeOf42⟩ rfl) (fun w h=>Sat.all (l:=[]) (h.aY 4 [] rfl)) ⟨none,0,bN [],by rw[hz h0];rfl,fun H=>by rw[hz h0];exact⟨⟨rfl,fun i v hi=>by simp[qE.zero] at hi⟩,rfl,fun s hs=>by cases hs⟩,rfl⟩
 ·simp only[oD] at aN;have h0:=aN;refine aj ")" ?_;have KW:R.2=0:=ay;obtain⟨rfl,rfl,rfl,rfl,rfl,aov⟩:=oK KW;refine aj "qGKd" ?_;exact aG.ret (H':=E::F) (bI.two rfl (R1.nG (vs:=R.1.cells A' c') rfl ⟨isAgg42,sizeOf42⟩ rfl Bn) (R1.tmp rfl)) (fun w h=>h.aY 4 [3] rfl) ⟨A',c',E,by rw[KW],aov,rfl⟩
end
structure La where
 slot:Int
 BU:Int
 sec:Int
 JZ:List (Int×List Nat)
def La.zero:La:=⟨0,0,0,[]⟩
abbrev La.cells(l:La)(A:Option Addr)(c:Nat)(err:Int):List Value:=[.i l.slot,.i l.BU,.i l.sec,.slice A l.JZ.length c,.i err]
def F3:List wT→List (List Nat)→Bool
 | s::l,d::ds=> !(!decide ((d.length:Int)=s.bytes)|| !decide (sum256 d=s.bH))&&F3 l ds
 | _,_=>true
theorem Yd(d:List (List Nat)):F3 [] d=true:=by cases d<;>rfl
def Bf(l:List wT)(ds:List (List Nat)):List (Int×List Nat):=(l.zip ds).map fun p=>(p.1.load,p.2)
def qU(r:List Ky)(aQ:Int)(sd:List Nat)(ds:List (List Nat)):La×Int :=
 if (iw r aQ sd).2≠0 then (.zero,(iw r aQ sd).2) else
 if ds.length≠(iw r aQ sd).1.iI.length then (.zero,231) else
 if F3 (iw r aQ sd).1.iI ds then (⟨0,(iw r aQ sd).1.BU,(iw r aQ sd).1.sec,Bf (iw r aQ sd).1.iI ds⟩,0) else (.zero,231)
abbrev ldC(p:Int×Bs):List Value:=[.i p.1,p.2.v]
def clA(p:Int×Bs):aA:=bq p.2.v 5 1 p.2.m (av .u8 p.2.l)
structure MU(K:World)(F:List aA)(A:Option Addr)(ps:List (Int×Bs)):Prop where
 seq:Seq K F A ps.length 2 (ps.flatMap ldC)
 ok:∀p∈ps,Seq K F p.2.A p.2.m 1 (av .u8 p.2.l)
structure ajp(K:World)(F:List aA)(D:Option Addr)(k:Nat)(ds:List Bs):Prop where
 seq:Seq K F D k 1 (ds.map Bs.v)
 ok:∀p∈ds,Seq K F p.A p.m 1 (av .u8 p.l)∧aB 256 p.l∧p.m≤1000000
theorem ze{K:World}{l H:List aA}{C:aA}{B:Option Addr}{m s:Nat}{vs:List Value}(hA:C∈l)(h:Seq K [C] B m s vs):Seq K (bN l::H) B m s vs:=⟨h.len,fun i v hi=>Rd.LJ hA (h.rd i v hi)⟩
section
variable{K:World}{F:List aA}{A S D:Option Addr}{m c q cs k kd:Nat}{ring:List Ky}{sd:List Nat}{ds:List Bs}{aQ:Int}
theorem QA(hr:Ring K F A m ring)(hs:Seq K F S q 1 (av .u8 sd))(h8:aB 256 sd)(hq:q≤1000000)(hc:q≤cs)(hd:ajp K F D k ds)(hk:k≤1000000) :
 aC prog 105 #[.slice A m c,.i aQ,.slice S q cs,.slice D k kd] K F (fun v H'=>∃A' c' ps E,v= .tuple #[.agg ((qU ring aQ sd (ds.map Bs.l)).1.cells A' c' 0).toArray,.i (qU ring aQ sd (ds.map Bs.l)).2]∧(qU ring aQ sd (ds.map Bs.l)).1.JZ=ps.map (fun p=>(p.1,p.2.l))∧(∀H,MU K (E::H) A' ps)∧H'=E::F):=by
 have wR:ds.length=k:=by have :=hd.seq.len;rwa [length_map,Nat.mul_one] at this
 obtain⟨R,hR⟩:∃R,R=iw ring aQ sd:=⟨_,rfl⟩;obtain⟨X,hX⟩:∃X,X=qU ring aQ sd (ds.map Bs.l):=⟨_,rfl⟩;have hz:∀e,X=(.zero,e)→∃A' c' ps E,Value.tuple #[.agg (La.zero.cells none 0 0).toArray,.i e]= .tuple #[.agg (X.1.cells A' c' 0).toArray,.i X.2]∧X.1.JZ=ps.map (fun p:Int×Bs=>(p.1,p.2.l))∧(∀H,MU K (E::H) A' ps)∧bN []::F=E::F:=fun e he=>⟨none,0,[],bN [],by rw[he],by rw[he];rfl,fun H=>⟨⟨rfl,fun i v hi=>by simp at hi⟩,fun p hp=>by cases hp⟩,rfl⟩;unfold qU at hX;rw[←hR] at hX;have hX':=hX;unfold qU;rw[←hR,←hX];refine aC.en func105 ntmps105 ?_;refine aj "aA" fun b8=> ?_;refine aj "jz" ?_;refine WL.c3 call20 rfl rfl rfl (Jg (aQ:=aQ) hr.up hs.up h8 hq hc) rfl ?_;rintro _ _ ⟨As,ca,E,rfl,hE,rfl⟩;rw[←hR] at hE ⊢;refine aj "!A" fun b10=> ?_;refine aj "Kfsk" (aX (fun aN=> ?_) fun aN=> ?_)
 ·simp only[oD] at aN;have h0:=aN;rw[if_pos h0] at hX;refine aj "a]cKd" ?_;exact aG.ret (H':=bN []::F) (FR rfl rfl ⟨isAgg37,sizeOf37⟩ rfl) (fun w h=>Sat.all (l:=[]) (h.aY 3 [] rfl)) (hz _ hX)
 ·simp only[oD] at aN;have h0:=aN;rw[if_neg (fun h=>h h0)] at hX;refine aj "iroposk" (aX (fun aR=> ?_) fun aR=> ?_)
  ·simp only[oD] at aR;have h1:=aR;rw[if_pos (by rw[length_map];omega)] at hX;refine aj "a]Kd" ?_;exact aG.ret (H':=bN []::F) (FR rfl rfl ⟨isAgg37,sizeOf37⟩ rfl) (fun w h=>Sat.all (l:=[]) (h.aY 3 [] rfl)) (hz _ hX)
  ·simp only[oD] at aR;have h1:=aR;rw[if_neg (by rw[length_map];omega)] at hX;refine aj "iapp" ?_;refine WL.val (V.build (vs:=[(1,_),(2,_)]) ⟨ak rfl,ak rfl,trivial⟩ rfl (YF _ _)) rfl ?_;refine aj "A" fun b12=> ?_;refine aj "KBapoP" ?_;obtain⟨n,hn⟩:∃n,n=R.1.iI.length:=⟨_,rfl⟩;rw[←hn] at h1 ⊢;have hkn:k=n:=ay;obtain⟨FV,hFV⟩:∃FV,FV=F3 R.1.iI (ds.map Bs.l):=⟨_,rfl⟩;rw[←hFV] at hX;have hlen:(Bf R.1.iI (ds.map Bs.l)).length=n:=by unfold Bf;rw[length_map,length_zip,length_map];omega
   have hE':∀H,Kq K (E::H) As n R.1.iI:=by rw[hn];exact hE
   refine WC.loop (σ:=Nat×Option Addr×Nat×List (Int×Bs)) (fun s=>[(3,.slice D k kd),(8,ptr b8 0),(12,ptr b12 0),(39,.slice As n ca),(40,.i (n:Int)),(41,.i (s.1:Int))])
    (fun s=>ah b12 37 [.i 0,.i R.1.BU,.i R.1.sec,.slice s.2.1 s.1 s.2.2.1,.i 0]::bq (.slice s.2.1 s.1 s.2.2.1) 118 2 s.1 (s.2.2.2.flatMap ldC)::bN (s.2.2.2.reverse.map clA)::E::ah b8 37 [.i 0,.i 0,.i 0,.slice none 0 0,.i 0]::F)
    (fun s=>s.1≤n∧s.2.2.2.length=s.1∧s.2.2.2.map (fun p=>(p.1,p.2.l))=(Bf R.1.iI (ds.map Bs.l)).take s.1∧(∀p∈s.2.2.2,p.2.l.length=p.2.m)∧F3 (R.1.iI.drop s.1) ((ds.map Bs.l).drop s.1)=FV) (fun s=>n-s.1)
    (0,none,0,[]) ⟨zero_le _,rfl,rfl,fun p hp=>by (cases hp),hFV.symm⟩ bM (fun w h=>((Sat.all (l:=[]) (h.aY 4 [0,2,3] rfl)).iG 118 2).aY 4 [2,0,1,3] rfl) ?_
   rintro⟨i,A',c',ps⟩ ⟨hi,nu,BR,hpw,hq3⟩;dsimp only at hi nu BR hpw hq3 ⊢;refine aj "UE" (aX (fun bB=> ?_) fun bB=> ?_)
   ·simp only[dh] at bB;have h2:=bB;obtain⟨s,ZM⟩:∃s,R.1.iI[i]? =some s:=⟨_,getElem?_eq_getElem ay⟩;obtain⟨p,hpi⟩:∃p,ds[i]? =some p:=⟨_,getElem?_eq_getElem ay⟩;have Vs:=(hE' []).ok s (mem_of_getElem? ZM);have rQ:=wT.dS Vs;obtain⟨rP,Wo,aq7⟩:=hd.ok p (mem_of_getElem? hpi);have aeH:p.l.length=p.m:=by have :=rP.len;rwa [au,Nat.mul_one] at this
    have hdi:Rd K F (D.map (·.add ((i:Int).toNat*1))) p.v:=by rw[Int.toNat_natCast,Nat.mul_one];exact hd.seq.rd i _ (by rw[getElem?_map,hpi];rfl)
    have Z6:(ds.map Bs.l)[i]? =some p.l:=by rw[getElem?_map,hpi];rfl
    have JW:(!(!decide ((p.m:Int)=s.bytes)|| !decide (sum256 p.l=s.bH))&&F3 (R.1.iI.drop (i+1)) ((ds.map Bs.l).drop (i+1)))=FV:=by
     rw[←hq3,show R.1.iI.drop i=s::R.1.iI.drop (i+1) from (List.getElem?_eq_some_iff.1 ZM).2 ▸ drop_eq_getElem_cons _,show (ds.map Bs.l).drop i=p.l::(ds.map Bs.l).drop (i+1) from (List.getElem?_eq_some_iff.1 Z6).2 ▸ drop_eq_getElem_cons _,F3,aeH]
    have ZJ:(Bf R.1.iI (ds.map Bs.l))[i]? =some (s.load,p.l):=by unfold Bf;rw[getElem?_map,(getElem?_zip_eq_some (z:=(s,p.l))).2 ⟨ZM,Z6⟩];rfl
    obtain⟨dg,hdg⟩:∃dg,dg=sum256 p.l:=⟨_,rfl⟩;have anQ:dg.length=32:=by rw[hdg];exact Iz _
    rw[←hdg] at JW;refine aj "1" ?_;refine WL.val (V.eD (v:= .i s.load) ajW (ak rfl) (ak rfl) (fun _=>by omega) (fun _=>by rw[Int.toNat_natCast];exact ((hE' _).rd ZM 0 _ rfl).up.up.up)) rfl ?_;rw[Int.toNat_natCast];refine WL.val (V.wH (vs:=s.cells) ⟨isAgg140,sizeOf140⟩ (ak rfl) rQ aK (fun _ j v hj=>((hE' _).rd ZM j v hj).up.up.up)) rfl ?_;refine aj "A" fun b14=> ?_;refine WL.sg rfl rfl ?_;refine WL.store (cs:=s.cells) sizeOf140 (ak rfl) (ak rfl) rfl rQ (wT.one s) (dw.whole (by rw[rQ];rfl)) ?_;refine aj "BN~k++" ?_;refine WQ.val (V.eD (v:=p.v) adY (ak rfl) (ak rfl) (fun _=>by omega) (fun _=>by repeat (first | exact hdi | apply Rd.up))) rfl ?_;refine WQ.val (V.load (v:=p.v) isAgg34 (ak rfl) (fun _=>by repeat (first | exact hdi | apply Rd.up))) rfl ?_;refine aj "~~>~y" ?_;refine WQ.val (V.load (v:= .i s.bytes) isAgg3 (ak rfl) (fun _=>Rd.here rfl)) rfl ?_;refine WQ.val (V.neq (ak rfl) (ak rfl)) rfl (aj "+~~i~~i" ?_);refine WQ.bG (oj:=_) rfl rfl rfl GC.f (V.eD (v:=p.v) adY (OV.g rfl id) (OV.g rfl id) (fun _=>by omega) (fun _=>by repeat (first | exact hdi | apply Rd.up))) rfl ?_;refine WQ.bG (oj:=_) rfl rfl rfl GC.f (V.load (v:=p.v) isAgg34 (OV.g rfl id) (fun _=>by repeat (first | exact hdi | apply Rd.up))) rfl ?_;refine WQ.qh (oj:=_) (vs:=[_]) rfl rfl rfl GC.f call174 ⟨OV.g rfl id,trivial⟩ (fun hg=>(UU (m:=p.m) (cap:=p.cap) (A:=p.A) (data:=p.l) (by repeat (first | exact rP | apply Seq.up)) Wo ay).eq (v':= .agg (av .u8 dg).toArray) (by rw[hdg])) rfl ?_;refine WQ.bG (oj:=_) rfl rfl rfl GC.f (V.fieldAddr G9 (ak rfl)) rfl ?_;refine WQ.bG (oj:=_) rfl rfl rfl GC.f (V.gG (vs:=av .u8 s.bH) ⟨isAgg97,sizeOf97⟩ (OV.g rfl id) (by rw[au,Vs.len]) (fun _=>gD.here (prefix_rfl))) rfl ?_;refine WQ.bG (oj:=_) rfl rfl rfl GC.f (V.TR (by kernel_rfl) (OV.g rfl id) (OV.g rfl id) (iA.av underlying97 sizeOf5 isAgg5 underlying5 anQ Vs.len)) rfl ?_;refine aj "~~$~gE" (aX (fun eF=> ?_) fun eF=> ?_)
    ·have h3:=eF;have Vq:FV=false:=by rw[←JW,show (!decide ((p.m:Int)=s.bytes)|| !decide (dg=s.bH))=true from by simpa using h3];rfl
     rw[Vq,if_neg aK] at hX;refine aj "a]~Qd" ?_;exact aG.ret (H':=bN []::F) (FR rfl rfl ⟨isAgg37,sizeOf37⟩ rfl) (fun w h=>Sat.all (l:=[]) (h.aY 6 [] rfl)) (hz _ hX)
    ·have h3:=eF;have Vq:F3 (R.1.iI.drop (i+1)) ((ds.map Bs.l).drop (i+1))=FV:=by rw[←JW,show (!decide ((p.m:Int)=s.bytes)|| !decide (dg=s.bH))=false from by simpa using h3];rfl
     refine WC.skip ?_;refine WC.sub (Sub.refl _) (fun w h=>h.aY 4 [1,2,3,0] rfl) ?_;refine WC.fE (ah b14 140 s.cells::E::ah b8 37 [.i 0,.i 0,.i 0,.slice none 0 0,.i 0]::F) (by kernel_rfl) ?_;refine aj "S0S2" ?_;refine WA.t 3 rfl (V.load (v:= .i s.load) isAgg3 (ak rfl) (fun _=>Rd.here rfl)) ?_;refine aj "l4l5" ?_;refine WA.t 6 rfl (V.eD (v:=p.v) adY (ak rfl) (ak rfl) (fun _=>by omega) (fun _=>by repeat (first | exact hdi | apply Rd.up))) ?_;refine WA.t 7 rfl (V.load (v:=p.v) isAgg34 (ak rfl) (fun _=>by repeat (first | exact hdi | apply Rd.up))) ?_;refine WA.two (i:=1) (j:=8) gy (by kernel_rfl) rfl rfl ?_ ?_
     ·refine WL.val (V.load (v:= .slice A' i c') isAgg35 (ak rfl) (fun _=>nS)) rfl ?_;refine aj "bn8" ?_;refine WL.c1 call125 rfl (l9 (by repeat (first | exact rP | apply Seq.up)) ay) rfl ?_;rintro _ _ ⟨A73,c73,rfl,rfl⟩;refine WL.nil (WA.t 9 rfl (V.build (vs:=[(0,_),(1,_)]) ⟨ak rfl,ak rfl,trivial⟩ rfl (Jf _ _ _ _)) ?_);refine WA.o 10 rfl ?_;refine WL.buildSlice (E:=118) (cs:=[_,_]) (vs:=[(0,_)]) ⟨ak rfl,trivial⟩ rfl (EN _ _) rfl (fun b75=> ?_);refine aj "bn;~~T" ?_;refine WL.append (m:=i) (q:=1) (news:=ldC (s.load,⟨A73,p.m,c73,p.l⟩)) underlying35 aau (ak rfl) (ak rfl) (Seq.all rfl) (by intro u hu;simp only[ldC,mem_cons,not_mem_nil,or_false] at hu;rcases hu with rfl | rfl<;>rfl) ay rfl rfl (fun A76 c76 ajb ajI=> ?_);refine aj "bS<n=~jbM6" ?_;refine⟨(i+1,A76,c76,ps++[(s.load,⟨A73,p.m,c73,p.l⟩)]),⟨by show i+1≤n;omega,by simp[nu], ?_,fun p' DU=> ?_,Vq⟩,(by show n-(i+1)<n-i;omega),.cons rfl bM,fun w h=> ?_⟩
      ·rw[map_append,BR,take_add_one,ZJ];rfl
      ·rcases mem_append.1 DU with h' | h'
       ·exact hpw p' h'
       ·rw[mem_singleton.1 h'];exact aeH
      ·have h2:=((h.aY 8 [2,4,3,0,6,7] rfl).Ev).aY 5 [1,2,0,3,4] rfl;simp only[flatMap_append,flatMap_cons,flatMap_nil,append_nil,reverse_append,reverse_cons,reverse_nil,nil_append,cons_append,map_cons];exact h2
     ·refine WL.c1 call125 rfl (l9 (by repeat (first | exact rP | apply Seq.up)) ay) rfl ?_;rintro _ _ ⟨A73,c73,rfl,rfl⟩;refine WL.nil (WA.t 9 rfl (V.build (vs:=[(0,_),(1,_)]) ⟨ak rfl,ak rfl,trivial⟩ rfl (Jf _ _ _ _)) ?_);refine WA.two (i:=1) (j:=10) gy (by kernel_rfl) rfl rfl ?_ ?_
      ·refine WL.val (V.load (v:= .slice A' i c') isAgg35 (ak rfl) (fun _=>nS)) rfl ?_;refine aj "bn:" ?_;refine WL.buildSlice (E:=118) (cs:=[_,_]) (vs:=[(0,_)]) ⟨ak rfl,trivial⟩ rfl (EN _ _) rfl (fun b75=> ?_);refine aj "bn;~~T" ?_;refine WL.append (m:=i) (q:=1) (news:=ldC (s.load,⟨A73,p.m,c73,p.l⟩)) underlying35 aau (ak rfl) (ak rfl) (Seq.all rfl) (by intro u hu;simp only[ldC,mem_cons,not_mem_nil,or_false] at hu;rcases hu with rfl | rfl<;>rfl) ay rfl rfl (fun A76 c76 ajb ajI=> ?_);refine aj "bS<n=~jbM6" ?_;refine⟨(i+1,A76,c76,ps++[(s.load,⟨A73,p.m,c73,p.l⟩)]),⟨by show i+1≤n;omega,by simp[nu], ?_,fun p' DU=> ?_,Vq⟩,(by show n-(i+1)<n-i;omega),.cons rfl bM,fun w h=> ?_⟩
       ·rw[map_append,BR,take_add_one,ZJ];rfl
       ·rcases mem_append.1 DU with h' | h'
        ·exact hpw p' h'
        ·rw[mem_singleton.1 h'];exact aeH
       ·have h2:=((h.aY 8 [2,4,3,0,6,7] rfl).Ev).aY 5 [1,2,0,3,4] rfl;simp only[flatMap_append,flatMap_cons,flatMap_nil,append_nil,reverse_append,reverse_cons,reverse_nil,nil_append,cons_append,map_cons];exact h2
      ·refine WL.buildSlice (E:=118) (cs:=[_,_]) (vs:=[(0,_)]) ⟨ak rfl,trivial⟩ rfl (EN _ _) rfl (fun b75=> ?_);refine aj "bn1" ?_;refine WL.val (V.load (v:= .slice A' i c') isAgg35 (ak rfl) (fun _=>nS)) rfl ?_;refine aj "bn;~~T" ?_;refine WL.append (m:=i) (q:=1) (news:=ldC (s.load,⟨A73,p.m,c73,p.l⟩)) underlying35 aau (ak rfl) (ak rfl) (Seq.all rfl) (by intro u hu;simp only[ldC,mem_cons,not_mem_nil,or_false] at hu;rcases hu with rfl | rfl<;>rfl) ay rfl rfl (fun A76 c76 ajb ajI=> ?_);refine aj "bS<n=~jbM6" ?_;refine⟨(i+1,A76,c76,ps++[(s.load,⟨A73,p.m,c73,p.l⟩)]),⟨by show i+1≤n;omega,by simp[nu], ?_,fun p' DU=> ?_,Vq⟩,(by show n-(i+1)<n-i;omega),.cons rfl bM,fun w h=> ?_⟩
       ·rw[map_append,BR,take_add_one,ZJ];rfl
       ·rcases mem_append.1 DU with h' | h'
        ·exact hpw p' h'
        ·rw[mem_singleton.1 h'];exact aeH
       ·have h2:=((h.aY 8 [2,4,3,0,6,7] rfl).Ev).aY 5 [1,2,0,3,4] rfl;simp only[flatMap_append,flatMap_cons,flatMap_nil,append_nil,reverse_append,reverse_cons,reverse_nil,nil_append,cons_append,map_cons];exact h2
   ·simp only[dh] at bB;have h2:=bB;refine aj "W" ?_;obtain rfl:i=n:=by omega
    rw[drop_of_length_le ay,Yd] at hq3;rw[←hq3,if_pos rfl] at hX;rw[take_of_length_le ay] at BR;refine aj "qG~Qd" ?_;exact aG.ret (H':=bN [bq (.slice A' i c') 118 2 i (ps.flatMap ldC),bN (ps.reverse.map clA)]::F) (FR rfl rfl ⟨isAgg37,sizeOf37⟩ rfl) (fun w h=>Sat.all (l:=[_,_]) (h.aY 5 [1,2] rfl)) ⟨A',c',ps,_,by rw[hX];show _=Value.tuple #[.agg #[_,_,_,.slice A' (Bf _ _).length c',_],_];rw[hlen],by rw[hX];exact BR.symm,fun H=>⟨by rw[nu];exact ze (.head _) (bq.seq (by rw[sH (s:=2) (f:=ldC) ps (fun x _=>rfl),nu])),fun p hp=>ze (.tail _ (.head _)) (ze (C:=clA p) (mem_map.2 ⟨p,mem_reverse.2 hp,rfl⟩) (bq.seq (by rw[au,hpw p hp,Nat.mul_one])))⟩,rfl⟩
end
theorem Ms{S:aD}(hg:S.g.aU)(T:St)(aV:Int):(eG S T aV).1.d.length≤1000000:=by
 have BX:=bL.tO hg;unfold eG;repeat (split;exact zero_le _)
 rename_i h1 _;show (List.take _ _).length≤_;rw[length_take];refine Nat.le_trans (Nat.min_le_left _ _) ?_;have h2:iX S.g (S.bX (T.ng aV) 0).d=0:=by
  rcases Decidable.em (iX S.g (S.bX (T.ng aV) 0).d=0) with h | h
  ·exact h
  ·exact absurd h h1
 unfold gT;cases hp:jA S.g (S.bX (T.ng aV) 0).d with
 | none =>
  rw[iX,hp] at h2;dsimp only at h2;split at h2<;>cases h2
 | some h =>
  have h3:=(uP hg hp).2.1;unfold Hd.may bL.fits at h3;simp only[Bool.and_eq_true,decide_eq_true_eq] at h3;show h.len.toNat≤_;omega
theorem U0{b:List Nat}{M:qE}(h:je b=some M):M.iI.length≤8:=by
 unfold je at h;split at h
 ·cases h
 ·unfold VF at h;split at h
  ·split at h
   ·rename_i h1;injection h with h
    subst h;unfold qE.ok at h1;simp only[Bool.and_eq_true,decide_eq_true_eq] at h1;exact h1.1.2
   ·cases h
  ·cases h
theorem Tt(r:List Ky)(aQ:Int)(b:List Nat):(iw r aQ b).1.iI.length≤8:=by
 unfold iw;split
 ·exact zero_le _
 split
 ·exact zero_le _
 cases hM:je (b.take (b.length-64)) with
 | none=>exact zero_le _
 | some M =>
  rw[Qt];repeat (split;exact zero_le _)
  exact U0 hM
def l8(S:aD)(slot:Int):Nat→Nat→St→List (List Nat)×Int×St
 | 0,_,T=>([],0,T)
 | n+1,i,T=>if (uF slot (i:Int)).2≠0 then ([],(uF slot (i:Int)).2,T) else
  if (eG S T (uF slot (i:Int)).1).1.err≠0 then ([],(eG S T (uF slot (i:Int)).1).1.err,(eG S T (uF slot (i:Int)).1).2) else
  ((eG S T (uF slot (i:Int)).1).1.d::(l8 S slot n (i+1) (eG S T (uF slot (i:Int)).1).2).1,(l8 S slot n (i+1) (eG S T (uF slot (i:Int)).1).2).2)
def VR(S:aD)(ring:List Ky)(aQ slot:Int)(G:aD.Got×St):La×Int×St :=
 if G.1.err≠0 then (.zero,G.1.err,G.2) else
 if (iw ring aQ G.1.d).2≠0 then (.zero,(iw ring aQ G.1.d).2,G.2) else
 if (l8 S slot (iw ring aQ G.1.d).1.iI.length 0 G.2).2.1≠0 then (.zero,(l8 S slot (iw ring aQ G.1.d).1.iI.length 0 G.2).2) else
 ({ (qU ring aQ G.1.d (l8 S slot (iw ring aQ G.1.d).1.iI.length 0 G.2).1).1 with slot:=slot },(qU ring aQ G.1.d (l8 S slot (iw ring aQ G.1.d).1.iI.length 0 G.2).1).2,(l8 S slot (iw ring aQ G.1.d).1.iI.length 0 G.2).2.2)
def kg(S:aD)(T:St)(ring:List Ky)(aQ slot:Int):La×Int×St:=VR S ring aQ slot (eG S T (uF slot (-1)).1)
def bsA(p:Bs):aA:=bq p.v 5 1 p.m (av .u8 p.l)
section
variable{bs bd bc:Nat}{g:bL}{T:cZ}{C:Cw}{K:World}{F:List aA}{A:Option Addr}{m c:Nat}{ring:List Ky}{aQ slot:Int}
theorem Za(hC:C.Ok)(hg:C.g=g)(hT:T.Ok g)(hr:Ring K F A m ring):aC prog 70 #[ptr bs 0,.slice A m c,.i aQ,.i slot] K (C.A bc::dH bd bc g::T.A bs bd g::F)
 (fun v H'=>∃(T':cZ) (A':Option Addr) (c':Nat) (ps:List (Int×Bs)) (E:aA),T'.Ok g∧T'.aF=(kg C.aF T.aF ring aQ slot).2.2∧v= .tuple #[.agg ((kg C.aF T.aF ring aQ slot).1.cells A' c' 0).toArray,.i (kg C.aF T.aF ring aQ slot).2.1] ∧
  (kg C.aF T.aF ring aQ slot).1.JZ=ps.map (fun p=>(p.1,p.2.l))∧(∀H,MU K (E::H) A' ps)∧H'=C.A bc::dH bd bc g::T'.A bs bd g::E::F):=by
 obtain⟨X,hX⟩:∃X,X=kg C.aF T.aF ring aQ slot:=⟨_,rfl⟩;obtain⟨G,hG⟩:∃G,G=(eG C.aF T.aF (uF slot (-1)).1):=⟨_,rfl⟩;have hz:∀(e:Int) (T':cZ),T'.Ok g→X=(.zero,e,T'.aF)→∃(T2:cZ) (A':Option Addr) (c':Nat) (ps:List (Int×Bs)) (E:aA),T2.Ok g∧T2.aF=X.2.2∧Value.tuple #[.agg (La.zero.cells none 0 0).toArray,.i e]= .tuple #[.agg (X.1.cells A' c' 0).toArray,.i X.2.1]∧X.1.JZ=ps.map (fun p:Int×Bs=>(p.1,p.2.l))∧(∀H,MU K (E::H) A' ps)∧C.A bc::dH bd bc g::T'.A bs bd g::bN []::F=C.A bc::dH bd bc g::T2.A bs bd g::E::F :=
  fun e T' WZ he=>⟨T',none,0,[],bN [],WZ,by rw[he],by rw[he],by rw[he];rfl,fun H=>⟨⟨rfl,fun i v hi=>by simp at hi⟩,fun p hp=>by cases hp⟩,rfl⟩
 have zX:C.aF.g.aU:=hC.aU;have pY:aB 256 G.1.d:=by rw[hG];exact hC.yJ _ _
 have hgl:G.1.d.length≤1000000:=by rw[hG];exact Ms zX _ _
 rw[←hX];unfold kg at hX;rw[←hG] at hX;obtain⟨h,hh⟩:∃h,h=iw ring aQ G.1.d:=⟨_,rfl⟩;unfold VR at hX;rw[←hh] at hX;refine aC.en func70 ntmps70 ?_;refine aj "aA" fun b8=> ?_;refine aj "j" ?_;refine WL.t2 call23 rfl rfl (xA slot (-1) _ _) rfl ?_;refine aj "C0~5" ?_;refine WL.c2 call26 rfl rfl (vN hC hg hT _) rfl ?_;rintro _ _ ⟨A1,c1,T1,lU,t1,rfl,rfl⟩;rw[←hG] at t1 ⊢;refine WL.nQ (fun w h=>bq.room h) (fun agi=> ?_);refine aj "!~Mmmfsk" (aX (fun aN=> ?_) fun aN=> ?_)
 ·simp only[oD] at aN;have h0:=aN;rw[if_pos h0] at hX;refine aj "a]cKd" ?_;exact aG.ret (H':=C.A bc::dH bd bc g::T1.A bs bd g::bN []::F) (FR rfl rfl ⟨isAgg37,sizeOf37⟩ rfl) (fun w h=>(Sat.all (l:=[]) (h.aY 5 [1,2,3] rfl)).aY 4 [1,2,3,0] rfl) (hz _ T1 lU (by rw[hX,t1]))
 ·simp only[oD] at aN;have h0:=aN;rw[if_neg (fun h=>h h0)] at hX;refine aj "Zz" ?_;refine WL.c3 call20 rfl rfl rfl (Jg (aQ:=aQ) (ring:=ring) (sd:=G.1.d) hr.up.up.up.up.up (bq.seq (by rw[au,Nat.mul_one])) pY hgl agi) rfl ?_;rintro _ _ ⟨As,ca,E1,rfl,hE,rfl⟩;rw[←hh] at hE ⊢;refine aj "!A" fun b15=> ?_;refine aj "Kfsk" (aX (fun aR=> ?_) fun aR=> ?_)
  ·simp only[oD] at aR;have h1:=aR;rw[if_pos h1] at hX;refine aj "a]cKd" ?_;exact aG.ret (H':=C.A bc::dH bd bc g::T1.A bs bd g::bN []::F) (FR rfl rfl ⟨isAgg37,sizeOf37⟩ rfl) (fun w h=>(Sat.all (l:=[]) (h.aY 7 [3,4,5] rfl)).aY 4 [1,2,3,0] rfl) (hz _ T1 lU (by rw[hX,t1]))
  ·simp only[oD] at aR;have h1:=aR;rw[if_neg (fun h=>h h1)] at hX;refine aj "iatapoP" ?_;obtain⟨n,hn⟩:∃n,n=h.1.iI.length:=⟨_,rfl⟩;rw[←hn] at hX ⊢;have hn8:n≤8:=by rw[hn,hh];exact Tt _ _ _
   obtain⟨Q0,hQ0⟩:∃Q0,Q0=l8 C.aF slot n 0 G.2:=⟨_,rfl⟩;rw[←hQ0] at hX;refine WC.loop (σ:=Nat×cZ×Option Addr×Nat×List Bs) (fun s=>[(0,ptr bs 0),(1,.slice A m c),(2,.i aQ),(3,.i slot),(8,ptr b8 0),(12,.slice A1 G.1.d.length c1),(16,.slice s.2.2.1 s.1 s.2.2.2.1),(52,.i (n:Int)),(53,.i (s.1:Int))])
    (fun s=>C.A bc::dH bd bc g::s.2.1.A bs bd g::bq (.slice s.2.2.1 s.1 s.2.2.2.1) 34 1 s.1 (s.2.2.2.2.map Bs.v)::bN (s.2.2.2.2.reverse.map bsA)::E1::bq (.slice A1 G.1.d.length c1) 5 1 G.1.d.length (av .u8 G.1.d)::ah b8 37 [.i 0,.i 0,.i 0,.slice none 0 0,.i 0]::F)
    (fun s=>s.1≤n∧s.2.1.Ok g∧s.2.2.2.2.length=s.1∧(∀p∈s.2.2.2.2,aB 256 p.l∧p.l.length=p.m∧p.m≤1000000)∧Q0=(s.2.2.2.2.map Bs.l++(l8 C.aF slot (n-s.1) s.1 s.2.1.aF).1,(l8 C.aF slot (n-s.1) s.1 s.2.1.aF).2)) (fun s=>n-s.1)
    (0,T1,none,0,[]) ⟨zero_le _,lU,rfl,fun p hp=>by (cases hp),by dsimp only;rw[hQ0,Nat.sub_zero,t1];rfl⟩ bM (fun w h=>((Sat.all (l:=[]) (h.aY 7 [3,4,5,1,2,6] rfl)).iG 34 1).aY 8 [2,3,4,0,1,5,6,7] rfl) ?_
   rintro⟨i,Tc,A16,c16,ds⟩ ⟨hi,hTc,uQ,hdo,S9⟩;dsimp only at hi hTc uQ hdo S9 ⊢;refine aj "UE" (aX (fun bB=> ?_) fun bB=> ?_)
   ·simp only[dh] at bB;have h2:=bB;rw[show n-i=n-(i+1)+1 by omega,l8] at S9;obtain⟨L,hL⟩:∃L,L=uF slot (i:Int):=⟨_,rfl⟩;rw[←hL] at S9;obtain⟨J,hJ⟩:∃J,J=eG C.aF Tc.aF L.1:=⟨_,rfl⟩;rw[←hJ] at S9;have hjm:aB 256 J.1.d:=by rw[hJ];exact hC.yJ _ _
    have zU:J.1.d.length≤1000000:=by rw[hJ];exact Ms zX _ _
    refine aj "10" ?_;refine WL.t2 call23 rfl rfl ((xA slot (i:Int) _ _).eq (v':= .tuple #[.i L.1,.i L.2]) (by rw[hL])) rfl ?_;refine aj "Cfsk" (aX (fun eF=> ?_) fun eF=> ?_)
    ·simp only[oD] at eF;have h3:=eF;rw[if_pos h3] at S9;rw[S9,if_pos h3] at hX;refine aj "a]c~Qd" ?_;exact aG.ret (H':=C.A bc::dH bd bc g::Tc.A bs bd g::bN []::F) (FR rfl rfl ⟨isAgg37,sizeOf37⟩ rfl) (fun w h=>(Sat.all (l:=[]) (h.aY 8 [0,1,2] rfl)).aY 4 [1,2,3,0] rfl) (hz _ Tc hTc hX)
    ·simp only[oD] at eF;have h3:=eF;rw[if_neg (fun h=>h h3)] at S9;refine aj "Zc" ?_;refine WL.c2 call26 rfl rfl (vN hC hg hTc _) rfl ?_;rintro _ _ ⟨A2,c2,T2,wP,t2,rfl,rfl⟩;rw[←hJ] at t2 ⊢;refine aj "!~Mmmfsk" (aX (fun mZ=> ?_) fun mZ=> ?_)
     ·simp only[oD] at mZ;have h4:=mZ;rw[if_pos h4] at S9;rw[S9,if_pos h4] at hX;refine aj "a]c~Qd" ?_;exact aG.ret (H':=C.A bc::dH bd bc g::T2.A bs bd g::bN []::F) (FR rfl rfl ⟨isAgg37,sizeOf37⟩ rfl) (fun w h=>(Sat.all (l:=[]) (h.aY 9 [1,2,3] rfl)).aY 4 [1,2,3,0] rfl) (hz _ T2 wP (by rw[hX,t2]))
     ·simp only[oD] at mZ;have h4:=mZ;rw[if_neg (fun h=>h h4)] at S9;refine aj "iQ" ?_;refine WL.buildSlice (E:=34) (cs:=[_]) (vs:=[(0,_)]) ⟨ak rfl,trivial⟩ rfl (XH _ _ _) rfl (fun b79=> ?_);refine aj "~~S" ?_;refine WL.append (m:=i) (q:=1) (news:=[Bs.v ⟨A2,J.1.d.length,c2,J.1.d⟩]) underlying47 amD (ak rfl) (ak rfl) (Seq.all rfl) (by intro u hu;rw[mem_singleton.1 hu];rfl) ay rfl rfl (fun A80 c80 aqJ arL=> ?_);refine aj "g6" ?_;refine⟨(i+1,T2,A80,c80,ds++[⟨A2,J.1.d.length,c2,J.1.d⟩]),⟨by show i+1≤n;omega,wP,by simp[uQ],fun p' DU=> ?_, ?_⟩,(by show n-(i+1)<n-i;omega),.cons rfl bM,fun w h=> ?_⟩
      ·rcases mem_append.1 DU with h' | h'
       ·exact hdo p' h'
       ·rw[mem_singleton.1 h'];exact⟨hjm,rfl,zU⟩
      ·dsimp only;rw[S9,t2];simp
      ·have h2:=((h.aY 10 [2,6,3,4,5,0,7,8,9] rfl).Ev).aY 8 [1,2,3,4,0,5,6,7] rfl;simp only[map_append,map_cons,map_nil,reverse_append,reverse_cons,reverse_nil,nil_append,cons_append];exact h2
   ·simp only[dh] at bB;have h2:=bB;refine aj "W" ?_;obtain rfl:i=n:=by omega
    rw[Nat.sub_self,l8,append_nil] at S9;rw[S9,if_neg (fun h=>h rfl)] at hX;obtain⟨Y,hY⟩:∃Y,Y=qU ring aQ G.1.d (ds.map Bs.l):=⟨_,rfl⟩;rw[←hY] at hX;refine aj "hzc" ?_;refine WL.c4 call105 rfl rfl rfl rfl (QA (aQ:=aQ) (ring:=ring) (sd:=G.1.d) (ds:=ds) hr.up.up.up.up.up.up.up.up (bq.seq (by rw[au,Nat.mul_one])).up.up.up.up.up.up pY hgl agi ⟨(bq.seq (by rw[length_map,uQ,Nat.mul_one])).up.up.up,fun p hp=>⟨(ze (C:=bsA p) (mem_map.2 ⟨p,mem_reverse.2 hp,rfl⟩) (bq.seq (by rw[au,(hdo p hp).2.1,Nat.mul_one]))).up.up.up.up,(hdo p hp).1,(hdo p hp).2.2⟩⟩ ay) rfl ?_;rintro _ _ ⟨A',c',ps,E2,rfl,nu,hE2,rfl⟩;rw[←hY] at nu ⊢;refine aj "!A" fun b22=> ?_;refine aj "Kj7~?TGc~Qd" ?_;exact aG.ret (H':=C.A bc::dH bd bc g::Tc.A bs bd g::E2::F) (FR rfl rfl ⟨isAgg37,sizeOf37⟩ rfl) (fun w h=>h.aY 10 [2,3,4,1] rfl) ⟨Tc,A',c',ps,E2,hTc,by rw[hX],by rw[hX],by rw[hX];exact nu,hE2,rfl⟩
end
theorem agB(s t:bP):iA prog 10000 58 (.agg #[.i s.f,.i s.t0,.bool s.g0,.i s.t1,.bool s.g1]) (.agg #[.i t.f,.i t.t0,.bool t.g0,.i t.t1,.bool t.g1]) (decide (s=t)):=fun w=>by
 rw[aja _ _ _ _ _ _ _ _ _ _ w];congr 1;rw[Bool.eq_iff_iff];obtain⟨a,b,c,d,e⟩:=s;obtain⟨a',b',c',d',e'⟩:=t;simp[bP.mk.injEq,and_assoc]
abbrev Ran:=(La×Int)×aD×St
def goB(ring:List Ky)(aQ slot:Int)(next:bP→aD→St→Ran)(x:bP)(S:aD)(T:St):Ran :=
 if (kg S T ring aQ slot).2.1=0 then (((kg S T ring aQ slot).1,0),S,(kg S T ring aQ slot).2.2) else
 if (kg S T ring aQ slot).2.1=70 then ((.zero,70),S,(kg S T ring aQ slot).2.2) else next x S (kg S T ring aQ slot).2.2
def KQ(ring:List Ky)(aQ:Int):List Int→bP→aD→St→Ran
 | [],x,S,T=>((.zero,240),S,T)
 | slot::l,x,S,T=>if (x.lN slot).1≠x then
  if (bg S T 0 (dF (x.lN slot).1)).2.2≠0 then ((.zero,(bg S T 0 (dF (x.lN slot).1)).2.2),(bg S T 0 (dF (x.lN slot).1)).1,(bg S T 0 (dF (x.lN slot).1)).2.1) else
  goB ring aQ slot (KQ ring aQ l) (x.lN slot).1 (bg S T 0 (dF (x.lN slot).1)).1 (bg S T 0 (dF (x.lN slot).1)).2.1
  else goB ring aQ slot (KQ ring aQ l) x S T
def xU(S:aD)(T:St)(ring:List Ky)(aQ:Int):Ran :=
 if (ni S T).2.1≠0 then ((.zero,(ni S T).2.1),S,(ni S T).2.2) else KQ ring aQ (ni S T).1.order (ni S T).1 S (ni S T).2.2
def akv(T:St):Prop:=∀l∈T.dN,l.length≤1000000
def AO(ring:List Ky)(aQ:Int):List Int→bP→aD→St→Prop
 | [],_,_,_=>True
 | slot::l,x,S,T=>((x.lN slot).1≠x→akv T∧((bg S T 0 (dF (x.lN slot).1)).2.2=0→AO ring aQ l (x.lN slot).1 (bg S T 0 (dF (x.lN slot).1)).1 (kg (bg S T 0 (dF (x.lN slot).1)).1 (bg S T 0 (dF (x.lN slot).1)).2.1 ring aQ slot).2.2)) ∧
  ((x.lN slot).1=x→AO ring aQ l x S (kg S T ring aQ slot).2.2)
theorem aaf{x:bP}(h:x.ok=true)(slot:Int):(x.lN slot).1.ok=true:=by
 have h1:=bP.ou h;unfold bP.lN;split
 ·rfl
 ·rename_i h2;obtain⟨_,hs⟩:=bP.UO (Decidable.not_not.1 h2);split
  ·rename_i h3;rcases hs with rfl | rfl
   all_goals
    simp only[bP.may,bP.g,bP.t,bP.put,if_pos,if_neg,Bool.or_eq_true,decide_eq_true_eq,Int.one_ne_zero,if_false] at h3 ⊢;simp only[bP.ok,Bool.and_eq_true,Bool.or_eq_true,decide_eq_true_eq];split<;>simp_all<;>omega
  ·rfl
section
variable{bs bd bc:Nat}{g:bL}{T:cZ}{C:Cw}{K:World}{F:List aA}{A:Option Addr}{m c:Nat}{ring:List Ky}{aQ:Int}
theorem LZ(hC:C.Ok)(hg:C.g=g)(hT:T.Ok g)(hl:11≤(T.stands.length:Int))(hr:Ring K F A m ring)(uR:(ni C.aF T.aF).2.1=0→AO ring aQ (ni C.aF T.aF).1.order (ni C.aF T.aF).1 C.aF (ni C.aF T.aF).2.2) :
 aC prog 17 #[ptr bs 0,.slice A m c,.i aQ] K (C.A bc::dH bd bc g::T.A bs bd g::F)
 (fun v H'=>∃(C':Cw) (T':cZ) (A':Option Addr) (c':Nat) (ps:List (Int×Bs)) (E:aA),C'.Ok∧C'.g=g∧T'.Ok g∧C'.aF=(xU C.aF T.aF ring aQ).2.1∧T'.aF=(xU C.aF T.aF ring aQ).2.2∧v= .agg ((xU C.aF T.aF ring aQ).1.1.cells A' c' (xU C.aF T.aF ring aQ).1.2).toArray ∧
  (xU C.aF T.aF ring aQ).1.1.JZ=ps.map (fun p=>(p.1,p.2.l))∧(∀H,MU K (E::H) A' ps)∧H'=C'.A bc::dH bd bc g::T'.A bs bd g::E::F):=by
 obtain⟨X,hX⟩:∃X,X=xU C.aF T.aF ring aQ:=⟨_,rfl⟩;obtain⟨G,hG⟩:∃G,G=ni C.aF T.aF:=⟨_,rfl⟩;have hz:∀(e:Int) (C':Cw) (T':cZ),C'.Ok→C'.g=g→T'.Ok g→X=((.zero,e),C'.aF,T'.aF)→∃(C2:Cw) (T2:cZ) (A':Option Addr) (c':Nat) (ps:List (Int×Bs)) (E:aA),C2.Ok∧C2.g=g∧T2.Ok g∧C2.aF=X.2.1∧T2.aF=X.2.2∧Value.agg (La.zero.cells none 0 e).toArray= .agg (X.1.1.cells A' c' X.1.2).toArray∧X.1.1.JZ=ps.map (fun p:Int×Bs=>(p.1,p.2.l))∧(∀H,MU K (E::H) A' ps)∧C'.A bc::dH bd bc g::T'.A bs bd g::bN []::F=C2.A bc::dH bd bc g::T2.A bs bd g::E::F :=
  fun e C' T' hC' MW WZ he=>⟨C',T',none,0,[],bN [],hC',MW,WZ,by rw[he],by rw[he],by rw[he],by rw[he];rfl,fun H=>⟨⟨rfl,fun i v hi=>by simp at hi⟩,fun p hp=>by cases hp⟩,rfl⟩
 have Hu:G.1.ok=true:=by rw[hG];exact ab0 _ _
 rw[←hX];unfold xU at hX;rw[←hG] at hX uR;refine aC.en func17 ntmps17 ?_;refine aj "aA" fun b6=> ?_;refine WL.nil ?_;refine WC.scope (fun _ _ _ _ h=>h) ?_;refine aj "e~5" ?_;refine WL.c1 call24 rfl (qW hC hg hT hl) rfl ?_;rintro _ _ ⟨T1,lU,t1,rfl,rfl⟩;rw[←hG] at t1 ⊢;refine aj "!A" fun b7=> ?_;refine aj "Kfsk" (aX (fun aN=> ?_) fun aN=> ?_)
 ·simp only[lX] at aN;have h0:=aN;rw[if_pos h0] at hX;refine aj "e" ?_;refine WL.val (V.build (vs:=[(4,_)]) ⟨ak rfl,trivial⟩ rfl (uX _)) rfl (aj "K3" ?_);exact aG.ret (H':=C.A bc::dH bd bc g::T1.A bs bd g::bN []::F) (bI.one rfl (R1.nG (vs:=[_,_,_,_,_]) rfl ⟨isAgg37,sizeOf37⟩ rfl Bn)) (fun w h=>(Sat.all (l:=[]) (h.aY 5 [1,2,3] rfl)).aY 4 [1,2,3,0] rfl) (hz _ C T1 hC hg lU (by rw[hX,t1]))
 ·simp only[lX] at aN;have h0:=aN;rw[if_neg (fun h=>h h0)] at hX;refine aj "iaG" ?_;refine WL.c1 call67 rfl (Fy G.1 _ _) rfl ?_;rintro _ _ ⟨A9,c9,rfl,rfl⟩;obtain⟨od,hod⟩:∃od,od=G.1.order:=⟨_,rfl⟩;rw[←hod] at hX uR ⊢;have J2:od.length≤2:=by
   rw[hod];unfold bP.order;rw[if_pos Hu];exact length_filter_le _ _
  refine aj "Ct" ?_;refine WC.label (aj "roP" ?_);refine WC.loop (σ:=Nat×bP×Cw×cZ) (fun s=>[(0,ptr bs 0),(1,.slice A m c),(2,.i aQ),(6,ptr b6 0),(7,ptr b7 0),(32,.slice A9 od.length c9),(33,.i (od.length:Int)),(34,.i (s.1:Int))])
   (fun s=>s.2.2.1.A bc::dH bd bc g::s.2.2.2.A bs bd g::ah b7 58 [.i s.2.1.f,.i s.2.1.t0,.bool s.2.1.g0,.i s.2.1.t1,.bool s.2.1.g1]::bq (.slice A9 od.length c9) 3 1 od.length (ints .i64 od)::ah b6 37 [.i 0,.i 0,.i 0,.slice none 0 0,.i 0]::F)
   (fun s=>s.1≤od.length∧s.2.1.ok=true∧s.2.2.1.Ok∧s.2.2.1.g=g∧s.2.2.2.Ok g∧X=KQ ring aQ (od.drop s.1) s.2.1 s.2.2.1.aF s.2.2.2.aF∧AO ring aQ (od.drop s.1) s.2.1 s.2.2.1.aF s.2.2.2.aF) (fun s=>od.length-s.1)
   (0,G.1,C,T1) ⟨zero_le _,Hu,hC,hg,lU,by dsimp only;rw[t1];exact hX,by dsimp only;rw[t1];exact uR h0⟩ bM (fun w h=>h.aY 6 [2,3,4,1,0,5] rfl) ?_
  rintro⟨i,x,C1,T2⟩ ⟨hi,hx,Me,Ki,wP,Jo,ZJ⟩;dsimp only at hi hx Me Ki wP Jo ZJ ⊢;refine aj "UE" (aX (fun aR=> ?_) fun aR=> ?_)
  ·simp only[dh] at aR;have h1:=aR;obtain⟨sl,rQ⟩:∃sl,od[i]? =some sl:=⟨_,getElem?_eq_getElem ay⟩;have aj5:od.drop i=sl::od.drop (i+1):=(List.getElem?_eq_some_iff.1 rQ).2 ▸ drop_eq_getElem_cons _;rw[aj5,KQ] at Jo;rw[aj5,AO] at ZJ;have MQ:=aaf hx sl;obtain⟨t,ht⟩:∃t,t=(x.lN sl).1:=⟨_,rfl⟩;rw[←ht] at Jo ZJ MQ;have lJ:∀ {H:List aA},Rd K (bq (.slice A9 od.length c9) 3 1 od.length (ints .i64 od)::H) (A9.map (·.add ((i:Int).toNat*1))) (.i sl):=fun {H}=>by
    rw[Int.toNat_natCast,Nat.mul_one];exact (bq.seq (by rw[bY,Nat.mul_one])).rd i _ (by unfold ints;rw[getElem?_map,rQ];rfl)
   refine aj "Ha" ?_;refine WL.val (V.eD fZ (ak rfl) (ak rfl) (fun _=>by omega) (fun _=>lJ.up.up.up.up)) rfl ?_;refine WL.val (V.load isAgg3 (ak rfl) (fun _=>lJ.up.up.up.up)) rfl ?_;refine aj "xGc" ?_;refine WL.t2 call68 rfl rfl ((X0 x sl _ _).eq (v':= .tuple #[t.v,.i (x.lN sl).2]) (by rw[ht])) rfl ?_;refine aj "!A" fun b13=> ?_;refine aj "Kg" ?_;refine WC.join (σ:=bP×Cw×cZ) (fun s=>[(0,ptr bs 0),(1,.slice A m c),(2,.i aQ),(6,ptr b6 0),(7,ptr b7 0),(12,.i sl),(32,.slice A9 od.length c9),(33,.i (od.length:Int)),(34,.i (i:Int))])
    (fun s=>s.2.1.A bc::dH bd bc g::s.2.2.A bs bd g::ah b7 58 [.i s.1.f,.i s.1.t0,.bool s.1.g0,.i s.1.t1,.bool s.1.g1]::bq (.slice A9 od.length c9) 3 1 od.length (ints .i64 od)::ah b6 37 [.i 0,.i 0,.i 0,.slice none 0 0,.i 0]::F)
    (fun s=>s.1.ok=true∧s.2.1.Ok∧s.2.1.g=g∧s.2.2.Ok g∧X=goB ring aQ sl (KQ ring aQ (od.drop (i+1))) s.1 s.2.1.aF s.2.2.aF∧AO ring aQ (od.drop (i+1)) s.1 s.2.1.aF (kg s.2.1.aF s.2.2.aF ring aQ sl).2.2) ?_ ?_
   ·skip
    refine aj "aGG" ?_;refine WL.val (V.TR (by kernel_rfl) (ak rfl) (ak rfl) (agB t x)) rfl ?_;refine aj "k" (aX (fun bB=> ?_) fun bB=> ?_)
    ·have h2:=bB;have O9:t≠x:=by simpa using h2
     rw[if_pos O9] at Jo;obtain⟨hlT,hlk⟩:=ZJ.1 O9;refine aj "rG~5" ?_;refine WL.c2 call69 rfl rfl (Le Me Ki wP MQ hlT) rfl ?_;rintro _ _ ⟨C2,T3,AQ,Vu,uS,c2,t3,rfl,rfl⟩;obtain⟨k,hk⟩:∃k,k=bg C1.aF T2.aF 0 (dF t):=⟨_,rfl⟩;rw[←hk] at c2 t3 Jo hlk ⊢;refine aj "jsk" (aX (fun eF=> ?_) fun eF=> ?_)
     ·simp only[lX] at eF;have h3:=eF;rw[if_pos h3] at Jo;refine aj "e" ?_;refine WL.val (V.build (vs:=[(4,_)]) ⟨ak rfl,trivial⟩ rfl (uX _)) rfl (aj "~Q3" ?_);exact aG.ret (H':=C2.A bc::dH bd bc g::T3.A bs bd g::bN []::F) (bI.one rfl (R1.nG (vs:=[_,_,_,_,_]) rfl ⟨isAgg37,sizeOf37⟩ rfl Bn)) (fun w h=>(Sat.all (l:=[]) (h.aY 7 [0,1,2] rfl)).aY 4 [1,2,3,0] rfl) (hz _ C2 T3 AQ Vu uS (by rw[Jo,c2,t3]))
     ·simp only[lX] at eF;have h3:=eF;rw[if_neg (fun h=>h h3)] at Jo;refine aj "iqG~Qb~O" ?_;first
       | exact⟨(t,C2,T3),⟨MQ,AQ,Vu,uS,by dsimp only;rw[Jo,c2,t3],by dsimp only;rw[c2,t3];exact hlk h3⟩,.cons rfl (.cons rfl (.cons rfl (.cons rfl (.cons rfl (.cons rfl (.cons rfl (.cons rfl (.cons rfl (.nil _))))))))),fun w h=>h.aY 7 [0,1,2,4,5,6] rfl⟩
       | exact⟨(x,C1,T2),⟨hx,Me,Ki,wP,Jo,hlk⟩,.cons rfl (.cons rfl (.cons rfl (.cons rfl (.cons rfl (.cons rfl (.cons rfl (.cons rfl (.cons rfl (.nil _))))))))),fun w h=>h.tail⟩
    ·have h2:=bB;have O9:t=x:=by simpa using h2
     rw[if_neg (fun h=>h O9)] at Jo;have hlk:=ZJ.2 O9;refine aj "i~O" ?_;first
      | exact⟨(t,C2,T3),⟨MQ,AQ,Vu,uS,by dsimp only;rw[Jo,c2,t3],by dsimp only;rw[c2,t3];exact hlk h3⟩,.cons rfl (.cons rfl (.cons rfl (.cons rfl (.cons rfl (.cons rfl (.cons rfl (.cons rfl (.cons rfl (.nil _))))))))),fun w h=>h.aY 7 [0,1,2,4,5,6] rfl⟩
      | exact⟨(x,C1,T2),⟨hx,Me,Ki,wP,Jo,hlk⟩,.cons rfl (.cons rfl (.cons rfl (.cons rfl (.cons rfl (.cons rfl (.cons rfl (.cons rfl (.cons rfl (.nil _))))))))),fun w h=>h.tail⟩
   ·skip
    rintro⟨y,C3,T4⟩ ⟨hy,Tv,hg3,hT4,XO,hl3⟩;dsimp only at hy Tv hg3 hT4 XO hl3 ⊢;obtain⟨L,hL⟩:∃L,L=kg C3.aF T4.aF ring aQ sl:=⟨_,rfl⟩;unfold goB at XO;rw[←hL] at XO hl3;refine aj "ezc" ?_;refine WL.c4 call70 rfl rfl rfl rfl (Za (slot:=sl) (aQ:=aQ) (ring:=ring) Tv hg3 hT4 hr.up.up.up) rfl ?_;rw[←hL];rintro _ _ ⟨T5,A5,c5,ps,E,hT5,t5,rfl,nu,hE,rfl⟩;refine aj "!A" fun b16=> ?_;refine aj "Kjbua%gE" (aX (fun mZ=> ?_) fun mZ=> ?_)
    ·simp only[lX] at mZ;have h4:=mZ;rw[if_pos h4] at XO;refine aj "aG~Q3" ?_;exact aG.ret (H':=C3.A bc::dH bd bc g::T5.A bs bd g::E::F) (bI.one rfl (R1.nG (vs:=[_,_,_,_,_]) rfl ⟨isAgg37,sizeOf37⟩ rfl Bn)) (fun w h=>h.aY 8 [1,2,3,4] rfl) ⟨C3,T5,A5,c5,ps,E,Tv,hg3,hT5,by rw[XO],by rw[XO];exact t5,by rw[XO],by rw[XO];exact nu,hE,rfl⟩
    ·simp only[lX] at mZ;have h4:=mZ;rw[if_neg h4] at XO;refine aj "a%gE" (aX (fun uf=> ?_) fun uf=> ?_)
     ·simp only[lX] at uf;have h5:=uf;rw[if_pos h5] at XO;refine aj "e" ?_;refine WL.val (V.build (vs:=[(4,_)]) ⟨ak rfl,trivial⟩ rfl (uX _)) rfl (aj "~Q3" ?_);exact aG.ret (H':=C3.A bc::dH bd bc g::T5.A bs bd g::bN []::F) (bI.one rfl (R1.nG (vs:=[_,_,_,_,_]) rfl ⟨isAgg37,sizeOf37⟩ rfl Bn)) (fun w h=>(Sat.all (l:=[]) (h.aY 8 [1,2,3] rfl)).aY 4 [1,2,3,0] rfl) (hz _ C3 T5 Tv hg3 hT5 (by rw[XO,t5,h5]))
     ·simp only[lX] at uf;have h5:=uf;rw[if_neg h5] at XO;refine aj "R6" ?_;exact⟨(i+1,y,C3,T5),⟨by show i+1≤od.length;omega,hy,Tv,hg3,hT5,by dsimp only;rw[XO,t5],by dsimp only;rw[t5];exact hl3⟩,(by show od.length-(i+1)<od.length-i;omega),.cons rfl bM,fun w h=>h.aY 8 [1,2,3,5,6,7] rfl⟩
  ·simp only[dh] at aR;have h1:=aR;refine aj "W" ?_;rw[drop_of_length_le ay,KQ] at Jo;refine WC.region (WL.val (V.build (vs:=[(4,_)]) ⟨ak rfl,trivial⟩ rfl (uX _)) rfl (aj "~Q3" ?_));exact aG.ret (H':=C1.A bc::dH bd bc g::T2.A bs bd g::bN []::F) (bI.one rfl (R1.nG (vs:=[_,_,_,_,_]) rfl ⟨isAgg37,sizeOf37⟩ rfl Bn)) (fun w h=>(Sat.all (l:=[]) (h.aY 6 [0,1,2] rfl)).aY 4 [1,2,3,0] rfl) (hz _ C1 T2 Me Ki wP Jo)
end
namespace aD
theorem acr(S:aD)(f:aD→aD)(hf:∀T,(f T).aQ=T.aQ):(S.all f).1.aQ=S.aQ:=by
 unfold all;dsimp only;split
 ·rw[hf];rfl
 ·rfl
theorem Yy(S:aD)(b:Int):(S.mark b).1.aQ=S.aQ:=by grind [mark,acr]
theorem Nj(S:aD)(b p:Int)(xs:List Int):(S.program b p xs).1.aQ=S.aQ:=by unfold program;repeat (first | rfl | split)
theorem Uq(S:aD)(b:Int):(S.erase b).1.aQ=S.aQ:=by unfold erase;repeat (first | rfl | split)
theorem Mi(b:Int)(x:aD×Int):(done b x).1.aQ=x.1.aQ:=by
 unfold done;split
 ·rfl
 ·split<;>exact Yy _ _
theorem Rt(S:aD)(b p:Int)(d:List Nat):(S.dL b p d).1.aQ=S.aQ:=by grind [dL,Mi,Nj]
theorem Rq(S:aD)(b:Int):(S.cK b).1.aQ=S.aQ:=by grind [cK,Mi,Uq]
end aD
theorem R8(S:aD)(num b aV:Int)(d:List Nat):(dK S num b aV d).1.aQ=S.aQ:=by
 have h0:=aD.Rq S b;have key:∀(S:aD) (pg:Nat→List Nat) k,(gq S b pg k).1.aQ=S.aQ:=fun S pg k=>by
  induction k with
  | zero=>rfl
  | succ k ih =>
   rw[gq];split
   ·exact ih
   ·rw[aD.Rt,ih]
 unfold dK;split
 ·exact h0
 ·rw[key,h0]
theorem Ls(aV:Int)(d:List Nat)(S:aD)(T:St)(b:Int):(D6 aV d S T b).1.aQ=S.aQ:=by grind [D6,R8]
theorem LQ(aV:Int)(d:List Nat):∀(l:List Int) (S:aD) (T:St),(jD aV d l S T).1.aQ=S.aQ
 | [],_,_=>rfl
 | b::l,S,T=>by
  rw[jD];split
  ·rw[LQ aV d l,Ls]
  ·exact Ls _ _ _ _ _
theorem CQ(S:aD)(T:St)(aV:Int)(d:List Nat):(bg S T aV d).1.aQ=S.aQ:=by
 unfold bg;repeat (split;rfl)
 have h:=LQ aV d (ko S.iF T.stands T.at_ S.g.bl S.g.bl.toNat 0) S T;split
 ·rename_i h1;rw[h1] at h;exact h
 ·rename_i h1;rw[h1] at h;exact h
theorem Q6{s:bP}(h:s.ok=true):bP.parse (bF (dF s))=(s,0):=by
 have e:bF (dF s)=s.bytes:=by
  unfold dF bF gX;rw[map_map]
  conv=>rhs;rw[←map_id s.bytes]
  apply map_congr_left;intro x hx;have :=bP.qO h x hx;show ((x.toNat:Nat):Int)=x;omega
 rw[e];have hof:bP.of s.bytes=s:=by
  obtain⟨f,t0,g0,t1,g1⟩:=s;unfold bP.bytes;rw[if_pos h];cases g0<;>cases g1<;>rfl
 unfold bP.parse bP.iF;rw[hof,if_pos (by simp[bP.kQ h,h])]
def stM(m:Lm):bP:=match m 0 with | some d=>if (bP.parse (bF d)).2=0 then (bP.parse (bF d)).1 else .zero | none=> .zero
theorem adZ{m:Lm}{x:bP}(h:x.ok=true):stM (m.put 0 (some (dF x)))=x:=by simp_all [stM,Lm.put,if_pos,Q6]
theorem Bh(m:Lm):(stM m).ok=true:=by
 unfold stM;split
 ·split
  ·rename_i d _ h2;unfold bP.parse at h2 ⊢;split at h2
   ·rename_i h3;rw[if_pos h3];unfold bP.iF at h3;simp only[Bool.and_eq_true] at h3;exact h3.1.2
   ·cases h2
  ·rfl
 ·rfl
section
variable{aJ L B:Nat}{N:Int}{S:aD}{T:St}{m:Lm}{ring:List Ky}{aQ:Int}
theorem pJ.Ml(h:pJ aJ L B N S T m){i:Nat}(hi:i<aJ):(eG S T (i:Int)).2=T:=by
 obtain⟨st,hI⟩:=h.si;cases hm:m i with
 | none=>rw[(hI.EO hi hm).1]
 | some v=>obtain⟨⟨N,_,h2⟩,_⟩:=hI.ER h.up hi hm;rw[h2]
theorem pJ.ni(h:pJ aJ L B N S T m)(hl:0<aJ):ni S T=(stM m,0,T):=by
 obtain⟨st,hI⟩:=h.si;unfold Go.Proofs.YtcedojacbhnbiaaGreat.ni stM;cases hm:m 0 with
 | none =>
  have h1:=(hI.EO hl hm).1;rw[show ((0:Nat):Int)=0 from rfl] at h1;rw[h1,if_neg (show ¬(5:Int)=70 by decide),if_neg (fun h=>absurd h.1 (show ¬(5:Int)=0 by decide))]
 | some v =>
  obtain⟨⟨N,_,h2⟩,_⟩:=hI.ER h.up hl hm;rw[show ((0:Nat):Int)=0 from rfl] at h2;rw[h2,if_neg (show ¬(0:Int)=70 by decide)];dsimp only;by_cases hp:(bP.parse (bF v)).2=0
  ·rw[if_pos ⟨rfl,hp⟩,if_pos hp]
  ·rw[if_neg (fun h=>hp h.2),if_neg hp]
theorem Vz{slot seg:Int}(h:(uF slot seg).2=0):∃i:Nat,i<11∧(uF slot seg).1=(i:Int):=by
 unfold uF at h ⊢;split at h
 ·rename_i hk;rw[if_pos hk];unfold abj at hk;simp only[Bool.or_eq_true,Bool.and_eq_true,decide_eq_true_eq] at hk;exact⟨(2+5*slot+seg).toNat,by omega,by show (2+5*slot+seg)=_;omega⟩
 ·cases h
theorem pJ.reads(h:pJ 11 L B N S T m)(slot:Int):∀n i,(l8 S slot n i T).2.2=T
 | 0,_=>rfl
 | n+1,i=>by
  rw[l8];split
  ·rfl
  ·rename_i h1;obtain⟨j,hj,hje⟩:=Vz (Decidable.not_not.1 h1);have h2:=h.Ml hj;rw[hje];split
   ·exact h2
   ·show (l8 S slot n (i+1) _).2.2=T;rw[h2];exact h.reads slot n (i+1)
theorem pJ.load(h:pJ 11 L B N S T m){slot:Int}(hs:slot=0∨slot=1):(kg S T ring aQ slot).2.2=T:=by
 have h0:(uF slot (-1)).2=0:=by rcases hs with rfl | rfl<;>rfl
 obtain⟨j,hj,hje⟩:=Vz h0;have h2:=h.Ml hj;unfold kg VR;rw[hje];split
 ·exact h2
 split
 ·exact h2
 rw[h2];split
 ·exact h.reads _ _ _
 ·exact h.reads _ _ _
end
theorem acf{S:aD}{T:St}{ring:List Ky}{aQ slot:Int}(h:(kg S T ring aQ slot).2.1=0):(kg S T ring aQ slot).1.slot=slot∧aQ≤(kg S T ring aQ slot).1.sec:=by
 unfold kg at h ⊢;obtain⟨G,hG⟩:∃G,G=eG S T (uF slot (-1)).1:=⟨_,rfl⟩;rw[←hG] at h ⊢;unfold VR at h ⊢;split at h
 ·rename_i h1;exact absurd h h1
 rename_i h1;rw[if_neg h1];split at h
 ·rename_i h2;exact absurd h h2
 rename_i h2;rw[if_neg h2];split at h
 ·rename_i h3;exact absurd h h3
 rename_i h3;rw[if_neg h3];refine⟨rfl, ?_⟩;have hs:=Ym (Decidable.not_not.1 h2);show aQ≤(qU ring aQ G.1.d _).1.sec;dsimp only at h;unfold qU at h ⊢;rw[if_neg h2] at h ⊢;split at h
 ·cases h
 rename_i h4;rw[if_neg h4];split at h
 ·rename_i h5;rw[if_pos h5];exact hs
 ·cases h
end Go.Proofs.YtcedojacbhnbiaaGreat
